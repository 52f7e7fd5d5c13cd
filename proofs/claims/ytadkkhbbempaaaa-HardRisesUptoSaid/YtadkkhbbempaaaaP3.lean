/- Texts drawn together (13 of them): words, plain laws and walks that the row leans on. -/
import Derived.Test.YtadkkhbbempaaaaP2
import Derived.Test.YtadkkhbbempaaaaP1
import Derived.Lib.SmallJoins
import Derived.Deep.QuietTactic
import Derived.BigQuiet
import Derived.Deep.Draws
import Derived.Shelf.Strconv.Itoa0
import Derived.Test.YtadkkhbbempaaaaProg
/- Records of what lasts: plain, and in memory. -/
namespace Go.Proofs.Ytadkkhbbempaaaa
set_option maxRecDepth 100000
open Go.RowKit

/-! ### Plain -/
structure Rc where
  k : Int
  v : Int
  bt : Int
  tm : Int
  ix : Int
  en : En
  sh : Sh
def en0 : En := ⟨0, 0, 0, 0, [], 0, 0, 0, 0⟩
def sh0 : Sh := ⟨0, 0, [], 0, 0, [], []⟩
def rc0 : Rc := ⟨0, 0, 0, 0, 0, en0, sh0⟩
/-- With its kind's fields alone. -/
def Rc.only (r : Rc) : Rc := ⟨r.k, if r.k = 2 then r.v else 0, if r.k = 1 then r.bt else 0, if r.k = 2 then r.tm else 0, if r.k = 3 ∨ r.k = 4 then r.ix else 0, if r.k = 3 then r.en else en0, if r.k = 5 then r.sh else sh0⟩
/-- What its kind asks. -/
def Rc.kind (r : Rc) : Prop := (r.k = 1 ∧ 1 ≤ r.bt) ∨ (r.k = 2 ∧ 1 ≤ r.tm ∧ 0 ≤ r.v ∧ r.v ≤ 7) ∨ (r.k = 3 ∧ 1 ≤ r.ix ∧ 1 ≤ r.en.tm ∧ r.en.ok = true) ∨ (r.k = 4 ∧ 1 ≤ r.ix) ∨ (r.k = 5 ∧ r.sh.Ok)
/-- It may be. -/
def Rc.May (r : Rc) : Prop := r.only = r ∧ r.kind
noncomputable instance (r : Rc) : Decidable r.May := Classical.propDecidable _
structure Rc.Wf (r : Rc) : Prop where
  k : (Lit.int .i64 r.k).wf = true
  v : (Lit.int .i64 r.v).wf = true
  bt : 0 ≤ r.bt ∧ r.bt < 18446744073709551616
  tm : 0 ≤ r.tm ∧ r.tm < 18446744073709551616
  ix : 0 ≤ r.ix ∧ r.ix < 18446744073709551616
  en : r.en.Wf
  sh : r.sh.Wf

/-! ### In memory -/
/-- Where a record's slices stand. -/
structure Ra where
  A : Option Addr
  c : Nat
  s : Sa
structure InR (w : World) (r : Rc) (a : Ra) : Prop where
  l : InN .i64 w a.A a.c r.en.l
  sh : InSh w r.sh a.s
theorem InR.keep {w w1 : World} {r : Rc} {a : Ra} (k : InR w r a) (hb : Below w.heap.size w w1) : InR w1 r a := ⟨k.l.keep hb, k.sh.keep hb⟩
def sa0 : Sa := ⟨none, 0, none, 0, none, 0⟩
def ra0 : Ra := ⟨none, 0, sa0⟩
theorem InSh.zero (w : World) : InSh w sh0 sa0 := ⟨InN.nil, InS.nil, InS.nil⟩
theorem InR.zero (w : World) : InR w rc0 ra0 := ⟨InN.nil, InSh.zero w⟩
def recC (r : Rc) (a : Ra) : Array Value := #[.int .i64 r.k, .int .i64 r.v, .int .u64 r.bt, .int .u64 r.tm, .int .u64 r.ix, .int .u64 r.en.tm, .int .i64 r.en.k, .int .i64 r.en.n, .int .i64 r.en.t, .slice a.A r.en.l.length a.c, .int .u64 r.en.b, .int .u64 r.en.q, .int .u64 r.en.s, .int .u64 r.en.m, .int .u64 r.sh.i, .int .u64 r.sh.t, .slice a.s.A0 r.sh.ns.length a.s.c0, .int .i64 r.sh.lim, .int .u64 r.sh.nxt, .slice a.s.A1 r.sh.hs.length a.s.c1, .slice a.s.A2 r.sh.ls.length a.s.c2]
def recV (r : Rc) (a : Ra) : Value := .agg #[.int .i64 r.k, .int .i64 r.v, .int .u64 r.bt, .int .u64 r.tm, .int .u64 r.ix, .int .u64 r.en.tm, .int .i64 r.en.k, .int .i64 r.en.n, .int .i64 r.en.t, .slice a.A r.en.l.length a.c, .int .u64 r.en.b, .int .u64 r.en.q, .int .u64 r.en.s, .int .u64 r.en.m, .int .u64 r.sh.i, .int .u64 r.sh.t, .slice a.s.A0 r.sh.ns.length a.s.c0, .int .i64 r.sh.lim, .int .u64 r.sh.nxt, .slice a.s.A1 r.sh.hs.length a.s.c1, .slice a.s.A2 r.sh.ls.length a.s.c2]
def entV (e : En) (A : Option Addr) (c : Nat) : Value := .agg #[.int .u64 e.tm, .int .i64 e.k, .int .i64 e.n, .int .i64 e.t, .slice A e.l.length c, .int .u64 e.b, .int .u64 e.q, .int .u64 e.s, .int .u64 e.m]
structure RecAt (w : World) (g : Nat) (r : Rc) (a : Ra) : Prop where
  z0 : w.cell? ⟨g, 0, none⟩ = some (.int .i64 r.k)
  z1 : w.cell? ⟨g, 1, none⟩ = some (.int .i64 r.v)
  z2 : w.cell? ⟨g, 2, none⟩ = some (.int .u64 r.bt)
  z3 : w.cell? ⟨g, 3, none⟩ = some (.int .u64 r.tm)
  z4 : w.cell? ⟨g, 4, none⟩ = some (.int .u64 r.ix)
  z5 : w.cell? ⟨g, 5, none⟩ = some (.int .u64 r.en.tm)
  z6 : w.cell? ⟨g, 6, none⟩ = some (.int .i64 r.en.k)
  z7 : w.cell? ⟨g, 7, none⟩ = some (.int .i64 r.en.n)
  z8 : w.cell? ⟨g, 8, none⟩ = some (.int .i64 r.en.t)
  z9 : w.cell? ⟨g, 9, none⟩ = some (.slice a.A r.en.l.length a.c)
  z10 : w.cell? ⟨g, 10, none⟩ = some (.int .u64 r.en.b)
  z11 : w.cell? ⟨g, 11, none⟩ = some (.int .u64 r.en.q)
  z12 : w.cell? ⟨g, 12, none⟩ = some (.int .u64 r.en.s)
  z13 : w.cell? ⟨g, 13, none⟩ = some (.int .u64 r.en.m)
  z14 : w.cell? ⟨g, 14, none⟩ = some (.int .u64 r.sh.i)
  z15 : w.cell? ⟨g, 15, none⟩ = some (.int .u64 r.sh.t)
  z16 : w.cell? ⟨g, 16, none⟩ = some (.slice a.s.A0 r.sh.ns.length a.s.c0)
  z17 : w.cell? ⟨g, 17, none⟩ = some (.int .i64 r.sh.lim)
  z18 : w.cell? ⟨g, 18, none⟩ = some (.int .u64 r.sh.nxt)
  z19 : w.cell? ⟨g, 19, none⟩ = some (.slice a.s.A1 r.sh.hs.length a.s.c1)
  z20 : w.cell? ⟨g, 20, none⟩ = some (.slice a.s.A2 r.sh.ls.length a.s.c2)
theorem Blk.rc {w : World} {g : Nat} {T : TypeId} {r : Rc} {a : Ra} (k : Blk w g T (recC r a)) : RecAt w g r a := by
  constructor <;> (rw [k.cell]; rfl)
theorem recC_one (r : Rc) (a : Ra) : (recC r a).all (·.oneCell') = true := by simp [recC, Value.oneCell']
theorem info_Rec : (Try.prog.info? 48).map (·.size) = some 21 := by kernel_rfl
end Go.Proofs.Ytadkkhbbempaaaa

/- Arguments opened: a slice of ints that came in. -/
namespace Go.Proofs.Ytadkkhbbempaaaa
set_option maxRecDepth 100000
open Go.ChangeShapes Go.WideShapes Go.ChangeAt Go.RowKit

/-- A slice of ints that came in, within something else. -/
theorem open_nums {H : Type} {enc : TypeId × Value → H} {W : World} {fuel : Nat} {cs : List Value} {x : DataW H × List MemPlace} {ts : List TypeId} {ds : List (DataW H)}
    (hf : DataW.trod enc Try.prog W 0 (fun _ => true) true fuel 23 cs = some x)
    (hsz : (DataW.weightsEach Try.prog ts ds).all (· ≤ reachBytes) = true) {j : Nat} (ht : ts[j]? = some 23) (hd : ds[j]? = some x.1) :
    ∃ A c l, cs = [.slice A l.length c] ∧ InN .i64 W A c l ∧ l.length ≤ 17592186043904 := by
  rcases open_ints Try.underlying23 Try.underlying3 (by kernel_rfl) hf with ⟨hcs, hx⟩ | ⟨x0, len, cap, zs, hcs, _, hl, hm, hz, hx, hcell, hwz⟩
  · exact ⟨none, 0, [], hcs, InN.nil, by simp⟩
  · have hz' : zs.length = cap := by simpa using hz
    have hw : cap * 8 ≤ 140737488351232 := by
      subst hx
      have z := sized_slice hsz ht hd Try.underlying23
      rw [show Try.prog.bytesOf 3 = 8 from by kernel_rfl] at z
      have h1 : (lits (H := H) .i64 (zs.take len)).length + (lits (H := H) .i64 (zs.drop len)).length = zs.length := by
        simp [lits]
        omega
      rw [h1] at z
      have hr : reachBytes = 140737488351232 := rfl
      rw [hr] at z
      omega
    have hlen : (zs.take len).length = len := by rw [List.length_take, Nat.min_eq_left (by omega)]
    refine ⟨some x0, cap, zs.take len, by rw [hlen]; exact hcs, ⟨?_, ?_, ?_, ?_⟩, ?_⟩
    · have hnl : (nums .i64 (zs.take len)).length = len := by rw [nums_length, hlen]
      rw [hlen]
      rcases Nat.eq_zero_or_pos len with h0 | h0
      · subst h0
        exact ⟨by simpa using hnl, fun h => by omega⟩
      · have hb : x0.block < W.heap.size := World.block_lt_of_cell? W _ (hcell 0 (by omega))
        refine Reads.of_add (by omega) hb (fun j u hu => ?_) (by omega)
        have hj : j < len := by have := (List.getElem?_eq_some_iff.1 hu).1; omega
        rw [nums_get (by omega)] at hu
        injection hu with hu
        subst hu
        rw [hcell j (by omega)]
        simp [List.getD_eq_getElem?_getD, show j < zs.length by omega]
    · intro y hy
      exact hwz y (List.mem_of_mem_take hy)
    · omega
    · omega
    · omega

/-- What is known of a slice of ints that came in. -/
def OpenI (W : World) (v : Value) : Prop := ∃ A c l, v = .slice A l.length c ∧ InN .i64 W A c l ∧ l.length ≤ 17592186043904
theorem open_ints_ {H : Type} {enc : TypeId × Value → H} {W : World} {base : Nat} {r : Reach} {v : Value} {d : DataW H} {p : List MemPlace} {ts : List TypeId} {ds : List (DataW H)}
    (hv : Value.okWide Try.prog W r base 23 v) (h : DataW.Trod enc Try.prog W 0 (fun _ => true) true 23 v d p)
    (hsz : (DataW.weightsEach Try.prog ts ds).all (· ≤ reachBytes) = true) {j : Nat} (ht : ts[j]? = some 23) (hd : ds[j]? = some d) : OpenI W v := by
  obtain ⟨a0, len, cap, rfl⟩ := okWide_slice Try.underlying23 hv
  obtain ⟨fuel, hf⟩ := h
  obtain ⟨A, c, l, e, hin, hl⟩ := open_nums hf hsz ht hd
  simp [Value.cells] at e
  obtain ⟨rfl, rfl, rfl⟩ := e
  exact ⟨_, _, l, rfl, hin, hl⟩
theorem sized_agg {H : Type} {P : Program} {ts : List TypeId} {ds : List (DataW H)} (h : (DataW.weightsEach P ts ds).all (· ≤ reachBytes) = true) {j : Nat} {t : TypeId} {fs : Array Field} {parts : List (DataW H)} (ht : ts[j]? = some t) (hd : ds[j]? = some (.agg parts)) (hu : P.underlying t = some (.struct fs)) :
    (DataW.weightsEach P (fs.toList.map (·.type)) parts).all (· ≤ reachBytes) = true := by
  refine List.all_eq_true.2 fun n hn => List.all_eq_true.1 h n (DataW.weights_mem_each ht hd n ?_)
  simp only [DataW.weights, hu]
  exact hn
end Go.Proofs.Ytadkkhbbempaaaa

/- Arguments opened: a snapshot that came in. -/
namespace Go.Proofs.Ytadkkhbbempaaaa
set_option maxRecDepth 100000
open Go.Joins Go.ChangeShapes Go.WideShapes Go.RowKit Go.Deep Go.ChangeAt

theorem listed {α : Type} {P : Nat → α → Prop} : ∀ (n : Nat), (∀ i, i < n → ∃ x, P i x) → ∃ l : List α, l.length = n ∧ ∀ i (hi : i < l.length), P i l[i] := by
  intro n
  induction n with
  | zero => intro _; exact ⟨[], rfl, fun i hi => absurd hi (by simp)⟩
  | succ n ih =>
    intro h
    obtain ⟨l, hl, hp⟩ := ih (fun i hi => h i (by omega))
    obtain ⟨x, hx⟩ := h n (by omega)
    refine ⟨l ++ [x], by simp [hl], fun i hi => ?_⟩
    rw [List.length_append, List.length_singleton] at hi
    rcases Nat.lt_or_ge i l.length with h1 | h1
    · rw [List.getElem_append_left h1]
      exact hp i h1
    · obtain rfl : i = l.length := by omega
      rw [List.getElem_append_right (Nat.le_refl _)]
      simp only [Nat.sub_self, List.getElem_singleton]
      rw [hl]
      exact hx
theorem c_int : Try.prog.cellsOf 3 = 1 := by kernel_rfl
theorem c_u64 : Try.prog.cellsOf 22 = 1 := by kernel_rfl
theorem c_Held : Try.prog.cellsOf 98 = 5 := by kernel_rfl
theorem c_Last : Try.prog.cellsOf 123 = 6 := by kernel_rfl
theorem c_Answer : Try.prog.cellsOf 121 = 3 := by kernel_rfl
theorem c_Ledger : Try.prog.cellsOf 27 = 4 := by kernel_rfl
theorem c_Shot : Try.prog.cellsOf 29 = 7 := by kernel_rfl
theorem c_ints : Try.prog.cellsOf 23 = 1 := by kernel_rfl
theorem c_Helds : Try.prog.cellsOf 24 = 1 := by kernel_rfl
theorem c_Lasts : Try.prog.cellsOf 25 = 1 := by kernel_rfl
theorem wf_u {a : Int} (h : (Lit.int .u64 a).wf = true) : 0 ≤ a ∧ a < 18446744073709551616 := by
  simp [Lit.wf, IntKind.min, IntKind.max, IntKind.bits, IntKind.signed] at h
  omega

section
variable {H : Type} {enc : TypeId × Value → H} {w : World} {base : Nat} {spare : Nat → Bool} {held : Bool}
theorem parts {P : Program} {t : TypeId} {fs : Array Field} {fuel : Nat} {cs : List Value} {x : DataW H × List MemPlace} (ht : P.underlying t = some (.struct fs)) (h : DataW.trod enc P w base spare held fuel t cs = some x) :
    ∃ (xs : List (DataW H × List MemPlace)) (n : Nat), x = (.agg (xs.map (·.1)), xs.flatMap (·.2)) ∧ cs.length = P.cellsOf t ∧ xs.length = fs.size ∧
      ∀ (i : Nat) (f : Field) (_ : fs[i]? = some f) (o k : Nat) (_ : f.offset = o) (_ : P.cellsOf f.type = k), DataW.trod enc P w base spare held n f.type ((cs.drop o).take k) = xs[i]? := by
  obtain ⟨xs, n, _, h1, h2, h3, hg⟩ := DataW.trod_struct ht h
  refine ⟨xs, n, h1, h2, h3, fun i f hf o k ho hk => ?_⟩
  rw [← ho, ← hk]
  exact hg i f hf
theorem hd_of {fuel : Nat} {cs : List Value} {y : DataW H × List MemPlace} (h : DataW.trod enc Try.prog w base spare held fuel 98 cs = some y) : ∃ x : Hd, cs = hdC x ∧ x.Wf := by
  obtain ⟨xs, n, _, hl, hlen, hg⟩ := parts Try.underlying98 h
  rw [c_Held] at hl
  match cs, hl with
  | [c0, c1, c2, c3, c4], _ =>
    match xs, hlen with
    | [y0, y1, y2, y3, y4], _ =>
      have g0 := hg 0 _ rfl 0 1 rfl (by kernel_rfl)
      have g1 := hg 1 _ rfl 1 1 rfl (by kernel_rfl)
      have g2 := hg 2 _ rfl 2 1 rfl (by kernel_rfl)
      have g3 := hg 3 _ rfl 3 1 rfl (by kernel_rfl)
      have g4 := hg 4 _ rfl 4 1 rfl (by kernel_rfl)
      simp only [List.drop_zero, List.drop_succ_cons, List.take_succ_cons, List.take_zero, List.getElem?_cons_zero, List.getElem?_cons_succ] at g0 g1 g2 g3 g4
      obtain ⟨a, e0, _, w0⟩ := DataW.trod_int Try.underlying3 g0
      obtain ⟨b, e1, _, w1⟩ := DataW.trod_int Try.underlying3 g1
      obtain ⟨c, e2, _, w2⟩ := DataW.trod_int Try.underlying22 g2
      obtain ⟨d, e3, _, w3⟩ := DataW.trod_int Try.underlying22 g3
      obtain ⟨e, e4, _, w4⟩ := DataW.trod_int Try.underlying22 g4
      simp only [List.cons.injEq, and_true] at e0 e1 e2 e3 e4
      subst e0 e1 e2 e3 e4
      exact ⟨⟨a, b, c, d, e⟩, rfl, ⟨w0, w1, wf_u w2, wf_u w3, wf_u w4⟩⟩
theorem ls_of {fuel : Nat} {cs : List Value} {y : DataW H × List MemPlace} (h : DataW.trod enc Try.prog w base spare held fuel 123 cs = some y) : ∃ x : Ls, cs = lsC x ∧ x.Wf := by
  obtain ⟨xs, n, _, hl, hlen, hg⟩ := parts Try.underlying123 h
  rw [c_Last] at hl
  match cs, hl with
  | [c0, c1, c2, c3, c4, c5], _ =>
    match xs, hlen with
    | [y0, y1, y2, y3], _ =>
      have g0 := hg 0 _ rfl 0 1 rfl (by kernel_rfl)
      have g1 := hg 1 _ rfl 1 1 rfl (by kernel_rfl)
      have g2 := hg 2 _ rfl 2 1 rfl (by kernel_rfl)
      have g3 := hg 3 _ rfl 3 3 rfl (by kernel_rfl)
      simp only [List.drop_zero, List.drop_succ_cons, List.take_succ_cons, List.take_zero, List.getElem?_cons_zero, List.getElem?_cons_succ] at g0 g1 g2 g3
      obtain ⟨a, e0, _, w0⟩ := DataW.trod_int Try.underlying3 g0
      obtain ⟨b, e1, _, w1⟩ := DataW.trod_int Try.underlying22 g1
      obtain ⟨c, e2, _, w2⟩ := DataW.trod_int Try.underlying22 g2
      obtain ⟨zs, m, _, _, hlen2, hk⟩ := parts Try.underlying121 g3
      match zs, hlen2 with
      | [z0, z1, z2], _ =>
        have k0 := hk 0 _ rfl 0 1 rfl (by kernel_rfl)
        have k1 := hk 1 _ rfl 1 1 rfl (by kernel_rfl)
        have k2 := hk 2 _ rfl 2 1 rfl (by kernel_rfl)
        simp only [List.drop_zero, List.drop_succ_cons, List.take_succ_cons, List.take_zero, List.getElem?_cons_zero, List.getElem?_cons_succ] at k0 k1 k2
        obtain ⟨d, e3, _, w3⟩ := DataW.trod_int Try.underlying3 k0
        obtain ⟨e, e4, _, w4⟩ := DataW.trod_int Try.underlying3 k1
        obtain ⟨f, e5, _, w5⟩ := DataW.trod_int Try.underlying22 k2
        simp only [List.cons.injEq, and_true] at e0 e1 e2 e3 e4 e5
        subst e0 e1 e2 e3 e4 e5
        exact ⟨⟨a, b, c, d, e, f⟩, rfl, ⟨w0, wf_u w1, wf_u w2, w3, w4, wf_u w5⟩⟩
/-- A slice of structs that came in, within something else. -/
theorem open_rows {α : Type} {f : α → List Value} {s : Nat} {Wf : α → Prop} {T E : TypeId} {fuel : Nat} {cs : List Value} {x : DataW H × List MemPlace} {ts : List TypeId} {ds : List (DataW H)} (hT : Try.prog.underlying T = some (.slice E)) (hC : Try.prog.cellsOf E = s) (hs : 0 < s) (hbt : Try.prog.bytesOf E = 8 * s) (hfl : ∀ x, (f x).length = s)
    (hof : ∀ fuel cs (y : DataW H × List MemPlace), DataW.trod enc Try.prog w base (fun _ => true) held fuel E cs = some y → ∃ x, cs = f x ∧ Wf x)
    (h : DataW.trod enc Try.prog w base (fun _ => true) held fuel T cs = some x) (hsz : (DataW.weightsEach Try.prog ts ds).all (· ≤ reachBytes) = true) {j : Nat} (ht : ts[j]? = some T) (hd : ds[j]? = some x.1) :
    ∃ A c l, cs = [.slice A l.length c] ∧ InS f s w A c l ∧ ∀ y ∈ l, Wf y := by
  rcases open_slice hT h with ⟨hcs, _⟩ | ⟨a, len, cap, m, n, D, Pl, hcs, _, hl, hm, hmm, hx, hi⟩
  · exact ⟨none, 0, [], hcs, InS.nil, fun y hy => by cases hy⟩
  · have hmc : m = cap := by simpa using hmm
    have hw : cap * (8 * s) ≤ 140737488351232 := by
      rw [hx] at hd
      have z := sized_slice hsz ht hd hT
      rw [hbt] at z
      simp only [List.length_map, List.length_range] at z
      have hr : reachBytes = 140737488351232 := rfl
      rw [hr, show len + (m - len) = cap by omega] at z
      exact z
    have hex : ∀ i, i < len → ∃ y : α, Wf y ∧ ∀ k u, (f y)[k]? = some u → w.cell? ((a.add (i * s)).add k) = some u := by
      intro i hil
      obtain ⟨cs', hc, ht'⟩ := hi i (by omega)
      obtain ⟨y, rfl, hwf⟩ := hof _ _ _ ht'
      obtain ⟨_, hcl, hat⟩ := World.cells?_some hc
      refine ⟨y, hwf, fun k u hu => ?_⟩
      rw [hC] at hat
      have hk : k < s := by
        have := (List.getElem?_eq_some_iff.1 hu).1
        rw [hfl] at this
        exact this
      rw [hat k hk]
      exact hu
    obtain ⟨l, hll, hp⟩ := listed len hex
    have hcap : l.length * (8 * s) ≤ cap * (8 * s) := Nat.mul_le_mul_right _ (by omega)
    refine ⟨some a, cap, l, by rw [hll]; exact hcs, ⟨?_, by omega, by omega⟩, fun y hy => ?_⟩
    · rcases Nat.eq_zero_or_pos l.length with h0 | h0
      · have : l = [] := List.eq_nil_of_length_eq_zero h0
        subst this
        exact ⟨by simp, fun h => by simp at h⟩
      · have hcell : ∀ j u, (l.flatMap f)[j]? = some u → w.cell? (a.add j) = some u := by
          intro j u hu
          have hj : j < l.length * s := by
            have := (List.getElem?_eq_some_iff.1 hu).1
            rw [flat_len hfl] at this
            exact this
          have hq : j / s < l.length := Nat.div_lt_of_lt_mul (by rw [Nat.mul_comm]; exact hj)
          have hr : j % s < s := Nat.mod_lt _ hs
          have hdm : j = j / s * s + j % s := by rw [Nat.mul_comm]; exact (Nat.div_add_mod j s).symm
          rw [hdm, flat_get hfl l _ hq _ hr] at hu
          have := (hp _ hq).2 _ _ hu
          rw [Go.Deep.add_add] at this
          rw [hdm]
          exact this
        have hb : a.block < w.heap.size := by
          have h1 : ∃ u, (l.flatMap f)[0]? = some u := by
            have : 0 < (l.flatMap f).length := by rw [flat_len hfl]; exact Nat.mul_pos h0 hs
            exact ⟨_, List.getElem?_eq_getElem this⟩
          obtain ⟨u, hu⟩ := h1
          have := World.block_lt_of_cell? w _ (hcell 0 u hu)
          simpa [Addr.add] using this
        exact Reads.of_add (flat_len hfl l) hb hcell hs
    · obtain ⟨i, hi, rfl⟩ := List.getElem_of_mem hy
      exact (hp i hi).1
end
/-- What is known of a snapshot that came in. -/
def OpenShot (W : World) (v : Value) : Prop := ∃ i t An cn ns lim nxt Ah ch hs Al cl ls, v = shV i t (.slice An ns.length cn) lim nxt (.slice Ah hs.length ch) (.slice Al ls.length cl) ∧ InN .i64 W An cn ns ∧ ns.length ≤ 17592186043904 ∧ InS hdC 5 W Ah ch hs ∧ InS lsC 6 W Al cl ls ∧
  (∀ h ∈ hs, h.Wf) ∧ (∀ x ∈ ls, x.Wf) ∧ (0 ≤ i ∧ i < 18446744073709551616) ∧ (0 ≤ t ∧ t < 18446744073709551616) ∧ (Lit.int .i64 lim).wf = true ∧ (0 ≤ nxt ∧ nxt < 18446744073709551616)
theorem open_shot {H : Type} {enc : TypeId × Value → H} {W : World} {base : Nat} {r : Reach} {v : Value} {d : DataW H} {p : List MemPlace} {ts : List TypeId} {ds : List (DataW H)}
    (hv : Value.okWide Try.prog W r base 29 v) (h : DataW.Trod enc Try.prog W 0 (fun _ => true) true 29 v d p)
    (hsz : (DataW.weightsEach Try.prog ts ds).all (· ≤ reachBytes) = true) {j : Nat} (ht : ts[j]? = some 29) (hd : ds[j]? = some d) :
    OpenShot W v := by
  obtain ⟨cs, rfl, hcs⟩ := okWide_struct Try.underlying29 hv
  obtain ⟨l⟩ := cs
  match l, hcs.trans c_Shot with
  | [c0, c1, c2, c3, c4, c5, c6], _ =>
    obtain ⟨fuel, hf⟩ := h
    obtain ⟨xs, n, hx, _, hlen, hg⟩ := parts Try.underlying29 hf
    match xs, hlen with
    | [y0, y1, y2, y3], _ =>
      have g0 := hg 0 _ rfl 0 1 rfl (by kernel_rfl)
      have g1 := hg 1 _ rfl 1 1 rfl (by kernel_rfl)
      have g2 := hg 2 _ rfl 2 1 rfl (by kernel_rfl)
      have g3 := hg 3 _ rfl 3 4 rfl (by kernel_rfl)
      simp only [Value.cells, List.drop_zero, List.drop_succ_cons, List.take_succ_cons, List.take_zero, List.getElem?_cons_zero, List.getElem?_cons_succ] at g0 g1 g2 g3
      simp only [Prod.mk.injEq] at hx
      obtain ⟨rfl, _⟩ := hx
      have hin := sized_agg hsz ht hd Try.underlying29
      obtain ⟨i, e0, _, w0⟩ := DataW.trod_int Try.underlying22 g0
      obtain ⟨t, e1, _, w1⟩ := DataW.trod_int Try.underlying22 g1
      obtain ⟨An, cn, ns, e2, i2, s2⟩ := open_nums g2 hin (j := 2) rfl rfl
      obtain ⟨zs, m, hz, _, hlen2, hk⟩ := parts Try.underlying27 g3
      match zs, hlen2 with
      | [z0, z1, z2, z3], _ =>
        have k0 := hk 0 _ rfl 0 1 rfl (by kernel_rfl)
        have k1 := hk 1 _ rfl 1 1 rfl (by kernel_rfl)
        have k2 := hk 2 _ rfl 2 1 rfl (by kernel_rfl)
        have k3 := hk 3 _ rfl 3 1 rfl (by kernel_rfl)
        simp only [List.drop_zero, List.drop_succ_cons, List.take_succ_cons, List.take_zero, List.getElem?_cons_zero, List.getElem?_cons_succ] at k0 k1 k2 k3
        have hzd : y3.1 = .agg ([z0, z1, z2, z3].map (·.1)) := by rw [hz]
        have hin2 := sized_agg hin (j := 3) (t := 27) rfl (by show some y3.1 = _; rw [hzd]) Try.underlying27
        obtain ⟨lim, e3, _, w3⟩ := DataW.trod_int Try.underlying3 k0
        obtain ⟨nxt, e4, _, w4⟩ := DataW.trod_int Try.underlying22 k1
        obtain ⟨Ah, ch, hs, e5, i5, s5⟩ := open_rows (s := 5) Try.underlying24 c_Held (by omega) (by kernel_rfl) hdC_len (fun _ _ _ h => hd_of h) k2 hin2 (j := 2) rfl rfl
        obtain ⟨Al, cl, ls, e6, i6, s6⟩ := open_rows (s := 6) Try.underlying25 c_Last (by omega) (by kernel_rfl) lsC_len (fun _ _ _ h => ls_of h) k3 hin2 (j := 3) rfl rfl
        simp only [List.cons.injEq, and_true] at e0 e1 e2 e3 e4 e5 e6
        subst e0 e1 e2 e3 e4 e5 e6
        exact ⟨i, t, An, cn, ns, lim, nxt, Ah, ch, hs, Al, cl, ls, rfl, i2, s2, i5, i6, s5, s6, wf_u w0, wf_u w1, w3, wf_u w4⟩
end Go.Proofs.Ytadkkhbbempaaaa

/- Arguments opened: entries, what lasts. -/
namespace Go.Proofs.Ytadkkhbbempaaaa
set_option maxRecDepth 100000
open Go.Joins Go.ChangeShapes Go.WideShapes Go.RowKit Go.Deep Go.ChangeAt

theorem weightsAll_mem {H : Type} {P : Program} {e : TypeId} : ∀ {l : List (DataW H)} {d : DataW H}, d ∈ l → ∀ n ∈ d.weights P e, n ∈ DataW.weightsAll P e l
  | d' :: r, d, hd, n, hn => by
    simp only [DataW.weightsAll, List.mem_append]
    rcases List.mem_cons.1 hd with rfl | h
    · exact Or.inl hn
    · exact Or.inr (weightsAll_mem h n hn)
/-- What bounds a whole slice bounds its elements. -/
theorem sized_elem {H : Type} {P : Program} {ts : List TypeId} {ds : List (DataW H)} (h : (DataW.weightsEach P ts ds).all (· ≤ reachBytes) = true) {j : Nat} {t e : TypeId} {elems spare : List (DataW H)} (ht : ts[j]? = some t) (hd : ds[j]? = some (.slice elems spare)) (hu : P.underlying t = some (.slice e)) {d : DataW H} (hx : d ∈ elems) :
    (DataW.weightsEach P [e] [d]).all (· ≤ reachBytes) = true := by
  refine List.all_eq_true.2 fun n hn => List.all_eq_true.1 h n (DataW.weights_mem_each ht hd n ?_)
  simp only [DataW.weightsEach, List.append_nil] at hn
  simp only [DataW.weights, hu, List.mem_cons, List.mem_append]
  exact Or.inr (Or.inl (weightsAll_mem hx _ hn))
theorem c_Entry : Try.prog.cellsOf 46 = 9 := by kernel_rfl
theorem c_Cmd : Try.prog.cellsOf 44 = 8 := by kernel_rfl
theorem c_Hard : Try.prog.cellsOf 32 = 11 := by kernel_rfl
section
variable {H : Type} {enc : TypeId × Value → H} {w : World}
/-- A slice of structs that came in, within something else; its elements have slices of their own. -/
theorem open_rowsW {α : Type} {f : α → List Value} {s bt : Nat} {Wf : α → Prop} {T E : TypeId} {fuel : Nat} {cs : List Value} {x : DataW H × List MemPlace} {ts : List TypeId} {ds : List (DataW H)} (hT : Try.prog.underlying T = some (.slice E)) (hC : Try.prog.cellsOf E = s) (hs : 0 < s) (hbt : Try.prog.bytesOf E = bt) (hb8 : 8 * s ≤ bt) (hfl : ∀ x, (f x).length = s)
    (hof : ∀ fuel cs (y : DataW H × List MemPlace), DataW.trod enc Try.prog w 0 (fun _ => true) true fuel E cs = some y → (DataW.weightsEach Try.prog [E] [y.1]).all (· ≤ reachBytes) = true → ∃ x, cs = f x ∧ Wf x)
    (h : DataW.trod enc Try.prog w 0 (fun _ => true) true fuel T cs = some x) (hsz : (DataW.weightsEach Try.prog ts ds).all (· ≤ reachBytes) = true) {j : Nat} (ht : ts[j]? = some T) (hd : ds[j]? = some x.1) :
    ∃ A c l, cs = [.slice A l.length c] ∧ InS f s w A c l ∧ l.length * bt ≤ 140737488351232 ∧ ∀ y ∈ l, Wf y := by
  rcases open_slice hT h with ⟨hcs, _⟩ | ⟨a, len, cap, m, n, D, Pl, hcs, _, hl, hm, hmm, hx, hi⟩
  · exact ⟨none, 0, [], hcs, InS.nil, by simp, fun y hy => by cases hy⟩
  · have hmc : m = cap := by simpa using hmm
    have hd2 := hd
    rw [hx] at hd2
    have hw : cap * bt ≤ 140737488351232 := by
      have z := sized_slice hsz ht hd2 hT
      rw [hbt] at z
      simp only [List.length_map, List.length_range] at z
      have hr : reachBytes = 140737488351232 := rfl
      rw [hr, show len + (m - len) = cap by omega] at z
      exact z
    have hex : ∀ i, i < len → ∃ y : α, Wf y ∧ ∀ k u, (f y)[k]? = some u → w.cell? ((a.add (i * s)).add k) = some u := by
      intro i hil
      obtain ⟨cs', hc, ht'⟩ := hi i (by omega)
      obtain ⟨y, rfl, hwf⟩ := hof _ _ _ ht' (sized_elem hsz ht hd2 hT (List.mem_map.2 ⟨i, List.mem_range.2 hil, rfl⟩))
      obtain ⟨_, hcl, hat⟩ := World.cells?_some hc
      refine ⟨y, hwf, fun k u hu => ?_⟩
      rw [hC] at hat
      have hk : k < s := by
        have := (List.getElem?_eq_some_iff.1 hu).1
        rw [hfl] at this
        exact this
      rw [hat k hk]
      exact hu
    obtain ⟨l, hll, hp⟩ := listed len hex
    have hcap : l.length * bt ≤ cap * bt := Nat.mul_le_mul_right _ (by omega)
    have hcap8 : l.length * (8 * s) ≤ l.length * bt := Nat.mul_le_mul_left _ hb8
    refine ⟨some a, cap, l, by rw [hll]; exact hcs, ⟨?_, by omega, by omega⟩, by omega, fun y hy => ?_⟩
    · rcases Nat.eq_zero_or_pos l.length with h0 | h0
      · have : l = [] := List.eq_nil_of_length_eq_zero h0
        subst this
        exact ⟨by simp, fun h => by simp at h⟩
      · have hcell : ∀ j u, (l.flatMap f)[j]? = some u → w.cell? (a.add j) = some u := by
          intro j u hu
          have hj : j < l.length * s := by
            have := (List.getElem?_eq_some_iff.1 hu).1
            rw [flat_len hfl] at this
            exact this
          have hq : j / s < l.length := Nat.div_lt_of_lt_mul (by rw [Nat.mul_comm]; exact hj)
          have hr : j % s < s := Nat.mod_lt _ hs
          have hdm : j = j / s * s + j % s := by rw [Nat.mul_comm]; exact (Nat.div_add_mod j s).symm
          rw [hdm, flat_get hfl l _ hq _ hr] at hu
          have := (hp _ hq).2 _ _ hu
          rw [Go.Deep.add_add] at this
          rw [hdm]
          exact this
        have hb : a.block < w.heap.size := by
          have h1 : ∃ u, (l.flatMap f)[0]? = some u := by
            have : 0 < (l.flatMap f).length := by rw [flat_len hfl]; exact Nat.mul_pos h0 hs
            exact ⟨_, List.getElem?_eq_getElem this⟩
          obtain ⟨u, hu⟩ := h1
          have := World.block_lt_of_cell? w _ (hcell 0 u hu)
          simpa [Addr.add] using this
        exact Reads.of_add (flat_len hfl l) hb hcell hs
    · obtain ⟨i, hi, rfl⟩ := List.getElem_of_mem hy
      exact (hp i hi).1
theorem ec_of {fuel : Nat} {cs : List Value} {y : DataW H × List MemPlace} (h : DataW.trod enc Try.prog w 0 (fun _ => true) true fuel 46 cs = some y) (hsz : (DataW.weightsEach Try.prog [46] [y.1]).all (· ≤ reachBytes) = true) :
    ∃ x : Ec, cs = ecC x ∧ x.e.Wf ∧ InN .i64 w x.A x.c x.e.l := by
  obtain ⟨xs, n, hx, hl, hlen, hg⟩ := parts Try.underlying46 h
  rw [c_Entry] at hl
  match cs, hl with
  | [v0, v1, v2, v3, v4, v5, v6, v7, v8], _ =>
    match xs, hlen with
    | [y0, y1], _ =>
      have g0 := hg 0 _ rfl 0 1 rfl (by kernel_rfl)
      have g1 := hg 1 _ rfl 1 8 rfl (by kernel_rfl)
      simp only [List.drop_zero, List.drop_succ_cons, List.take_succ_cons, List.take_zero, List.getElem?_cons_zero, List.getElem?_cons_succ] at g0 g1
      have hin1 := sized_agg hsz (j := 0) (t := 46) rfl (by show some y.1 = _; rw [hx]) Try.underlying46
      obtain ⟨zs, m, hz, _, hlen2, hk⟩ := parts Try.underlying44 g1
      match zs, hlen2 with
      | [z0, z1, z2, z3, z4, z5, z6, z7], _ =>
        have k0 := hk 0 _ rfl 0 1 rfl (by kernel_rfl)
        have k1 := hk 1 _ rfl 1 1 rfl (by kernel_rfl)
        have k2 := hk 2 _ rfl 2 1 rfl (by kernel_rfl)
        have k3 := hk 3 _ rfl 3 1 rfl (by kernel_rfl)
        have k4 := hk 4 _ rfl 4 1 rfl (by kernel_rfl)
        have k5 := hk 5 _ rfl 5 1 rfl (by kernel_rfl)
        have k6 := hk 6 _ rfl 6 1 rfl (by kernel_rfl)
        have k7 := hk 7 _ rfl 7 1 rfl (by kernel_rfl)
        simp only [List.drop_zero, List.drop_succ_cons, List.take_succ_cons, List.take_zero, List.getElem?_cons_zero, List.getElem?_cons_succ] at k0 k1 k2 k3 k4 k5 k6 k7
        have hzd : y1.1 = .agg ([z0, z1, z2, z3, z4, z5, z6, z7].map (·.1)) := by rw [hz]
        have hin2 := sized_agg hin1 (j := 1) (t := 44) rfl (by show some y1.1 = _; rw [hzd]) Try.underlying44
        obtain ⟨tm, e0, _, w0⟩ := DataW.trod_int Try.underlying22 g0
        obtain ⟨a, e1, _, w1⟩ := DataW.trod_int Try.underlying3 k0
        obtain ⟨b, e2, _, w2⟩ := DataW.trod_int Try.underlying3 k1
        obtain ⟨c, e3, _, w3⟩ := DataW.trod_int Try.underlying3 k2
        obtain ⟨A, cc, l, e4, i4, s4⟩ := open_nums k3 hin2 (j := 3) rfl rfl
        obtain ⟨d, e5, _, w5⟩ := DataW.trod_int Try.underlying22 k4
        obtain ⟨q, e6, _, w6⟩ := DataW.trod_int Try.underlying22 k5
        obtain ⟨s, e7, _, w7⟩ := DataW.trod_int Try.underlying22 k6
        obtain ⟨mm, e8, _, w8⟩ := DataW.trod_int Try.underlying22 k7
        simp only [List.cons.injEq, and_true] at e0 e1 e2 e3 e4 e5 e6 e7 e8
        subst e0 e1 e2 e3 e4 e5 e6 e7 e8
        exact ⟨⟨A, cc, ⟨tm, a, b, c, l, d, q, s, mm⟩⟩, rfl, ⟨wf_u w0, w1, w2, w3, s4, wf_u w5, wf_u w6, wf_u w7, wf_u w8⟩, i4⟩
theorem open_entries {fuel : Nat} {cs : List Value} {x : DataW H × List MemPlace} {ts : List TypeId} {ds : List (DataW H)} (h : DataW.trod enc Try.prog w 0 (fun _ => true) true fuel 30 cs = some x) (hsz : (DataW.weightsEach Try.prog ts ds).all (· ≤ reachBytes) = true) {j : Nat} (ht : ts[j]? = some 30) (hd : ds[j]? = some x.1) :
    ∃ A c l, cs = [.slice A l.length c] ∧ InE w A c l ∧ l.length * 88 ≤ 140737488351232 ∧ ∀ y ∈ l, y.e.Wf := by
  obtain ⟨A, c, l, e, h1, h2, h3⟩ := open_rowsW (s := 9) (bt := 88) (Wf := fun y : Ec => y.e.Wf ∧ InN .i64 w y.A y.c y.e.l) Try.underlying30 c_Entry (by omega) (by kernel_rfl) (by omega) ecC_len (fun _ _ _ k z => ec_of k z) h hsz ht hd
  exact ⟨A, c, l, e, ⟨h1, fun y hy => (h3 y hy).2, by omega⟩, h2, fun y hy => (h3 y hy).1⟩
theorem sh_of {fuel : Nat} {cs : List Value} {y : DataW H × List MemPlace} {ts : List TypeId} {ds : List (DataW H)} (hf : DataW.trod enc Try.prog w 0 (fun _ => true) true fuel 29 cs = some y) (hsz : (DataW.weightsEach Try.prog ts ds).all (· ≤ reachBytes) = true) {j : Nat} (ht : ts[j]? = some 29) (hd : ds[j]? = some y.1) :
    ∃ (s : Sh) (a : Sa), cs = [.int .u64 s.i, .int .u64 s.t, .slice a.A0 s.ns.length a.c0, .int .i64 s.lim, .int .u64 s.nxt, .slice a.A1 s.hs.length a.c1, .slice a.A2 s.ls.length a.c2] ∧ InSh w s a ∧ s.Wf := by
  obtain ⟨xs, n, hx, hcl, hlen, hg⟩ := parts Try.underlying29 hf
  rw [c_Shot] at hcl
  match cs, hcl with
  | [c0, c1, c2, c3, c4, c5, c6], _ =>
    match xs, hlen with
    | [y0, y1, y2, y3], _ =>
      have g0 := hg 0 _ rfl 0 1 rfl (by kernel_rfl)
      have g1 := hg 1 _ rfl 1 1 rfl (by kernel_rfl)
      have g2 := hg 2 _ rfl 2 1 rfl (by kernel_rfl)
      have g3 := hg 3 _ rfl 3 4 rfl (by kernel_rfl)
      simp only [List.drop_zero, List.drop_succ_cons, List.take_succ_cons, List.take_zero, List.getElem?_cons_zero, List.getElem?_cons_succ] at g0 g1 g2 g3
      have hin := sized_agg hsz ht (by rw [hd, hx]) Try.underlying29
      obtain ⟨i, e0, _, w0⟩ := DataW.trod_int Try.underlying22 g0
      obtain ⟨t, e1, _, w1⟩ := DataW.trod_int Try.underlying22 g1
      obtain ⟨An, cn, ns, e2, i2, s2⟩ := open_nums g2 hin (j := 2) rfl rfl
      obtain ⟨zs, m, hz, _, hlen2, hk⟩ := parts Try.underlying27 g3
      match zs, hlen2 with
      | [z0, z1, z2, z3], _ =>
        have k0 := hk 0 _ rfl 0 1 rfl (by kernel_rfl)
        have k1 := hk 1 _ rfl 1 1 rfl (by kernel_rfl)
        have k2 := hk 2 _ rfl 2 1 rfl (by kernel_rfl)
        have k3 := hk 3 _ rfl 3 1 rfl (by kernel_rfl)
        simp only [List.drop_zero, List.drop_succ_cons, List.take_succ_cons, List.take_zero, List.getElem?_cons_zero, List.getElem?_cons_succ] at k0 k1 k2 k3
        have hzd : y3.1 = .agg ([z0, z1, z2, z3].map (·.1)) := by rw [hz]
        have hin2 := sized_agg hin (j := 3) (t := 27) rfl (by show some y3.1 = _; rw [hzd]) Try.underlying27
        obtain ⟨lim, e3, _, w3⟩ := DataW.trod_int Try.underlying3 k0
        obtain ⟨nxt, e4, _, w4⟩ := DataW.trod_int Try.underlying22 k1
        obtain ⟨Ah, ch, hs, e5, i5, s5⟩ := open_rows (s := 5) Try.underlying24 c_Held (by omega) (by kernel_rfl) hdC_len (fun _ _ _ h => hd_of h) k2 hin2 (j := 2) rfl rfl
        obtain ⟨Al, cl, ls, e6, i6, s6⟩ := open_rows (s := 6) Try.underlying25 c_Last (by omega) (by kernel_rfl) lsC_len (fun _ _ _ h => ls_of h) k3 hin2 (j := 3) rfl rfl
        simp only [List.cons.injEq, and_true] at e0 e1 e2 e3 e4 e5 e6
        subst e0 e1 e2 e3 e4 e5 e6
        exact ⟨⟨i, t, ns, lim, nxt, hs, ls⟩, ⟨An, cn, Ah, ch, Al, cl⟩, rfl, ⟨i2, i5, i6⟩, ⟨wf_u w0, wf_u w1, s2, w3, wf_u w4, s5, s6⟩⟩
end
/-- What is known of what lasts that came in. -/
def OpenHrd (W : World) (v : Value) : Prop := ∃ h p PA PC xs, v = hrdV h p PA PC xs ∧ InH W h p PA PC xs ∧ (h.hrd xs).Wf ∧ xs.length * 88 ≤ 140737488351232
theorem open_hard {H : Type} {enc : TypeId × Value → H} {W : World} {base : Nat} {r : Reach} {v : Value} {d : DataW H} {p : List MemPlace} {ts : List TypeId} {ds : List (DataW H)}
    (hv : Value.okWide Try.prog W r base 32 v) (h : DataW.Trod enc Try.prog W 0 (fun _ => true) true 32 v d p)
    (hsz : (DataW.weightsEach Try.prog ts ds).all (· ≤ reachBytes) = true) {j : Nat} (ht : ts[j]? = some 32) (hd : ds[j]? = some d) :
    OpenHrd W v := by
  obtain ⟨cs, rfl, hcs⟩ := okWide_struct Try.underlying32 hv
  obtain ⟨l⟩ := cs
  match l, hcs.trans c_Hard with
  | [c0, c1, c2, c3, c4, c5, c6, c7, c8, c9, c10], _ =>
    obtain ⟨fuel, hf⟩ := h
    obtain ⟨xs, n, hx, _, hlen, hg⟩ := parts Try.underlying32 hf
    match xs, hlen with
    | [y0, y1, y2, y3, y4], _ =>
      have g0 := hg 0 _ rfl 0 1 rfl (by kernel_rfl)
      have g1 := hg 1 _ rfl 1 1 rfl (by kernel_rfl)
      have g2 := hg 2 _ rfl 2 1 rfl (by kernel_rfl)
      have g3 := hg 3 _ rfl 3 7 rfl (by kernel_rfl)
      have g4 := hg 4 _ rfl 10 1 rfl (by kernel_rfl)
      simp only [Value.cells, List.drop_zero, List.drop_succ_cons, List.take_succ_cons, List.take_zero, List.getElem?_cons_zero, List.getElem?_cons_succ] at g0 g1 g2 g3 g4
      simp only [Prod.mk.injEq] at hx
      obtain ⟨rfl, _⟩ := hx
      have hin := sized_agg hsz ht hd Try.underlying32
      obtain ⟨b, e0, _, w0⟩ := DataW.trod_int Try.underlying22 g0
      obtain ⟨t, e1, _, w1⟩ := DataW.trod_int Try.underlying22 g1
      obtain ⟨v, e2, _, w2⟩ := DataW.trod_int Try.underlying3 g2
      obtain ⟨s, a, e3, i3, w3⟩ := sh_of g3 hin (j := 3) rfl rfl
      obtain ⟨A, c, xs, e4, i4, s4, w4⟩ := open_entries g4 hin (j := 4) rfl rfl
      simp only [List.cons.injEq, and_true] at e0 e1 e2 e3 e4
      obtain ⟨e3, e3b, e3c, e3d, e3e, e3f, e3g⟩ := e3
      subst e0 e1 e2 e3 e3b e3c e3d e3e e3f e3g e4
      exact ⟨⟨b, t, v, s⟩, a, A, c, xs, rfl, ⟨i3, i4⟩, ⟨wf_u w0, wf_u w1, w2, w3, fun e he => by obtain ⟨x, hx, rfl⟩ := List.mem_map.1 he; exact w4 x hx⟩, s4⟩
end Go.Proofs.Ytadkkhbbempaaaa

/- Arguments opened: records of what lasts. -/
namespace Go.Proofs.Ytadkkhbbempaaaa
set_option maxRecDepth 100000
open Go.Joins Go.ChangeShapes Go.WideShapes Go.RowKit Go.Deep Go.ChangeAt

theorem c_Rec : Try.prog.cellsOf 48 = 21 := by kernel_rfl
section
variable {H : Type} {enc : TypeId × Value → H} {w : World}
theorem rec_of {fuel : Nat} {cs : List Value} {y : DataW H × List MemPlace} (h : DataW.trod enc Try.prog w 0 (fun _ => true) true fuel 48 cs = some y) {ts : List TypeId} {ds : List (DataW H)} (hsz : (DataW.weightsEach Try.prog ts ds).all (· ≤ reachBytes) = true) {j : Nat} (ht : ts[j]? = some 48) (hd : ds[j]? = some y.1) :
    ∃ r a, cs = (recC r a).toList ∧ InR w r a ∧ r.Wf := by
  obtain ⟨xs, n, hx, hcl, hlen, hg⟩ := parts Try.underlying48 h
  rw [c_Rec] at hcl
  match cs, hcl with
  | [c0, c1, c2, c3, c4, c5, c6, c7, c8, c9, c10, c11, c12, c13, c14, c15, c16, c17, c18, c19, c20], _ =>
    match xs, hlen with
    | [y0, y1, y2, y3, y4, y5, y6], _ =>
      have g0 := hg 0 _ rfl 0 1 rfl (by kernel_rfl)
      have g1 := hg 1 _ rfl 1 1 rfl (by kernel_rfl)
      have g2 := hg 2 _ rfl 2 1 rfl (by kernel_rfl)
      have g3 := hg 3 _ rfl 3 1 rfl (by kernel_rfl)
      have g4 := hg 4 _ rfl 4 1 rfl (by kernel_rfl)
      have g5 := hg 5 _ rfl 5 9 rfl (by kernel_rfl)
      have g6 := hg 6 _ rfl 14 7 rfl (by kernel_rfl)
      simp only [List.drop_zero, List.drop_succ_cons, List.take_succ_cons, List.take_zero, List.getElem?_cons_zero, List.getElem?_cons_succ] at g0 g1 g2 g3 g4 g5 g6
      have hin := sized_agg hsz ht (by rw [hd, hx]) Try.underlying48
      obtain ⟨k, e0, _, w0⟩ := DataW.trod_int Try.underlying3 g0
      obtain ⟨v, e1, _, w1⟩ := DataW.trod_int Try.underlying3 g1
      obtain ⟨b, e2, _, w2⟩ := DataW.trod_int Try.underlying22 g2
      obtain ⟨t, e3, _, w3⟩ := DataW.trod_int Try.underlying22 g3
      obtain ⟨i, e4, _, w4⟩ := DataW.trod_int Try.underlying22 g4
      have hin5 : (DataW.weightsEach Try.prog [46] [y5.1]).all (· ≤ reachBytes) = true := by
        refine List.all_eq_true.2 fun n hn => List.all_eq_true.1 hin n (DataW.weights_mem_each (j := 5) (t := 46) (d := y5.1) rfl rfl n ?_)
        simpa [DataW.weightsEach] using hn
      obtain ⟨x, e5, w5, i5⟩ := ec_of g5 hin5
      obtain ⟨s, a, e6, i6, w6⟩ := sh_of g6 hin (j := 6) rfl rfl
      simp only [ecC, List.cons.injEq, and_true] at e0 e1 e2 e3 e4 e5 e6
      obtain ⟨e5, e5b, e5c, e5d, e5e, e5f, e5g, e5h, e5i⟩ := e5
      obtain ⟨e6, e6b, e6c, e6d, e6e, e6f, e6g⟩ := e6
      subst e0 e1 e2 e3 e4 e5 e5b e5c e5d e5e e5f e5g e5h e5i e6 e6b e6c e6d e6e e6f e6g
      exact ⟨⟨k, v, b, t, i, x.e, s⟩, ⟨x.A, x.c, a⟩, rfl, ⟨i5, i6⟩, ⟨w0, w1, wf_u w2, wf_u w3, wf_u w4, w5, w6⟩⟩
end
/-- What is known of a record that came in. -/
def OpenRec (W : World) (v : Value) : Prop := ∃ r a, v = recV r a ∧ InR W r a ∧ r.Wf
theorem open_rec {H : Type} {enc : TypeId × Value → H} {W : World} {base : Nat} {r : Reach} {v : Value} {d : DataW H} {p : List MemPlace} {ts : List TypeId} {ds : List (DataW H)}
    (hv : Value.okWide Try.prog W r base 48 v) (h : DataW.Trod enc Try.prog W 0 (fun _ => true) true 48 v d p)
    (hsz : (DataW.weightsEach Try.prog ts ds).all (· ≤ reachBytes) = true) {j : Nat} (ht : ts[j]? = some 48) (hd : ds[j]? = some d) :
    OpenRec W v := by
  obtain ⟨cs, rfl, hcs⟩ := okWide_struct Try.underlying48 hv
  obtain ⟨l⟩ := cs
  obtain ⟨fuel, hf⟩ := h
  obtain ⟨r, a, e, h1, h2⟩ := rec_of (y := (d, p)) hf hsz ht hd
  have e2 : l = (recC r a).toList := e
  subst e2
  exact ⟨r, a, rfl, h1, h2⟩
end Go.Proofs.Ytadkkhbbempaaaa

/- Records: the code's none and empty. -/
namespace Go.Proofs.Ytadkkhbbempaaaa
set_option maxRecDepth 100000
open Go.RowKit

/-- A snapshot, an entry without anything. -/
def shz (s : Sh) : Bool := s.i == 0 && s.t == 0 && ((s.ns.length : Int) == 0) && s.lim == 0 && s.nxt == 0 && ((s.hs.length : Int) == 0) && ((s.ls.length : Int) == 0)
def enz (e : En) : Bool := e.tm == 0 && e.k == 0 && e.n == 0 && e.t == 0 && ((e.l.length : Int) == 0) && e.b == 0 && e.q == 0 && e.s == 0 && e.m == 0
theorem len0 {α : Type} (l : List α) : ((l.length : Int) = 0) ↔ l = [] := by
  constructor
  · intro h; exact List.eq_nil_of_length_eq_zero (by omega)
  · rintro rfl; rfl
theorem shz_iff (s : Sh) : shz s = true ↔ s = sh0 := by
  unfold shz
  simp only [Bool.and_eq_true, len0, beq_iff_eq]
  constructor
  · rintro ⟨⟨⟨⟨⟨⟨h0, h1⟩, h2⟩, h3⟩, h4⟩, h5⟩, h6⟩
    cases s; simp only at h0 h1 h2 h3 h4 h5 h6; subst h0 h1 h2 h3 h4 h5 h6; rfl
  · rintro rfl; exact ⟨⟨⟨⟨⟨⟨rfl, rfl⟩, rfl⟩, rfl⟩, rfl⟩, rfl⟩, rfl⟩
theorem enz_iff (e : En) : enz e = true ↔ e = en0 := by
  unfold enz
  simp only [Bool.and_eq_true, len0, beq_iff_eq]
  constructor
  · rintro ⟨⟨⟨⟨⟨⟨⟨⟨h0, h1⟩, h2⟩, h3⟩, h4⟩, h5⟩, h6⟩, h7⟩, h8⟩
    cases e; simp only at h0 h1 h2 h3 h4 h5 h6 h7 h8; subst h0 h1 h2 h3 h4 h5 h6 h7 h8; rfl
  · rintro rfl; exact ⟨⟨⟨⟨⟨⟨⟨⟨rfl, rfl⟩, rfl⟩, rfl⟩, rfl⟩, rfl⟩, rfl⟩, rfl⟩, rfl⟩

set_option maxHeartbeats 4000000 in
theorem hard_none_any (w : World) (s : Sh) (a : Sa) :
    Calls Try.prog 80 #[shtV s a] w fun e w' => e = .returned (.bool (shz s)) ∧ Below w.heap.size w w' := by
  obtain ⟨g, hg⟩ : ∃ g, w.heap.size = g := ⟨_, rfl⟩
  rw [hg]
  obtain ⟨V, hV⟩ : ∃ V, shz s = V := ⟨_, rfl⟩
  have HX := Lib.hid hV
  rw [hV]
  clear hV
  have hBx : Below g w (w.alloc (.cells (shC s.i s.t (.slice a.A0 s.ns.length a.c0) s.lim s.nxt (.slice a.A1 s.hs.length a.c1) (.slice a.A2 s.ls.length a.c2)) 29)) := (Below.refl _ _).alloc (by omega) _
  have hb1 : Blk (w.alloc (.cells (shC s.i s.t (.slice a.A0 s.ns.length a.c0) s.lim s.nxt (.slice a.A1 s.hs.length a.c1) (.slice a.A2 s.ls.length a.c2)) 29)) g 29 (shC s.i s.t (.slice a.A0 s.ns.length a.c0) s.lim s.nxt (.slice a.A1 s.hs.length a.c1) (.slice a.A2 s.ls.length a.c2)) := hg ▸ Blk.new _ _ _
  unfold shtV
  go_enter Try.func80, Try.ntmps80
  go_upto_region 1 with (fail)
  change Code.wp _ _ _ _ (w.alloc (.cells (shC s.i s.t (.slice a.A0 s.ns.length a.c0) s.lim s.nxt (.slice a.A1 s.hs.length a.c1) (.slice a.A2 s.ls.length a.c2)) 29))
  generalize (w.alloc (.cells (shC s.i s.t (.slice a.A0 s.ns.length a.c0) s.lim s.nxt (.slice a.A1 s.hs.length a.c1) (.slice a.A2 s.ls.length a.c2)) 29)) = W at hb1 hBx ⊢
  try rw [hg]
  obtain ⟨z0, z1, z2, z3, z4, z5, z6⟩ := hb1.sh
  have hb2 := hb1.alloc (.cells (ledC s.lim s.nxt (.slice a.A1 s.hs.length a.c1) (.slice a.A2 s.ls.length a.c2)) 27)
  have hr2 : Blk (W.alloc (.cells (ledC s.lim s.nxt (.slice a.A1 s.hs.length a.c1) (.slice a.A2 s.ls.length a.c2)) 27)) W.heap.size 27 (ledC s.lim s.nxt (.slice a.A1 s.hs.length a.c1) (.slice a.A2 s.ls.length a.c2)) := Blk.new _ _ _
  have HB := Lib.hid (hBx.alloc (Nat.le_of_lt hb1.lt) (.cells (ledC s.lim s.nxt (.slice a.A1 s.hs.length a.c1) (.slice a.A2 s.ls.length a.c2)) 27))
  have hlt := hb1.lt
  clear hb1 hBx
  go_upto_region 2 with (fail)
  change Code.wp _ _ _ _ (W.alloc (.cells (ledC s.lim s.nxt (.slice a.A1 s.hs.length a.c1) (.slice a.A2 s.ls.length a.c2)) 27))
  generalize hgr : W.heap.size = gr at *
  generalize (W.alloc (.cells (ledC s.lim s.nxt (.slice a.A1 s.hs.length a.c1) (.slice a.A2 s.ls.length a.c2)) 27)) = W2 at hb2 hr2 HB ⊢
  clear z0 z1 z2 z3 z4 z5 z6 hgr
  obtain ⟨z0, z1, z2, z3, z4, z5, z6⟩ := hb2.sh
  obtain ⟨y0, y1, y2, y3⟩ := hr2.led
  clear hb2 hr2
  cases h0 : (s.i == 0)
  · have HV : Hid (false = V) := by
      show _ = _
      rw [← HX.out]
      simp only [shz, h0]
      simp
    go_wp2_with fail
    go_ret
    exact ⟨by rw [HV.out]; rfl, HB.out⟩
  · skip
    cases h1 : (s.t == 0)
    · have HV : Hid (false = V) := by
        show _ = _
        rw [← HX.out]
        simp only [shz, h0, h1]
        simp
      go_wp2_with fail
      go_ret
      exact ⟨by rw [HV.out]; rfl, HB.out⟩
    · skip
      cases h2 : ((s.ns.length : Int) == 0)
      · have HV : Hid (false = V) := by
          show _ = _
          rw [← HX.out]
          simp only [shz, h0, h1, h2]
          simp
        go_wp2_with fail
        go_ret
        exact ⟨by rw [HV.out]; rfl, HB.out⟩
      · skip
        cases h3 : (s.lim == 0)
        · have HV : Hid (false = V) := by
            show _ = _
            rw [← HX.out]
            simp only [shz, h0, h1, h2, h3]
            simp
          go_wp2_with fail
          go_ret
          exact ⟨by rw [HV.out]; rfl, HB.out⟩
        · skip
          cases h4 : (s.nxt == 0)
          · have HV : Hid (false = V) := by
              show _ = _
              rw [← HX.out]
              simp only [shz, h0, h1, h2, h3, h4]
              simp
            go_wp2_with fail
            go_ret
            exact ⟨by rw [HV.out]; rfl, HB.out⟩
          · skip
            cases h5 : ((s.hs.length : Int) == 0)
            · have HV : Hid (false = V) := by
                show _ = _
                rw [← HX.out]
                simp only [shz, h0, h1, h2, h3, h4, h5]
                simp
              go_wp2_with fail
              go_ret
              exact ⟨by rw [HV.out]; rfl, HB.out⟩
            · skip
              cases h6 : ((s.ls.length : Int) == 0)
              · have HV : Hid (false = V) := by
                  show _ = _
                  rw [← HX.out]
                  simp only [shz, h0, h1, h2, h3, h4, h5, h6]
                  simp
                go_wp2_with fail
                go_ret
                exact ⟨by rw [HV.out]; rfl, HB.out⟩
              · skip
                have HV : Hid (true = V) := by
                  show _ = _
                  rw [← HX.out]
                  simp only [shz, h0, h1, h2, h3, h4, h5, h6]
                  simp
                go_wp2_with fail
                go_ret
                exact ⟨by rw [HV.out]; rfl, HB.out⟩

set_option maxHeartbeats 4000000 in
theorem hard_empty_any (w : World) (x : En) (A : Option Addr) (c : Nat) :
    Calls Try.prog 79 #[entV x A c] w fun e w' => e = .returned (.bool (enz x)) ∧ Below w.heap.size w w' := by
  obtain ⟨g, hg⟩ : ∃ g, w.heap.size = g := ⟨_, rfl⟩
  rw [hg]
  obtain ⟨V, hV⟩ : ∃ V, enz x = V := ⟨_, rfl⟩
  have HX := Lib.hid hV
  rw [hV]
  clear hV
  have hBx : Below g w (w.alloc (.cells (ecA ⟨A, c, x⟩) 46)) := (Below.refl _ _).alloc (by omega) _
  have hb1 : Blk (w.alloc (.cells (ecA ⟨A, c, x⟩) 46)) g 46 (ecA ⟨A, c, x⟩) := hg ▸ Blk.new _ _ _
  unfold entV
  go_enter Try.func79, Try.ntmps79
  go_upto_region 1 with (fail)
  change Code.wp _ _ _ _ (w.alloc (.cells (ecA ⟨A, c, x⟩) 46))
  generalize (w.alloc (.cells (ecA ⟨A, c, x⟩) 46)) = W at hb1 hBx ⊢
  try rw [hg]
  obtain ⟨z0, z1, z2, z3, z4, z5, z6, z7, z8⟩ := hb1.ec
  have hb2 := hb1.alloc (.cells (cmdCells x.k x.n x.t (.slice A x.l.length c) x.b x.q x.s x.m) 44)
  have hr2 : Blk (W.alloc (.cells (cmdCells x.k x.n x.t (.slice A x.l.length c) x.b x.q x.s x.m) 44)) W.heap.size 44 (cmdCells x.k x.n x.t (.slice A x.l.length c) x.b x.q x.s x.m) := Blk.new _ _ _
  have HB := Lib.hid (hBx.alloc (Nat.le_of_lt hb1.lt) (.cells (cmdCells x.k x.n x.t (.slice A x.l.length c) x.b x.q x.s x.m) 44))
  have hlt := hb1.lt
  clear hb1 hBx
  go_upto_region 2 with (fail)
  change Code.wp _ _ _ _ (W.alloc (.cells (cmdCells x.k x.n x.t (.slice A x.l.length c) x.b x.q x.s x.m) 44))
  generalize hgr : W.heap.size = gr at *
  generalize (W.alloc (.cells (cmdCells x.k x.n x.t (.slice A x.l.length c) x.b x.q x.s x.m) 44)) = W2 at hb2 hr2 HB ⊢
  clear z0 z1 z2 z3 z4 z5 z6 z7 z8 hgr
  obtain ⟨z0, z1, z2, z3, z4, z5, z6, z7, z8⟩ := hb2.ec
  obtain ⟨y0, y1, y2, y3, y4, y5, y6, y7⟩ := hr2.cmd
  clear hb2 hr2
  cases h0 : (x.tm == 0)
  · have HV : Hid (false = V) := by
      show _ = _
      rw [← HX.out]
      simp only [enz, h0]
      simp
    go_wp2_with fail
    go_ret
    exact ⟨by rw [HV.out]; rfl, HB.out⟩
  · skip
    cases h1 : (x.k == 0)
    · have HV : Hid (false = V) := by
        show _ = _
        rw [← HX.out]
        simp only [enz, h0, h1]
        simp
      go_wp2_with fail
      go_ret
      exact ⟨by rw [HV.out]; rfl, HB.out⟩
    · skip
      cases h2 : (x.n == 0)
      · have HV : Hid (false = V) := by
          show _ = _
          rw [← HX.out]
          simp only [enz, h0, h1, h2]
          simp
        go_wp2_with fail
        go_ret
        exact ⟨by rw [HV.out]; rfl, HB.out⟩
      · skip
        cases h3 : (x.t == 0)
        · have HV : Hid (false = V) := by
            show _ = _
            rw [← HX.out]
            simp only [enz, h0, h1, h2, h3]
            simp
          go_wp2_with fail
          go_ret
          exact ⟨by rw [HV.out]; rfl, HB.out⟩
        · skip
          cases h4 : ((x.l.length : Int) == 0)
          · have HV : Hid (false = V) := by
              show _ = _
              rw [← HX.out]
              simp only [enz, h0, h1, h2, h3, h4]
              simp
            go_wp2_with fail
            go_ret
            exact ⟨by rw [HV.out]; rfl, HB.out⟩
          · skip
            cases h5 : (x.b == 0)
            · have HV : Hid (false = V) := by
                show _ = _
                rw [← HX.out]
                simp only [enz, h0, h1, h2, h3, h4, h5]
                simp
              go_wp2_with fail
              go_ret
              exact ⟨by rw [HV.out]; rfl, HB.out⟩
            · skip
              cases h6 : (x.q == 0)
              · have HV : Hid (false = V) := by
                  show _ = _
                  rw [← HX.out]
                  simp only [enz, h0, h1, h2, h3, h4, h5, h6]
                  simp
                go_wp2_with fail
                go_ret
                exact ⟨by rw [HV.out]; rfl, HB.out⟩
              · skip
                cases h7 : (x.s == 0)
                · have HV : Hid (false = V) := by
                    show _ = _
                    rw [← HX.out]
                    simp only [enz, h0, h1, h2, h3, h4, h5, h6, h7]
                    simp
                  go_wp2_with fail
                  go_ret
                  exact ⟨by rw [HV.out]; rfl, HB.out⟩
                · skip
                  cases h8 : (x.m == 0)
                  · have HV : Hid (false = V) := by
                      show _ = _
                      rw [← HX.out]
                      simp only [enz, h0, h1, h2, h3, h4, h5, h6, h7, h8]
                      simp
                    go_wp2_with fail
                    go_ret
                    exact ⟨by rw [HV.out]; rfl, HB.out⟩
                  · skip
                    have HV : Hid (true = V) := by
                      show _ = _
                      rw [← HX.out]
                      simp only [enz, h0, h1, h2, h3, h4, h5, h6, h7, h8]
                      simp
                    go_wp2_with fail
                    go_ret
                    exact ⟨by rw [HV.out]; rfl, HB.out⟩
end Go.Proofs.Ytadkkhbbempaaaa

/- What may last, by the code: hard.last, hard.Check. -/
namespace Go.Proofs.Ytadkkhbbempaaaa
set_option maxRecDepth 100000
open Go.RowKit

theorem wrap_sum (i : Int) (n : Nat) (hi : 0 ≤ i ∧ i ≤ 4611686018427387904) (hn : n * 88 ≤ 140737488355328) : IntKind.u64.wrap (n : Int) = (n : Int) ∧ IntKind.u64.wrap (i + (n : Int)) = i + (n : Int) := by
  rw [IntKind.wrap_u64, IntKind.wrap_u64]
  omega
set_option maxHeartbeats 2000000 in
theorem hard_last_any (w : World) (h : Hb) (p : Sa) (PA : Option Addr) (PC : Nat) (xs : List Ec) (hi : 0 ≤ h.sh.i ∧ h.sh.i ≤ 4611686018427387904) (hn : xs.length * 88 ≤ 140737488355328) :
    Calls Try.prog 33 #[hrdV h p PA PC xs] w fun e w' => e = .returned (.int .u64 (h.sh.i + (xs.length : Int))) ∧ Below w.heap.size w w' := by
  obtain ⟨g, hg⟩ : ∃ g, w.heap.size = g := ⟨_, rfl⟩
  rw [hg]
  obtain ⟨w1, w2⟩ := wrap_sum h.sh.i xs.length hi hn
  have hB : Below g w (w.alloc (.cells (hrdC h p PA PC xs) 32)) := (Below.refl _ _).alloc (by omega) _
  have hb : Blk (w.alloc (.cells (hrdC h p PA PC xs) 32)) g 32 (hrdC h p PA PC xs) := hg ▸ Blk.new _ _ _
  have HB := Lib.hid hB
  clear hi hn hB
  unfold hrdV
  go_enter Try.func33, Try.ntmps33
  go_upto_region 1 with (fail)
  change Code.wp _ _ _ _ (w.alloc (.cells (hrdC h p PA PC xs) 32))
  generalize (w.alloc (.cells (hrdC h p PA PC xs) 32)) = W at hb HB ⊢
  try rw [hg]
  have z3 := hb.hrd.z3
  have z10 := hb.hrd.z10
  clear hb
  go_wp2
  go_ret
  exact ⟨rfl, HB.out⟩

set_option maxHeartbeats 8000000 in
theorem hard_Check_any (w : World) (h : Hb) (p : Sa) (PA : Option Addr) (PC : Nat) (xs : List Ec) (hin : InH w h p PA PC xs) (wf : (h.hrd xs).Wf) :
    Calls Try.prog 13 #[hrdV h p PA PC xs] w fun e w' => e = .returned (.int .i64 (errRec (decide (h.hrd xs).Ok))) ∧ Below w.heap.size w w' := by
  obtain ⟨g, hg⟩ : ∃ g, w.heap.size = g := ⟨_, rfl⟩
  rw [hg]
  obtain ⟨E, hE⟩ : ∃ E, errRec (decide (h.hrd xs).Ok) = E := ⟨_, rfl⟩
  have HE := Lib.hid hE
  rw [hE]
  have hB : Below g w (w.alloc (.cells (hrdC h p PA PC xs) 32)) := (Below.refl _ _).alloc (by omega) _
  have hb : Blk (w.alloc (.cells (hrdC h p PA PC xs) 32)) g 32 (hrdC h p PA PC xs) := hg ▸ Blk.new _ _ _
  have HIN := Lib.hid hin
  have CS := fun W (k : InSh W h.sh p) => shot_Check_any W h.sh.i h.sh.t p.A0 p.c0 h.sh.ns h.sh.lim h.sh.nxt p.A1 p.c1 h.sh.hs p.A2 p.c2 h.sh.ls k.n k.h k.l wf.sh.hs wf.sh.ls wf.sh.nxt.2
  unfold shV at CS
  have hsml := hin.log.small
  have CL := fun (hi : h.sh.i ≤ 4611686018427387904) W => hard_last_any W h p PA PC xs ⟨wf.sh.i.1, hi⟩ hsml
  unfold hrdV at CL
  have CL := Lib.hid CL
  have HWF := Lib.hid wf
  have hi0 : 0 ≤ h.sh.i := wf.sh.i.1
  have ht0 : 0 ≤ h.sh.t := wf.sh.t.1
  have ht1 := Lib.hid wf.sh.t.2
  clear hE hin wf
  unfold hrdV
  go_enter Try.func13, Try.ntmps13
  go_upto_region 1 with (fail)
  change Code.wp _ _ _ _ (w.alloc (.cells (hrdC h p PA PC xs) 32))
  generalize (w.alloc (.cells (hrdC h p PA PC xs) 32)) = W at hb hB ⊢
  try rw [hg]
  have HB := Lib.hid hB
  clear hB
  obtain ⟨z0, z1, z2, z3, z4, z5, z6, z7, z8, z9, z10⟩ := hb.hrd
  by_cases c1 : h.bt ≤ 4611686018427387904
  rotate_left
  · have d1 : decide (h.bt > 4611686018427387904) = true := decide_eq_true (by omega)
    have HV : Hid (E = 130) := HE.out.symm.trans (rec_bad (fun ok => c1 ok.bt))
    clear c1 hb hi0 ht0
    go_wp2
    go_ret
    exact ⟨by rw [HV.out]; rfl, HB.out⟩
  have d1 : decide (h.bt > 4611686018427387904) = false := decide_eq_false (by omega)
  have C1 := CS W (HIN.out.sh.keep (hg ▸ HB.out))
  by_cases c2 : h.sh.Ok
  rotate_left
  · rw [shot_bad c2] at C1
    have C1 := Lib.hid C1
    have HV : Hid (E = 130) := HE.out.symm.trans (rec_bad (fun ok => c2 ok.sh))
    have hbl := hb.lt
    clear c2 c1 CS hb hi0 ht0
    go_wp2_with fail
    refine C1.out.mono ?_
    rintro e w1 ⟨rfl, hB1⟩
    have HB1 := Lib.hid (HB.out.trans (hB1.mono (Nat.le_of_lt hbl)))
    clear hB1 z0 z1 z2 z3 z4 z5 z6 z7 z8 z9 z10
    go_wp2
    go_ret
    exact ⟨by rw [HV.out]; rfl, HB1.out⟩
  have hc2 : errShot (decide (ShotOk h.sh.i h.sh.t h.sh.ns h.sh.lim h.sh.nxt h.sh.hs h.sh.ls)) = 0 := by
    rw [decide_eq_true (show ShotOk h.sh.i h.sh.t h.sh.ns h.sh.lim h.sh.nxt h.sh.hs h.sh.ls from c2)]
    rfl
  rw [hc2] at C1
  have C1 := Lib.hid C1
  have HC1 := Lib.hid c1
  have HC2 := Lib.hid c2
  have hbl := hb.lt
  clear hc2 c1 c2 CS
  go_wp2_with fail
  refine C1.out.mono ?_
  rintro e w1 ⟨rfl, hB1⟩
  have HB1 := Lib.hid (HB.out.trans (hB1.mono (Nat.le_of_lt hbl)))
  have hb1 := hb.below hB1 hbl
  clear hB1 z0 z1 z2 z3 z4 z5 z6 z7 z8 z9 z10 hb hbl C1 HB d1
  obtain ⟨z0, z1, z2, z3, z4, z5, z6, z7, z8, z9, z10⟩ := hb1.hrd
  by_cases c3 : h.sh.i ≤ 4611686018427387904
  rotate_left
  · have d1 : decide (h.sh.i > 4611686018427387904) = true := decide_eq_true (by omega)
    have HV : Hid (E = 130) := HE.out.symm.trans (rec_bad (fun ok => c3 ok.i))
    clear c3 hb1 hi0 ht0
    go_wp2
    go_ret
    exact ⟨by rw [HV.out]; rfl, HB1.out⟩
  have d1 : decide (h.sh.i > 4611686018427387904) = false := decide_eq_false (by omega)
  have C2 := Lib.hid (CL.out c3 w1)
  have HC3 := Lib.hid c3
  have hbl := hb1.lt
  obtain ⟨LN, hLN⟩ : ∃ LN, h.sh.i + (xs.length : Int) = LN := ⟨_, rfl⟩
  rw [hLN] at C2
  have HLN := Lib.hid hLN
  clear c3 hLN CL
  go_wp2_with fail
  refine C2.out.mono ?_
  rintro e w2 ⟨rfl, hB2⟩
  have HB2 := Lib.hid (HB1.out.trans (hB2.mono (Nat.le_of_lt hbl)))
  have hb2 := hb1.below hB2 hbl
  clear hB2 z0 z1 z2 z3 z4 z5 z6 z7 z8 z9 z10 hb1 hbl C2 HB1 d1
  obtain ⟨z0, z1, z2, z3, z4, z5, z6, z7, z8, z9, z10⟩ := hb2.hrd
  by_cases c4 : LN ≤ 4611686018427387904
  rotate_left
  · have d1 : decide (LN > 4611686018427387904) = true := decide_eq_true (by omega)
    have HV : Hid (E = 130) := HE.out.symm.trans (rec_bad (fun ok => c4 (by rw [← HLN.out]; have := ok.last; simp only [Hb.hrd, List.length_map] at this; exact this)))
    clear c4 hb2 hi0 ht0
    go_wp2
    go_ret
    exact ⟨by rw [HV.out]; rfl, HB2.out⟩
  have d1 : decide (LN > 4611686018427387904) = false := decide_eq_false (by omega)
  have HC4 := Lib.hid c4
  clear c4
  by_cases c5 : h.vt < 0
  · have d2 : decide (h.vt < 0) = true := decide_eq_true c5
    have HV : Hid (E = 130) := HE.out.symm.trans (rec_bad (fun ok => by have := ok.v0; simp only [Hb.hrd] at this; omega))
    clear c5 hb2 hi0 ht0
    go_wp2
    go_ret
    exact ⟨by rw [HV.out]; rfl, HB2.out⟩
  have d2 : decide (h.vt < 0) = false := decide_eq_false c5
  by_cases c6 : h.vt > 7
  · have d3 : decide (h.vt > 7) = true := decide_eq_true c6
    have HV : Hid (E = 130) := HE.out.symm.trans (rec_bad (fun ok => by have := ok.v7; simp only [Hb.hrd] at this; omega))
    clear c6 c5 hb2 hi0 ht0
    go_wp2
    go_ret
    exact ⟨by rw [HV.out]; rfl, HB2.out⟩
  have d3 : decide (h.vt > 7) = false := decide_eq_false c6
  have HC5 : Hid (0 ≤ h.vt) := by show 0 ≤ _; omega
  have HC6 : Hid (h.vt ≤ 7) := by show _ ≤ _; omega
  clear c5 c6
  have HBL := Lib.hid hb2
  clear hb2
  by_cases c7 : h.tm = 0 ∧ h.vt ≠ 0
  · have htm : (h.tm == 0) = true := by simp [c7.1]
    have hvt : (h.vt != 0) = true := bne_iff_ne.2 c7.2
    have HV : Hid (E = 130) := HE.out.symm.trans (rec_bad (fun ok => c7.2 (ok.tv c7.1)))
    clear hi0 ht0 c7
    go_wp2
    go_ret
    exact ⟨by rw [HV.out]; rfl, HB2.out⟩
  have HC7 : Hid (h.tm = 0 → h.vt = 0) := fun q => Classical.not_not.1 (fun q2 => c7 ⟨q, q2⟩)
  obtain ⟨lg, hlg⟩ : ∃ lg, xs.map (·.e) = lg := ⟨_, rfl⟩
  have HLG := Lib.hid hlg
  have hn : xs.length * 88 ≤ 140737488355328 := hsml
  have htt : (h.tm == 0) = false ∨ ((h.tm == 0) = true ∧ (h.vt != 0) = false) := by
    by_cases q : h.tm = 0
    · right
      exact ⟨by simp [q], by simp [HC7.out q]⟩
    · left
      exact beq_eq_false_iff_ne.2 q
  clear c7 hlg hsml hi0 ht0
  rcases htt with htm | ⟨htm, hvt⟩
  all_goals
    go_wp2_with fail
    go_loopw [3, 5, 52] (fun tv _ iv wr => ∃ (k : Nat) (a : Int), tv = .int .u64 a ∧ iv = .int .i64 (k : Int) ∧ k ≤ xs.length ∧ (0 ≤ a ∧ a < 18446744073709551616) ∧ Below g w wr ∧ Blk wr g 32 (hrdC h p PA PC xs) ∧ logOk h.sh.t lg = logOk a (lg.drop k) ∧ lastTm h.sh.t lg = lastTm a (lg.drop k)) (fun _ _ iv _ => xs.length - (intOf iv).toNat)
    case atStart => exact ⟨0, h.sh.t, rfl, rfl, by omega, HWF.out.sh.t, HB2.out, HBL.out, by rw [List.drop_zero], by rw [List.drop_zero]⟩
    case round =>
      clear HB2 HBL z0 z1 z2 z3 z4 z5 z6 z7 z8 z9 z10
      obtain ⟨k, a, rfl, rfl, hk, ha, hB, hbk, hlo, hlt⟩ := hrel
      have HB := Lib.hid hB
      have HBK := Lib.hid hbk
      have HLO := Lib.hid hlo
      have HLT := Lib.hid hlt
      have HA := Lib.hid ha
      clear hlo hlt ha
      by_cases hkl : k < xs.length
      · obtain ⟨b, off, rfl, hbb, hat⟩ := (HIN.out.log.keep (hg ▸ hB)).rows.ec (by omega)
        have hmem := List.getElem_mem hkl
        have hdr : lg.drop k = xs[k].e :: lg.drop (k + 1) := by
          rw [← HLG.out, List.drop_eq_getElem_cons (by simpa using hkl)]
          simp
        have hatk := hat k hkl
        have hinx := (HIN.out.log.keep (hg ▸ hB)).inn _ hmem
        have hwx := HWF.out.log _ (List.mem_map_of_mem hmem)
        obtain ⟨x, hx⟩ : ∃ x, xs[k] = x := ⟨_, rfl⟩
        rw [hx] at hatk hinx hdr hwx
        obtain ⟨x0, x1, x2, x3, x4, x5, x6, x7, x8⟩ := hatk
        rw [hdr] at HLO HLT
        have HINX := Lib.hid hinx
        clear hat hx hmem hdr hinx hB
        have HWX := Lib.hid hwx
        have z10 := hbk.hrd.z10
        obtain ⟨gx, hgx⟩ : ∃ gx, wr.heap.size = gx := ⟨_, rfl⟩
        have hgl : g < gx := hgx ▸ hbk.lt
        have hx1 : Blk (wr.alloc (.cells (ecA x) 46)) gx 46 (ecA x) := hgx ▸ Blk.new _ _ _
        have hb1 := hbk.alloc (.cells (ecA x) 46)
        have hB1 := HB.out.alloc (by omega) (.cells (ecA x) 46)
        have hI1 := HINX.out.keep ((Below.refl wr.heap.size wr).alloc (Nat.le_refl _) (.cells (ecA x) 46))
        clear hwx hbk
        go_upto_region 7 with (fail)
        change Code.wp _ _ _ _ (wr.alloc (.cells (ecA x) 46))
        generalize (wr.alloc (.cells (ecA x) 46)) = W5 at hx1 hb1 hB1 hI1 ⊢
        try rw [hgx]
        clear hgx x0 x1 x2 x3 x4 x5 x6 x7 x8 z10
        have HX1 := Lib.hid hx1
        have HB1 := Lib.hid hb1
        have HBB := Lib.hid hB1
        have HI1 := Lib.hid hI1
        obtain ⟨x0, x1, x2, x3, x4, x5, x6, x7, x8⟩ := hx1.ec
        clear hx1 hb1 hB1 hI1
        have hlt1 : gx < W5.heap.size := HX1.out.lt
        by_cases cm : a ≤ x.e.tm ∧ 1 ≤ x.e.tm
        rotate_left
        · have HV : Hid (E = 130) := HE.out.symm.trans (rec_bad (fun ok => by
            have h1 := ok.log
            simp only [Hb.hrd] at h1
            rw [HLG.out, HLO.out] at h1
            simp only [logOk, Bool.and_eq_true, decide_eq_true_eq] at h1
            exact cm h1.1.1))
          have htm0 := HWX.out.tm.1
          by_cases ca : a < 1
          · have cx : x.e.tm < 1 := by omega
            clear cm htm0
            go_wp2
            go_ret
            exact ⟨by rw [HV.out]; rfl, HBB.out⟩
          · have ca' : 1 ≤ a := by omega
            have cx : x.e.tm < a := by omega
            clear cm htm0 ca
            go_wp2
            go_ret
            exact ⟨by rw [HV.out]; rfl, HBB.out⟩
        have HCM := Lib.hid cm
        have C5 := cmd_Check_any W5 x.e.k x.e.n x.e.t x.A x.c x.e.l x.e.b x.e.q x.e.s x.e.m HI1.out
        unfold cmdV at C5
        obtain ⟨ck, hck⟩ : ∃ ck, x.e.ok = ck := ⟨_, rfl⟩
        have hck2 : codeOk x.e.k x.e.n x.e.t x.e.l x.e.b x.e.q x.e.s x.e.m = ck := hck
        rw [hck2] at C5
        have HCK := Lib.hid hck
        have hca : (a < 1 ∧ 1 ≤ x.e.tm) ∨ (1 ≤ a ∧ a ≤ x.e.tm) := by omega
        clear cm hck hck2
        rcases hca with ⟨ca, cx⟩ | ⟨ca, cx⟩
        all_goals
          cases ck
          · rw [show errCmd false = 40 from rfl] at C5
            have C5 := Lib.hid C5
            have HV : Hid (E = 130) := HE.out.symm.trans (rec_bad (fun ok => by
              have h1 := ok.log
              simp only [Hb.hrd] at h1
              rw [HLG.out, HLO.out] at h1
              simp only [logOk, Bool.and_eq_true] at h1
              rw [HCK.out] at h1
              exact absurd h1.1.2 (by decide)))
            go_wp2_with fail
            refine C5.out.mono ?_
            rintro e w6 ⟨rfl, hB6⟩
            have HB6 := Lib.hid (HBB.out.trans (hB6.mono (by omega)))
            clear hB6
            go_wp2
            go_ret
            exact ⟨by rw [HV.out]; rfl, HB6.out⟩
          · rw [show errCmd true = 0 from rfl] at C5
            have C5 := Lib.hid C5
            have HLO2 : Hid (logOk h.sh.t lg = logOk x.e.tm (lg.drop (k + 1))) := by
              show _ = _
              rw [HLO.out]
              simp only [logOk]
              rw [HCK.out, decide_eq_true HCM.out]
              rfl
            have HLT2 : Hid (lastTm h.sh.t lg = lastTm x.e.tm (lg.drop (k + 1))) := HLT.out
            go_wp2_with fail
            refine C5.out.mono ?_
            rintro e w6 ⟨rfl, hB6⟩
            have HB6 := Lib.hid (HBB.out.trans (hB6.mono (by omega)))
            have HBK6 := Lib.hid (HB1.out.below hB6 HB1.out.lt)
            have hx6 := (HX1.out.below hB6 hlt1).ec.c0
            clear hB6 x0 x1 x2 x3 x4 x5 x6 x7 x8 C5
            go_wp2
            go_roundw
            case rel => exact ⟨k + 1, x.e.tm, rfl, by go_num, by omega, HWX.out.tm, HB6.out, HBK6.out, HLO2.out, HLT2.out⟩
            case measure => simp [intOf]; omega
      · obtain rfl : k = xs.length := by omega
        have hdr : lg.drop xs.length = [] := by
          rw [← HLG.out]
          simp
        rw [hdr] at HLO HLT
        have z1 := hbk.hrd.z1
        have HLX : Hid (logOk h.sh.t lg = true ∧ lastTm h.sh.t lg = a) := ⟨HLO.out, HLT.out⟩
        clear hdr hbk hB
        by_cases c8 : h.tm < a
        · have d8 : decide (h.tm < a) = true := decide_eq_true c8
          have HV : Hid (E = 130) := HE.out.symm.trans (rec_bad (fun ok => by
            have h1 := ok.tm
            simp only [Hb.hrd] at h1
            rw [HLG.out, HLX.out.2] at h1
            omega))
          clear c8
          go_wp2
          go_ret
          exact ⟨by rw [HV.out]; rfl, HB.out⟩
        · have d8 : decide (h.tm < a) = false := decide_eq_false c8
          have HV : Hid (E = 0) := HE.out.symm.trans (rec_good ⟨HC1.out, HC2.out, HC3.out, by simp only [Hb.hrd, List.length_map]; rw [HLN.out]; exact HC4.out, HC5.out, HC6.out, HC7.out, by simp only [Hb.hrd]; rw [HLG.out]; exact HLX.out.1, by simp only [Hb.hrd]; rw [HLG.out, HLX.out.2]; omega⟩)
          clear c8
          go_wp2
          go_ret
          exact ⟨by rw [HV.out]; rfl, HB.out⟩
end Go.Proofs.Ytadkkhbbempaaaa

/- Records: the code's may. -/
namespace Go.Proofs.Ytadkkhbbempaaaa
set_option maxRecDepth 100000
open Go.RowKit

noncomputable instance (s : Sh) : Decidable s.Ok := inferInstanceAs (Decidable (ShotOk s.i s.t s.ns s.lim s.nxt s.hs s.ls))
/-- What the code asks, in its order. -/
noncomputable def mayB (r : Rc) : Bool :=
  !(decide (r.bt > 0) != (r.k == 1)) && (!(decide (r.tm > 0) != (r.k == 2)) && (!(decide (r.ix > 0) != (r.k == 3 || r.k == 4)) && (!decide (r.v < 0) && (!decide (r.v > 7) && (!(!(r.k == 2) && (r.v != 0)) &&
    (!((r.k == 3) && ((r.en.tm == 0) || !r.en.ok)) && (!(!(r.k == 3) && !enz r.en) && (if (r.k == 5) = true then decide r.sh.Ok else shz r.sh && (r.k == 1 || r.k == 2 || r.k == 3 || r.k == 4)))))))))
theorem rc_ext {a b : Rc} (h0 : a.k = b.k) (h1 : a.v = b.v) (h2 : a.bt = b.bt) (h3 : a.tm = b.tm) (h4 : a.ix = b.ix) (h5 : a.en = b.en) (h6 : a.sh = b.sh) : a = b := by
  cases a; cases b; simp only at h0 h1 h2 h3 h4 h5 h6; subst h0 h1 h2 h3 h4 h5 h6; rfl
theorem only_iff (r : Rc) : r.only = r ↔ ((r.k = 2 ∨ r.v = 0) ∧ (r.k = 1 ∨ r.bt = 0) ∧ (r.k = 2 ∨ r.tm = 0) ∧ (r.k = 3 ∨ r.k = 4 ∨ r.ix = 0) ∧ (r.k = 3 ∨ r.en = en0) ∧ (r.k = 5 ∨ r.sh = sh0)) := by
  constructor
  · intro h
    have h1 := congrArg Rc.v h
    have h2 := congrArg Rc.bt h
    have h3 := congrArg Rc.tm h
    have h4 := congrArg Rc.ix h
    have h5 := congrArg Rc.en h
    have h6 := congrArg Rc.sh h
    simp only [Rc.only] at h1 h2 h3 h4 h5 h6
    refine ⟨?_, ?_, ?_, ?_, ?_, ?_⟩
    · by_cases c : r.k = 2
      · exact Or.inl c
      · rw [if_neg c] at h1; exact Or.inr h1.symm
    · by_cases c : r.k = 1
      · exact Or.inl c
      · rw [if_neg c] at h2; exact Or.inr h2.symm
    · by_cases c : r.k = 2
      · exact Or.inl c
      · rw [if_neg c] at h3; exact Or.inr h3.symm
    · by_cases c : r.k = 3 ∨ r.k = 4
      · rcases c with c | c
        · exact Or.inl c
        · exact Or.inr (Or.inl c)
      · rw [if_neg c] at h4; exact Or.inr (Or.inr h4.symm)
    · by_cases c : r.k = 3
      · exact Or.inl c
      · rw [if_neg c] at h5; exact Or.inr h5.symm
    · by_cases c : r.k = 5
      · exact Or.inl c
      · rw [if_neg c] at h6; exact Or.inr h6.symm
  · rintro ⟨h1, h2, h3, h4, h5, h6⟩
    refine rc_ext rfl ?_ ?_ ?_ ?_ ?_ ?_
    · show (if r.k = 2 then r.v else 0) = r.v
      by_cases c : r.k = 2
      · rw [if_pos c]
      · rw [if_neg c]; rcases h1 with h | h
        · exact absurd h c
        · exact h.symm
    · show (if r.k = 1 then r.bt else 0) = r.bt
      by_cases c : r.k = 1
      · rw [if_pos c]
      · rw [if_neg c]; rcases h2 with h | h
        · exact absurd h c
        · exact h.symm
    · show (if r.k = 2 then r.tm else 0) = r.tm
      by_cases c : r.k = 2
      · rw [if_pos c]
      · rw [if_neg c]; rcases h3 with h | h
        · exact absurd h c
        · exact h.symm
    · show (if r.k = 3 ∨ r.k = 4 then r.ix else 0) = r.ix
      by_cases c : r.k = 3 ∨ r.k = 4
      · rw [if_pos c]
      · rw [if_neg c]; rcases h4 with h | h | h
        · exact absurd (Or.inl h) c
        · exact absurd (Or.inr h) c
        · exact h.symm
    · show (if r.k = 3 then r.en else en0) = r.en
      by_cases c : r.k = 3
      · rw [if_pos c]
      · rw [if_neg c]; rcases h5 with h | h
        · exact absurd h c
        · exact h.symm
    · show (if r.k = 5 then r.sh else sh0) = r.sh
      by_cases c : r.k = 5
      · rw [if_pos c]
      · rw [if_neg c]; rcases h6 with h | h
        · exact absurd h c
        · exact h.symm
theorem en0_tm {e : En} (h : 1 ≤ e.tm) : e ≠ en0 := by rintro rfl; exact absurd h (by decide)
theorem mayB_iff (r : Rc) (hb : 0 ≤ r.bt) (ht : 0 ≤ r.tm) (hx : 0 ≤ r.ix) (he : 0 ≤ r.en.tm) : mayB r = true ↔ r.May := by
  unfold Rc.May Rc.kind
  rw [only_iff]
  unfold mayB
  have e1 := @shz_iff r.sh
  have e2 := @enz_iff r.en
  generalize (r.sh = sh0) = P at *
  generalize (r.en = en0) = Q at *
  generalize shz r.sh = p at *
  generalize enz r.en = q at *
  generalize r.en.ok = ok at *
  generalize r.en.tm = etm at *
  generalize r.k = k at *
  generalize r.v = v at *
  generalize r.bt = bt at *
  generalize r.tm = tm at *
  generalize r.ix = ix at *
  simp only [Bool.and_eq_true, Bool.not_eq_true', bne_eq_false_iff_eq, decide_eq_false_iff_not]
  by_cases k1 : k = 1
  · subst k1
    cases p <;> cases q <;> simp_all <;> omega
  · by_cases k2 : k = 2
    · subst k2
      cases p <;> cases q <;> simp_all <;> omega
    · by_cases k3 : k = 3
      · subst k3
        cases p <;> cases ok <;> simp_all <;> omega
      · by_cases k4 : k = 4
        · subst k4
          cases p <;> cases q <;> simp_all <;> omega
        · by_cases k5 : k = 5
          · subst k5
            cases q <;> by_cases so : r.sh.Ok <;> simp_all <;> omega
          · simp [*]
theorem mayB_eq (r : Rc) (wf : r.Wf) : mayB r = decide r.May := by
  have := mayB_iff r wf.bt.1 wf.tm.1 wf.ix.1 wf.en.tm.1
  cases h : mayB r
  · rw [decide_eq_false (fun m => by rw [this.2 m] at h; exact Bool.noConfusion h)]
  · rw [decide_eq_true (this.1 h)]

set_option maxHeartbeats 8000000 in
theorem hard_may_1 (w : World) (r : Rc) (a : Ra) (hin : InR w r a) (wf : r.Wf) (hk : r.k = 1) :
    Calls Try.prog 42 #[recV r a] w fun e w' => e = .returned (.bool (mayB r)) ∧ Below w.heap.size w w' := by
  have k1 : (r.k == 1) = true := by rw [hk]; rfl
  have k2 : (r.k == 2) = false := by rw [hk]; rfl
  have k3 : (r.k == 3) = false := by rw [hk]; rfl
  have k4 : (r.k == 4) = false := by rw [hk]; rfl
  have k5 : (r.k == 5) = false := by rw [hk]; rfl
  clear hk
  obtain ⟨g, hg⟩ : ∃ g, w.heap.size = g := ⟨_, rfl⟩
  rw [hg]
  obtain ⟨V, hV⟩ : ∃ V, mayB r = V := ⟨_, rfl⟩
  have HX := Lib.hid hV
  rw [hV]
  clear hV
  have hBx : Below g w (w.alloc (.cells (recC r a) 48)) := (Below.refl _ _).alloc (by omega) _
  have hb1 : Blk (w.alloc (.cells (recC r a) 48)) g 48 (recC r a) := hg ▸ Blk.new _ _ _
  have HIN := Lib.hid (hin.keep (hg ▸ hBx))
  have HW := Lib.hid wf
  clear hin wf
  unfold recV
  go_enter Try.func42, Try.ntmps42
  go_upto_region 1 with (fail)
  change Code.wp _ _ _ _ (w.alloc (.cells (recC r a) 48))
  generalize (w.alloc (.cells (recC r a) 48)) = W at hb1 hBx HIN ⊢
  try rw [hg]
  have HB := Lib.hid hBx
  have hltg : g ≤ W.heap.size := Nat.le_of_lt hb1.lt
  obtain ⟨z0, z1, z2, z3, z4, z5, z6, z7, z8, z9, z10, z11, z12, z13, z14, z15, z16, z17, z18, z19, z20⟩ := hb1.rc
  have hltg' := hb1.lt
  have HBLK := Lib.hid (fun m => (hb1.drewN m))
  clear hBx hb1 hg
  go_quiet (fail)
  cases c0 : (decide (r.bt > 0))
  · skip
    have HV : Hid (false = V) := by
      show _ = _
      rw [← HX.out]
      simp only [mayB, k1, k2, k3, k4, k5, c0]
      try simp
      try rfl
    go_wp2_with fail
    go_ret
    exact ⟨by rw [HV.out]; rfl, below_drewN HB.out _⟩
  cases c1 : (decide (r.tm > 0))
  rotate_left
  · skip
    have HV : Hid (false = V) := by
      show _ = _
      rw [← HX.out]
      simp only [mayB, k1, k2, k3, k4, k5, c0, c1]
      try simp
      try rfl
    go_wp2_with fail
    go_ret
    exact ⟨by rw [HV.out]; rfl, below_drewN HB.out _⟩
  cases c2 : (decide (r.ix > 0))
  rotate_left
  · skip
    have HV : Hid (false = V) := by
      show _ = _
      rw [← HX.out]
      simp only [mayB, k1, k2, k3, k4, k5, c0, c1, c2]
      try simp
      try rfl
    go_wp2_with fail
    go_ret
    exact ⟨by rw [HV.out]; rfl, below_drewN HB.out _⟩
  cases c3 : (decide (r.v < 0))
  rotate_left
  · skip
    have HV : Hid (false = V) := by
      show _ = _
      rw [← HX.out]
      simp only [mayB, k1, k2, k3, k4, k5, c0, c1, c2, c3]
      try simp
      try rfl
    go_wp2_with fail
    go_ret
    exact ⟨by rw [HV.out]; rfl, below_drewN HB.out _⟩
  cases c4 : (decide (r.v > 7))
  rotate_left
  · skip
    have HV : Hid (false = V) := by
      show _ = _
      rw [← HX.out]
      simp only [mayB, k1, k2, k3, k4, k5, c0, c1, c2, c3, c4]
      try simp
      try rfl
    go_wp2_with fail
    go_ret
    exact ⟨by rw [HV.out]; rfl, below_drewN HB.out _⟩
  cases c5 : (r.v != 0)
  rotate_left
  · skip
    have HV : Hid (false = V) := by
      show _ = _
      rw [← HX.out]
      simp only [mayB, k1, k2, k3, k4, k5, c0, c1, c2, c3, c4, c5]
      try simp
      try rfl
    go_wp2_with fail
    go_ret
    exact ⟨by rw [HV.out]; rfl, below_drewN HB.out _⟩
  have C := fun m => hard_empty_any (W.drewN m) r.en a.A a.c
  unfold entV at C
  cases ho : enz r.en
  · have HV : Hid (false = V) := by
      show _ = _
      rw [← HX.out]
      simp only [mayB, k1, k2, k3, k4, k5, c0, c1, c2, c3, c4, c5, ho]
      try simp
    rw [ho] at C
    have C := Lib.hid C
    clear ho
    go_wp2_with fail
    refine (C.out _).mono ?_
    rintro e w2 ⟨rfl, hB2⟩
    have HB2 := Lib.hid ((below_drewN HB.out _).trans (hB2.mono hltg))
    clear hB2
    go_wp2_with fail
    go_ret
    exact ⟨by rw [HV.out]; rfl, HB2.out⟩
  rw [ho] at C
  have C := Lib.hid C
  have HO := Lib.hid ho
  clear ho
  go_wp2_with fail
  refine (C.out _).mono ?_
  rintro e w2 ⟨rfl, hB2⟩
  have HB2 := Lib.hid ((below_drewN HB.out _).trans (hB2.mono hltg))
  have HINB := Lib.hid ((HIN.out.keep (below_drewN (Below.refl _ _) _)).keep hB2)
  have hlt2 : g ≤ w2.heap.size := Nat.le_trans hltg hB2.size
  have hb2 := (HBLK.out _).below hB2 hltg'
  clear z0 z1 z2 z3 z4 z5 z6 z7 z8 z9 z10 z11 z12 z13 z14 z15 z16 z17 z18 z19 z20 hB2 C
  obtain ⟨z0, z1, z2, z3, z4, z5, z6, z7, z8, z9, z10, z11, z12, z13, z14, z15, z16, z17, z18, z19, z20⟩ := hb2.rc
  clear hb2 HBLK
  have C := hard_none_any w2 r.sh a.s
  unfold shtV at C
  cases so : shz r.sh
  · have HV : Hid (false = V) := by
      show _ = _
      rw [← HX.out]
      simp only [mayB, k1, k2, k3, k4, k5, c0, c1, c2, c3, c4, c5, HO.out, so]
      try simp
    rw [so] at C
    have C := Lib.hid C
    clear so
    go_wp2_with fail
    refine C.out.mono ?_
    rintro e w3 ⟨rfl, hB3⟩
    have HB3 := Lib.hid (HB2.out.trans (hB3.mono hlt2))
    clear hB3
    go_wp2_with fail
    go_ret
    exact ⟨by rw [HV.out]; rfl, HB3.out⟩
  · have HV : Hid (true = V) := by
      show _ = _
      rw [← HX.out]
      simp only [mayB, k1, k2, k3, k4, k5, c0, c1, c2, c3, c4, c5, HO.out, so]
      try simp
    rw [so] at C
    have C := Lib.hid C
    clear so
    go_wp2_with fail
    refine C.out.mono ?_
    rintro e w3 ⟨rfl, hB3⟩
    have HB3 := Lib.hid (HB2.out.trans (hB3.mono hlt2))
    clear hB3
    go_wp2_with fail
    go_ret
    exact ⟨by rw [HV.out]; rfl, HB3.out⟩

set_option maxHeartbeats 8000000 in
theorem hard_may_2 (w : World) (r : Rc) (a : Ra) (hin : InR w r a) (wf : r.Wf) (hk : r.k = 2) :
    Calls Try.prog 42 #[recV r a] w fun e w' => e = .returned (.bool (mayB r)) ∧ Below w.heap.size w w' := by
  have k1 : (r.k == 1) = false := by rw [hk]; rfl
  have k2 : (r.k == 2) = true := by rw [hk]; rfl
  have k3 : (r.k == 3) = false := by rw [hk]; rfl
  have k4 : (r.k == 4) = false := by rw [hk]; rfl
  have k5 : (r.k == 5) = false := by rw [hk]; rfl
  clear hk
  obtain ⟨g, hg⟩ : ∃ g, w.heap.size = g := ⟨_, rfl⟩
  rw [hg]
  obtain ⟨V, hV⟩ : ∃ V, mayB r = V := ⟨_, rfl⟩
  have HX := Lib.hid hV
  rw [hV]
  clear hV
  have hBx : Below g w (w.alloc (.cells (recC r a) 48)) := (Below.refl _ _).alloc (by omega) _
  have hb1 : Blk (w.alloc (.cells (recC r a) 48)) g 48 (recC r a) := hg ▸ Blk.new _ _ _
  have HIN := Lib.hid (hin.keep (hg ▸ hBx))
  have HW := Lib.hid wf
  clear hin wf
  unfold recV
  go_enter Try.func42, Try.ntmps42
  go_upto_region 1 with (fail)
  change Code.wp _ _ _ _ (w.alloc (.cells (recC r a) 48))
  generalize (w.alloc (.cells (recC r a) 48)) = W at hb1 hBx HIN ⊢
  try rw [hg]
  have HB := Lib.hid hBx
  have hltg : g ≤ W.heap.size := Nat.le_of_lt hb1.lt
  obtain ⟨z0, z1, z2, z3, z4, z5, z6, z7, z8, z9, z10, z11, z12, z13, z14, z15, z16, z17, z18, z19, z20⟩ := hb1.rc
  have hltg' := hb1.lt
  have HBLK := Lib.hid (fun m => (hb1.drewN m))
  clear hBx hb1 hg
  go_quiet (fail)
  cases c0 : (decide (r.bt > 0))
  rotate_left
  · skip
    have HV : Hid (false = V) := by
      show _ = _
      rw [← HX.out]
      simp only [mayB, k1, k2, k3, k4, k5, c0]
      try simp
      try rfl
    go_wp2_with fail
    go_ret
    exact ⟨by rw [HV.out]; rfl, below_drewN HB.out _⟩
  cases c1 : (decide (r.tm > 0))
  · skip
    have HV : Hid (false = V) := by
      show _ = _
      rw [← HX.out]
      simp only [mayB, k1, k2, k3, k4, k5, c0, c1]
      try simp
      try rfl
    go_wp2_with fail
    go_ret
    exact ⟨by rw [HV.out]; rfl, below_drewN HB.out _⟩
  cases c2 : (decide (r.ix > 0))
  rotate_left
  · skip
    have HV : Hid (false = V) := by
      show _ = _
      rw [← HX.out]
      simp only [mayB, k1, k2, k3, k4, k5, c0, c1, c2]
      try simp
      try rfl
    go_wp2_with fail
    go_ret
    exact ⟨by rw [HV.out]; rfl, below_drewN HB.out _⟩
  cases c3 : (decide (r.v < 0))
  rotate_left
  · skip
    have HV : Hid (false = V) := by
      show _ = _
      rw [← HX.out]
      simp only [mayB, k1, k2, k3, k4, k5, c0, c1, c2, c3]
      try simp
      try rfl
    go_wp2_with fail
    go_ret
    exact ⟨by rw [HV.out]; rfl, below_drewN HB.out _⟩
  cases c4 : (decide (r.v > 7))
  rotate_left
  · skip
    have HV : Hid (false = V) := by
      show _ = _
      rw [← HX.out]
      simp only [mayB, k1, k2, k3, k4, k5, c0, c1, c2, c3, c4]
      try simp
      try rfl
    go_wp2_with fail
    go_ret
    exact ⟨by rw [HV.out]; rfl, below_drewN HB.out _⟩
  have C := fun m => hard_empty_any (W.drewN m) r.en a.A a.c
  unfold entV at C
  cases ho : enz r.en
  · have HV : Hid (false = V) := by
      show _ = _
      rw [← HX.out]
      simp only [mayB, k1, k2, k3, k4, k5, c0, c1, c2, c3, c4, ho]
      try simp
    rw [ho] at C
    have C := Lib.hid C
    clear ho
    go_wp2_with fail
    refine (C.out _).mono ?_
    rintro e w2 ⟨rfl, hB2⟩
    have HB2 := Lib.hid ((below_drewN HB.out _).trans (hB2.mono hltg))
    clear hB2
    go_wp2_with fail
    go_ret
    exact ⟨by rw [HV.out]; rfl, HB2.out⟩
  rw [ho] at C
  have C := Lib.hid C
  have HO := Lib.hid ho
  clear ho
  go_wp2_with fail
  refine (C.out _).mono ?_
  rintro e w2 ⟨rfl, hB2⟩
  have HB2 := Lib.hid ((below_drewN HB.out _).trans (hB2.mono hltg))
  have HINB := Lib.hid ((HIN.out.keep (below_drewN (Below.refl _ _) _)).keep hB2)
  have hlt2 : g ≤ w2.heap.size := Nat.le_trans hltg hB2.size
  have hb2 := (HBLK.out _).below hB2 hltg'
  clear z0 z1 z2 z3 z4 z5 z6 z7 z8 z9 z10 z11 z12 z13 z14 z15 z16 z17 z18 z19 z20 hB2 C
  obtain ⟨z0, z1, z2, z3, z4, z5, z6, z7, z8, z9, z10, z11, z12, z13, z14, z15, z16, z17, z18, z19, z20⟩ := hb2.rc
  clear hb2 HBLK
  have C := hard_none_any w2 r.sh a.s
  unfold shtV at C
  cases so : shz r.sh
  · have HV : Hid (false = V) := by
      show _ = _
      rw [← HX.out]
      simp only [mayB, k1, k2, k3, k4, k5, c0, c1, c2, c3, c4, HO.out, so]
      try simp
    rw [so] at C
    have C := Lib.hid C
    clear so
    go_wp2_with fail
    refine C.out.mono ?_
    rintro e w3 ⟨rfl, hB3⟩
    have HB3 := Lib.hid (HB2.out.trans (hB3.mono hlt2))
    clear hB3
    go_wp2_with fail
    go_ret
    exact ⟨by rw [HV.out]; rfl, HB3.out⟩
  · have HV : Hid (true = V) := by
      show _ = _
      rw [← HX.out]
      simp only [mayB, k1, k2, k3, k4, k5, c0, c1, c2, c3, c4, HO.out, so]
      try simp
    rw [so] at C
    have C := Lib.hid C
    clear so
    go_wp2_with fail
    refine C.out.mono ?_
    rintro e w3 ⟨rfl, hB3⟩
    have HB3 := Lib.hid (HB2.out.trans (hB3.mono hlt2))
    clear hB3
    go_wp2_with fail
    go_ret
    exact ⟨by rw [HV.out]; rfl, HB3.out⟩

set_option maxHeartbeats 8000000 in
theorem hard_may_3 (w : World) (r : Rc) (a : Ra) (hin : InR w r a) (wf : r.Wf) (hk : r.k = 3) :
    Calls Try.prog 42 #[recV r a] w fun e w' => e = .returned (.bool (mayB r)) ∧ Below w.heap.size w w' := by
  have k1 : (r.k == 1) = false := by rw [hk]; rfl
  have k2 : (r.k == 2) = false := by rw [hk]; rfl
  have k3 : (r.k == 3) = true := by rw [hk]; rfl
  have k4 : (r.k == 4) = false := by rw [hk]; rfl
  have k5 : (r.k == 5) = false := by rw [hk]; rfl
  clear hk
  obtain ⟨g, hg⟩ : ∃ g, w.heap.size = g := ⟨_, rfl⟩
  rw [hg]
  obtain ⟨V, hV⟩ : ∃ V, mayB r = V := ⟨_, rfl⟩
  have HX := Lib.hid hV
  rw [hV]
  clear hV
  have hBx : Below g w (w.alloc (.cells (recC r a) 48)) := (Below.refl _ _).alloc (by omega) _
  have hb1 : Blk (w.alloc (.cells (recC r a) 48)) g 48 (recC r a) := hg ▸ Blk.new _ _ _
  have HIN := Lib.hid (hin.keep (hg ▸ hBx))
  have HW := Lib.hid wf
  clear hin wf
  unfold recV
  go_enter Try.func42, Try.ntmps42
  go_upto_region 1 with (fail)
  change Code.wp _ _ _ _ (w.alloc (.cells (recC r a) 48))
  generalize (w.alloc (.cells (recC r a) 48)) = W at hb1 hBx HIN ⊢
  try rw [hg]
  have HB := Lib.hid hBx
  have hltg : g ≤ W.heap.size := Nat.le_of_lt hb1.lt
  obtain ⟨z0, z1, z2, z3, z4, z5, z6, z7, z8, z9, z10, z11, z12, z13, z14, z15, z16, z17, z18, z19, z20⟩ := hb1.rc
  have hltg' := hb1.lt
  have HBLK := Lib.hid (fun m => (hb1.drewN m))
  clear hBx hb1 hg
  go_quiet (fail)
  cases c0 : (decide (r.bt > 0))
  rotate_left
  · skip
    have HV : Hid (false = V) := by
      show _ = _
      rw [← HX.out]
      simp only [mayB, k1, k2, k3, k4, k5, c0]
      try simp
      try rfl
    go_wp2_with fail
    go_ret
    exact ⟨by rw [HV.out]; rfl, below_drewN HB.out _⟩
  cases c1 : (decide (r.tm > 0))
  rotate_left
  · skip
    have HV : Hid (false = V) := by
      show _ = _
      rw [← HX.out]
      simp only [mayB, k1, k2, k3, k4, k5, c0, c1]
      try simp
      try rfl
    go_wp2_with fail
    go_ret
    exact ⟨by rw [HV.out]; rfl, below_drewN HB.out _⟩
  cases c2 : (decide (r.ix > 0))
  · skip
    have HV : Hid (false = V) := by
      show _ = _
      rw [← HX.out]
      simp only [mayB, k1, k2, k3, k4, k5, c0, c1, c2]
      try simp
      try rfl
    go_wp2_with fail
    go_ret
    exact ⟨by rw [HV.out]; rfl, below_drewN HB.out _⟩
  cases c3 : (decide (r.v < 0))
  rotate_left
  · skip
    have HV : Hid (false = V) := by
      show _ = _
      rw [← HX.out]
      simp only [mayB, k1, k2, k3, k4, k5, c0, c1, c2, c3]
      try simp
      try rfl
    go_wp2_with fail
    go_ret
    exact ⟨by rw [HV.out]; rfl, below_drewN HB.out _⟩
  cases c4 : (decide (r.v > 7))
  rotate_left
  · skip
    have HV : Hid (false = V) := by
      show _ = _
      rw [← HX.out]
      simp only [mayB, k1, k2, k3, k4, k5, c0, c1, c2, c3, c4]
      try simp
      try rfl
    go_wp2_with fail
    go_ret
    exact ⟨by rw [HV.out]; rfl, below_drewN HB.out _⟩
  cases c5 : (r.v != 0)
  rotate_left
  · skip
    have HV : Hid (false = V) := by
      show _ = _
      rw [← HX.out]
      simp only [mayB, k1, k2, k3, k4, k5, c0, c1, c2, c3, c4, c5]
      try simp
      try rfl
    go_wp2_with fail
    go_ret
    exact ⟨by rw [HV.out]; rfl, below_drewN HB.out _⟩
  cases c6 : (r.en.tm == 0)
  rotate_left
  · skip
    have HV : Hid (false = V) := by
      show _ = _
      rw [← HX.out]
      simp only [mayB, k1, k2, k3, k4, k5, c0, c1, c2, c3, c4, c5, c6]
      try simp
      try rfl
    go_wp2_with fail
    go_ret
    exact ⟨by rw [HV.out]; rfl, below_drewN HB.out _⟩
  have C := fun m => cmd_Check_any (W.drewN m) r.en.k r.en.n r.en.t a.A a.c r.en.l r.en.b r.en.q r.en.s r.en.m ((HIN.out.keep (below_drewN (Below.refl _ _) m)).l)
  unfold cmdV at C
  have HM := Lib.hid HIN.out.sh
  cases ho : r.en.ok
  · have HV : Hid (false = V) := by
      show _ = _
      rw [← HX.out]
      simp only [mayB, k1, k2, k3, k4, k5, c0, c1, c2, c3, c4, c5, c6, ho]
      try simp
    simp only [show codeOk r.en.k r.en.n r.en.t r.en.l r.en.b r.en.q r.en.s r.en.m = false from ho] at C
    have C := Lib.hid C
    clear ho
    go_wp2_with fail
    refine (C.out _).mono ?_
    rintro e w2 ⟨rfl, hB2⟩
    have HB2 := Lib.hid ((below_drewN HB.out _).trans (hB2.mono hltg))
    clear hB2
    go_wp2_with fail
    go_ret
    exact ⟨by rw [HV.out]; rfl, HB2.out⟩
  simp only [show codeOk r.en.k r.en.n r.en.t r.en.l r.en.b r.en.q r.en.s r.en.m = true from ho] at C
  have C := Lib.hid C
  have HO := Lib.hid ho
  clear ho
  go_wp2_with fail
  refine (C.out _).mono ?_
  rintro e w2 ⟨rfl, hB2⟩
  have HB2 := Lib.hid ((below_drewN HB.out _).trans (hB2.mono hltg))
  have HINB := Lib.hid ((HIN.out.keep (below_drewN (Below.refl _ _) _)).keep hB2)
  have hlt2 : g ≤ w2.heap.size := Nat.le_trans hltg hB2.size
  have hb2 := (HBLK.out _).below hB2 hltg'
  clear z0 z1 z2 z3 z4 z5 z6 z7 z8 z9 z10 z11 z12 z13 z14 z15 z16 z17 z18 z19 z20 hB2 C
  obtain ⟨z0, z1, z2, z3, z4, z5, z6, z7, z8, z9, z10, z11, z12, z13, z14, z15, z16, z17, z18, z19, z20⟩ := hb2.rc
  clear hb2 HBLK
  have C := hard_none_any w2 r.sh a.s
  unfold shtV at C
  cases so : shz r.sh
  · have HV : Hid (false = V) := by
      show _ = _
      rw [← HX.out]
      simp only [mayB, k1, k2, k3, k4, k5, c0, c1, c2, c3, c4, c5, c6, HO.out, so]
      try simp
    rw [so] at C
    have C := Lib.hid C
    clear so
    go_wp2_with fail
    refine C.out.mono ?_
    rintro e w3 ⟨rfl, hB3⟩
    have HB3 := Lib.hid (HB2.out.trans (hB3.mono hlt2))
    clear hB3
    go_wp2_with fail
    go_ret
    exact ⟨by rw [HV.out]; rfl, HB3.out⟩
  · have HV : Hid (true = V) := by
      show _ = _
      rw [← HX.out]
      simp only [mayB, k1, k2, k3, k4, k5, c0, c1, c2, c3, c4, c5, c6, HO.out, so]
      try simp
    rw [so] at C
    have C := Lib.hid C
    clear so
    go_wp2_with fail
    refine C.out.mono ?_
    rintro e w3 ⟨rfl, hB3⟩
    have HB3 := Lib.hid (HB2.out.trans (hB3.mono hlt2))
    clear hB3
    go_wp2_with fail
    go_ret
    exact ⟨by rw [HV.out]; rfl, HB3.out⟩

set_option maxHeartbeats 8000000 in
theorem hard_may_4 (w : World) (r : Rc) (a : Ra) (hin : InR w r a) (wf : r.Wf) (hk : r.k = 4) :
    Calls Try.prog 42 #[recV r a] w fun e w' => e = .returned (.bool (mayB r)) ∧ Below w.heap.size w w' := by
  have k1 : (r.k == 1) = false := by rw [hk]; rfl
  have k2 : (r.k == 2) = false := by rw [hk]; rfl
  have k3 : (r.k == 3) = false := by rw [hk]; rfl
  have k4 : (r.k == 4) = true := by rw [hk]; rfl
  have k5 : (r.k == 5) = false := by rw [hk]; rfl
  clear hk
  obtain ⟨g, hg⟩ : ∃ g, w.heap.size = g := ⟨_, rfl⟩
  rw [hg]
  obtain ⟨V, hV⟩ : ∃ V, mayB r = V := ⟨_, rfl⟩
  have HX := Lib.hid hV
  rw [hV]
  clear hV
  have hBx : Below g w (w.alloc (.cells (recC r a) 48)) := (Below.refl _ _).alloc (by omega) _
  have hb1 : Blk (w.alloc (.cells (recC r a) 48)) g 48 (recC r a) := hg ▸ Blk.new _ _ _
  have HIN := Lib.hid (hin.keep (hg ▸ hBx))
  have HW := Lib.hid wf
  clear hin wf
  unfold recV
  go_enter Try.func42, Try.ntmps42
  go_upto_region 1 with (fail)
  change Code.wp _ _ _ _ (w.alloc (.cells (recC r a) 48))
  generalize (w.alloc (.cells (recC r a) 48)) = W at hb1 hBx HIN ⊢
  try rw [hg]
  have HB := Lib.hid hBx
  have hltg : g ≤ W.heap.size := Nat.le_of_lt hb1.lt
  obtain ⟨z0, z1, z2, z3, z4, z5, z6, z7, z8, z9, z10, z11, z12, z13, z14, z15, z16, z17, z18, z19, z20⟩ := hb1.rc
  have hltg' := hb1.lt
  have HBLK := Lib.hid (fun m => (hb1.drewN m))
  clear hBx hb1 hg
  go_quiet (fail)
  cases c0 : (decide (r.bt > 0))
  rotate_left
  · skip
    have HV : Hid (false = V) := by
      show _ = _
      rw [← HX.out]
      simp only [mayB, k1, k2, k3, k4, k5, c0]
      try simp
      try rfl
    go_wp2_with fail
    go_ret
    exact ⟨by rw [HV.out]; rfl, below_drewN HB.out _⟩
  cases c1 : (decide (r.tm > 0))
  rotate_left
  · skip
    have HV : Hid (false = V) := by
      show _ = _
      rw [← HX.out]
      simp only [mayB, k1, k2, k3, k4, k5, c0, c1]
      try simp
      try rfl
    go_wp2_with fail
    go_ret
    exact ⟨by rw [HV.out]; rfl, below_drewN HB.out _⟩
  cases c2 : (decide (r.ix > 0))
  · skip
    have HV : Hid (false = V) := by
      show _ = _
      rw [← HX.out]
      simp only [mayB, k1, k2, k3, k4, k5, c0, c1, c2]
      try simp
      try rfl
    go_wp2_with fail
    go_ret
    exact ⟨by rw [HV.out]; rfl, below_drewN HB.out _⟩
  cases c3 : (decide (r.v < 0))
  rotate_left
  · skip
    have HV : Hid (false = V) := by
      show _ = _
      rw [← HX.out]
      simp only [mayB, k1, k2, k3, k4, k5, c0, c1, c2, c3]
      try simp
      try rfl
    go_wp2_with fail
    go_ret
    exact ⟨by rw [HV.out]; rfl, below_drewN HB.out _⟩
  cases c4 : (decide (r.v > 7))
  rotate_left
  · skip
    have HV : Hid (false = V) := by
      show _ = _
      rw [← HX.out]
      simp only [mayB, k1, k2, k3, k4, k5, c0, c1, c2, c3, c4]
      try simp
      try rfl
    go_wp2_with fail
    go_ret
    exact ⟨by rw [HV.out]; rfl, below_drewN HB.out _⟩
  cases c5 : (r.v != 0)
  rotate_left
  · skip
    have HV : Hid (false = V) := by
      show _ = _
      rw [← HX.out]
      simp only [mayB, k1, k2, k3, k4, k5, c0, c1, c2, c3, c4, c5]
      try simp
      try rfl
    go_wp2_with fail
    go_ret
    exact ⟨by rw [HV.out]; rfl, below_drewN HB.out _⟩
  have C := fun m => hard_empty_any (W.drewN m) r.en a.A a.c
  unfold entV at C
  cases ho : enz r.en
  · have HV : Hid (false = V) := by
      show _ = _
      rw [← HX.out]
      simp only [mayB, k1, k2, k3, k4, k5, c0, c1, c2, c3, c4, c5, ho]
      try simp
    rw [ho] at C
    have C := Lib.hid C
    clear ho
    go_wp2_with fail
    refine (C.out _).mono ?_
    rintro e w2 ⟨rfl, hB2⟩
    have HB2 := Lib.hid ((below_drewN HB.out _).trans (hB2.mono hltg))
    clear hB2
    go_wp2_with fail
    go_ret
    exact ⟨by rw [HV.out]; rfl, HB2.out⟩
  rw [ho] at C
  have C := Lib.hid C
  have HO := Lib.hid ho
  clear ho
  go_wp2_with fail
  refine (C.out _).mono ?_
  rintro e w2 ⟨rfl, hB2⟩
  have HB2 := Lib.hid ((below_drewN HB.out _).trans (hB2.mono hltg))
  have HINB := Lib.hid ((HIN.out.keep (below_drewN (Below.refl _ _) _)).keep hB2)
  have hlt2 : g ≤ w2.heap.size := Nat.le_trans hltg hB2.size
  have hb2 := (HBLK.out _).below hB2 hltg'
  clear z0 z1 z2 z3 z4 z5 z6 z7 z8 z9 z10 z11 z12 z13 z14 z15 z16 z17 z18 z19 z20 hB2 C
  obtain ⟨z0, z1, z2, z3, z4, z5, z6, z7, z8, z9, z10, z11, z12, z13, z14, z15, z16, z17, z18, z19, z20⟩ := hb2.rc
  clear hb2 HBLK
  have C := hard_none_any w2 r.sh a.s
  unfold shtV at C
  cases so : shz r.sh
  · have HV : Hid (false = V) := by
      show _ = _
      rw [← HX.out]
      simp only [mayB, k1, k2, k3, k4, k5, c0, c1, c2, c3, c4, c5, HO.out, so]
      try simp
    rw [so] at C
    have C := Lib.hid C
    clear so
    go_wp2_with fail
    refine C.out.mono ?_
    rintro e w3 ⟨rfl, hB3⟩
    have HB3 := Lib.hid (HB2.out.trans (hB3.mono hlt2))
    clear hB3
    go_wp2_with fail
    go_ret
    exact ⟨by rw [HV.out]; rfl, HB3.out⟩
  · have HV : Hid (true = V) := by
      show _ = _
      rw [← HX.out]
      simp only [mayB, k1, k2, k3, k4, k5, c0, c1, c2, c3, c4, c5, HO.out, so]
      try simp
    rw [so] at C
    have C := Lib.hid C
    clear so
    go_wp2_with fail
    refine C.out.mono ?_
    rintro e w3 ⟨rfl, hB3⟩
    have HB3 := Lib.hid (HB2.out.trans (hB3.mono hlt2))
    clear hB3
    go_wp2_with fail
    go_ret
    exact ⟨by rw [HV.out]; rfl, HB3.out⟩

set_option maxHeartbeats 8000000 in
theorem hard_may_5 (w : World) (r : Rc) (a : Ra) (hin : InR w r a) (wf : r.Wf) (hk : r.k = 5) :
    Calls Try.prog 42 #[recV r a] w fun e w' => e = .returned (.bool (mayB r)) ∧ Below w.heap.size w w' := by
  have k1 : (r.k == 1) = false := by rw [hk]; rfl
  have k2 : (r.k == 2) = false := by rw [hk]; rfl
  have k3 : (r.k == 3) = false := by rw [hk]; rfl
  have k4 : (r.k == 4) = false := by rw [hk]; rfl
  have k5 : (r.k == 5) = true := by rw [hk]; rfl
  clear hk
  obtain ⟨g, hg⟩ : ∃ g, w.heap.size = g := ⟨_, rfl⟩
  rw [hg]
  obtain ⟨V, hV⟩ : ∃ V, mayB r = V := ⟨_, rfl⟩
  have HX := Lib.hid hV
  rw [hV]
  clear hV
  have hBx : Below g w (w.alloc (.cells (recC r a) 48)) := (Below.refl _ _).alloc (by omega) _
  have hb1 : Blk (w.alloc (.cells (recC r a) 48)) g 48 (recC r a) := hg ▸ Blk.new _ _ _
  have HIN := Lib.hid (hin.keep (hg ▸ hBx))
  have HW := Lib.hid wf
  clear hin wf
  unfold recV
  go_enter Try.func42, Try.ntmps42
  go_upto_region 1 with (fail)
  change Code.wp _ _ _ _ (w.alloc (.cells (recC r a) 48))
  generalize (w.alloc (.cells (recC r a) 48)) = W at hb1 hBx HIN ⊢
  try rw [hg]
  have HB := Lib.hid hBx
  have hltg : g ≤ W.heap.size := Nat.le_of_lt hb1.lt
  obtain ⟨z0, z1, z2, z3, z4, z5, z6, z7, z8, z9, z10, z11, z12, z13, z14, z15, z16, z17, z18, z19, z20⟩ := hb1.rc
  have hltg' := hb1.lt
  have HBLK := Lib.hid (fun m => (hb1.drewN m))
  clear hBx hb1 hg
  go_quiet (fail)
  cases c0 : (decide (r.bt > 0))
  rotate_left
  · skip
    have HV : Hid (false = V) := by
      show _ = _
      rw [← HX.out]
      simp only [mayB, k1, k2, k3, k4, k5, c0]
      try simp
      try rfl
    go_wp2_with fail
    go_ret
    exact ⟨by rw [HV.out]; rfl, below_drewN HB.out _⟩
  cases c1 : (decide (r.tm > 0))
  rotate_left
  · skip
    have HV : Hid (false = V) := by
      show _ = _
      rw [← HX.out]
      simp only [mayB, k1, k2, k3, k4, k5, c0, c1]
      try simp
      try rfl
    go_wp2_with fail
    go_ret
    exact ⟨by rw [HV.out]; rfl, below_drewN HB.out _⟩
  cases c2 : (decide (r.ix > 0))
  rotate_left
  · skip
    have HV : Hid (false = V) := by
      show _ = _
      rw [← HX.out]
      simp only [mayB, k1, k2, k3, k4, k5, c0, c1, c2]
      try simp
      try rfl
    go_wp2_with fail
    go_ret
    exact ⟨by rw [HV.out]; rfl, below_drewN HB.out _⟩
  cases c3 : (decide (r.v < 0))
  rotate_left
  · skip
    have HV : Hid (false = V) := by
      show _ = _
      rw [← HX.out]
      simp only [mayB, k1, k2, k3, k4, k5, c0, c1, c2, c3]
      try simp
      try rfl
    go_wp2_with fail
    go_ret
    exact ⟨by rw [HV.out]; rfl, below_drewN HB.out _⟩
  cases c4 : (decide (r.v > 7))
  rotate_left
  · skip
    have HV : Hid (false = V) := by
      show _ = _
      rw [← HX.out]
      simp only [mayB, k1, k2, k3, k4, k5, c0, c1, c2, c3, c4]
      try simp
      try rfl
    go_wp2_with fail
    go_ret
    exact ⟨by rw [HV.out]; rfl, below_drewN HB.out _⟩
  cases c5 : (r.v != 0)
  rotate_left
  · skip
    have HV : Hid (false = V) := by
      show _ = _
      rw [← HX.out]
      simp only [mayB, k1, k2, k3, k4, k5, c0, c1, c2, c3, c4, c5]
      try simp
      try rfl
    go_wp2_with fail
    go_ret
    exact ⟨by rw [HV.out]; rfl, below_drewN HB.out _⟩
  have C := fun m => hard_empty_any (W.drewN m) r.en a.A a.c
  unfold entV at C
  cases ho : enz r.en
  · have HV : Hid (false = V) := by
      show _ = _
      rw [← HX.out]
      simp only [mayB, k1, k2, k3, k4, k5, c0, c1, c2, c3, c4, c5, ho]
      try simp
    rw [ho] at C
    have C := Lib.hid C
    clear ho
    go_wp2_with fail
    refine (C.out _).mono ?_
    rintro e w2 ⟨rfl, hB2⟩
    have HB2 := Lib.hid ((below_drewN HB.out _).trans (hB2.mono hltg))
    clear hB2
    go_wp2_with fail
    go_ret
    exact ⟨by rw [HV.out]; rfl, HB2.out⟩
  rw [ho] at C
  have C := Lib.hid C
  have HO := Lib.hid ho
  clear ho
  go_wp2_with fail
  refine (C.out _).mono ?_
  rintro e w2 ⟨rfl, hB2⟩
  have HB2 := Lib.hid ((below_drewN HB.out _).trans (hB2.mono hltg))
  have HINB := Lib.hid ((HIN.out.keep (below_drewN (Below.refl _ _) _)).keep hB2)
  have hlt2 : g ≤ w2.heap.size := Nat.le_trans hltg hB2.size
  have hb2 := (HBLK.out _).below hB2 hltg'
  clear z0 z1 z2 z3 z4 z5 z6 z7 z8 z9 z10 z11 z12 z13 z14 z15 z16 z17 z18 z19 z20 hB2 C
  obtain ⟨z0, z1, z2, z3, z4, z5, z6, z7, z8, z9, z10, z11, z12, z13, z14, z15, z16, z17, z18, z19, z20⟩ := hb2.rc
  clear hb2 HBLK
  have C := shot_Check_any w2 r.sh.i r.sh.t a.s.A0 a.s.c0 r.sh.ns r.sh.lim r.sh.nxt a.s.A1 a.s.c1 r.sh.hs a.s.A2 a.s.c2 r.sh.ls HINB.out.sh.n HINB.out.sh.h HINB.out.sh.l HW.out.sh.hs HW.out.sh.ls HW.out.sh.nxt.2
  unfold shV at C
  by_cases so : r.sh.Ok
  · have e0 : errShot (decide (ShotOk r.sh.i r.sh.t r.sh.ns r.sh.lim r.sh.nxt r.sh.hs r.sh.ls)) = 0 := by rw [decide_eq_true (show ShotOk r.sh.i r.sh.t r.sh.ns r.sh.lim r.sh.nxt r.sh.hs r.sh.ls from so)]; rfl
    have ds : decide r.sh.Ok = true := decide_eq_true so
    rw [e0] at C
    have HV : Hid (true = V) := by
      show _ = _
      rw [← HX.out]
      simp only [mayB, k1, k2, k3, k4, k5, c0, c1, c2, c3, c4, c5, HO.out, ds]
      try simp
    have C := Lib.hid C
    clear e0 ds so
    go_wp2_with fail
    refine C.out.mono ?_
    rintro e w3 ⟨rfl, hB3⟩
    have HB3 := Lib.hid (HB2.out.trans (hB3.mono hlt2))
    clear hB3
    go_wp2_with fail
    go_ret
    exact ⟨by rw [HV.out]; rfl, HB3.out⟩
  · have e0 : errShot (decide (ShotOk r.sh.i r.sh.t r.sh.ns r.sh.lim r.sh.nxt r.sh.hs r.sh.ls)) = 60 := shot_bad so
    have ds : decide r.sh.Ok = false := decide_eq_false so
    rw [e0] at C
    have HV : Hid (false = V) := by
      show _ = _
      rw [← HX.out]
      simp only [mayB, k1, k2, k3, k4, k5, c0, c1, c2, c3, c4, c5, HO.out, ds]
      try simp
    have C := Lib.hid C
    clear e0 ds so
    go_wp2_with fail
    refine C.out.mono ?_
    rintro e w3 ⟨rfl, hB3⟩
    have HB3 := Lib.hid (HB2.out.trans (hB3.mono hlt2))
    clear hB3
    go_wp2_with fail
    go_ret
    exact ⟨by rw [HV.out]; rfl, HB3.out⟩

set_option maxHeartbeats 8000000 in
theorem hard_may_n (w : World) (r : Rc) (a : Ra) (hin : InR w r a) (wf : r.Wf) (n1 : r.k ≠ 1) (n2 : r.k ≠ 2) (n3 : r.k ≠ 3) (n4 : r.k ≠ 4) (n5 : r.k ≠ 5) :
    Calls Try.prog 42 #[recV r a] w fun e w' => e = .returned (.bool (mayB r)) ∧ Below w.heap.size w w' := by
  have k1 : (r.k == 1) = false := beq_eq_false_iff_ne.2 n1
  have k2 : (r.k == 2) = false := beq_eq_false_iff_ne.2 n2
  have k3 : (r.k == 3) = false := beq_eq_false_iff_ne.2 n3
  have k4 : (r.k == 4) = false := beq_eq_false_iff_ne.2 n4
  have k5 : (r.k == 5) = false := beq_eq_false_iff_ne.2 n5
  clear n1 n2 n3 n4 n5
  obtain ⟨g, hg⟩ : ∃ g, w.heap.size = g := ⟨_, rfl⟩
  rw [hg]
  obtain ⟨V, hV⟩ : ∃ V, mayB r = V := ⟨_, rfl⟩
  have HX := Lib.hid hV
  rw [hV]
  clear hV
  have hBx : Below g w (w.alloc (.cells (recC r a) 48)) := (Below.refl _ _).alloc (by omega) _
  have hb1 : Blk (w.alloc (.cells (recC r a) 48)) g 48 (recC r a) := hg ▸ Blk.new _ _ _
  have HIN := Lib.hid (hin.keep (hg ▸ hBx))
  have HW := Lib.hid wf
  clear hin wf
  unfold recV
  go_enter Try.func42, Try.ntmps42
  go_upto_region 1 with (fail)
  change Code.wp _ _ _ _ (w.alloc (.cells (recC r a) 48))
  generalize (w.alloc (.cells (recC r a) 48)) = W at hb1 hBx HIN ⊢
  try rw [hg]
  have HB := Lib.hid hBx
  have hltg : g ≤ W.heap.size := Nat.le_of_lt hb1.lt
  obtain ⟨z0, z1, z2, z3, z4, z5, z6, z7, z8, z9, z10, z11, z12, z13, z14, z15, z16, z17, z18, z19, z20⟩ := hb1.rc
  have hltg' := hb1.lt
  have HBLK := Lib.hid (fun m => (hb1.drewN m))
  clear hBx hb1 hg
  go_quiet (fail)
  cases c0 : (decide (r.bt > 0))
  rotate_left
  · skip
    have HV : Hid (false = V) := by
      show _ = _
      rw [← HX.out]
      simp only [mayB, k1, k2, k3, k4, k5, c0]
      try simp
      try rfl
    go_wp2_with fail
    go_ret
    exact ⟨by rw [HV.out]; rfl, below_drewN HB.out _⟩
  cases c1 : (decide (r.tm > 0))
  rotate_left
  · skip
    have HV : Hid (false = V) := by
      show _ = _
      rw [← HX.out]
      simp only [mayB, k1, k2, k3, k4, k5, c0, c1]
      try simp
      try rfl
    go_wp2_with fail
    go_ret
    exact ⟨by rw [HV.out]; rfl, below_drewN HB.out _⟩
  cases c2 : (decide (r.ix > 0))
  rotate_left
  · skip
    have HV : Hid (false = V) := by
      show _ = _
      rw [← HX.out]
      simp only [mayB, k1, k2, k3, k4, k5, c0, c1, c2]
      try simp
      try rfl
    go_wp2_with fail
    go_ret
    exact ⟨by rw [HV.out]; rfl, below_drewN HB.out _⟩
  cases c3 : (decide (r.v < 0))
  rotate_left
  · skip
    have HV : Hid (false = V) := by
      show _ = _
      rw [← HX.out]
      simp only [mayB, k1, k2, k3, k4, k5, c0, c1, c2, c3]
      try simp
      try rfl
    go_wp2_with fail
    go_ret
    exact ⟨by rw [HV.out]; rfl, below_drewN HB.out _⟩
  cases c4 : (decide (r.v > 7))
  rotate_left
  · skip
    have HV : Hid (false = V) := by
      show _ = _
      rw [← HX.out]
      simp only [mayB, k1, k2, k3, k4, k5, c0, c1, c2, c3, c4]
      try simp
      try rfl
    go_wp2_with fail
    go_ret
    exact ⟨by rw [HV.out]; rfl, below_drewN HB.out _⟩
  cases c5 : (r.v != 0)
  rotate_left
  · skip
    have HV : Hid (false = V) := by
      show _ = _
      rw [← HX.out]
      simp only [mayB, k1, k2, k3, k4, k5, c0, c1, c2, c3, c4, c5]
      try simp
      try rfl
    go_wp2_with fail
    go_ret
    exact ⟨by rw [HV.out]; rfl, below_drewN HB.out _⟩
  have C := fun m => hard_empty_any (W.drewN m) r.en a.A a.c
  unfold entV at C
  cases ho : enz r.en
  · have HV : Hid (false = V) := by
      show _ = _
      rw [← HX.out]
      simp only [mayB, k1, k2, k3, k4, k5, c0, c1, c2, c3, c4, c5, ho]
      try simp
    rw [ho] at C
    have C := Lib.hid C
    clear ho
    go_wp2_with fail
    refine (C.out _).mono ?_
    rintro e w2 ⟨rfl, hB2⟩
    have HB2 := Lib.hid ((below_drewN HB.out _).trans (hB2.mono hltg))
    clear hB2
    go_wp2_with fail
    go_ret
    exact ⟨by rw [HV.out]; rfl, HB2.out⟩
  rw [ho] at C
  have C := Lib.hid C
  have HO := Lib.hid ho
  clear ho
  go_wp2_with fail
  refine (C.out _).mono ?_
  rintro e w2 ⟨rfl, hB2⟩
  have HB2 := Lib.hid ((below_drewN HB.out _).trans (hB2.mono hltg))
  have HINB := Lib.hid ((HIN.out.keep (below_drewN (Below.refl _ _) _)).keep hB2)
  have hlt2 : g ≤ w2.heap.size := Nat.le_trans hltg hB2.size
  have hb2 := (HBLK.out _).below hB2 hltg'
  clear z0 z1 z2 z3 z4 z5 z6 z7 z8 z9 z10 z11 z12 z13 z14 z15 z16 z17 z18 z19 z20 hB2 C
  obtain ⟨z0, z1, z2, z3, z4, z5, z6, z7, z8, z9, z10, z11, z12, z13, z14, z15, z16, z17, z18, z19, z20⟩ := hb2.rc
  clear hb2 HBLK
  have C := hard_none_any w2 r.sh a.s
  unfold shtV at C
  cases so : shz r.sh
  · have HV : Hid (false = V) := by
      show _ = _
      rw [← HX.out]
      simp only [mayB, k1, k2, k3, k4, k5, c0, c1, c2, c3, c4, c5, HO.out, so]
      try simp
    rw [so] at C
    have C := Lib.hid C
    clear so
    go_wp2_with fail
    refine C.out.mono ?_
    rintro e w3 ⟨rfl, hB3⟩
    have HB3 := Lib.hid (HB2.out.trans (hB3.mono hlt2))
    clear hB3
    go_wp2_with fail
    go_ret
    exact ⟨by rw [HV.out]; rfl, HB3.out⟩
  · have HV : Hid (false = V) := by
      show _ = _
      rw [← HX.out]
      simp only [mayB, k1, k2, k3, k4, k5, c0, c1, c2, c3, c4, c5, HO.out, so]
      try simp
    rw [so] at C
    have C := Lib.hid C
    clear so
    go_wp2_with fail
    refine C.out.mono ?_
    rintro e w3 ⟨rfl, hB3⟩
    have HB3 := Lib.hid (HB2.out.trans (hB3.mono hlt2))
    clear hB3
    go_wp2_with fail
    go_ret
    exact ⟨by rw [HV.out]; rfl, HB3.out⟩

theorem hard_may_any (w : World) (r : Rc) (a : Ra) (hin : InR w r a) (wf : r.Wf) :
    Calls Try.prog 42 #[recV r a] w fun e w' => e = .returned (.bool (decide r.May)) ∧ Below w.heap.size w w' := by
  rw [← mayB_eq r wf]
  by_cases k1 : r.k = 1
  · exact hard_may_1 w r a hin wf k1
  by_cases k2 : r.k = 2
  · exact hard_may_2 w r a hin wf k2
  by_cases k3 : r.k = 3
  · exact hard_may_3 w r a hin wf k3
  by_cases k4 : r.k = 4
  · exact hard_may_4 w r a hin wf k4
  by_cases k5 : r.k = 5
  · exact hard_may_5 w r a hin wf k5
  exact hard_may_n w r a hin wf k1 k2 k3 k4 k5
end Go.Proofs.Ytadkkhbbempaaaa

/- math/bits.Len64 by the shelf's contract, laid at this translation in plain words (written by the shelf's tools lay-shelf, lay-plain; numbers by name). -/
namespace Go.Proofs
open Go.Shelf
def Try.lays129_ren : Go.Shelf.Ren := ⟨fun | 129 => 84 | n => n, fun | 53 => 22 | 3 => 3 | 4 => 4 | 46 => 117 | 5 => 5 | 9 => 9 | n => n, fun | n => n⟩
theorem Try.lays129 : Go.Proofs.Lays.n129 Try.prog Try.lays129_ren := {
  mixed := by kernel_rfl
  f129 := Try.func84.trans (congrArg some (by kernel_rfl))
  t3 := Try.underlying3
  a3 := Try.isAgg3
  z3 := Try.sizeOf3
  v3 := Try.zeroValue3
  t4 := Try.underlying4
  a4 := Try.isAgg4
  z4 := Try.sizeOf4
  v4 := Try.zeroValue4
  t5 := Try.underlying5
  a5 := Try.isAgg5
  z5 := Try.sizeOf5
  v5 := Try.zeroValue5
  t9 := Try.underlying9
  a9 := Try.isAgg9
  z9 := Try.sizeOf9
  v9 := Try.zeroValue9
  t46 := Try.underlying117
  a46 := Try.isAgg117
  z46 := Try.sizeOf117
  v46 := Try.zeroValue117
  t53 := Try.underlying22
  a53 := Try.isAgg22
  z53 := Try.sizeOf22
  v53 := Try.zeroValue22 }
/-- bits.Len64: how many halvings till nothing is left; the world is as it was. -/
theorem Try.bits_Len64 (x : Int) (w : World) (h0 : 0 ≤ x) (h1 : x ≤ 18446744073709551615) :
    Calls Try.prog 84 #[.int .u64 x] w fun e w' => e = .returned (.int .i64 (Lib.bitLen x.toNat)) ∧ w' = w := Any.bits_Len64 Try.lays129 x w h0 h1
end Go.Proofs

/- The walk of octet.Num: whatever 64-bit number, its bytes (numB), in new memory. -/
namespace Go.Proofs.Ytadkkhbbempaaaa
set_option maxRecDepth 100000
open Go.RowKit

theorem shr_byte (n : Nat) (j : Nat) : (n : Int) / 2 ^ (8 * j) % 256 = ((n / 256 ^ j % 256 : Nat) : Int) := by
  have : (2 : Int) ^ (8 * j) = ((256 ^ j : Nat) : Int) := by
    rw [Int.natCast_pow, Int.pow_mul]; rfl
  rw [this]
  omega

set_option maxHeartbeats 1000000 in
theorem num_any (n : Nat) (hn : n < 18446744073709551616) (w : World) :
    Calls Try.prog 48 #[.int .u64 n] w fun e w' => ∃ v, e = .returned v ∧ Own8 w' w.heap.size v (numB n) ∧ Below w.heap.size w w' := by
  have hbl := bitLen_le n
  have hk8 := blen_le 8 n
  obtain ⟨k, hkk⟩ : ∃ k, blen 8 n = k := ⟨_, rfl⟩
  rw [hkk] at hk8
  have HN : Hid (numB n = (k : Int) :: digs n k) := by unfold numB be; rw [hkk]; exact rfl
  have HK : Hid (((Lib.bitLen n : Int) + 7) / 8 = (k : Int)) := by
    have hk := bitLen_bytes n hn
    show _ = _
    omega
  clear hkk
  obtain ⟨i0, hi, hz0, hz1, hz2⟩ := info_parts info_u8
  have HI := Lib.hid (And.intro hi (And.intro hz0 (And.intro hz1 hz2)))
  clear hi hz0 hz1 hz2
  go_enter Try.func48, Try.ntmps48
  go_wp2_with (go_at_call 84; refine (Try.bits_Len64 n _ (by omega) (by omega)).mono ?_; rintro e w' ⟨rfl, hw⟩; obtain rfl := hw.symm)
  rw [HK.out]
  clear HK hbl
  have HB : Below w.heap.size w (w.alloc (.cells #[.int .u8 (k : Int)] 5)) := (Below.refl _ _).alloc (Nat.le_refl _) _
  go_loopw [4, 5] (fun v i wr => ∃ m : Nat, m ≤ k ∧ i = .int .i64 ((k : Int) - 1 - m) ∧ Own8 wr w.heap.size v ((k : Int) :: (digs n k).take m) ∧ Below w.heap.size w wr) (fun _ i _ => (intOf i + 1).toNat)
  case atStart => exact ⟨0, Nat.zero_le _, by simp, by simpa using own8_one w w.heap.size k (Nat.le_refl _), HB⟩
  case round =>
    clear HB
    obtain ⟨m, hm, rfl, hown, hB⟩ := hrel
    by_cases hlt : m < k
    · have HL : Hid (((k : Int) :: (digs n k).take m).length = m + 1) := by
        show _ = _
        simp [digs_length]; omega
      go_wp2_with (at_builtin; refine push_own (w0 := w) w.heap.size rfl (.tmp 19) (.tmp 26) 75 5 (.int .u8 0) 1 rfl Try.underlying75 info_u8 rfl (by omega) _ (u8s ((k : Int) :: (digs n k).take m)) _ (m + 1) ?q1 rfl rfl rfl ?q2 hB hB.size (by omega) ?_; (case q1 => rw [u8s_length, HL.out]); (case q2 => have q := hown; unfold Own8 at q; rw [HL.out] at q; exact q); intro v1 w1 ho1 hB1 _ _; clear hown hB)
      have R : Own8 w1 w.heap.size v1 ((k : Int) :: (digs n k).take (m + 1)) := by
        rw [digs_take_succ n k m hlt]
        rw [shr_byte] at ho1
        have : ((k : Int) :: ((digs n k).take m ++ [((n / 256 ^ (k - 1 - m) % 256 : Nat) : Int)])).length = m + 1 + 1 := by
          simp [digs_length]; omega
        unfold Own8
        rw [this]
        simpa [u8s] using ho1
      clear ho1
      go_wp2
      go_roundw
      case rel => exact ⟨m + 1, by omega, by go_num, R, hB1⟩
      case measure => simp [intOf]; omega
    · obtain rfl : m = k := by omega
      go_wp2
      go_ret
      have e : (digs n m).take m = digs n m := List.take_of_length_le (by rw [digs_length]; omega)
      rw [e] at hown
      exact ⟨_, rfl, by rw [HN.out]; exact hown, hB⟩
end Go.Proofs.Ytadkkhbbempaaaa

/- The walk of octet.ReadNum: any bytes are read as a number, or refused (readN). -/
namespace Go.Proofs.Ytadkkhbbempaaaa
set_option maxRecDepth 100000
open Go.RowKit

theorem or_byte (F : Nat) (z : Int) (hF : F < 72057594037927936) (hz : 0 ≤ z ∧ z ≤ 255) : bits .or .u64 (IntKind.u64.wrap ((F : Int) * 256)) z = ((F * 256 + z.toNat : Nat) : Int) := by
  obtain ⟨n, rfl⟩ := Int.eq_ofNat_of_zero_le hz.1
  rw [IntKind.wrap_u64]
  have e : (F : Int) * 256 % 18446744073709551616 = ((F * 256 : Nat) : Int) := by omega
  rw [e, u64_or_nat _ _ (by omega) (by omega), nat_join 8 (F * 256) n (by omega) (by omega)]
  rfl
theorem fold_small (l : List Int) (hl : Byt l) (j : Nat) (hj : j ≤ 7) : fold (l.take j) < 72057594037927936 := by
  have h1 := fold_lt (l.take j) (hl.take j)
  have h2 : (l.take j).length ≤ 7 := by simp; omega
  have h3 : 256 ^ (l.take j).length ≤ 256 ^ 7 := Nat.pow_le_pow_right (by omega) h2
  omega
theorem fold_step (l : List Int) (j : Nat) (z : Int) (h : 1 + j < l.length) (hz : l[1 + j] = z) : fold (l.tail.take (j + 1)) = fold (l.tail.take j) * 256 + z.toNat := by
  rw [List.take_succ_eq_append_getElem (by simp; omega), fold_snoc]
  simp [← hz, Nat.add_comm]

set_option maxHeartbeats 1000000 in
theorem readNum_any (A : Option Addr) (c : Nat) (l : List Int) (w : World) (h : In8 w A c l) :
    Calls Try.prog 55 #[.slice A l.length c] w fun e w' => e = .returned (.tuple #[.int .u64 (readN l).1, .int .i64 (readN l).2.1, .int .i64 (readN l).2.2]) ∧ w' = w := by
  have hs := h.small
  have hcap := h.cap
  by_cases h0 : l.length = 0
  · have HR : Hid (readN l = (0, 0, 10)) := by show _ = _; simp [readN, h0]
    go_enter Try.func55, Try.ntmps55
    go_wp2
    go_ret3
    rw [HR.out]
    exact ⟨rfl, rfl⟩
  obtain ⟨b, off, rfl, hcell⟩ := h.all (by omega)
  have hc0 := hcell 0 (by omega)
  rw [Nat.add_zero] at hc0
  have hb0 := h.byt.get (j := 0) (by omega)
  obtain ⟨x, hx⟩ : ∃ x, l.getD 0 0 = x := ⟨_, rfl⟩
  have hd0 : l[0] = x := by rw [← hx]; simp [List.getD_eq_getElem?_getD, show 0 < l.length by omega]
  rw [hd0] at hc0 hb0
  clear hd0
  by_cases h8 : 8 < x
  · have HR : Hid (readN l = (0, 0, 11)) := by unfold readN; rw [hx, if_neg h0, if_pos h8]; exact rfl
    clear hcell hx
    go_enter Try.func55, Try.ntmps55
    go_wp2
    go_ret3
    rw [HR.out]
    exact ⟨rfl, rfl⟩
  by_cases hl : (l.length : Int) < 1 + x
  · have HR : Hid (readN l = (0, 0, 10)) := by unfold readN; rw [hx, if_neg h0, if_neg h8, if_pos hl]; exact rfl
    clear hcell hx
    go_enter Try.func55, Try.ntmps55
    go_wp2
    go_ret3
    rw [HR.out]
    exact ⟨rfl, rfl⟩
  obtain ⟨m, rfl⟩ := Int.eq_ofNat_of_zero_le hb0.1
  by_cases hm : m = 0
  · subst hm
    have HR : Hid (readN l = (0, 1, 0)) := by unfold readN; rw [hx, if_neg h0, if_neg h8, if_neg hl, if_neg (by omega)]; exact rfl
    clear hcell hx
    go_enter Try.func55, Try.ntmps55
    go_wp2
    all_goals
      refine wp_loop_once ?_
      go_wp2
      go_ret3
      rw [HR.out]
      exact ⟨rfl, rfl⟩
  have hc1 := hcell 1 (by omega)
  have hb1 := h.byt.get (j := 1) (by omega)
  obtain ⟨y, hy⟩ : ∃ y, l.getD 1 0 = y := ⟨_, rfl⟩
  have hd1 : l[1] = y := by rw [← hy]; simp [List.getD_eq_getElem?_getD, show 1 < l.length by omega]
  rw [hd1] at hc1 hb1
  clear hd1
  by_cases hy0 : y = 0
  · subst hy0
    have HR : Hid (readN l = (0, 0, 11)) := by unfold readN; rw [hx, hy, if_neg h0, if_neg h8, if_neg hl, if_pos ⟨by omega, rfl⟩]; exact rfl
    clear hcell hx hy
    go_enter Try.func55, Try.ntmps55
    go_wp2
    go_ret3
    rw [HR.out]
    exact ⟨rfl, rfl⟩
  have HR : Hid (readN l = ((fold (l.tail.take m) : Int), 1 + (m : Int), 0)) := by
    unfold readN; rw [hx, hy, if_neg h0, if_neg h8, if_neg hl, if_neg (fun hh => hy0 hh.2), Int.toNat_natCast]; exact rfl
  have HC := Lib.hid hcell
  have hyb : (y == 0) = false := beq_eq_false_iff_ne.2 hy0
  clear hcell hx hy hy0
  go_enter Try.func55, Try.ntmps55
  go_wp2
  go_loop [6, 8, 41] (fun a x i => ∃ j : Nat, j ≤ m ∧ i = .int .i64 j ∧ a = .int .u64 (fold (l.tail.take j))) (fun _ _ i => m - (intOf i).toNat)
  case atStart => exact ⟨0, by omega, rfl, rfl⟩
  case round =>
    obtain ⟨j, hj, rfl, rfl⟩ := hrel
    by_cases hlt : j < m
    · have hcj := HC.out (1 + j) (by omega)
      have hbj := h.byt.get (j := 1 + j) (by omega)
      obtain ⟨z, hz⟩ : ∃ z, l[1 + j] = z := ⟨_, rfl⟩
      rw [hz] at hcj hbj
      have HZ := Lib.hid hz
      clear hz
      rw [← Nat.add_assoc] at hcj
      have HS := Lib.hid (fold_step l j z (by omega) HZ.out)
      have HF := Lib.hid (fold_small l.tail h.byt.tail j (by omega))
      clear HZ
      go_wp2
      go_round
      case rel =>
        refine ⟨j + 1, by omega, by go_num, ?_⟩
        rw [HS.out, ← or_byte _ z HF.out hbj]
      case measure => simp [intOf]; omega
    · obtain rfl : j = m := by omega
      go_wp2
      go_ret3
      rw [HR.out]
      exact ⟨rfl, rfl⟩
end Go.Proofs.Ytadkkhbbempaaaa

/- The walks of the document's answer for layer 1: Num (by rest), ReadNum. -/
namespace Go.Proofs.Ytadkkhbbempaaaa
set_option maxRecDepth 100000
open Go.RowKit

set_option maxHeartbeats 1000000 in
theorem rest_any (f : Nat) : ∀ (n : Nat) (w : World), n < 18446744073709551616 → n < 256 ^ f → f ≤ 8 →
    Calls Try.prog 86 #[.int .u64 n] w fun e w' => ∃ v, e = .returned v ∧ Own8 w' w.heap.size v (beF f n) ∧ Below w.heap.size w w' := by
  induction f with
  | zero =>
    intro n w _ hn _
    obtain rfl : n = 0 := by simpa using hn
    have HR := Lib.hid (beF_zero 0)
    go_enter Try.func86, Try.ntmps86
    go_wp2_with fail
    go_ret
    rw [HR.out]
    exact ⟨_, rfl, own_nil _ _ _ _, Below.refl _ _⟩
  | succ f ih =>
    intro n w hN hn hf
    by_cases h0 : n = 0
    · subst h0
      have HR := Lib.hid (beF_zero (f + 1))
      clear ih
      go_enter Try.func86, Try.ntmps86
      go_wp2_with fail
      go_ret
      rw [HR.out]
      exact ⟨_, rfl, own_nil _ _ _ _, Below.refl _ _⟩
    · have HR := Lib.hid (beF_succ f n h0)
      have HL := Lib.hid (beF_length f (n / 256))
      have hz : ((n : Int) == 0) = false := by rw [beq_eq_false_iff_ne]; omega
      have HI := Lib.hid (ih (n / 256) w (by omega) (by rw [Nat.pow_succ] at hn; omega) (by omega))
      clear ih hn h0
      go_enter Try.func86, Try.ntmps86
      go_wp2_with fail
      refine HI.out.mono ?_
      rintro e w1 ⟨v, rfl, ho, hB⟩
      clear HI
      go_wp2_with (at_builtin; refine push_own (w0 := w) w.heap.size rfl (.tmp 7) (.tmp 11) 75 5 (.int .u8 0) 1 rfl Try.underlying75 info_u8 rfl (by omega) _ (u8s (beF f (n / 256))) _ (beF f (n / 256)).length (by rw [u8s_length]) rfl rfl rfl ho hB hB.size (by have := HL.out; omega) ?_; intro v1 w2 ho1 hB1 _ _; clear ho hB)
      go_ret
      refine ⟨v1, rfl, ?_, hB1⟩
      rw [HR.out]
      unfold Own8
      simpa [u8s] using ho1

theorem beF_be (n : Nat) : beF 8 n = be n := rfl
set_option maxHeartbeats 1000000 in
theorem refNum_any (n : Nat) (hn : n < 18446744073709551616) (w : World) :
    Calls Try.prog 51 #[.int .u64 n] w fun e w' => ∃ v, e = .returned v ∧ Own8 w' w.heap.size v (numB n) ∧ Below w.heap.size w w' := by
  have HI := Lib.hid (rest_any 8 n w hn (by simpa using hn) (Nat.le_refl _))
  have hl := beF_length 8 n
  have HN : Hid (numB n = ((beF 8 n).length : Int) :: beF 8 n) := by unfold numB; rw [beF_be, ← be_length]; exact rfl
  go_enter Try.func51, Try.ntmps51
  go_wp2_with fail
  refine HI.out.mono ?_
  rintro e w1 ⟨v, rfl, ho, hB⟩
  clear HI
  obtain ⟨A, c, rfl, hc1, hc2, hr⟩ := own_open ho
  obtain ⟨x, hx⟩ : ∃ x, beF 8 n = x := ⟨_, rfl⟩
  rw [hx] at HN hl ho hr hc1
  rw [hx]
  clear hx
  go_wp2_with (at_builtin; refine app_own (w0 := w) w.heap.size rfl (.tmp 9) (.tmp 10) 75 5 (.int .u8 0) 1 rfl Try.underlying75 1 info_u8 rfl (by omega) (by omega) _ [.int .u8 x.length] 1 rfl _ _ _ _ (u8s x) rfl (own_lit1 w1 _ _ _ hB.size) (hr.alloc (Nat.le_refl _) _) (u8s_one_cell x) (hB.alloc hB.size _) (by simp; have := hB.size; omega) (by omega) ?_; intro v1 w2 ho1 hB1 _ _)
  go_ret
  refine ⟨v1, rfl, ?_, hB1⟩
  rw [HN.out]
  unfold Own8
  rw [List.length_cons, Nat.add_comm]
  simpa [u8s] using ho1

theorem mul_byte (F : Nat) (z : Int) (hF : F < 72057594037927936) (hz : 0 ≤ z ∧ z ≤ 255) : IntKind.u64.wrap (IntKind.u64.wrap ((F : Int) * 256) + z) = ((F * 256 + z.toNat : Nat) : Int) := by
  rw [IntKind.wrap_u64, IntKind.wrap_u64]
  omega

set_option maxHeartbeats 1000000 in
theorem refReadNum_any (A : Option Addr) (c : Nat) (l : List Int) (w : World) (h : In8 w A c l) :
    Calls Try.prog 93 #[.slice A l.length c] w fun e w' => e = .returned (.tuple #[.int .u64 (readN l).1, .int .i64 (readN l).2.1, .int .i64 (readN l).2.2]) ∧ w' = w := by
  have hs := h.small
  have hcap := h.cap
  by_cases h0 : l.length = 0
  · have HR : Hid (readN l = (0, 0, 10)) := by show _ = _; simp [readN, h0]
    go_enter Try.func93, Try.ntmps93
    go_wp2
    go_ret3
    rw [HR.out]
    exact ⟨by first | rfl | (simp; done) | (simp; omega), rfl⟩
  obtain ⟨b, off, rfl, hcell⟩ := h.all (by omega)
  have hc0 := hcell 0 (by omega)
  rw [Nat.add_zero] at hc0
  have hb0 := h.byt.get (j := 0) (by omega)
  obtain ⟨x, hx⟩ : ∃ x, l.getD 0 0 = x := ⟨_, rfl⟩
  have hd0 : l[0] = x := by rw [← hx]; simp [List.getD_eq_getElem?_getD, show 0 < l.length by omega]
  rw [hd0] at hc0 hb0
  clear hd0
  by_cases h8 : 8 < x
  · have HR : Hid (readN l = (0, 0, 11)) := by unfold readN; rw [hx, if_neg h0, if_pos h8]; exact rfl
    clear hcell hx
    go_enter Try.func93, Try.ntmps93
    go_wp2
    go_ret3
    rw [HR.out]
    exact ⟨by first | rfl | (simp; done) | (simp; omega), rfl⟩
  by_cases hl : (l.length : Int) < 1 + x
  · have HR : Hid (readN l = (0, 0, 10)) := by unfold readN; rw [hx, if_neg h0, if_neg h8, if_pos hl]; exact rfl
    clear hcell hx
    go_enter Try.func93, Try.ntmps93
    go_wp2
    go_ret3
    rw [HR.out]
    exact ⟨by first | rfl | (simp; done) | (simp; omega), rfl⟩
  obtain ⟨m, rfl⟩ := Int.eq_ofNat_of_zero_le hb0.1
  by_cases hm : m = 0
  · subst hm
    have HR : Hid (readN l = (0, 1, 0)) := by unfold readN; rw [hx, if_neg h0, if_neg h8, if_neg hl, if_neg (by omega)]; exact rfl
    clear hcell hx
    go_enter Try.func93, Try.ntmps93
    go_wp2
    all_goals
      refine wp_loop_once ?_
      go_wp2
      go_ret3
      rw [HR.out]
      exact ⟨rfl, rfl⟩
  have hc1 := hcell 1 (by omega)
  have hb1 := h.byt.get (j := 1) (by omega)
  obtain ⟨y, hy⟩ : ∃ y, l.getD 1 0 = y := ⟨_, rfl⟩
  have hd1 : l[1] = y := by rw [← hy]; simp [List.getD_eq_getElem?_getD, show 1 < l.length by omega]
  rw [hd1] at hc1 hb1
  clear hd1
  by_cases hy0 : y = 0
  · subst hy0
    have HR : Hid (readN l = (0, 0, 11)) := by unfold readN; rw [hx, hy, if_neg h0, if_neg h8, if_neg hl, if_pos ⟨by omega, rfl⟩]; exact rfl
    clear hcell hx hy
    go_enter Try.func93, Try.ntmps93
    go_wp2
    go_ret3
    rw [HR.out]
    exact ⟨by first | rfl | (simp; done) | (simp; omega), rfl⟩
  have HR : Hid (readN l = ((fold (l.tail.take m) : Int), 1 + (m : Int), 0)) := by
    unfold readN; rw [hx, hy, if_neg h0, if_neg h8, if_neg hl, if_neg (fun hh => hy0 hh.2), Int.toNat_natCast]; exact rfl
  have HC := Lib.hid hcell
  have hyb : (y == 0) = false := beq_eq_false_iff_ne.2 hy0
  clear hcell hx hy hy0
  go_enter Try.func93, Try.ntmps93
  go_wp2
  go_loop [6, 8, 36] (fun a x i => ∃ j : Nat, j ≤ m ∧ i = .int .i64 j ∧ a = .int .u64 (fold (l.tail.take j))) (fun _ _ i => m - (intOf i).toNat)
  case atStart => exact ⟨0, by omega, rfl, rfl⟩
  case round =>
    obtain ⟨j, hj, rfl, rfl⟩ := hrel
    by_cases hlt : j < m
    · have hcj := HC.out (1 + j) (by omega)
      have hbj := h.byt.get (j := 1 + j) (by omega)
      obtain ⟨z, hz⟩ : ∃ z, l[1 + j] = z := ⟨_, rfl⟩
      rw [hz] at hcj hbj
      have HZ := Lib.hid hz
      clear hz
      rw [← Nat.add_assoc] at hcj
      have HS := Lib.hid (fold_step l j z (by omega) HZ.out)
      have HF := Lib.hid (fold_small l.tail h.byt.tail j (by omega))
      clear HZ
      go_wp2
      go_round
      case rel =>
        refine ⟨j + 1, by omega, by go_num, ?_⟩
        rw [HS.out, ← mul_byte _ z HF.out hbj]
      case measure => simp [intOf]; omega
    · obtain rfl : j = m := by omega
      go_wp2
      go_ret3
      rw [HR.out, Int.add_comm 1]
      exact ⟨rfl, rfl⟩
end Go.Proofs.Ytadkkhbbempaaaa

/- Walks over commands: bytes are written; the document's Nodes. -/
namespace Go.Proofs.Ytadkkhbbempaaaa
set_option maxRecDepth 100000
open Go.RowKit

/-- From W on, nothing old but block r has turned; v lies in r or is new. -/
structure Grow (W : World) (r : Option Nat) (wr : World) (v : Value) : Prop where
  grown : W.grownBy wr r
  at_ : v.ownBlock = r ∨ ∃ b, v.ownBlock = some b ∧ W.heap.size ≤ b
theorem Grow.refl (W : World) (v : Value) : Grow W v.ownBlock W v := ⟨World.grownBy.refl W _, .inl rfl⟩
theorem Grow.below {W wr : World} {r : Option Nat} {v : Value} {base : Nat} (h : Grow W r wr v) (hW : base ≤ W.heap.size) (hr : ∀ k, r = some k → base ≤ k) : Below base W wr := (Below.refl _ _).grown h.grown hW hr
theorem Grow.step {W wr w1 : World} {r : Option Nat} {v : Value} (h : Grow W r wr v) (hb : Below wr.heap.size wr w1) : Grow W r w1 v :=
  ⟨⟨hb.os.trans h.grown.os, hb.tape.trans h.grown.tape, hb.output.trans h.grown.output, Nat.le_trans h.grown.size hb.size, fun i hi hne => (hb.block i (Nat.lt_of_lt_of_le hi h.grown.size)).trans (h.grown.block i hi hne)⟩, h.at_⟩
theorem Grow.app {W wr w1 : World} {r : Option Nat} {v v1 : Value} (h : Grow W r wr v) (hg : wr.grownBy w1 v.ownBlock) (hat : v1.ownBlock = v.ownBlock ∨ ∃ b, v1.ownBlock = some b ∧ wr.heap.size ≤ b) : Grow W r w1 v1 := by
  refine ⟨⟨hg.os.trans h.grown.os, hg.tape.trans h.grown.tape, hg.output.trans h.grown.output, Nat.le_trans h.grown.size hg.size, fun i hi hne => ?_⟩, ?_⟩
  · refine (hg.block i (Nat.lt_of_lt_of_le hi h.grown.size) ?_).trans (h.grown.block i hi hne)
    rcases h.at_ with e | ⟨b, e, hb⟩
    · rw [e]; exact hne
    · rw [e]
      intro hh
      injection hh with hh
      omega
  · rcases hat with e | ⟨b, e, hb⟩
    · rw [e]; exact h.at_
    · exact .inr ⟨b, e, Nat.le_trans h.grown.size hb⟩

theorem Grow.then_ {W wr w1 : World} {r : Option Nat} {v v1 : Value} (h : Grow W r wr v) (k : Grow wr v.ownBlock w1 v1) : Grow W r w1 v1 := h.app k.grown k.at_
/-- append(b, x...), b and x rows of the call's own. -/
theorem app_row {ops : Array Oper} {rest : List Oper} {o : Oper} {a : Act} {Q : Exit → Act → World → Prop} {w0 W : World} (base : Nat) (hgd : o.guard = none) (s x : Operand)
    (ho : o.op = .call { callee := .builtin .append, args := #[s, x], argTypes := #[75, 75] })
    (v : Value) (l : List Int) (hs : a.eval s = v) (b2 : Nat) (v2 : Value) (l2 : List Int) (hx : a.eval x = v2) (HO : Own8 W base v l) (HX : Own8 W b2 v2 l2) (HB : Below base w0 W) (hbase : base ≤ W.heap.size) (hl : l.length + l2.length ≤ 140737488355328)
    (h : ∀ v1 w1, Own8 w1 base v1 (l ++ l2) → Below base w0 w1 → (∀ W0 r, Grow W0 r W v → Grow W0 r w1 v1) → wpList Try.prog ops Q rest (a.put o.dst v1) w1) : wpList Try.prog ops Q (o :: rest) a W := by
  obtain ⟨A2, c2, rfl⟩ := own_slice HX
  refine app_own (w0 := w0) base hgd s x 75 5 (.int .u8 0) 1 ho Try.underlying75 1 info_u8 rfl (by omega) (by omega) v (u8s l) l.length hs _ A2 _ c2 (u8s l2) hx HO (Reads.of_own HX) (u8s_one_cell l2) HB hbase (by omega) ?_
  intro v1 w1 ho1 hB1 hg hat
  refine h v1 w1 ?_ hB1 (fun W0 r hG => hG.app hg hat)
  unfold Own8
  rw [List.length_append, u8s_append]
  exact ho1

/-- A set of nodes has at most seven. -/
theorem set_ge {l : List Int} (h : IsSet l) : ∀ j (hj : j < l.length), (j : Int) + 1 ≤ l[j] := by
  intro j
  induction j with
  | zero =>
    intro hj
    have := (h.2 0 hj hj).1
    omega
  | succ j ih =>
    intro hj
    have h1 := ih (by omega)
    have h2 := (h.2 (j + 1) hj hj).2.2 (by omega)
    simp only [Nat.add_sub_cancel] at h2
    omega
theorem set_len {l : List Int} (h : IsSet l) : l.length ≤ 7 := by
  have h0 := h.1
  have h1 := set_ge h (l.length - 1) (by omega)
  have h2 := (h.2 (l.length - 1) (by omega) (by omega)).2.1
  omega
theorem set_mem {l : List Int} (h : IsSet l) {j : Nat} (hj : j < l.length) : 1 ≤ l[j] ∧ l[j] ≤ 7 := ⟨(h.2 j hj hj).1, (h.2 j hj hj).2.1⟩

/-- Numbers' bytes, one behind the other. -/
def numsB (l : List Int) : List Int := l.flatMap fun z => numB z.toNat
theorem numsB_snoc (l : List Int) (z : Int) : numsB (l ++ [z]) = numsB l ++ numB z.toNat := by simp [numsB]
theorem numsB_cons (z : Int) (l : List Int) : numsB (z :: l) = numB z.toNat ++ numsB l := by simp [numsB]
theorem numsB_append (l m : List Int) : numsB (l ++ m) = numsB l ++ numsB m := by simp [numsB]
theorem numsB_le (l : List Int) : (numsB l).length ≤ 9 * l.length := by
  induction l with
  | nil => simp [numsB]
  | cons z l ih =>
    rw [numsB_cons, List.length_append, List.length_cons]
    have := numB_le z.toNat
    omega
theorem numsB_byt (l : List Int) : Byt (numsB l) := by
  induction l with
  | nil => exact Byt.nil
  | cons z l ih => rw [numsB_cons]; exact (numB_byt _).append ih
theorem numsB_take_succ (l : List Int) {k : Nat} (hk : k < l.length) : numsB (l.take (k + 1)) = numsB (l.take k) ++ numB (l[k]).toNat := by
  rw [← List.take_append_getElem hk, numsB_snoc]

set_option maxHeartbeats 1000000 in
theorem ref_Nodes_any (w : World) (base : Nat) (v : Value) (lb : List Int) (A : Option Addr) (c : Nat) (l : List Int) (hl : IsSet l) (hlb : lb.length ≤ 1000000) (ho : Own8 w base v lb) (hbase : base ≤ w.heap.size)
    (hin : ∀ w', Below base w w' → InN .i64 w' A c l) :
    Calls Try.prog 87 #[v, .slice A l.length c] w fun e w' => ∃ v', e = .returned v' ∧ Own8 w' base v' (lb ++ (numB l.length ++ numsB l)) ∧ Below base w w' ∧ Grow w v.ownBlock w' v' := by
  have h7 := set_len hl
  have HS := Lib.hid hl
  have hsz := numB_le l.length
  have hsn := numsB_le l
  have HIN := Lib.hid hin
  have hcap := (hin w (Below.refl _ _)).cap
  have C1 := fun w => Lib.hid (refNum_any l.length (by omega) w)
  have HO := Lib.hid ho
  have wl : IntKind.u64.wrap (l.length : Int) = (l.length : Int) := by simp [IntKind.wrap_u64]; omega
  clear hl hin ho
  obtain ⟨A0, c0, rfl⟩ := own_slice HO.out
  obtain ⟨r0, hr0⟩ : ∃ r0, (Value.slice A0 lb.length c0).ownBlock = r0 := ⟨_, rfl⟩
  have hG0 : Grow w r0 w (Value.slice A0 lb.length c0) := hr0 ▸ Grow.refl _ _
  rw [hr0]
  have HG0 := Lib.hid hG0
  clear hr0 hG0
  go_enter Try.func87, Try.ntmps87
  go_wp2_with fail
  refine (C1 _).out.mono ?_
  rintro e w1 ⟨v1, rfl, ho1, hB1⟩
  have HO1 := Lib.hid (show Own8 w1 base _ lb from own_below HO.out hB1)
  have HX1 := Lib.hid ho1
  have HB1 := Lib.hid (hB1.mono hbase)
  have HG1 := Lib.hid (HG0.out.step hB1)
  clear ho1 hB1
  go_wp2_with (at_builtin; refine app_row (w0 := w) base rfl _ _ rfl _ lb rfl _ _ _ rfl HO1.out HX1.out HB1.out (Nat.le_trans hbase HB1.out.size) (by omega) ?_; intro v2 w2 ho2 hB2 hG2)
  have HO2 := Lib.hid ho2
  have HB2 := Lib.hid hB2
  have HG2 := Lib.hid (hG2 _ _ HG1.out)
  clear ho2 hB2 hG2 HG1 HO1 HX1 HB1 C1
  go_loopw [0, 6, 15] (fun x z i wr => ∃ k : Nat, k ≤ l.length ∧ i = .int .i64 k ∧ Own8 wr base x (lb ++ numB l.length ++ numsB (l.take k)) ∧ Below base w wr ∧ Grow w r0 wr x) (fun _ _ i _ => l.length - (intOf i).toNat)
  case atStart => exact ⟨0, by omega, rfl, by simpa [numsB] using HO2.out, HB2.out, HG2.out⟩
  case round =>
    clear HO2 HB2 HG2
    obtain ⟨k, hk, rfl, hrow, hB, hG⟩ := hrel
    have HG := Lib.hid hG
    clear hG
    have HR := Lib.hid hrow
    have HB := Lib.hid hB
    clear hrow
    by_cases hlt : k < l.length
    · obtain ⟨b, off, rfl, hcell⟩ := (HIN.out _ hB).all (by omega)
      have hck := hcell k hlt
      have hmem := set_mem HS.out hlt
      have HST := Lib.hid (numsB_take_succ l hlt)
      have hn9 := numsB_le (l.take k)
      rw [List.length_take, Nat.min_eq_left (by omega)] at hn9
      clear hcell hB
      obtain ⟨z, hz⟩ : ∃ z, l[k] = z := ⟨_, rfl⟩
      rw [hz] at hck hmem HST
      clear hz
      obtain ⟨n, rfl⟩ : ∃ n : Nat, z = (n : Int) := ⟨z.toNat, by omega⟩
      have wz : IntKind.u64.wrap (n : Int) = (n : Int) := by simp [IntKind.wrap_u64]; omega
      have C1 := fun w => Lib.hid (refNum_any n (by omega) w)
      have hnb := numB_le n
      rw [Int.toNat_natCast] at HST
      go_wp2_with fail
      refine (C1 _).out.mono ?_
      rintro e w1 ⟨v1, rfl, ho1, hB1⟩
      have HO1 := Lib.hid (own_below HR.out hB1)
      have HX1 := Lib.hid ho1
      have HB1 := Lib.hid (HB.out.trans (hB1.mono (Nat.le_trans hbase HB.out.size)))
      have HG1 := Lib.hid (HG.out.step hB1)
      clear ho1 hB1
      go_wp2_with (at_builtin; refine app_row (w0 := w) base rfl _ _ rfl _ (lb ++ numB l.length ++ numsB (l.take k)) rfl _ _ _ rfl HO1.out HX1.out HB1.out (Nat.le_trans hbase HB1.out.size) (by simp only [List.length_append]; omega) ?_; intro v2 w2 ho2 hB2 hG2)
      have HO2 := Lib.hid ho2
      have HB2 := Lib.hid hB2
      have HG2 := Lib.hid (hG2 _ _ HG1.out)
      clear ho2 hB2 hG2
      go_roundw
      case rel => exact ⟨k + 1, by omega, by go_num, by rw [HST.out]; simpa using HO2.out, HB2.out, HG2.out⟩
      case measure => simp [intOf]; omega
    · obtain rfl : k = l.length := by omega
      clear hB
      go_wp2
      go_ret
      exact ⟨_, rfl, by simpa using HR.out, HB.out, HG.out⟩
end Go.Proofs.Ytadkkhbbempaaaa
