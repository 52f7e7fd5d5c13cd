/- Texts drawn together (17 of them): words, plain laws and walks that the row leans on. -/
import Derived.Test.YtjnkpjhggeibeaaP3
import Derived.Test.YtjnkpjhggeibeaaP4
import Derived.Lib.SmallJoins
import Derived.Deep.DeepCutAuto
import Derived.Shelf.Strconv.Itoa0
import Derived.Test.YtjnkpjhggeibeaaProg
import Derived.Test.YtjnkpjhggeibeaaP1
import Derived.Deep.RegionLaw
import Derived.Deep.QuietTactic
import Derived.BigQuiet
import Derived.Deep.Draws
import Derived.BigFrame
/- Arguments opened: a snapshot that came in. -/
namespace Go.Proofs.Ytjnkpjhggeibeaa
set_option maxRecDepth 100000
open Go.Joins Go.ChangeShapes Go.WideShapes Go.RowKit Go.Deep Go.ChangeAt

theorem listed {α : Type} {P : Nat → α → Prop} : ∀ (n : Nat), (∀ i, i < n → ∃ x, P i x) → ∃ l : List α, l.length = n ∧ ∀ i (hi : i < l.length), P i l[i] := by
  intro n
  induction n with
  | zero => intro _; exact ⟨[], rfl, fun i hi => absurd hi (by simp)⟩
  | succ n ih =>
    intro h
    obtain ⟨l, hl, hp⟩ := ih (fun i hi => h i (by omega))
    obtain ⟨x, hx⟩ := h n (by omega)
    refine ⟨l ++ [x], by simp [hl], fun i hi => ?_⟩
    rw [List.length_append, List.length_singleton] at hi
    rcases Nat.lt_or_ge i l.length with h1 | h1
    · rw [List.getElem_append_left h1]
      exact hp i h1
    · obtain rfl : i = l.length := by omega
      rw [List.getElem_append_right (Nat.le_refl _)]
      simp only [Nat.sub_self, List.getElem_singleton]
      rw [hl]
      exact hx
theorem c_int : Try.prog.cellsOf 3 = 1 := by kernel_rfl
theorem c_u64 : Try.prog.cellsOf 22 = 1 := by kernel_rfl
theorem c_Held : Try.prog.cellsOf 59 = 5 := by kernel_rfl
theorem c_Last : Try.prog.cellsOf 76 = 6 := by kernel_rfl
theorem c_Answer : Try.prog.cellsOf 74 = 3 := by kernel_rfl
theorem c_Ledger : Try.prog.cellsOf 28 = 4 := by kernel_rfl
theorem c_Shot : Try.prog.cellsOf 30 = 7 := by kernel_rfl
theorem c_ints : Try.prog.cellsOf 24 = 1 := by kernel_rfl
theorem c_Helds : Try.prog.cellsOf 25 = 1 := by kernel_rfl
theorem c_Lasts : Try.prog.cellsOf 26 = 1 := by kernel_rfl
theorem wf_u {a : Int} (h : (Lit.int .u64 a).wf = true) : 0 ≤ a ∧ a < 18446744073709551616 := by
  simp [Lit.wf, IntKind.min, IntKind.max, IntKind.bits, IntKind.signed] at h
  omega

section
variable {H : Type} {enc : TypeId × Value → H} {w : World} {base : Nat} {spare : Nat → Bool} {held : Bool}
theorem parts {P : Program} {t : TypeId} {fs : Array Field} {fuel : Nat} {cs : List Value} {x : DataW H × List MemPlace} (ht : P.underlying t = some (.struct fs)) (h : DataW.trod enc P w base spare held fuel t cs = some x) :
    ∃ (xs : List (DataW H × List MemPlace)) (n : Nat), x = (.agg (xs.map (·.1)), xs.flatMap (·.2)) ∧ cs.length = P.cellsOf t ∧ xs.length = fs.size ∧
      ∀ (i : Nat) (f : Field) (_ : fs[i]? = some f) (o k : Nat) (_ : f.offset = o) (_ : P.cellsOf f.type = k), DataW.trod enc P w base spare held n f.type ((cs.drop o).take k) = xs[i]? := by
  obtain ⟨xs, n, _, h1, h2, h3, hg⟩ := DataW.trod_struct ht h
  refine ⟨xs, n, h1, h2, h3, fun i f hf o k ho hk => ?_⟩
  rw [← ho, ← hk]
  exact hg i f hf
theorem hd_of {fuel : Nat} {cs : List Value} {y : DataW H × List MemPlace} (h : DataW.trod enc Try.prog w base spare held fuel 59 cs = some y) : ∃ x : Hd, cs = hdC x ∧ x.Wf := by
  obtain ⟨xs, n, _, hl, hlen, hg⟩ := parts Try.underlying59 h
  rw [c_Held] at hl
  match cs, hl with
  | [c0, c1, c2, c3, c4], _ =>
    match xs, hlen with
    | [y0, y1, y2, y3, y4], _ =>
      have g0 := hg 0 _ rfl 0 1 rfl (by kernel_rfl)
      have g1 := hg 1 _ rfl 1 1 rfl (by kernel_rfl)
      have g2 := hg 2 _ rfl 2 1 rfl (by kernel_rfl)
      have g3 := hg 3 _ rfl 3 1 rfl (by kernel_rfl)
      have g4 := hg 4 _ rfl 4 1 rfl (by kernel_rfl)
      simp only [List.drop_zero, List.drop_succ_cons, List.take_succ_cons, List.take_zero, List.getElem?_cons_zero, List.getElem?_cons_succ] at g0 g1 g2 g3 g4
      obtain ⟨a, e0, _, w0⟩ := DataW.trod_int Try.underlying3 g0
      obtain ⟨b, e1, _, w1⟩ := DataW.trod_int Try.underlying3 g1
      obtain ⟨c, e2, _, w2⟩ := DataW.trod_int Try.underlying22 g2
      obtain ⟨d, e3, _, w3⟩ := DataW.trod_int Try.underlying22 g3
      obtain ⟨e, e4, _, w4⟩ := DataW.trod_int Try.underlying22 g4
      simp only [List.cons.injEq, and_true] at e0 e1 e2 e3 e4
      subst e0 e1 e2 e3 e4
      exact ⟨⟨a, b, c, d, e⟩, rfl, ⟨w0, w1, wf_u w2, wf_u w3, wf_u w4⟩⟩
theorem ls_of {fuel : Nat} {cs : List Value} {y : DataW H × List MemPlace} (h : DataW.trod enc Try.prog w base spare held fuel 76 cs = some y) : ∃ x : Ls, cs = lsC x ∧ x.Wf := by
  obtain ⟨xs, n, _, hl, hlen, hg⟩ := parts Try.underlying76 h
  rw [c_Last] at hl
  match cs, hl with
  | [c0, c1, c2, c3, c4, c5], _ =>
    match xs, hlen with
    | [y0, y1, y2, y3], _ =>
      have g0 := hg 0 _ rfl 0 1 rfl (by kernel_rfl)
      have g1 := hg 1 _ rfl 1 1 rfl (by kernel_rfl)
      have g2 := hg 2 _ rfl 2 1 rfl (by kernel_rfl)
      have g3 := hg 3 _ rfl 3 3 rfl (by kernel_rfl)
      simp only [List.drop_zero, List.drop_succ_cons, List.take_succ_cons, List.take_zero, List.getElem?_cons_zero, List.getElem?_cons_succ] at g0 g1 g2 g3
      obtain ⟨a, e0, _, w0⟩ := DataW.trod_int Try.underlying3 g0
      obtain ⟨b, e1, _, w1⟩ := DataW.trod_int Try.underlying22 g1
      obtain ⟨c, e2, _, w2⟩ := DataW.trod_int Try.underlying22 g2
      obtain ⟨zs, m, _, _, hlen2, hk⟩ := parts Try.underlying74 g3
      match zs, hlen2 with
      | [z0, z1, z2], _ =>
        have k0 := hk 0 _ rfl 0 1 rfl (by kernel_rfl)
        have k1 := hk 1 _ rfl 1 1 rfl (by kernel_rfl)
        have k2 := hk 2 _ rfl 2 1 rfl (by kernel_rfl)
        simp only [List.drop_zero, List.drop_succ_cons, List.take_succ_cons, List.take_zero, List.getElem?_cons_zero, List.getElem?_cons_succ] at k0 k1 k2
        obtain ⟨d, e3, _, w3⟩ := DataW.trod_int Try.underlying3 k0
        obtain ⟨e, e4, _, w4⟩ := DataW.trod_int Try.underlying3 k1
        obtain ⟨f, e5, _, w5⟩ := DataW.trod_int Try.underlying22 k2
        simp only [List.cons.injEq, and_true] at e0 e1 e2 e3 e4 e5
        subst e0 e1 e2 e3 e4 e5
        exact ⟨⟨a, b, c, d, e, f⟩, rfl, ⟨w0, wf_u w1, wf_u w2, w3, w4, wf_u w5⟩⟩
/-- A slice of structs that came in, within something else. -/
theorem open_rows {α : Type} {f : α → List Value} {s : Nat} {Wf : α → Prop} {T E : TypeId} {fuel : Nat} {cs : List Value} {x : DataW H × List MemPlace} {ts : List TypeId} {ds : List (DataW H)} (hT : Try.prog.underlying T = some (.slice E)) (hC : Try.prog.cellsOf E = s) (hs : 0 < s) (hbt : Try.prog.bytesOf E = 8 * s) (hfl : ∀ x, (f x).length = s)
    (hof : ∀ fuel cs (y : DataW H × List MemPlace), DataW.trod enc Try.prog w base (fun _ => true) held fuel E cs = some y → ∃ x, cs = f x ∧ Wf x)
    (h : DataW.trod enc Try.prog w base (fun _ => true) held fuel T cs = some x) (hsz : (DataW.weightsEach Try.prog ts ds).all (· ≤ reachBytes) = true) {j : Nat} (ht : ts[j]? = some T) (hd : ds[j]? = some x.1) :
    ∃ A c l, cs = [.slice A l.length c] ∧ InS f s w A c l ∧ ∀ y ∈ l, Wf y := by
  rcases open_slice hT h with ⟨hcs, _⟩ | ⟨a, len, cap, m, n, D, Pl, hcs, _, hl, hm, hmm, hx, hi⟩
  · exact ⟨none, 0, [], hcs, InS.nil, fun y hy => by cases hy⟩
  · have hmc : m = cap := by simpa using hmm
    have hw : cap * (8 * s) ≤ 140737488351232 := by
      rw [hx] at hd
      have z := sized_slice hsz ht hd hT
      rw [hbt] at z
      simp only [List.length_map, List.length_range] at z
      have hr : reachBytes = 140737488351232 := rfl
      rw [hr, show len + (m - len) = cap by omega] at z
      exact z
    have hex : ∀ i, i < len → ∃ y : α, Wf y ∧ ∀ k u, (f y)[k]? = some u → w.cell? ((a.add (i * s)).add k) = some u := by
      intro i hil
      obtain ⟨cs', hc, ht'⟩ := hi i (by omega)
      obtain ⟨y, rfl, hwf⟩ := hof _ _ _ ht'
      obtain ⟨_, hcl, hat⟩ := World.cells?_some hc
      refine ⟨y, hwf, fun k u hu => ?_⟩
      rw [hC] at hat
      have hk : k < s := by
        have := (List.getElem?_eq_some_iff.1 hu).1
        rw [hfl] at this
        exact this
      rw [hat k hk]
      exact hu
    obtain ⟨l, hll, hp⟩ := listed len hex
    have hcap : l.length * (8 * s) ≤ cap * (8 * s) := Nat.mul_le_mul_right _ (by omega)
    refine ⟨some a, cap, l, by rw [hll]; exact hcs, ⟨?_, by omega, by omega⟩, fun y hy => ?_⟩
    · rcases Nat.eq_zero_or_pos l.length with h0 | h0
      · have : l = [] := List.eq_nil_of_length_eq_zero h0
        subst this
        exact ⟨by simp, fun h => by simp at h⟩
      · have hcell : ∀ j u, (l.flatMap f)[j]? = some u → w.cell? (a.add j) = some u := by
          intro j u hu
          have hj : j < l.length * s := by
            have := (List.getElem?_eq_some_iff.1 hu).1
            rw [flat_len hfl] at this
            exact this
          have hq : j / s < l.length := Nat.div_lt_of_lt_mul (by rw [Nat.mul_comm]; exact hj)
          have hr : j % s < s := Nat.mod_lt _ hs
          have hdm : j = j / s * s + j % s := by rw [Nat.mul_comm]; exact (Nat.div_add_mod j s).symm
          rw [hdm, flat_get hfl l _ hq _ hr] at hu
          have := (hp _ hq).2 _ _ hu
          rw [Go.Deep.add_add] at this
          rw [hdm]
          exact this
        have hb : a.block < w.heap.size := by
          have h1 : ∃ u, (l.flatMap f)[0]? = some u := by
            have : 0 < (l.flatMap f).length := by rw [flat_len hfl]; exact Nat.mul_pos h0 hs
            exact ⟨_, List.getElem?_eq_getElem this⟩
          obtain ⟨u, hu⟩ := h1
          have := World.block_lt_of_cell? w _ (hcell 0 u hu)
          simpa [Addr.add] using this
        exact Reads.of_add (flat_len hfl l) hb hcell hs
    · obtain ⟨i, hi, rfl⟩ := List.getElem_of_mem hy
      exact (hp i hi).1
end
/-- What is known of a snapshot that came in. -/
def OpenShot (W : World) (v : Value) : Prop := ∃ i t An cn ns lim nxt Ah ch hs Al cl ls, v = shV i t (.slice An ns.length cn) lim nxt (.slice Ah hs.length ch) (.slice Al ls.length cl) ∧ InN .i64 W An cn ns ∧ ns.length ≤ 17592186043904 ∧ InS hdC 5 W Ah ch hs ∧ InS lsC 6 W Al cl ls ∧
  (∀ h ∈ hs, h.Wf) ∧ (∀ x ∈ ls, x.Wf) ∧ (0 ≤ i ∧ i < 18446744073709551616) ∧ (0 ≤ t ∧ t < 18446744073709551616) ∧ (Lit.int .i64 lim).wf = true ∧ (0 ≤ nxt ∧ nxt < 18446744073709551616)
theorem open_shot {H : Type} {enc : TypeId × Value → H} {W : World} {base : Nat} {r : Reach} {v : Value} {d : DataW H} {p : List MemPlace} {ts : List TypeId} {ds : List (DataW H)}
    (hv : Value.okWide Try.prog W r base 30 v) (h : DataW.Trod enc Try.prog W 0 (fun _ => true) true 30 v d p)
    (hsz : (DataW.weightsEach Try.prog ts ds).all (· ≤ reachBytes) = true) {j : Nat} (ht : ts[j]? = some 30) (hd : ds[j]? = some d) :
    OpenShot W v := by
  obtain ⟨cs, rfl, hcs⟩ := okWide_struct Try.underlying30 hv
  obtain ⟨l⟩ := cs
  match l, hcs.trans c_Shot with
  | [c0, c1, c2, c3, c4, c5, c6], _ =>
    obtain ⟨fuel, hf⟩ := h
    obtain ⟨xs, n, hx, _, hlen, hg⟩ := parts Try.underlying30 hf
    match xs, hlen with
    | [y0, y1, y2, y3], _ =>
      have g0 := hg 0 _ rfl 0 1 rfl (by kernel_rfl)
      have g1 := hg 1 _ rfl 1 1 rfl (by kernel_rfl)
      have g2 := hg 2 _ rfl 2 1 rfl (by kernel_rfl)
      have g3 := hg 3 _ rfl 3 4 rfl (by kernel_rfl)
      simp only [Value.cells, List.drop_zero, List.drop_succ_cons, List.take_succ_cons, List.take_zero, List.getElem?_cons_zero, List.getElem?_cons_succ] at g0 g1 g2 g3
      simp only [Prod.mk.injEq] at hx
      obtain ⟨rfl, _⟩ := hx
      have hin := sized_agg hsz ht hd Try.underlying30
      obtain ⟨i, e0, _, w0⟩ := DataW.trod_int Try.underlying22 g0
      obtain ⟨t, e1, _, w1⟩ := DataW.trod_int Try.underlying22 g1
      obtain ⟨An, cn, ns, e2, i2, s2⟩ := open_nums g2 hin (j := 2) rfl rfl
      obtain ⟨zs, m, hz, _, hlen2, hk⟩ := parts Try.underlying28 g3
      match zs, hlen2 with
      | [z0, z1, z2, z3], _ =>
        have k0 := hk 0 _ rfl 0 1 rfl (by kernel_rfl)
        have k1 := hk 1 _ rfl 1 1 rfl (by kernel_rfl)
        have k2 := hk 2 _ rfl 2 1 rfl (by kernel_rfl)
        have k3 := hk 3 _ rfl 3 1 rfl (by kernel_rfl)
        simp only [List.drop_zero, List.drop_succ_cons, List.take_succ_cons, List.take_zero, List.getElem?_cons_zero, List.getElem?_cons_succ] at k0 k1 k2 k3
        have hzd : y3.1 = .agg ([z0, z1, z2, z3].map (·.1)) := by rw [hz]
        have hin2 := sized_agg hin (j := 3) (t := 28) rfl (by show some y3.1 = _; rw [hzd]) Try.underlying28
        obtain ⟨lim, e3, _, w3⟩ := DataW.trod_int Try.underlying3 k0
        obtain ⟨nxt, e4, _, w4⟩ := DataW.trod_int Try.underlying22 k1
        obtain ⟨Ah, ch, hs, e5, i5, s5⟩ := open_rows (s := 5) Try.underlying25 c_Held (by omega) (by kernel_rfl) hdC_len (fun _ _ _ h => hd_of h) k2 hin2 (j := 2) rfl rfl
        obtain ⟨Al, cl, ls, e6, i6, s6⟩ := open_rows (s := 6) Try.underlying26 c_Last (by omega) (by kernel_rfl) lsC_len (fun _ _ _ h => ls_of h) k3 hin2 (j := 3) rfl rfl
        simp only [List.cons.injEq, and_true] at e0 e1 e2 e3 e4 e5 e6
        subst e0 e1 e2 e3 e4 e5 e6
        exact ⟨i, t, An, cn, ns, lim, nxt, Ah, ch, hs, Al, cl, ls, rfl, i2, s2, i5, i6, s5, s6, wf_u w0, wf_u w1, w3, wf_u w4⟩
end Go.Proofs.Ytjnkpjhggeibeaa

/- Arguments opened: entries, what lasts. -/
namespace Go.Proofs.Ytjnkpjhggeibeaa
set_option maxRecDepth 100000
open Go.Joins Go.ChangeShapes Go.WideShapes Go.RowKit Go.Deep Go.ChangeAt

theorem weightsAll_mem {H : Type} {P : Program} {e : TypeId} : ∀ {l : List (DataW H)} {d : DataW H}, d ∈ l → ∀ n ∈ d.weights P e, n ∈ DataW.weightsAll P e l
  | d' :: r, d, hd, n, hn => by
    simp only [DataW.weightsAll, List.mem_append]
    rcases List.mem_cons.1 hd with rfl | h
    · exact Or.inl hn
    · exact Or.inr (weightsAll_mem h n hn)
/-- What bounds a whole slice bounds its elements. -/
theorem sized_elem {H : Type} {P : Program} {ts : List TypeId} {ds : List (DataW H)} (h : (DataW.weightsEach P ts ds).all (· ≤ reachBytes) = true) {j : Nat} {t e : TypeId} {elems spare : List (DataW H)} (ht : ts[j]? = some t) (hd : ds[j]? = some (.slice elems spare)) (hu : P.underlying t = some (.slice e)) {d : DataW H} (hx : d ∈ elems) :
    (DataW.weightsEach P [e] [d]).all (· ≤ reachBytes) = true := by
  refine List.all_eq_true.2 fun n hn => List.all_eq_true.1 h n (DataW.weights_mem_each ht hd n ?_)
  simp only [DataW.weightsEach, List.append_nil] at hn
  simp only [DataW.weights, hu, List.mem_cons, List.mem_append]
  exact Or.inr (Or.inl (weightsAll_mem hx _ hn))
theorem c_Entry : Try.prog.cellsOf 54 = 9 := by kernel_rfl
theorem c_Cmd : Try.prog.cellsOf 52 = 8 := by kernel_rfl
section
variable {H : Type} {enc : TypeId × Value → H} {w : World}
/-- A slice of structs that came in, within something else; its elements have slices of their own. -/
theorem open_rowsW {α : Type} {f : α → List Value} {s bt : Nat} {Wf : α → Prop} {T E : TypeId} {fuel : Nat} {cs : List Value} {x : DataW H × List MemPlace} {ts : List TypeId} {ds : List (DataW H)} (hT : Try.prog.underlying T = some (.slice E)) (hC : Try.prog.cellsOf E = s) (hs : 0 < s) (hbt : Try.prog.bytesOf E = bt) (hb8 : 8 * s ≤ bt) (hfl : ∀ x, (f x).length = s)
    (hof : ∀ fuel cs (y : DataW H × List MemPlace), DataW.trod enc Try.prog w 0 (fun _ => true) true fuel E cs = some y → (DataW.weightsEach Try.prog [E] [y.1]).all (· ≤ reachBytes) = true → ∃ x, cs = f x ∧ Wf x)
    (h : DataW.trod enc Try.prog w 0 (fun _ => true) true fuel T cs = some x) (hsz : (DataW.weightsEach Try.prog ts ds).all (· ≤ reachBytes) = true) {j : Nat} (ht : ts[j]? = some T) (hd : ds[j]? = some x.1) :
    ∃ A c l, cs = [.slice A l.length c] ∧ InS f s w A c l ∧ l.length * bt ≤ 140737488351232 ∧ ∀ y ∈ l, Wf y := by
  rcases open_slice hT h with ⟨hcs, _⟩ | ⟨a, len, cap, m, n, D, Pl, hcs, _, hl, hm, hmm, hx, hi⟩
  · exact ⟨none, 0, [], hcs, InS.nil, by simp, fun y hy => by cases hy⟩
  · have hmc : m = cap := by simpa using hmm
    have hd2 := hd
    rw [hx] at hd2
    have hw : cap * bt ≤ 140737488351232 := by
      have z := sized_slice hsz ht hd2 hT
      rw [hbt] at z
      simp only [List.length_map, List.length_range] at z
      have hr : reachBytes = 140737488351232 := rfl
      rw [hr, show len + (m - len) = cap by omega] at z
      exact z
    have hex : ∀ i, i < len → ∃ y : α, Wf y ∧ ∀ k u, (f y)[k]? = some u → w.cell? ((a.add (i * s)).add k) = some u := by
      intro i hil
      obtain ⟨cs', hc, ht'⟩ := hi i (by omega)
      obtain ⟨y, rfl, hwf⟩ := hof _ _ _ ht' (sized_elem hsz ht hd2 hT (List.mem_map.2 ⟨i, List.mem_range.2 hil, rfl⟩))
      obtain ⟨_, hcl, hat⟩ := World.cells?_some hc
      refine ⟨y, hwf, fun k u hu => ?_⟩
      rw [hC] at hat
      have hk : k < s := by
        have := (List.getElem?_eq_some_iff.1 hu).1
        rw [hfl] at this
        exact this
      rw [hat k hk]
      exact hu
    obtain ⟨l, hll, hp⟩ := listed len hex
    have hcap : l.length * bt ≤ cap * bt := Nat.mul_le_mul_right _ (by omega)
    have hcap8 : l.length * (8 * s) ≤ l.length * bt := Nat.mul_le_mul_left _ hb8
    refine ⟨some a, cap, l, by rw [hll]; exact hcs, ⟨?_, by omega, by omega⟩, by omega, fun y hy => ?_⟩
    · rcases Nat.eq_zero_or_pos l.length with h0 | h0
      · have : l = [] := List.eq_nil_of_length_eq_zero h0
        subst this
        exact ⟨by simp, fun h => by simp at h⟩
      · have hcell : ∀ j u, (l.flatMap f)[j]? = some u → w.cell? (a.add j) = some u := by
          intro j u hu
          have hj : j < l.length * s := by
            have := (List.getElem?_eq_some_iff.1 hu).1
            rw [flat_len hfl] at this
            exact this
          have hq : j / s < l.length := Nat.div_lt_of_lt_mul (by rw [Nat.mul_comm]; exact hj)
          have hr : j % s < s := Nat.mod_lt _ hs
          have hdm : j = j / s * s + j % s := by rw [Nat.mul_comm]; exact (Nat.div_add_mod j s).symm
          rw [hdm, flat_get hfl l _ hq _ hr] at hu
          have := (hp _ hq).2 _ _ hu
          rw [Go.Deep.add_add] at this
          rw [hdm]
          exact this
        have hb : a.block < w.heap.size := by
          have h1 : ∃ u, (l.flatMap f)[0]? = some u := by
            have : 0 < (l.flatMap f).length := by rw [flat_len hfl]; exact Nat.mul_pos h0 hs
            exact ⟨_, List.getElem?_eq_getElem this⟩
          obtain ⟨u, hu⟩ := h1
          have := World.block_lt_of_cell? w _ (hcell 0 u hu)
          simpa [Addr.add] using this
        exact Reads.of_add (flat_len hfl l) hb hcell hs
    · obtain ⟨i, hi, rfl⟩ := List.getElem_of_mem hy
      exact (hp i hi).1
theorem ec_of {fuel : Nat} {cs : List Value} {y : DataW H × List MemPlace} (h : DataW.trod enc Try.prog w 0 (fun _ => true) true fuel 54 cs = some y) (hsz : (DataW.weightsEach Try.prog [54] [y.1]).all (· ≤ reachBytes) = true) :
    ∃ x : Ec, cs = ecC x ∧ x.e.Wf ∧ InN .i64 w x.A x.c x.e.l := by
  obtain ⟨xs, n, hx, hl, hlen, hg⟩ := parts Try.underlying54 h
  rw [c_Entry] at hl
  match cs, hl with
  | [v0, v1, v2, v3, v4, v5, v6, v7, v8], _ =>
    match xs, hlen with
    | [y0, y1], _ =>
      have g0 := hg 0 _ rfl 0 1 rfl (by kernel_rfl)
      have g1 := hg 1 _ rfl 1 8 rfl (by kernel_rfl)
      simp only [List.drop_zero, List.drop_succ_cons, List.take_succ_cons, List.take_zero, List.getElem?_cons_zero, List.getElem?_cons_succ] at g0 g1
      have hin1 := sized_agg hsz (j := 0) (t := 54) rfl (by show some y.1 = _; rw [hx]) Try.underlying54
      obtain ⟨zs, m, hz, _, hlen2, hk⟩ := parts Try.underlying52 g1
      match zs, hlen2 with
      | [z0, z1, z2, z3, z4, z5, z6, z7], _ =>
        have k0 := hk 0 _ rfl 0 1 rfl (by kernel_rfl)
        have k1 := hk 1 _ rfl 1 1 rfl (by kernel_rfl)
        have k2 := hk 2 _ rfl 2 1 rfl (by kernel_rfl)
        have k3 := hk 3 _ rfl 3 1 rfl (by kernel_rfl)
        have k4 := hk 4 _ rfl 4 1 rfl (by kernel_rfl)
        have k5 := hk 5 _ rfl 5 1 rfl (by kernel_rfl)
        have k6 := hk 6 _ rfl 6 1 rfl (by kernel_rfl)
        have k7 := hk 7 _ rfl 7 1 rfl (by kernel_rfl)
        simp only [List.drop_zero, List.drop_succ_cons, List.take_succ_cons, List.take_zero, List.getElem?_cons_zero, List.getElem?_cons_succ] at k0 k1 k2 k3 k4 k5 k6 k7
        have hzd : y1.1 = .agg ([z0, z1, z2, z3, z4, z5, z6, z7].map (·.1)) := by rw [hz]
        have hin2 := sized_agg hin1 (j := 1) (t := 52) rfl (by show some y1.1 = _; rw [hzd]) Try.underlying52
        obtain ⟨tm, e0, _, w0⟩ := DataW.trod_int Try.underlying22 g0
        obtain ⟨a, e1, _, w1⟩ := DataW.trod_int Try.underlying3 k0
        obtain ⟨b, e2, _, w2⟩ := DataW.trod_int Try.underlying3 k1
        obtain ⟨c, e3, _, w3⟩ := DataW.trod_int Try.underlying3 k2
        obtain ⟨A, cc, l, e4, i4, s4⟩ := open_nums k3 hin2 (j := 3) rfl rfl
        obtain ⟨d, e5, _, w5⟩ := DataW.trod_int Try.underlying22 k4
        obtain ⟨q, e6, _, w6⟩ := DataW.trod_int Try.underlying22 k5
        obtain ⟨s, e7, _, w7⟩ := DataW.trod_int Try.underlying22 k6
        obtain ⟨mm, e8, _, w8⟩ := DataW.trod_int Try.underlying22 k7
        simp only [List.cons.injEq, and_true] at e0 e1 e2 e3 e4 e5 e6 e7 e8
        subst e0 e1 e2 e3 e4 e5 e6 e7 e8
        exact ⟨⟨A, cc, ⟨tm, a, b, c, l, d, q, s, mm⟩⟩, rfl, ⟨wf_u w0, w1, w2, w3, s4, wf_u w5, wf_u w6, wf_u w7, wf_u w8⟩, i4⟩
theorem open_entries {fuel : Nat} {cs : List Value} {x : DataW H × List MemPlace} {ts : List TypeId} {ds : List (DataW H)} (h : DataW.trod enc Try.prog w 0 (fun _ => true) true fuel 23 cs = some x) (hsz : (DataW.weightsEach Try.prog ts ds).all (· ≤ reachBytes) = true) {j : Nat} (ht : ts[j]? = some 23) (hd : ds[j]? = some x.1) :
    ∃ A c l, cs = [.slice A l.length c] ∧ InE w A c l ∧ l.length * 88 ≤ 140737488351232 ∧ ∀ y ∈ l, y.e.Wf := by
  obtain ⟨A, c, l, e, h1, h2, h3⟩ := open_rowsW (s := 9) (bt := 88) (Wf := fun y : Ec => y.e.Wf ∧ InN .i64 w y.A y.c y.e.l) Try.underlying23 c_Entry (by omega) (by kernel_rfl) (by omega) ecC_len (fun _ _ _ k z => ec_of k z) h hsz ht hd
  exact ⟨A, c, l, e, ⟨h1, fun y hy => (h3 y hy).2, by omega⟩, h2, fun y hy => (h3 y hy).1⟩
theorem sh_of {fuel : Nat} {cs : List Value} {y : DataW H × List MemPlace} {ts : List TypeId} {ds : List (DataW H)} (hf : DataW.trod enc Try.prog w 0 (fun _ => true) true fuel 30 cs = some y) (hsz : (DataW.weightsEach Try.prog ts ds).all (· ≤ reachBytes) = true) {j : Nat} (ht : ts[j]? = some 30) (hd : ds[j]? = some y.1) :
    ∃ (s : Sh) (a : Sa), cs = [.int .u64 s.i, .int .u64 s.t, .slice a.A0 s.ns.length a.c0, .int .i64 s.lim, .int .u64 s.nxt, .slice a.A1 s.hs.length a.c1, .slice a.A2 s.ls.length a.c2] ∧ InSh w s a ∧ s.Wf := by
  obtain ⟨xs, n, hx, hcl, hlen, hg⟩ := parts Try.underlying30 hf
  rw [c_Shot] at hcl
  match cs, hcl with
  | [c0, c1, c2, c3, c4, c5, c6], _ =>
    match xs, hlen with
    | [y0, y1, y2, y3], _ =>
      have g0 := hg 0 _ rfl 0 1 rfl (by kernel_rfl)
      have g1 := hg 1 _ rfl 1 1 rfl (by kernel_rfl)
      have g2 := hg 2 _ rfl 2 1 rfl (by kernel_rfl)
      have g3 := hg 3 _ rfl 3 4 rfl (by kernel_rfl)
      simp only [List.drop_zero, List.drop_succ_cons, List.take_succ_cons, List.take_zero, List.getElem?_cons_zero, List.getElem?_cons_succ] at g0 g1 g2 g3
      have hin := sized_agg hsz ht (by rw [hd, hx]) Try.underlying30
      obtain ⟨i, e0, _, w0⟩ := DataW.trod_int Try.underlying22 g0
      obtain ⟨t, e1, _, w1⟩ := DataW.trod_int Try.underlying22 g1
      obtain ⟨An, cn, ns, e2, i2, s2⟩ := open_nums g2 hin (j := 2) rfl rfl
      obtain ⟨zs, m, hz, _, hlen2, hk⟩ := parts Try.underlying28 g3
      match zs, hlen2 with
      | [z0, z1, z2, z3], _ =>
        have k0 := hk 0 _ rfl 0 1 rfl (by kernel_rfl)
        have k1 := hk 1 _ rfl 1 1 rfl (by kernel_rfl)
        have k2 := hk 2 _ rfl 2 1 rfl (by kernel_rfl)
        have k3 := hk 3 _ rfl 3 1 rfl (by kernel_rfl)
        simp only [List.drop_zero, List.drop_succ_cons, List.take_succ_cons, List.take_zero, List.getElem?_cons_zero, List.getElem?_cons_succ] at k0 k1 k2 k3
        have hzd : y3.1 = .agg ([z0, z1, z2, z3].map (·.1)) := by rw [hz]
        have hin2 := sized_agg hin (j := 3) (t := 28) rfl (by show some y3.1 = _; rw [hzd]) Try.underlying28
        obtain ⟨lim, e3, _, w3⟩ := DataW.trod_int Try.underlying3 k0
        obtain ⟨nxt, e4, _, w4⟩ := DataW.trod_int Try.underlying22 k1
        obtain ⟨Ah, ch, hs, e5, i5, s5⟩ := open_rows (s := 5) Try.underlying25 c_Held (by omega) (by kernel_rfl) hdC_len (fun _ _ _ h => hd_of h) k2 hin2 (j := 2) rfl rfl
        obtain ⟨Al, cl, ls, e6, i6, s6⟩ := open_rows (s := 6) Try.underlying26 c_Last (by omega) (by kernel_rfl) lsC_len (fun _ _ _ h => ls_of h) k3 hin2 (j := 3) rfl rfl
        simp only [List.cons.injEq, and_true] at e0 e1 e2 e3 e4 e5 e6
        subst e0 e1 e2 e3 e4 e5 e6
        exact ⟨⟨i, t, ns, lim, nxt, hs, ls⟩, ⟨An, cn, Ah, ch, Al, cl⟩, rfl, ⟨i2, i5, i6⟩, ⟨wf_u w0, wf_u w1, s2, w3, wf_u w4, s5, s6⟩⟩
end
/-- What is known of what lasts that came in. -/
def OpenHrd (W : World) (v : Value) : Prop := ∃ h p PA PC xs, v = hrdV h p PA PC xs ∧ InH W h p PA PC xs ∧ (h.hrd xs).Wf ∧ xs.length * 88 ≤ 140737488351232
end Go.Proofs.Ytjnkpjhggeibeaa

/- Arguments opened: messages. -/
namespace Go.Proofs.Ytjnkpjhggeibeaa
set_option maxRecDepth 100000
open Go.Joins Go.ChangeShapes Go.WideShapes Go.RowKit Go.Deep Go.ChangeAt

structure Mb.Wf (m : Mb) : Prop where
  k : (Lit.int .i64 m.k).wf = true
  fr : (Lit.int .i64 m.fr).wf = true
  o : (Lit.int .i64 m.o).wf = true
  tm : 0 ≤ m.tm ∧ m.tm < 18446744073709551616
  ix : 0 ≤ m.ix ∧ m.ix < 18446744073709551616
  lt : 0 ≤ m.lt ∧ m.lt < 18446744073709551616
  cm : 0 ≤ m.cm ∧ m.cm < 18446744073709551616
  sh : m.sh.Wf
/-- What is known of a message that came in. -/
def OpenMsg (W : World) (v : Value) : Prop := ∃ m p PA PC xs, v = mgV m p PA xs.length PC ∧ InE W PA PC xs ∧ InSh W m.sh p ∧ (∀ x ∈ xs, x.e.Wf) ∧ m.Wf ∧ xs.length * 88 ≤ 140737488351232
theorem c_Msg : Try.prog.cellsOf 32 = 16 := by kernel_rfl
theorem open_msg {H : Type} {enc : TypeId × Value → H} {W : World} {base : Nat} {r : Reach} {v : Value} {d : DataW H} {p : List MemPlace} {ts : List TypeId} {ds : List (DataW H)}
    (hv : Value.okWide Try.prog W r base 32 v) (h : DataW.Trod enc Try.prog W 0 (fun _ => true) true 32 v d p)
    (hsz : (DataW.weightsEach Try.prog ts ds).all (· ≤ reachBytes) = true) {j : Nat} (ht : ts[j]? = some 32) (hd : ds[j]? = some d) :
    OpenMsg W v := by
  obtain ⟨cs, rfl, hcs⟩ := okWide_struct Try.underlying32 hv
  obtain ⟨l⟩ := cs
  match l, hcs.trans c_Msg with
  | [c0, c1, c2, c3, c4, c5, c6, c7, c8, c9, c10, c11, c12, c13, c14, c15], _ =>
    obtain ⟨fuel, hf⟩ := h
    obtain ⟨xs, n, hx, _, hlen, hg⟩ := parts Try.underlying32 hf
    match xs, hlen with
    | [y0, y1, y2, y3, y4, y5, y6, y7, y8, y9], _ =>
      have g0 := hg 0 _ rfl 0 1 rfl (by kernel_rfl)
      have g1 := hg 1 _ rfl 1 1 rfl (by kernel_rfl)
      have g2 := hg 2 _ rfl 2 1 rfl (by kernel_rfl)
      have g3 := hg 3 _ rfl 3 1 rfl (by kernel_rfl)
      have g4 := hg 4 _ rfl 4 1 rfl (by kernel_rfl)
      have g5 := hg 5 _ rfl 5 1 rfl (by kernel_rfl)
      have g6 := hg 6 _ rfl 6 1 rfl (by kernel_rfl)
      have g7 := hg 7 _ rfl 7 1 rfl (by kernel_rfl)
      have g8 := hg 8 _ rfl 8 1 rfl (by kernel_rfl)
      have g9 := hg 9 _ rfl 9 7 rfl (by kernel_rfl)
      simp only [Value.cells, List.drop_zero, List.drop_succ_cons, List.take_succ_cons, List.take_zero, List.getElem?_cons_zero, List.getElem?_cons_succ] at g0 g1 g2 g3 g4 g5 g6 g7 g8 g9
      simp only [Prod.mk.injEq] at hx
      obtain ⟨rfl, _⟩ := hx
      have hin := sized_agg hsz ht hd Try.underlying32
      obtain ⟨b0, e0, _, w0⟩ := DataW.trod_int Try.underlying3 g0
      obtain ⟨b1, e1, _, w1⟩ := DataW.trod_int Try.underlying3 g1
      obtain ⟨b2, e2, _, w2⟩ := DataW.trod_int Try.underlying3 g2
      obtain ⟨b3, e3, _, w3⟩ := DataW.trod_int Try.underlying22 g3
      obtain ⟨b4, e4, _, w4⟩ := DataW.trod_int Try.underlying22 g4
      obtain ⟨b5, e5, _, w5⟩ := DataW.trod_int Try.underlying22 g5
      obtain ⟨b6, e6, _, w6⟩ := DataW.trod_int Try.underlying22 g6
      obtain ⟨b7, e7, _⟩ := DataW.trod_bool Try.underlying4 g7
      obtain ⟨A, c, xs, e8, i8, s8, w8⟩ := open_entries g8 hin (j := 8) rfl rfl
      obtain ⟨s, a, e9, i9, w9⟩ := sh_of g9 hin (j := 9) rfl rfl
      simp only [List.cons.injEq, and_true] at e0 e1 e2 e3 e4 e5 e6 e7 e8 e9
      obtain ⟨e9, e9b, e9c, e9d, e9e, e9f, e9g⟩ := e9
      subst e0 e1 e2 e3 e4 e5 e6 e7 e8 e9 e9b e9c e9d e9e e9f e9g
      exact ⟨⟨b0, b1, b2, b3, b4, b5, b6, b7, s⟩, a, A, c, xs, rfl, i8, i9, w8, ⟨w0, w1, w2, wf_u w3, wf_u w4, wf_u w5, wf_u w6, w9⟩, s8⟩
end Go.Proofs.Ytjnkpjhggeibeaa

/- What may last, by the code: hard.last, hard.Check. -/
namespace Go.Proofs.Ytjnkpjhggeibeaa
set_option maxRecDepth 100000
open Go.RowKit

theorem wrap_sum (i : Int) (n : Nat) (hi : 0 ≤ i ∧ i ≤ 4611686018427387904) (hn : n * 88 ≤ 140737488355328) : IntKind.u64.wrap (n : Int) = (n : Int) ∧ IntKind.u64.wrap (i + (n : Int)) = i + (n : Int) := by
  rw [IntKind.wrap_u64, IntKind.wrap_u64]
  omega
end Go.Proofs.Ytjnkpjhggeibeaa

/- What may last, by the document: Last, Check. -/
namespace Go.Proofs.Ytjnkpjhggeibeaa
set_option maxRecDepth 100000
open Go.RowKit

/-- All but the log. -/
structure HrdHead (h : Hb) (n : Nat) : Prop where
  bt : h.bt ≤ 4611686018427387904
  sh : h.sh.Ok
  i : h.sh.i ≤ 4611686018427387904
  last : h.sh.i + (n : Int) ≤ 4611686018427387904
  v0 : 0 ≤ h.vt
  v7 : h.vt ≤ 7
  tv : h.tm = 0 → h.vt = 0
noncomputable instance (h : Hb) (n : Nat) : Decidable (HrdHead h n) := Classical.propDecidable _
theorem hrd_iff (h : Hb) (xs : List Ec) : (h.hrd xs).Ok ↔ HrdHead h xs.length ∧ logOk h.sh.t (xs.map (·.e)) = true ∧ lastTm h.sh.t (xs.map (·.e)) ≤ h.tm := by
  constructor
  · intro k
    exact ⟨⟨k.bt, k.sh, k.i, by have := k.last; simp only [Hb.hrd, List.length_map] at this; exact this, k.v0, k.v7, k.tv⟩, k.log, k.tm⟩
  · rintro ⟨k, l, m⟩
    exact ⟨k.bt, k.sh, k.i, by simp only [Hb.hrd, List.length_map]; exact k.last, k.v0, k.v7, k.tv, l, m⟩

end Go.Proofs.Ytjnkpjhggeibeaa

/- math/bits.Len64 by the shelf's contract, laid at this translation in plain words (written by the shelf's tools lay-shelf, lay-plain; numbers by name). -/
namespace Go.Proofs
open Go.Shelf
end Go.Proofs

/- The walk of octet.Num: whatever 64-bit number, its bytes (numB), in new memory. -/
namespace Go.Proofs.Ytjnkpjhggeibeaa
set_option maxRecDepth 100000
open Go.RowKit

theorem shr_byte (n : Nat) (j : Nat) : (n : Int) / 2 ^ (8 * j) % 256 = ((n / 256 ^ j % 256 : Nat) : Int) := by
  have : (2 : Int) ^ (8 * j) = ((256 ^ j : Nat) : Int) := by
    rw [Int.natCast_pow, Int.pow_mul]; rfl
  rw [this]
  omega

end Go.Proofs.Ytjnkpjhggeibeaa

/- The walk of octet.ReadNum: any bytes are read as a number, or refused (readN). -/
namespace Go.Proofs.Ytjnkpjhggeibeaa
set_option maxRecDepth 100000
open Go.RowKit

theorem or_byte (F : Nat) (z : Int) (hF : F < 72057594037927936) (hz : 0 ≤ z ∧ z ≤ 255) : bits .or .u64 (IntKind.u64.wrap ((F : Int) * 256)) z = ((F * 256 + z.toNat : Nat) : Int) := by
  obtain ⟨n, rfl⟩ := Int.eq_ofNat_of_zero_le hz.1
  rw [IntKind.wrap_u64]
  have e : (F : Int) * 256 % 18446744073709551616 = ((F * 256 : Nat) : Int) := by omega
  rw [e, u64_or_nat _ _ (by omega) (by omega), nat_join 8 (F * 256) n (by omega) (by omega)]
  rfl
theorem fold_small (l : List Int) (hl : Byt l) (j : Nat) (hj : j ≤ 7) : fold (l.take j) < 72057594037927936 := by
  have h1 := fold_lt (l.take j) (hl.take j)
  have h2 : (l.take j).length ≤ 7 := by simp; omega
  have h3 : 256 ^ (l.take j).length ≤ 256 ^ 7 := Nat.pow_le_pow_right (by omega) h2
  omega
theorem fold_step (l : List Int) (j : Nat) (z : Int) (h : 1 + j < l.length) (hz : l[1 + j] = z) : fold (l.tail.take (j + 1)) = fold (l.tail.take j) * 256 + z.toNat := by
  rw [List.take_succ_eq_append_getElem (by simp; omega), fold_snoc]
  simp [← hz, Nat.add_comm]

end Go.Proofs.Ytjnkpjhggeibeaa

/- The walks of the document's answer for layer 1: Num (by rest), ReadNum. -/
namespace Go.Proofs.Ytjnkpjhggeibeaa
set_option maxRecDepth 100000
open Go.RowKit

theorem beF_be (n : Nat) : beF 8 n = be n := rfl
theorem mul_byte (F : Nat) (z : Int) (hF : F < 72057594037927936) (hz : 0 ≤ z ∧ z ≤ 255) : IntKind.u64.wrap (IntKind.u64.wrap ((F : Int) * 256) + z) = ((F * 256 + z.toNat : Nat) : Int) := by
  rw [IntKind.wrap_u64, IntKind.wrap_u64]
  omega

end Go.Proofs.Ytjnkpjhggeibeaa

/- Walks over commands: bytes are written; the document's Nodes. -/
namespace Go.Proofs.Ytjnkpjhggeibeaa
set_option maxRecDepth 100000
open Go.RowKit

/-- From W on, nothing old but block r has turned; v lies in r or is new. -/
structure Grow (W : World) (r : Option Nat) (wr : World) (v : Value) : Prop where
  grown : W.grownBy wr r
  at_ : v.ownBlock = r ∨ ∃ b, v.ownBlock = some b ∧ W.heap.size ≤ b
theorem Grow.refl (W : World) (v : Value) : Grow W v.ownBlock W v := ⟨World.grownBy.refl W _, .inl rfl⟩
theorem Grow.below {W wr : World} {r : Option Nat} {v : Value} {base : Nat} (h : Grow W r wr v) (hW : base ≤ W.heap.size) (hr : ∀ k, r = some k → base ≤ k) : Below base W wr := (Below.refl _ _).grown h.grown hW hr
theorem Grow.step {W wr w1 : World} {r : Option Nat} {v : Value} (h : Grow W r wr v) (hb : Below wr.heap.size wr w1) : Grow W r w1 v :=
  ⟨⟨hb.os.trans h.grown.os, hb.tape.trans h.grown.tape, hb.output.trans h.grown.output, Nat.le_trans h.grown.size hb.size, fun i hi hne => (hb.block i (Nat.lt_of_lt_of_le hi h.grown.size)).trans (h.grown.block i hi hne)⟩, h.at_⟩
theorem Grow.app {W wr w1 : World} {r : Option Nat} {v v1 : Value} (h : Grow W r wr v) (hg : wr.grownBy w1 v.ownBlock) (hat : v1.ownBlock = v.ownBlock ∨ ∃ b, v1.ownBlock = some b ∧ wr.heap.size ≤ b) : Grow W r w1 v1 := by
  refine ⟨⟨hg.os.trans h.grown.os, hg.tape.trans h.grown.tape, hg.output.trans h.grown.output, Nat.le_trans h.grown.size hg.size, fun i hi hne => ?_⟩, ?_⟩
  · refine (hg.block i (Nat.lt_of_lt_of_le hi h.grown.size) ?_).trans (h.grown.block i hi hne)
    rcases h.at_ with e | ⟨b, e, hb⟩
    · rw [e]; exact hne
    · rw [e]
      intro hh
      injection hh with hh
      omega
  · rcases hat with e | ⟨b, e, hb⟩
    · rw [e]; exact h.at_
    · exact .inr ⟨b, e, Nat.le_trans h.grown.size hb⟩

theorem Grow.then_ {W wr w1 : World} {r : Option Nat} {v v1 : Value} (h : Grow W r wr v) (k : Grow wr v.ownBlock w1 v1) : Grow W r w1 v1 := h.app k.grown k.at_
/-- A set of nodes has at most seven. -/
theorem set_ge {l : List Int} (h : IsSet l) : ∀ j (hj : j < l.length), (j : Int) + 1 ≤ l[j] := by
  intro j
  induction j with
  | zero =>
    intro hj
    have := (h.2 0 hj hj).1
    omega
  | succ j ih =>
    intro hj
    have h1 := ih (by omega)
    have h2 := (h.2 (j + 1) hj hj).2.2 (by omega)
    simp only [Nat.add_sub_cancel] at h2
    omega
theorem set_len {l : List Int} (h : IsSet l) : l.length ≤ 7 := by
  have h0 := h.1
  have h1 := set_ge h (l.length - 1) (by omega)
  have h2 := (h.2 (l.length - 1) (by omega) (by omega)).2.1
  omega
theorem set_mem {l : List Int} (h : IsSet l) {j : Nat} (hj : j < l.length) : 1 ≤ l[j] ∧ l[j] ≤ 7 := ⟨(h.2 j hj hj).1, (h.2 j hj hj).2.1⟩

/-- Numbers' bytes, one behind the other. -/
def numsB (l : List Int) : List Int := l.flatMap fun z => numB z.toNat
theorem numsB_snoc (l : List Int) (z : Int) : numsB (l ++ [z]) = numsB l ++ numB z.toNat := by simp [numsB]
theorem numsB_cons (z : Int) (l : List Int) : numsB (z :: l) = numB z.toNat ++ numsB l := by simp [numsB]
theorem numsB_append (l m : List Int) : numsB (l ++ m) = numsB l ++ numsB m := by simp [numsB]
theorem numsB_le (l : List Int) : (numsB l).length ≤ 9 * l.length := by
  induction l with
  | nil => simp [numsB]
  | cons z l ih =>
    rw [numsB_cons, List.length_append, List.length_cons]
    have := numB_le z.toNat
    omega
theorem numsB_byt (l : List Int) : Byt (numsB l) := by
  induction l with
  | nil => exact Byt.nil
  | cons z l ih => rw [numsB_cons]; exact (numB_byt _).append ih
theorem numsB_take_succ (l : List Int) {k : Nat} (hk : k < l.length) : numsB (l.take (k + 1)) = numsB (l.take k) ++ numB (l[k]).toNat := by
  rw [← List.take_append_getElem hk, numsB_snoc]

end Go.Proofs.Ytjnkpjhggeibeaa

/- Snapshots' bytes: plain; the code's lay, the document's num. -/
namespace Go.Proofs.Ytjnkpjhggeibeaa
set_option maxRecDepth 100000
open Go.RowKit

theorem InN.grown {k : IntKind} {w w' : World} {A : Option Addr} {c : Nat} {l : List Int} {r : Option Nat} (h : InN k w A c l) (hg : w.grownBy w' r) (hne : ∀ b off, A = some ⟨b, off, none⟩ → some b ≠ r) : InN k w' A c l := by
  refine ⟨⟨h.reads.1, fun h0 => ?_⟩, h.wf, h.cap, h.small⟩
  obtain ⟨b, off, e, hb, hc⟩ := h.reads.2 h0
  exact ⟨b, off, e, Nat.lt_of_lt_of_le hb hg.size, fun j u hu => (World.cell?_of_block (hg.block b hb (hne b off e))).trans (hc j u hu)⟩
/-- All of them are words. -/
def Wds (l : List Int) : Prop := ∀ z ∈ l, 0 ≤ z ∧ z < 18446744073709551616
theorem Wds.wfs {l : List Int} (h : Wds l) : Wfs .u64 l := fun z hz => by
  have := h z hz
  simp [Lit.wf, IntKind.min, IntKind.max, IntKind.bits, IntKind.signed]
  omega

def hdL (h : Hd) : List Int := [h.tok, h.nod, h.bt, h.ser, h.stp]
def lsL (x : Ls) : List Int := [x.nod, x.bt, x.sq, x.cod, x.tok, x.ser]
/-- A snapshot's numbers, in order. -/
def shotL (i t : Int) (ns : List Int) (lim nxt : Int) (hs : List Hd) (ls : List Ls) : List Int :=
  [i, t, (ns.length : Int)] ++ (ns ++ ([lim, nxt, (hs.length : Int)] ++ (hs.flatMap hdL ++ ([(ls.length : Int)] ++ ls.flatMap lsL))))
/-- A snapshot's bytes. -/
def shotB (i t : Int) (ns : List Int) (lim nxt : Int) (hs : List Hd) (ls : List Ls) : List Int := 83 :: numsB (shotL i t ns lim nxt hs ls)
theorem LssOk.len {lim nxt : Int} {ls : List Ls} (h : LssOk lim nxt ls ls.length) : ls.length ≤ 7 := by
  have hge : ∀ j (hj : j < ls.length), (j : Int) + 1 ≤ ls[j].nod := by
    intro j
    induction j with
    | zero =>
      intro hj
      have := (h 0 hj hj).nod1
      omega
    | succ j ih =>
      intro hj
      have h1 := ih (by omega)
      have h2 := (h (j + 1) hj hj).rise (by omega) (by omega)
      simp only [Nat.add_sub_cancel] at h2
      omega
  rcases Nat.eq_zero_or_pos ls.length with h0 | h0
  · omega
  · have h1 := hge (ls.length - 1) (by omega)
    have h2 := (h (ls.length - 1) (by omega) (by omega)).nod2
    omega
end Go.Proofs.Ytjnkpjhggeibeaa

/- What lasts in new memory: the document's Entries, Copy. -/
namespace Go.Proofs.Ytjnkpjhggeibeaa
set_option maxRecDepth 100000
open Go.RowKit

/-- append(v, x) of one struct, as a step of a region that draws its order: any number of them. -/
theorem step_oneG {α : Type} {f : α → List Value} {s bytes : Nat} {T E : TypeId} {z0 : Value} {W : World} (hT : Try.prog.underlying T = some (.slice E)) (hinfo : (Try.prog.info? E).map (fun i => (i.zero, i.size, i.bytes)) = some (some z0, s, bytes)) (hz : z0.cells.size = s) (hs0 : 0 < s) (hfl : ∀ x, (f x).length = s) (hone : ∀ x, ∀ u ∈ f x, u.oneCell' = true)
    {ops : Array Oper} {o : Oper} {a : Act} {K : Act → World → Prop} {Q : Exit → Act → World → Prop} {EE : Prop} {cs : Array Value} (base : Nat) (hgd : o.guard = none) (sx x : Operand)
    (ho : o.op = .call { callee := .builtin .append, args := #[sx, x], argTypes := #[T, T] })
    (v : Value) (l : List α) (y : α) (hs : a.eval sx = v) (hcs : cs = (f y).toArray) (hx : a.eval x = .slice (some ⟨W.heap.size, 0, none⟩) 1 1) (HO : W.ownsRow base E s v l.length (l.flatMap f)) (hbase : base ≤ W.heap.size) (hl : (l.length + 1) * bytes ≤ 140737488355328) (hb1 : 1 ≤ bytes)
    (h : ∀ v1 w1, w1.ownsRow base E s v1 (l ++ [y]).length ((l ++ [y]).flatMap f) → W.grownBy w1 v.ownBlock → (v1.ownBlock = v.ownBlock ∨ ∃ b, v1.ownBlock = some b ∧ W.heap.size ≤ b) → K (a.put o.dst v1) w1) :
    if Region.wanted o (yielded ops a.tmps) = true then Oper.wp Try.prog o a (W.alloc (.cells cs E)) K Q else EE := by
  have hr : Reads (W.alloc (.cells cs E)) (W.heap.size + 1) s (some ⟨W.heap.size, 0, none⟩) 1 (f y) := by
    subst hcs
    refine ⟨by rw [hfl, Nat.one_mul], fun _ => ⟨W.heap.size, 0, rfl, by omega, fun j u hu => ?_⟩⟩
    rw [Nat.zero_add, World.cell?_alloc_mark]
    simpa using hu
  obtain ⟨i0, hi, hz0, hz1, hz2⟩ := info_parts hinfo
  have hO := World.ownsRow.alloc HO (.cells cs E)
  have hlen : l.length + 1 ≤ (l.length + 1) * bytes := Nat.le_mul_of_pos_right _ hb1
  refine step_append_any _ hgd sx x T ho base E i0 z0 s bytes hT hi hz0 hz1 hz2 hz hs0 v l.length (l.flatMap f) hs hO (W.heap.size + 1) _ _ _ (f y) hx hr (hone y) (by simp only [maxLen]; omega) hl (by simp; omega) ?_
  intro v1 w1 ho1 hg hat
  refine h v1 w1 ?_ (World.grownBy.trans (World.grownBy_alloc W _ _) hg) ?_
  · rw [List.length_append, List.length_singleton, List.flatMap_append, List.flatMap_singleton]
    exact ho1
  · rcases hat with hat | hat
    · exact .inl hat
    · exact .inr ⟨_, hat, by simp⟩
/-- Entries in the call's own memory, from block base on. -/
structure OwE (w : World) (base : Nat) (A : Option Addr) (c : Nat) (xs : List Ec) : Prop where
  inn : InE w A c xs
  own : ∀ a, A = some a → base ≤ a.block
  lists : ∀ x ∈ xs, ∀ a, x.A = some a → base ≤ a.block
theorem OwE.keep {w w1 : World} {base : Nat} {A : Option Addr} {c : Nat} {xs : List Ec} (h : OwE w base A c xs) (hb : Below w.heap.size w w1) : OwE w1 base A c xs := ⟨h.inn.keep hb, h.own, h.lists⟩
theorem OwE.lower {w : World} {base base' : Nat} {A : Option Addr} {c : Nat} {xs : List Ec} (h : OwE w base A c xs) (hb : base' ≤ base) : OwE w base' A c xs := ⟨h.inn, fun a e => Nat.le_trans hb (h.own a e), fun x hx a e => Nat.le_trans hb (h.lists x hx a e)⟩
theorem InN.setx {k : IntKind} {w : World} {A : Option Addr} {c : Nat} {l : List Int} (h : InN k w A c l) {p : Addr} (hp : ∀ a, A = some a → p.block ≠ a.block) (u : Value) : InN k (w.setCell p u) A c l := by
  refine ⟨⟨h.reads.1, fun h0 => ?_⟩, h.wf, h.cap, h.small⟩
  obtain ⟨b, off, e, hb, hc⟩ := h.reads.2 h0
  refine ⟨b, off, e, by simpa [World.setCell] using hb, fun j u' hu => ?_⟩
  rw [World.cell?_setCell_other w p _ u (fun e2 => by have := hp _ e; rw [e2] at this; exact this rfl)]
  exact hc j u' hu
theorem OwE.set {w : World} {base : Nat} {A : Option Addr} {c : Nat} {xs : List Ec} (h : OwE w base A c xs) {p : Addr} (hp : p.block < base) (u : Value) : OwE (w.setCell p u) base A c xs :=
  ⟨⟨h.inn.rows.far (fun b off e => by have := h.own _ e; simp only at this; omega) u, fun x hx => (h.inn.inn x hx).setx (fun a e => by have := h.lists x hx a e; omega) u, h.inn.small⟩, h.own, h.lists⟩
/-- What is kept of the entries that have been copied, while a further one is. -/
structure Ent1 (w : World) (g : Nat) (v : Value) (ys : List Ec) : Prop where
  row : w.ownsRow g 54 9 v ys.length (ys.flatMap ecC)
  inn : ∀ y ∈ ys, InN .i64 w y.A y.c y.e.l
  own : ∀ y ∈ ys, ∀ a, y.A = some a → g ≤ a.block ∧ v.ownBlock ≠ some a.block
theorem Ent1.drew {w : World} {g : Nat} {v : Value} {ys : List Ec} (h : Ent1 w g v ys) : Ent1 w.drew g v ys := ⟨h.row, fun y hy => ⟨(h.inn y hy).reads.drew, (h.inn y hy).wf, (h.inn y hy).cap, (h.inn y hy).small⟩, h.own⟩
theorem Ent1.below {w w1 : World} {g : Nat} {v : Value} {ys : List Ec} (h : Ent1 w g v ys) (hb : Below w.heap.size w w1) : Ent1 w1 g v ys := ⟨own_below h.row hb, fun y hy => (h.inn y hy).keep hb, h.own⟩
theorem Ent1.push {w w1 : World} {g : Nat} {v v1 : Value} {ys : List Ec} {y : Ec} (h : Ent1 w g v ys) (hr : w1.ownsRow g 54 9 v1 (ys ++ [y]).length ((ys ++ [y]).flatMap ecC)) (hg : w.grownBy w1 v.ownBlock) (hat : v1.ownBlock = v.ownBlock ∨ ∃ b, v1.ownBlock = some b ∧ w.heap.size ≤ b)
    (hy : InN .i64 w y.A y.c y.e.l) (ho : ∀ a, y.A = some a → g ≤ a.block ∧ v.ownBlock ≠ some a.block) (hlt : ∀ a, y.A = some a → a.block < w.heap.size) (hlts : ∀ x ∈ ys, ∀ a, x.A = some a → a.block < w.heap.size) : Ent1 w1 g v1 (ys ++ [y]) := by
  have hne : ∀ a : Addr, v.ownBlock ≠ some a.block → a.block < w.heap.size → v1.ownBlock ≠ some a.block := by
    intro a h1 h2 h3
    rcases hat with q | ⟨b, q, hb⟩
    · exact h1 (q.symm.trans h3)
    · rw [q] at h3
      injection h3 with h3
      omega
  refine ⟨hr, fun x hx => ?_, fun x hx a ha => ?_⟩
  · rcases List.mem_append.1 hx with q | q
    · exact (h.inn x q).grown hg (fun b off e hh => (h.own x q _ e).2 hh.symm)
    · rw [List.mem_singleton] at q
      subst q
      exact hy.grown hg (fun b off e hh => (ho _ e).2 hh.symm)
  · rcases List.mem_append.1 hx with q | q
    · exact ⟨(h.own x q a ha).1, hne a (h.own x q a ha).2 (hlts x q a ha)⟩
    · rw [List.mem_singleton] at q
      subst q
      exact ⟨(ho a ha).1, hne a (ho a ha).2 (hlt a ha)⟩

set_option maxHeartbeats 8000000 in
theorem r04_Entries_any (w : World) (A : Option Addr) (c : Nat) (xs : List Ec) (h : InE w A c xs) (hl : ∀ x ∈ xs, x.e.l.length ≤ 17592186043904) :
    Calls Try.prog 8 #[.slice A xs.length c] w fun e w' => ∃ A' c' ys, e = .returned (.slice A' ys.length c') ∧ ys.map (·.e) = xs.map (·.e) ∧ OwE w' w.heap.size A' c' ys ∧ Below w.heap.size w w' := by
  obtain ⟨g, hg⟩ : ∃ g, w.heap.size = g := ⟨_, rfl⟩
  rw [hg]
  have HIN := Lib.hid h
  have hsm := h.small
  have HLL := Lib.hid hl
  clear h hl
  go_enter Try.func8, Try.ntmps8
  go_wp2_with fail
  go_loopw [3, 5, 8] (fun v _ iv wr => ∃ (k : Nat) (ys : List Ec), iv = .int .i64 (k : Int) ∧ k ≤ xs.length ∧ ys.length = k ∧ ys.map (·.e) = (xs.take k).map (·.e) ∧ Ent1 wr g v ys ∧ Below g w wr ∧ (∀ y ∈ ys, ∀ a, y.A = some a → a.block < wr.heap.size)) (fun _ _ iv _ => xs.length - (intOf iv).toNat)
  case atStart => exact ⟨0, [], rfl, by omega, rfl, rfl, ⟨own_nil _ _ _ _, (fun y hy => by cases hy), (fun y hy => by cases hy)⟩, Below.refl _ _, fun y hy => by cases hy⟩
  case round =>
    obtain ⟨k, ys, rfl, hk, hyl, hym, hst, hB, hlts⟩ := hrel
    have HS := Lib.hid hst
    have HB := Lib.hid hB
    have HYM := Lib.hid hym
    have HYL := Lib.hid hyl
    have HLT := Lib.hid hlts
    clear hst hym hyl hlts
    by_cases hkl : k < xs.length
    · obtain ⟨b, off, rfl, hbb, hat⟩ := (HIN.out.keep (hg ▸ hB)).rows.ec (by omega)
      have hmem := List.getElem_mem hkl
      have hatk := hat k hkl
      have hinx := (HIN.out.keep (hg ▸ hB)).inn _ hmem
      have hlx := HLL.out _ hmem
      have htk : (xs.take (k + 1)).map (·.e) = (xs.take k).map (·.e) ++ [xs[k].e] := by
        rw [← List.take_append_getElem hkl, List.map_append]
        rfl
      obtain ⟨x, hx⟩ : ∃ x, xs[k] = x := ⟨_, rfl⟩
      rw [hx] at hatk hinx hlx htk
      obtain ⟨x0, x1, x2, x3, x4, x5, x6, x7, x8⟩ := hatk
      have HINX := Lib.hid hinx
      have HTK := Lib.hid htk
      clear hat hx hmem hinx htk hB
      have hgw : g ≤ wr.heap.size := by have := HB.out.size; omega
      obtain ⟨gx, hgx⟩ : ∃ gx, wr.heap.size = gx := ⟨_, rfl⟩
      have hx1 : Blk (wr.alloc (.cells (ecA x) 54)) gx 54 (ecA x) := hgx ▸ Blk.new _ _ _
      have hal : Below wr.heap.size wr (wr.alloc (.cells (ecA x) 54)) := (Below.refl _ _).alloc (Nat.le_refl _) _
      have hB1 := HB.out.alloc hgw (.cells (ecA x) 54)
      have hI1 := HINX.out.keep hal
      have hS1 := HS.out.below hal
      have hz1 : (wr.alloc (.cells (ecA x) 54)).heap.size = gx + 1 := by simp [hgx]
      have HLT1 : Hid (∀ y ∈ ys, ∀ a, y.A = some a → a.block < gx) := fun y hy a ha => by have := HLT.out y hy a ha; omega
      have HVB : Hid (∀ b, u3.ownBlock = some b → b < gx) := fun b hb => by have := (World.ownsRow.lt HS.out.row b hb).2; omega
      clear hal HS HLT
      go_upto_region 5 with (fail)
      change Code.wp _ _ _ _ (wr.alloc (.cells (ecA x) 54))
      generalize (wr.alloc (.cells (ecA x) 54)) = W5 at hx1 hB1 hI1 hS1 hz1 ⊢
      try rw [hgx]
      clear x0 x1 x2 x3 x4 x5 x6 x7 x8
      have HB1 := Lib.hid hB1
      have HX1 := Lib.hid hx1
      have HS1 := Lib.hid hS1
      have HZ5 : Hid (gx < W5.heap.size) := by show _ < _; omega
      have HZG : Hid (g ≤ W5.heap.size) := by show _ ≤ _; omega
      clear hz1
      obtain ⟨x0, x1, x2, x3, x4, x5, x6, x7, x8⟩ := hx1.ec
      have C7 := ref_Copy_own W5.drew x.e.k x.e.n x.e.t x.A x.c x.e.l x.e.b x.e.q x.e.s x.e.m ⟨hI1.reads.drew, hI1.wf, hI1.cap, hI1.small⟩ hlx
      unfold cmdV at C7
      have C7 := Lib.hid C7
      clear hgx hx1 hB1 hI1 hS1
      go_wp2_with fail
      go_region_law (first
        | (refine step_oneG (f := ecC) (W := w7) Try.underlying23 info_Entry rfl (by omega) ecC_len ecC_one g rfl _ _ rfl u3 ys ⟨A7, c7, x.e⟩ rfl rfl rfl H7.out.row HZ7.out (by have := HYL.out; omega) (by omega) ?_; intro v8 w8 ho8 hg8 hat8; have H8 := Lib.hid ho8; have HG8 := Lib.hid hg8; have HA8 := Lib.hid hat8; clear ho8 hg8 hat8)
        | (go_simp; go_at_call 24; refine C7.out.mono ?_; rintro q w7 ⟨A7, c7, rfl, hin7, hown7, hB7⟩; have hl7 : gx < w7.heap.size := Nat.lt_of_lt_of_le HZ5.out hB7.size; have c70 : w7.cell? ⟨gx, 0, none⟩ = some (.int .u64 x.e.tm) := ((HX1.out.drew.below hB7 HZ5.out).ec.c0); have H7 := Lib.hid (HS1.out.drew.below hB7); have HB7 := Lib.hid (HB1.out.drew.trans (hB7.mono HZG.out)); have HZ7 : Hid (g ≤ w7.heap.size) := Nat.le_trans HZG.out hB7.size; have HI7 := Lib.hid hin7; have HO7 := Lib.hid hown7; clear hB7 hin7 hown7))
      all_goals
        go_wp2
        go_roundw
        case rel =>
          have hlt7 : ∀ a, A7 = some a → a.block < w7.heap.size := fun a ha => (HO7.out a ha).2
          have hz7 : gx ≤ w7.heap.size := by omega
          refine ⟨k + 1, ys ++ [⟨A7, c7, x.e⟩], by go_num, by omega, by have := HYL.out; simp; omega, by rw [HTK.out, List.map_append, HYM.out]; rfl, H7.out.push H8.out HG8.out HA8.out HI7.out (fun a ha => by have h5 : W5.heap.size ≤ a.block := (HO7.out a ha).1; exact ⟨Nat.le_trans HZG.out h5, fun hh => by have := HVB.out _ hh; have := HZ5.out; omega⟩) hlt7 (fun y hy a ha => by have := HLT1.out y hy a ha; omega), HB7.out.grown HG8.out HZ7.out (fun j hj => own_base H7.out.row j hj), fun y hy a ha => ?_⟩
          have hs8 := HG8.out.size
          rcases List.mem_append.1 hy with q | q
          · have := HLT1.out y q a ha
            omega
          · rw [List.mem_singleton] at q
            subst q
            have := hlt7 a ha
            omega
        case measure => simp [intOf]; omega
    · obtain rfl : k = xs.length := by omega
      have hrow := HS.out.row
      obtain ⟨A8, c8, rfl, hc8, _, hrd⟩ := own_open hrow
      have HRD := Lib.hid hrd
      clear hrow hrd hB
      go_wp2
      go_ret
      refine ⟨A8, c8, ys, rfl, by rw [HYM.out, List.take_length], ⟨⟨⟨HRD.out, hc8, by have := HYL.out; omega⟩, HS.out.inn, by have := HYL.out; omega⟩, fun a ha => own_base HS.out.row a.block (by rw [ha]; rfl), fun y hy a ha => (HS.out.own y hy a ha).1⟩, HB.out⟩
end Go.Proofs.Ytjnkpjhggeibeaa

/- Snapshots and ledgers that hold the same: the document's Same. -/
namespace Go.Proofs.Ytjnkpjhggeibeaa
set_option maxRecDepth 100000
open Go.RowKit

set_option maxRecDepth 100000 in
set_option maxHeartbeats 4000000 in
theorem r05_Same_eq (w : World) (lim nxt : Int) (A1 : Option Addr) (c1 : Nat) (A2 : Option Addr) (c2 : Nat) (hs : List Hd) (A3 : Option Addr) (c3 : Nat) (A4 : Option Addr) (c4 : Nat) (ls : List Ls)
    (h1 : InS hdC 5 w A1 c1 hs) (h2 : InS hdC 5 w A2 c2 hs) (h3 : InS lsC 6 w A3 c3 ls) (h4 : InS lsC 6 w A4 c4 ls) :
    Calls Try.prog 36 #[ledV lim nxt (.slice A1 hs.length c1) (.slice A3 ls.length c3), ledV lim nxt (.slice A2 hs.length c2) (.slice A4 ls.length c4)] w fun e w' => e = .returned (.bool true) ∧ Below w.heap.size w w' := by
  have hs1 := h1.small
  have hs3 := h3.small
  have hc1 := h1.cap
  have hc2 := h2.cap
  have hc3 := h3.cap
  have hc4 := h4.cap
  obtain ⟨g, hg⟩ : ∃ g, w.heap.size = g := ⟨_, rfl⟩
  rw [hg]
  obtain ⟨gr, hgr⟩ : ∃ gr, g + 1 = gr := ⟨_, rfl⟩
  have hBx : Below g w ((w.alloc (.cells (ledC lim nxt (.slice A1 hs.length c1) (.slice A3 ls.length c3)) 28)).alloc (.cells (ledC lim nxt (.slice A2 hs.length c2) (.slice A4 ls.length c4)) 28)) := ((Below.refl _ _).alloc (by omega) _).alloc (by simp; omega) _
  have hsz : (w.alloc (.cells (ledC lim nxt (.slice A1 hs.length c1) (.slice A3 ls.length c3)) 28)).heap.size = gr := by simp [hg, hgr]
  have hb1 : Blk ((w.alloc (.cells (ledC lim nxt (.slice A1 hs.length c1) (.slice A3 ls.length c3)) 28)).alloc (.cells (ledC lim nxt (.slice A2 hs.length c2) (.slice A4 ls.length c4)) 28)) g 28 (ledC lim nxt (.slice A1 hs.length c1) (.slice A3 ls.length c3)) := (hg ▸ Blk.new w 28 (ledC lim nxt (.slice A1 hs.length c1) (.slice A3 ls.length c3)) : Blk (w.alloc (.cells (ledC lim nxt (.slice A1 hs.length c1) (.slice A3 ls.length c3)) 28)) g 28 (ledC lim nxt (.slice A1 hs.length c1) (.slice A3 ls.length c3))).alloc _
  have hr1 : Blk ((w.alloc (.cells (ledC lim nxt (.slice A1 hs.length c1) (.slice A3 ls.length c3)) 28)).alloc (.cells (ledC lim nxt (.slice A2 hs.length c2) (.slice A4 ls.length c4)) 28)) gr 28 (ledC lim nxt (.slice A2 hs.length c2) (.slice A4 ls.length c4)) := hsz ▸ Blk.new _ _ _
  have H1 := Lib.hid (h1.keep (hg ▸ hBx))
  have H2 := Lib.hid (h2.keep (hg ▸ hBx))
  have H3 := Lib.hid (h3.keep (hg ▸ hBx))
  have H4 := Lib.hid (h4.keep (hg ▸ hBx))
  clear hsz h1 h2 h3 h4
  unfold ledV
  go_enter Try.func36, Try.ntmps36
  go_upto_region 1 with (fail)
  change Code.wp _ _ _ _ ((w.alloc (.cells (ledC lim nxt (.slice A1 hs.length c1) (.slice A3 ls.length c3)) 28)).alloc (.cells (ledC lim nxt (.slice A2 hs.length c2) (.slice A4 ls.length c4)) 28))
  generalize ((w.alloc (.cells (ledC lim nxt (.slice A1 hs.length c1) (.slice A3 ls.length c3)) 28)).alloc (.cells (ledC lim nxt (.slice A2 hs.length c2) (.slice A4 ls.length c4)) 28)) = W at hb1 hr1 hBx H1 H2 H3 H4 ⊢
  try rw [hgr]
  have HB := Lib.hid hBx
  obtain ⟨q0, q1, q2, q3⟩ := hb1.led
  obtain ⟨r0, r1, r2, r3⟩ := hr1.led
  clear hBx hb1 hr1
  go_wp2_with fail
  go_loopw [5, 40] (fun _ i wr => ∃ (k m : Nat), i = .int .i64 (k : Int) ∧ k ≤ hs.length ∧ wr = W.drewN m) (fun _ i _ => hs.length - (intOf i).toNat)
  case atStart => exact ⟨0, 0, rfl, by omega, rfl⟩
  case round =>
    obtain ⟨k, m, rfl, hk, rfl⟩ := hrel
    by_cases hlt : k < hs.length
    · obtain ⟨b1, o1, rfl, _, hall1⟩ := H1.out.hd (by omega)
      obtain ⟨b2, o2, rfl, _, hall2⟩ := H2.out.hd (by omega)
      obtain ⟨x0, x1, x2, x3, x4⟩ := hall1 k hlt
      obtain ⟨y0, y1, y2, y3, y4⟩ := hall2 k hlt
      obtain ⟨x, hx⟩ : ∃ x, hs[k] = x := ⟨_, rfl⟩
      rw [hx] at x0 x1 x2 x3 x4 y0 y1 y2 y3 y4
      clear hall1 hall2 hx
      go_wp2_with fail
      go_quiet (fail)
      go_wp2
      go_roundw
      case rel => exact ⟨k + 1, _, by go_num, by omega, rfl⟩
      case measure => simp [intOf]; omega
    · obtain rfl : k = hs.length := by omega
      go_wp2_with fail
      go_loopw [6, 58] (fun _ i wr => ∃ (k m : Nat), i = .int .i64 (k : Int) ∧ k ≤ ls.length ∧ wr = W.drewN m) (fun _ i _ => ls.length - (intOf i).toNat)
      case atStart => exact ⟨0, m, rfl, by omega, rfl⟩
      case round =>
        obtain ⟨k, m, rfl, hk, rfl⟩ := hrel
        by_cases hlt : k < ls.length
        · obtain ⟨b1, o1, rfl, _, hall1⟩ := H3.out.ls (by omega)
          obtain ⟨b2, o2, rfl, _, hall2⟩ := H4.out.ls (by omega)
          obtain ⟨x0, x1, x2, x3, x4, x5⟩ := hall1 k hlt
          obtain ⟨y0, y1, y2, y3, y4, y5⟩ := hall2 k hlt
          obtain ⟨x, hx⟩ : ∃ x, ls[k] = x := ⟨_, rfl⟩
          rw [hx] at x0 x1 x2 x3 x4 x5 y0 y1 y2 y3 y4 y5
          clear hall1 hall2 hx
          go_wp2_with fail
          go_quiet (fail)
          go_wp2
          go_roundw
          case rel => exact ⟨k + 1, _, by go_num, by omega, rfl⟩
          case measure => simp [intOf]; omega
        · obtain rfl : k = ls.length := by omega
          go_wp2
          go_ret
          exact ⟨rfl, below_drewN HB.out _⟩

set_option maxRecDepth 100000 in
set_option maxHeartbeats 4000000 in
theorem r06_Same_eq (w : World) (i t : Int) (An1 : Option Addr) (cn1 : Nat) (An2 : Option Addr) (cn2 : Nat) (ns : List Int) (lim nxt : Int) (A1 : Option Addr) (c1 : Nat) (A2 : Option Addr) (c2 : Nat) (hs : List Hd) (A3 : Option Addr) (c3 : Nat) (A4 : Option Addr) (c4 : Nat) (ls : List Ls)
    (n1 : InN .i64 w An1 cn1 ns) (n2 : InN .i64 w An2 cn2 ns) (h1 : InS hdC 5 w A1 c1 hs) (h2 : InS hdC 5 w A2 c2 hs) (h3 : InS lsC 6 w A3 c3 ls) (h4 : InS lsC 6 w A4 c4 ls) :
    Calls Try.prog 23 #[shV i t (.slice An1 ns.length cn1) lim nxt (.slice A1 hs.length c1) (.slice A3 ls.length c3), shV i t (.slice An2 ns.length cn2) lim nxt (.slice A2 hs.length c2) (.slice A4 ls.length c4)] w fun e w' => e = .returned (.bool true) ∧ Below w.heap.size w w' := by
  obtain ⟨g, hg⟩ : ∃ g, w.heap.size = g := ⟨_, rfl⟩
  rw [hg]
  obtain ⟨gr, hgr⟩ : ∃ gr, g + 1 = gr := ⟨_, rfl⟩
  have hBx : Below g w ((w.alloc (.cells (shC i t (.slice An1 ns.length cn1) lim nxt (.slice A1 hs.length c1) (.slice A3 ls.length c3)) 30)).alloc (.cells (shC i t (.slice An2 ns.length cn2) lim nxt (.slice A2 hs.length c2) (.slice A4 ls.length c4)) 30)) := ((Below.refl _ _).alloc (by omega) _).alloc (by simp; omega) _
  have hsz : (w.alloc (.cells (shC i t (.slice An1 ns.length cn1) lim nxt (.slice A1 hs.length c1) (.slice A3 ls.length c3)) 30)).heap.size = gr := by simp [hg, hgr]
  have hb1 : Blk ((w.alloc (.cells (shC i t (.slice An1 ns.length cn1) lim nxt (.slice A1 hs.length c1) (.slice A3 ls.length c3)) 30)).alloc (.cells (shC i t (.slice An2 ns.length cn2) lim nxt (.slice A2 hs.length c2) (.slice A4 ls.length c4)) 30)) g 30 (shC i t (.slice An1 ns.length cn1) lim nxt (.slice A1 hs.length c1) (.slice A3 ls.length c3)) := (hg ▸ Blk.new w 30 (shC i t (.slice An1 ns.length cn1) lim nxt (.slice A1 hs.length c1) (.slice A3 ls.length c3)) : Blk (w.alloc (.cells (shC i t (.slice An1 ns.length cn1) lim nxt (.slice A1 hs.length c1) (.slice A3 ls.length c3)) 30)) g 30 (shC i t (.slice An1 ns.length cn1) lim nxt (.slice A1 hs.length c1) (.slice A3 ls.length c3))).alloc _
  have hr1 : Blk ((w.alloc (.cells (shC i t (.slice An1 ns.length cn1) lim nxt (.slice A1 hs.length c1) (.slice A3 ls.length c3)) 30)).alloc (.cells (shC i t (.slice An2 ns.length cn2) lim nxt (.slice A2 hs.length c2) (.slice A4 ls.length c4)) 30)) gr 30 (shC i t (.slice An2 ns.length cn2) lim nxt (.slice A2 hs.length c2) (.slice A4 ls.length c4)) := hsz ▸ Blk.new _ _ _
  have HN1 := Lib.hid (n1.keep (hg ▸ hBx))
  have HN2 := Lib.hid (n2.keep (hg ▸ hBx))
  have H1 := Lib.hid (h1.keep (hg ▸ hBx))
  have H2 := Lib.hid (h2.keep (hg ▸ hBx))
  have H3 := Lib.hid (h3.keep (hg ▸ hBx))
  have H4 := Lib.hid (h4.keep (hg ▸ hBx))
  clear hsz h1 h2 h3 h4 n1 n2
  unfold shV
  go_enter Try.func23, Try.ntmps23
  go_upto_region 1 with (fail)
  change Code.wp _ _ _ _ ((w.alloc (.cells (shC i t (.slice An1 ns.length cn1) lim nxt (.slice A1 hs.length c1) (.slice A3 ls.length c3)) 30)).alloc (.cells (shC i t (.slice An2 ns.length cn2) lim nxt (.slice A2 hs.length c2) (.slice A4 ls.length c4)) 30))
  generalize ((w.alloc (.cells (shC i t (.slice An1 ns.length cn1) lim nxt (.slice A1 hs.length c1) (.slice A3 ls.length c3)) 30)).alloc (.cells (shC i t (.slice An2 ns.length cn2) lim nxt (.slice A2 hs.length c2) (.slice A4 ls.length c4)) 30)) = W at hb1 hr1 hBx HN1 HN2 H1 H2 H3 H4 ⊢
  try rw [hgr]
  have HB := Lib.hid hBx
  obtain ⟨q0, q1, q2, q3, q4, q5, q6⟩ := hb1.sh
  obtain ⟨r0, r1, r2, r3, r4, r5, r6⟩ := hr1.sh
  have C1 := r03_Same_any W An1 An2 cn1 cn2 ns ns HN1.out HN2.out
  rw [decide_eq_true rfl] at C1
  have C1 := Lib.hid C1
  have C2 := fun m => r05_Same_eq (W.drewN m) lim nxt A1 c1 A2 c2 hs A3 c3 A4 c4 ls (H1.out.drewN m) (H2.out.drewN m) (H3.out.drewN m) (H4.out.drewN m)
  unfold ledV at C2
  have C2 := fun m => Lib.hid (C2 m)
  have hz : g ≤ W.heap.size := by have := hBx.size; omega
  clear hBx hb1 hr1
  go_wp2_with fail
  refine C1.out.mono ?_
  rintro e w1 ⟨rfl, m, rfl⟩
  go_wp2_with fail
  refine (C2 m).out.mono ?_
  rintro e w2 ⟨rfl, hB2⟩
  have HB2 := Lib.hid ((below_drewN HB.out m).trans (hB2.mono hz))
  clear hB2 q0 q1 q2 q3 q4 q5 q6 r0 r1 r2 r3 r4 r5 r6
  go_wp2
  go_ret
  exact ⟨rfl, HB2.out⟩
end Go.Proofs.Ytjnkpjhggeibeaa

/- What lasts, compared by the document: two that are the same. -/
namespace Go.Proofs.Ytjnkpjhggeibeaa
set_option maxRecDepth 100000
open Go.RowKit

set_option maxHeartbeats 8000000 in
theorem r04_SameEntries_eq (w : World) (A1 : Option Addr) (c1 : Nat) (xs : List Ec) (A2 : Option Addr) (c2 : Nat) (ys : List Ec) (h1 : InE w A1 c1 xs) (h2 : InE w A2 c2 ys) (he : xs.map (·.e) = ys.map (·.e)) :
    Calls Try.prog 22 #[.slice A1 xs.length c1, .slice A2 ys.length c2] w fun e w' => e = .returned (.bool true) ∧ Below w.heap.size w w' := by
  have hlen : ys.length = xs.length := by
    have := congrArg List.length he
    simpa using this.symm
  rw [hlen]
  obtain ⟨g, hg⟩ : ∃ g, w.heap.size = g := ⟨_, rfl⟩
  rw [hg]
  have H1 := Lib.hid h1
  have H2 := Lib.hid h2
  have HLEN := Lib.hid hlen
  have HEQ := Lib.hid he
  have hsm := h1.small
  obtain ⟨n, hn⟩ : ∃ n, xs.length = n := ⟨_, rfl⟩
  have HN := Lib.hid hn
  rw [hn] at hsm ⊢
  clear h1 h2 he hlen hn
  go_enter Try.func22, Try.ntmps22
  go_wp2_with fail
  go_loopw [5, 13] (fun _ iv wr => ∃ k : Nat, iv = .int .i64 (k : Int) ∧ k ≤ n ∧ Below g w wr) (fun _ iv _ => n - (intOf iv).toNat)
  case atStart => exact ⟨0, rfl, by omega, Below.refl _ _⟩
  case round =>
    obtain ⟨k, rfl, hk, hB⟩ := hrel
    have HB := Lib.hid hB
    clear hB
    by_cases hkl : k < n
    · have hk1 : k < xs.length := by have := HN.out; omega
      have hk2 : k < ys.length := by have := HLEN.out; omega
      obtain ⟨b, off, rfl, hbb, hat1⟩ := H1.out.rows.ec (by omega)
      obtain ⟨b2, off2, rfl, hbb2, hat2⟩ := H2.out.rows.ec (by omega)
      have hxy : ys[k].e = xs[k].e := by
        have h3 : (xs.map (·.e))[k]? = (ys.map (·.e))[k]? := by rw [HEQ.out]
        simp only [List.getElem?_map, List.getElem?_eq_getElem hk1, List.getElem?_eq_getElem hk2, Option.map_some, Option.some.injEq] at h3
        exact h3.symm
      have a1 := hat1 k hk1
      have a2 := hat2 k hk2
      have i1 := H1.out.inn _ (List.getElem_mem hk1)
      have i2 := H2.out.inn _ (List.getElem_mem hk2)
      obtain ⟨x, hx⟩ : ∃ x, xs[k] = x := ⟨_, rfl⟩
      obtain ⟨y, hy⟩ : ∃ y, ys[k] = y := ⟨_, rfl⟩
      rw [hx] at a1 i1 hxy
      rw [hy] at a2 i2 hxy
      obtain ⟨xa, xc, xe⟩ := x
      obtain ⟨ya, yc, ye⟩ := y
      simp only at hxy i1 i2
      subst hxy
      obtain ⟨x, hx2⟩ : ∃ x : Ec, x = ⟨xa, xc, ye⟩ := ⟨_, rfl⟩
      obtain ⟨y, hy2⟩ : ∃ y : Ec, y = ⟨ya, yc, ye⟩ := ⟨_, rfl⟩
      have hye : y.e = x.e := by rw [hx2, hy2]
      rw [← hx2] at a1
      rw [← hy2] at a2
      have i1' : InN .i64 w x.A x.c x.e.l := by rw [hx2]; exact i1
      have i2' : InN .i64 w y.A y.c x.e.l := by rw [hx2, hy2]; exact i2
      obtain ⟨KW, hKW⟩ : ∃ KW : World → Prop, KW = fun w1 => Below g w w1 := ⟨_, rfl⟩
      have KF : Hid (∀ w1, KW w1 → Below g w w1) := fun w1 k1 => by rw [hKW] at k1; exact k1
      have KC : Hid (∀ w1 w2, KW w1 → Below w1.heap.size w1 w2 → KW w2) := fun w1 w2 k1 k2 => by
        rw [hKW] at k1 ⊢
        exact k1.trans (k2.mono (by have := k1.size; omega))
      have HX : Hid (∀ w1, KW w1 → EcAt w1 b (off + k * 9) x) := fun w1 k1 => by
        have kb := KF.out _ k1
        have hc : ∀ o, w1.cell? ⟨b, o, none⟩ = w.cell? ⟨b, o, none⟩ := fun o => kb.cell (p := ⟨b, o, none⟩) (by show b < g; omega)
        exact ⟨(hc _).trans a1.c0, (hc _).trans a1.c1, (hc _).trans a1.c2, (hc _).trans a1.c3, (hc _).trans a1.c4, (hc _).trans a1.c5, (hc _).trans a1.c6, (hc _).trans a1.c7, (hc _).trans a1.c8⟩
      have HY : Hid (∀ w1, KW w1 → EcAt w1 b2 (off2 + k * 9) ⟨y.A, y.c, x.e⟩) := fun w1 k1 => by
        have kb := KF.out _ k1
        have hc : ∀ o, w1.cell? ⟨b2, o, none⟩ = w.cell? ⟨b2, o, none⟩ := fun o => kb.cell (p := ⟨b2, o, none⟩) (by show b2 < g; omega)
        rw [← hye]
        exact ⟨(hc _).trans a2.c0, (hc _).trans a2.c1, (hc _).trans a2.c2, (hc _).trans a2.c3, (hc _).trans a2.c4, (hc _).trans a2.c5, (hc _).trans a2.c6, (hc _).trans a2.c7, (hc _).trans a2.c8⟩
      have F0 : ∀ p : InClass KW, p.w.cell? ⟨b, off + k * 9, none⟩ = some (.int .u64 x.e.tm) := fun p => (HX.out _ p.ok).c0
      have F1 : ∀ p : InClass KW, p.w.cell? ⟨b, off + k * 9 + 1, none⟩ = some (.int .i64 x.e.k) := fun p => (HX.out _ p.ok).c1
      have F2 : ∀ p : InClass KW, p.w.cell? ⟨b, off + k * 9 + 2, none⟩ = some (.int .i64 x.e.n) := fun p => (HX.out _ p.ok).c2
      have F3 : ∀ p : InClass KW, p.w.cell? ⟨b, off + k * 9 + 3, none⟩ = some (.int .i64 x.e.t) := fun p => (HX.out _ p.ok).c3
      have F4 : ∀ p : InClass KW, p.w.cell? ⟨b, off + k * 9 + 4, none⟩ = some (.slice x.A x.e.l.length x.c) := fun p => (HX.out _ p.ok).c4
      have F5 : ∀ p : InClass KW, p.w.cell? ⟨b, off + k * 9 + 5, none⟩ = some (.int .u64 x.e.b) := fun p => (HX.out _ p.ok).c5
      have F6 : ∀ p : InClass KW, p.w.cell? ⟨b, off + k * 9 + 6, none⟩ = some (.int .u64 x.e.q) := fun p => (HX.out _ p.ok).c6
      have F7 : ∀ p : InClass KW, p.w.cell? ⟨b, off + k * 9 + 7, none⟩ = some (.int .u64 x.e.s) := fun p => (HX.out _ p.ok).c7
      have F8 : ∀ p : InClass KW, p.w.cell? ⟨b, off + k * 9 + 8, none⟩ = some (.int .u64 x.e.m) := fun p => (HX.out _ p.ok).c8
      have G0 : ∀ p : InClass KW, p.w.cell? ⟨b2, off2 + k * 9, none⟩ = some (.int .u64 x.e.tm) := fun p => (HY.out _ p.ok).c0
      have G1 : ∀ p : InClass KW, p.w.cell? ⟨b2, off2 + k * 9 + 1, none⟩ = some (.int .i64 x.e.k) := fun p => (HY.out _ p.ok).c1
      have G2 : ∀ p : InClass KW, p.w.cell? ⟨b2, off2 + k * 9 + 2, none⟩ = some (.int .i64 x.e.n) := fun p => (HY.out _ p.ok).c2
      have G3 : ∀ p : InClass KW, p.w.cell? ⟨b2, off2 + k * 9 + 3, none⟩ = some (.int .i64 x.e.t) := fun p => (HY.out _ p.ok).c3
      have G4 : ∀ p : InClass KW, p.w.cell? ⟨b2, off2 + k * 9 + 4, none⟩ = some (.slice y.A x.e.l.length y.c) := fun p => (HY.out _ p.ok).c4
      have G5 : ∀ p : InClass KW, p.w.cell? ⟨b2, off2 + k * 9 + 5, none⟩ = some (.int .u64 x.e.b) := fun p => (HY.out _ p.ok).c5
      have G6 : ∀ p : InClass KW, p.w.cell? ⟨b2, off2 + k * 9 + 6, none⟩ = some (.int .u64 x.e.q) := fun p => (HY.out _ p.ok).c6
      have G7 : ∀ p : InClass KW, p.w.cell? ⟨b2, off2 + k * 9 + 7, none⟩ = some (.int .u64 x.e.s) := fun p => (HY.out _ p.ok).c7
      have G8 : ∀ p : InClass KW, p.w.cell? ⟨b2, off2 + k * 9 + 8, none⟩ = some (.int .u64 x.e.m) := fun p => (HY.out _ p.ok).c8
      have CX : Hid (∀ p : InClass KW, Calls Try.prog 34 #[.agg #[.int .i64 x.e.k, .int .i64 x.e.n, .int .i64 x.e.t, .slice x.A x.e.l.length x.c, .int .u64 x.e.b, .int .u64 x.e.q, .int .u64 x.e.s, .int .u64 x.e.m], .agg #[.int .i64 x.e.k, .int .i64 x.e.n, .int .i64 x.e.t, .slice y.A x.e.l.length y.c, .int .u64 x.e.b, .int .u64 x.e.q, .int .u64 x.e.s, .int .u64 x.e.m]] p.w fun e w' => e = .returned (.bool true) ∧ Below p.w.heap.size p.w w') := fun p => by
        have kb := KF.out _ p.ok
        have := ref_Same_any p.w x.e.k x.e.n x.e.t x.A x.c x.e.l x.e.b x.e.q x.e.s x.e.m x.e.k x.e.n x.e.t y.A y.c x.e.l x.e.b x.e.q x.e.s x.e.m (i1'.keep (hg ▸ kb)) (i2'.keep (hg ▸ kb))
        rw [sameB_refl] at this
        exact this
      have K1 : KW wr.drew := by rw [hKW]; exact HB.out.drew
      haveI NE : Nonempty (InClass KW) := ⟨⟨wr.drew, K1⟩⟩
      clear a1 a2 i1 i2 i1' i2' hx hy hx2 hy2 hye hat1 hat2 hKW
      go_wp2_with fail
      refine wp_region_class_lit KW (by kernel_rfl) (by kernel_rfl) K1 ?_
      repeat (go_big_quiet_step ((go_at_call 34; refine (CX.out _).mono ?_; rintro e8 w8 ⟨he, hB8⟩; exact ⟨he, ⟨w8, KC.out _ w8 (InClass.ok _) hB8⟩, rfl⟩)))
      refine wpQuiet_nil ?_
      intro _ hw9
      obtain ⟨p9, hw9⟩ := hw9
      subst hw9
      have HB9 := Lib.hid (KF.out _ p9.ok)
      clear F0 F1 F2 F3 F4 F5 F6 F7 F8 G0 G1 G2 G3 G4 G5 G6 G7 G8
      go_wp2
      go_roundw
      case rel => exact ⟨k + 1, by go_num, by omega, HB9.out⟩
      case measure => simp [intOf]; omega
    · obtain rfl : k = n := by omega
      go_wp2
      go_ret
      exact ⟨rfl, HB.out⟩

end Go.Proofs.Ytjnkpjhggeibeaa

/- Structs within structs: many cells of a block set from a place on; whole structs read behind a guard. -/
namespace Go.Proofs.Ytjnkpjhggeibeaa
set_option maxRecDepth 100000
open Go.RowKit

def midL : List Value → Nat → List Value → List Value
  | l, _, [] => l
  | l, o, v :: vs => midL (l.set o v) (o + 1) vs
theorem Blk.mid {w : World} {g : Nat} {T : TypeId} {l : List Value} (h : Blk w g T l.toArray) (vs : List Value) (o : Nat) : Blk (w.setCells g o vs) g T (midL l o vs).toArray := by
  induction vs generalizing w l o with
  | nil => exact h
  | cons v vs ih => exact ih (h.setL o v) (o + 1)
theorem mid_any {w : World} {q : Nat} (P : World → Prop) (h : P w) (hs : ∀ (j : Nat) (W : World) (u : Value), P W → P (W.setCell ⟨q, j, none⟩ u)) (vs : List Value) (o : Nat) : P (w.setCells q o vs) := by
  induction vs generalizing w o with
  | nil => exact h
  | cons v vs ih => exact ih (hs o w v h) (o + 1)
theorem Blk.midFar {w : World} {g q : Nat} {T : TypeId} {cs : Array Value} (h : Blk w g T cs) (hne : g ≠ q) (vs : List Value) (o : Nat) : Blk (w.setCells q o vs) g T cs :=
  mid_any (fun W => Blk W g T cs) h (fun j _ u k => k.far (p := ⟨q, j, none⟩) hne u) vs o
theorem mid_below {w W : World} {B q : Nat} (h : Below B w W) (hB : B ≤ q) (vs : List Value) (o : Nat) : Below B w (W.setCells q o vs) :=
  mid_any (fun X => Below B w X) h (fun j _ u k => k.setCell (p := ⟨q, j, none⟩) hB u) vs o
theorem mid_grown {w : World} (q : Nat) (vs : List Value) (o : Nat) : w.grownBy (w.setCells q o vs) (some q) :=
  mid_any (fun X => w.grownBy X (some q)) (World.grownBy.refl _ _) (fun j _ u k => only_setCell (p := ⟨q, j, none⟩) k (.inl rfl) u) vs o
theorem mid_size (w : World) (q : Nat) (vs : List Value) (o : Nat) : (w.setCells q o vs).heap.size = w.heap.size :=
  mid_any (fun X => X.heap.size = w.heap.size) rfl (fun j _ u k => by simp [World.setCell, k]) vs o
/-- A block's cells are there, and may be written. -/
theorem Blk.there {w : World} {g : Nat} {T : TypeId} {cs : Array Value} (h : Blk w g T cs) (o n : Nat) (hn : o + n ≤ cs.size) : w.there g o n := fun j hj => by
  refine ⟨?_, h.frozen _⟩
  rw [h.cell, Array.getElem?_eq_getElem (by omega)]
  rfl
theorem wpList_load_want {P : Program} {ops : Array Oper} {rest : List Oper} {o : Oper} {a : Act} {w : World} {Q : Exit → Act → World → Prop} (hw : Region.wanted o (yielded ops a.tmps) = true) (ty : TypeId) (x : Operand) (ho : o.op = .load ty x)
    (g : Nat) (hx : a.eval x = .pointer (some ⟨g, 0, none⟩)) (t : TypeId) (cells : Array Value) (hb : Blk w g t cells) (d : TypeDesc) (hu : P.underlying ty = some d) (hd : d.isRow = true) (hi : (P.info? ty).map (·.size) = some cells.size)
    (h : wpList P ops Q rest (a.put o.dst (.agg cells)) w) : wpList P ops Q (o :: rest) a w :=
  BigFrame.wpList_want hw fun _ hK => wp_load_row ty x ho g hx t cells hb d hu hd hi (hK _ _ h)
/-- A part of a block read. -/
theorem wp_load_part {P : Program} {o : Oper} {a : Act} {w : World} {K : Act → World → Prop} {Q : Exit → Act → World → Prop} (ty : TypeId) (x : Operand) (ho : o.op = .load ty x)
    (g f : Nat) (hx : a.eval x = .pointer (some ⟨g, f, none⟩)) (t : TypeId) (cells : Array Value) (hb : Blk w g t cells) (part : Array Value) (hp : ∀ j v, part[j]? = some v → cells[f + j]? = some v) (d : TypeDesc) (hu : P.underlying ty = some d) (hd : d.isRow = true) (hi : (P.info? ty).map (·.size) = some part.size)
    (h : K (a.put o.dst (.agg part)) w) : o.wp P a w K Q := by
  have hl : (loadVar ty ⟨g, f, none⟩).run P w = .ok (.agg part) w := by
    have := run_loadVar_mid (P := P) w g f ty part.toList d (fun j v hj => by rw [hb.cell]; exact hp j v (by simpa using hj)) hu hd (by simpa using hi)
    simpa using this
  unfold Oper.wp execOp
  simp only [ho, hx, Instr.loadAt, Instr.sureAddr, Sem.run_bind, Sem.run_pure, Result.andThen_ok, hl]
  exact h
end Go.Proofs.Ytjnkpjhggeibeaa

/- What lasts in new memory: the document's Copy. -/
namespace Go.Proofs.Ytjnkpjhggeibeaa
set_option maxRecDepth 100000
open Go.RowKit

theorem Blk.set11 {w : World} {g : Nat} {T : TypeId} {v0 v1 v2 v3 v4 v5 v6 v7 v8 v9 v10 : Value} (h : Blk w g T #[v0, v1, v2, v3, v4, v5, v6, v7, v8, v9, v10]) (u0 u1 u2 u3 u4 u5 u6 u7 u8 u9 u10 : Value) :
    Blk (((((((((((w.setCell ⟨g, 0, none⟩ u0).setCell ⟨g, 1, none⟩ u1).setCell ⟨g, 2, none⟩ u2).setCell ⟨g, 3, none⟩ u3).setCell ⟨g, 4, none⟩ u4).setCell ⟨g, 5, none⟩ u5).setCell ⟨g, 6, none⟩ u6).setCell ⟨g, 7, none⟩ u7).setCell ⟨g, 8, none⟩ u8).setCell ⟨g, 9, none⟩ u9).setCell ⟨g, 10, none⟩ u10) g T #[u0, u1, u2, u3, u4, u5, u6, u7, u8, u9, u10] :=
  (((((((((((h.setL 0 u0).setL 1 u1).setL 2 u2).setL 3 u3).setL 4 u4).setL 5 u5).setL 6 u6).setL 7 u7).setL 8 u8).setL 9 u9).setL 10 u10)
theorem grown_set11 (w : World) (g : Nat) (u0 u1 u2 u3 u4 u5 u6 u7 u8 u9 u10 : Value) : w.grownBy (((((((((((w.setCell ⟨g, 0, none⟩ u0).setCell ⟨g, 1, none⟩ u1).setCell ⟨g, 2, none⟩ u2).setCell ⟨g, 3, none⟩ u3).setCell ⟨g, 4, none⟩ u4).setCell ⟨g, 5, none⟩ u5).setCell ⟨g, 6, none⟩ u6).setCell ⟨g, 7, none⟩ u7).setCell ⟨g, 8, none⟩ u8).setCell ⟨g, 9, none⟩ u9).setCell ⟨g, 10, none⟩ u10) (some g) := by
  refine only_setCell (only_setCell (only_setCell (only_setCell (only_setCell (only_setCell (only_setCell (only_setCell (only_setCell (only_setCell (only_setCell (World.grownBy.refl _ _) ?_ _) ?_ _) ?_ _) ?_ _) ?_ _) ?_ _) ?_ _) ?_ _) ?_ _) ?_ _) ?_ _
  all_goals exact .inl rfl
/-- What lasts, in the call's own memory from block base on. -/
structure OwH (w : World) (base : Nat) (h : Hb) (p : Sa) (PA : Option Addr) (PC : Nat) (xs : List Ec) : Prop where
  sh : ShIn w base p.A0 p.c0 h.sh.ns p.A1 p.c1 h.sh.hs p.A2 p.c2 h.sh.ls
  log : OwE w base PA PC xs
section
variable {w w1 : World} {base base' : Nat} {h : Hb} {p : Sa} {PA : Option Addr} {PC : Nat} {xs : List Ec}
theorem OwH.keep (k : OwH w base h p PA PC xs) (hb : Below w.heap.size w w1) : OwH w1 base h p PA PC xs := ⟨k.sh.keep hb, k.log.keep hb⟩
theorem OwH.set (k : OwH w base h p PA PC xs) {q : Addr} (hq : q.block < base) (u : Value) : OwH (w.setCell q u) base h p PA PC xs := ⟨k.sh.set hq u, k.log.set hq u⟩
theorem OwH.lower (k : OwH w base h p PA PC xs) (hb : base' ≤ base) : OwH w base' h p PA PC xs := ⟨k.sh.lower hb, k.log.lower hb⟩
theorem OwH.inh (k : OwH w base h p PA PC xs) : InH w h p PA PC xs := ⟨⟨k.sh.hn.inn, k.sh.led.hh.inn, k.sh.led.hl.inn⟩, k.log.inn⟩
end

end Go.Proofs.Ytjnkpjhggeibeaa

/- What is the call's own stays as it is where another block is written. -/
namespace Go.Proofs.Ytjnkpjhggeibeaa
set_option maxRecDepth 100000
open Go.RowKit

section
variable {α : Type} {f : α → List Value} {s : Nat} {w w' : World} {base base' q : Nat} {A : Option Addr} {c : Nat} {l : List α}
theorem OwS.past (h : OwS f s w base A c l) (hg : w.grownBy w' (some q)) (hq : q < base) : OwS f s w' base A c l := by
  refine ⟨⟨⟨h.inn.reads.1, fun hn => ?_⟩, h.inn.cap, h.inn.small⟩, h.own⟩
  obtain ⟨b, off, e, hb, hc⟩ := h.inn.reads.2 hn
  have := h.own _ e
  exact ⟨b, off, e, Nat.lt_of_lt_of_le hb hg.size, fun j u hu => (World.cell?_of_block (hg.block b hb (fun e => by injection e with e; simp only at this; omega))).trans (hc j u hu)⟩
theorem OwS.lower (h : OwS f s w base A c l) (hb : base' ≤ base) : OwS f s w base' A c l := ⟨h.inn, fun a e => Nat.le_trans hb (h.own a e)⟩
end
section
variable {w w' : World} {base base' q : Nat} {A : Option Addr} {c : Nat} {l : List Int}
theorem OwI.past (h : OwI w base A c l) (hg : w.grownBy w' (some q)) (hq : q < base) : OwI w' base A c l :=
  ⟨h.inn.grown hg (fun b off e hh => by have := h.own _ e; injection hh with hh; simp only at this; omega), h.own⟩
theorem OwI.lower (h : OwI w base A c l) (hb : base' ≤ base) : OwI w base' A c l := ⟨h.inn, fun a e => Nat.le_trans hb (h.own a e)⟩
theorem OwI.of_cop {w w' : World} {A : Option Addr} {c : Nat} {l : List Int} (h : Cop w w' A c l) : OwI w' w.heap.size A c l :=
  ⟨h.inn, fun a e => h.own a.block (by rw [e]; rfl)⟩
end
section
variable {w w' : World} {base q : Nat}
theorem ShIn.past {An : Option Addr} {cn : Nat} {ns : List Int} {Ah : Option Addr} {ch : Nat} {hs : List Hd} {Al : Option Addr} {cl : Nat} {ls : List Ls} (h : ShIn w base An cn ns Ah ch hs Al cl ls) (hg : w.grownBy w' (some q)) (hq : q < base) : ShIn w' base An cn ns Ah ch hs Al cl ls :=
  ⟨h.hn.past hg hq, ⟨h.led.hh.past hg hq, h.led.hl.past hg hq⟩⟩
theorem OwE.past {A : Option Addr} {c : Nat} {xs : List Ec} (h : OwE w base A c xs) (hg : w.grownBy w' (some q)) (hq : q < base) : OwE w' base A c xs :=
  ⟨⟨((⟨h.inn.rows, h.own⟩ : OwS ecC 9 w base A c xs).past hg hq).inn, fun x hx => ((⟨h.inn.inn x hx, h.lists x hx⟩ : OwI w base x.A x.c x.e.l).past hg hq).inn, h.inn.small⟩, h.own, h.lists⟩
theorem OwH.past {h : Hb} {p : Sa} {PA : Option Addr} {PC : Nat} {xs : List Ec} (k : OwH w base h p PA PC xs) (hg : w.grownBy w' (some q)) (hq : q < base) : OwH w' base h p PA PC xs := ⟨k.sh.past hg hq, k.log.past hg hq⟩
end
theorem sets_grown {w : World} (q : Nat) (ps : List (Nat × Value)) : w.grownBy (setsW w q ps) (some q) :=
  setsW_any (fun X => w.grownBy X (some q)) (World.grownBy.refl _ _) (fun j _ u k => only_setCell (p := ⟨q, j, none⟩) k (.inl rfl) u) ps
theorem shtC_one (s : Sh) (a : Sa) : (shtC s a).all (·.oneCell') = true := by simp [shtC, Value.oneCell']
theorem hrdC_one (h : Hb) (p : Sa) (PA : Option Addr) (PC : Nat) (xs : List Ec) : (hrdC h p PA PC xs).all (·.oneCell') = true := by simp [hrdC, Value.oneCell']
theorem ecA_one (x : Ec) : (ecA x).all (·.oneCell') = true := by simp [ecA, Value.oneCell']
theorem info_Sht : (Try.prog.info? 30).map (·.size) = some 7 := by kernel_rfl
theorem info_Ent : (Try.prog.info? 54).map (·.size) = some 9 := by kernel_rfl
structure ShtAt (w : World) (g : Nat) (s : Sh) (a : Sa) : Prop where
  z0 : w.cell? ⟨g, 0, none⟩ = some (.int .u64 s.i)
  z1 : w.cell? ⟨g, 1, none⟩ = some (.int .u64 s.t)
  z2 : w.cell? ⟨g, 2, none⟩ = some (.slice a.A0 s.ns.length a.c0)
  z3 : w.cell? ⟨g, 3, none⟩ = some (.int .i64 s.lim)
  z4 : w.cell? ⟨g, 4, none⟩ = some (.int .u64 s.nxt)
  z5 : w.cell? ⟨g, 5, none⟩ = some (.slice a.A1 s.hs.length a.c1)
  z6 : w.cell? ⟨g, 6, none⟩ = some (.slice a.A2 s.ls.length a.c2)
theorem Blk.sht {w : World} {g : Nat} {T : TypeId} {s : Sh} {a : Sa} (k : Blk w g T (shtC s a)) : ShtAt w g s a := by
  constructor <;> (rw [k.cell]; rfl)
end Go.Proofs.Ytjnkpjhggeibeaa
