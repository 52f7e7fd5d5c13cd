/- Arguments opened: a list of calls on a pool. -/
import Derived.Test.YtidkhekekfennaaRows5
import Derived.Test.YtidkhekekfennaaOpen
import Derived.Lib.SmallJoins
namespace Go.Proofs.Ytidkhekekfennaa
set_option maxRecDepth 100000
open Go.Joins Go.ChangeShapes Go.WideShapes Go.RowKit Go.Deep Go.ChangeAt

theorem listed {α : Type} {P : Nat → α → Prop} : ∀ (n : Nat), (∀ i, i < n → ∃ x, P i x) → ∃ l : List α, l.length = n ∧ ∀ i (hi : i < l.length), P i l[i] := by
  intro n
  induction n with
  | zero => intro _; exact ⟨[], rfl, fun i hi => absurd hi (by simp)⟩
  | succ n ih =>
    intro h
    obtain ⟨l, hl, hp⟩ := ih (fun i hi => h i (by omega))
    obtain ⟨x, hx⟩ := h n (by omega)
    refine ⟨l ++ [x], by simp [hl], fun i hi => ?_⟩
    rw [List.length_append, List.length_singleton] at hi
    rcases Nat.lt_or_ge i l.length with h1 | h1
    · rw [List.getElem_append_left h1]
      exact hp i h1
    · obtain rfl : i = l.length := by omega
      rw [List.getElem_append_right (Nat.le_refl _)]
      simp only [Nat.sub_self, List.getElem_singleton]
      rw [hl]
      exact hx
theorem wf_u {a : Int} (h : (Lit.int .u64 a).wf = true) : 0 ≤ a ∧ a < 18446744073709551616 := by
  simp [Lit.wf, IntKind.min, IntKind.max, IntKind.bits, IntKind.signed] at h
  omega

section
variable {H : Type} {enc : TypeId × Value → H} {w : World} {base : Nat} {spare : Nat → Bool} {held : Bool}
theorem parts {P : Program} {t : TypeId} {fs : Array Field} {fuel : Nat} {cs : List Value} {x : DataW H × List MemPlace} (ht : P.underlying t = some (.struct fs)) (h : DataW.trod enc P w base spare held fuel t cs = some x) :
    ∃ (xs : List (DataW H × List MemPlace)) (n : Nat), x = (.agg (xs.map (·.1)), xs.flatMap (·.2)) ∧ cs.length = P.cellsOf t ∧ xs.length = fs.size ∧
      ∀ (i : Nat) (f : Field) (_ : fs[i]? = some f) (o k : Nat) (_ : f.offset = o) (_ : P.cellsOf f.type = k), DataW.trod enc P w base spare held n f.type ((cs.drop o).take k) = xs[i]? := by
  obtain ⟨xs, n, _, h1, h2, h3, hg⟩ := DataW.trod_struct ht h
  refine ⟨xs, n, h1, h2, h3, fun i f hf o k ho hk => ?_⟩
  rw [← ho, ← hk]
  exact hg i f hf
/-- A slice of structs that came in, within something else. -/
theorem open_rows {α : Type} {f : α → List Value} {s : Nat} {Wf : α → Prop} {T E : TypeId} {fuel : Nat} {cs : List Value} {x : DataW H × List MemPlace} {ts : List TypeId} {ds : List (DataW H)} (hT : Try.prog.underlying T = some (.slice E)) (hC : Try.prog.cellsOf E = s) (hs : 0 < s) (hbt : Try.prog.bytesOf E = 8 * s) (hfl : ∀ x, (f x).length = s)
    (hof : ∀ fuel cs (y : DataW H × List MemPlace), DataW.trod enc Try.prog w base (fun _ => true) held fuel E cs = some y → ∃ x, cs = f x ∧ Wf x)
    (h : DataW.trod enc Try.prog w base (fun _ => true) held fuel T cs = some x) (hsz : (DataW.weightsEach Try.prog ts ds).all (· ≤ reachBytes) = true) {j : Nat} (ht : ts[j]? = some T) (hd : ds[j]? = some x.1) :
    ∃ A c l, cs = [.slice A l.length c] ∧ InS f s w A c l ∧ ∀ y ∈ l, Wf y := by
  rcases open_slice hT h with ⟨hcs, _⟩ | ⟨a, len, cap, m, n, D, Pl, hcs, _, hl, hm, hmm, hx, hi⟩
  · exact ⟨none, 0, [], hcs, InS.nil, fun y hy => by cases hy⟩
  · have hmc : m = cap := by simpa using hmm
    have hw : cap * (8 * s) ≤ 140737488351232 := by
      rw [hx] at hd
      have z := sized_slice hsz ht hd hT
      rw [hbt] at z
      simp only [List.length_map, List.length_range] at z
      have hr : reachBytes = 140737488351232 := rfl
      rw [hr, show len + (m - len) = cap by omega] at z
      exact z
    have hex : ∀ i, i < len → ∃ y : α, Wf y ∧ ∀ k u, (f y)[k]? = some u → w.cell? ((a.add (i * s)).add k) = some u := by
      intro i hil
      obtain ⟨cs', hc, ht'⟩ := hi i (by omega)
      obtain ⟨y, rfl, hwf⟩ := hof _ _ _ ht'
      obtain ⟨_, hcl, hat⟩ := World.cells?_some hc
      refine ⟨y, hwf, fun k u hu => ?_⟩
      rw [hC] at hat
      have hk : k < s := by
        have := (List.getElem?_eq_some_iff.1 hu).1
        rw [hfl] at this
        exact this
      rw [hat k hk]
      exact hu
    obtain ⟨l, hll, hp⟩ := listed len hex
    have hcap : l.length * (8 * s) ≤ cap * (8 * s) := Nat.mul_le_mul_right _ (by omega)
    refine ⟨some a, cap, l, by rw [hll]; exact hcs, ⟨?_, by omega, by omega⟩, fun y hy => ?_⟩
    · rcases Nat.eq_zero_or_pos l.length with h0 | h0
      · have : l = [] := List.eq_nil_of_length_eq_zero h0
        subst this
        exact ⟨by simp, fun h => by simp at h⟩
      · have hcell : ∀ j u, (l.flatMap f)[j]? = some u → w.cell? (a.add j) = some u := by
          intro j u hu
          have hj : j < l.length * s := by
            have := (List.getElem?_eq_some_iff.1 hu).1
            rw [flat_len hfl] at this
            exact this
          have hq : j / s < l.length := Nat.div_lt_of_lt_mul (by rw [Nat.mul_comm]; exact hj)
          have hr : j % s < s := Nat.mod_lt _ hs
          have hdm : j = j / s * s + j % s := by rw [Nat.mul_comm]; exact (Nat.div_add_mod j s).symm
          rw [hdm, flat_get hfl l _ hq _ hr] at hu
          have := (hp _ hq).2 _ _ hu
          rw [Go.Deep.add_add] at this
          rw [hdm]
          exact this
        have hb : a.block < w.heap.size := by
          have h1 : ∃ u, (l.flatMap f)[0]? = some u := by
            have : 0 < (l.flatMap f).length := by rw [flat_len hfl]; exact Nat.mul_pos h0 hs
            exact ⟨_, List.getElem?_eq_getElem this⟩
          obtain ⟨u, hu⟩ := h1
          have := World.block_lt_of_cell? w _ (hcell 0 u hu)
          simpa [Addr.add] using this
        exact Reads.of_add (flat_len hfl l) hb hcell hs
    · obtain ⟨i, hi, rfl⟩ := List.getElem_of_mem hy
      exact (hp i hi).1
/-- A call on a pool. -/
structure Po where
  d : Int
  n : Int
def poC (x : Po) : List Value := [.int .i64 x.d, .int .i64 x.n]
theorem poC_len (x : Po) : (poC x).length = 2 := rfl
theorem c_Op : Try.prog.cellsOf 27 = 2 := by kernel_rfl
theorem po_of {fuel : Nat} {cs : List Value} {y : DataW H × List MemPlace} (h : DataW.trod enc Try.prog w base spare held fuel 27 cs = some y) : ∃ x : Po, cs = poC x ∧ True := by
  obtain ⟨xs, n, _, hl, hlen, hg⟩ := parts Try.underlying27 h
  rw [c_Op] at hl
  match cs, hl with
  | [c0, c1], _ =>
    match xs, hlen with
    | [y0, y1], _ =>
      have g0 := hg 0 _ rfl 0 1 rfl (by kernel_rfl)
      have g1 := hg 1 _ rfl 1 1 rfl (by kernel_rfl)
      simp only [List.drop_zero, List.drop_succ_cons, List.take_succ_cons, List.take_zero, List.getElem?_cons_zero, List.getElem?_cons_succ] at g0 g1
      obtain ⟨a, e0, _, w0⟩ := DataW.trod_int Try.underlying3 g0
      obtain ⟨b, e1, _, w1⟩ := DataW.trod_int Try.underlying3 g1
      simp only [List.cons.injEq, and_true] at e0 e1
      subst e0 e1
      exact ⟨⟨a, b⟩, rfl, trivial⟩
end
structure PoAt (w : World) (b o : Nat) (x : Po) : Prop where
  c0 : w.cell? ⟨b, o, none⟩ = some (.int .i64 x.d)
  c1 : w.cell? ⟨b, o + 1, none⟩ = some (.int .i64 x.n)
theorem InS.po {w : World} {A : Option Addr} {c : Nat} {l : List Po} (h : InS poC 2 w A c l) (h0 : 0 < l.length) : ∃ b off, A = some ⟨b, off, none⟩ ∧ b < w.heap.size ∧ ∀ (j : Nat) (hj : j < l.length), PoAt w b (off + j * 2) l[j] := by
  obtain ⟨b, off, e, hb, hc⟩ := h.all poC_len h0
  refine ⟨b, off, e, hb, fun j hj => ⟨?_, ?_⟩⟩
  · exact hc j hj 0 _ (by omega) rfl
  · rw [Nat.add_assoc]; exact hc j hj 1 _ (by omega) rfl
/-- What is known of a list of calls that came in. -/
def OpenOps (W : World) (v : Value) : Prop := ∃ A c xs, v = .slice A xs.length c ∧ InS poC 2 W A c xs
theorem open_ops {H : Type} {enc : TypeId × Value → H} {W : World} {base : Nat} {r : Reach} {v : Value} {d : DataW H} {p : List MemPlace} {ts : List TypeId} {ds : List (DataW H)}
    (hv : Value.okWide Try.prog W r base 22 v) (h : DataW.Trod enc Try.prog W 0 (fun _ => true) true 22 v d p)
    (hsz : (DataW.weightsEach Try.prog ts ds).all (· ≤ reachBytes) = true) {j : Nat} (ht : ts[j]? = some 22) (hd : ds[j]? = some d) :
    OpenOps W v := by
  obtain ⟨a0, len, cap, rfl⟩ := okWide_slice Try.underlying22 hv
  obtain ⟨fuel, hf⟩ := h
  obtain ⟨A, c, l, e, h1, _⟩ := open_rows (f := poC) (s := 2) (Wf := fun _ => True) Try.underlying22 c_Op (by omega) (by kernel_rfl) poC_len (fun _ _ y k => po_of k) hf hsz ht hd
  simp [Value.cells] at e
  obtain ⟨rfl, rfl, rfl⟩ := e
  exact ⟨_, _, l, rfl, h1⟩
end Go.Proofs.Ytidkhekekfennaa
