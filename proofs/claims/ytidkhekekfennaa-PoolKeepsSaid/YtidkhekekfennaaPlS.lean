/- A set by a map of ints to bools that a call makes. -/
import Derived.Test.YtidkhekekfennaaPlP
import Derived.Maps.OwnSet
import Derived.Maps.OwnOps
import Derived.Maps.Views
namespace Go.Proofs.Ytidkhekekfennaa
set_option maxRecDepth 100000
open Go.RowKit Go.Maps

theorem lawI : Keyed Try.prog 3 := int_keyed Try.underlying3
theorem zeroB (w : World) : (zeroValue 4).run Try.prog w = .ok (.bool false) w := by kernel_rfl
theorem bool_inv {v : Value} {z : DataW Unit × List MemPlace} (h : plainElem Try.prog 4 v = some z) : ∃ x, v = .bool x ∧ z = (.lit (.bool x), []) := by
  unfold plainElem at h
  rw [Try.underlying4] at h
  split at h
  · injection h with h
    exact ⟨_, rfl, h.symm⟩
  · rename_i e
    cases e
  · rename_i e
    cases e
  · cases h
/-- Block M is a map of at most n entries that says of an int whether f does. -/
def SeenM (w : World) (M n : Nat) (f : Int → Bool) : Prop :=
  ∃ D : DataW Unit, w.ownsMap Try.prog 3 (plainElem Try.prog 4) M n D ∧ ∀ x : Int, (Lit.int .i64 x).wf = true → D.atKey (.int .i64 x) (.lit (.bool false)) = .lit (.bool (f x))
theorem SeenM.made (w : World) : SeenM (w.alloc (.map #[] 0)) w.heap.size 0 (fun _ => false) := ⟨_, World.ownsMap_made _ _ _ _, fun _ _ => rfl⟩
section
variable {w w' : World} {M n : Nat} {f g : Int → Bool}
theorem SeenM.lt (h : SeenM w M n f) : M < w.heap.size := by
  obtain ⟨D, h1, _⟩ := h
  exact h1.lt
theorem SeenM.below {B : Nat} (h : SeenM w M n f) (hb : Below B w w') (hM : M < B) : SeenM w' M n f := by
  obtain ⟨D, ⟨es, clock, hb1, h3⟩, h2⟩ := h
  exact ⟨D, ⟨es, clock, (hb.block M hM).trans hb1, h3⟩, h2⟩
theorem SeenM.keep (h : SeenM w M n f) (hb : Below w.heap.size w w') : SeenM w' M n f := h.below hb h.lt
theorem SeenM.drew (h : SeenM w M n f) : SeenM w.drew M n f := h
theorem SeenM.look (h : SeenM w M n f) {x : Int} (hx : (Lit.int .i64 x).wf = true) :
    (Instr.lookup 34 (.map (some M)) (.int .i64 x) false).run Try.prog w = .ok (.bool (f x)) w := by
  obtain ⟨D, h1, h2⟩ := h
  obtain ⟨v, ps, hrun, hv⟩ := h1.lookup lawI Try.underlying34 (zeroB w) (plainElem_bool Try.underlying4 false) (keyOf_int_mk Try.underlying3 hx)
  obtain ⟨c, rfl, hc⟩ := bool_inv hv
  have hc := congrArg Prod.fst hc
  simp only [h2 x hx] at hc
  injection hc with hc
  injection hc with hc
  rw [hrun, hc]
theorem SeenM.upd (h : SeenM w M n f) {x : Int} (hx : (Lit.int .i64 x).wf = true) (hn : n < maxLen) (v : Bool) :
    ∃ w', (Instr.mapUpdate 34 (.map (some M)) (.int .i64 x) (.bool v)).run Try.prog w = .ok () w' ∧ SeenM w' M (n + 1) (fun y => if y = x then v else f y) ∧ w.grownBy w' (some M) := by
  obtain ⟨D, h1, h2⟩ := h
  obtain ⟨w', hrun, h3, h4⟩ := h1.update lawI Try.underlying34 hn (keyOf_int_mk Try.underlying3 hx) (plainElem_bool Try.underlying4 v)
  refine ⟨w', hrun, ⟨_, h3, fun y hy => ?_⟩, h4⟩
  dsimp only
  by_cases he : y = x
  · subst he
    rw [if_pos rfl, atKey_put_same h1.isMap (show Go.WideAt.IsKeyLit (.int .i64 y) from trivial)]
  · have hne : (Lit.int .i64 y) ≠ (Lit.int .i64 x) := fun e => he (by injection e)
    rw [if_neg he, atKey_put_other hne]
    exact h2 y hy
theorem SeenM.congr (h : SeenM w M n f) (e : ∀ x, f x = g x) : SeenM w M n g := by
  have : f = g := funext e
  exact this ▸ h
/-- A map's block is no row of cells. -/
theorem SeenM.apart (h : SeenM w M n f) {a : Addr} {u : Value} (hc : w.cell? a = some u) : M ≠ a.block := by
  obtain ⟨D, ⟨es, clock, hb, _⟩, _⟩ := h
  intro e
  subst e
  simp [World.cell?, hb] at hc
theorem SeenM.apartB (h : SeenM w M n f) {g' : Nat} {t : TypeId} {cs : Array Value} (hc : Blk w g' t cs) : M ≠ g' := by
  obtain ⟨D, ⟨es, clock, hb, _⟩, _⟩ := h
  intro e
  subst e
  unfold Blk at hc
  rw [hb] at hc
  cases hc
end
theorem wf_small {x : Int} (h0 : -1000 ≤ x) (h1 : x ≤ 1000) : (Lit.int .i64 x).wf = true := by
  have e1 : IntKind.i64.min = -9223372036854775808 := by decide
  have e2 : IntKind.i64.max = 9223372036854775807 := by decide
  show (decide (IntKind.i64.min ≤ x) && decide (x ≤ IntKind.i64.max)) = true
  rw [e1, e2, decide_eq_true (by omega), decide_eq_true (by omega)]
  rfl
/-! ### Plain: who has been seen -/
def seenF (cs : List Cn) (j : Nat) (x : Int) : Bool := (cs.take j).any (fun c => c.s == x)
def seenG (cs : List Cn) (ws : List Int) (i : Nat) (x : Int) : Bool := if x = 0 then false else (seenF cs cs.length x || (ws.take i).any (fun y => y == x))
def idleF (cs : List Cn) (j : Nat) : Bool := (cs.take j).any (fun c => c.s == 0)
def lastF (cs : List Cn) (j : Nat) : Int := match j with
  | 0 => 0
  | k + 1 => tokAt cs k
theorem any_succ {α : Type} {p : α → Bool} {l : List α} {j : Nat} (hj : j < l.length) : (l.take (j + 1)).any p = ((l.take j).any p || p l[j]) := by
  rw [List.take_succ_eq_append_getElem hj, List.any_append]
  simp
theorem seenF_succ {cs : List Cn} {j : Nat} (hj : j < cs.length) (x : Int) : (if x = cs[j].s then true else seenF cs j x) = seenF cs (j + 1) x := by
  rw [seenF, seenF, any_succ hj]
  by_cases h : x = cs[j].s
  · rw [if_pos h, h]; simp
  · rw [if_neg h]
    have : (cs[j].s == x) = false := by simpa using fun e => h e.symm
    rw [this, Bool.or_false]
theorem seenG_zero (cs : List Cn) (ws : List Int) (x : Int) : (if x = 0 then false else seenF cs cs.length x) = seenG cs ws 0 x := by
  unfold seenG
  by_cases h : x = 0
  · rw [if_pos h, if_pos h]
  · rw [if_neg h, if_neg h]; simp
theorem seenG_succ {cs : List Cn} {ws : List Int} {i : Nat} (hi : i < ws.length) (h0 : ws[i] ≠ 0) (x : Int) : (if x = ws[i] then true else seenG cs ws i x) = seenG cs ws (i + 1) x := by
  unfold seenG
  rw [any_succ hi]
  by_cases h : x = 0
  · rw [if_pos h, if_pos h, if_neg (by rw [h]; exact fun e => h0 e.symm)]
  · rw [if_neg h, if_neg h]
    by_cases h2 : x = ws[i]
    · rw [if_pos h2, h2]; simp
    · have : (ws[i] == x) = false := by simpa using fun e => h2 e.symm
      rw [if_neg h2, this, Bool.or_false]
theorem idle_succ {cs : List Cn} {j : Nat} (hj : j < cs.length) : (idleF cs j || (cs[j].s == 0)) = idleF cs (j + 1) := by
  rw [idleF, idleF, any_succ hj]
section
variable {cs : List Cn} {ws : List Int}
theorem Inv.last (h : Inv cs ws) {j : Nat} (hj : j < cs.length) : lastF cs j < cs[j].t := by
  cases j with
  | zero =>
    have := h.tok _ (List.getElem_mem hj)
    show (0 : Int) < _
    omega
  | succ k =>
    show tokAt cs k < _
    rw [fd_at (by omega)]
    exact h.srt.lt (by omega) hj (by omega)
theorem Inv.unseen (h : Inv cs ws) {j : Nat} (hj : j < cs.length) (h0 : cs[j].s ≠ 0) : seenF cs j cs[j].s = false := by
  unfold seenF
  rw [List.any_eq_false]
  intro c hc
  obtain ⟨i, hi, rfl⟩ := List.getElem_of_mem hc
  have hi2 : i < j := by rw [List.length_take] at hi; omega
  rw [List.getElem_take]
  have := List.pairwise_iff_getElem.1 h.dis i j (by omega) hj hi2
  simp only [beq_iff_eq]
  intro e
  exact h0 (e ▸ this e)
theorem Inv.hasTok (h : Inv cs ws) {j : Nat} (hj : j < cs.length) (h0 : cs[j].s ≠ 0) : hasP cs cs[j].s = cs[j].t := by
  unfold hasP
  rw [if_neg h0]
  cases hf : fdS cs cs[j].s with
  | none => exact absurd rfl (fd_none hf _ (List.getElem_mem hj))
  | some k =>
    obtain ⟨hk, h1, h2⟩ := fd_some hf
    show tokAt cs k = _
    rw [fd_at hk]
    rcases Nat.lt_trichotomy k j with hl | rfl | hl
    · have := List.pairwise_iff_getElem.1 h.dis k j hk hj hl h1
      exact absurd (h1.symm.trans this) h0
    · rfl
    · exact absurd rfl (h2 j hl)
theorem Inv.unseenW (h : Inv cs ws) {i : Nat} (hi : i < ws.length) : seenG cs ws i ws[i] = false := by
  unfold seenG
  split
  · rfl
  · rw [Bool.or_eq_false_iff]
    constructor
    · unfold seenF
      rw [List.any_eq_false]
      intro c hc
      rw [List.take_length] at hc
      simp only [beq_iff_eq]
      intro e
      exact h.off c hc (e ▸ List.getElem_mem hi)
    · rw [List.any_eq_false]
      intro y hy
      obtain ⟨k, hk, rfl⟩ := List.getElem_of_mem hy
      have hk2 : k < i := by rw [List.length_take] at hk; omega
      rw [List.getElem_take]
      simp only [beq_iff_eq]
      exact List.pairwise_iff_getElem.1 h.nod k i (by omega) hi hk2
theorem Inv.noIdle (h : Inv cs ws) (hw : ws ≠ []) : idleF cs cs.length = false := by
  unfold idleF
  rw [List.any_eq_false, List.take_length]
  intro c hc
  simpa using h.idle hw c hc
end
end Go.Proofs.Ytidkhekekfennaa
