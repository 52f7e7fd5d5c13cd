/- Keepers, plain: what is due behind one lease. -/
import Derived.Test.YtfkaggdjhopjpaaKdue
import Derived.Test.YtfkaggdjhopjpaaApR
namespace Go.Proofs.Ytfkaggdjhopjpaa
set_option maxRecDepth 100000
open Go.RowKit

theorem seeF_mem (f : Rw → Option Int) (t : Int) (hs : List Hd) {r : Rw} (h : r ∈ hs.map Hd.rw) : seeF f t hs hs.length r = some ((f r).getD t) := by
  unfold seeF
  rw [List.take_length, if_pos h]
/-- No sooner. -/
theorem due_none (L t t0 : Int) (rs : List Rw) (f : Rw → Option Int) (hf : ∀ r ∈ rs, f r = some t0) (h : t - t0 < L) : ∀ k, dueK L t rs f k = (f, []) := by
  intro k
  induction k with
  | zero => rfl
  | succ k ih =>
    rcases Nat.lt_or_ge k rs.length with hk | hk
    · have hr := hf _ (List.getElem_mem hk)
      rw [dueK_succ L t rs f k hk, ih]
      generalize rs[k] = r at hr ⊢
      unfold dueStep
      dsimp only
      have h1 : (f r).getD 0 = t0 := by rw [hr]; rfl
      rw [h1, if_neg (by omega)]
    · have : dueK L t rs f (k + 1) = dueK L t rs f k := by unfold dueK; rw [List.take_of_length_le hk, List.take_of_length_le (by omega)]
      rw [this, ih]
/-- All of them. -/
theorem due_all (L t t0 : Int) (rs : List Rw) (f : Rw → Option Int) (hf : ∀ r ∈ rs, f r = some t0) (h : L ≤ t - t0) (hn : ∀ i j (hi : i < rs.length) (hj : j < rs.length), i < j → rs[i] ≠ rs[j]) : ∀ k, k ≤ rs.length → (dueK L t rs f k).2 = rs.take k ∧ ∀ r, r ∉ rs.take k → (dueK L t rs f k).1 r = f r := by
  intro k
  induction k with
  | zero => intro _; exact ⟨rfl, fun _ _ => rfl⟩
  | succ k ih =>
    intro hk
    obtain ⟨i1, i2⟩ := ih (by omega)
    have hk' : k < rs.length := hk
    have hno : rs[k] ∉ rs.take k := by
      intro hm
      rw [List.mem_take_iff_getElem] at hm
      obtain ⟨j, hj, e⟩ := hm
      exact hn j k (by omega) hk' (by omega) e
    have hr := hf _ (List.getElem_mem hk')
    have ht := List.take_append_getElem hk'
    rw [dueK_succ L t rs f k hk', ← ht]
    generalize rs[k] = x at hr hno ⊢
    have hg : ((dueK L t rs f k).1 x).getD 0 = t0 := by rw [i2 _ hno, hr]; rfl
    unfold dueStep
    rw [hg, if_pos h]
    refine ⟨?_, fun r hr => ?_⟩
    · dsimp only
      rw [i1]
    · simp only [List.mem_append, List.mem_singleton, not_or] at hr
      dsimp only
      rw [if_neg hr.2]
      exact i2 r hr.1
theorem LedOk.rising {lim nxt : Int} {hs : List Hd} {ls : List Ls} (h : LedOk lim nxt hs ls) : ∀ (j k : Nat) (hj : j < hs.length) (hk : k < hs.length), j < k → hs[j].tok < hs[k].tok := by
  intro j k hj hk hjk
  obtain ⟨d, rfl⟩ : ∃ d, k = j + 1 + d := ⟨k - (j + 1), by omega⟩
  clear hjk
  induction d with
  | zero => exact (h.hds (j + 1) hk hk).rise (by omega) (by simpa using hj)
  | succ d ih =>
    have h1 := ih (by omega)
    have h2 := (h.hds (j + 1 + (d + 1)) hk hk).rise (by omega) (by omega)
    have e : j + 1 + (d + 1) - 1 = j + 1 + d := by omega
    simp only [e] at h2
    omega
theorem LedOk.apart {lim nxt : Int} {hs : List Hd} {ls : List Ls} (h : LedOk lim nxt hs ls) : ∀ i j (hi : i < (hs.map Hd.rw).length) (hj : j < (hs.map Hd.rw).length), i < j → (hs.map Hd.rw)[i] ≠ (hs.map Hd.rw)[j] := by
  intro i j hi hj hij e
  rw [List.length_map] at hi hj
  rw [List.getElem_map, List.getElem_map] at e
  have := congrArg Rw.tok e
  have h1 := h.rising i j hi hj hij
  simp only [Hd.rw] at this
  omega
theorem LedOk.drop {lim nxt : Int} {hs : List Hd} {ls : List Ls} (h : LedOk lim nxt hs ls) (k : Nat) : LedOk lim nxt (hs.drop k) ls := by
  refine ⟨⟨h.head.l1, h.head.l2, h.head.n1, by have := h.head.len; simp; omega⟩, fun i hi _ => ?_, h.lss⟩
  have hl : (hs.drop k).length = hs.length - k := List.length_drop
  have hki : k + i < hs.length := by omega
  have g := h.hds (k + i) hki hki
  have e : (hs.drop k)[i] = hs[k + i] := List.getElem_drop
  rw [e]
  refine ⟨fun h0 hl1 => ?_, g.tok1, g.tok2, g.nod1, g.nod2, g.bt, g.stp, g.ser1, g.ser2, fun j hj hji => ?_⟩
  · rw [List.getElem_drop]
    exact h.rising _ _ _ _ (by omega)
  · rw [List.getElem_drop]
    exact g.once _ _ (by omega)
theorem find_drop (hs : List Hd) (k : Nat) (hk : k < hs.length) : findT (hs.drop k) hs[k].tok = some hs[k] := by
  have e : hs.drop k = hs[k] :: hs.drop (k + 1) := List.drop_eq_getElem_cons hk
  rw [e]
  unfold findT
  rw [List.find?_cons_of_pos (by simp)]
theorem LedOk.out {lim nxt : Int} {hs : List Hd} {ls : List Ls} (h : LedOk lim nxt hs ls) (k : Nat) (hk : k < hs.length) : outT (hs.drop k) hs[k].tok = hs.drop (k + 1) := by
  have e : hs.drop k = hs[k] :: hs.drop (k + 1) := List.drop_eq_getElem_cons hk
  rw [e]
  unfold outT
  rw [List.filter_cons_of_neg (by simp), List.filter_eq_self]
  intro x hx
  obtain ⟨j, hj, rfl⟩ := List.getElem_of_mem hx
  rw [List.getElem_drop]
  have := h.rising k (k + 1 + j) hk (by simp at hj; omega) (by omega)
  simp
  omega
theorem LedOk.recl {lim nxt : Int} {hs : List Hd} {ls : List Ls} (h : LedOk lim nxt hs ls) (hw : ∀ x ∈ hs, x.Wf) (k : Nat) (hk : k < hs.length) : hs[k].rw.Rec := by
  have g := h.hds k hk hk
  have w := hw _ (List.getElem_mem hk)
  have h1 := h.head.l2
  exact ⟨g.tok1, by have := g.tok2; simp only [Hd.rw]; omega, g.ser1, w.ser.2, g.stp, w.stp.2⟩

/-! ### The chapter's first example -/
def hdE : Hd := ⟨1, 1, 1, 1, 3⟩
def rwE : Rw := ⟨1, 1, 3⟩
theorem hdE_wf : hdE.Wf := ⟨by decide, by decide, by decide, by decide, by decide⟩
end Go.Proofs.Ytfkaggdjhopjpaa
