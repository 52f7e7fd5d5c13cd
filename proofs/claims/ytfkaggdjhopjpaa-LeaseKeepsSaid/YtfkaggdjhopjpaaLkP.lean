/- Keepers: the code's and the document's, beside each other. -/
import Derived.Test.YtfkaggdjhopjpaaKclo
import Derived.Test.YtfkaggdjhopjpaaRkdue
import Derived.Test.YtfkaggdjhopjpaaLcP
namespace Go.Proofs.Ytfkaggdjhopjpaa
set_option maxRecDepth 100000
open Go.RowKit

/-! ### Plain -/
def rows (xs : List Rk) : List Rw := xs.map (fun x => x.h.rw)
theorem rows_len (xs : List Rk) : (rows xs).length = xs.length := List.length_map _
/-- They know the same. -/
def Cpl (f : Rw → Option Int) (xs : List Rk) : Prop := ∀ r d, (f r).getD d = lastS xs r d
theorem lastS_none (xs : List Rk) (r : Rw) (d : Int) (h : r ∉ rows xs) : lastS xs r d = d := by
  induction xs generalizing d with
  | nil => rfl
  | cons x xs ih =>
    simp only [rows, List.map_cons, List.mem_cons, not_or] at h
    show lastS xs r (if x.h.rw = r then x.s else d) = d
    rw [if_neg (fun e => h.1 e.symm)]
    exact ih d h.2
theorem lastS_at (xs : List Rk) (hp : (rows xs).Pairwise (· ≠ ·)) (k : Nat) (hk : k < xs.length) (d : Int) : lastS xs xs[k].h.rw d = xs[k].s := by
  induction xs generalizing k d with
  | nil => simp at hk
  | cons x xs ih =>
    obtain ⟨h1, h2⟩ := List.pairwise_cons.1 (show (x.h.rw :: rows xs).Pairwise (· ≠ ·) from hp)
    cases k with
    | zero =>
      show lastS xs x.h.rw (if x.h.rw = x.h.rw then x.s else d) = x.s
      rw [if_pos rfl]
      exact lastS_none xs _ _ (fun hm => h1 _ hm rfl)
    | succ k => exact ih h2 k (by simpa using hk) _
theorem lastS_set (xs : List Rk) (k : Nat) (hk : k < xs.length) (t : Int) (r : Rw) (hr : xs[k].h.rw ≠ r) (d : Int) : lastS (xs.set k ⟨xs[k].h, t⟩) r d = lastS xs r d := by
  induction xs generalizing k d with
  | nil => simp at hk
  | cons x xs ih =>
    cases k with
    | zero =>
      show lastS xs r (if x.h.rw = r then t else d) = lastS xs r (if x.h.rw = r then x.s else d)
      have h : x.h.rw ≠ r := hr
      rw [if_neg h, if_neg h]
    | succ k => exact ih k (by simpa using hk) hr _
theorem rows_set (xs : List Rk) (k : Nat) (hk : k < xs.length) (t : Int) : rows (xs.set k ⟨xs[k].h, t⟩) = rows xs := by
  induction xs generalizing k with
  | nil => simp at hk
  | cons x xs ih =>
    cases k with
    | zero => rfl
    | succ k =>
      show x.h.rw :: rows (xs.set k _) = x.h.rw :: rows xs
      exact congrArg (x.h.rw :: ·) (ih k (by simpa using hk))
theorem rows_upd (L t : Int) (xs : List Rk) : rows (xs.map (updR L t)) = rows xs := by
  unfold rows
  rw [List.map_map]
  apply List.map_congr_left
  intro x _
  simp only [Function.comp, updR]
  split <;> rfl
theorem rows_updK (L t : Int) (xs : List Rk) (k : Nat) : rows (updK L t xs k) = rows xs := by
  have h1 : rows (updK L t xs k) = rows ((xs.take k).map (updR L t)) ++ rows (xs.drop k) := by simp [rows, updK]
  have h2 : rows xs = rows (xs.take k) ++ rows (xs.drop k) := by
    unfold rows
    rw [← List.map_append, List.take_append_drop]
  rw [h1, rows_upd, h2]
theorem rows_see (xs : List Rk) (t : Int) (hs : List Hd) : rows (seeR xs t hs) = hs.map Hd.rw := by
  unfold rows seeR
  rw [List.map_map]
  rfl
theorem lastS_see (xs : List Rk) (t : Int) (hs : List Hd) (r : Rw) (d : Int) : lastS (seeR xs t hs) r d = if r ∈ hs.map Hd.rw then lastS xs r t else d := by
  induction hs generalizing d with
  | nil => rfl
  | cons h hs ih =>
    show lastS (seeR xs t hs) r (if h.rw = r then lastS xs h.rw t else d) = _
    rw [ih]
    by_cases e : h.rw = r
    · rw [if_pos e, e]
      simp only [List.map_cons, List.mem_cons]
      rw [if_pos (Or.inl e.symm)]
      split <;> rfl
    · rw [if_neg e]
      by_cases hm : r ∈ hs.map Hd.rw
      · rw [if_pos hm, if_pos (by rw [List.map_cons]; exact List.mem_cons_of_mem _ hm)]
      · rw [if_neg hm, if_neg (by rw [List.map_cons, List.mem_cons]; exact fun q => q.elim (fun q => e q.symm) hm)]
theorem Cpl.none : Cpl (fun _ => none) [] := fun _ _ => rfl
theorem Cpl.see {f : Rw → Option Int} {xs : List Rk} (h : Cpl f xs) (t : Int) (hs : List Hd) : Cpl (seeF f t hs hs.length) (seeR xs t hs) := by
  intro r d
  rw [lastS_see]
  unfold seeF
  rw [List.take_length]
  by_cases hm : r ∈ hs.map Hd.rw
  · rw [if_pos hm, if_pos hm]
    exact h r t
  · rw [if_neg hm, if_neg hm]
    rfl
theorem Cpl.due {f : Rw → Option Int} {xs : List Rk} (h : Cpl f xs) (hp : (rows xs).Pairwise (· ≠ ·)) (L t : Int) : ∀ k, k ≤ xs.length → (dueK L t (rows xs) f k).2 = outR L t (xs.take k) ∧ Cpl (dueK L t (rows xs) f k).1 (updK L t xs k) := by
  intro k
  induction k with
  | zero => intro _; exact ⟨rfl, by rw [show updK L t xs 0 = xs from rfl]; exact h⟩
  | succ k ih =>
    intro hk
    obtain ⟨i1, i2⟩ := ih (by omega)
    have hk1 : k < xs.length := hk
    have hk2 : k < (rows xs).length := by rw [rows_len]; exact hk
    have hk3 : k < (updK L t xs k).length := by rw [updK_len]; exact hk
    have hr : (rows xs)[k] = xs[k].h.rw := by simp [rows]
    have hg := updK_get L t xs k hk1
    have hs := lastS_at (updK L t xs k) (by rw [rows_updK]; exact hp) k hk3 0
    rw [hg] at hs
    have h0 : ((dueK L t (rows xs) f k).1 xs[k].h.rw).getD 0 = xs[k].s := by rw [i2]; exact hs
    rw [dueK_succ L t (rows xs) f k hk2, hr, outR_succ L t xs k hk1, updK_succ L t xs k hk1]
    unfold dueStep
    rw [h0]
    by_cases c : L ≤ t - xs[k].s
    · rw [if_pos c, if_pos c]
      refine ⟨by rw [i1], ?_⟩
      unfold updR
      rw [if_pos c]
      have hset : (updK L t xs k).set k ⟨xs[k].h, t⟩ = (updK L t xs k).set k ⟨((updK L t xs k)[k]'hk3).h, t⟩ := by rw [hg]
      rw [hset]
      intro r d
      dsimp only
      by_cases e : r = xs[k].h.rw
      · subst e
        rw [if_pos rfl]
        have hk4 : k < ((updK L t xs k).set k ⟨((updK L t xs k)[k]'hk3).h, t⟩).length := by rw [List.length_set]; exact hk3
        have := lastS_at ((updK L t xs k).set k ⟨((updK L t xs k)[k]'hk3).h, t⟩) (by rw [rows_set _ k hk3, rows_updK]; exact hp) k hk4 d
        rw [List.getElem_set_self] at this
        rw [hg] at this
        rw [hg]
        exact this.symm
      · rw [if_neg e, lastS_set _ k hk3 t r (by rw [hg]; exact fun q => e q.symm)]
        exact i2 r d
    · rw [if_neg c, if_neg c]
      refine ⟨by rw [i1, List.append_nil], ?_⟩
      unfold updR
      rw [if_neg c]
      have hset : (updK L t xs k).set k xs[k] = updK L t xs k := by
        rw [← hg]
        exact List.set_getElem_self _
      rw [hset]
      exact i2
theorem Cpl.due_all {f : Rw → Option Int} {xs : List Rk} (h : Cpl f xs) (hp : (rows xs).Pairwise (· ≠ ·)) (L t : Int) : dueK L t (rows xs) f (rows xs).length = ((dueK L t (rows xs) f (rows xs).length).1, outR L t xs) ∧ Cpl (dueK L t (rows xs) f (rows xs).length).1 (xs.map (updR L t)) := by
  have := h.due hp L t xs.length (Nat.le_refl _)
  rw [updK_all, List.take_length] at this
  rw [rows_len]
  exact ⟨Prod.ext rfl this.1, this.2⟩
theorem LedOk.pair {lim nxt : Int} {hs : List Hd} {ls : List Ls} (h : LedOk lim nxt hs ls) : (hs.map Hd.rw).Pairwise (· ≠ ·) := by
  rw [List.pairwise_iff_getElem]
  intro i j hi hj hij
  exact h.apart i j hi hj hij
end Go.Proofs.Ytfkaggdjhopjpaa
