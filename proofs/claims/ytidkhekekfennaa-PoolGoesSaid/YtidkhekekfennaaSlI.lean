/- Lists of cells behind an Insert; a block's shape. -/
import Derived.Test.YtidkhekekfennaaSlG
namespace Go.Proofs.Ytidkhekekfennaa
set_option maxRecDepth 100000
open Go.RowKit

def insL {α : Type} (l : List α) (k : Nat) (x : α) : List α := l.take k ++ x :: l.drop k
theorem insL_len {α : Type} (l : List α) (k : Nat) (x : α) (hk : k ≤ l.length) : (insL l k x).length = l.length + 1 := by
  simp only [insL, List.length_append, List.length_take, List.length_cons, List.length_drop]
  omega
theorem shape_blk {w : World} {g : Nat} {t : TypeId} {cs : Array Value} (h : Blk w g t cs) : w.shape? g = some (t, cs.size) := by
  unfold Blk at h
  simp [World.shape?, h]
theorem Blk.heap {w w1 : World} {g : Nat} {t : TypeId} {cs : Array Value} (h : Blk w1 g t cs) (e : w.heap = w1.heap) : Blk w g t cs := by
  unfold Blk at h ⊢
  rw [e]
  exact h
theorem midL_len : ∀ (vs l : List Value) (o : Nat), (midL l o vs).length = l.length
  | [], _, _ => rfl
  | v :: vs, l, o => by rw [midL, midL_len vs, List.length_set]
theorem ins_list {P M r R y : List Value} (s : Nat) (hr : r.length = s) (hy : y.length = s) :
    midL (midL (P ++ M ++ r ++ R) (P.length + s) M) P.length y = P ++ y ++ M ++ R := by
  have e1 : midL (P ++ M ++ r ++ R) (P.length + s) M = P ++ (M ++ r ++ R).take s ++ M ++ R := by
    rw [midL_eq _ _ _ (by simp; omega)]
    have a1 : (P ++ M ++ r ++ R).take (P.length + s) = P ++ (M ++ r ++ R).take s := by
      rw [show P ++ M ++ r ++ R = P ++ (M ++ r ++ R) by simp, List.take_length_add_append]
    have a2 : (P ++ M ++ r ++ R).drop (P.length + s + M.length) = R := List.drop_left' (by simp; omega)
    rw [a1, a2]
  rw [e1, midL_eq _ _ _ (by simp; omega)]
  have hT : ((M ++ r ++ R).take s).length = s := by simp; omega
  have b1 : (P ++ (M ++ r ++ R).take s ++ M ++ R).take P.length = P := by
    rw [show P ++ (M ++ r ++ R).take s ++ M ++ R = P ++ ((M ++ r ++ R).take s ++ M ++ R) by simp]
    exact List.take_left' rfl
  have b2 : (P ++ (M ++ r ++ R).take s ++ M ++ R).drop (P.length + y.length) = M ++ R := by
    rw [show P ++ (M ++ r ++ R).take s ++ M ++ R = (P ++ (M ++ r ++ R).take s) ++ (M ++ R) by simp]
    exact List.drop_left' (by rw [List.length_append, hT, hy])
  rw [b1, b2]
  simp
theorem flat_take {α : Type} {f : α → List Value} {s : Nat} (hf : ∀ x, (f x).length = s) : ∀ (l : List α) (k : Nat), (l.flatMap f).take (k * s) = (l.take k).flatMap f
  | [], k => by simp
  | x :: l, 0 => by simp
  | x :: l, k + 1 => by
    rw [List.flatMap_cons, List.take_succ_cons, List.flatMap_cons, ← flat_take hf l k, show (k + 1) * s = (f x).length + k * s by rw [hf, Nat.add_mul]; omega, List.take_length_add_append]
theorem flat_drop {α : Type} {f : α → List Value} {s : Nat} (hf : ∀ x, (f x).length = s) : ∀ (l : List α) (k : Nat), (l.flatMap f).drop (k * s) = (l.drop k).flatMap f
  | [], k => by simp
  | x :: l, 0 => by simp
  | x :: l, k + 1 => by
    rw [List.flatMap_cons, List.drop_succ_cons, ← flat_drop hf l k, show (k + 1) * s = (f x).length + k * s by rw [hf, Nat.add_mul]; omega, List.drop_length_add_append]
theorem insL_flat {α : Type} {f : α → List Value} {s : Nat} (hf : ∀ x, (f x).length = s) (l : List α) (k : Nat) (x : α) (_ : k ≤ l.length) :
    (l.flatMap f).take (k * s) ++ f x ++ (l.flatMap f).drop (k * s) = (insL l k x).flatMap f := by
  rw [flat_take hf, flat_drop hf, insL, List.flatMap_append, List.flatMap_cons, List.append_assoc]
theorem drop_take_mem {α : Type} {l : List α} {a b : Nat} {v : α} {n : Nat} (h : v ∈ (l.drop (a * n)).take b) {m : Nat} (hm : a * n + b ≤ m := by first | omega | (rw [Nat.sub_mul]; omega)) : v ∈ l.take m := by
  rw [List.take_drop] at h
  exact (List.take_subset_take_left l hm) (List.mem_of_mem_drop h)
/-- What an Insert of one element with room does to a row's cells. -/
theorem ins_cells (s n k cap : Nat) (L y : List Value) (hs : 0 < s) (hL : L.length = cap * s) (hk : k < n) (hroom : n + 1 ≤ cap) (hy : y.length = s) :
    ((L.drop (k * s)).take ((n - k) * s)).length = (n - k) * s ∧
    (∀ (j : Nat) v, ((L.drop (k * s)).take ((n - k) * s))[j]? = some v → L.toArray[k * s + j]? = some v) ∧
    (∀ j, j < ((L.drop (k * s)).take ((n - k) * s)).length → (L.toArray[(k + 1) * s + j]?).isSome = true) ∧
    (∀ j, j < y.length → ((midL L ((k + 1) * s) ((L.drop (k * s)).take ((n - k) * s))).toArray[k * s + j]?).isSome = true) ∧
    (midL (midL L ((k + 1) * s) ((L.drop (k * s)).take ((n - k) * s))) (k * s) y).take ((n + 1) * s) = (L.take (n * s)).take (k * s) ++ y ++ (L.take (n * s)).drop (k * s) := by
  have m1 : (n + 1) * s ≤ cap * s := Nat.mul_le_mul_right s hroom
  have m2 : (n - k) * s = n * s - k * s := Nat.sub_mul n k s
  have m3 : k * s ≤ n * s := Nat.mul_le_mul_right s (Nat.le_of_lt hk)
  have m4 : (n + 1) * s = n * s + s := by rw [Nat.add_mul, Nat.one_mul]
  have m5 : (k + 1) * s = k * s + s := by rw [Nat.add_mul, Nat.one_mul]
  have hlen : ((L.drop (k * s)).take ((n - k) * s)).length = (n - k) * s := by simp; omega
  have m6 : k * s + s ≤ n * s := by rw [← m5]; exact Nat.mul_le_mul_right s hk
  refine ⟨hlen, fun j v hj => ?_, fun j hj => ?_, fun j hj => ?_, ?_⟩
  · rw [List.getElem?_take] at hj
    split at hj
    · rw [List.getElem?_drop] at hj
      simpa using hj
    · cases hj
  · rw [hlen] at hj
    have : (k + 1) * s + j < L.length := by omega
    simp [this]
  · have : k * s + j < (midL L ((k + 1) * s) ((L.drop (k * s)).take ((n - k) * s))).length := by rw [midL_len]; omega
    simp [this]
  · obtain ⟨P, hP⟩ : ∃ P, L.take (k * s) = P := ⟨_, rfl⟩
    obtain ⟨M, hM⟩ : ∃ M, (L.drop (k * s)).take ((n - k) * s) = M := ⟨_, rfl⟩
    obtain ⟨r, hr⟩ : ∃ r, (L.drop (n * s)).take s = r := ⟨_, rfl⟩
    obtain ⟨R, hR⟩ : ∃ R, L.drop (n * s + s) = R := ⟨_, rfl⟩
    have lP : P.length = k * s := by rw [← hP]; simp; omega
    have lM : M.length = (n - k) * s := by rw [← hM]; exact hlen
    have lr : r.length = s := by rw [← hr]; simp; omega
    have eL : L = P ++ M ++ r ++ R := by
      rw [← hP, ← hM, ← hr, ← hR]
      have a1 : L.take (k * s) ++ (L.drop (k * s)).take ((n - k) * s) = L.take (n * s) := by
        rw [show n * s = k * s + (n - k) * s by omega, List.take_add]
      have a2 : L.take (n * s) ++ (L.drop (n * s)).take s = L.take (n * s + s) := by rw [List.take_add]
      rw [a1, a2, List.take_append_drop]
    rw [hM, m5, ← lP]
    have e2 : L.take (n * s) = P ++ M := by
      rw [eL, List.append_assoc (P ++ M)]
      exact List.take_left' (by rw [List.length_append, lP, lM]; omega)
    rw [e2, List.take_left' rfl, List.drop_left' rfl]
    rw [eL, ins_list s lr hy]
    exact List.take_left' (by rw [List.length_append, List.length_append, hy, lP, lM]; omega)
theorem grow_list {P Z M y : List Value} (s : Nat) (hy : y.length = s) (hZ : s + M.length ≤ Z.length) :
    midL (midL (P ++ Z) P.length y) (P.length + s) M = P ++ y ++ M ++ Z.drop (s + M.length) := by
  rw [midL_eq y _ _ (by simp; omega), midL_eq _ _ _ (by simp; omega)]
  have a1 : (P ++ Z).take P.length = P := List.take_left' rfl
  have a2 : (P ++ Z).drop (P.length + y.length) = Z.drop s := by rw [hy, List.drop_length_add_append]
  rw [a1, a2]
  have b1 : (P ++ y ++ Z.drop s).take (P.length + s) = P ++ y := List.take_left' (by rw [List.length_append, hy])
  have b2 : (P ++ y ++ Z.drop s).drop (P.length + s + M.length) = Z.drop (s + M.length) := by
    rw [← List.drop_drop, List.drop_left' (by rw [List.length_append, hy]), List.drop_drop]
  rw [b1, b2]
end Go.Proofs.Ytidkhekekfennaa
