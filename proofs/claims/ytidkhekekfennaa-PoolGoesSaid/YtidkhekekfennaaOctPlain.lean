/- The plain mathematics of layer 1: a number's bytes, the highest first, and reading them back; lists of whole numbers alone, no program. -/
import Derived.Test.YtidkhekekfennaaWd
import Derived.Lib.BitFns
import Derived.Laws.BytesArg
namespace Go.Proofs.Ytidkhekekfennaa
set_option maxRecDepth 100000
open Go.RowKit

/-- Bytes as cells. -/
def u8s (l : List Int) : List Value := l.map (Value.int .u8)
theorem u8s_length (l : List Int) : (u8s l).length = l.length := by simp [u8s]
theorem u8s_append (l m : List Int) : u8s (l ++ m) = u8s l ++ u8s m := by simp [u8s]
theorem u8s_one (x : Int) : u8s [x] = [Value.int .u8 x] := rfl
theorem u8s_get {l : List Int} {j : Nat} (h : j < l.length) : (u8s l)[j]? = some (Value.int .u8 l[j]) := by
  simp [u8s, h]
/-- Every number is a byte. -/
def Byt (l : List Int) : Prop := ∀ x ∈ l, 0 ≤ x ∧ x ≤ 255
theorem Byt.nil : Byt [] := fun _ h => by cases h
theorem Byt.append {l m : List Int} (h : Byt l) (k : Byt m) : Byt (l ++ m) := fun x hx => by
  rcases List.mem_append.1 hx with hx | hx
  · exact h x hx
  · exact k x hx
theorem Byt.cons {x : Int} {l : List Int} (h : 0 ≤ x ∧ x ≤ 255) (k : Byt l) : Byt (x :: l) := fun y hy => by
  rcases List.mem_cons.1 hy with rfl | hy
  · exact h
  · exact k y hy
theorem Byt.take {l : List Int} (h : Byt l) (n : Nat) : Byt (l.take n) := fun x hx => h x (List.mem_of_mem_take hx)
theorem Byt.drop {l : List Int} (h : Byt l) (n : Nat) : Byt (l.drop n) := fun x hx => h x (List.mem_of_mem_drop hx)
theorem Byt.tail {l : List Int} (h : Byt l) : Byt l.tail := fun x hx => h x (List.mem_of_mem_tail hx)
theorem Byt.get {l : List Int} (h : Byt l) {j : Nat} (hj : j < l.length) : 0 ≤ l[j] ∧ l[j] ≤ 255 := h _ (List.getElem_mem hj)

/-- The k lowest bytes of n, the highest first. -/
def digs (n : Nat) : Nat → List Int
  | 0 => []
  | k + 1 => ((n / 256 ^ k % 256 : Nat) : Int) :: digs n k
theorem digs_length (n k : Nat) : (digs n k).length = k := by induction k <;> simp [digs, *]
theorem digs_byt (n k : Nat) : Byt (digs n k) := by
  induction k with
  | zero => exact Byt.nil
  | succ k ih => exact Byt.cons (by omega) ih
theorem digs_take_succ (n k m : Nat) (h : m < k) : (digs n k).take (m + 1) = (digs n k).take m ++ [((n / 256 ^ (k - 1 - m) % 256 : Nat) : Int)] := by
  induction k generalizing m with
  | zero => omega
  | succ k ih =>
    cases m with
    | zero => simp [digs]
    | succ m =>
      simp only [digs, List.take_succ_cons, List.cons_append]
      rw [ih m (by omega)]
      have : k + 1 - 1 - (m + 1) = k - 1 - m := by omega
      rw [this]

/-- How many bytes a number needs. -/
def blen : Nat → Nat → Nat
  | 0, _ => 0
  | f + 1, n => if n = 0 then 0 else blen f (n / 256) + 1
/-- A number's bytes, the highest first, as few as hold it. -/
def be (n : Nat) : List Int := digs n (blen 8 n)
/-- P1.1: how many, and these. -/
def numB (n : Nat) : List Int := (blen 8 n : Int) :: be n
theorem blen_le (f n : Nat) : blen f n ≤ f := by
  induction f generalizing n with
  | zero => simp [blen]
  | succ f ih => unfold blen; have := ih (n / 256); split <;> omega
theorem blen_lt (f n : Nat) (h : n < 256 ^ f) : n < 256 ^ blen f n := by
  induction f generalizing n with
  | zero => simp [blen]; simpa using h
  | succ f ih =>
    unfold blen
    split
    · omega
    · have h1 := ih (n / 256) (by rw [Nat.pow_succ] at h; omega)
      rw [Nat.pow_succ]
      omega
theorem blen_ge (f n : Nat) (h0 : n ≠ 0) (h : n < 256 ^ f) : 1 ≤ blen f n ∧ 256 ^ (blen f n - 1) ≤ n := by
  induction f generalizing n with
  | zero => simp at h; omega
  | succ f ih =>
    unfold blen
    rw [if_neg h0]
    refine ⟨by omega, ?_⟩
    simp only [Nat.add_sub_cancel]
    by_cases hq : n / 256 = 0
    · have : blen f (n / 256) = 0 := by
        cases f with
        | zero => simp [blen]
        | succ f => unfold blen; rw [if_pos hq]
      rw [this]
      simp
      omega
    · have h1 := ih (n / 256) hq (by rw [Nat.pow_succ] at h; omega)
      have h2 : 256 ^ blen f (n / 256) = 256 ^ (blen f (n / 256) - 1) * 256 := by
        rw [← Nat.pow_succ]; congr 1; omega
      rw [h2]
      omega
theorem blen_zero (f : Nat) : blen f 0 = 0 := by cases f <;> simp [blen]
theorem be_length (n : Nat) : (be n).length = blen 8 n := digs_length _ _
theorem be_le (n : Nat) : (be n).length ≤ 8 := by rw [be_length]; exact blen_le 8 n
theorem be_byt (n : Nat) : Byt (be n) := digs_byt _ _
theorem numB_length (n : Nat) : (numB n).length = blen 8 n + 1 := by simp [numB, be_length]
theorem numB_le (n : Nat) : (numB n).length ≤ 9 := by rw [numB_length]; have := blen_le 8 n; omega
theorem numB_byt (n : Nat) : Byt (numB n) := Byt.cons (by have := blen_le 8 n; omega) (be_byt n)
theorem numB_pos (n : Nat) : 1 ≤ (numB n).length := by rw [numB_length]; omega

/-- bits.Len64's answer, in bytes. -/
theorem bitLenAux_bytes : ∀ f n, n < 256 ^ f → (Lib.bitLenAux (8 * f) n + 7) / 8 = blen f n := by
  intro f
  induction f with
  | zero => intro n h; simp at h; subst h; simp [Lib.bitLenAux, blen]
  | succ f ih =>
    intro n h
    have step : ∀ g x, Lib.bitLenAux (g + 1) x = if x = 0 then 0 else 1 + Lib.bitLenAux g (x / 2) := fun g x => rfl
    have z : ∀ g, Lib.bitLenAux g 0 = 0 := by intro g; cases g <;> simp [Lib.bitLenAux]
    unfold blen
    by_cases h0 : n = 0
    · subst h0; simp [z]
    rw [if_neg h0]
    have e8 : 8 * (f + 1) = 8 * f + 8 := by omega
    rw [e8]
    have hq := ih (n / 256) (by rw [Nat.pow_succ] at h; omega)
    have d2 : n / 2 / 2 / 2 / 2 / 2 / 2 / 2 / 2 = n / 256 := by omega
    by_cases hs : n / 256 = 0
    · rw [hs, blen_zero]
      rw [step, if_neg h0, step]
      split
      · omega
      rw [step]
      split
      · omega
      rw [step]
      split
      · omega
      rw [step]
      split
      · omega
      rw [step]
      split
      · omega
      rw [step]
      split
      · omega
      rw [step]
      split
      · omega
      rw [d2, hs, z]
    · rw [step, if_neg h0, step, if_neg (by omega), step, if_neg (by omega), step, if_neg (by omega), step, if_neg (by omega), step, if_neg (by omega), step, if_neg (by omega), step, if_neg (by omega), d2]
      omega
theorem bitLen_bytes (n : Nat) (h : n < 18446744073709551616) : (Lib.bitLen n + 7) / 8 = blen 8 n := bitLenAux_bytes 8 n (by simpa using h)
theorem bitLenAux_le (f n : Nat) : Lib.bitLenAux f n ≤ f := by
  induction f generalizing n with
  | zero => simp [Lib.bitLenAux]
  | succ f ih => unfold Lib.bitLenAux; have := ih (n / 2); split <;> omega
theorem bitLen_le (n : Nat) : Lib.bitLen n ≤ 64 := bitLenAux_le 64 n

theorem digs_snoc (n k : Nat) : digs n (k + 1) = digs (n / 256) k ++ [((n % 256 : Nat) : Int)] := by
  induction k with
  | zero => simp [digs]
  | succ k ih =>
    rw [digs, ih]
    simp only [digs, List.cons_append]
    congr 2
    rw [Nat.div_div_eq_div_mul]
    have : 256 ^ (k + 1) = 256 * 256 ^ k := by rw [Nat.pow_succ]; omega
    rw [this]
/-- The bytes by halving, with as many rounds as f allows. -/
def beF (f n : Nat) : List Int := digs n (blen f n)
theorem beF_zero (f : Nat) : beF f 0 = [] := by simp [beF, blen_zero, digs]
theorem beF_succ (f n : Nat) (h : n ≠ 0) : beF (f + 1) n = beF f (n / 256) ++ [((n % 256 : Nat) : Int)] := by
  unfold beF
  rw [blen, if_neg h, digs_snoc]
theorem beF_length (f n : Nat) : (beF f n).length ≤ f := by unfold beF; rw [digs_length]; exact blen_le f n

/-- What bytes make. -/
def fold (l : List Int) : Nat := l.foldl (fun n c => n * 256 + c.toNat) 0
theorem fold_from (l : List Int) (a : Nat) : l.foldl (fun n c => n * 256 + c.toNat) a = a * 256 ^ l.length + fold l := by
  induction l generalizing a with
  | nil => simp [fold]
  | cons c l ih =>
    unfold fold
    simp only [List.foldl_cons, List.length_cons]
    rw [ih, ih (0 * 256 + c.toNat), Nat.pow_succ]
    simp only [Nat.zero_mul, Nat.zero_add, Nat.add_mul, Nat.add_assoc, Nat.mul_assoc]
    rw [Nat.mul_comm 256 (256 ^ l.length)]
theorem fold_nil : fold [] = 0 := rfl
theorem fold_cons (c : Int) (l : List Int) : fold (c :: l) = c.toNat * 256 ^ l.length + fold l := by
  unfold fold
  simp only [List.foldl_cons]
  rw [fold_from]
  simp [fold]
theorem fold_snoc (l : List Int) (c : Int) : fold (l ++ [c]) = fold l * 256 + c.toNat := by
  simp [fold, List.foldl_append]
theorem fold_lt (l : List Int) (h : Byt l) : fold l < 256 ^ l.length := by
  induction l with
  | nil => simp [fold]
  | cons c l ih =>
    rw [fold_cons, List.length_cons, Nat.pow_succ]
    have h1 := ih fun x hx => h x (List.mem_cons_of_mem _ hx)
    have h2 := h c List.mem_cons_self
    have h3 : c.toNat * 256 ^ l.length ≤ 255 * 256 ^ l.length := Nat.mul_le_mul_right _ (by omega)
    omega
theorem fold_digs (n k : Nat) : fold (digs n k) = n % 256 ^ k := by
  induction k with
  | zero => simp [digs, fold, Nat.mod_one]
  | succ k ih =>
    rw [digs, fold_cons, digs_length, ih, Int.toNat_natCast, Nat.pow_succ, Nat.mod_mul]
    rw [Nat.mul_comm, Nat.add_comm]
theorem fold_be (n : Nat) (h : n < 18446744073709551616) : fold (be n) = n := by
  unfold be
  rw [fold_digs, Nat.mod_eq_of_lt]
  exact blen_lt 8 n (by simpa using h)
/-- The digits of what bytes make are these bytes. -/
theorem digs_fold (l : List Int) (h : Byt l) : digs (fold l) l.length = l := by
  induction l with
  | nil => rfl
  | cons c l ih =>
    have h1 : Byt l := fun x hx => h x (List.mem_cons_of_mem _ hx)
    have h2 := h c List.mem_cons_self
    have h3 := fold_lt l h1
    have hm : ∀ (n m k : Nat), digs (m * 256 ^ k + n) k = digs n k := by
      intro n m k
      have : ∀ j, j ≤ k → digs (m * 256 ^ k + n) j = digs n j := by
        intro j
        induction j with
        | zero => intro _; rfl
        | succ j ihj =>
          intro hj
          simp only [digs]
          rw [ihj (by omega)]
          congr 2
          have e : 256 ^ k = 256 ^ (k - j - 1) * 256 * 256 ^ j := by
            rw [← Nat.pow_succ, ← Nat.pow_add]; congr 1; omega
          rw [e, ← Nat.mul_assoc, Nat.add_comm, Nat.add_mul_div_right _ _ (Nat.pow_pos (by omega)), ← Nat.mul_assoc, Nat.add_mul_mod_self_right]
      exact this k (Nat.le_refl _)
    rw [List.length_cons, digs, fold_cons, hm, ih h1]
    congr 1
    rw [Nat.add_comm, Nat.add_mul_div_right _ _ (Nat.pow_pos (by omega)), Nat.div_eq_of_lt h3]
    omega

/-- P1.2's answer: what is read, how many bytes, the error. -/
def readN (b : List Int) : Int × Int × Int :=
  if b.length = 0 then (0, 0, 10)
  else if b.getD 0 0 > 8 then (0, 0, 11)
  else if (b.length : Int) < 1 + b.getD 0 0 then (0, 0, 10)
  else if 1 + b.getD 0 0 > 1 ∧ b.getD 1 0 = 0 then (0, 0, 11)
  else (fold (b.tail.take (b.getD 0 0).toNat), 1 + b.getD 0 0, 0)
theorem readN_ok (l : List Int) (hl : Byt l) (h : (readN l).2.2 = 0) : 1 ≤ (readN l).2.1 ∧ (readN l).2.1 ≤ l.length ∧ (readN l).2.1 ≤ 9 ∧ 0 ≤ (readN l).1 ∧ (readN l).1 < 18446744073709551616 := by
  unfold readN at h ⊢
  by_cases h0 : l.length = 0
  · rw [if_pos h0] at h; simp at h
  rw [if_neg h0] at h ⊢
  by_cases h8 : l.getD 0 0 > 8
  · rw [if_pos h8] at h; simp at h
  rw [if_neg h8] at h ⊢
  by_cases hs : (l.length : Int) < 1 + l.getD 0 0
  · rw [if_pos hs] at h; simp at h
  rw [if_neg hs] at h ⊢
  by_cases hz : 1 + l.getD 0 0 > 1 ∧ l.getD 1 0 = 0
  · rw [if_pos hz] at h; simp at h
  rw [if_neg hz]
  have hd : l.getD 0 0 = l[0]'(by omega) := by simp [List.getD_eq_getElem?_getD, show 0 < l.length by omega]
  have hb := hl.get (j := 0) (by omega)
  rw [← hd] at hb
  refine ⟨by simp only; omega, by simp only; omega, by simp only; omega, by simp only; omega, ?_⟩
  simp only
  have h1 := fold_lt _ (hl.tail.take (l.getD 0 0).toNat)
  have h2 : (l.tail.take (l.getD 0 0).toNat).length ≤ 8 := by rw [List.length_take]; omega
  have h3 : 256 ^ (l.tail.take (l.getD 0 0).toNat).length ≤ 256 ^ 8 := Nat.pow_le_pow_right (by omega) h2
  omega

/-- P1.3's answer: the text, how many bytes, the error. -/
def readT (l : List Int) (most : Int) : ByteArray × Int × Int :=
  if (readN l).2.2 ≠ 0 then (ByteArray.empty, 0, (readN l).2.2)
  else if most < 0 then (ByteArray.empty, 0, 2)
  else if (readN l).1 > most then (ByteArray.empty, 0, 2)
  else if (readN l).1 > l.length - (readN l).2.1 then (ByteArray.empty, 0, 10)
  else (strOfNums ((l.drop (readN l).2.1.toNat).take (readN l).1.toNat), (readN l).2.1 + (readN l).1, 0)
end Go.Proofs.Ytidkhekekfennaa
