/- Plain laws of layer 1: a number is read as what it was; what was read is written so again; what was cut is none; the order. -/
import Derived.Test.YthdeappjankmmaaOctPlain
namespace Go.Proofs.Ythdeappjankmmaa
set_option maxRecDepth 100000
open Go.RowKit

theorem getD_cons_zero (x : Int) (l : List Int) : (x :: l).getD 0 0 = x := rfl
/-- The first byte of a number that is not 0 is not 0. -/
theorem be_head (n : Nat) (h0 : n ≠ 0) (h : n < 18446744073709551616) : (be n).getD 0 0 ≠ 0 ∧ 1 ≤ blen 8 n := by
  obtain ⟨h1, h2⟩ := blen_ge 8 n h0 (by simpa using h)
  have h3 := blen_lt 8 n (by simpa using h)
  obtain ⟨k, hk⟩ : ∃ k, blen 8 n = k + 1 := ⟨blen 8 n - 1, by omega⟩
  unfold be
  rw [hk] at h2 h3 ⊢
  simp only [Nat.add_sub_cancel] at h2
  refine ⟨?_, by omega⟩
  have : 1 ≤ n / 256 ^ k := by
    rw [Nat.le_div_iff_mul_le (Nat.pow_pos (by omega))]; omega
  have h4 : n / 256 ^ k < 256 := by
    rw [Nat.div_lt_iff_lt_mul (Nat.pow_pos (by omega))]
    rw [Nat.pow_succ] at h3; omega
  show ((n / 256 ^ k % 256 : Nat) : Int) ≠ 0
  omega

/-- P1.5: read as what it was, whatever stands behind it. -/
theorem readN_numB (n : Nat) (h : n < 18446744073709551616) (l : List Int) : readN (numB n ++ l) = ((n : Int), ((numB n).length : Int), 0) := by
  have hl := numB_length n
  have h8 := blen_le 8 n
  unfold readN
  have e0 : (numB n ++ l).getD 0 0 = (blen 8 n : Int) := by simp [numB]
  have e1 : (numB n ++ l).tail = be n ++ l := by simp [numB]
  rw [e0, e1, if_neg (by rw [List.length_append, hl]; omega), if_neg (by omega), if_neg (by rw [List.length_append, hl]; omega), if_neg, Int.toNat_natCast]
  · rw [List.take_append_of_le_length (by rw [be_length]; omega), List.take_of_length_le (by rw [be_length]; omega), fold_be n h, hl]
    simp only [Prod.mk.injEq, true_and, and_true]
    omega
  · rintro ⟨hp, hz⟩
    have hn : n ≠ 0 := by
      rintro rfl
      rw [blen_zero] at hp
      omega
    obtain ⟨h1, h2⟩ := be_head n hn h
    apply h1
    rw [← hz]
    have hb : 0 < (be n).length := by rw [be_length]; omega
    simp [numB, List.getElem?_append_left hb, hb]

/-- P1.2: a number's bytes without the last one are short. -/
theorem readN_cut (n : Nat) : (readN ((numB n).take ((numB n).length - 1))).2.2 = 10 := by
  have hl := numB_length n
  have h8 := blen_le 8 n
  rw [hl, Nat.add_sub_cancel]
  rcases Nat.eq_zero_or_pos (blen 8 n) with h0 | h0
  · rw [h0]; simp [readN]
  · have e : (numB n).take (blen 8 n) = (blen 8 n : Int) :: (be n).take (blen 8 n - 1) := by
      obtain ⟨k, hk⟩ : ∃ k, blen 8 n = k + 1 := ⟨blen 8 n - 1, by omega⟩
      unfold numB
      rw [hk]
      simp
    rw [e]
    unfold readN
    have hlen : ((be n).take (blen 8 n - 1)).length = blen 8 n - 1 := by rw [List.length_take, be_length]; omega
    rw [getD_cons_zero, if_neg (by simp), if_neg (by omega), if_pos (by rw [List.length_cons, hlen]; omega)]

/-- P1.5: what is read is written as these bytes. -/
theorem numB_readN (l : List Int) (hl : Byt l) (h : (readN l).2.2 = 0) : numB (readN l).1.toNat = l.take (readN l).2.1.toNat ∧ (readN l).2.1.toNat ≤ l.length := by
  unfold readN at h ⊢
  by_cases h0 : l.length = 0
  · rw [if_pos h0] at h; simp at h
  rw [if_neg h0] at h ⊢
  by_cases h8 : l.getD 0 0 > 8
  · rw [if_pos h8] at h; simp at h
  rw [if_neg h8] at h ⊢
  by_cases hs : (l.length : Int) < 1 + l.getD 0 0
  · rw [if_pos hs] at h; simp at h
  rw [if_neg hs] at h ⊢
  by_cases hz : 1 + l.getD 0 0 > 1 ∧ l.getD 1 0 = 0
  · rw [if_pos hz] at h; simp at h
  rw [if_neg hz]
  cases l with
  | nil => simp at h0
  | cons x t =>
    rw [getD_cons_zero] at *
    have hx := hl x List.mem_cons_self
    have ht : Byt t := fun y hy => hl y (List.mem_cons_of_mem _ hy)
    obtain ⟨m, rfl⟩ := Int.eq_ofNat_of_zero_le hx.1
    simp only [List.tail_cons, Int.toNat_natCast, List.length_cons] at *
    have e1 : (1 + (m : Int)).toNat = m + 1 := by omega
    rw [e1, List.take_succ_cons]
    refine ⟨?_, by omega⟩
    have hd : (t.take m).length = m := by rw [List.length_take]; omega
    have hb := ht.take m
    have hf := fold_lt _ hb
    rw [hd] at hf
    have hble : blen 8 (fold (t.take m)) = m := by
      rcases Nat.eq_zero_or_pos m with hm | hm
      · subst hm; simp [fold_nil, blen_zero]
      · cases t with
        | nil => simp at hs; omega
        | cons y u =>
          have hy0 : y ≠ 0 := by
            intro e
            apply hz
            exact ⟨by omega, by simpa using e⟩
          have hy := ht y List.mem_cons_self
          obtain ⟨k, rfl⟩ : ∃ k, m = k + 1 := ⟨m - 1, by omega⟩
          rw [List.take_succ_cons] at hf hd ⊢
          have hge : 256 ^ k ≤ fold (y :: u.take k) := by
            rw [fold_cons]
            have hk : (u.take k).length = k := by simpa using hd
            rw [hk]
            have := Nat.mul_le_mul_right (256 ^ k) (show 1 ≤ y.toNat by omega)
            omega
          have h256 : fold (y :: u.take k) < 256 ^ 8 := Nat.lt_of_lt_of_le hf (Nat.pow_le_pow_right (by omega) (by omega))
          have hne : fold (y :: u.take k) ≠ 0 := by have := Nat.pow_pos (n := k) (show 0 < 256 by omega); omega
          obtain ⟨a1, a2⟩ := blen_ge 8 _ hne h256
          have a3 := blen_lt 8 _ h256
          have b1 : blen 8 (fold (y :: u.take k)) < k + 2 := by
            rcases Nat.lt_or_ge (blen 8 (fold (y :: u.take k))) (k + 2) with q | q
            · exact q
            · have := Nat.pow_le_pow_right (show 0 < 256 by omega) (show k + 1 ≤ blen 8 (fold (y :: u.take k)) - 1 by omega)
              omega
          have b2 : k < blen 8 (fold (y :: u.take k)) := by
            rcases Nat.lt_or_ge k (blen 8 (fold (y :: u.take k))) with q | q
            · exact q
            · have := Nat.pow_le_pow_right (show 0 < 256 by omega) q
              omega
          omega
    unfold numB be
    rw [hble]
    congr 1
    have := digs_fold (t.take m) hb
    rw [hd] at this
    exact this

/-- Bytes as the model orders them. -/
def lexB : List Int → List Int → Bool
  | _, [] => false
  | [], _ :: _ => true
  | a :: x, b :: y => decide (a < b) || (a == b && lexB x y)
theorem lexB_irrefl (l : List Int) : lexB l l = false := by
  induction l with
  | nil => rfl
  | cons x t ih => simp [lexB, ih]
theorem two_digits (q a b c d : Nat) (hc : c < q) (hd : d < q) : (decide ((a : Int) < b) || ((a : Int) == b && decide (c < d))) = decide (q * a + c < q * b + d) := by
  rw [Bool.eq_iff_iff]
  simp only [Bool.or_eq_true, Bool.and_eq_true, decide_eq_true_eq, beq_iff_eq]
  constructor
  · rintro (h | ⟨h1, h2⟩)
    · have := Nat.mul_le_mul_left q (show a + 1 ≤ b by omega)
      rw [Nat.mul_add] at this
      omega
    · have : a = b := by omega
      subst this; omega
  · intro h
    rcases Nat.lt_trichotomy a b with h1 | h1 | h1
    · left; omega
    · subst h1; right; exact ⟨rfl, by omega⟩
    · have := Nat.mul_le_mul_left q (show b + 1 ≤ a by omega)
      rw [Nat.mul_add] at this
      omega
theorem digs_lex (k n m : Nat) (hn : n < 256 ^ k) (hm : m < 256 ^ k) : lexB (digs n k) (digs m k) = decide (n < m) := by
  induction k generalizing n m with
  | zero => simp at hn hm; subst hn; subst hm; rfl
  | succ k ih =>
    have hp : 0 < 256 ^ k := Nat.pow_pos (by omega)
    have low : ∀ j x, j ≤ k → digs (x % 256 ^ k) j = digs x j := by
      intro j x hj
      induction j with
      | zero => rfl
      | succ j ihj =>
        simp only [digs]
        rw [ihj (by omega)]
        congr 2
        have e : 256 ^ k = 256 ^ j * (256 * 256 ^ (k - j - 1)) := by
          rw [Nat.mul_comm 256, ← Nat.pow_succ, ← Nat.pow_add]; congr 1; omega
        rw [e, Nat.mod_mul_right_div_self, Nat.mod_mul_right_mod]
    simp only [digs, lexB]
    have hn1 : n / 256 ^ k < 256 := by rw [Nat.div_lt_iff_lt_mul hp, Nat.mul_comm]; rwa [Nat.pow_succ] at hn
    have hm1 : m / 256 ^ k < 256 := by rw [Nat.div_lt_iff_lt_mul hp, Nat.mul_comm]; rwa [Nat.pow_succ] at hm
    rw [Nat.mod_eq_of_lt hn1, Nat.mod_eq_of_lt hm1, ← low k n (Nat.le_refl _), ← low k m (Nat.le_refl _), ih _ _ (Nat.mod_lt _ hp) (Nat.mod_lt _ hp)]
    rw [two_digits (256 ^ k) (n / 256 ^ k) (m / 256 ^ k) _ _ (Nat.mod_lt n hp) (Nat.mod_lt m hp), Nat.div_add_mod, Nat.div_add_mod]
/-- P1.1: the lesser number's bytes stand ahead. -/
theorem numB_lex (n m : Nat) (hn : n < 18446744073709551616) (hm : m < 18446744073709551616) : lexB (numB n) (numB m) = decide (n < m) := by
  have an := blen_lt 8 n (by simpa using hn)
  have am := blen_lt 8 m (by simpa using hm)
  have key : ∀ x y : Nat, x < 18446744073709551616 → y < 18446744073709551616 → blen 8 x < blen 8 y → x < y := by
    intro x y hx hy h
    have ax := blen_lt 8 x (by simpa using hx)
    have y0 : y ≠ 0 := by rintro rfl; rw [blen_zero] at h; omega
    have ay := (blen_ge 8 y y0 (by simpa using hy)).2
    have := Nat.pow_le_pow_right (show 0 < 256 by omega) (show blen 8 x ≤ blen 8 y - 1 by omega)
    omega
  unfold numB be
  simp only [lexB]
  rcases Nat.lt_trichotomy (blen 8 n) (blen 8 m) with h | h | h
  · have := key n m hn hm h
    have h' : (blen 8 n : Int) < blen 8 m := by omega
    simp [h', this]
  · rw [h]
    rw [h] at an
    simp [digs_lex _ n m an am]
  · have := key m n hm hn h
    have h' : ¬ (blen 8 n : Int) < blen 8 m := by omega
    have h'' : ¬ (blen 8 n : Int) = blen 8 m := by omega
    have h3 : ¬ n < m := by omega
    rw [show ((blen 8 n : Int) == (blen 8 m : Int)) = false from beq_eq_false_iff_ne.2 h'']
    simp [h', h3]
theorem numB_inj (n m : Nat) (hn : n < 18446744073709551616) (hm : m < 18446744073709551616) (h : numB n = numB m) : n = m := by
  have h1 := numB_lex n m hn hm
  have h2 := numB_lex m n hm hn
  rw [h, lexB_irrefl] at h1
  rw [← h, lexB_irrefl] at h2
  simp at h1 h2
  omega
theorem lexB_bytes (x y : List Int) (hx : Byt x) (hy : Byt y) : Op.bytesLess (strOfNums x).data.toList (strOfNums y).data.toList = lexB x y := by
  rw [strOfNums_data, strOfNums_data]
  induction x generalizing y with
  | nil => cases y <;> rfl
  | cons a s ih =>
    cases y with
    | nil => rfl
    | cons b t =>
      have ha := hx a List.mem_cons_self
      have hb := hy b List.mem_cons_self
      simp only [List.map_cons, Op.bytesLess, lexB]
      rw [ih t (fun z hz => hx z (List.mem_cons_of_mem _ hz)) (fun z hz => hy z (List.mem_cons_of_mem _ hz))]
      have e1 : decide (UInt8.ofNat a.toNat < UInt8.ofNat b.toNat) = decide (a < b) := by
        rw [Bool.eq_iff_iff]
        simp only [decide_eq_true_eq, UInt8.lt_iff_toNat_lt, UInt8.toNat_ofNat']
        omega
      have e2 : (UInt8.ofNat a.toNat == UInt8.ofNat b.toNat) = (a == b) := by
        rw [Bool.eq_iff_iff]
        simp only [beq_iff_eq]
        constructor
        · intro h
          have := congrArg UInt8.toNat h
          simp only [UInt8.toNat_ofNat'] at this
          omega
        · rintro rfl; rfl
      rw [e1, e2]
end Go.Proofs.Ythdeappjankmmaa
