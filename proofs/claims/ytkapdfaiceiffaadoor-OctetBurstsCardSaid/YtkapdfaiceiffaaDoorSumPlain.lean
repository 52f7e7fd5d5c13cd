/- The plain mathematics of the sum (P1.4): one bit, four bits by the table, eight; it is linear; a burst of bits within 32 is never lost. -/
import Derived.Test.YtkapdfaiceiffaaDoorOctPlain
namespace Go.Proofs.YtkapdfaiceiffaaDoor
open Go.RowKit

/-- One bit of the sum. -/
def stp (r : BitVec 32) : BitVec 32 := (r <<< 1) ^^^ (if r.msb then 0x04c11db7#32 else 0#32)
/-- So many. -/
def stpN : Nat → BitVec 32 → BitVec 32
  | 0, r => r
  | n + 1, r => stpN n (stp r)
theorem stp_zero : stp 0#32 = 0#32 := by decide
theorem stp_xor (a b : BitVec 32) : stp (a ^^^ b) = stp a ^^^ stp b := by
  unfold stp
  rw [BitVec.shiftLeft_xor_distrib, BitVec.msb_xor]
  cases a.msb <;> cases b.msb <;> simp [BitVec.xor_assoc]
  · rw [BitVec.xor_comm (b <<< 1)]
  · rw [BitVec.xor_comm 79764919#32, BitVec.xor_assoc, BitVec.xor_self, BitVec.xor_zero]
theorem stpN_zero (n : Nat) : stpN n 0#32 = 0#32 := by induction n <;> simp [stpN, stp_zero, *]
theorem stpN_xor (n : Nat) (a b : BitVec 32) : stpN n (a ^^^ b) = stpN n a ^^^ stpN n b := by
  induction n generalizing a b with
  | zero => rfl
  | succ n ih => simp only [stpN, stp_xor, ih]
theorem stpN_add (m n : Nat) (r : BitVec 32) : stpN (m + n) r = stpN n (stpN m r) := by
  induction m generalizing r with
  | zero => simp [stpN]
  | succ m ih => rw [Nat.add_right_comm, stpN, ih]; rfl
/-- Nothing is lost. -/
theorem stp_ne (r : BitVec 32) (h : stp r = 0#32) : r = 0#32 := by
  unfold stp at h
  have hb : ∀ i, (r <<< 1 ^^^ (if r.msb then 0x04c11db7#32 else 0#32)).getLsbD i = false := by intro i; rw [h]; simp
  have h0 := hb 0
  rw [BitVec.getLsbD_xor] at h0
  simp only [BitVec.getLsbD_shiftLeft] at h0
  have hm : r.msb = false := by
    cases hm : r.msb with
    | false => rfl
    | true => rw [hm] at h0; simp at h0
  rw [hm] at hb
  simp only [Bool.false_eq_true, if_false, BitVec.xor_zero] at hb
  apply BitVec.eq_of_getLsbD_eq
  intro i hi
  rw [BitVec.getLsbD_zero]
  by_cases h31 : i = 31
  · subst h31
    rw [← hm]
    rfl
  · have := hb (i + 1)
    rw [BitVec.getLsbD_shiftLeft] at this
    simpa [show i + 1 < 32 by omega] using this
theorem stpN_ne (n : Nat) (r : BitVec 32) (h : stpN n r = 0#32) : r = 0#32 := by
  induction n generalizing r with
  | zero => exact h
  | succ n ih => exact stp_ne r (ih _ h)

/-- The table. -/
def tab : List Int := [0, 79764919, 159529838, 222504665, 319059676, 398814059, 445009330, 507990021, 638119352, 583659535, 797628118, 726387553, 890018660, 835552979, 1015980042, 944750013]
theorem tab_hi : ∀ k : Fin 16, stpN 4 (BitVec.ofNat 32 (k.val * 268435456)) = BitVec.ofNat 32 (tab.getD k.val 0).toNat := by decide +kernel
theorem stpN_low (lo : BitVec 32) (h : lo.toNat < 268435456) : stpN 4 lo = lo <<< 4 := by
  have key : ∀ x : BitVec 32, x.toNat < 2147483648 → stp x = x <<< 1 := by
    intro x hx
    unfold stp
    have : x.msb = false := by rw [BitVec.msb_eq_false_iff_two_mul_lt]; omega
    rw [this]; simp
  have d : ∀ x : BitVec 32, x.toNat < 2147483648 → (x <<< 1).toNat = 2 * x.toNat := by
    intro x hx
    rw [BitVec.toNat_shiftLeft, Nat.shiftLeft_eq]
    omega
  have e1 := key lo (by omega)
  have d1 := d lo (by omega)
  have e2 := key (lo <<< 1) (by omega)
  have d2 := d (lo <<< 1) (by omega)
  have e3 := key (lo <<< 1 <<< 1) (by omega)
  have d3 := d (lo <<< 1 <<< 1) (by omega)
  have e4 := key (lo <<< 1 <<< 1 <<< 1) (by omega)
  simp only [stpN]
  rw [e1, e2, e3, e4]
  simp only [← BitVec.shiftLeft_add]
/-- Four bits by the table. -/
theorem stpN_four (r : BitVec 32) : stpN 4 r = (r <<< 4) ^^^ BitVec.ofNat 32 (tab.getD (r >>> 28).toNat 0).toNat := by
  have hk : (r >>> 28).toNat < 16 := by
    rw [BitVec.toNat_ushiftRight, Nat.shiftRight_eq_div_pow]; have := r.isLt; omega
  have hsplit : r = BitVec.ofNat 32 ((r >>> 28).toNat * 268435456) ^^^ BitVec.ofNat 32 (r.toNat % 268435456) := by
    apply BitVec.eq_of_toNat_eq
    rw [BitVec.toNat_xor, BitVec.toNat_ofNat, BitVec.toNat_ofNat, BitVec.toNat_ushiftRight, Nat.shiftRight_eq_div_pow]
    have hr := r.isLt
    have e1 : r.toNat / 2 ^ 28 * 268435456 % 2 ^ 32 = 2 ^ 28 * (r.toNat / 2 ^ 28) := by omega
    have e2 : r.toNat % 268435456 % 2 ^ 32 = r.toNat % 2 ^ 28 := by omega
    rw [e1, e2]
    have hlt : r.toNat % 2 ^ 28 < 2 ^ 28 := Nat.mod_lt _ (by omega)
    have h1 := Nat.two_pow_add_eq_or_of_lt hlt (r.toNat / 2 ^ 28)
    have h2 : 2 ^ 28 * (r.toNat / 2 ^ 28) ^^^ r.toNat % 2 ^ 28 = 2 ^ 28 * (r.toNat / 2 ^ 28) ||| r.toNat % 2 ^ 28 := by
      apply Nat.eq_of_testBit_eq
      intro i
      rw [Nat.testBit_xor, Nat.testBit_or, Nat.testBit_two_pow_mul, Nat.testBit_mod_two_pow]
      by_cases hi : i < 28
      · simp [hi, show ¬ (28 ≤ i) by omega]
      · simp [hi]
    rw [h2, ← h1, Nat.div_add_mod]
  have hlow : (BitVec.ofNat 32 (r.toNat % 268435456)).toNat < 268435456 := by rw [BitVec.toNat_ofNat]; omega
  have hsh : r <<< 4 = BitVec.ofNat 32 (r.toNat % 268435456) <<< 4 := by
    apply BitVec.eq_of_toNat_eq
    rw [BitVec.toNat_shiftLeft, BitVec.toNat_shiftLeft, BitVec.toNat_ofNat, Nat.shiftLeft_eq, Nat.shiftLeft_eq]
    omega
  rw [hsh]
  conv => lhs; rw [hsplit]
  rw [stpN_xor, stpN_low _ hlow, BitVec.xor_comm]
  congr 1
  exact tab_hi ⟨_, hk⟩

/-- A byte's place in the word. -/
def top8 (c : Int) : BitVec 32 := BitVec.ofNat 32 c.toNat <<< 24
/-- The sum's word behind some bytes. -/
def crc (r : BitVec 32) (l : List Int) : BitVec 32 := l.foldl (fun r c => stpN 8 (r ^^^ top8 c)) r
theorem crc_nil (r : BitVec 32) : crc r [] = r := rfl
theorem crc_cons (r : BitVec 32) (c : Int) (l : List Int) : crc r (c :: l) = crc (stpN 8 (r ^^^ top8 c)) l := rfl
theorem crc_snoc (r : BitVec 32) (l : List Int) (c : Int) : crc r (l ++ [c]) = stpN 8 (crc r l ^^^ top8 c) := by
  simp [crc, List.foldl_append]
theorem crc_append (r : BitVec 32) (l m : List Int) : crc r (l ++ m) = crc (crc r l) m := by
  simp [crc, List.foldl_append]
/-- P1.4. -/
def sumB (l : List Int) : BitVec 32 := ~~~ (crc (BitVec.allOnes 32) l)
/-- What is put in front goes on alone. -/
theorem crc_xor (l : List Int) (r d : BitVec 32) : crc (r ^^^ d) l = crc r l ^^^ stpN (8 * l.length) d := by
  induction l generalizing r d with
  | nil => simp [crc, stpN]
  | cons c l ih =>
    rw [crc_cons, crc_cons]
    have : r ^^^ d ^^^ top8 c = (r ^^^ top8 c) ^^^ d := by rw [BitVec.xor_assoc, BitVec.xor_comm d, ← BitVec.xor_assoc]
    rw [this, stpN_xor, ih, List.length_cons, show 8 * (l.length + 1) = 8 + 8 * l.length by omega, stpN_add]
/-- One bit of one byte, the highest first, turned. -/
def bit8 (j : Nat) : Nat := 128 / 2 ^ j
theorem top8_xor (a b : Nat) : top8 ((a ^^^ b : Nat) : Int) = top8 a ^^^ top8 b := by
  unfold top8
  rw [Int.toNat_natCast, Int.toNat_natCast, Int.toNat_natCast, ← BitVec.shiftLeft_xor_distrib]
  congr 1
  apply BitVec.eq_of_toNat_eq
  rw [BitVec.toNat_xor, BitVec.toNat_ofNat, BitVec.toNat_ofNat, BitVec.toNat_ofNat, Nat.xor_mod_two_pow]
theorem bit8_stp : ∀ j : Fin 8, stpN 8 (top8 (bit8 j.val : Int)) = stpN (8 - j.val) 0x80000000#32 := by decide +kernel
/-- The byte with the bit p turned. -/
def flip (l : List Int) (p : Nat) : List Int := l.set (p / 8) (((l.getD (p / 8) 0).toNat ^^^ bit8 (p % 8) : Nat) : Int)
theorem flip_length (l : List Int) (p : Nat) : (flip l p).length = l.length := by simp [flip]
theorem crc_flip (l : List Int) (hl : Byt l) (r : BitVec 32) (p : Nat) (hp : p < 8 * l.length) : crc r (flip l p) = crc r l ^^^ stpN (8 * l.length - p) 0x80000000#32 := by
  have hq : p / 8 < l.length := by omega
  obtain ⟨pre, c, post, rfl, hpre⟩ : ∃ pre c post, l = pre ++ c :: post ∧ pre.length = p / 8 :=
    ⟨l.take (p / 8), l[p / 8], l.drop (p / 8 + 1), by rw [← List.drop_eq_getElem_cons hq, List.take_append_drop], by rw [List.length_take]; omega⟩
  have hc := hl c (by simp)
  obtain ⟨m, rfl⟩ := Int.eq_ofNat_of_zero_le hc.1
  have e1 : flip (pre ++ (m : Int) :: post) p = pre ++ ((m ^^^ bit8 (p % 8) : Nat) : Int) :: post := by
    unfold flip
    rw [← hpre]
    simp
  rw [e1, crc_append, crc_append, crc_cons, crc_cons, top8_xor, ← BitVec.xor_assoc, stpN_xor, crc_xor]
  congr 1
  have hj := bit8_stp ⟨p % 8, by omega⟩
  simp only at hj
  rw [hj, ← stpN_add]
  congr 1
  simp only [List.length_append, List.length_cons]
  omega
theorem flip_byt (l : List Int) (hl : Byt l) (p : Nat) : Byt (flip l p) := by
  intro x hx
  unfold flip at hx
  rcases List.mem_or_eq_of_mem_set hx with h | h
  · exact hl x h
  · subst h
    have hb : (l.getD (p / 8) 0).toNat < 2 ^ 8 := by
      rw [List.getD_eq_getElem?_getD]
      rcases Nat.lt_or_ge (p / 8) l.length with h | h
      · rw [List.getElem?_eq_getElem h]
        have := hl.get h
        simp only [Option.getD_some]
        omega
      · rw [List.getElem?_eq_none h]
        simp
    have hb2 : bit8 (p % 8) < 2 ^ 8 := by
      unfold bit8
      have := Nat.div_le_self 128 (2 ^ (p % 8))
      omega
    have := Nat.xor_lt_two_pow hb hb2
    omega
/-- The bits of a burst from the highest on: so many. -/
def tops (b : BitVec 32) : Nat → BitVec 32
  | 0 => 0#32
  | k + 1 => tops b k ^^^ (if b.getLsbD (31 - k) then BitVec.ofNat 32 (2 ^ (31 - k)) else 0#32)
theorem pow_stp : ∀ k : Fin 32, stpN k.val (BitVec.ofNat 32 (2 ^ (31 - k.val))) = 0x80000000#32 := by decide +kernel
theorem stp_pow (n k : Nat) (hk : k < 32) (hn : k ≤ n) : stpN (n - k) 0x80000000#32 = stpN n (BitVec.ofNat 32 (2 ^ (31 - k))) := by
  have := pow_stp ⟨k, hk⟩
  simp only at this
  rw [← this, ← stpN_add]
  congr 1
  omega
theorem tops_bit (b : BitVec 32) (k i : Nat) (hk : k ≤ 32) : (tops b k).getLsbD i = (decide (i < 32) && decide (32 - k ≤ i) && b.getLsbD i) := by
  induction k with
  | zero => simp only [tops]; by_cases h : i < 32 <;> simp [h] <;> intro h2 <;> omega
  | succ k ih =>
    simp only [tops, BitVec.getLsbD_xor]
    rw [ih (by omega)]
    have hp : (BitVec.ofNat 32 (2 ^ (31 - k))).getLsbD i = (decide (i < 32) && decide (i = 31 - k)) := by
      rw [BitVec.getLsbD_ofNat, Nat.testBit_two_pow]
      by_cases h1 : i = 31 - k <;> by_cases h2 : i < 32 <;> simp [h1, h2] <;> omega
    by_cases hb : b.getLsbD (31 - k) = true
    · rw [if_pos hb, hp]
      by_cases h1 : i = 31 - k
      · subst h1
        simp [hb, show ¬ (32 - k ≤ 31 - k) by omega]
      · by_cases h2 : i < 32
        · have : (32 - k ≤ i) = (32 - (k + 1) ≤ i) := by rw [eq_iff_iff]; omega
          simp [h1, this]
        · simp [h2]
    · rw [if_neg hb]
      by_cases h1 : i = 31 - k
      · subst h1
        have : b.getLsbD (31 - k) = false := by simpa using hb
        simp [this]
      · by_cases h2 : i < 32
        · have : (32 - k ≤ i) = (32 - (k + 1) ≤ i) := by rw [eq_iff_iff]; omega
          simp [this]
        · simp [h2]
/-- A bit more that is set: there is one. -/
theorem tops_ne (b : BitVec 32) (k : Nat) (hk : k < 32) (h : b.getLsbD (31 - k) = true) : tops b (k + 1) ≠ 0#32 := by
  intro e
  have := tops_bit b (k + 1) (31 - k) (by omega)
  rw [e, h] at this
  simp at this
  omega
theorem tops_keep (b : BitVec 32) (k : Nat) (h : b.getLsbD (31 - k) = false) : tops b (k + 1) = tops b k := by
  simp [tops, h]
end Go.Proofs.YtkapdfaiceiffaaDoor
