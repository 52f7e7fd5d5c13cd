/- The walk of octet.Num: whatever 64-bit number, its bytes (numB), in new memory. -/
import Derived.Test.YtadkkhbbempaaaaMem
import Derived.Test.YtadkkhbbempaaaaShelf
namespace Go.Proofs.Ytadkkhbbempaaaa
set_option maxRecDepth 100000
open Go.RowKit

theorem shr_byte (n : Nat) (j : Nat) : (n : Int) / 2 ^ (8 * j) % 256 = ((n / 256 ^ j % 256 : Nat) : Int) := by
  have : (2 : Int) ^ (8 * j) = ((256 ^ j : Nat) : Int) := by
    rw [Int.natCast_pow, Int.pow_mul]; rfl
  rw [this]
  omega

set_option maxHeartbeats 1000000 in
theorem num_any (n : Nat) (hn : n < 18446744073709551616) (w : World) :
    Calls Try.prog 48 #[.int .u64 n] w fun e w' => ∃ v, e = .returned v ∧ Own8 w' w.heap.size v (numB n) ∧ Below w.heap.size w w' := by
  have hbl := bitLen_le n
  have hk8 := blen_le 8 n
  obtain ⟨k, hkk⟩ : ∃ k, blen 8 n = k := ⟨_, rfl⟩
  rw [hkk] at hk8
  have HN : Hid (numB n = (k : Int) :: digs n k) := by unfold numB be; rw [hkk]; exact rfl
  have HK : Hid (((Lib.bitLen n : Int) + 7) / 8 = (k : Int)) := by
    have hk := bitLen_bytes n hn
    show _ = _
    omega
  clear hkk
  obtain ⟨i0, hi, hz0, hz1, hz2⟩ := info_parts info_u8
  have HI := Lib.hid (And.intro hi (And.intro hz0 (And.intro hz1 hz2)))
  clear hi hz0 hz1 hz2
  go_enter Try.func48, Try.ntmps48
  go_wp2_with (go_at_call 84; refine (Try.bits_Len64 n _ (by omega) (by omega)).mono ?_; rintro e w' ⟨rfl, hw⟩; obtain rfl := hw.symm)
  rw [HK.out]
  clear HK hbl
  have HB : Below w.heap.size w (w.alloc (.cells #[.int .u8 (k : Int)] 5)) := (Below.refl _ _).alloc (Nat.le_refl _) _
  go_loopw [4, 5] (fun v i wr => ∃ m : Nat, m ≤ k ∧ i = .int .i64 ((k : Int) - 1 - m) ∧ Own8 wr w.heap.size v ((k : Int) :: (digs n k).take m) ∧ Below w.heap.size w wr) (fun _ i _ => (intOf i + 1).toNat)
  case atStart => exact ⟨0, Nat.zero_le _, by simp, by simpa using own8_one w w.heap.size k (Nat.le_refl _), HB⟩
  case round =>
    clear HB
    obtain ⟨m, hm, rfl, hown, hB⟩ := hrel
    by_cases hlt : m < k
    · have HL : Hid (((k : Int) :: (digs n k).take m).length = m + 1) := by
        show _ = _
        simp [digs_length]; omega
      go_wp2_with (at_builtin; refine push_own (w0 := w) w.heap.size rfl (.tmp 19) (.tmp 26) 75 5 (.int .u8 0) 1 rfl Try.underlying75 info_u8 rfl (by omega) _ (u8s ((k : Int) :: (digs n k).take m)) _ (m + 1) ?q1 rfl rfl rfl ?q2 hB hB.size (by omega) ?_; (case q1 => rw [u8s_length, HL.out]); (case q2 => have q := hown; unfold Own8 at q; rw [HL.out] at q; exact q); intro v1 w1 ho1 hB1 _ _; clear hown hB)
      have R : Own8 w1 w.heap.size v1 ((k : Int) :: (digs n k).take (m + 1)) := by
        rw [digs_take_succ n k m hlt]
        rw [shr_byte] at ho1
        have : ((k : Int) :: ((digs n k).take m ++ [((n / 256 ^ (k - 1 - m) % 256 : Nat) : Int)])).length = m + 1 + 1 := by
          simp [digs_length]; omega
        unfold Own8
        rw [this]
        simpa [u8s] using ho1
      clear ho1
      go_wp2
      go_roundw
      case rel => exact ⟨m + 1, by omega, by go_num, R, hB1⟩
      case measure => simp [intOf]; omega
    · obtain rfl : m = k := by omega
      go_wp2
      go_ret
      have e : (digs n m).take m = digs n m := List.take_of_length_le (by rw [digs_length]; omega)
      rw [e] at hown
      exact ⟨_, rfl, by rw [HN.out]; exact hown, hB⟩
end Go.Proofs.Ytadkkhbbempaaaa
