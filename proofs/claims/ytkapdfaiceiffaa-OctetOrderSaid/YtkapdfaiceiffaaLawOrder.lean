/- The walk of the law OctetOrder. -/
import Derived.Test.YtkapdfaiceiffaaOne
import Derived.Test.YtkapdfaiceiffaaOpen
import Derived.Test.YtkapdfaiceiffaaOctLaws
namespace Go.Proofs.Ytkapdfaiceiffaa
open Go.RowKit

theorem toList_data (s : ByteArray) : s.toList = s.data.toList := by
  exact ByteArray.toList_eq s
theorem less_numB (n m : Nat) (hn : n < 18446744073709551616) (hm : m < 18446744073709551616) : Op.bytesLess (strOfNums (numB n)).toList (strOfNums (numB m)).toList = decide (n < m) := by
  rw [toList_data, toList_data, lexB_bytes _ _ (numB_byt n) (numB_byt m), numB_lex n m hn hm]
theorem eq_numB (n m : Nat) (hn : n < 18446744073709551616) (hm : m < 18446744073709551616) : ((strOfNums (numB n)).toList == (strOfNums (numB m)).toList) = decide (n = m) := by
  rw [Bool.eq_iff_iff]
  simp only [beq_iff_eq, decide_eq_true_eq]
  constructor
  · intro h
    rw [toList_data, toList_data] at h
    have e : strOfNums (numB n) = strOfNums (numB m) := by
      obtain ⟨⟨a⟩, ha⟩ : ∃ a, strOfNums (numB n) = a := ⟨_, rfl⟩
      obtain ⟨⟨b⟩, hb⟩ : ∃ b, strOfNums (numB m) = b := ⟨_, rfl⟩
      rw [ha, hb] at h ⊢
      exact congrArg ByteArray.mk (Array.ext' h)
    exact numB_inj n m hn hm (str_inj (numB_byt n) (numB_byt m) e)
  · rintro rfl; rfl

set_option maxHeartbeats 1000000 in
theorem octetOrder_walk (w : World) (n m : Nat) (hn : n < 18446744073709551616) (hm : m < 18446744073709551616) :
    Calls Try.prog 5 #[.int .u64 n, .int .u64 m] w fun e w' => e = .returned (.bool true) ∧ Below w.heap.size w w' := by
  have L1 := less_numB n m hn hm
  have L2 := eq_numB n m hn hm
  obtain ⟨x, hx⟩ : ∃ x, numB n = x := ⟨_, rfl⟩
  obtain ⟨y, hy⟩ : ∃ y, numB m = y := ⟨_, rfl⟩
  have C1 := Lib.hid (fun w => hx ▸ num_any n hn w)
  have C2 := Lib.hid (fun w => hy ▸ num_any m hm w)
  rw [hx, hy] at L1 L2
  clear hx hy hn hm
  obtain ⟨a, ha⟩ : ∃ a, strOfNums x = a := ⟨_, rfl⟩
  obtain ⟨b, hb⟩ : ∃ b, strOfNums y = b := ⟨_, rfl⟩
  rw [ha, hb] at L1 L2
  have HA := Lib.hid ha
  have HB := Lib.hid hb
  clear ha hb
  have E1 : decide (n < m) = decide ((n : Int) < (m : Int)) := by rw [Bool.eq_iff_iff]; simp
  have E2 : decide (n = m) = ((n : Int) == (m : Int)) := by
    rw [Bool.eq_iff_iff]; simp only [decide_eq_true_eq, beq_iff_eq]; omega
  rw [E1] at L1
  rw [E2] at L2
  clear E1 E2
  go_enter Try.func5, Try.ntmps5
  go_wp2_with fail
  refine (C1.out _).mono ?_
  rintro e w1 ⟨v, rfl, ho, hB1⟩
  obtain ⟨A1, c1, rfl, _, _, hr1⟩ := own_open ho
  have hcv := HA.out ▸ conv_str w1 _ A1 _ c1 _ hr1
  clear ho hr1
  go_wp2_with fail
  refine (C2.out _).mono ?_
  rintro e w2 ⟨v, rfl, ho, hB2⟩
  clear hcv
  obtain ⟨A2, c2, rfl, _, _, hr2⟩ := own_open ho
  have hcv := HB.out ▸ conv_str w2 _ A2 _ c2 _ hr2
  clear ho hr2
  go_wp2_with fail
  refine (one_any _).mono ?_
  rintro e w3 ⟨rfl, hB3⟩
  clear hcv
  go_wp2
  all_goals (go_ret; exact ⟨rfl, below_then (below_then hB1 hB1.size hB2) (Nat.le_trans hB1.size hB2.size) hB3⟩)
theorem octetOrder_row (w : World) (a : Int) (ha : (Lit.int .u64 a).wf = true) (b : Int) (hb : (Lit.int .u64 b).wf = true) :
    Calls Try.prog 5 #[.int .u64 a, .int .u64 b] w fun e w' => e = .returned (.bool true) ∧ Below w.heap.size w w' := by
  obtain ⟨n, rfl, hn⟩ := nat_u64 ha
  obtain ⟨m, rfl, hm⟩ := nat_u64 hb
  exact octetOrder_walk w n m hn hm
end Go.Proofs.Ytkapdfaiceiffaa
