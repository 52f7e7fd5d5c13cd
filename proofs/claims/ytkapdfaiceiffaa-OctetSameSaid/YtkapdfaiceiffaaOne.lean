/- The walk of layer 1's examples (law 'one'). -/
import Derived.Test.YtkapdfaiceiffaaText
namespace Go.Proofs.Ytkapdfaiceiffaa
open Go.RowKit

theorem numB_256 : numB 256 = [2, 1, 0] := by decide
theorem numB_0 : numB 0 = [0] := by decide
theorem str_256 : ((strOfNums [2, 1, 0]).toList == [2, 1, 0]) = true := by decide +kernel
theorem str_0 : ((strOfNums [0]).toList == [0]) = true := by decide +kernel

set_option maxHeartbeats 1000000 in
theorem one_any (w : World) : Calls Try.prog 14 #[] w fun e w' => e = .returned (.bool true) ∧ Below w.heap.size w w' := by
  have h1 : Calls Try.prog 15 #[.int .u64 256] w fun e w' => ∃ v, e = .returned v ∧ Own8 w' w.heap.size v (numB 256) ∧ Below w.heap.size w w' := num_any 256 (by omega) w
  rw [numB_256] at h1
  have H1 := Lib.hid h1
  clear h1
  go_enter Try.func14, Try.ntmps14
  go_wp2_with fail
  refine H1.out.mono ?_
  rintro e w1 ⟨v, rfl, ho, hB⟩
  clear H1
  obtain ⟨A, c, rfl, hc1, hc2, hr⟩ := own_open ho
  have hcv := conv_str w1 _ A 3 c _ hr
  have h2 : Calls Try.prog 15 #[.int .u64 0] w1 fun e w' => ∃ v, e = .returned v ∧ Own8 w' w1.heap.size v (numB 0) ∧ Below w1.heap.size w1 w' := num_any 0 (by omega) w1
  rw [numB_0] at h2
  have H2 := Lib.hid h2
  clear h2 ho hr
  have e1 := str_256
  have e2 := str_0
  go_wp2_with fail
  refine H2.out.mono ?_
  rintro e w2 ⟨v2, rfl, ho2, hB2⟩
  clear H2 hcv
  obtain ⟨A2, c2, rfl, _, _, hr2⟩ := own_open ho2
  have hcv2 := conv_str w2 _ A2 1 c2 _ hr2
  clear ho2 hr2
  go_wp2
  go_ret
  exact ⟨rfl, below_then hB hB.size hB2⟩
end Go.Proofs.Ytkapdfaiceiffaa
