/- The walk of the law OctetNums. -/
import Derived.Test.YtkapdfaiceiffaaOne
import Derived.Deep.RegionWith
import Derived.Test.YtkapdfaiceiffaaOpen
namespace Go.Proofs.Ytkapdfaiceiffaa
open Go.RowKit

set_option maxHeartbeats 1000000 in
theorem octetNums_walk (n : Nat) (hn : n < 18446744073709551616) (w : World) :
    Calls Try.prog 4 #[.int .u64 n] w fun e w' => e = .returned (.bool true) ∧ Below w.heap.size w w' := by
  obtain ⟨l, hl⟩ : ∃ l, numB n = l := ⟨_, rfl⟩
  have C1 := Lib.hid (fun w => hl ▸ num_any n hn w)
  have C2 := Lib.hid (fun w => hl ▸ refNum_any n hn w)
  clear hl
  go_enter Try.func4, Try.ntmps4
  go_wp2_with fail
  go_region_with (first
    | (go_at_call 14; refine (one_any _).mono ?_; rintro e w1 ⟨rfl, hB1⟩)
    | (go_at_call 15; refine (C1.out _).mono ?_; rintro e w2 ⟨v, rfl, ho, hB2⟩; obtain ⟨A, c, rfl, _, _, hr⟩ := own_open ho; have hcv := conv_str w2 _ A _ c _ hr)
    | (go_at_call 16; refine (C2.out _).mono ?_; rintro e w3 ⟨v2, rfl, ho2, hB3⟩; obtain ⟨A2, c2, rfl, _, _, hr2⟩ := own_open ho2; have hcv2 := conv_str w3 _ A2 _ c2 _ hr2; have hcv3 := conv_str w3 _ A _ c _ (hr.below hB3)))
  all_goals
    go_wp2
    go_ret
    have hb1 : Below w.heap.size w w1 := (Below.refl w.heap.size w).drew.trans hB1
    exact ⟨rfl, below_then (below_then hb1 hb1.size hB2) (Nat.le_trans hb1.size hB2.size) hB3⟩

theorem octetNums_row (a : Int) (h : (Lit.int .u64 a).wf = true) (w : World) :
    Calls Try.prog 4 #[.int .u64 a] w fun e w' => e = .returned (.bool true) ∧ Below w.heap.size w w' := by
  obtain ⟨n, rfl, hn⟩ := nat_u64 h
  exact octetNums_walk n hn w
end Go.Proofs.Ytkapdfaiceiffaa
