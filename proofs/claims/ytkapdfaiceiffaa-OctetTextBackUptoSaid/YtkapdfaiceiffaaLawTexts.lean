/- The walk of the law OctetTexts. -/
import Derived.Test.YtkapdfaiceiffaaOne
import Derived.Test.YtkapdfaiceiffaaOpen
import Derived.Deep.RegionWith
namespace Go.Proofs.Ytkapdfaiceiffaa
open Go.RowKit

theorem textB_ab : numB 2 ++ bytes ⟨#[97, 98]⟩ = [1, 2, 97, 98] := by decide +kernel
theorem str_ab : ((strOfNums [1, 2, 97, 98]).toList == [1, 2, 97, 98]) = true := by decide +kernel

set_option maxHeartbeats 1000000 in
theorem octetTexts_row (w : World) (s : ByteArray) (hs : s.size ≤ 140737488351232) :
    Calls Try.prog 6 #[.string s] w fun e w' => e = .returned (.bool true) ∧ Below w.heap.size w w' := by
  have c0 : ∀ w, Calls Try.prog 17 #[.string ⟨#[97, 98]⟩] w fun e w' => ∃ v, e = .returned v ∧ Own8 w' w.heap.size v [1, 2, 97, 98] ∧ Below w.heap.size w w' := by
    intro w
    have := text_any ⟨#[97, 98]⟩ (by decide) w
    rw [show (⟨#[97, 98]⟩ : ByteArray).size = 2 from rfl, textB_ab] at this
    exact this
  have C0 := Lib.hid c0
  clear c0
  obtain ⟨l, hl⟩ : ∃ l, numB s.size ++ bytes s = l := ⟨_, rfl⟩
  have C1 := Lib.hid (fun w => hl ▸ text_any s hs w)
  have C2 := Lib.hid (fun w => hl ▸ refText_any s hs w)
  clear hl hs
  have e1 := str_ab
  go_enter Try.func6, Try.ntmps6
  go_wp2_with fail
  go_region_with (first
    | (go_at_call_of 17 (s); refine (C1.out _).mono ?_; rintro e w2 ⟨v, rfl, ho, hB2⟩; obtain ⟨A, c, rfl, _, _, hr⟩ := own_open ho; have hcv := conv_str w2 _ A _ c _ hr)
    | (go_at_call 17; refine (C0.out _).mono ?_; rintro e w1 ⟨v0, rfl, ho0, hB1⟩; obtain ⟨A0, c0, rfl, _, _, hr0⟩ := own_open ho0; have hcv0 := conv_str w1 _ A0 4 c0 _ hr0)
    | (go_at_call 18; refine (C2.out _).mono ?_; rintro e w3 ⟨v2, rfl, ho2, hB3⟩; obtain ⟨A2, c2, rfl, _, _, hr2⟩ := own_open ho2; have hcv2 := conv_str w3 _ A2 _ c2 _ hr2; have hcv3 := conv_str w3 _ A _ c _ (hr.below hB3)))
  all_goals
    go_wp2
    go_ret
    have hb1 : Below w.heap.size w w1 := (Below.refl w.heap.size w).drew.trans hB1
    exact ⟨rfl, below_then (below_then hb1 hb1.size hB2) (Nat.le_trans hb1.size hB2.size) hB3⟩
end Go.Proofs.Ytkapdfaiceiffaa
