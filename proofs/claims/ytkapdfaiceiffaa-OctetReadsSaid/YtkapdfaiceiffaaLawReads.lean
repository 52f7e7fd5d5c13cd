/- The walk of the law OctetReads. -/
import Derived.Test.YtkapdfaiceiffaaOne
import Derived.Test.YtkapdfaiceiffaaOpen
namespace Go.Proofs.Ytkapdfaiceiffaa
open Go.RowKit

set_option maxHeartbeats 1000000 in
theorem octetReads_row (w : World) {v : Value} (z : OpenB w v) :
    Calls Try.prog 3 #[v] w fun e w' => e = .returned (.bool true) ∧ Below w.heap.size w w' := by
  obtain ⟨A, c, l, rfl, h, hs⟩ := z
  have hl := h.byt
  obtain ⟨r, hr⟩ : ∃ r, readN l = r := ⟨_, rfl⟩
  have C1 := Lib.hid (fun A c w h => hr ▸ readNum_any A c l w h)
  have C2 := Lib.hid (fun A c w h => hr ▸ refReadNum_any A c l w h)
  clear hr
  have h77 : readN [2, 1, 0, 119] = (256, 3, 0) := by decide
  have C3 := Lib.hid (fun A c w h => h77 ▸ readNum_any A c [2, 1, 0, 119] w h)
  clear h77
  have H := Lib.hid h
  have HR := Lib.hid h.reads
  clear h
  go_enter Try.func3, Try.ntmps3
  go_wp2_with (at_builtin; refine app_own (w0 := w) w.heap.size rfl _ _ 22 5 (.int .u8 0) 1 rfl Try.underlying22 1 info_u8 rfl (by omega) (by omega) (.slice none 0 0) [] 0 rfl _ _ _ _ (u8s l) rfl (own_nil _ _ _ _) HR.out (u8s_one_cell l) (Below.refl _ _) (Nat.le_refl _) (by omega) ?_; intro v1 w1 ho1 hB1 _ _)
  have hown : Own8 w1 w.heap.size v1 l := by simpa [Own8] using ho1
  clear ho1 HR
  obtain ⟨A1, c1, rfl, hin1⟩ := In8.own hown hl (by omega)
  have HN := Lib.hid hin1
  have HN2 := Lib.hid (H.out.keep hB1)
  clear hin1 hown H
  go_wp2_with fail
  refine (C1.out _ _ _ HN.out).mono ?_
  rintro e w2 ⟨rfl, hw⟩
  obtain rfl := hw.symm
  go_wp2_with fail
  refine (C2.out _ _ _ HN2.out).mono ?_
  rintro e w2 ⟨rfl, hw⟩
  obtain rfl := hw.symm
  have HL := Lib.hid (In8.lit w1 [2, 1, 0, 119] (by unfold Byt; decide) (by simp) #[.int .u8 2, .int .u8 1, .int .u8 0, .int .u8 119] (4, 5) rfl)
  have kc := fun (w : World) (C : Array Value) (n c : Nat) => Lib.run_convert_bytes_const (P := Try.prog) w 22 5 C n c Try.underlying22 Try.underlying5
  go_wp2_with fail
  refine (C3.out _ _ _ HL.out).mono ?_
  rintro e w2 ⟨rfl, hw⟩
  obtain rfl := hw.symm
  have hbb : Below w1.heap.size w1 (w1.alloc (.cells #[.int .u8 2, .int .u8 1, .int .u8 0, .int .u8 119] 5 (4, 5))) := (Below.refl _ _).alloc (Nat.le_refl _) _
  have hcv1 := conv_str _ _ A1 _ c1 _ (HN.out.keep hbb).reads
  have hcv2 := conv_str _ _ A _ c _ (HN2.out.keep hbb).reads
  have HB := Lib.hid (below_then hB1 hB1.size hbb)
  clear hbb hB1
  go_wp2
  go_ret
  exact ⟨rfl, HB.out⟩
end Go.Proofs.Ytkapdfaiceiffaa
