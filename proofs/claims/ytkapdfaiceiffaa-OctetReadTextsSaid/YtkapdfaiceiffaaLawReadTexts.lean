/- The walk of the law OctetReadTexts. -/
import Derived.Test.YtkapdfaiceiffaaOne
import Derived.Test.YtkapdfaiceiffaaOpen
namespace Go.Proofs.Ytkapdfaiceiffaa
open Go.RowKit

theorem readT_ab : readT [1, 2, 97, 98, 99] 2 = (⟨#[97, 98]⟩, 4, 0) := by decide +kernel
theorem toList_ab : ((⟨#[97, 98]⟩ : ByteArray).toList == [97, 98]) = true := by decide +kernel

set_option maxHeartbeats 1000000 in
theorem octetReadTexts_row (w : World) {v : Value} (z : OpenB w v) (most : Int) (hm : (Lit.int .i64 most).wf = true) :
    Calls Try.prog 7 #[v, .int .i64 most] w fun e w' => e = .returned (.bool true) ∧ Below w.heap.size w w' := by
  obtain ⟨A, c, l, rfl, h, hs⟩ := z
  have hl := h.byt
  have hm2 := wf_i64 hm
  obtain ⟨r, hr⟩ : ∃ r, readT l most = r := ⟨_, rfl⟩
  have C1 := Lib.hid (fun A c w h => hr ▸ readText_any A c l most (by omega) (by omega) w h)
  have C2 := Lib.hid (fun A c w h => hr ▸ refReadText_any A c l most (by omega) (by omega) w h)
  clear hr hm hm2
  have h77 := readT_ab
  have C3 := Lib.hid (fun A c w h => h77 ▸ readText_any A c [1, 2, 97, 98, 99] 2 (by omega) (by omega) w h)
  clear h77
  have H := Lib.hid h
  have HR := Lib.hid h.reads
  clear h
  have eab := toList_ab
  go_enter Try.func7, Try.ntmps7
  go_wp2_with (at_builtin; refine app_own (w0 := w) w.heap.size rfl _ _ 22 5 (.int .u8 0) 1 rfl Try.underlying22 1 info_u8 rfl (by omega) (by omega) (.slice none 0 0) [] 0 rfl _ _ _ _ (u8s l) rfl (own_nil _ _ _ _) HR.out (u8s_one_cell l) (Below.refl _ _) (Nat.le_refl _) (by omega) ?_; intro v1 w1 ho1 hB1 _ _)
  have hown : Own8 w1 w.heap.size v1 l := by simpa [Own8] using ho1
  clear ho1 HR
  obtain ⟨A1, c1, rfl, hin1⟩ := In8.own hown hl (by omega)
  have HN := Lib.hid hin1
  have HN2 := Lib.hid (H.out.keep hB1)
  clear hin1 hown H
  go_wp2_with fail
  refine (C1.out _ _ _ HN.out).mono ?_
  rintro e w2 ⟨rfl, hw⟩
  obtain rfl := hw.symm
  go_wp2_with fail
  refine (C2.out _ _ _ HN2.out).mono ?_
  rintro e w2 ⟨rfl, hw⟩
  obtain rfl := hw.symm
  have HL := Lib.hid (In8.lit w1 [1, 2, 97, 98, 99] (by unfold Byt; decide) (by simp) #[.int .u8 1, .int .u8 2, .int .u8 97, .int .u8 98, .int .u8 99] (5, 6) rfl)
  have kc := fun (w : World) (C : Array Value) (n c : Nat) => Lib.run_convert_bytes_const (P := Try.prog) w 22 5 C n c Try.underlying22 Try.underlying5
  go_wp2_with fail
  refine (C3.out _ _ _ HL.out).mono ?_
  rintro e w2 ⟨rfl, hw⟩
  obtain rfl := hw.symm
  have hbb : Below w1.heap.size w1 (w1.alloc (.cells #[.int .u8 1, .int .u8 2, .int .u8 97, .int .u8 98, .int .u8 99] 5 (5, 6))) := (Below.refl _ _).alloc (Nat.le_refl _) _
  have hcv1 := conv_str _ _ A1 _ c1 _ (HN.out.keep hbb).reads
  have hcv2 := conv_str _ _ A _ c _ (HN2.out.keep hbb).reads
  have HB := Lib.hid (below_then hB1 hB1.size hbb)
  clear hbb hB1
  go_wp2
  go_ret
  exact ⟨rfl, HB.out⟩
end Go.Proofs.Ytkapdfaiceiffaa
