/- The walk of the law OctetTextBack, where what comes in is small. -/
import Derived.Test.YtkapdfaiceiffaaLawTexts
import Derived.Test.YtkapdfaiceiffaaOctLaws
namespace Go.Proofs.Ytkapdfaiceiffaa
open Go.RowKit

theorem readT_text (s : ByteArray) (hs : s.size ≤ 1048576) (l : List Int) (most : Int) :
    readT (numB s.size ++ bytes s ++ l) most = if (s.size : Int) > most then (ByteArray.empty, 0, 2) else (s, ((numB s.size ++ bytes s).length : Int), 0) := by
  have hr : readN (numB s.size ++ bytes s ++ l) = ((s.size : Int), ((numB s.size).length : Int), 0) := by
    rw [List.append_assoc]; exact readN_numB s.size (by omega) _
  unfold readT
  rw [hr]
  simp only
  rw [if_neg (by simp)]
  by_cases h0 : most < 0
  · rw [if_pos h0, if_pos (by omega)]
  rw [if_neg h0]
  by_cases h1 : (s.size : Int) > most
  · rw [if_pos h1, if_pos h1]
  rw [if_neg h1, if_neg h1, if_neg]
  · rw [Int.toNat_natCast, Int.toNat_natCast, List.append_assoc, List.drop_left, List.take_append_of_le_length (by rw [bytes_length]; omega), List.take_of_length_le (by rw [bytes_length]; omega), str_bytes]
    simp only [Prod.mk.injEq, true_and, and_true]
    rw [List.length_append, bytes_length]
    omega
  · simp only [List.length_append, bytes_length]
    omega

set_option maxHeartbeats 2000000 in
theorem octetTextBack_row (w : World) (s : ByteArray) (hs : s.size ≤ 1048576) {v : Value} (z : OpenB w v) (hv : ∀ A n c, v = .slice A n c → n ≤ 1048576) (most : Int) (hm : (Lit.int .i64 most).wf = true) :
    Calls Try.prog 11 #[.string s, v, .int .i64 most] w fun e w' => e = .returned (.bool true) ∧ Below w.heap.size w w' := by
  obtain ⟨A, c, l, rfl, h, _⟩ := z
  have hl2 := hv _ _ _ rfl
  clear hv
  have hm2 := wf_i64 hm
  have c0 : ∀ w, Calls Try.prog 17 #[.string ⟨#[97, 98]⟩] w fun e w' => ∃ v, e = .returned v ∧ Own8 w' w.heap.size v [1, 2, 97, 98] ∧ Below w.heap.size w w' := by
    intro w
    have := text_any ⟨#[97, 98]⟩ (by decide) w
    rw [show (⟨#[97, 98]⟩ : ByteArray).size = 2 from rfl, textB_ab] at this
    exact this
  have C0 := Lib.hid c0
  clear c0
  have e1 := str_ab
  have hT := readT_text s hs l most
  have hx9 := numB_le s.size
  have hxb := (numB_byt s.size).append (bytes_byt s)
  have hxl : (numB s.size ++ bytes s).length = (numB s.size).length + s.size := by rw [List.length_append, bytes_length]
  have hx1 := numB_pos s.size
  obtain ⟨x, hx⟩ : ∃ x, numB s.size ++ bytes s = x := ⟨_, rfl⟩
  rw [hx] at hT hxb hxl
  have C1 := Lib.hid (fun w => hx ▸ text_any s (by omega) w)
  clear hx
  have C2 := Lib.hid (fun A c w h => readText_any A c (x ++ l) most (by omega) (by omega) w h)
  have hxs : x.length ≤ 1048585 := by omega
  have hxs2 : s.size < x.length := by omega
  clear hxl hx9 hx1 hm
  have HXB := Lib.hid (hxb.append h.byt)
  have HR := Lib.hid h.reads
  clear h hxb
  by_cases hlong : (s.size : Int) > most
  · rw [if_pos hlong] at hT
    rw [hT] at C2
    clear hT
    go_enter Try.func11, Try.ntmps11
    go_wp2_with fail
    refine (C1.out _).mono ?_
    rintro e w1 ⟨v, rfl, ho, hB1⟩
    obtain ⟨Ax, cx, rfl, _, _, hrx⟩ := own_open ho
    have HX := Lib.hid hrx
    clear hrx ho
    go_wp2_with (first
      | (at_builtin; refine app_own (w0 := w1) w1.heap.size rfl (.const (.slice none 0 0)) (.tmp 14) 22 5 (.int .u8 0) 1 rfl Try.underlying22 1 info_u8 rfl (by omega) (by omega) (.slice none 0 0) [] 0 rfl _ _ _ _ (u8s x) rfl (own_nil _ _ _ _) HX.out (u8s_one_cell x) (Below.refl _ _) (Nat.le_refl _) (by omega) ?_; intro v2 w2 ho2 hB2 _ _)
      | (at_builtin; refine app_own (w0 := w1) w1.heap.size rfl (.tmp 15) (.tmp 16) 22 5 (.int .u8 0) 1 rfl Try.underlying22 1 info_u8 rfl (by omega) (by omega) _ _ _ rfl _ _ _ _ (u8s l) rfl ho2 ((HR.out.below hB1).below (hB2.mono hB1.size)) (u8s_one_cell l) hB2 hB2.size (by omega) ?_; intro v3 w3 ho3 hB3 _ _))
    have hown : Own8 w3 w1.heap.size v3 (x ++ l) := by
      unfold Own8
      rw [List.length_append, u8s_append]
      simpa using ho3
    clear ho2 ho3 hB2
    obtain ⟨A3, c3, rfl, hin⟩ := In8.own hown HXB.out (by rw [List.length_append]; omega)
    have HN := Lib.hid hin
    clear hin hown
    refine (C2.out _ _ _ HN.out).mono ?_
    rintro e w4 ⟨rfl, hw⟩
    obtain rfl := hw.symm
    have HB := Lib.hid (below_then hB1 hB1.size hB3)
    have hsz := Nat.le_trans hB1.size hB3.size
    clear hB1 hB3
    go_wp2_with fail
    refine (C0.out _).mono ?_
    rintro e w5 ⟨v5, rfl, ho5, hB5⟩
    obtain ⟨A5, c5, rfl, _, _, hr5⟩ := own_open ho5
    have hcv := conv_str w5 _ A5 4 c5 _ hr5
    clear ho5 hr5
    go_wp2
    go_ret
    exact ⟨rfl, below_then HB.out hsz hB5⟩
  · rw [if_neg hlong] at hT
    rw [hT] at C2
    clear hT
    go_enter Try.func11, Try.ntmps11
    go_wp2_with fail
    refine (C1.out _).mono ?_
    rintro e w1 ⟨v, rfl, ho, hB1⟩
    obtain ⟨Ax, cx, rfl, _, _, hrx⟩ := own_open ho
    have HX := Lib.hid hrx
    clear hrx ho
    go_wp2_with (first
      | (at_builtin; refine app_own (w0 := w1) w1.heap.size rfl (.const (.slice none 0 0)) (.tmp 14) 22 5 (.int .u8 0) 1 rfl Try.underlying22 1 info_u8 rfl (by omega) (by omega) (.slice none 0 0) [] 0 rfl _ _ _ _ (u8s x) rfl (own_nil _ _ _ _) HX.out (u8s_one_cell x) (Below.refl _ _) (Nat.le_refl _) (by omega) ?_; intro v2 w2 ho2 hB2 _ _)
      | (at_builtin; refine app_own (w0 := w1) w1.heap.size rfl (.tmp 15) (.tmp 16) 22 5 (.int .u8 0) 1 rfl Try.underlying22 1 info_u8 rfl (by omega) (by omega) _ _ _ rfl _ _ _ _ (u8s l) rfl ho2 ((HR.out.below hB1).below (hB2.mono hB1.size)) (u8s_one_cell l) hB2 hB2.size (by omega) ?_; intro v3 w3 ho3 hB3 _ _))
    have hown : Own8 w3 w1.heap.size v3 (x ++ l) := by
      unfold Own8
      rw [List.length_append, u8s_append]
      simpa using ho3
    clear ho2 ho3 hB2
    obtain ⟨A3, c3, rfl, hin⟩ := In8.own hown HXB.out (by rw [List.length_append]; omega)
    have HN := Lib.hid hin
    clear hin hown
    refine (C2.out _ _ _ HN.out).mono ?_
    rintro e w4 ⟨rfl, hw⟩
    obtain rfl := hw.symm
    have HB := Lib.hid (below_then hB1 hB1.size hB3)
    have hsz := Nat.le_trans hB1.size hB3.size
    clear hB1 hB3
    go_wp2
    go_ret
    exact ⟨rfl, HB.out⟩
end Go.Proofs.Ytkapdfaiceiffaa
