/- The walk of the law OctetBack. -/
import Derived.Test.YtkapdfaiceiffaaOne
import Derived.Test.YtkapdfaiceiffaaOpen
import Derived.Test.YtkapdfaiceiffaaOctLaws
namespace Go.Proofs.Ytkapdfaiceiffaa
open Go.RowKit

set_option maxHeartbeats 1000000 in
theorem octetBack_walk (w : World) (n : Nat) (hn : n < 18446744073709551616) {v : Value} (z : OpenB w v) :
    Calls Try.prog 8 #[.int .u64 n, v] w fun e w' => e = .returned (.bool true) ∧ Below w.heap.size w w' := by
  obtain ⟨A, c, l, rfl, h, hs⟩ := z
  have hx9 := numB_le n
  have hxb := numB_byt n
  have hR := readN_numB n hn l
  obtain ⟨x, hx⟩ : ∃ x, numB n = x := ⟨_, rfl⟩
  rw [hx] at hR hxb hx9
  have C1 := Lib.hid (fun w => hx ▸ num_any n hn w)
  have C2 := Lib.hid (fun A c w h => hR ▸ readNum_any A c (x ++ l) w h)
  clear hx hR hn
  have HXB := Lib.hid (hxb.append h.byt)
  have HR := Lib.hid h.reads
  clear h
  go_enter Try.func8, Try.ntmps8
  go_wp2_with fail
  refine (C1.out _).mono ?_
  rintro e w1 ⟨v, rfl, ho, hB1⟩
  obtain ⟨Ax, cx, rfl, _, _, hrx⟩ := own_open ho
  have HX := Lib.hid hrx
  have HO := Lib.hid ho
  clear hrx ho
  go_wp2_with (first
    | (at_builtin; refine app_own (w0 := w1) w1.heap.size rfl (.const (.slice none 0 0)) (.tmp 12) 22 5 (.int .u8 0) 1 rfl Try.underlying22 1 info_u8 rfl (by omega) (by omega) (.slice none 0 0) [] 0 rfl _ _ _ _ (u8s x) rfl (own_nil _ _ _ _) HX.out (u8s_one_cell x) (Below.refl _ _) (Nat.le_refl _) (by omega) ?_; intro v2 w2 ho2 hB2 _ _)
    | (at_builtin; refine app_own (w0 := w1) w1.heap.size rfl (.tmp 13) (.tmp 14) 22 5 (.int .u8 0) 1 rfl Try.underlying22 1 info_u8 rfl (by omega) (by omega) _ _ _ rfl _ _ _ _ (u8s l) rfl ho2 ((HR.out.below hB1).below (hB2.mono hB1.size)) (u8s_one_cell l) hB2 hB2.size (by omega) ?_; intro v3 w3 ho3 hB3 _ _))
  have hown : Own8 w3 w1.heap.size v3 (x ++ l) := by
    unfold Own8
    rw [List.length_append, u8s_append]
    simpa using ho3
  clear ho2 ho3 hB2
  obtain ⟨A3, c3, rfl, hin⟩ := In8.own hown HXB.out (by rw [List.length_append]; omega)
  have HN := Lib.hid hin
  clear hin hown
  have HL : Hid ((x ++ l).length = x.length + l.length) := List.length_append
  refine (C2.out _ _ _ HN.out).mono ?_
  rintro e w4 ⟨rfl, hw⟩
  obtain rfl := hw.symm
  have HB := Lib.hid (below_then hB1 hB1.size hB3)
  have hsz := Nat.le_trans hB1.size hB3.size
  clear hB1 hB3
  go_wp2_with fail
  refine (one_any _).mono ?_
  rintro e w5 ⟨rfl, hB5⟩
  go_wp2
  go_ret
  exact ⟨by simp, below_then HB.out hsz hB5⟩
theorem octetBack_row (w : World) (a : Int) (ha : (Lit.int .u64 a).wf = true) {v : Value} (z : OpenB w v) :
    Calls Try.prog 8 #[.int .u64 a, v] w fun e w' => e = .returned (.bool true) ∧ Below w.heap.size w w' := by
  obtain ⟨n, rfl, hn⟩ := nat_u64 ha
  exact octetBack_walk w n hn z
end Go.Proofs.Ytkapdfaiceiffaa
