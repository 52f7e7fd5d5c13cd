/- The walk of the law OctetSums. -/
import Derived.Test.YtkapdfaiceiffaaDoorSum
import Derived.Test.YtkapdfaiceiffaaDoorOpen
namespace Go.Proofs.YtkapdfaiceiffaaDoor
open Go.RowKit

theorem sum_digits : ((sumB [49, 50, 51, 52, 53, 54, 55, 56, 57]).toNat : Int) = 4236843288 := by decide +kernel
theorem Tab.keep {w w1 : World} (h : Tab w) (hb : Below w.heap.size w w1) : Tab w1 := fun i hi => by
  have h1 := h i hi
  have := World.block_lt_of_cell? w _ h1
  rw [hb.cell this]
  exact h1
theorem digits_any (W : World) (ht : Tab W) : Calls Tryd.prog 5 #[.slice (some ⟨W.heap.size, 0, none⟩) 9 9] (W.alloc (.cells #[.int .u8 49, .int .u8 50, .int .u8 51, .int .u8 52, .int .u8 53, .int .u8 54, .int .u8 55, .int .u8 56, .int .u8 57] 5 (9, 10))) fun e w' =>
    e = .returned (.int .u32 4236843288) ∧ w' = W.alloc (.cells #[.int .u8 49, .int .u8 50, .int .u8 51, .int .u8 52, .int .u8 53, .int .u8 54, .int .u8 55, .int .u8 56, .int .u8 57] 5 (9, 10)) := by
  have hin := In8.lit W [49, 50, 51, 52, 53, 54, 55, 56, 57] (by unfold Byt; decide) (by simp) #[.int .u8 49, .int .u8 50, .int .u8 51, .int .u8 52, .int .u8 53, .int .u8 54, .int .u8 55, .int .u8 56, .int .u8 57] (9, 10) rfl
  have := sum_any _ _ _ _ hin (ht.keep ((Below.refl _ _).alloc (Nat.le_refl _) _))
  rw [sum_digits] at this
  exact this

set_option maxHeartbeats 1000000 in
theorem octetSums_row (w : World) {v : Value} (z : OpenB w v) (ht : Tab w) :
    Calls Tryd.prog 3 #[v] w fun e w' => e = .returned (.bool true) ∧ Below w.heap.size w w' := by
  obtain ⟨A, c, l, rfl, h, hs⟩ := z
  have kc := fun (w : World) (C : Array Value) (n c : Nat) => Lib.run_convert_bytes_const (P := Tryd.prog) w 22 5 C n c Tryd.underlying22 Tryd.underlying5
  have HT := Lib.hid ht
  have H := Lib.hid h
  have HR := Lib.hid h.reads
  have hl := h.byt
  clear h ht
  by_cases hlong : 100000 < l.length
  · go_enter Tryd.func3, Tryd.ntmps3
    go_wp2_with fail
    refine (digits_any _ HT.out).mono ?_
    rintro e w1 ⟨rfl, rfl⟩
    go_wp2
    go_ret
    exact ⟨rfl, (Below.refl _ _).alloc (Nat.le_refl _) _⟩
  obtain ⟨m, hm⟩ : ∃ m, (sumB l).toNat = m := ⟨_, rfl⟩
  have C1 := Lib.hid (fun A c w h ht => hm ▸ sum_any A c l w h ht)
  have C2 := Lib.hid (fun A c w h => hm ▸ refSum_any A c l w h)
  clear hm
  go_enter Tryd.func3, Tryd.ntmps3
  go_wp2_with (at_builtin; refine app_own (w0 := w) w.heap.size rfl _ _ 22 5 (.int .u8 0) 1 rfl Tryd.underlying22 1 info_u8 rfl (by omega) (by omega) (.slice none 0 0) [] 0 rfl _ _ _ _ (u8s l) rfl (own_nil _ _ _ _) HR.out (u8s_one_cell l) (Below.refl _ _) (Nat.le_refl _) (by omega) ?_; intro v1 w1 ho1 hB1 _ _)
  have hown : Own8 w1 w.heap.size v1 l := by simpa [Own8] using ho1
  clear ho1 HR
  obtain ⟨A1, c1, rfl, hin1⟩ := In8.own hown hl (by omega)
  have HT1 := Lib.hid (HT.out.keep hB1)
  have hbb : Below w1.heap.size w1 (w1.alloc (.cells #[.int .u8 49, .int .u8 50, .int .u8 51, .int .u8 52, .int .u8 53, .int .u8 54, .int .u8 55, .int .u8 56, .int .u8 57] 5 (9, 10))) := (Below.refl _ _).alloc (Nat.le_refl _) _
  have HN := Lib.hid (hin1.keep hbb)
  have HN2 := Lib.hid ((H.out.keep hB1).keep hbb)
  have HT2 := Lib.hid (HT1.out.keep hbb)
  have HB := Lib.hid (below_then hB1 hB1.size hbb)
  clear hin1 hown H hbb hB1
  go_wp2_with fail
  refine (digits_any _ HT1.out).mono ?_
  rintro e w2 ⟨rfl, rfl⟩
  have hcv1 := conv_str _ _ A1 _ c1 _ HN.out.reads
  have hcv2 := conv_str _ _ A _ c _ HN2.out.reads
  go_wp2_with fail
  refine (C1.out _ _ _ HN.out HT2.out).mono ?_
  rintro e w2 ⟨rfl, rfl⟩
  go_wp2_with fail
  refine (C2.out _ _ _ HN2.out).mono ?_
  rintro e w2 ⟨rfl, rfl⟩
  go_wp2
  go_ret
  exact ⟨rfl, HB.out⟩
end Go.Proofs.YtkapdfaiceiffaaDoor
