/- The walk of the law OctetSame. -/
import Derived.Test.YtkapdfaiceiffaaOne
import Derived.Test.YtkapdfaiceiffaaOpen
import Derived.Test.YtkapdfaiceiffaaOctLaws
import Derived.Deep.RegionWith
import Derived.Deep.RegionHeld3
namespace Go.Proofs.Ytkapdfaiceiffaa
open Go.RowKit
set_option linter.unusedSimpArgs false

set_option maxHeartbeats 4000000 in
theorem octetSame_row (w : World) {v : Value} (z : OpenB w v) :
    Calls Try.prog 9 #[v] w fun e w' => e = .returned (.bool true) ∧ Below w.heap.size w w' := by
  obtain ⟨A, c, l, rfl, h, hs⟩ := z
  have hok := readN_ok l h.byt
  have hsame := numB_readN l h.byt
  have hI := readNum_any A c l w h
  obtain ⟨⟨n, k, x⟩, hr⟩ : ∃ r, readN l = r := ⟨_, rfl⟩
  rw [hr] at hok hsame hI
  simp only at hok hsame hI
  clear hr
  have hcap := h.cap
  by_cases hx : x = 0
  rotate_left
  · have hxb : (x != 0) = true := by rw [bne_iff_ne]; exact hx
    have HI := Lib.hid hI
    clear hok hsame hI hx
    go_enter Try.func9, Try.ntmps9
    go_wp2_with fail
    refine HI.out.mono ?_
    rintro e w1 ⟨rfl, hw⟩
    obtain rfl := hw.symm
    go_wp2_with fail
    refine (one_any _).mono ?_
    rintro e w2 ⟨rfl, hB⟩
    go_wp2
    go_ret
    exact ⟨rfl, hB⟩
  subst hx
  obtain ⟨hk1, hk2, _, hn1, hn2⟩ := hok rfl
  obtain ⟨hnum, _⟩ := hsame rfl
  obtain ⟨n, rfl⟩ := Int.eq_ofNat_of_zero_le hn1
  obtain ⟨k, rfl⟩ := Int.eq_ofNat_of_zero_le (show 0 ≤ k by omega)
  rw [Int.toNat_natCast, Int.toNat_natCast] at hnum
  obtain ⟨y, hy⟩ : ∃ y, l.take k = y := ⟨_, rfl⟩
  rw [hy] at hnum
  have C1 := Lib.hid (fun w => hnum ▸ num_any n (by omega) w)
  have hrd := h.reads.take (k := k) (by omega)
  have HRD : Hid (Reads w w.heap.size 1 A k (u8s y)) := by
    rw [← hy, u8s, List.map_take]; rw [Nat.mul_one] at hrd; exact hrd
  have HI := Lib.hid hI
  clear hok hsame hI hnum hy hrd hn1 hn2 h
  go_enter Try.func9, Try.ntmps9
  go_wp2_with fail
  refine HI.out.mono ?_
  rintro e w1 ⟨rfl, hw⟩
  obtain rfl := hw.symm
  clear HI
  have hkc : (k : Int) ≤ (c : Int) := by omega
  have hkc2 : k ≤ c := by omega
  have hk0 : (0 : Int) ≤ (k : Int) := by omega
  go_wp2_with fail
  refine wp_region_held_drew (S := fun w' => (convert 22 9 (.slice A k c)).run Try.prog w' = .ok (.string (strOfNums y)) w') (by kernel_rfl) (conv_str _ _ A _ c _ HRD.out) (fun hHeld => ?_)
  refine wpAnyH_ready (rs := [0]) (by kernel_rfl) (by simp) ?_
  refine AllReadyH.cons rfl (fun K hK => ?_) AllReadyH.nil
  go_simp
  refine (one_any _).mono ?_
  rintro e w1 ⟨rfl, hB1⟩
  have hb1 : Below w.heap.size w w1 := (Below.refl w.heap.size w).drew.trans hB1
  go_simp
  refine hK.out _ _ (conv_str _ _ A _ c _ (HRD.out.below hb1)) (fun hHeld2 => ?_)
  clear hK K hHeld
  have hHeld := hHeld2
  clear hHeld2
  ((try simp only [List.getElem_toArray, List.getElem_cons_succ, List.getElem_cons_zero]); (try simp only [Act.put, List.setIfInBounds_toArray, List.set_cons_zero, List.set_cons_succ]))
  refine wpAnyH_take (i := 1) (v := ?v1) rfl (by kernel_rfl) (by kernel_rfl) (by kernel_rfl) (fun _ _ _ h => h) (Or.inl ⟨by rfl, ?y1⟩) (by assumption) ?r1
  case y1 => (intro w hSw; (try dsimp only at hSw); (try go_simp); first | done | with_reducible rfl)
  ((try simp only [List.getElem_toArray, List.getElem_cons_succ, List.getElem_cons_zero]); (try simp only [Act.put, List.setIfInBounds_toArray, List.set_cons_zero, List.set_cons_succ]))
  refine wpAnyH_take (i := 2) (v := ?v2) rfl (by kernel_rfl) (by kernel_rfl) (by kernel_rfl) (fun _ _ _ h => h) (Or.inl ⟨by rfl, ?y2⟩) (by assumption) ?r2
  case y2 => (intro w hSw; (try dsimp only at hSw); (try go_simp); first | done | with_reducible rfl)
  ((try simp only [List.getElem_toArray, List.getElem_cons_succ, List.getElem_cons_zero]); (try simp only [Act.put, List.setIfInBounds_toArray, List.set_cons_zero, List.set_cons_succ]))
  refine wpAnyH_take (i := 3) (v := ?v3) rfl (by kernel_rfl) (by kernel_rfl) (by kernel_rfl) (fun _ _ _ h => h) (Or.inl ⟨by rfl, ?y3⟩) (by assumption) ?r3
  case y3 => (intro w hSw; (try dsimp only at hSw); (try go_simp); first | done | with_reducible rfl)
  ((try simp only [List.getElem_toArray, List.getElem_cons_succ, List.getElem_cons_zero]); (try simp only [Act.put, List.setIfInBounds_toArray, List.set_cons_zero, List.set_cons_succ]))
  refine wpAnyH_take (i := 4) (v := ?v4) rfl (by kernel_rfl) (by kernel_rfl) (by kernel_rfl) (fun _ _ _ h => h) (Or.inl ⟨by rfl, ?y4⟩) (by assumption) ?r4
  case y4 => (intro w hSw; (try dsimp only at hSw); (try go_simp); first | done | with_reducible rfl)
  ((try simp only [List.getElem_toArray, List.getElem_cons_succ, List.getElem_cons_zero]); (try simp only [Act.put, List.setIfInBounds_toArray, List.set_cons_zero, List.set_cons_succ]))
  refine wpAnyH_take (i := 5) (v := ?v5) rfl (by kernel_rfl) (by kernel_rfl) (by kernel_rfl) (fun _ _ _ h => h) (Or.inl ⟨by rfl, ?y5⟩) (by assumption) ?r5
  case y5 => (intro w hSw; (try dsimp only at hSw); (try go_simp); first | done | with_reducible rfl)
  ((try simp only [List.getElem_toArray, List.getElem_cons_succ, List.getElem_cons_zero]); (try simp only [Act.put, List.setIfInBounds_toArray, List.set_cons_zero, List.set_cons_succ]))
  refine wpAnyH_take (i := 6) (v := ?v6) rfl (by kernel_rfl) (by kernel_rfl) (by kernel_rfl) (fun _ _ _ h => h) (Or.inl ⟨by rfl, ?y6⟩) (by assumption) ?r6
  case y6 => (intro w hSw; (try dsimp only at hSw); (try go_simp); first | done | with_reducible rfl)
  ((try simp only [List.getElem_toArray, List.getElem_cons_succ, List.getElem_cons_zero]); (try simp only [Act.put, List.setIfInBounds_toArray, List.set_cons_zero, List.set_cons_succ]))
  refine wpAnyH_take (i := 7) (v := ?v7) rfl (by kernel_rfl) (by kernel_rfl) (by kernel_rfl) (fun _ _ _ h => h) (Or.inl ⟨by rfl, ?y7⟩) (by assumption) ?r7
  case y7 => (intro w hSw; (try dsimp only at hSw); (try go_simp); first | done | with_reducible rfl)
  ((try simp only [List.getElem_toArray, List.getElem_cons_succ, List.getElem_cons_zero]); (try simp only [Act.put, List.setIfInBounds_toArray, List.set_cons_zero, List.set_cons_succ]))
  refine wpAnyH_take (i := 8) (v := ?v8) rfl (by kernel_rfl) (by kernel_rfl) (by kernel_rfl) (fun _ _ _ h => h) (Or.inl ⟨by rfl, ?y8⟩) (by assumption) ?r8
  case y8 => (intro w hSw; (try dsimp only at hSw); (try go_simp); first | done | with_reducible rfl)
  ((try simp only [List.getElem_toArray, List.getElem_cons_succ, List.getElem_cons_zero]); (try simp only [Act.put, List.setIfInBounds_toArray, List.set_cons_zero, List.set_cons_succ]))
  refine wpAnyH_take (i := 9) (v := ?v9) rfl (by kernel_rfl) (by kernel_rfl) (by kernel_rfl) (fun _ _ _ h => h) (Or.inl ⟨by rfl, ?y9⟩) (by assumption) ?r9
  case y9 => (intro w hSw; (try dsimp only at hSw); (try go_simp); first | done | with_reducible rfl)
  ((try simp only [List.getElem_toArray, List.getElem_cons_succ, List.getElem_cons_zero]); (try simp only [Act.put, List.setIfInBounds_toArray, List.set_cons_zero, List.set_cons_succ]))
  refine wpAnyH_take (i := 10) (v := ?v10) rfl (by kernel_rfl) (by kernel_rfl) (by kernel_rfl) (fun _ _ _ h => h) (Or.inl ⟨by rfl, ?y10⟩) (by assumption) ?r10
  case y10 => (intro w hSw; (try dsimp only at hSw); (try go_simp); first | done | with_reducible rfl)
  ((try simp only [List.getElem_toArray, List.getElem_cons_succ, List.getElem_cons_zero]); (try simp only [Act.put, List.setIfInBounds_toArray, List.set_cons_zero, List.set_cons_succ]))
  refine wpAnyH_take (i := 11) (v := ?v11) rfl (by kernel_rfl) (by kernel_rfl) (by kernel_rfl) (fun _ _ _ h => h) (Or.inl ⟨by rfl, ?y11⟩) (by assumption) ?r11
  case y11 => (intro w hSw; (try dsimp only at hSw); (try go_simp); first | done | with_reducible rfl)
  ((try simp only [List.getElem_toArray, List.getElem_cons_succ, List.getElem_cons_zero]); (try simp only [Act.put, List.setIfInBounds_toArray, List.set_cons_zero, List.set_cons_succ]))
  refine wpAnyH_take (i := 12) (v := ?v12) rfl (by kernel_rfl) (by kernel_rfl) (by kernel_rfl) (fun _ _ _ h => h) (Or.inl ⟨by rfl, ?y12⟩) (by assumption) ?r12
  case y12 => (intro w hSw; (try dsimp only at hSw); (try go_simp); first | done | with_reducible rfl)
  ((try simp only [List.getElem_toArray, List.getElem_cons_succ, List.getElem_cons_zero]); (try simp only [Act.put, List.setIfInBounds_toArray, List.set_cons_zero, List.set_cons_succ]))
  refine wpAnyH_take (i := 15) (v := ?v15) rfl (by kernel_rfl) (by kernel_rfl) (by kernel_rfl) (fun _ _ _ h => h) (Or.inl ⟨by rfl, ?y15⟩) (by assumption) ?r15
  case y15 => (intro w hSw; (try dsimp only at hSw); (try go_simp); first | done | with_reducible rfl)
  ((try simp only [List.getElem_toArray, List.getElem_cons_succ, List.getElem_cons_zero]); (try simp only [Act.put, List.setIfInBounds_toArray, List.set_cons_zero, List.set_cons_succ]))
  refine wpAnyH_take (i := 16) (v := ?v16) rfl (by kernel_rfl) (by kernel_rfl) (by kernel_rfl) (fun _ _ _ h => h) (Or.inl ⟨by rfl, ?y16⟩) (by assumption) ?r16
  case y16 => (intro w hSw; (try dsimp only at hSw); (try go_simp); first | done | with_reducible rfl)
  ((try simp only [List.getElem_toArray, List.getElem_cons_succ, List.getElem_cons_zero]); (try simp only [Act.put, List.setIfInBounds_toArray, List.set_cons_zero, List.set_cons_succ]))
  refine wpAnyH_take (i := 17) (v := ?v17) rfl (by kernel_rfl) (by kernel_rfl) (by kernel_rfl) (fun _ _ _ h => h) (Or.inl ⟨by rfl, ?y17⟩) (by assumption) ?r17
  case y17 => (intro w hSw; (try dsimp only at hSw); (try go_simp); first | done | with_reducible rfl)
  ((try simp only [List.getElem_toArray, List.getElem_cons_succ, List.getElem_cons_zero]); (try simp only [Act.put, List.setIfInBounds_toArray, List.set_cons_zero, List.set_cons_succ]))
  refine wpAnyH_take (i := 18) (v := ?v18) rfl (by kernel_rfl) (by kernel_rfl) (by kernel_rfl) (fun _ _ _ h => h) (Or.inl ⟨by rfl, ?y18⟩) (by assumption) ?r18
  case y18 => (intro w hSw; (try dsimp only at hSw); (try go_simp); first | done | with_reducible rfl)
  ((try simp only [List.getElem_toArray, List.getElem_cons_succ, List.getElem_cons_zero]); (try simp only [Act.put, List.setIfInBounds_toArray, List.set_cons_zero, List.set_cons_succ]))
  refine wpAnyH_ready (rs := [13]) (by kernel_rfl) (by simp) ?_
  refine AllReadyH.cons rfl (fun K hK => ?_) AllReadyH.nil
  go_simp
  refine (C1.out _).mono ?_
  rintro e w2 ⟨v, rfl, ho, hB2⟩
  obtain ⟨A2, c2, rfl, _, _, hr⟩ := own_open ho
  have hcv := conv_str w2 _ A2 _ c2 _ hr
  go_simp
  refine hK.out _ _ (conv_str _ _ A _ c _ ((HRD.out.below hb1).below (hB2.mono hb1.size))) (fun hHeld2 => ?_)
  clear hK K hHeld
  have hHeld := hHeld2
  clear hHeld2
  ((try simp only [List.getElem_toArray, List.getElem_cons_succ, List.getElem_cons_zero]); (try simp only [Act.put, List.setIfInBounds_toArray, List.set_cons_zero, List.set_cons_succ]))
  refine wpAnyH_ready (rs := [14]) (by kernel_rfl) (by simp) ?_
  refine AllReadyH.cons rfl (fun K hK => ?_) AllReadyH.nil
  go_simp
  refine hK.out _ _ (hHeld) (fun hHeld2 => ?_)
  clear hK K hHeld
  have hHeld := hHeld2
  clear hHeld2
  ((try simp only [List.getElem_toArray, List.getElem_cons_succ, List.getElem_cons_zero]); (try simp only [Act.put, List.setIfInBounds_toArray, List.set_cons_zero, List.set_cons_succ]))
  refine wpAnyH_take (i := 19) (v := ?v19) rfl (by kernel_rfl) (by kernel_rfl) (by kernel_rfl) (fun _ _ _ h => h) (Or.inl ⟨by rfl, ?y19⟩) (by assumption) ?r19
  case y19 => (intro w hSw; (try dsimp only at hSw); (try go_simp); first | done | with_reducible rfl)
  ((try simp only [List.getElem_toArray, List.getElem_cons_succ, List.getElem_cons_zero]); (try simp only [Act.put, List.setIfInBounds_toArray, List.set_cons_zero, List.set_cons_succ]))
  refine wpAnyH_take (i := 20) (v := ?v20) rfl (by kernel_rfl) (by kernel_rfl) (by kernel_rfl) (fun _ _ _ h => h) (Or.inl ⟨by rfl, ?y20⟩) (by assumption) ?r20
  case y20 => (intro w hSw; (try dsimp only at hSw); (try go_simp); first | done | with_reducible rfl)
  ((try simp only [List.getElem_toArray, List.getElem_cons_succ, List.getElem_cons_zero]); (try simp only [Act.put, List.setIfInBounds_toArray, List.set_cons_zero, List.set_cons_succ]))
  refine wpAnyH_take (i := 21) (v := ?v21) rfl (by kernel_rfl) (by kernel_rfl) (by kernel_rfl) (fun _ _ _ h => h) (Or.inl ⟨by rfl, ?y21⟩) (by assumption) ?r21
  case y21 => (intro w hSw; (try dsimp only at hSw); (try go_simp); first | done | with_reducible rfl)
  ((try simp only [List.getElem_toArray, List.getElem_cons_succ, List.getElem_cons_zero]); (try simp only [Act.put, List.setIfInBounds_toArray, List.set_cons_zero, List.set_cons_succ]))
  refine wpAnyH_done (by kernel_rfl) ?_ _
  go_wp2
  go_ret
  exact ⟨rfl, below_then hb1 hb1.size hB2⟩
end Go.Proofs.Ytkapdfaiceiffaa
