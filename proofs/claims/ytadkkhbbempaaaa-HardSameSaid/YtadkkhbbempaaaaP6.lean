/- Texts drawn together (1 of them): words, plain laws and walks that the row leans on. -/
import Derived.Test.YtadkkhbbempaaaaP4
import Derived.Test.YtadkkhbbempaaaaP5
import Derived.Deep.RegionHeld3
/- Records written: the document's Encode. -/
namespace Go.Proofs.Ytadkkhbbempaaaa
set_option maxRecDepth 100000
open Go.RowKit

set_option maxHeartbeats 8000000 in
theorem r13_Encode_1 (w : World) (r : Rc) (a : Ra) (hin : InR w r a) (wf : r.Wf) (hk : r.k = 1) (m : r.May) :
    Calls Try.prog 26 #[recV r a] w fun e w' => e = .returned (.tuple #[.string (strOfNums r.B), .int .i64 0]) ∧ Below w.heap.size w w' := by
  have k1 : (r.k == 1) = true := by rw [hk]; rfl
  have k2 : (r.k == 2) = false := by rw [hk]; rfl
  have k3 : (r.k == 3) = false := by rw [hk]; rfl
  have k4 : (r.k == 4) = false := by rw [hk]; rfl
  have k5 : (r.k == 5) = false := by rw [hk]; rfl
  have wk : IntKind.u8.wrap r.k = r.k := by rw [hk]; rfl
  obtain ⟨BB, hBB⟩ : ∃ BB, r.B = BB := ⟨_, rfl⟩
  have HV : Hid (BB = [r.k] ++ numB r.bt.toNat) := by
    show _ = _
    rw [← hBB]
    unfold Rc.B
    simp [hk]
  rw [hBB]
  have hnm : ∀ z : Int, 0 ≤ z ∧ z < 18446744073709551616 → ∀ W, Calls Try.prog 51 #[.int .u64 z] W fun x w' => ∃ v, x = .returned v ∧ Own8 w' W.heap.size v (numB z.toNat) ∧ Below W.heap.size W w' := by
    intro z hz W
    obtain ⟨n, rfl⟩ : ∃ n : Nat, z = (n : Int) := ⟨z.toNat, by omega⟩
    rw [Int.toNat_natCast]
    exact refNum_any n (by omega) W
  have CN0 := Lib.hid (hnm (r.bt) wf.bt)
  have n0 := numB_le (r.bt).toNat
  clear hnm hBB
  obtain ⟨g, hg⟩ : ∃ g, w.heap.size = g := ⟨_, rfl⟩
  rw [hg]
  have CM := fun W h => r13_May_any W r a h wf
  rw [decide_eq_true m] at CM
  unfold recV at CM
  have CM := Lib.hid CM
  clear m hk
  have hBx : Below g w (w.alloc (.cells (recC r a) 48)) := (Below.refl _ _).alloc (by omega) _
  have hb1 : Blk (w.alloc (.cells (recC r a) 48)) g 48 (recC r a) := hg ▸ Blk.new _ _ _
  have X := Lib.hid (CM.out _ (hin.keep (hg ▸ hBx)))
  have HIN := Lib.hid hin
  clear hin wf
  unfold recV
  go_enter Try.func26, Try.ntmps26
  go_upto_region 1 with (fail)
  change Code.wp _ _ _ _ (w.alloc (.cells (recC r a) 48))
  generalize (w.alloc (.cells (recC r a) 48)) = W at hb1 hBx X ⊢
  try rw [hg]
  go_wp2_with (refine wpList_load_row rfl 48 _ rfl g rfl 48 (recC r a) hb1 _ Try.underlying48 rfl info_Rec ?_)
  refine X.out.mono ?_
  rintro e w1 ⟨rfl, hB1⟩
  have hb2 := hb1.below hB1 hb1.lt
  have hB2 := hBx.trans (hB1.mono (Nat.le_of_lt hb1.lt))
  clear hb1 hBx hB1 X CM
  obtain ⟨gs, hgs⟩ : ∃ gs, w1.heap.size = gs := ⟨_, rfl⟩
  have hgl : g < gs := hgs ▸ hb2.lt
  have hr3 : Rws (w1.alloc (.cells #[.int .u8 r.k] 5)) (g + 1) (.slice (some ⟨gs, 0, none⟩) 1 1) [r.k] [] := by
    have := own8_one w1 (g + 1) r.k (by omega)
    rw [hgs] at this
    exact ⟨this, by simp [hgs]; omega, fun p hp => by cases hp⟩
  have hb3 := hb2.alloc (.cells #[.int .u8 r.k] 5)
  have hB3 := hB2.alloc (by omega) (.cells #[.int .u8 r.k] 5)
  have z0 := hb2.rc.z0
  clear hb2 hB2
  go_upto_region 4 with (fail)
  change Code.wp _ _ _ _ (w1.alloc (.cells #[.int .u8 r.k] 5))
  generalize (w1.alloc (.cells #[.int .u8 r.k] 5)) = W3 at hr3 hb3 hB3 ⊢
  try rw [hgs]
  clear hgs z0
  obtain ⟨v3, hv3⟩ : ∃ v3, Value.slice (some ⟨gs, 0, none⟩) 1 1 = v3 := ⟨_, rfl⟩
  rw [hv3] at hr3
  try rw [hv3]
  clear hv3 hgl
  have HR := Lib.hid hr3
  have HK := Lib.hid hb3
  have HB := Lib.hid hB3
  obtain ⟨z0, z1, z2, z3, z4, z5, z6, z7, z8, z9, z10, z11, z12, z13, z14, z15, z16, z17, z18, z19, z20⟩ := hb3.rc
  clear hr3 hb3 hB3
  go_wp2_with fail
  refine (CN0.out _).mono ?_; rintro x w5 ⟨v5, rfl, ho5, hB5⟩; have HR := Lib.hid (HR.out.call ho5 hB5); have HB := Lib.hid (HB.out.trans (hB5.mono (Nat.le_of_lt HK.out.lt))); have HK := Lib.hid (HK.out.below hB5 HK.out.lt)
  clear ho5 hB5 z0 z1 z2 z3 z4 z5 z6 z7 z8 z9 z10 z11 z12 z13 z14 z15 z16 z17 z18 z19 z20
  go_wp2_with (at_builtin; refine wpList_rws rfl _ _ rfl (numB (r.bt).toNat) _ rfl rfl HR.out (by first | exact List.Mem.head _ | exact List.Mem.tail _ (List.Mem.head _) | exact List.Mem.tail _ (List.Mem.tail _ (List.Mem.head _))) (by (try simp only [List.length_append]); simp only [List.length_cons, List.length_nil]; omega) ?_; intro v6 w6 hr6 hB6; have hcv := conv_own hr6.row; have HR := Lib.hid hr6; have HB := Lib.hid (HB.out.trans (hB6.mono (Nat.le_succ g))); have HK := Lib.hid (HK.out.below hB6 (Nat.lt_succ_self g)); clear hr6 hB6)
  go_ret2
  exact ⟨by have hv := HV.out; subst hv; first | rfl | (simp only [List.append_assoc, List.cons_append, List.nil_append]; rfl), HB.out⟩

set_option maxHeartbeats 8000000 in
theorem r13_Encode_2 (w : World) (r : Rc) (a : Ra) (hin : InR w r a) (wf : r.Wf) (hk : r.k = 2) (m : r.May) :
    Calls Try.prog 26 #[recV r a] w fun e w' => e = .returned (.tuple #[.string (strOfNums r.B), .int .i64 0]) ∧ Below w.heap.size w w' := by
  have k1 : (r.k == 1) = false := by rw [hk]; rfl
  have k2 : (r.k == 2) = true := by rw [hk]; rfl
  have k3 : (r.k == 3) = false := by rw [hk]; rfl
  have k4 : (r.k == 4) = false := by rw [hk]; rfl
  have k5 : (r.k == 5) = false := by rw [hk]; rfl
  have wk : IntKind.u8.wrap r.k = r.k := by rw [hk]; rfl
  obtain ⟨BB, hBB⟩ : ∃ BB, r.B = BB := ⟨_, rfl⟩
  have HV : Hid (BB = [r.k] ++ numB r.tm.toNat ++ numB r.v.toNat) := by
    show _ = _
    rw [← hBB]
    unfold Rc.B
    simp [hk]
  rw [hBB]
  have hnm : ∀ z : Int, 0 ≤ z ∧ z < 18446744073709551616 → ∀ W, Calls Try.prog 51 #[.int .u64 z] W fun x w' => ∃ v, x = .returned v ∧ Own8 w' W.heap.size v (numB z.toNat) ∧ Below W.heap.size W w' := by
    intro z hz W
    obtain ⟨n, rfl⟩ : ∃ n : Nat, z = (n : Int) := ⟨z.toNat, by omega⟩
    rw [Int.toNat_natCast]
    exact refNum_any n (by omega) W
  have hv : 0 ≤ r.v ∧ r.v ≤ 7 := by
    rcases m.2 with h | h | h | h | h
    · omega
    · omega
    · omega
    · omega
    · omega
  have wv : IntKind.u64.wrap r.v = r.v := by rw [IntKind.wrap_u64]; omega
  have CN0 := Lib.hid (hnm (r.tm) wf.tm)
  have n0 := numB_le (r.tm).toNat
  have CN1 := Lib.hid (hnm (r.v) ⟨by omega, by omega⟩)
  have n1 := numB_le (r.v).toNat
  clear hv
  clear hnm hBB
  obtain ⟨g, hg⟩ : ∃ g, w.heap.size = g := ⟨_, rfl⟩
  rw [hg]
  have CM := fun W h => r13_May_any W r a h wf
  rw [decide_eq_true m] at CM
  unfold recV at CM
  have CM := Lib.hid CM
  clear m hk
  have hBx : Below g w (w.alloc (.cells (recC r a) 48)) := (Below.refl _ _).alloc (by omega) _
  have hb1 : Blk (w.alloc (.cells (recC r a) 48)) g 48 (recC r a) := hg ▸ Blk.new _ _ _
  have X := Lib.hid (CM.out _ (hin.keep (hg ▸ hBx)))
  have HIN := Lib.hid hin
  clear hin wf
  unfold recV
  go_enter Try.func26, Try.ntmps26
  go_upto_region 1 with (fail)
  change Code.wp _ _ _ _ (w.alloc (.cells (recC r a) 48))
  generalize (w.alloc (.cells (recC r a) 48)) = W at hb1 hBx X ⊢
  try rw [hg]
  go_wp2_with (refine wpList_load_row rfl 48 _ rfl g rfl 48 (recC r a) hb1 _ Try.underlying48 rfl info_Rec ?_)
  refine X.out.mono ?_
  rintro e w1 ⟨rfl, hB1⟩
  have hb2 := hb1.below hB1 hb1.lt
  have hB2 := hBx.trans (hB1.mono (Nat.le_of_lt hb1.lt))
  clear hb1 hBx hB1 X CM
  obtain ⟨gs, hgs⟩ : ∃ gs, w1.heap.size = gs := ⟨_, rfl⟩
  have hgl : g < gs := hgs ▸ hb2.lt
  have hr3 : Rws (w1.alloc (.cells #[.int .u8 r.k] 5)) (g + 1) (.slice (some ⟨gs, 0, none⟩) 1 1) [r.k] [] := by
    have := own8_one w1 (g + 1) r.k (by omega)
    rw [hgs] at this
    exact ⟨this, by simp [hgs]; omega, fun p hp => by cases hp⟩
  have hb3 := hb2.alloc (.cells #[.int .u8 r.k] 5)
  have hB3 := hB2.alloc (by omega) (.cells #[.int .u8 r.k] 5)
  have z0 := hb2.rc.z0
  clear hb2 hB2
  go_upto_region 4 with (fail)
  change Code.wp _ _ _ _ (w1.alloc (.cells #[.int .u8 r.k] 5))
  generalize (w1.alloc (.cells #[.int .u8 r.k] 5)) = W3 at hr3 hb3 hB3 ⊢
  try rw [hgs]
  clear hgs z0
  obtain ⟨v3, hv3⟩ : ∃ v3, Value.slice (some ⟨gs, 0, none⟩) 1 1 = v3 := ⟨_, rfl⟩
  rw [hv3] at hr3
  try rw [hv3]
  clear hv3 hgl
  have HR := Lib.hid hr3
  have HK := Lib.hid hb3
  have HB := Lib.hid hB3
  obtain ⟨z0, z1, z2, z3, z4, z5, z6, z7, z8, z9, z10, z11, z12, z13, z14, z15, z16, z17, z18, z19, z20⟩ := hb3.rc
  clear hr3 hb3 hB3
  go_upto_region 8 with (fail)
  have HR := Lib.hid HR.out.drew
  have HK := Lib.hid HK.out.drew
  have HB := Lib.hid HB.out.drew
  clear z0 z1 z2 z3 z4 z5 z6 z7 z8 z9 z10 z11 z12 z13 z14 z15 z16 z17 z18 z19 z20
  refine wp_region_held_drew (S := fun w' => w'.cell? ⟨g, 3, none⟩ = some (.int .u64 r.tm) ∧ w'.cell? ⟨g, 1, none⟩ = some (.int .i64 r.v)) (by kernel_rfl) ⟨HK.out.rc.z3, HK.out.rc.z1⟩ (fun hHeld => ?_)
  refine wpAnyH_take (i := 0) (v := ?v1) rfl (by kernel_rfl) (by kernel_rfl) (by kernel_rfl) (fun _ _ _ h => h) (Or.inl ⟨by rfl, ?y1⟩) (by assumption) ?r1
  case y1 => (intro w hSw; (try dsimp only at hSw); (try go_simp); first | done | with_reducible rfl)
  ((try simp only [List.getElem_toArray, List.getElem_cons_zero]); (try simp only [Act.put, List.setIfInBounds_toArray, List.set_cons_zero, List.set_cons_succ]))
  refine wpAnyH_take (i := 1) (v := ?v1002) rfl (by kernel_rfl) (by kernel_rfl) (by kernel_rfl) (fun _ _ _ h => h) (Or.inl ⟨by rfl, ?y1002⟩) (by assumption) ?r1002
  case y1002 => (intro w hSw; (try dsimp only at hSw); (try go_simp); first | done | with_reducible rfl)
  ((try simp only [List.getElem_toArray, List.getElem_cons_succ, List.getElem_cons_zero]); (try simp only [Act.put, List.setIfInBounds_toArray, List.set_cons_zero, List.set_cons_succ]))
  refine wpAnyH_take (i := 2) (v := ?v2003) rfl (by kernel_rfl) (by kernel_rfl) (by kernel_rfl) (fun _ _ _ h => h) (Or.inl ⟨by rfl, ?y2003⟩) (by assumption) ?r2003
  case y2003 => (intro w hSw; (try dsimp only at hSw); (try go_simp); first | done | with_reducible rfl)
  ((try simp only [List.getElem_toArray, List.getElem_cons_succ, List.getElem_cons_zero]); (try simp only [Act.put, List.setIfInBounds_toArray, List.set_cons_zero, List.set_cons_succ]))
  refine wpAnyH_take (i := 5) (v := ?v5004) rfl (by kernel_rfl) (by kernel_rfl) (by kernel_rfl) (fun _ _ _ h => h) (Or.inl ⟨by rfl, ?y5004⟩) (by assumption) ?r5004
  case y5004 => (intro w hSw; (try dsimp only at hSw); (try go_simp); first | done | with_reducible rfl)
  ((try simp only [List.getElem_toArray, List.getElem_cons_succ, List.getElem_cons_zero]); (try simp only [Act.put, List.setIfInBounds_toArray, List.set_cons_zero, List.set_cons_succ]))
  refine wpAnyH_take (i := 6) (v := ?v6005) rfl (by kernel_rfl) (by kernel_rfl) (by kernel_rfl) (fun _ _ _ h => h) (Or.inl ⟨by rfl, ?y6005⟩) (by assumption) ?r6005
  case y6005 => (intro w hSw; (try dsimp only at hSw); (try go_simp); first | done | with_reducible rfl)
  ((try simp only [List.getElem_toArray, List.getElem_cons_succ, List.getElem_cons_zero]); (try simp only [Act.put, List.setIfInBounds_toArray, List.set_cons_zero, List.set_cons_succ]))
  refine wpAnyH_take (i := 7) (v := ?v7006) rfl (by kernel_rfl) (by kernel_rfl) (by kernel_rfl) (fun _ _ _ h => h) (Or.inl ⟨by rfl, ?y7006⟩) (by assumption) ?r7006
  case y7006 => (intro w hSw; (try dsimp only at hSw); (try go_simp); first | done | with_reducible rfl)
  ((try simp only [List.getElem_toArray, List.getElem_cons_succ, List.getElem_cons_zero]); (try simp only [Act.put, List.setIfInBounds_toArray, List.set_cons_zero, List.set_cons_succ]))
  refine wpAnyH_ready (rs := [3]) (by kernel_rfl) (by simp) ?_
  refine AllReadyH.cons rfl (fun K hK => ?_) AllReadyH.nil
  · go_simp
    refine (CN0.out _).mono ?_
    rintro x w5 ⟨v5, rfl, ho5, hB5⟩
    have HR := Lib.hid (HR.out.call ho5 hB5)
    have HB := Lib.hid (HB.out.trans (hB5.mono (Nat.le_of_lt HK.out.lt)))
    have HK := Lib.hid (HK.out.below hB5 HK.out.lt)
    clear ho5 hB5
    go_simp
    refine hK.out _ _ ⟨HK.out.rc.z3, HK.out.rc.z1⟩ (fun hHeld2 => ?_)
    clear hK K hHeld
    have hHeld := hHeld2
    clear hHeld2
    ((try simp only [List.getElem_toArray, List.getElem_cons_succ, List.getElem_cons_zero]); (try simp only [Act.put, List.setIfInBounds_toArray, List.set_cons_zero, List.set_cons_succ]))
    refine wpAnyH_ready (rs := [4]) (by kernel_rfl) (by simp) ?_
    refine AllReadyH.cons rfl (fun K hK => ?_) AllReadyH.nil
    · refine step_rws rfl _ _ rfl (numB (r.tm).toNat) _ rfl rfl HR.out (by first | exact List.Mem.head _ | exact List.Mem.tail _ (List.Mem.head _) | exact List.Mem.tail _ (List.Mem.tail _ (List.Mem.head _))) (by (try simp only [List.length_append]); simp only [List.length_cons, List.length_nil]; omega) ?_
      intro v6 w6 hr6 hB6
      have hcv := conv_own hr6.row
      have HR := Lib.hid hr6
      have HB := Lib.hid (HB.out.trans (hB6.mono (Nat.le_succ g)))
      have HK := Lib.hid (HK.out.below hB6 (Nat.lt_succ_self g))
      clear hr6 hB6
      refine hK.out _ _ ⟨HK.out.rc.z3, HK.out.rc.z1⟩ (fun hHeld2 => ?_)
      clear hK K hHeld
      have hHeld := hHeld2
      clear hHeld2
      ((try simp only [List.getElem_toArray, List.getElem_cons_succ, List.getElem_cons_zero]); (try simp only [Act.put, List.setIfInBounds_toArray, List.set_cons_zero, List.set_cons_succ]))
      refine wpAnyH_ready (rs := [8]) (by kernel_rfl) (by simp) ?_
      refine AllReadyH.cons rfl (fun K hK => ?_) AllReadyH.nil
      · go_simp
        refine (CN1.out _).mono ?_
        rintro x w5 ⟨v5, rfl, ho5, hB5⟩
        have HR := Lib.hid (HR.out.call ho5 hB5)
        have HB := Lib.hid (HB.out.trans (hB5.mono (Nat.le_of_lt HK.out.lt)))
        have HK := Lib.hid (HK.out.below hB5 HK.out.lt)
        clear ho5 hB5
        go_simp
        refine hK.out _ _ ⟨HK.out.rc.z3, HK.out.rc.z1⟩ (fun hHeld2 => ?_)
        clear hK K hHeld
        have hHeld := hHeld2
        clear hHeld2
        ((try simp only [List.getElem_toArray, List.getElem_cons_succ, List.getElem_cons_zero]); (try simp only [Act.put, List.setIfInBounds_toArray, List.set_cons_zero, List.set_cons_succ]))
        refine wpAnyH_ready (rs := [9]) (by kernel_rfl) (by simp) ?_
        refine AllReadyH.cons rfl (fun K hK => ?_) AllReadyH.nil
        · refine step_rws rfl _ _ rfl (numB (r.v).toNat) _ rfl rfl HR.out (by first | exact List.Mem.head _ | exact List.Mem.tail _ (List.Mem.head _) | exact List.Mem.tail _ (List.Mem.tail _ (List.Mem.head _))) (by (try simp only [List.length_append]); simp only [List.length_cons, List.length_nil]; omega) ?_
          intro v6 w6 hr6 hB6
          have hcv := conv_own hr6.row
          have HR := Lib.hid hr6
          have HB := Lib.hid (HB.out.trans (hB6.mono (Nat.le_succ g)))
          have HK := Lib.hid (HK.out.below hB6 (Nat.lt_succ_self g))
          clear hr6 hB6
          refine hK.out _ _ ⟨HK.out.rc.z3, HK.out.rc.z1⟩ (fun hHeld2 => ?_)
          clear hK K hHeld
          have hHeld := hHeld2
          clear hHeld2
          ((try simp only [List.getElem_toArray, List.getElem_cons_succ, List.getElem_cons_zero]); (try simp only [Act.put, List.setIfInBounds_toArray, List.set_cons_zero, List.set_cons_succ]))
          refine wpAnyH_take (i := 10) (v := ?v10007) rfl (by kernel_rfl) (by kernel_rfl) (by kernel_rfl) (fun _ _ _ h => h) (Or.inl ⟨by rfl, ?y10007⟩) (by assumption) ?r10007
          case y10007 => (intro w hSw; (try dsimp only at hSw); (try go_simp); first | done | with_reducible rfl)
          ((try simp only [List.getElem_toArray, List.getElem_cons_succ, List.getElem_cons_zero]); (try simp only [Act.put, List.setIfInBounds_toArray, List.set_cons_zero, List.set_cons_succ]))
          refine wpAnyH_done (by kernel_rfl) ?_ _
          go_wp2
          go_ret2
          exact ⟨by have hv := HV.out; subst hv; first | rfl | (simp only [List.append_assoc, List.cons_append, List.nil_append]; rfl), HB.out⟩

set_option maxHeartbeats 8000000 in
theorem r13_Encode_3 (w : World) (r : Rc) (a : Ra) (hin : InR w r a) (wf : r.Wf) (hk : r.k = 3) (m : r.May) :
    Calls Try.prog 26 #[recV r a] w fun e w' => e = .returned (.tuple #[.string (strOfNums r.B), .int .i64 0]) ∧ Below w.heap.size w w' := by
  have k1 : (r.k == 1) = false := by rw [hk]; rfl
  have k2 : (r.k == 2) = false := by rw [hk]; rfl
  have k3 : (r.k == 3) = true := by rw [hk]; rfl
  have k4 : (r.k == 4) = false := by rw [hk]; rfl
  have k5 : (r.k == 5) = false := by rw [hk]; rfl
  have wk : IntKind.u8.wrap r.k = r.k := by rw [hk]; rfl
  obtain ⟨BB, hBB⟩ : ∃ BB, r.B = BB := ⟨_, rfl⟩
  have HV : Hid (BB = [r.k] ++ numB r.ix.toNat ++ numB r.en.tm.toNat ++ r.en.cB) := by
    show _ = _
    rw [← hBB]
    unfold Rc.B
    simp [hk]
  rw [hBB]
  have hnm : ∀ z : Int, 0 ≤ z ∧ z < 18446744073709551616 → ∀ W, Calls Try.prog 51 #[.int .u64 z] W fun x w' => ∃ v, x = .returned v ∧ Own8 w' W.heap.size v (numB z.toNat) ∧ Below W.heap.size W w' := by
    intro z hz W
    obtain ⟨n, rfl⟩ : ∃ n : Nat, z = (n : Int) := ⟨z.toNat, by omega⟩
    rw [Int.toNat_natCast]
    exact refNum_any n (by omega) W
  have CN0 := Lib.hid (hnm (r.ix) wf.ix)
  have n0 := numB_le (r.ix).toNat
  have CN1 := Lib.hid (hnm (r.en.tm) wf.en.tm)
  have n1 := numB_le (r.en.tm).toNat
  have hok : r.en.ok = true := by
    rcases m.2 with h | h | h | h | h
    · omega
    · omega
    · exact h.2.2.2
    · omega
    · omega
  obtain ⟨cb1, cb2, -, cb3⟩ := cmd_both r.en wf.en hok a.A a.c
  unfold cmdV at cb3
  have CE := Lib.hid cb3
  clear cb1 cb3 hok
  clear hnm hBB
  obtain ⟨g, hg⟩ : ∃ g, w.heap.size = g := ⟨_, rfl⟩
  rw [hg]
  have CM := fun W h => r13_May_any W r a h wf
  rw [decide_eq_true m] at CM
  unfold recV at CM
  have CM := Lib.hid CM
  clear m hk
  have hBx : Below g w (w.alloc (.cells (recC r a) 48)) := (Below.refl _ _).alloc (by omega) _
  have hb1 : Blk (w.alloc (.cells (recC r a) 48)) g 48 (recC r a) := hg ▸ Blk.new _ _ _
  have X := Lib.hid (CM.out _ (hin.keep (hg ▸ hBx)))
  have HIN := Lib.hid hin
  clear hin wf
  unfold recV
  go_enter Try.func26, Try.ntmps26
  go_upto_region 1 with (fail)
  change Code.wp _ _ _ _ (w.alloc (.cells (recC r a) 48))
  generalize (w.alloc (.cells (recC r a) 48)) = W at hb1 hBx X ⊢
  try rw [hg]
  go_wp2_with (refine wpList_load_row rfl 48 _ rfl g rfl 48 (recC r a) hb1 _ Try.underlying48 rfl info_Rec ?_)
  refine X.out.mono ?_
  rintro e w1 ⟨rfl, hB1⟩
  have hb2 := hb1.below hB1 hb1.lt
  have hB2 := hBx.trans (hB1.mono (Nat.le_of_lt hb1.lt))
  clear hb1 hBx hB1 X CM
  obtain ⟨gs, hgs⟩ : ∃ gs, w1.heap.size = gs := ⟨_, rfl⟩
  have hgl : g < gs := hgs ▸ hb2.lt
  have hr3 : Rws (w1.alloc (.cells #[.int .u8 r.k] 5)) (g + 1) (.slice (some ⟨gs, 0, none⟩) 1 1) [r.k] [] := by
    have := own8_one w1 (g + 1) r.k (by omega)
    rw [hgs] at this
    exact ⟨this, by simp [hgs]; omega, fun p hp => by cases hp⟩
  have hb3 := hb2.alloc (.cells #[.int .u8 r.k] 5)
  have hB3 := hB2.alloc (by omega) (.cells #[.int .u8 r.k] 5)
  have z0 := hb2.rc.z0
  clear hb2 hB2
  go_upto_region 4 with (fail)
  change Code.wp _ _ _ _ (w1.alloc (.cells #[.int .u8 r.k] 5))
  generalize (w1.alloc (.cells #[.int .u8 r.k] 5)) = W3 at hr3 hb3 hB3 ⊢
  try rw [hgs]
  clear hgs z0
  obtain ⟨v3, hv3⟩ : ∃ v3, Value.slice (some ⟨gs, 0, none⟩) 1 1 = v3 := ⟨_, rfl⟩
  rw [hv3] at hr3
  try rw [hv3]
  clear hv3 hgl
  have HR := Lib.hid hr3
  have HK := Lib.hid hb3
  have HB := Lib.hid hB3
  obtain ⟨z0, z1, z2, z3, z4, z5, z6, z7, z8, z9, z10, z11, z12, z13, z14, z15, z16, z17, z18, z19, z20⟩ := hb3.rc
  clear hr3 hb3 hB3
  go_wp2_with fail
  refine (CE.out _ (HIN.out.keep (hg ▸ HB.out)).l).mono ?_; rintro x w5 ⟨v5, rfl, ho5, hB5⟩; have HR := Lib.hid (HR.out.call ho5 hB5); have HB := Lib.hid (HB.out.trans (hB5.mono (Nat.le_of_lt HK.out.lt))); have HK := Lib.hid (HK.out.below hB5 HK.out.lt)
  clear ho5 hB5 z0 z1 z2 z3 z4 z5 z6 z7 z8 z9 z10 z11 z12 z13 z14 z15 z16 z17 z18 z19 z20
  obtain ⟨z0, z1, z2, z3, z4, z5, z6, z7, z8, z9, z10, z11, z12, z13, z14, z15, z16, z17, z18, z19, z20⟩ := HK.out.rc
  go_upto_region 11 with (fail)
  have HR := Lib.hid HR.out.drew
  have HK := Lib.hid HK.out.drew
  have HB := Lib.hid HB.out.drew
  clear z0 z1 z2 z3 z4 z5 z6 z7 z8 z9 z10 z11 z12 z13 z14 z15 z16 z17 z18 z19 z20
  refine wp_region_held_drew (S := fun w' => w'.cell? ⟨g, 4, none⟩ = some (.int .u64 r.ix) ∧ w'.cell? ⟨g, 5, none⟩ = some (.int .u64 r.en.tm)) (by kernel_rfl) ⟨HK.out.rc.z4, HK.out.rc.z5⟩ (fun hHeld => ?_)
  refine wpAnyH_take (i := 0) (v := ?v8) rfl (by kernel_rfl) (by kernel_rfl) (by kernel_rfl) (fun _ _ _ h => h) (Or.inl ⟨by rfl, ?y8⟩) (by assumption) ?r8
  case y8 => (intro w hSw; (try dsimp only at hSw); (try go_simp); first | done | with_reducible rfl)
  ((try simp only [List.getElem_toArray, List.getElem_cons_zero]); (try simp only [Act.put, List.setIfInBounds_toArray, List.set_cons_zero, List.set_cons_succ]))
  refine wpAnyH_take (i := 1) (v := ?v1009) rfl (by kernel_rfl) (by kernel_rfl) (by kernel_rfl) (fun _ _ _ h => h) (Or.inl ⟨by rfl, ?y1009⟩) (by assumption) ?r1009
  case y1009 => (intro w hSw; (try dsimp only at hSw); (try go_simp); first | done | with_reducible rfl)
  ((try simp only [List.getElem_toArray, List.getElem_cons_succ, List.getElem_cons_zero]); (try simp only [Act.put, List.setIfInBounds_toArray, List.set_cons_zero, List.set_cons_succ]))
  refine wpAnyH_take (i := 2) (v := ?v2010) rfl (by kernel_rfl) (by kernel_rfl) (by kernel_rfl) (fun _ _ _ h => h) (Or.inl ⟨by rfl, ?y2010⟩) (by assumption) ?r2010
  case y2010 => (intro w hSw; (try dsimp only at hSw); (try go_simp); first | done | with_reducible rfl)
  ((try simp only [List.getElem_toArray, List.getElem_cons_succ, List.getElem_cons_zero]); (try simp only [Act.put, List.setIfInBounds_toArray, List.set_cons_zero, List.set_cons_succ]))
  refine wpAnyH_take (i := 5) (v := ?v5011) rfl (by kernel_rfl) (by kernel_rfl) (by kernel_rfl) (fun _ _ _ h => h) (Or.inl ⟨by rfl, ?y5011⟩) (by assumption) ?r5011
  case y5011 => (intro w hSw; (try dsimp only at hSw); (try go_simp); first | done | with_reducible rfl)
  ((try simp only [List.getElem_toArray, List.getElem_cons_succ, List.getElem_cons_zero]); (try simp only [Act.put, List.setIfInBounds_toArray, List.set_cons_zero, List.set_cons_succ]))
  refine wpAnyH_take (i := 6) (v := ?v6012) rfl (by kernel_rfl) (by kernel_rfl) (by kernel_rfl) (fun _ _ _ h => h) (Or.inl ⟨by rfl, ?y6012⟩) (by assumption) ?r6012
  case y6012 => (intro w hSw; (try dsimp only at hSw); (try go_simp); first | done | with_reducible rfl)
  ((try simp only [List.getElem_toArray, List.getElem_cons_succ, List.getElem_cons_zero]); (try simp only [Act.put, List.setIfInBounds_toArray, List.set_cons_zero, List.set_cons_succ]))
  refine wpAnyH_take (i := 7) (v := ?v7013) rfl (by kernel_rfl) (by kernel_rfl) (by kernel_rfl) (fun _ _ _ h => h) (Or.inl ⟨by rfl, ?y7013⟩) (by assumption) ?r7013
  case y7013 => (intro w hSw; (try dsimp only at hSw); (try go_simp); first | done | with_reducible rfl)
  ((try simp only [List.getElem_toArray, List.getElem_cons_succ, List.getElem_cons_zero]); (try simp only [Act.put, List.setIfInBounds_toArray, List.set_cons_zero, List.set_cons_succ]))
  refine wpAnyH_take (i := 10) (v := ?v10014) rfl (by kernel_rfl) (by kernel_rfl) (by kernel_rfl) (fun _ _ _ h => h) (Or.inl ⟨by rfl, ?y10014⟩) (by assumption) ?r10014
  case y10014 => (intro w hSw; (try dsimp only at hSw); (try go_simp); first | done | with_reducible rfl)
  ((try simp only [List.getElem_toArray, List.getElem_cons_succ, List.getElem_cons_zero]); (try simp only [Act.put, List.setIfInBounds_toArray, List.set_cons_zero, List.set_cons_succ]))
  refine wpAnyH_ready (rs := [3]) (by kernel_rfl) (by simp) ?_
  refine AllReadyH.cons rfl (fun K hK => ?_) AllReadyH.nil
  · go_simp
    refine (CN0.out _).mono ?_
    rintro x w5 ⟨v5, rfl, ho5, hB5⟩
    have HR := Lib.hid (HR.out.call ho5 hB5)
    have HB := Lib.hid (HB.out.trans (hB5.mono (Nat.le_of_lt HK.out.lt)))
    have HK := Lib.hid (HK.out.below hB5 HK.out.lt)
    clear ho5 hB5
    go_simp
    refine hK.out _ _ ⟨HK.out.rc.z4, HK.out.rc.z5⟩ (fun hHeld2 => ?_)
    clear hK K hHeld
    have hHeld := hHeld2
    clear hHeld2
    ((try simp only [List.getElem_toArray, List.getElem_cons_succ, List.getElem_cons_zero]); (try simp only [Act.put, List.setIfInBounds_toArray, List.set_cons_zero, List.set_cons_succ]))
    refine wpAnyH_ready (rs := [4]) (by kernel_rfl) (by simp) ?_
    refine AllReadyH.cons rfl (fun K hK => ?_) AllReadyH.nil
    · refine step_rws rfl _ _ rfl (numB (r.ix).toNat) _ rfl rfl HR.out (by first | exact List.Mem.head _ | exact List.Mem.tail _ (List.Mem.head _) | exact List.Mem.tail _ (List.Mem.tail _ (List.Mem.head _))) (by (try simp only [List.length_append]); simp only [List.length_cons, List.length_nil]; omega) ?_
      intro v6 w6 hr6 hB6
      have hcv := conv_own hr6.row
      have HR := Lib.hid hr6
      have HB := Lib.hid (HB.out.trans (hB6.mono (Nat.le_succ g)))
      have HK := Lib.hid (HK.out.below hB6 (Nat.lt_succ_self g))
      clear hr6 hB6
      refine hK.out _ _ ⟨HK.out.rc.z4, HK.out.rc.z5⟩ (fun hHeld2 => ?_)
      clear hK K hHeld
      have hHeld := hHeld2
      clear hHeld2
      ((try simp only [List.getElem_toArray, List.getElem_cons_succ, List.getElem_cons_zero]); (try simp only [Act.put, List.setIfInBounds_toArray, List.set_cons_zero, List.set_cons_succ]))
      refine wpAnyH_ready (rs := [8]) (by kernel_rfl) (by simp) ?_
      refine AllReadyH.cons rfl (fun K hK => ?_) AllReadyH.nil
      · go_simp
        refine (CN1.out _).mono ?_
        rintro x w5 ⟨v5, rfl, ho5, hB5⟩
        have HR := Lib.hid (HR.out.call ho5 hB5)
        have HB := Lib.hid (HB.out.trans (hB5.mono (Nat.le_of_lt HK.out.lt)))
        have HK := Lib.hid (HK.out.below hB5 HK.out.lt)
        clear ho5 hB5
        go_simp
        refine hK.out _ _ ⟨HK.out.rc.z4, HK.out.rc.z5⟩ (fun hHeld2 => ?_)
        clear hK K hHeld
        have hHeld := hHeld2
        clear hHeld2
        ((try simp only [List.getElem_toArray, List.getElem_cons_succ, List.getElem_cons_zero]); (try simp only [Act.put, List.setIfInBounds_toArray, List.set_cons_zero, List.set_cons_succ]))
        refine wpAnyH_ready (rs := [9]) (by kernel_rfl) (by simp) ?_
        refine AllReadyH.cons rfl (fun K hK => ?_) AllReadyH.nil
        · refine step_rws rfl _ _ rfl (numB (r.en.tm).toNat) _ rfl rfl HR.out (by first | exact List.Mem.head _ | exact List.Mem.tail _ (List.Mem.head _) | exact List.Mem.tail _ (List.Mem.tail _ (List.Mem.head _))) (by (try simp only [List.length_append]); simp only [List.length_cons, List.length_nil]; omega) ?_
          intro v6 w6 hr6 hB6
          have hcv := conv_own hr6.row
          have HR := Lib.hid hr6
          have HB := Lib.hid (HB.out.trans (hB6.mono (Nat.le_succ g)))
          have HK := Lib.hid (HK.out.below hB6 (Nat.lt_succ_self g))
          clear hr6 hB6
          refine hK.out _ _ ⟨HK.out.rc.z4, HK.out.rc.z5⟩ (fun hHeld2 => ?_)
          clear hK K hHeld
          have hHeld := hHeld2
          clear hHeld2
          ((try simp only [List.getElem_toArray, List.getElem_cons_succ, List.getElem_cons_zero]); (try simp only [Act.put, List.setIfInBounds_toArray, List.set_cons_zero, List.set_cons_succ]))
          refine wpAnyH_ready (rs := [11]) (by kernel_rfl) (by simp) ?_
          refine AllReadyH.cons rfl (fun K hK => ?_) AllReadyH.nil
          · refine step_rws rfl _ _ rfl (r.en.cB) _ rfl rfl HR.out (by first | exact List.Mem.head _ | exact List.Mem.tail _ (List.Mem.head _) | exact List.Mem.tail _ (List.Mem.tail _ (List.Mem.head _))) (by (try simp only [List.length_append]); simp only [List.length_cons, List.length_nil]; omega) ?_
            intro v6 w6 hr6 hB6
            have hcv := conv_own hr6.row
            have HR := Lib.hid hr6
            have HB := Lib.hid (HB.out.trans (hB6.mono (Nat.le_succ g)))
            have HK := Lib.hid (HK.out.below hB6 (Nat.lt_succ_self g))
            clear hr6 hB6
            refine hK.out _ _ ⟨HK.out.rc.z4, HK.out.rc.z5⟩ (fun hHeld2 => ?_)
            clear hK K hHeld
            have hHeld := hHeld2
            clear hHeld2
            ((try simp only [List.getElem_toArray, List.getElem_cons_succ, List.getElem_cons_zero]); (try simp only [Act.put, List.setIfInBounds_toArray, List.set_cons_zero, List.set_cons_succ]))
            refine wpAnyH_take (i := 12) (v := ?v12015) rfl (by kernel_rfl) (by kernel_rfl) (by kernel_rfl) (fun _ _ _ h => h) (Or.inl ⟨by rfl, ?y12015⟩) (by assumption) ?r12015
            case y12015 => (intro w hSw; (try dsimp only at hSw); (try go_simp); first | done | with_reducible rfl)
            ((try simp only [List.getElem_toArray, List.getElem_cons_succ, List.getElem_cons_zero]); (try simp only [Act.put, List.setIfInBounds_toArray, List.set_cons_zero, List.set_cons_succ]))
            refine wpAnyH_done (by kernel_rfl) ?_ _
            go_wp2
            go_ret2
            exact ⟨by have hv := HV.out; subst hv; first | rfl | (simp only [List.append_assoc, List.cons_append, List.nil_append]; rfl), HB.out⟩

set_option maxHeartbeats 8000000 in
theorem r13_Encode_4 (w : World) (r : Rc) (a : Ra) (hin : InR w r a) (wf : r.Wf) (hk : r.k = 4) (m : r.May) :
    Calls Try.prog 26 #[recV r a] w fun e w' => e = .returned (.tuple #[.string (strOfNums r.B), .int .i64 0]) ∧ Below w.heap.size w w' := by
  have k1 : (r.k == 1) = false := by rw [hk]; rfl
  have k2 : (r.k == 2) = false := by rw [hk]; rfl
  have k3 : (r.k == 3) = false := by rw [hk]; rfl
  have k4 : (r.k == 4) = true := by rw [hk]; rfl
  have k5 : (r.k == 5) = false := by rw [hk]; rfl
  have wk : IntKind.u8.wrap r.k = r.k := by rw [hk]; rfl
  obtain ⟨BB, hBB⟩ : ∃ BB, r.B = BB := ⟨_, rfl⟩
  have HV : Hid (BB = [r.k] ++ numB r.ix.toNat) := by
    show _ = _
    rw [← hBB]
    unfold Rc.B
    simp [hk]
  rw [hBB]
  have hnm : ∀ z : Int, 0 ≤ z ∧ z < 18446744073709551616 → ∀ W, Calls Try.prog 51 #[.int .u64 z] W fun x w' => ∃ v, x = .returned v ∧ Own8 w' W.heap.size v (numB z.toNat) ∧ Below W.heap.size W w' := by
    intro z hz W
    obtain ⟨n, rfl⟩ : ∃ n : Nat, z = (n : Int) := ⟨z.toNat, by omega⟩
    rw [Int.toNat_natCast]
    exact refNum_any n (by omega) W
  have CN0 := Lib.hid (hnm (r.ix) wf.ix)
  have n0 := numB_le (r.ix).toNat
  clear hnm hBB
  obtain ⟨g, hg⟩ : ∃ g, w.heap.size = g := ⟨_, rfl⟩
  rw [hg]
  have CM := fun W h => r13_May_any W r a h wf
  rw [decide_eq_true m] at CM
  unfold recV at CM
  have CM := Lib.hid CM
  clear m hk
  have hBx : Below g w (w.alloc (.cells (recC r a) 48)) := (Below.refl _ _).alloc (by omega) _
  have hb1 : Blk (w.alloc (.cells (recC r a) 48)) g 48 (recC r a) := hg ▸ Blk.new _ _ _
  have X := Lib.hid (CM.out _ (hin.keep (hg ▸ hBx)))
  have HIN := Lib.hid hin
  clear hin wf
  unfold recV
  go_enter Try.func26, Try.ntmps26
  go_upto_region 1 with (fail)
  change Code.wp _ _ _ _ (w.alloc (.cells (recC r a) 48))
  generalize (w.alloc (.cells (recC r a) 48)) = W at hb1 hBx X ⊢
  try rw [hg]
  go_wp2_with (refine wpList_load_row rfl 48 _ rfl g rfl 48 (recC r a) hb1 _ Try.underlying48 rfl info_Rec ?_)
  refine X.out.mono ?_
  rintro e w1 ⟨rfl, hB1⟩
  have hb2 := hb1.below hB1 hb1.lt
  have hB2 := hBx.trans (hB1.mono (Nat.le_of_lt hb1.lt))
  clear hb1 hBx hB1 X CM
  obtain ⟨gs, hgs⟩ : ∃ gs, w1.heap.size = gs := ⟨_, rfl⟩
  have hgl : g < gs := hgs ▸ hb2.lt
  have hr3 : Rws (w1.alloc (.cells #[.int .u8 r.k] 5)) (g + 1) (.slice (some ⟨gs, 0, none⟩) 1 1) [r.k] [] := by
    have := own8_one w1 (g + 1) r.k (by omega)
    rw [hgs] at this
    exact ⟨this, by simp [hgs]; omega, fun p hp => by cases hp⟩
  have hb3 := hb2.alloc (.cells #[.int .u8 r.k] 5)
  have hB3 := hB2.alloc (by omega) (.cells #[.int .u8 r.k] 5)
  have z0 := hb2.rc.z0
  clear hb2 hB2
  go_upto_region 4 with (fail)
  change Code.wp _ _ _ _ (w1.alloc (.cells #[.int .u8 r.k] 5))
  generalize (w1.alloc (.cells #[.int .u8 r.k] 5)) = W3 at hr3 hb3 hB3 ⊢
  try rw [hgs]
  clear hgs z0
  obtain ⟨v3, hv3⟩ : ∃ v3, Value.slice (some ⟨gs, 0, none⟩) 1 1 = v3 := ⟨_, rfl⟩
  rw [hv3] at hr3
  try rw [hv3]
  clear hv3 hgl
  have HR := Lib.hid hr3
  have HK := Lib.hid hb3
  have HB := Lib.hid hB3
  obtain ⟨z0, z1, z2, z3, z4, z5, z6, z7, z8, z9, z10, z11, z12, z13, z14, z15, z16, z17, z18, z19, z20⟩ := hb3.rc
  clear hr3 hb3 hB3
  go_wp2_with fail
  refine (CN0.out _).mono ?_; rintro x w5 ⟨v5, rfl, ho5, hB5⟩; have HR := Lib.hid (HR.out.call ho5 hB5); have HB := Lib.hid (HB.out.trans (hB5.mono (Nat.le_of_lt HK.out.lt))); have HK := Lib.hid (HK.out.below hB5 HK.out.lt)
  clear ho5 hB5 z0 z1 z2 z3 z4 z5 z6 z7 z8 z9 z10 z11 z12 z13 z14 z15 z16 z17 z18 z19 z20
  go_wp2_with (at_builtin; refine wpList_rws rfl _ _ rfl (numB (r.ix).toNat) _ rfl rfl HR.out (by first | exact List.Mem.head _ | exact List.Mem.tail _ (List.Mem.head _) | exact List.Mem.tail _ (List.Mem.tail _ (List.Mem.head _))) (by (try simp only [List.length_append]); simp only [List.length_cons, List.length_nil]; omega) ?_; intro v6 w6 hr6 hB6; have hcv := conv_own hr6.row; have HR := Lib.hid hr6; have HB := Lib.hid (HB.out.trans (hB6.mono (Nat.le_succ g))); have HK := Lib.hid (HK.out.below hB6 (Nat.lt_succ_self g)); clear hr6 hB6)
  go_ret2
  exact ⟨by have hv := HV.out; subst hv; first | rfl | (simp only [List.append_assoc, List.cons_append, List.nil_append]; rfl), HB.out⟩

set_option maxHeartbeats 8000000 in
theorem r13_Encode_5 (w : World) (r : Rc) (a : Ra) (hin : InR w r a) (wf : r.Wf) (hk : r.k = 5) (m : r.May) :
    Calls Try.prog 26 #[recV r a] w fun e w' => e = .returned (.tuple #[.string (strOfNums r.B), .int .i64 0]) ∧ Below w.heap.size w w' := by
  have k1 : (r.k == 1) = false := by rw [hk]; rfl
  have k2 : (r.k == 2) = false := by rw [hk]; rfl
  have k3 : (r.k == 3) = false := by rw [hk]; rfl
  have k4 : (r.k == 4) = false := by rw [hk]; rfl
  have k5 : (r.k == 5) = true := by rw [hk]; rfl
  have wk : IntKind.u8.wrap r.k = r.k := by rw [hk]; rfl
  obtain ⟨BB, hBB⟩ : ∃ BB, r.B = BB := ⟨_, rfl⟩
  have HV : Hid (BB = [r.k] ++ r.sh.B) := by
    show _ = _
    rw [← hBB]
    unfold Rc.B
    simp [hk]
  rw [hBB]
  have hnm : ∀ z : Int, 0 ≤ z ∧ z < 18446744073709551616 → ∀ W, Calls Try.prog 51 #[.int .u64 z] W fun x w' => ∃ v, x = .returned v ∧ Own8 w' W.heap.size v (numB z.toNat) ∧ Below W.heap.size W w' := by
    intro z hz W
    obtain ⟨n, rfl⟩ : ∃ n : Nat, z = (n : Int) := ⟨z.toNat, by omega⟩
    rw [Int.toNat_natCast]
    exact refNum_any n (by omega) W
  have hok : r.sh.Ok := by
    rcases m.2 with h | h | h | h | h
    · omega
    · omega
    · omega
    · omega
    · exact h.2
  obtain ⟨cb1, cb2, -, cb3⟩ := sh_both r.sh wf.sh hok a.s
  unfold shtV at cb3
  have CE := Lib.hid cb3
  clear cb1 cb3 hok
  clear hnm hBB
  obtain ⟨g, hg⟩ : ∃ g, w.heap.size = g := ⟨_, rfl⟩
  rw [hg]
  have CM := fun W h => r13_May_any W r a h wf
  rw [decide_eq_true m] at CM
  unfold recV at CM
  have CM := Lib.hid CM
  clear m hk
  have hBx : Below g w (w.alloc (.cells (recC r a) 48)) := (Below.refl _ _).alloc (by omega) _
  have hb1 : Blk (w.alloc (.cells (recC r a) 48)) g 48 (recC r a) := hg ▸ Blk.new _ _ _
  have X := Lib.hid (CM.out _ (hin.keep (hg ▸ hBx)))
  have HIN := Lib.hid hin
  clear hin wf
  unfold recV
  go_enter Try.func26, Try.ntmps26
  go_upto_region 1 with (fail)
  change Code.wp _ _ _ _ (w.alloc (.cells (recC r a) 48))
  generalize (w.alloc (.cells (recC r a) 48)) = W at hb1 hBx X ⊢
  try rw [hg]
  go_wp2_with (refine wpList_load_row rfl 48 _ rfl g rfl 48 (recC r a) hb1 _ Try.underlying48 rfl info_Rec ?_)
  refine X.out.mono ?_
  rintro e w1 ⟨rfl, hB1⟩
  have hb2 := hb1.below hB1 hb1.lt
  have hB2 := hBx.trans (hB1.mono (Nat.le_of_lt hb1.lt))
  clear hb1 hBx hB1 X CM
  obtain ⟨gs, hgs⟩ : ∃ gs, w1.heap.size = gs := ⟨_, rfl⟩
  have hgl : g < gs := hgs ▸ hb2.lt
  have hr3 : Rws (w1.alloc (.cells #[.int .u8 r.k] 5)) (g + 1) (.slice (some ⟨gs, 0, none⟩) 1 1) [r.k] [] := by
    have := own8_one w1 (g + 1) r.k (by omega)
    rw [hgs] at this
    exact ⟨this, by simp [hgs]; omega, fun p hp => by cases hp⟩
  have hb3 := hb2.alloc (.cells #[.int .u8 r.k] 5)
  have hB3 := hB2.alloc (by omega) (.cells #[.int .u8 r.k] 5)
  have z0 := hb2.rc.z0
  clear hb2 hB2
  go_upto_region 4 with (fail)
  change Code.wp _ _ _ _ (w1.alloc (.cells #[.int .u8 r.k] 5))
  generalize (w1.alloc (.cells #[.int .u8 r.k] 5)) = W3 at hr3 hb3 hB3 ⊢
  try rw [hgs]
  clear hgs z0
  obtain ⟨v3, hv3⟩ : ∃ v3, Value.slice (some ⟨gs, 0, none⟩) 1 1 = v3 := ⟨_, rfl⟩
  rw [hv3] at hr3
  try rw [hv3]
  clear hv3 hgl
  have HR := Lib.hid hr3
  have HK := Lib.hid hb3
  have HB := Lib.hid hB3
  obtain ⟨z0, z1, z2, z3, z4, z5, z6, z7, z8, z9, z10, z11, z12, z13, z14, z15, z16, z17, z18, z19, z20⟩ := hb3.rc
  clear hr3 hb3 hB3
  go_wp2_with fail
  refine (CE.out _ (HIN.out.keep (hg ▸ HB.out)).sh).mono ?_; rintro x w5 ⟨v5, rfl, ho5, hB5⟩; have HR := Lib.hid (HR.out.call ho5 hB5); have HB := Lib.hid (HB.out.trans (hB5.mono (Nat.le_of_lt HK.out.lt))); have HK := Lib.hid (HK.out.below hB5 HK.out.lt)
  clear ho5 hB5 z0 z1 z2 z3 z4 z5 z6 z7 z8 z9 z10 z11 z12 z13 z14 z15 z16 z17 z18 z19 z20
  go_wp2_with (at_builtin; refine wpList_rws rfl _ _ rfl (r.sh.B) _ rfl rfl HR.out (by first | exact List.Mem.head _ | exact List.Mem.tail _ (List.Mem.head _) | exact List.Mem.tail _ (List.Mem.tail _ (List.Mem.head _))) (by (try simp only [List.length_append]); simp only [List.length_cons, List.length_nil]; omega) ?_; intro v6 w6 hr6 hB6; have hcv := conv_own hr6.row; have HR := Lib.hid hr6; have HB := Lib.hid (HB.out.trans (hB6.mono (Nat.le_succ g))); have HK := Lib.hid (HK.out.below hB6 (Nat.lt_succ_self g)); clear hr6 hB6)
  go_ret2
  exact ⟨by have hv := HV.out; subst hv; first | rfl | (simp only [List.append_assoc, List.cons_append, List.nil_append]; rfl), HB.out⟩

set_option maxHeartbeats 8000000 in
theorem r13_Encode_bad (w : World) (r : Rc) (a : Ra) (hin : InR w r a) (wf : r.Wf) (m : ¬ r.May) :
    Calls Try.prog 26 #[recV r a] w fun e w' => e = .returned (.tuple #[.string ⟨#[]⟩, .int .i64 130]) ∧ Below w.heap.size w w' := by
  obtain ⟨g, hg⟩ : ∃ g, w.heap.size = g := ⟨_, rfl⟩
  rw [hg]
  have CM := fun W h => r13_May_any W r a h wf
  rw [decide_eq_false m] at CM
  unfold recV at CM
  have CM := Lib.hid CM
  clear m 
  have hBx : Below g w (w.alloc (.cells (recC r a) 48)) := (Below.refl _ _).alloc (by omega) _
  have hb1 : Blk (w.alloc (.cells (recC r a) 48)) g 48 (recC r a) := hg ▸ Blk.new _ _ _
  have X := Lib.hid (CM.out _ (hin.keep (hg ▸ hBx)))
  have HIN := Lib.hid hin
  clear hin wf
  unfold recV
  go_enter Try.func26, Try.ntmps26
  go_upto_region 1 with (fail)
  change Code.wp _ _ _ _ (w.alloc (.cells (recC r a) 48))
  generalize (w.alloc (.cells (recC r a) 48)) = W at hb1 hBx X ⊢
  try rw [hg]
  go_wp2_with (refine wpList_load_row rfl 48 _ rfl g rfl 48 (recC r a) hb1 _ Try.underlying48 rfl info_Rec ?_)
  refine X.out.mono ?_
  rintro e w1 ⟨rfl, hB1⟩
  have hb2 := hb1.below hB1 hb1.lt
  have hB2 := hBx.trans (hB1.mono (Nat.le_of_lt hb1.lt))
  clear hb1 hBx hB1 X CM
  have HB2 := Lib.hid hB2
  clear hb2 hB2
  go_wp2
  go_ret2
  exact ⟨rfl, HB2.out⟩

end Go.Proofs.Ytadkkhbbempaaaa
