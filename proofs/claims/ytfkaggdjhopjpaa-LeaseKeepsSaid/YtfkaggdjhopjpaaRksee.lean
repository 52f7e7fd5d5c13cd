/- The document's keeper: Sees, Leads. -/
import Derived.Test.YtfkaggdjhopjpaaRk
import Derived.Deep.RegionHeld
import Derived.Deep.DeepCutAuto
namespace Go.Proofs.Ytfkaggdjhopjpaa
set_option maxRecDepth 100000
open Go.RowKit

theorem info_Rk1 : (Try.prog.info? 116).map (·.size) = some 6 := by kernel_rfl
theorem rkA_one (x : Rk) : (rkA x).all (·.oneCell') = true := by simp [rkA, Value.oneCell']
def RSeeE (w : World) (gr : Nat) (L : Int) (xs : List Rk) (e : Ending) (w' : World) : Prop :=
  e = .returned (.tuple #[]) ∧ ∃ A' c', RS w' gr A' c' L xs ∧ (∀ q, A' = some q → w.heap.size ≤ q.block) ∧ Tr w w' (fun j => j = gr)
set_option maxHeartbeats 8000000 in
theorem ref_Sees_any (w : World) (gr : Nat) (A : Option Addr) (c : Nat) (L : Int) (xs : List Rk) (now lim nxt : Int) (Ah : Option Addr) (ch : Nat) (hs : List Hd) (Al : Option Addr) (cl m : Nat)
    (k : RS w gr A c L xs) (hx : xs.length ≤ 64) (hh : InS hdC 5 w Ah ch hs) (hw : ∀ h ∈ hs, h.Wf) (hl : hs.length ≤ 64) :
    Calls Try.prog 17 #[.pointer (some ⟨gr, 0, none⟩), .int .i64 now, ledV lim nxt (.slice Ah hs.length ch) (.slice Al m cl)] w (RSeeE w gr L (seeR xs (tmC now) hs)) := by
  obtain ⟨g, hg⟩ : ∃ g, w.heap.size = g := ⟨_, rfl⟩
  have hkg : gr < g := hg ▸ k.lt
  have hb0 : Blk (w.alloc (.cells (ledC lim nxt (.slice Ah hs.length ch) (.slice Al m cl)) 26)) g 26 (ledC lim nxt (.slice Ah hs.length ch) (.slice Al m cl)) := hg ▸ Blk.new _ _ _
  have hB0 : Below g w (w.alloc (.cells (ledC lim nxt (.slice Ah hs.length ch) (.slice Al m cl)) 26)) := (Below.refl _ _).alloc (by omega) _
  have hcap := hh.cap
  have HH := Lib.hid hh
  have HW := Lib.hid hw
  have HK := Lib.hid k
  have CT := fun W => Lib.hid (ref_Time_any W now)
  obtain ⟨t, ht⟩ : ∃ t, tmC now = t := ⟨_, rfl⟩
  have htr : 0 ≤ t ∧ t ≤ 4611686018427387904 := ⟨ht ▸ tmC_lo now, ht ▸ tmC_hi now⟩
  have HTR := Lib.hid htr
  rw [ht] at CT ⊢
  obtain ⟨Q, hQ⟩ : ∃ Q, RSeeE w gr L (seeR xs t hs) = Q := ⟨_, rfl⟩
  have HQ := Lib.hid hQ
  rw [hQ]
  have HG := Lib.hid hg
  clear hh hw k ht htr hQ
  unfold ledV
  go_enter Try.func17, Try.ntmps17
  go_upto_region 1 with (fail)
  change Code.wp _ _ _ _ (w.alloc (.cells (ledC lim nxt (.slice Ah hs.length ch) (.slice Al m cl)) 26))
  generalize (w.alloc (.cells (ledC lim nxt (.slice Ah hs.length ch) (.slice Al m cl)) 26)) = W0 at hb0 hB0 ⊢
  try rw [hg]
  obtain ⟨q0, q1, q2, q3⟩ := hb0.led
  have HB0 := Lib.hid hB0
  clear hB0 hb0 hg
  go_wp2_with fail
  clear q0 q1 q2 q3
  go_loopw [6, 8, 9, 11, 15] (fun rv _ _ _ iv wr => ∃ (k : Nat), iv = .int .i64 (k : Int) ∧ k ≤ hs.length ∧ wr.ownsRow g 116 6 rv (seeR xs t (hs.take k)).length ((seeR xs t (hs.take k)).flatMap rkC) ∧ Below g w wr) (fun _ _ _ _ iv _ => hs.length - (intOf iv).toNat)
  case atStart => exact ⟨0, rfl, by omega, own_nil _ _ _ _, HB0.out⟩
  case round =>
    clear HB0
    obtain ⟨k, rfl, hk, ho, hB⟩ := hrel
    have HO := Lib.hid ho
    have HB := Lib.hid hB
    clear ho
    by_cases hkl : k < hs.length
    · obtain ⟨b, off, rfl, hbb, hat⟩ := (HH.out.keep (HG.out ▸ hB)).hd (by omega)
      have hatk := hat k hkl
      have hwx := HW.out _ (List.getElem_mem hkl)
      obtain ⟨x, hx⟩ : ∃ x, hs[k] = x := ⟨_, rfl⟩
      rw [hx] at hatk hwx
      have HX := Lib.hid hx
      have HWX := Lib.hid hwx
      obtain ⟨c0, c1, c2, c3, c4⟩ := hatk
      have hgw : g ≤ wr.heap.size := by have := hB.size; have := HG.out; omega
      obtain ⟨g8, hg8⟩ : ∃ g8, wr.heap.size = g8 := ⟨_, rfl⟩
      have h8 : Blk (wr.alloc (.cells (hdA x) 55)) g8 55 (hdA x) := hg8 ▸ Blk.new _ _ _
      have hO4 := HO.out.alloc (.cells (hdA x) 55)
      have hB4 := HB.out.alloc hgw (.cells (hdA x) 55)
      have hz4 : (wr.alloc (.cells (hdA x) 55)).heap.size = g8 + 1 := by simp [hg8]
      have hgg8 : g ≤ g8 := by omega
      have HVB : Hid (∀ b, u6.ownBlock = some b → b < g8) := fun b hb => hg8 ▸ (World.ownsRow.lt HO.out b hb).2
      clear hat hx hwx hB HO HB
      go_upto_region 5 with (fail)
      change Code.wp _ _ _ _ (wr.alloc (.cells (hdA x) 55))
      generalize (wr.alloc (.cells (hdA x) 55)) = W4 at h8 hO4 hB4 hz4 ⊢
      try rw [hg8]
      clear c0 c1 c2 c3 c4 hbb hg8
      obtain ⟨d0, d1, d2, d3, d4⟩ := h8.hd
      have HZ4 := Lib.hid hz4
      clear hz4 d0 d1 d2 d3 d4
      go_cut [9] (fun x9 wx => x9 = .pointer (some ⟨g8 + 1, 0, none⟩) ∧ Blk wx (g8 + 1) 116 (rkA ⟨x, t⟩) ∧ Below W4.heap.size W4 wx ∧ wx.heap.size = g8 + 2)
      case first =>
        have B0 := Lib.hid ((Below.refl W4.heap.size W4).drew)
        have HD8 : Hid (Blk W4.drew g8 55 (hdA x)) := h8
        have HZD : Hid (W4.drew.heap.size = g8 + 1) := HZ4.out
        refine wp_region_held_drew (S := fun w' => Blk w' g8 55 (hdA x)) (by kernel_rfl) HD8.out (fun hHeld => ?_)
        generalize W4.drew = W4d at B0 HD8 HZD ⊢
        refine wpAnyH_take (i := 0) (v := ?v0x0) rfl (by kernel_rfl) (by kernel_rfl) (by kernel_rfl) (fun _ _ _ h => h) (Or.inl ⟨by rfl, ?yv0x0⟩) (by assumption) ?rv0x0
        case yv0x0 => (intro w hSw; have hc0 := hSw.hd.c0; have hc1 := hSw.hd.c1; have hc2 := hSw.hd.c2; have hc3 := hSw.hd.c3; have hc4 := hSw.hd.c4; (try simp only [Nat.zero_add] at hc1 hc2 hc3 hc4); (try go_simp); first | done | with_reducible rfl)
        ((try simp only [List.getElem_toArray, List.getElem_cons_zero]); (try simp only [Act.put, List.setIfInBounds_toArray, List.set_cons_zero, List.set_cons_succ]))
        refine wpAnyH_take (i := 1) (v := ?v1x1) rfl (by kernel_rfl) (by kernel_rfl) (by kernel_rfl) (fun _ _ _ h => h) (Or.inl ⟨by rfl, ?yv1x1⟩) (by assumption) ?rv1x1
        case yv1x1 => (intro w hSw; have hc0 := hSw.hd.c0; have hc1 := hSw.hd.c1; have hc2 := hSw.hd.c2; have hc3 := hSw.hd.c3; have hc4 := hSw.hd.c4; (try simp only [Nat.zero_add] at hc1 hc2 hc3 hc4); (try go_simp); first | done | with_reducible rfl)
        ((try simp only [List.getElem_toArray, List.getElem_cons_succ, List.getElem_cons_zero]); (try simp only [Act.put, List.setIfInBounds_toArray, List.set_cons_zero, List.set_cons_succ]))
        refine wpAnyH_ready (rs := [2, 4]) (by kernel_rfl) (by simp) ?_
        refine AllReadyH.cons rfl (fun K hK => ?_) (AllReadyH.cons rfl (fun K hK => ?_) AllReadyH.nil)
        · go_simp
          refine ((CT _).out).mono ?_
          rintro e w5 ⟨rfl, hw5⟩
          obtain rfl := hw5.symm
          go_simp
          refine hK.out _ _ HD8.out (fun hHeld2 => ?_)
          clear hK K hHeld
          have hHeld := hHeld2
          clear hHeld2
          ((try simp only [List.getElem_toArray, List.getElem_cons_succ, List.getElem_cons_zero]); (try simp only [Act.put, List.setIfInBounds_toArray, List.set_cons_zero, List.set_cons_succ]))
          refine wpAnyH_take (i := 3) (v := ?v3x10) rfl (by kernel_rfl) (by kernel_rfl) (by kernel_rfl) (fun _ _ _ h => h) (Or.inl ⟨by rfl, ?yv3x10⟩) (by assumption) ?rv3x10
          case yv3x10 => (intro w hSw; have hc0 := hSw.hd.c0; have hc1 := hSw.hd.c1; have hc2 := hSw.hd.c2; have hc3 := hSw.hd.c3; have hc4 := hSw.hd.c4; (try simp only [Nat.zero_add] at hc1 hc2 hc3 hc4); (try go_simp); first | done | with_reducible rfl)
          ((try simp only [List.getElem_toArray, List.getElem_cons_succ, List.getElem_cons_zero]); (try simp only [Act.put, List.setIfInBounds_toArray, List.set_cons_zero, List.set_cons_succ]))
          refine wpAnyH_ready (rs := [4]) (by kernel_rfl) (by simp) ?_
          refine AllReadyH.cons rfl (fun K hK => ?_) AllReadyH.nil
          go_simp
          have HNZ : Hid (Blk (W4d.alloc (.cells #[.int .i64 0, .int .i64 0, .int .u64 0, .int .u64 0, .int .u64 0, .int .i64 0] 116)) (g8 + 1) 116 #[.int .i64 0, .int .i64 0, .int .u64 0, .int .u64 0, .int .u64 0, .int .i64 0]) := by
            have h := Blk.new W4d 116 #[.int .i64 0, .int .i64 0, .int .u64 0, .int .u64 0, .int .u64 0, .int .i64 0]
            rw [HZD.out] at h
            exact h
          have HBZ := Lib.hid (B0.out.alloc (by have := B0.out.size; exact this) (.cells #[.int .i64 0, .int .i64 0, .int .u64 0, .int .u64 0, .int .u64 0, .int .i64 0] 116))
          have HDZ := Lib.hid (HD8.out.alloc (.cells #[.int .i64 0, .int .i64 0, .int .u64 0, .int .u64 0, .int .u64 0, .int .i64 0] 116))
          refine hK.out _ _ HDZ.out (fun hHeld2 => ?_)
          clear hK K hHeld
          have hHeld := hHeld2
          clear hHeld2
          ((try simp only [List.getElem_toArray, List.getElem_cons_succ, List.getElem_cons_zero]); (try simp only [Act.put, List.setIfInBounds_toArray, List.set_cons_zero, List.set_cons_succ]))
          refine wpAnyH_ready (rs := [5]) (by kernel_rfl) (by simp) ?_
          refine AllReadyH.cons rfl (fun K hK => ?_) AllReadyH.nil
          refine step_store_row rfl 116 _ _ rfl (g8 + 1) (rkA ⟨x, t⟩) (by rw [← HZD.out]; rfl) rfl 116 _ HNZ.out info_Rk1 rfl (rkA_one _) ?_
          refine hK.out _ _ (HDZ.out.rowFar (by omega)) (fun hHeld2 => ?_)
          clear hK K hHeld
          have hHeld := hHeld2
          clear hHeld2
          refine wpAnyH_done (by kernel_rfl) ?_ _
          go_wp2
          go_meet
          case rel => exact ⟨by rw [HZD.out], Blk.row HNZ.out, row_below HBZ.out (by have := HZD.out; have := HZ4.out; omega) _, by rw [row_size]; simp; exact HZD.out⟩
        · go_simp
          have HNZ : Hid (Blk (W4d.alloc (.cells #[.int .i64 0, .int .i64 0, .int .u64 0, .int .u64 0, .int .u64 0, .int .i64 0] 116)) (g8 + 1) 116 #[.int .i64 0, .int .i64 0, .int .u64 0, .int .u64 0, .int .u64 0, .int .i64 0]) := by
            have h := Blk.new W4d 116 #[.int .i64 0, .int .i64 0, .int .u64 0, .int .u64 0, .int .u64 0, .int .i64 0]
            rw [HZD.out] at h
            exact h
          have HBZ := Lib.hid (B0.out.alloc (by have := B0.out.size; exact this) (.cells #[.int .i64 0, .int .i64 0, .int .u64 0, .int .u64 0, .int .u64 0, .int .i64 0] 116))
          have HDZ := Lib.hid (HD8.out.alloc (.cells #[.int .i64 0, .int .i64 0, .int .u64 0, .int .u64 0, .int .u64 0, .int .i64 0] 116))
          refine hK.out _ _ HDZ.out (fun hHeld2 => ?_)
          clear hK K hHeld
          have hHeld := hHeld2
          clear hHeld2
          ((try simp only [List.getElem_toArray, List.getElem_cons_succ, List.getElem_cons_zero]); (try simp only [Act.put, List.setIfInBounds_toArray, List.set_cons_zero, List.set_cons_succ]))
          refine wpAnyH_ready (rs := [2]) (by kernel_rfl) (by simp) ?_
          refine AllReadyH.cons rfl (fun K hK => ?_) AllReadyH.nil
          go_simp
          refine ((CT _).out).mono ?_
          rintro e w5 ⟨rfl, hw5⟩
          obtain rfl := hw5.symm
          go_simp
          refine hK.out _ _ HDZ.out (fun hHeld2 => ?_)
          clear hK K hHeld
          have hHeld := hHeld2
          clear hHeld2
          ((try simp only [List.getElem_toArray, List.getElem_cons_succ, List.getElem_cons_zero]); (try simp only [Act.put, List.setIfInBounds_toArray, List.set_cons_zero, List.set_cons_succ]))
          refine wpAnyH_take (i := 3) (v := ?v3x20) rfl (by kernel_rfl) (by kernel_rfl) (by kernel_rfl) (fun _ _ _ h => h) (Or.inl ⟨by rfl, ?yv3x20⟩) (by assumption) ?rv3x20
          case yv3x20 => (intro w hSw; have hc0 := hSw.hd.c0; have hc1 := hSw.hd.c1; have hc2 := hSw.hd.c2; have hc3 := hSw.hd.c3; have hc4 := hSw.hd.c4; (try simp only [Nat.zero_add] at hc1 hc2 hc3 hc4); (try go_simp); first | done | with_reducible rfl)
          ((try simp only [List.getElem_toArray, List.getElem_cons_succ, List.getElem_cons_zero]); (try simp only [Act.put, List.setIfInBounds_toArray, List.set_cons_zero, List.set_cons_succ]))
          refine wpAnyH_ready (rs := [5]) (by kernel_rfl) (by simp) ?_
          refine AllReadyH.cons rfl (fun K hK => ?_) AllReadyH.nil
          refine step_store_row rfl 116 _ _ rfl (g8 + 1) (rkA ⟨x, t⟩) (by rw [← HZD.out]; rfl) rfl 116 _ HNZ.out info_Rk1 rfl (rkA_one _) ?_
          refine hK.out _ _ (HDZ.out.rowFar (by omega)) (fun hHeld2 => ?_)
          clear hK K hHeld
          have hHeld := hHeld2
          clear hHeld2
          refine wpAnyH_done (by kernel_rfl) ?_ _
          go_wp2
          go_meet
          case rel => exact ⟨by rw [HZD.out], Blk.row HNZ.out, row_below HBZ.out (by have := HZD.out; have := HZ4.out; omega) _, by rw [row_size]; simp; exact HZD.out⟩
      case rest =>
      obtain ⟨rfl, h9, hB9, hz9⟩ := hcut
      obtain ⟨g9, hg9⟩ : ∃ g9, g8 + 1 = g9 := ⟨_, rfl⟩
      rw [hg9] at h9
      try rw [hg9]
      have hW4 : W4.heap.size = g8 + 1 := HZ4.out
      have h8' := h8.below hB9 h8.lt
      have hO5 := own_below hO4 hB9
      have hB5 := hB4.trans (hB9.mono (by omega))
      have hKc := HK.out.keep (HG.out ▸ hB5)
      have k1 : wc.cell? ⟨gr, 1, none⟩ = some (.slice A xs.length c) := (hKc.blk.cell 1).trans rfl
      have H9 := Lib.hid h9
      have H8 := Lib.hid h8'
      have HO5 := Lib.hid hO5
      have HB5 := Lib.hid hB5
      clear h9 h8' hO5 hB5 h8 hO4 hB4 HZ4 hB9 hz9 hKc hW4
      go_wp2_with fail
      clear k1
      go_loopw [11, 28] (fun _ jv wr => ∃ (j : Nat), jv = .int .i64 (j : Int) ∧ j ≤ xs.length ∧ Blk wr g9 116 (rkA ⟨x, lastS (xs.take j) x.rw t⟩) ∧ Blk wr g8 55 (hdA x) ∧ wr.ownsRow g 116 6 u6 (seeR xs t (hs.take k)).length ((seeR xs t (hs.take k)).flatMap rkC) ∧ Below g w wr) (fun _ jv _ => xs.length - (intOf jv).toNat)
      case atStart => exact ⟨0, rfl, by omega, H9.out, H8.out, HO5.out, HB5.out⟩
      case round =>
        clear H9 H8 HO5 HB5
        obtain ⟨j, rfl, hj, h9, h8, ho, hB⟩ := hrel
        have HO := Lib.hid ho
        have HB := Lib.hid hB
        clear ho
        by_cases hjl : j < xs.length
        · have hKi := HK.out.keep (HG.out ▸ hB)
          obtain ⟨b2, off2, rfl, hbb2, hat2⟩ := (hKi.inS hx).rk (by omega)
          have hatj := hat2 j hjl
          have hsu := lastS_succ xs x.rw t j hjl
          obtain ⟨y, hy⟩ : ∃ y, xs[j] = y := ⟨_, rfl⟩
          rw [hy] at hatj hsu
          obtain ⟨c0, c1, c2, c3, c4, c5⟩ := hatj
          have hgw : g ≤ wr.heap.size := by have := hB.size; have := HG.out; omega
          obtain ⟨gb, hgb⟩ : ∃ gb, wr.heap.size = gb := ⟨_, rfl⟩
          have h9b : g9 < gb := hgb ▸ h9.lt
          have hb : Blk (wr.alloc (.cells (rkA y) 116)) gb 116 (rkA y) := hgb ▸ Blk.new _ _ _
          have h9' := h9.alloc (.cells (rkA y) 116)
          have h8' := h8.alloc (.cells (rkA y) 116)
          have hO7 := HO.out.alloc (.cells (rkA y) 116)
          have hB7 := HB.out.alloc hgw (.cells (rkA y) 116)
          have HSU := Lib.hid hsu
          clear hKi hat2 hy hB HO HB h9 h8 hsu
          go_upto_region 9 with (fail)
          change Code.wp _ _ _ _ (wr.alloc (.cells (rkA y) 116))
          generalize (wr.alloc (.cells (rkA y) 116)) = W7 at hb h9' h8' hO7 hB7 ⊢
          try rw [hgb]
          clear c0 c1 c2 c3 c4 c5 hbb2
          obtain ⟨y0, y1, y2, y3, y4, y5⟩ := hb.rk
          simp only [Nat.zero_add] at y1 y2 y3 y4 y5
          obtain ⟨z0, z1, z2, z3, z4⟩ := h8'.hd
          simp only [Nat.zero_add] at z1 z2 z3 z4
          have r5 : W7.cell? ⟨g9, 5, none⟩ = some (.int .i64 (lastS (xs.take j) x.rw t)) := (h9'.cell 5).trans rfl
          have f5 := h9'.frozen 5
          have H9 := Lib.hid h9'
          have H8 := Lib.hid h8'
          have HO7 := Lib.hid hO7
          have HB7 := Lib.hid hB7
          clear hb h9' h8' hO7 hB7
          cases e1 : (y.h.tok == x.tok)
          · have HN : Hid (lastS (xs.take (j + 1)) x.rw t = lastS (xs.take j) x.rw t) := by
              show _ = _
              rw [HSU.out, if_neg (fun e => by have := (rw_eq.1 e).1; simp [Hd.rw] at this; simp [this] at e1)]
            go_wp2
            go_roundw
            case rel => exact ⟨j + 1, by go_num, by omega, by rw [HN.out]; exact H9.out, H8.out, HO7.out, HB7.out⟩
            case measure => simp [intOf]; omega
          cases e2 : (y.h.ser == x.ser)
          · have HN : Hid (lastS (xs.take (j + 1)) x.rw t = lastS (xs.take j) x.rw t) := by
              show _ = _
              rw [HSU.out, if_neg (fun e => by have := (rw_eq.1 e).2.1; simp [Hd.rw] at this; simp [this] at e2)]
            go_wp2
            go_roundw
            case rel => exact ⟨j + 1, by go_num, by omega, by rw [HN.out]; exact H9.out, H8.out, HO7.out, HB7.out⟩
            case measure => simp [intOf]; omega
          cases e3 : (y.h.stp == x.stp)
          · have HN : Hid (lastS (xs.take (j + 1)) x.rw t = lastS (xs.take j) x.rw t) := by
              show _ = _
              rw [HSU.out, if_neg (fun e => by have := (rw_eq.1 e).2.2; simp [Hd.rw] at this; simp [this] at e3)]
            go_wp2
            go_roundw
            case rel => exact ⟨j + 1, by go_num, by omega, by rw [HN.out]; exact H9.out, H8.out, HO7.out, HB7.out⟩
            case measure => simp [intOf]; omega
          have HN : Hid (lastS (xs.take (j + 1)) x.rw t = y.s) := by
            show _ = _
            rw [HSU.out, if_pos (rw_eq.2 ⟨by simpa [Hd.rw] using e1, by simpa [Hd.rw] using e2, by simpa [Hd.rw] using e3⟩)]
          go_wp2
          go_roundw
          case rel =>
            have hset : Blk (W7.setCell ⟨g9, 5, none⟩ (.int .i64 y.s)) g9 116 (rkA ⟨x, y.s⟩) := by
              have := H9.out.set_ 5 (.int .i64 y.s)
              simpa [rkA] using this
            have hne : g8 ≠ g9 := by omega
            refine ⟨j + 1, by go_num, by omega, by rw [HN.out]; exact hset, H8.out.far (p := ⟨g9, 5, none⟩) hne _, own_tr HO7.out ((Tr.refl W7 (fun i => i = g9)).setCell (a := ⟨g9, 5, none⟩) (fun _ => rfl) _) (fun i hi e => by have := HVB.out i hi; omega), HB7.out.setCell (p := ⟨g9, 5, none⟩) (by show g ≤ g9; omega) _⟩
          case measure => simp [intOf]; omega
        · obtain rfl : j = xs.length := by omega
          rw [List.take_length] at h9
          have hz9 : g9 < wr.heap.size := h9.lt
          obtain ⟨y0, y1, y2, y3, y4, y5⟩ := h9.rk
          simp only [Nat.zero_add] at y1 y2 y3 y4 y5
          have ho6 := HO.out
          have hgz : g ≤ wr.heap.size := by omega
          have HGZ := Lib.hid hgz
          have HLN : Hid (((seeR xs t (hs.take k)).length + 1) * 48 ≤ 140737488355328) := by
            show _ ≤ _
            simp [seeR]
            omega
          have HSR : Hid (seeR xs t (hs.take (k + 1)) = seeR xs t (hs.take k) ++ [⟨x, lastS xs x.rw t⟩]) := by
            show _ = _
            unfold seeR
            rw [← List.take_append_getElem hkl, List.map_append, HX.out]
            rfl
          clear h9 h8 hB hgz
          go_wp2_with (refine wpList_oneH (f := rkC) (W := wr) Try.underlying112 info_Rk rfl (by omega) rkC_len rkC_one g rfl _ _ rfl u6 (seeR xs t (hs.take k)) ⟨x, lastS xs x.rw t⟩ rfl rfl rfl ho6 HGZ.out HLN.out (by omega) ?_; intro v8 w8 ho8 hg8 hat8; have HO8 := Lib.hid ho8; have HG8 := Lib.hid hg8; clear ho8 hg8 hat8)
          go_roundw
          case rel =>
            refine ⟨k + 1, by go_num, by omega, ?_, HB.out.grown HG8.out HGZ.out (fun i hi => own_base HO.out i hi)⟩
            rw [HSR.out]
            exact HO8.out
          case measure => simp [intOf]; omega
    · obtain rfl : k = hs.length := by omega
      have hown : wr.ownsRow g 116 6 u6 (seeR xs t hs).length ((seeR xs t hs).flatMap rkC) := by
        have := HO.out
        rwa [List.take_length] at this
      have hlen : (seeR xs t hs).length = hs.length := by simp [seeR]
      have hbase := own_base hown
      obtain ⟨A8, c8, rfl, _, _, _⟩ := own_open hown
      have hKr := HK.out.keep (HG.out ▸ hB)
      have k1 : wr.cell? ⟨gr, 1, none⟩ = some (.slice A xs.length c) := (hKr.blk.cell 1).trans rfl
      have f1 := hKr.blk.frozen 1
      have HKR := Lib.hid hKr
      have HOW := Lib.hid hown
      have HBS := Lib.hid hbase
      clear hown hKr hbase
      rw [hlen] at HOW
      try rw [hlen]
      have hblk : Blk (wr.setCell ⟨gr, 1, none⟩ (.slice A8 hs.length c8)) gr 114 (rkpC L (.slice A8 hs.length c8)) := by
        have := HKR.out.blk.set_ 1 (.slice A8 hs.length c8)
        simpa [rkpC] using this
      have hneA : ∀ q, A8 = some q → q.block ≠ gr := fun q e => by
        have := HBS.out q.block (by rw [e]; rfl)
        omega
      have hrow : (wr.setCell ⟨gr, 1, none⟩ (.slice A8 hs.length c8)).ownsRow 0 116 6 (.slice A8 hs.length c8) hs.length ((seeR xs t hs).flatMap rkC) := by
        refine own_tr (P := fun i => i = gr) ?_ ((Tr.refl wr (fun i => i = gr)).setCell (a := ⟨gr, 1, none⟩) (fun _ => rfl) _) (fun i hi e => by
          cases A8 with
          | none => cases hi
          | some q => injection hi with hi; exact hneA q rfl (by rw [hi]; exact e))
        have := HOW.out
        rcases this.2 with h1 | ⟨g', cap, cur, e, _, h3⟩
        · exact ⟨this.1, .inl h1⟩
        · exact ⟨this.1, .inr ⟨g', cap, cur, e, Nat.zero_le _, h3⟩⟩
      have htr : Tr w (wr.setCell ⟨gr, 1, none⟩ (.slice A8 hs.length c8)) (fun i => i = gr) := (Tr.of_below (P := fun i => i = gr) (by rw [HG.out]; exact HB.out)).setCell (a := ⟨gr, 1, none⟩) (fun _ => rfl) _
      have HP : Hid (Q (.returned (.tuple #[])) (wr.setCell ⟨gr, 1, none⟩ (.slice A8 hs.length c8))) := by
        rw [← HQ.out]
        refine ⟨rfl, A8, c8, ⟨by rw [hlen]; exact hblk, by rw [hlen]; exact hrow, ?_, ?_⟩, fun q e => ?_, htr⟩
        · intro y hy
          obtain ⟨h, hh, rfl⟩ := List.mem_map.1 hy
          exact HW.out h hh
        · intro y hy
          obtain ⟨h, hh, rfl⟩ := List.mem_map.1 hy
          exact lastS_rng xs _ _ HTR.out HK.out.rng
        · have := HBS.out q.block (by rw [e]; rfl)
          have := HG.out
          omega
      clear hblk hneA hrow htr hB
      go_wp2
      exact bodyPost_end (results_none rfl _ _ _) rfl HP.out
set_option maxHeartbeats 8000000 in
theorem ref_Leads_any (w : World) (gr : Nat) (A : Option Addr) (c : Nat) (L : Int) (xs : List Rk) (now lim nxt : Int) (Ah : Option Addr) (ch : Nat) (hs : List Hd) (Al : Option Addr) (cl m : Nat)
    (k : RS w gr A c L xs) (hh : InS hdC 5 w Ah ch hs) (hf : 0 < hs.length → ∀ q, Ah = some q → q.block ≠ gr) (hw : ∀ h ∈ hs, h.Wf) (hl : hs.length ≤ 64) :
    Calls Try.prog 16 #[.pointer (some ⟨gr, 0, none⟩), .int .i64 now, ledV lim nxt (.slice Ah hs.length ch) (.slice Al m cl)] w (RSeeE w gr L (seeR [] (tmC now) hs)) := by
  obtain ⟨g, hg⟩ : ∃ g, w.heap.size = g := ⟨_, rfl⟩
  have hkg : gr < g := hg ▸ k.lt
  have hb0 : Blk (w.alloc (.cells (ledC lim nxt (.slice Ah hs.length ch) (.slice Al m cl)) 26)) g 26 (ledC lim nxt (.slice Ah hs.length ch) (.slice Al m cl)) := hg ▸ Blk.new _ _ _
  have hB0 : Below w.heap.size w (w.alloc (.cells (ledC lim nxt (.slice Ah hs.length ch) (.slice Al m cl)) 26)) := (Below.refl _ _).alloc (by omega) _
  have hz0 : (w.alloc (.cells (ledC lim nxt (.slice Ah hs.length ch) (.slice Al m cl)) 26)).heap.size = g + 1 := by simp [hg]
  have hk0 := k.keep hB0
  have hh0 := hh.keep hB0
  have ht0 : Tr w (w.alloc (.cells (ledC lim nxt (.slice Ah hs.length ch) (.slice Al m cl)) 26)) (fun j => j = gr) := Tr.of_below hB0
  have HW := Lib.hid hw
  obtain ⟨Q, hQ⟩ : ∃ Q, RSeeE w gr L (seeR [] (tmC now) hs) = Q := ⟨_, rfl⟩
  have HQ := Lib.hid hQ
  rw [hQ]
  have HG := Lib.hid hg
  have HF := Lib.hid hf
  clear hh hw k hQ hB0 hf
  unfold ledV
  go_enter Try.func16, Try.ntmps16
  go_upto_region 1 with (fail)
  change Code.wp _ _ _ _ (w.alloc (.cells (ledC lim nxt (.slice Ah hs.length ch) (.slice Al m cl)) 26))
  generalize (w.alloc (.cells (ledC lim nxt (.slice Ah hs.length ch) (.slice Al m cl)) 26)) = W0 at hb0 hz0 hk0 hh0 ht0 ⊢
  try rw [hg]
  have k1 : W0.cell? ⟨gr, 1, none⟩ = some (.slice A xs.length c) := (hk0.blk.cell 1).trans rfl
  have f1 := hk0.blk.frozen 1
  have hblk : Blk (W0.setCell ⟨gr, 1, none⟩ (.slice none 0 0)) gr 114 (rkpC L (.slice none 0 0)) := by
    have := hk0.blk.set_ 1 (.slice none 0 0)
    simpa [rkpC] using this
  have hks : RS (W0.setCell ⟨gr, 1, none⟩ (.slice none 0 0)) gr none 0 L [] := ⟨hblk, own_nil _ _ _ _, (fun _ h => by cases h), (fun _ h => by cases h)⟩
  have ht1 := ht0.setCell (a := ⟨gr, 1, none⟩) (fun _ => rfl) (.slice none 0 0)
  have hin : InS hdC 5 (W0.setCell ⟨gr, 1, none⟩ (.slice none 0 0)) Ah ch hs := by
    refine ⟨⟨hh0.reads.1, fun h0 => ?_⟩, hh0.cap, hh0.small⟩
    obtain ⟨b, off, e, hb, hc⟩ := hh0.reads.2 h0
    refine ⟨b, off, e, by simpa [World.setCell] using hb, fun j u' hu => ?_⟩
    rw [World.cell?_setCell_other W0 ⟨gr, 1, none⟩ ⟨b, off + j, none⟩ _ (fun hh => HF.out h0 _ e (congrArg Addr.block hh).symm)]
    exact hc j u' hu
  have hb1 := hb0.far (p := ⟨gr, 1, none⟩) (by show g ≠ gr; omega) (.slice none 0 0)
  have hz1 : (W0.setCell ⟨gr, 1, none⟩ (.slice none 0 0)).heap.size = g + 1 := by rw [← hz0]; simp [World.setCell]
  clear hb0 hz0 hk0 hh0 ht0
  go_upto_region 2 with (fail)
  change Code.wp _ _ _ _ (W0.setCell ⟨gr, 1, none⟩ (.slice none 0 0))
  generalize (W0.setCell ⟨gr, 1, none⟩ (.slice none 0 0)) = W1 at hblk hks hin hb1 ht1 hz1 ⊢
  clear k1 f1 hg
  have X := ref_Sees_any W1 gr none 0 L [] now lim nxt Ah ch hs Al cl m hks (by simp) hin HW.out hl
  unfold ledV at X
  have X := Lib.hid X
  obtain ⟨q0, q1, q2, q3⟩ := hb1.led
  have HT := Lib.hid ht1
  have HZ := Lib.hid hz1
  clear hblk hks hin hb1 ht1 hz1
  go_wp2_with fail
  refine X.out.mono ?_
  rintro e w2 ⟨rfl, A', c', h1, h4, h5⟩
  have hz := HZ.out
  have hg := HG.out
  have HP : Hid (Q (.returned (.tuple #[])) w2) := by
    rw [← HQ.out]
    exact ⟨rfl, A', c', h1, fun q e => by have := h4 q e; omega, HT.out.trans h5⟩
  clear h1 h4 h5 q0 q1 q2 q3 X HT HQ hz hg HZ HG
  go_wp2
  exact bodyPost_end (results_none rfl _ _ _) rfl HP.out
end Go.Proofs.Ytfkaggdjhopjpaa
