/- The walk of the law HardRises (of logs of at most 1048576 entries). -/
import Derived.Test.YtadkkhbbempaaaaP14
import Derived.Test.YtadkkhbbempaaaaP15
namespace Go.Proofs.Ytadkkhbbempaaaa
set_option maxRecDepth 100000
open Go.RowKit

set_option maxHeartbeats 8000000 in
theorem hardRises_row (w : World) {v v1 : Value} (z : OpenHrd w v) (hbound : ∀ hb q PA PC ls, v = hrdV hb q PA PC ls → ls.length ≤ 1048576) (z1 : OpenRecs w v1) :
    Calls Try.prog 6 #[v, v1] w fun e w' => e = .returned (.bool true) ∧ Below w.heap.size w w' := by
  obtain ⟨h, p, PA, PC, xs, rfl, hin, wf, _⟩ := z
  obtain ⟨A, c, rs, rfl, hrs, hwr⟩ := z1
  have hn := hbound h p PA PC xs rfl
  have HIN := Lib.hid hin
  have HWF := Lib.hid wf
  have HRS := Lib.hid hrs
  have HWR := Lib.hid hwr
  have HNB := Lib.hid hn
  unfold hrdV
  clear hin wf hbound hn hrs hwr
  obtain ⟨g, hg⟩ : ∃ g, w.heap.size = g := ⟨_, rfl⟩
  rw [hg]
  have hBx : Below g w (w.alloc (.cells (hrdC h p PA PC xs) 32)) := (Below.refl _ _).alloc (by omega) _
  have hb1 : Blk (w.alloc (.cells (hrdC h p PA PC xs) 32)) g 32 (hrdC h p PA PC xs) := hg ▸ Blk.new _ _ _
  obtain ⟨n, hnl⟩ : ∃ n, rs.length = n := ⟨_, rfl⟩
  have HNL := Lib.hid hnl
  rw [hnl]
  clear hnl
  go_enter Try.func6, Try.ntmps6
  go_upto_region 1 with (fail)
  change Code.wp _ _ _ _ (w.alloc (.cells (hrdC h p PA PC xs) 32))
  generalize (w.alloc (.cells (hrdC h p PA PC xs) 32)) = W at hb1 hBx ⊢
  try rw [hg]
  have X0 := Lib.hid (live_any13 W)
  have HB := Lib.hid hBx
  have HK := Lib.hid hb1
  have HG := Lib.hid hg
  clear hb1 hBx hg
  by_cases c60 : 60 < n
  · have d60 : decide ((60 : Int) < (n : Int)) = true := decide_eq_true (by omega)
    clear c60
    go_wp2_with fail
    refine X0.out.mono ?_
    rintro e w0 ⟨rfl, hB0⟩
    have HB0 := Lib.hid (HB.out.trans (hB0.mono (Nat.le_of_lt HK.out.lt)))
    clear hB0 X0
    go_wp2
    go_ret
    exact ⟨rfl, HB0.out⟩
  have d60 : decide ((60 : Int) < (n : Int)) = false := decide_eq_false (by omega)
  have hn60 : n ≤ 60 := by omega
  clear c60
  go_wp2_with fail
  refine X0.out.mono ?_
  rintro e w0 ⟨rfl, hB0⟩
  have hb0 := HK.out.below hB0 HK.out.lt
  have hB0w := HB.out.trans (hB0.mono (Nat.le_of_lt HK.out.lt))
  have HK0 := Lib.hid hb0
  have HB0 := Lib.hid hB0w
  clear hB0 hB0w hb0 X0 HB HK
  go_wp2_with fail
  clear d60
  go_loopw [7, 8, 9, 17] (fun _ _ _ ix wr => ∃ (k : Nat) (hk : Hb) (pk : Sa) (Ak : Option Addr) (ck : Nat) (yk : List Ec), ix = .int .i64 (k : Int) ∧ k ≤ n ∧ Blk wr g 32 (hrdC hk pk Ak ck yk) ∧ InH wr hk pk Ak ck yk ∧ (hk.hrd yk).Wf ∧ yk.length ≤ 1048576 + k ∧ Below g w wr) (fun _ _ _ ix _ => n - (intOf ix).toNat)
  case atStart => exact ⟨0, h, p, PA, PC, xs, rfl, Nat.zero_le _, HK0.out, HIN.out.keep (HG.out ▸ HB0.out), HWF.out, by have := HNB.out; omega, HB0.out⟩
  case round =>
    clear HK0 HB0
    obtain ⟨k, hk, pk, Ak, ck, yk, rfl, hkl, hbx, hih, hwk, hyl, hbw⟩ := hrel
    have HBX := Lib.hid hbx
    have HIH := Lib.hid hih
    have HWK := Lib.hid hwk
    have HBW := Lib.hid hbw
    clear hbx hih hbw hwk
    by_cases hkn : k < n
    · have hkr : k < rs.length := by have := HNL.out; omega
      obtain ⟨b, off, rfl, hbb, hat⟩ := HRS.out.at (by omega)
      have hmem := List.getElem_mem hkr
      have hatk : RowAt wr b (off + k * 21) rs[k] := fun j u hu => (HBW.out.cell (p := ⟨b, off + k * 21 + j, none⟩) (show b < g by have := HG.out; omega)).trans (hat k hkr j u hu)
      have hir := (HRS.out.inn _ hmem).keep (HG.out.symm ▸ HBW.out)
      have hwr := HWR.out _ hmem
      obtain ⟨x, hx⟩ : ∃ x, rs[k] = x := ⟨_, rfl⟩
      rw [hx] at hatk hir hwr
      have hal0 : Below wr.heap.size wr (wr.alloc (.cells (recC x.r x.a) 48)) := (Below.refl _ _).alloc (Nat.le_refl _) _
      have hr1 : Blk (wr.alloc (.cells (recC x.r x.a) 48)) wr.heap.size 48 (recC x.r x.a) := Blk.new _ _ _
      have hgl := HBX.out.lt
      have hbx1 := HBX.out.alloc (.cells (recC x.r x.a) 48)
      have hih1 := HIH.out.keep hal0
      have hir1 := hir.keep hal0
      have hbw1 := HBW.out.alloc (by omega) (.cells (recC x.r x.a) 48)
      have HATK := Lib.hid hatk
      clear hat hmem hir hx hal0 HBX HIH hatk
      go_upto_region 7 with (first | (refine wpList_load_at rfl 48 _ rfl b (off + k * 21) rfl (recL x) HATK.out _ Try.underlying48 rfl info_Rec ?_) | (refine wpList_store_row rfl 48 _ _ rfl wr.heap.size (recC x.r x.a) rfl rfl 48 (recC rc0 ra0) (Blk.new wr 48 _) info_Rec rfl (recC_one _ _) ?_; rw [World.setRow_alloc_new]))
      change Code.wp _ _ _ _ (wr.alloc (.cells (recC x.r x.a) 48))
      obtain ⟨gr, hgr⟩ : ∃ gr, wr.heap.size = gr := ⟨_, rfl⟩
      rw [hgr] at hr1 hgl
      generalize (wr.alloc (.cells (recC x.r x.a) 48)) = W5 at hr1 hbx1 hih1 hir1 hbw1 ⊢
      try rw [hgr]
      clear hgr HATK HBW
      obtain ⟨DN, hDN⟩ : ∃ DN, (hk.hrd yk).done x.r = DN := ⟨_, rfl⟩
      have X7' := hard_Do_any W5 hk pk Ak ck yk x.r x.a hih1 HWK.out hir1 hwr (by omega)
      unfold DoE at X7'
      rw [hDN] at X7'
      unfold hrdV recV at X7'
      have X7 := Lib.hid X7'
      have HBX5 := Lib.hid hbx1
      have HBW5 := Lib.hid hbw1
      have HIH5 := Lib.hid hih1
      have HDN := Lib.hid hDN
      have HWX := Lib.hid hwr
      clear X7' hih1 hir1 hwr hbw1 hDN
      go_wp2_with (first | (refine wpList_load_row rfl 32 _ rfl g rfl 32 (hrdC hk pk Ak ck yk) hbx1 _ Try.underlying32 rfl info_Hard ?_) | (refine wpList_load_row rfl 48 _ rfl gr rfl 48 (recC x.r x.a) hr1 _ Try.underlying48 rfl info_Rec ?_))
      refine X7.out.mono ?_
      rintro e w7 ⟨h', p', A', c', ys', rfl, hh, how, hB7⟩
      have hgx5 := HBX5.out.lt
      have hal7 : Below w7.heap.size w7 (w7.alloc (.cells (hrdC h' p' A' c' ys') 32)) := (Below.refl _ _).alloc (Nat.le_refl _) _
      have hbx7 := (HBX5.out.below hB7 hgx5).alloc (.cells (hrdC h' p' A' c' ys') 32)
      have hy7 : Blk (w7.alloc (.cells (hrdC h' p' A' c' ys') 32)) w7.heap.size 32 (hrdC h' p' A' c' ys') := Blk.new _ _ _
      have how7 := how.keep hal7
      have hih7 := (HIH5.out.keep hB7).keep hal7
      have hbw7 := (HBW5.out.trans (hB7.mono (Nat.le_of_lt hgx5))).alloc (by have := hB7.size; omega) (.cells (hrdC h' p' A' c' ys') 32)
      have HH := Lib.hid hh
      have hsz7 : g < (w7.alloc (.cells (hrdC h' p' A' c' ys') 32)).heap.size := hbx7.lt
      clear hr1 hbx1 X7 hh how hB7 HBX5 HBW5 HIH5 hal7
      go_upto_region 8 with (fail)
      change Code.wp _ _ _ _ (w7.alloc (.cells (hrdC h' p' A' c' ys') 32))
      obtain ⟨gy, hgye⟩ : ∃ gy, w7.heap.size = gy := ⟨_, rfl⟩
      rw [hgye] at hy7
      generalize (w7.alloc (.cells (hrdC h' p' A' c' ys') 32)) = W8 at hbx7 hy7 how7 hih7 hbw7 hsz7 ⊢
      try rw [hgye]
      clear hgye
      have HBX7 := Lib.hid hbx7
      have HOW := Lib.hid how7
      have HIH7 := Lib.hid hih7
      have HBW7 := Lib.hid hbw7
      clear how7 hih7 hbw7
      cases DN with
      | none =>
        rw [show errRec (none : Option Hrd).isSome = 130 from rfl]
        clear hbx7 hy7
        go_wp2
        go_roundw
        case rel => exact ⟨k + 1, hk, pk, Ak, ck, yk, by go_num, by omega, HBX7.out, HIH7.out, HWK.out, by omega, HBW7.out⟩
        case measure => simp [intOf]; omega
      | some y =>
        rw [show errRec (some y).isSome = 0 from rfl]
        have hy : h'.hrd ys' = y := HH.out
        subst hy
        obtain ⟨r1, r2, r3, r4, r5⟩ := Hrd.rises HDN.out
        have hwy : (h'.hrd ys').Wf := Hrd.done_wf HWK.out HWX.out HDN.out
        have hly : ys'.length ≤ yk.length + 1 := by
          have := Hrd.come_len (Hrd.done_some HDN.out).2.2.1
          simpa [Hb.hrd] using this
        have HLY : Hid (ys'.length ≤ 1048576 + (k + 1)) := by show _ ≤ _; omega
        have HWY := Lib.hid hwy
        have d1 : decide (h'.bt < hk.bt) = false := decide_eq_false (by simp only [Hb.hrd] at r1; omega)
        have d2 : decide (h'.tm < hk.tm) = false := decide_eq_false (by simp only [Hb.hrd] at r2; omega)
        have d3 : decide (h'.sh.i < hk.sh.i) = false := decide_eq_false (by simp only [Hb.hrd] at r3; omega)
        have hcs : (h'.tm == hk.tm) = false ∨ ((h'.tm == hk.tm) = true ∧ (hk.vt != 0) = false) ∨ ((h'.tm == hk.tm) = true ∧ (hk.vt != 0) = true ∧ (h'.vt != hk.vt) = false) := by
          cases q1 : (h'.tm == hk.tm)
          · exact .inl rfl
          · cases q2 : (hk.vt != 0)
            · exact .inr (.inl ⟨rfl, rfl⟩)
            · refine .inr (.inr ⟨rfl, rfl, ?_⟩)
              cases q3 : (h'.vt != hk.vt)
              · rfl
              · exact absurd ⟨beq_iff_eq.1 q1, bne_iff_ne.1 q2, bne_iff_ne.1 q3⟩ r4
        have X9' := hard_Check_any W8 h' p' A' c' ys' HOW.out.inh hwy
        rw [rec_good r5] at X9'
        unfold hrdV at X9'
        have X9 := Lib.hid X9'
        clear r1 r2 r3 r4 r5 hwy hly X9' HH HDN HIH7
        rcases hcs with d4 | ⟨d4, d5⟩ | ⟨d4, d5, d6⟩
        all_goals
          obtain ⟨zx0, zx1, zx2, zx3, zx4, zx5, zx6, zx7, zx8, zx9, zx10⟩ := hy7.hrd
          obtain ⟨zh0, zh1, zh2, zh3, zh4, zh5, zh6, zh7, zh8, zh9, zh10⟩ := hbx7.hrd
          clear hbx7
          go_wp2_with (refine wpList_load_want (by rfl) 32 _ rfl gy rfl 32 (hrdC h' p' A' c' ys') hy7 _ Try.underlying32 rfl info_Hard ?_)
          refine X9.out.mono ?_
          rintro e w9 ⟨rfl, hB9⟩
          have hy9 := hy7.below hB9 hy7.lt
          have HBX9 := Lib.hid (HBX7.out.below hB9 HBX7.out.lt)
          have how9 := HOW.out.keep hB9
          have hbw9 := HBW7.out.trans (hB9.mono (by omega))
          clear hB9 hy7 X9 zx0 zx1 zx2 zx3 zx4 zx5 zx6 zx7 zx8 zx9 zx10 zh0 zh1 zh2 zh3 zh4 zh5 zh6 zh7 zh8 zh9 zh10 d1 d2 d3
          have hbxA : Blk (w9.setRow g (hrdC h' p' A' c' ys')) g 32 (hrdC h' p' A' c' ys') := Blk.row HBX9.out
          have hihA : InH (w9.setRow g (hrdC h' p' A' c' ys')) h' p' A' c' ys' := (how9.past (row_grown g _) hgx5).inh
          have hbwA : Below g w (w9.setRow g (hrdC h' p' A' c' ys')) := row_below hbw9 (Nat.le_refl _) _
          clear how9 hbw9
          go_upto_region 12 with (first | (refine wpList_load_row rfl 32 _ rfl gy rfl 32 (hrdC h' p' A' c' ys') hy9 _ Try.underlying32 rfl info_Hard ?_) | (refine wpList_store_row rfl 32 _ _ rfl g (hrdC h' p' A' c' ys') rfl rfl 32 (hrdC hk pk Ak ck yk) HBX9.out info_Hard rfl (hrdC_one _ _ _ _ _) ?_))
          change Code.wp _ _ _ _ (w9.setRow g (hrdC h' p' A' c' ys'))
          generalize (w9.setRow g (hrdC h' p' A' c' ys')) = WA at hbxA hihA hbwA ⊢
          have H1 := Lib.hid hbxA
          have H2 := Lib.hid hihA
          have H3 := Lib.hid hbwA
          clear hbxA hihA hbwA hy9 HBX9 HOW HBW7 HBX7
          go_wp2
          go_roundw
          case rel => exact ⟨k + 1, h', p', A', c', ys', by go_num, by omega, H1.out, H2.out, HWY.out, HLY.out, H3.out⟩
          case measure => simp [intOf]; omega
    · obtain rfl : k = n := by omega
      go_wp2
      go_ret
      exact ⟨rfl, HBW.out⟩
end Go.Proofs.Ytadkkhbbempaaaa
