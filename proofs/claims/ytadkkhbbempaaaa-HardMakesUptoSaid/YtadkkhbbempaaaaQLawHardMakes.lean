/- The walk of the law HardMakes (of logs of at most 1048576 entries). -/
import Derived.Test.YtadkkhbbempaaaaP14
namespace Go.Proofs.Ytadkkhbbempaaaa
set_option maxRecDepth 100000
open Go.RowKit

set_option maxHeartbeats 8000000 in
theorem hardMakes_row (w : World) {v : Value} (z : OpenHrd w v) (hbound : ∀ hb q PA PC ls, v = hrdV hb q PA PC ls → ls.length ≤ 1048576) :
    Calls Try.prog 8 #[v] w fun e w' => e = .returned (.bool true) ∧ Below w.heap.size w w' := by
  obtain ⟨h, p, PA, PC, xs, rfl, hin, wf, _⟩ := z
  have hn := hbound h p PA PC xs rfl
  have HIN := Lib.hid hin
  have HWF := Lib.hid wf
  have C1 := fun W h1 => hard_Base_any W h p PA PC xs h1 wf hn
  have C2 := fun W h1 => hard_Check_any W h p PA PC xs h1 wf
  unfold hrdV at C1 C2 ⊢
  have D1 := Lib.hid C1
  have D2 := Lib.hid C2
  have HNB := Lib.hid hn
  clear hin wf C1 C2 hbound hn
  obtain ⟨g, hg⟩ : ∃ g, w.heap.size = g := ⟨_, rfl⟩
  rw [hg]
  have hBx : Below g w (w.alloc (.cells (hrdC h p PA PC xs) 32)) := (Below.refl _ _).alloc (by omega) _
  have hb1 : Blk (w.alloc (.cells (hrdC h p PA PC xs) 32)) g 32 (hrdC h p PA PC xs) := hg ▸ Blk.new _ _ _
  go_enter Try.func8, Try.ntmps8
  go_upto_region 1 with (fail)
  change Code.wp _ _ _ _ (w.alloc (.cells (hrdC h p PA PC xs) 32))
  generalize (w.alloc (.cells (hrdC h p PA PC xs) 32)) = W at hb1 hBx ⊢
  try rw [hg]
  have X0 := Lib.hid (live_any13 W)
  have HB := Lib.hid hBx
  have HK := Lib.hid hb1
  have HG := Lib.hid hg
  clear hb1 hBx hg
  go_wp2_with fail
  refine X0.out.mono ?_
  rintro e w0 ⟨rfl, hB0⟩
  have hb0 := HK.out.below hB0 HK.out.lt
  have hB0w := HB.out.trans (hB0.mono (Nat.le_of_lt HK.out.lt))
  have X1 := Lib.hid (D1.out w0 (HIN.out.keep (HG.out ▸ hB0w)))
  have HB := Lib.hid hB0w
  have HK := Lib.hid hb0
  clear hB0 hB0w X0 D1
  go_wp2_with (refine wpList_load_row rfl 32 _ rfl g rfl 32 (hrdC h p PA PC xs) hb0 _ Try.underlying32 rfl info_Hard ?_)
  refine X1.out.mono ?_
  rintro e w1 ⟨A1, c1, rs, rfl, hm1, hi1, hB1⟩
  have hb1 := HK.out.below hB1 HK.out.lt
  have hB1w := HB.out.trans (hB1.mono (Nat.le_of_lt HK.out.lt))
  clear hb0 X1 HB HK hB1
  have HB := Lib.hid hB1w
  have HK := Lib.hid hb1
  have HM := Lib.hid hm1
  have HI := Lib.hid hi1
  have hgl := hb1.lt
  by_cases ok : (h.hrd xs).Ok
  rotate_left
  · have X2' := D2.out w1 (HIN.out.keep (HG.out ▸ hB1w))
    rw [rec_bad ok] at X2' ⊢
    have X2 := Lib.hid X2'
    clear ok hm1 hi1 hB1w X2' D2
    go_wp2_with (refine wpList_load_want (by rfl) 32 _ rfl g rfl 32 (hrdC h p PA PC xs) hb1 _ Try.underlying32 rfl info_Hard ?_)
    refine X2.out.mono ?_
    rintro e w2 ⟨rfl, hB2⟩
    have HB2 := Lib.hid (HB.out.trans (hB2.mono (Nat.le_of_lt hgl)))
    clear hB2 hb1 X2
    go_wp2
    go_ret
    exact ⟨rfl, HB2.out⟩
  rw [rec_good ok]
  have HOK := Lib.hid ok
  have hall : (h.hrd xs).start.all (rs.map (·.r)) = some (h.hrd xs) := by
    rw [hm1]
    unfold baseD
    rw [if_pos ok]
    exact Hrd.made ok HWF.out.sh.t.1 HWF.out.sh.i.1 HWF.out.bt.1 HWF.out.tm.1
  have HALL := Lib.hid hall
  have hwfr : ∀ r ∈ rs.map (·.r), r.Wf := by
    rw [hm1]
    unfold baseD
    rw [if_pos ok]
    exact Hrd.base_wf ok HWF.out
  have HWR := Lib.hid hwfr
  have hrl : rs.length ≤ 1048578 := by
    have := congrArg List.length hm1
    rw [List.length_map] at this
    rw [this]
    unfold baseD
    rw [if_pos ok]
    unfold Hrd.base
    have h2 := base2_length (h.hrd xs)
    have h3 := HNB.out
    rw [List.length_append, addL_length]
    simp only [Hb.hrd, List.length_map] at *
    omega
  have hst : (Hb.hrd ⟨0, h.sh.t, 0, h.sh⟩ []) = (h.hrd xs).start := rfl
  obtain ⟨z0, z1, z2, z3, z4, z5, z6, z7, z8, z9, z10⟩ := hb1.hrd
  have hshi : InSh w1 h.sh p := (HIN.out.keep (HG.out ▸ hB1w)).sh
  obtain ⟨gx, hgx⟩ : ∃ gx, w1.heap.size = gx := ⟨_, rfl⟩
  have hx2 : Blk (w1.alloc (.cells (hrdC ⟨0, h.sh.t, 0, h.sh⟩ p none 0 []) 32)) gx 32 (hrdC ⟨0, h.sh.t, 0, h.sh⟩ p none 0 []) := hgx ▸ Blk.new _ _ _
  have hBW : Below w1.heap.size w1 (w1.alloc (.cells (hrdC ⟨0, h.sh.t, 0, h.sh⟩ p none 0 []) 32)) := (Below.refl _ _).alloc (Nat.le_refl _) _
  have hgg : g < gx := hgx ▸ hgl
  clear ok hm1 hi1 hB1w D2 hall hwfr
  go_upto_region 6 with (fail)
  change Code.wp _ _ _ _ (w1.alloc (.cells (hrdC ⟨0, h.sh.t, 0, h.sh⟩ p none 0 []) 32))
  generalize (w1.alloc (.cells (hrdC ⟨0, h.sh.t, 0, h.sh⟩ p none 0 []) 32)) = W2 at hx2 hBW ⊢
  try rw [hgx]
  clear z0 z1 z2 z3 z4 z5 z6 z7 z8 z9 z10 hb1
  have HX2 := Lib.hid hx2
  have HBW := Lib.hid hBW
  have hinx : InH W2 ⟨0, h.sh.t, 0, h.sh⟩ p none 0 [] := ⟨hshi.keep hBW, InE.nil⟩
  have HINX := Lib.hid hinx
  have HST := Lib.hid hst
  have HGX := Lib.hid hgx
  clear hx2 hBW hinx hshi hst hgx
  go_wp2_with fail
  go_loopw [8, 9, 10, 33] (fun _ _ _ ix wr => ∃ (k : Nat) (hk : Hb) (pk : Sa) (Ak : Option Addr) (ck : Nat) (yk : List Ec), ix = .int .i64 (k : Int) ∧ k ≤ rs.length ∧ Blk wr gx 32 (hrdC hk pk Ak ck yk) ∧ InH wr hk pk Ak ck yk ∧ (h.hrd xs).start.all ((rs.map (·.r)).take k) = some (hk.hrd yk) ∧ Below w1.heap.size w1 wr) (fun _ _ _ ix _ => rs.length - (intOf ix).toNat)
  case atStart => exact ⟨0, ⟨0, h.sh.t, 0, h.sh⟩, p, none, 0, [], rfl, Nat.zero_le _, HX2.out, HINX.out, by rw [HST.out]; rfl, HBW.out⟩
  case round =>
    clear HX2 HBW HINX HST
    obtain ⟨k, hk, pk, Ak, ck, yk, rfl, hkl, hbx, hih, hal, hbw⟩ := hrel
    have HBX := Lib.hid hbx
    have HIH := Lib.hid hih
    have HAL := Lib.hid hal
    have HBW := Lib.hid hbw
    have hwk : (hk.hrd yk).Wf := Hrd.all_wf (h := (h.hrd xs).start) (start_wf HWF.out) (fun r hr => HWR.out r (List.mem_of_mem_take hr)) hal
    have HWK := Lib.hid hwk
    have hylen : yk.length ≤ 1048578 := by
      have h1 := Hrd.all_len hal
      have h2 := List.length_take_le k (rs.map (·.r))
      simp only [Hb.hrd, Hrd.start, List.length_map, List.length_nil] at h1 h2
      omega
    clear hbx hih hal hbw hwk
    by_cases hkn : k < rs.length
    · obtain ⟨b, off, rfl, hbb, hat⟩ := HI.out.at (by omega)
      have hmem := List.getElem_mem hkn
      have hatk : RowAt wr b (off + k * 21) rs[k] := fun j u hu => (HBW.out.cell (p := ⟨b, off + k * 21 + j, none⟩) hbb).trans (hat k hkn j u hu)
      have hir := (HI.out.inn _ hmem).keep HBW.out
      have hwr := HWR.out _ (List.mem_map_of_mem hmem)
      obtain ⟨y1, hd1, hal1⟩ := Hrd.all_next HALL.out (k := k) (by simpa using hkn) HAL.out
      simp only [List.getElem_map] at hd1
      obtain ⟨x, hx⟩ : ∃ x, rs[k] = x := ⟨_, rfl⟩
      rw [hx] at hatk hir hwr hd1
      have hal0 : Below wr.heap.size wr (wr.alloc (.cells (recC x.r x.a) 48)) := (Below.refl _ _).alloc (Nat.le_refl _) _
      have hr1 : Blk (wr.alloc (.cells (recC x.r x.a) 48)) wr.heap.size 48 (recC x.r x.a) := Blk.new _ _ _
      have hbx1 := HBX.out.alloc (.cells (recC x.r x.a) 48)
      have hih1 := HIH.out.keep hal0
      have hir1 := hir.keep hal0
      have hbw1 := HBW.out.alloc HBW.out.size (.cells (recC x.r x.a) 48)
      have HATK := Lib.hid hatk
      have HAL1 := Lib.hid hal1
      clear hat hmem hir hx hal0 HBX HIH HAL hatk hal1
      go_upto_region 9 with (first | (refine wpList_load_at rfl 48 _ rfl b (off + k * 21) rfl (recL x) HATK.out _ Try.underlying48 rfl info_Rec ?_) | (refine wpList_store_row rfl 48 _ _ rfl wr.heap.size (recC x.r x.a) rfl rfl 48 (recC rc0 ra0) (Blk.new wr 48 _) info_Rec rfl (recC_one _ _) ?_; rw [World.setRow_alloc_new]))
      change Code.wp _ _ _ _ (wr.alloc (.cells (recC x.r x.a) 48))
      obtain ⟨gr, hgr⟩ : ∃ gr, wr.heap.size = gr := ⟨_, rfl⟩
      rw [hgr] at hr1
      generalize (wr.alloc (.cells (recC x.r x.a) 48)) = W5 at hr1 hbx1 hih1 hir1 hbw1 ⊢
      try rw [hgr]
      clear hgr HATK HBW
      have X7' := hard_Do_any W5 hk pk Ak ck yk x.r x.a hih1 HWK.out hir1 hwr (by omega)
      unfold DoE at X7'
      rw [hd1] at X7'
      unfold hrdV recV at X7'
      have X7 := Lib.hid X7'
      have HBX5 := Lib.hid hbx1
      have HBW5 := Lib.hid hbw1
      clear X7' hih1 hir1 hwr hbw1 hd1
      go_wp2_with (first | (refine wpList_load_row rfl 32 _ rfl gx rfl 32 (hrdC hk pk Ak ck yk) hbx1 _ Try.underlying32 rfl info_Hard ?_) | (refine wpList_load_row rfl 48 _ rfl gr rfl 48 (recC x.r x.a) hr1 _ Try.underlying48 rfl info_Rec ?_))
      refine X7.out.mono ?_
      rintro e w7 ⟨h', p', A', c', ys', rfl, hh, how, hB7⟩
      have hgx5 := HBX5.out.lt
      have hbx7 := (HBX5.out.below hB7 hgx5).alloc (.cells (hrdC h' p' A' c' ys') 32)
      have hy7 : Blk (w7.alloc (.cells (hrdC h' p' A' c' ys') 32)) w7.heap.size 32 (hrdC h' p' A' c' ys') := Blk.new _ _ _
      have how7 := how.keep ((Below.refl w7.heap.size w7).alloc (Nat.le_refl _) (.cells (hrdC h' p' A' c' ys') 32))
      have hbw7 := (HBW5.out.trans (hB7.mono HBW5.out.size)).alloc (Nat.le_trans HBW5.out.size hB7.size) (.cells (hrdC h' p' A' c' ys') 32)
      have HH := Lib.hid hh
      have hgy : w7.heap.size ≠ gx := by have := hB7.size; omega
      clear hr1 hbx1 X7 hh how hB7 HBX5 HBW5
      rw [show errRec (some y1).isSome = 0 from rfl]
      go_upto_region 10 with (fail)
      change Code.wp _ _ _ _ (w7.alloc (.cells (hrdC h' p' A' c' ys') 32))
      obtain ⟨gy, hgye⟩ : ∃ gy, w7.heap.size = gy := ⟨_, rfl⟩
      rw [hgye] at hy7 hgy
      generalize (w7.alloc (.cells (hrdC h' p' A' c' ys') 32)) = W8 at hbx7 hy7 how7 hbw7 ⊢
      try rw [hgye]
      clear hgye
      have HBX7 := Lib.hid hbx7
      have HOW := Lib.hid how7
      have HBW7 := Lib.hid hbw7
      have hbx9 : Blk (W8.setRow gx (hrdC h' p' A' c' ys')) gx 32 (hrdC h' p' A' c' ys') := Blk.row hbx7
      have hih9 : InH (W8.setRow gx (hrdC h' p' A' c' ys')) h' p' A' c' ys' := (how7.past (row_grown gx _) hgx5).inh
      have hbw9 : Below w1.heap.size w1 (W8.setRow gx (hrdC h' p' A' c' ys')) := row_below hbw7 (by have := HGX.out; omega) _
      clear hbx7 how7 hbw7
      go_upto_region 13 with (first | (refine wpList_load_row rfl 32 _ rfl gy rfl 32 (hrdC h' p' A' c' ys') hy7 _ Try.underlying32 rfl info_Hard ?_) | (refine wpList_store_row rfl 32 _ _ rfl gx (hrdC h' p' A' c' ys') rfl rfl 32 (hrdC hk pk Ak ck yk) HBX7.out info_Hard rfl (hrdC_one _ _ _ _ _) ?_))
      change Code.wp _ _ _ _ (W8.setRow gx (hrdC h' p' A' c' ys'))
      generalize (W8.setRow gx (hrdC h' p' A' c' ys')) = W9 at hbx9 hih9 hbw9 ⊢
      have H1 := Lib.hid hbx9
      have H2 := Lib.hid hih9
      have H3 := Lib.hid hbw9
      clear hbx9 hih9 hbw9 hy7 HBX7 HOW HBW7
      go_wp2
      go_roundw
      case rel => exact ⟨k + 1, h', p', A', c', ys', by go_num, by omega, H1.out, H2.out, by rw [HH.out]; exact HAL1.out, H3.out⟩
      case measure => simp [intOf]; omega
    · obtain rfl : k = rs.length := by omega
      have hal := HAL.out
      rw [List.take_of_length_le (by simp), HALL.out] at hal
      injection hal with hal
      obtain ⟨e1, e2⟩ := hrd_parts hal
      subst e1
      have hbx := HBX.out
      have hbk := HK.out.below HBW.out HK.out.lt
      have hBw := HB.out.trans (HBW.out.mono (Nat.le_of_lt hgl))
      have X9' := r13_Same_eq wr h pk Ak ck yk p PA PC xs HIH.out (HIN.out.keep (HG.out ▸ hBw)) e2.symm
      unfold hrdV at X9'
      have X9 := Lib.hid X9'
      have HBw := Lib.hid hBw
      have hgs : g ≤ wr.heap.size := Nat.le_of_lt hbk.lt
      clear hal e2 X9' hBw HAL
      go_wp2_with (first | (refine wpList_load_want (by rfl) 32 _ rfl gx rfl 32 (hrdC h pk Ak ck yk) hbx _ Try.underlying32 rfl info_Hard ?_) | (refine wpList_load_want (by rfl) 32 _ rfl g rfl 32 (hrdC h p PA PC xs) hbk _ Try.underlying32 rfl info_Hard ?_))
      refine X9.out.mono ?_
      rintro e w9 ⟨rfl, hB9⟩
      have HB9 := Lib.hid (HBw.out.trans (hB9.mono hgs))
      clear hB9 X9 hbx hbk
      go_wp2
      go_ret
      exact ⟨rfl, HB9.out⟩
end Go.Proofs.Ytadkkhbbempaaaa
