/- Walks over commands: the document's reader reads a command. -/
import Derived.Test.YtnpodnieahokjaaRefC
namespace Go.Proofs.Ytnpodnieahokjaa
open Go.RowKit

theorem grown_out {w wx w1 : World} {gr g : Nat} (h : w.grownBy wx (some gr)) (hb : wx.grownBy w1 (some g)) (hg : w.heap.size ≤ g) : w.grownBy w1 (some gr) :=
  ⟨hb.os.trans h.os, hb.tape.trans h.tape, hb.output.trans h.output, Nat.le_trans h.size hb.size, fun i hi hn => (hb.block i (Nat.lt_of_lt_of_le hi h.size) (fun hh => by injection hh with hh; omega)).trans (h.block i hi hn)⟩
theorem RS.far {w w1 : World} {gr g : Nat} {A : Option Addr} {c : Nat} {lb : List Int} {k : Nat} {e : Int} (h : RS w gr A c lb k e) (hb : w.grownBy w1 (some g)) (hg : gr ≠ g) : RS w1 gr A c lb k e := by
  obtain ⟨k', h1, h2⟩ := h
  exact ⟨k', h1.grown hb (fun hh => hg (by injection hh)), h2⟩
theorem grown_set8 (w : World) (g : Nat) (u0 u1 u2 u3 u4 u5 u6 u7 : Value) :
    w.grownBy ((((((((w.setCell ⟨g, 0, none⟩ u0).setCell ⟨g, 1, none⟩ u1).setCell ⟨g, 2, none⟩ u2).setCell ⟨g, 3, none⟩ u3).setCell ⟨g, 4, none⟩ u4).setCell ⟨g, 5, none⟩ u5).setCell ⟨g, 6, none⟩ u6).setCell ⟨g, 7, none⟩ u7) (some g) := by
  refine only_setCell (only_setCell (only_setCell (only_setCell (only_setCell (only_setCell (only_setCell (only_setCell (World.grownBy.refl _ _) ?_ _) ?_ _) ?_ _) ?_ _) ?_ _) ?_ _) ?_ _) ?_ _
  all_goals exact .inl rfl

set_option maxRecDepth 100000 in
set_option maxHeartbeats 8000000 in
theorem refR_Cmd (w : World) (gr : Nat) (A : Option Addr) (c : Nat) (lb : List Int) (h : ∀ W, w.grownBy W (some gr) → In8 W A c lb) (hb : RS w gr A c lb 0 0) :
    Calls Try.prog 29 #[.pointer (some ⟨gr, 0, none⟩)] w fun x w' => ∃ v L', x = .returned (cmdV (dK lb).1 (fin lb).n (fin lb).t v (fin lb).b (fin lb).q (fin lb).s (fin lb).m) ∧
      OwnN .i64 3 w' w.heap.size v L' ∧ L'.length ≤ 7 ∧ Wfs .i64 L' ∧ ((fin lb).e = 0 → L' = (fin lb).l) ∧ RS w' gr A c lb (fin lb).k (fin lb).e ∧ w.grownBy w' (some gr) := by
  have HIN := Lib.hid h
  have hbyt := (h w (World.grownBy.refl _ _)).byt
  have hlt0 := hb.lt
  obtain ⟨g, hg⟩ : ∃ g, w.heap.size = g := ⟨_, rfl⟩
  rw [hg]
  obtain ⟨gc, hgc⟩ : ∃ gc, g + 1 = gc := ⟨_, rfl⟩
  have hBx : Below g w ((w.alloc (.cells (cmdCells 0 0 0 (.slice none 0 0) 0 0 0 0) 25)).alloc (.cells (cmdCells 0 0 0 (.slice none 0 0) 0 0 0 0) 25)) := ((Below.refl _ _).alloc (by omega) _).alloc (by simp; omega) _
  have hs1 : (w.alloc (.cells (cmdCells 0 0 0 (.slice none 0 0) 0 0 0 0) 25)).heap.size = gc := by simp [hg, hgc]
  have hb1 : Blk ((w.alloc (.cells (cmdCells 0 0 0 (.slice none 0 0) 0 0 0 0) 25)).alloc (.cells (cmdCells 0 0 0 (.slice none 0 0) 0 0 0 0) 25)) g 25 (cmdCells 0 0 0 (.slice none 0 0) 0 0 0 0) := (hg ▸ Blk.new w 25 (cmdCells 0 0 0 (.slice none 0 0) 0 0 0 0) : Blk (w.alloc (.cells (cmdCells 0 0 0 (.slice none 0 0) 0 0 0 0) 25)) g 25 (cmdCells 0 0 0 (.slice none 0 0) 0 0 0 0)).alloc _
  have hc1 : Blk ((w.alloc (.cells (cmdCells 0 0 0 (.slice none 0 0) 0 0 0 0) 25)).alloc (.cells (cmdCells 0 0 0 (.slice none 0 0) 0 0 0 0) 25)) gc 25 (cmdCells 0 0 0 (.slice none 0 0) 0 0 0 0) := hs1 ▸ Blk.new _ _ _
  have hz1 : ((w.alloc (.cells (cmdCells 0 0 0 (.slice none 0 0) 0 0 0 0) 25)).alloc (.cells (cmdCells 0 0 0 (.slice none 0 0) 0 0 0 0) 25)).heap.size = g + 2 := by simp [hg]
  have hr1 := hb.below hBx (by omega)
  have hG1 := only_of_below (hg ▸ hBx) (some gr)
  obtain ⟨F, hF⟩ : ∃ F, fin lb = F := ⟨_, rfl⟩
  rw [hF]
  have HF := Lib.hid hF
  clear hF hs1 hBx h hb
  go_enter Try.func29, Try.ntmps29
  go_upto_region 2 with (fail)
  change Code.wp _ _ _ _ ((w.alloc (.cells (cmdCells 0 0 0 (.slice none 0 0) 0 0 0 0) 25)).alloc (.cells (cmdCells 0 0 0 (.slice none 0 0) 0 0 0 0) 25))
  generalize ((w.alloc (.cells (cmdCells 0 0 0 (.slice none 0 0) 0 0 0 0) 25)).alloc (.cells (cmdCells 0 0 0 (.slice none 0 0) 0 0 0 0) 25)) = W0 at hb1 hc1 hz1 hr1 hG1 ⊢
  try rw [hgc]
  have C1 := refR_Small W0 gr A c lb 0 0 6 (by omega) (HIN.out _ hG1) hr1
  have e6 : ((6 : Nat) : Int) = 6 := rfl
  rw [e6] at C1
  have hr0 := rnum_le hbyt (show 0 ≤ lb.length by omega) 0 (most := 6) (by decide)
  obtain ⟨⟨kind, k0, e0⟩, hrk⟩ : ∃ r, rnum lb 0 0 6 = r := ⟨_, rfl⟩
  rw [hrk] at C1 hr0
  simp only at C1 hr0
  have hdk : dK lb = (kind, k0, if e0 = 0 ∧ kI kind = false then 11 else e0) := by
    unfold dK
    rw [hrk]
  have HDK := Lib.hid hdk
  have C1 := Lib.hid C1
  have hgr0 : gr < g := by omega
  clear hrk hdk hr1 e6
  go_wp2_with fail
  refine C1.out.mono ?_
  rintro x w1 ⟨rfl, hr2, hg2⟩
  have hne : ∀ i, i ≠ gr → some i ≠ some gr := fun i hi hh => hi (by injection hh)
  have hb2 := hb1.grown hg2 (hne _ (by omega))
  have hc2 := hc1.grown hg2 (hne _ (by omega))
  have hG2 := World.grownBy.trans hG1 hg2
  have hz2 : g + 2 ≤ w1.heap.size := by have := hg2.size; omega
  have y0 := hc2.frozen 0
  have x0 : w1.cell? ⟨gc, 0, none⟩ = some (.int .i64 0) := hc2.cmd.c0
  clear hb1 hc1 hG1 hg2 hz1 C1 hbyt
  go_upto_region 3 with (fail)
  have hGc : w1.grownBy (w1.setCell ⟨gc, 0, none⟩ (.int .i64 kind)) (some gc) := only_setCell (p := ⟨gc, 0, none⟩) (World.grownBy.refl w1 (some gc)) (.inl rfl) _
  have hnc : ∀ i, i ≠ gc → some i ≠ some gc := fun i hi hh => hi (by injection hh)
  have hb3 := hb2.grown hGc (hnc _ (by omega))
  have hc3 : Blk (w1.setCell ⟨gc, 0, none⟩ (.int .i64 kind)) gc 25 (cmdCells kind 0 0 (.slice none 0 0) 0 0 0 0) := Blk.setL (l := [Value.int .i64 0, .int .i64 0, .int .i64 0, .slice none 0 0, .int .u64 0, .int .u64 0, .int .u64 0, .int .u64 0]) hc2 0 _
  have hr3 := hr2.far hGc (by omega)
  have hG3 := grown_out hG2 hGc (by omega)
  have hz3 : g + 2 ≤ (w1.setCell ⟨gc, 0, none⟩ (.int .i64 kind)).heap.size := by have := hGc.size; omega
  generalize w1.setCell ⟨gc, 0, none⟩ (.int .i64 kind) = W3 at hb3 hc3 hr3 hG3 hz3 ⊢
  clear hb2 hc2 hG2 hGc hr2 hz2 x0 y0 hnc
  obtain ⟨c0, c1, c2, c3, c4, c5, c6, c7⟩ := hc3.cmd
  have CF := Lib.hid (fun W => ref_fields_any W kind)
  go_wp2_with fail
  refine (CF.out _).mono ?_
  rintro x w4 ⟨rfl, rfl⟩
  clear CF
  cases hI : kI kind
  · have HDE : Hid (dK lb = (kind, k0, if e0 = 0 then 11 else e0)) := by
      show _ = _
      rw [HDK.out, hI]
      congr 2
      simp
    have hfl : bytes (fld kind) = [] := by
      rcases kinds kind with rfl | rfl | rfl | rfl | rfl | rfl | ⟨h1, h2, h3, h4, h5, h6⟩
      case inr.inr.inr.inr.inr.inr => simp [fld, h2, h3, h4, h5, h6, bytes]
      all_goals exact absurd hI (by decide)
    have HFE : Hid (F = ⟨0, 0, [], 0, 0, 0, 0, k0, if e0 = 0 then 11 else e0⟩) := by
      show _ = _
      rw [← HF.out]
      unfold fin
      rw [HDE.out]
      simp only
      rw [hfl]
      rfl
    obtain ⟨k', hbr, hk', hle'⟩ := hr3
    have CX := Lib.hid (ref_Fail_any w4 gr A lb.length c k' e0 11 hbr)
    have HB := Lib.hid hb3
    have HC := Lib.hid hc3
    have HG := Lib.hid hG3
    have HKE := Lib.hid hk'
    clear hbr hb3 hc3 hG3 c0 c1 c2 c3 c4 c5 c6 c7 HDK HF hk' hfl
    go_wp2_with fail
    refine CX.out.mono ?_
    rintro x w5 ⟨rfl, hr5, hg5⟩
    have hb5 := HB.out.grown hg5 (hne _ (by omega))
    have hc5 := HC.out.grown hg5 (hne _ (by omega))
    have HG5 : Hid (w.grownBy w5 (some gr)) := World.grownBy.trans HG.out hg5
    have HR5 : Hid (RS w5 gr A c lb k0 (if e0 = 0 then 11 else e0)) := by
      refine ⟨k', hr5, fun h0 => ?_, hle'⟩
      split at h0
      · exact absurd h0 (by decide)
      · exact HKE.out h0
    obtain ⟨c0, c1, c2, c3, c4, c5, c6, c7⟩ := hc5.cmd
    obtain ⟨z0, z1, z2, z3, z4, z5, z6, z7⟩ := hb5.cmd
    have y0 := hb5.frozen 0
    have y1 := hb5.frozen 1
    have y2 := hb5.frozen 2
    have y3 := hb5.frozen 3
    have y4 := hb5.frozen 4
    have y5 := hb5.frozen 5
    have y6 := hb5.frozen 6
    have y7 := hb5.frozen 7
    have HB5 := Lib.hid hb5
    clear hr5 hg5 hb5 hc5 HB HC HG HKE CX
    have hn2 : gc ≠ g := by omega
    have hn4 : g ≠ gc := by omega
    go_wp2
    have hrF := Blk.set8 HB5.out (.int .i64 kind) (.int .i64 0) (.int .i64 0) (.slice none 0 0) (.int .u64 0) (.int .u64 0) (.int .u64 0) (.int .u64 0)
    have hG8 := grown_set8 w5 g (.int .i64 kind) (.int .i64 0) (.int .i64 0) (.slice none 0 0) (.int .u64 0) (.int .u64 0) (.int .u64 0) (.int .u64 0)
    refine bodyPost_ret (results_cell1 rfl rfl (run_loadVar_row _ _ _ _ _ (0, 0) _ hrF Try.underlying25 rfl info_Cmd)) rfl ?_
    rw [HFE.out, HDE.out]
    exact ⟨.slice none 0 0, [], rfl, own_nil _ _ _ _, by simp, Wfs.nil _, fun _ => rfl, HR5.out.far hG8 (by omega), grown_out HG5.out hG8 (by omega)⟩
  have HDE : Hid (dK lb = (kind, k0, e0)) := by
    show _ = _
    rw [HDK.out, hI, if_neg (by simp)]
  obtain ⟨lets, hlets⟩ : ∃ lets, bytes (fld kind) = lets := ⟨_, rfl⟩
  have HFE : Hid (lets.foldl (fstep lb) ⟨0, 0, [], 0, 0, 0, 0, k0, e0⟩ = F) := by
    show _ = _
    rw [← HF.out, ← hlets]
    unfold fin
    rw [HDE.out]
  have kc := fun (s : ByteArray) => Lib.run_convert_string_bytes (P := Try.prog) w4 9 31 5 s Try.underlying9 Try.underlying31 Try.underlying5
  obtain ⟨gb, hgb⟩ : ∃ gb, w4.heap.size = gb := ⟨_, rfl⟩
  have hB5 := Lib.bytesWorld_below w4 5 (fld kind)
  have hgl : gb < (Lib.bytesWorld w4 5 (fld kind)).heap.size := by rw [Lib.bytesWorld_size]; omega
  have hlen : lets.length = (fld kind).size := by rw [← hlets, bytes_length]
  have hcells : ∀ j (hj : j < lets.length), (Lib.bytesWorld w4 5 (fld kind)).cell? ⟨gb, j, none⟩ = some (.int .u8 lets[j]) := fun j hj => by
    subst hlets
    rw [bytes_length] at hj
    rw [← hgb, Lib.bytesWorld_cell w4 _ _ j hj]
    simp [bytes, List.getD_eq_getElem?_getD, Array.getElem?_eq_getElem (show j < (fld kind).data.size from hj)]
  have HO : Hid (OR w gr g gc gb) := ⟨by omega, by omega, by omega, hg⟩
  have H0 : Hid (SR w gr g gc gb lets A c lb (Lib.bytesWorld w4 5 (fld kind)) kind 0 0 (.slice none 0 0) [] [] 0 0 0 0 k0 e0) :=
    ⟨hb3.below hB5 hb3.lt, hr3.below hB5 hr3.lt, hc3.below hB5 hc3.lt, hcells, grown_below hG3 hB5 (by omega), own_nil _ _ _ _, by simp, Wfs.nil _, fun _ => rfl, hgl⟩
  have HTS : Hid (∀ j (hj : j < lets.length), (lets.take (j + 1)).foldl (fstep lb) ⟨0, 0, [], 0, 0, 0, 0, k0, e0⟩ = fstep lb ((lets.take j).foldl (fstep lb) ⟨0, 0, [], 0, 0, 0, 0, k0, e0⟩) lets[j]) := by
    intro j hj
    rw [← List.take_append_getElem hj, List.foldl_append]
    rfl
  have HLX : Hid (∀ x ∈ lets, x = 108 ∨ x = 110 ∨ x = 116 ∨ x = 98 ∨ x = 113 ∨ x = 115 ∨ x = 109) := by
    show ∀ x ∈ lets, _
    rw [← hlets]
    exact letters kind
  have hf5 := fld_len kind
  clear hB5 hgl hcells hb3 hr3 hc3 hG3 HF HDK hlets c0 c1 c2 c3 c4 c5 c6 c7
  go_wp2_with fail
  generalize Lib.bytesWorld w4 5 (fld kind) = W5 at H0 ⊢
  clear kc
  go_loopw [7, 26] (fun _ i wr => ∃ (j : Nat) (n t : Int) (sl : Value) (L l : List Int) (b q s m : Int) (k : Nat) (e : Int), i = .int .i64 (j : Int) ∧ j ≤ (fld kind).size ∧ SR w gr g gc gb lets A c lb wr kind n t sl L l b q s m k e ∧ (lets.take j).foldl (fstep lb) ⟨0, 0, [], 0, 0, 0, 0, k0, e0⟩ = ⟨n, t, l, b, q, s, m, k, e⟩) (fun _ i _ => (fld kind).size - (intOf i).toNat)
  case atStart => exact ⟨0, 0, 0, _, [], [], 0, 0, 0, 0, k0, e0, rfl, by omega, H0.out, rfl⟩
  case round =>
    clear H0
    obtain ⟨j, n, t, sl, L, l, b, q, s, m, k, e, rfl, hj, hst, heq⟩ := hrel
    have HS := Lib.hid hst
    have HQ := Lib.hid heq
    clear hst heq
    by_cases hlt : j < (fld kind).size
    · have hltb : j < lets.length := by rw [hlen]; exact hlt
      have hcl := HS.out.lets j hltb
      have hlx := HLX.out _ (List.getElem_mem hltb)
      have hts := HTS.out j hltb
      rw [HQ.out] at hts
      obtain ⟨x, hx⟩ : ∃ x, lets[j] = x := ⟨_, rfl⟩
      rw [hx] at hcl hlx hts
      have HTJ := Lib.hid hts
      clear hx hts
      rcases hlx with rfl | rfl | rfl | rfl | rfl | rfl | rfl
      · obtain ⟨⟨l2, k2, e2⟩, hd⟩ : ∃ r, decNodes lb (rnum lb k e 7).1.toNat (rnum lb k e 7).2.1 (rnum lb k e 7).2.2 = r := ⟨_, rfl⟩
        have CX := Lib.hid (HS.out.nodes HO.out HIN.out hd)
        have HV : Hid (fstep lb ⟨n, t, l, b, q, s, m, k, e⟩ 108 = ⟨n, t, l2, b, q, s, m, k2, e2⟩) := by
          show _ = _
          simp only [fstep, if_pos, hd]
        clear hd
        go_wp2_with fail
        refine CX.out.mono ?_
        rintro x w6 ⟨v6, L6, rfl, ho6, hl6, hw6, he6, hs6⟩
        have H6 := Lib.hid hs6
        have HO6 := Lib.hid ho6
        have HW6 := Lib.hid hw6
        have HE6 := Lib.hid he6
        have ccc := hs6.cm.cmd.c3
        have ffc := hs6.cm.frozen 3
        obtain ⟨A6, c6, rfl⟩ := own_slice ho6
        clear hs6 ho6 hw6 he6 hcl CX
        go_wp2
        go_roundw
        case rel => exact ⟨j + 1, n, t, _, L6, l2, b, q, s, m, k2, e2, by go_num, by omega, H6.out.set3 HO.out HO6.out hl6 HW6.out HE6.out, by rw [HTJ.out, HV.out]⟩
        case measure => simp [intOf]; omega
      · have CX := HS.out.small HO.out HIN.out
        have hv : fstep lb ⟨n, t, l, b, q, s, m, k, e⟩ 110 = _ := rfl
        conv at hv => rhs; simp only [fstep, if_neg (show ¬ ((110 : Int) = 108) by decide), if_pos, if_neg (show ¬ ((110 : Int) = 0) by decide)]
        obtain ⟨⟨v, k2, e2⟩, hr⟩ : ∃ r, rnum lb k e 65535 = r := ⟨_, rfl⟩
        rw [hr] at CX hv
        simp only at CX hv
        have CX := Lib.hid CX
        have HV : Hid (fstep lb ⟨n, t, l, b, q, s, m, k, e⟩ 110 = ⟨v, t, l, b, q, s, m, k2, e2⟩) := hv
        clear hr hv
        go_wp2_with fail
        refine CX.out.mono ?_
        rintro x w6 ⟨rfl, hs6⟩
        have H6 := Lib.hid hs6
        have ccc := hs6.cm.cmd.c1
        have ffc := hs6.cm.frozen 1
        clear hs6 hcl CX
        go_wp2
        go_roundw
        case rel => exact ⟨j + 1, v, t, sl, L, l, b, q, s, m, k2, e2, by go_num, by omega, H6.out.set1 HO.out v, by rw [HTJ.out, HV.out]⟩
        case measure => simp [intOf]; omega
      · have CX := HS.out.small HO.out HIN.out
        have hv : fstep lb ⟨n, t, l, b, q, s, m, k, e⟩ 116 = _ := rfl
        conv at hv => rhs; simp only [fstep, if_neg (show ¬ ((116 : Int) = 108) by decide), if_neg (show ¬ ((116 : Int) = 110) by decide), if_pos, if_neg (show ¬ ((116 : Int) = 0) by decide)]
        obtain ⟨⟨v, k2, e2⟩, hr⟩ : ∃ r, rnum lb k e 65535 = r := ⟨_, rfl⟩
        rw [hr] at CX hv
        simp only at CX hv
        have CX := Lib.hid CX
        have HV : Hid (fstep lb ⟨n, t, l, b, q, s, m, k, e⟩ 116 = ⟨n, v, l, b, q, s, m, k2, e2⟩) := hv
        clear hr hv
        go_wp2_with fail
        refine CX.out.mono ?_
        rintro x w6 ⟨rfl, hs6⟩
        have H6 := Lib.hid hs6
        have ccc := hs6.cm.cmd.c2
        have ffc := hs6.cm.frozen 2
        clear hs6 hcl CX
        go_wp2
        go_roundw
        case rel => exact ⟨j + 1, n, v, sl, L, l, b, q, s, m, k2, e2, by go_num, by omega, H6.out.set2 HO.out v, by rw [HTJ.out, HV.out]⟩
        case measure => simp [intOf]; omega
      · have CX := HS.out.num HO.out HIN.out
        have hv : fstep lb ⟨n, t, l, b, q, s, m, k, e⟩ 98 = _ := rfl
        conv at hv => rhs; simp only [fstep, if_neg (show ¬ ((98 : Int) = 108) by decide), if_neg (show ¬ ((98 : Int) = 110) by decide), if_neg (show ¬ ((98 : Int) = 116) by decide), if_pos, if_neg (show ¬ ((98 : Int) = 0) by decide)]
        obtain ⟨⟨v, k2, e2⟩, hr⟩ : ∃ r, rnum lb k e 18446744073709551615 = r := ⟨_, rfl⟩
        rw [hr] at CX hv
        simp only at CX hv
        have CX := Lib.hid CX
        have HV : Hid (fstep lb ⟨n, t, l, b, q, s, m, k, e⟩ 98 = ⟨n, t, l, v, q, s, m, k2, e2⟩) := hv
        clear hr hv
        go_wp2_with fail
        refine CX.out.mono ?_
        rintro x w6 ⟨rfl, hs6⟩
        have H6 := Lib.hid hs6
        have ccc := hs6.cm.cmd.c4
        have ffc := hs6.cm.frozen 4
        clear hs6 hcl CX
        go_wp2
        go_roundw
        case rel => exact ⟨j + 1, n, t, sl, L, l, v, q, s, m, k2, e2, by go_num, by omega, H6.out.set4 HO.out v, by rw [HTJ.out, HV.out]⟩
        case measure => simp [intOf]; omega
      · have CX := HS.out.num HO.out HIN.out
        have hv : fstep lb ⟨n, t, l, b, q, s, m, k, e⟩ 113 = _ := rfl
        conv at hv => rhs; simp only [fstep, if_neg (show ¬ ((113 : Int) = 108) by decide), if_neg (show ¬ ((113 : Int) = 110) by decide), if_neg (show ¬ ((113 : Int) = 116) by decide), if_neg (show ¬ ((113 : Int) = 98) by decide), if_pos, if_neg (show ¬ ((113 : Int) = 0) by decide)]
        obtain ⟨⟨v, k2, e2⟩, hr⟩ : ∃ r, rnum lb k e 18446744073709551615 = r := ⟨_, rfl⟩
        rw [hr] at CX hv
        simp only at CX hv
        have CX := Lib.hid CX
        have HV : Hid (fstep lb ⟨n, t, l, b, q, s, m, k, e⟩ 113 = ⟨n, t, l, b, v, s, m, k2, e2⟩) := hv
        clear hr hv
        go_wp2_with fail
        refine CX.out.mono ?_
        rintro x w6 ⟨rfl, hs6⟩
        have H6 := Lib.hid hs6
        have ccc := hs6.cm.cmd.c5
        have ffc := hs6.cm.frozen 5
        clear hs6 hcl CX
        go_wp2
        go_roundw
        case rel => exact ⟨j + 1, n, t, sl, L, l, b, v, s, m, k2, e2, by go_num, by omega, H6.out.set5 HO.out v, by rw [HTJ.out, HV.out]⟩
        case measure => simp [intOf]; omega
      · have CX := HS.out.num HO.out HIN.out
        have hv : fstep lb ⟨n, t, l, b, q, s, m, k, e⟩ 115 = _ := rfl
        conv at hv => rhs; simp only [fstep, if_neg (show ¬ ((115 : Int) = 108) by decide), if_neg (show ¬ ((115 : Int) = 110) by decide), if_neg (show ¬ ((115 : Int) = 116) by decide), if_neg (show ¬ ((115 : Int) = 98) by decide), if_neg (show ¬ ((115 : Int) = 113) by decide), if_pos, if_neg (show ¬ ((115 : Int) = 0) by decide)]
        obtain ⟨⟨v, k2, e2⟩, hr⟩ : ∃ r, rnum lb k e 18446744073709551615 = r := ⟨_, rfl⟩
        rw [hr] at CX hv
        simp only at CX hv
        have CX := Lib.hid CX
        have HV : Hid (fstep lb ⟨n, t, l, b, q, s, m, k, e⟩ 115 = ⟨n, t, l, b, q, v, m, k2, e2⟩) := hv
        clear hr hv
        go_wp2_with fail
        refine CX.out.mono ?_
        rintro x w6 ⟨rfl, hs6⟩
        have H6 := Lib.hid hs6
        have ccc := hs6.cm.cmd.c6
        have ffc := hs6.cm.frozen 6
        clear hs6 hcl CX
        go_wp2
        go_roundw
        case rel => exact ⟨j + 1, n, t, sl, L, l, b, q, v, m, k2, e2, by go_num, by omega, H6.out.set6 HO.out v, by rw [HTJ.out, HV.out]⟩
        case measure => simp [intOf]; omega
      · have CX := HS.out.num HO.out HIN.out
        have hv : fstep lb ⟨n, t, l, b, q, s, m, k, e⟩ 109 = _ := rfl
        conv at hv => rhs; simp only [fstep, if_neg (show ¬ ((109 : Int) = 108) by decide), if_neg (show ¬ ((109 : Int) = 110) by decide), if_neg (show ¬ ((109 : Int) = 116) by decide), if_neg (show ¬ ((109 : Int) = 98) by decide), if_neg (show ¬ ((109 : Int) = 113) by decide), if_neg (show ¬ ((109 : Int) = 115) by decide), if_neg (show ¬ ((109 : Int) = 0) by decide)]
        obtain ⟨⟨v, k2, e2⟩, hr⟩ : ∃ r, rnum lb k e 18446744073709551615 = r := ⟨_, rfl⟩
        rw [hr] at CX hv
        simp only at CX hv
        have CX := Lib.hid CX
        have HV : Hid (fstep lb ⟨n, t, l, b, q, s, m, k, e⟩ 109 = ⟨n, t, l, b, q, s, v, k2, e2⟩) := hv
        clear hr hv
        go_wp2_with fail
        refine CX.out.mono ?_
        rintro x w6 ⟨rfl, hs6⟩
        have H6 := Lib.hid hs6
        have ccc := hs6.cm.cmd.c7
        have ffc := hs6.cm.frozen 7
        clear hs6 hcl CX
        go_wp2
        go_roundw
        case rel => exact ⟨j + 1, n, t, sl, L, l, b, q, s, v, k2, e2, by go_num, by omega, H6.out.set7 HO.out v, by rw [HTJ.out, HV.out]⟩
        case measure => simp [intOf]; omega
    · obtain rfl : j = (fld kind).size := by omega
      have HFF : Hid (F = ⟨n, t, l, b, q, s, m, k, e⟩) := by
        show _ = _
        rw [← HFE.out, ← HQ.out, List.take_of_length_le (by omega)]
      obtain ⟨A9, c9, rfl⟩ := own_slice HS.out.own
      obtain ⟨c0, c1, c2, c3, c4, c5, c6, c7⟩ := HS.out.cm.cmd
      obtain ⟨z0, z1, z2, z3, z4, z5, z6, z7⟩ := HS.out.res.cmd
      have y0 := HS.out.res.frozen 0
      have y1 := HS.out.res.frozen 1
      have y2 := HS.out.res.frozen 2
      have y3 := HS.out.res.frozen 3
      have y4 := HS.out.res.frozen 4
      have y5 := HS.out.res.frozen 5
      have y6 := HS.out.res.frozen 6
      have y7 := HS.out.res.frozen 7
      have hn2 : gc ≠ g := by omega
      have hn4 : g ≠ gc := by omega
      clear HQ HFE HTS HLX
      go_wp2
      have hrF := Blk.set8 HS.out.res (.int .i64 kind) (.int .i64 n) (.int .i64 t) (.slice A9 L.length c9) (.int .u64 b) (.int .u64 q) (.int .u64 s) (.int .u64 m)
      have hG8 := grown_set8 wr g (.int .i64 kind) (.int .i64 n) (.int .i64 t) (.slice A9 L.length c9) (.int .u64 b) (.int .u64 q) (.int .u64 s) (.int .u64 m)
      refine bodyPost_ret (results_cell1 rfl rfl (run_loadVar_row _ _ _ _ _ (0, 0) _ hrF Try.underlying25 rfl info_Cmd)) rfl ?_
      rw [HFF.out, HDE.out]
      have o2 := HO.out.h2
      have o3 := HO.out.h3
      exact ⟨.slice A9 L.length c9, L, rfl, own_lower (own_gr HS.out.own hG8 (by omega)) (by omega), HS.out.len, HS.out.wf, HS.out.eq, HS.out.rd.far hG8 (by omega), grown_out HS.out.grow hG8 (by omega)⟩
end Go.Proofs.Ytnpodnieahokjaa
