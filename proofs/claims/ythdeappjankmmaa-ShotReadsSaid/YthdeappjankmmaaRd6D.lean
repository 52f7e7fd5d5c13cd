/- The document reads a snapshot: its Decode. -/
import Derived.Test.YthdeappjankmmaaRd6W
import Derived.Test.YthdeappjankmmaaShM
import Derived.Test.YthdeappjankmmaaSdP
namespace Go.Proofs.Ythdeappjankmmaa
set_option maxRecDepth 100000
open Go.RowKit

theorem rE_bad {lb : List Int} (hlen : ¬ 8192 < lb.length) (h : rE lb 0 ≠ 0) : sE lb = rE lb 0 := by
  unfold rE rE1 at h ⊢
  rw [if_neg (show ¬ (0 : Int) ≠ 0 by simp)] at h ⊢
  unfold sE
  rw [if_neg hlen]
  by_cases h0 : lb.length = 0
  · rw [if_pos h0, if_pos h0, if_neg (by decide)]
  · rw [if_neg h0] at h ⊢
    rw [if_neg h0]
    by_cases h83 : lb.head? ≠ some 83
    · rw [if_pos h83, if_pos h83, if_neg (by decide)]
    · rw [if_neg h83] at h ⊢
      rw [if_neg h83]
      rw [if_pos rfl] at h ⊢
      have h1 : sE1 lb = (sLs lb).2.2 := by
        unfold sE1
        rw [if_neg (fun hh => h hh.1)]
      rw [h1, if_neg h]
theorem rE_good {lb : List Int} (hlen : ¬ 8192 < lb.length) (h : rE lb 0 = 0) : sE lb = if (sLs lb).2.1 < lb.length then 11 else errShot (decide (ShotOk (sI lb).1 (sT lb).1 (sNs lb).1 (sLim lb).1 (sNxt lb).1 (sHs lb).1 (sLs lb).1)) := by
  unfold rE rE1 at h
  rw [if_neg (show ¬ (0 : Int) ≠ 0 by simp)] at h
  unfold sE
  rw [if_neg hlen]
  by_cases h0 : lb.length = 0
  · rw [if_pos h0, if_neg (by decide)] at h
    exact absurd h (by decide)
  · rw [if_neg h0] at h
    rw [if_neg h0]
    by_cases h83 : lb.head? ≠ some 83
    · rw [if_pos h83, if_neg (by decide)] at h
      exact absurd h (by decide)
    · rw [if_neg h83, if_pos rfl] at h
      rw [if_neg h83]
      have h1 : sE1 lb = if (sLs lb).2.1 < lb.length then 11 else 0 := by
        unfold sE1
        by_cases hl : (sLs lb).2.1 < lb.length
        · rw [if_pos ⟨h, hl⟩, if_pos hl]
        · rw [if_neg (fun hh => hl hh.2), if_neg hl, h]
      rw [h1]
      by_cases hl : (sLs lb).2.1 < lb.length
      · rw [if_pos hl, if_pos hl, if_neg (by decide)]
      · rw [if_neg hl, if_neg hl, if_pos rfl]

set_option maxHeartbeats 20000000 in
theorem r06_Decode_walk (w : World) (A : Option Addr) (c : Nat) (lb : List Int) (h : In8 w A c lb) :
    Calls Try.prog 20 #[.slice A lb.length c] w fun x w' => Below w.heap.size w w' ∧
      ((sE lb = 0 ∧ ∃ A0 c0 A1 c1 A2 c2, x = .returned (.tuple #[shV (sI lb).1 (sT lb).1 (.slice A0 (sNs lb).1.length c0) (sLim lb).1 (sNxt lb).1 (.slice A1 (sHs lb).1.length c1) (.slice A2 (sLs lb).1.length c2), .int .i64 0]) ∧ InN .i64 w' A0 c0 (sNs lb).1 ∧ InS hdC 5 w' A1 c1 (sHs lb).1 ∧ InS lsC 6 w' A2 c2 (sLs lb).1) ∨
       (sE lb ≠ 0 ∧ x = .returned (.tuple #[shV 0 0 (.slice none 0 0) 0 0 (.slice none 0 0) (.slice none 0 0), .int .i64 (sE lb)]))) := by
  have HIN := Lib.hid h
  have hsm := h.small
  obtain ⟨g, hg⟩ : ∃ g, w.heap.size = g := ⟨_, rfl⟩
  rw [hg]
  obtain ⟨gr, hgr⟩ : ∃ gr, g + 1 = gr := ⟨_, rfl⟩
  have HSET : Hid (∀ (j : Nat) (W : World) (u : Value), Below g w W → Below g w (W.setCell ⟨g, j, none⟩ u)) := fun j W u hW => hW.setCell (p := ⟨g, j, none⟩) (Nat.le_refl _) u
  have hb0 : Blk (w.alloc (.cells (shC 0 0 (.slice none 0 0) 0 0 (.slice none 0 0) (.slice none 0 0)) 29)) g 29 (shC 0 0 (.slice none 0 0) 0 0 (.slice none 0 0) (.slice none 0 0)) := hg ▸ Blk.new _ _ _
  have hB0 : Below g w (w.alloc (.cells (shC 0 0 (.slice none 0 0) 0 0 (.slice none 0 0) (.slice none 0 0)) 29)) := (Below.refl _ _).alloc (by omega) _
  by_cases h1 : (8192 : Int) < lb.length
  · have hE : sE lb = 2 := by rw [sE, if_pos (by omega)]
    rw [hE]
    have d1 : decide ((lb.length : Int) > 8192) = true := decide_eq_true h1
    have HB0 := Lib.hid hB0
    clear hE h h1 hB0
    unfold shV
    go_enter Try.func20, Try.ntmps20
    go_upto_region 1 with (fail)
    change Code.wp _ _ _ _ (w.alloc (.cells (shC 0 0 (.slice none 0 0) 0 0 (.slice none 0 0) (.slice none 0 0)) 29))
    generalize (w.alloc (.cells (shC 0 0 (.slice none 0 0) 0 0 (.slice none 0 0) (.slice none 0 0)) 29)) = W0 at hb0 HB0 ⊢
    try rw [hg]
    obtain ⟨q0, q1, q2, q3, q4, q5, q6⟩ := hb0.sh
    have y0 := hb0.frozen 0
    have y1 := hb0.frozen 1
    have y2 := hb0.frozen 2
    have y3 := hb0.frozen 3
    have y4 := hb0.frozen 4
    have y5 := hb0.frozen 5
    have y6 := hb0.frozen 6
    go_wp2
    have hrF := (Blk.set7 hb0 (.int .u64 0) (.int .u64 0) (.slice none 0 0) (.int .i64 0) (.int .u64 0) (.slice none 0 0) (.slice none 0 0))
    refine bodyPost_ret (results_cell2 rfl rfl (run_loadVar_row _ _ _ _ _ (0, 0) _ hrF Try.underlying29 rfl info_Shot)) rfl ?_
    refine ⟨(HSET.out _ _ _ (HSET.out _ _ _ (HSET.out _ _ _ (HSET.out _ _ _ (HSET.out _ _ _ (HSET.out _ _ _ (HSET.out _ _ _ HB0.out))))))), .inr ⟨?_, ?_⟩⟩
    · decide
    · rfl
  have hlen : ¬ 8192 < lb.length := by omega
  have hbad := rE_bad hlen
  have hgood := rE_good hlen
  have d1 : decide ((lb.length : Int) > 8192) = false := decide_eq_false h1
  have hs1 : (w.alloc (.cells (shC 0 0 (.slice none 0 0) 0 0 (.slice none 0 0) (.slice none 0 0)) 29)).heap.size = gr := by simp [hg, hgr]
  have hB1 : Below g w ((w.alloc (.cells (shC 0 0 (.slice none 0 0) 0 0 (.slice none 0 0) (.slice none 0 0)) 29)).alloc (.cells (rdCells A lb.length c 0 0) 71)) := hB0.alloc (by omega) _
  have hb1 := hb0.alloc (.cells (rdCells A lb.length c 0 0) 71)
  have hr1 : Blk ((w.alloc (.cells (shC 0 0 (.slice none 0 0) 0 0 (.slice none 0 0) (.slice none 0 0)) 29)).alloc (.cells (rdCells A lb.length c 0 0) 71)) gr 71 (rdCells A lb.length c 0 0) := hs1 ▸ Blk.new _ _ _
  have hz1 : ((w.alloc (.cells (shC 0 0 (.slice none 0 0) 0 0 (.slice none 0 0) (.slice none 0 0)) 29)).alloc (.cells (rdCells A lb.length c 0 0) 71)).heap.size = g + 2 := by simp [hg]
  have HI0 : Hid (∀ W0, Below g w W0 → g + 2 ≤ W0.heap.size → ∀ W, W0.grownBy W (some gr) → In8 W A c lb) := fun W0 hB hz W hW => HIN.out.keep (by rw [hg]; exact hB.grown hW (by omega) (fun i hi => by injection hi with hi; omega))
  have C1 := fun W0 (k1 : ∀ W, W0.grownBy W (some gr) → In8 W A c lb) (k2 : Blk W0 gr 71 (rdCells A lb.length c 0 0)) => r06_Read_walk W0 gr A c lb 0 lb List.drop_zero 0 0 k1 k2 (Nat.zero_le _) (fun _ => rfl)
  obtain ⟨E, hE⟩ : ∃ E, sE lb = E := ⟨_, rfl⟩
  obtain ⟨F, hF⟩ : ∃ F, rE lb 0 = F := ⟨_, rfl⟩
  simp only [hF] at C1 hbad hgood
  rw [hE] at hbad hgood ⊢
  have C1 := Lib.hid C1
  have HBAD := Lib.hid hbad
  have HGOOD := Lib.hid hgood
  clear hs1 hb0 hB0 h h1 hbad hgood hE hF hlen
  unfold shV
  go_enter Try.func20, Try.ntmps20
  go_upto_region 4 with (fail)
  change Code.wp _ _ _ _ ((w.alloc (.cells (shC 0 0 (.slice none 0 0) 0 0 (.slice none 0 0) (.slice none 0 0)) 29)).alloc (.cells (rdCells A lb.length c 0 0) 71))
  generalize ((w.alloc (.cells (shC 0 0 (.slice none 0 0) 0 0 (.slice none 0 0) (.slice none 0 0)) 29)).alloc (.cells (rdCells A lb.length c 0 0) 71)) = W0 at hb1 hr1 hz1 hB1 ⊢
  try rw [hgr]
  have C2 := C1.out W0 (HI0.out W0 hB1 (by omega)) hr1
  unfold R6P at C2
  have C2 := Lib.hid C2
  clear C1 hr1
  go_wp2_with fail
  refine C2.out.mono ?_
  rintro x w1 ⟨i, t, vn, ns, lim, nxt, vh, hs, vl, ls, rfl, hon, hoh, hol, hro, heq, ⟨kx, hkx, hrs⟩, hg1⟩
  unfold shV
  obtain ⟨Bn, bn, rfl⟩ := own_slice hon
  obtain ⟨Bh, bh, rfl⟩ := own_slice hoh
  obtain ⟨Bl, bl, rfl⟩ := own_slice hol
  have hne : ∀ i, i ≠ gr → some i ≠ some gr := fun i hi hh => hi (by injection hh)
  have hb2 := hb1.grown hg1 (hne _ (by omega))
  have hB2 : Below g w w1 := hB1.grown hg1 (by omega) (fun i hi => by injection hi with hi; omega)
  have hz2 : g + 2 ≤ w1.heap.size := by have := hg1.size; omega
  rw [hz1] at hon hoh hol
  obtain ⟨gs, hgs⟩ : ∃ gs, w1.heap.size = gs := ⟨_, rfl⟩
  have hc3 : Blk (w1.alloc (.cells (shC i t (.slice Bn ns.length bn) lim nxt (.slice Bh hs.length bh) (.slice Bl ls.length bl)) 29)) gs 29 (shC i t (.slice Bn ns.length bn) lim nxt (.slice Bh hs.length bh) (.slice Bl ls.length bl)) := hgs ▸ Blk.new _ _ _
  have hb3 := hb2.alloc (.cells (shC i t (.slice Bn ns.length bn) lim nxt (.slice Bh hs.length bh) (.slice Bl ls.length bl)) 29)
  have hr3 : RS (w1.alloc (.cells (shC i t (.slice Bn ns.length bn) lim nxt (.slice Bh hs.length bh) (.slice Bl ls.length bl)) 29)) gr A c lb 0 lb kx F := hrs.below ((Below.refl w1.heap.size w1).alloc (Nat.le_refl _) _) hrs.lt
  have hB3 := hB2.alloc (by omega) (.cells (shC i t (.slice Bn ns.length bn) lim nxt (.slice Bh hs.length bh) (.slice Bl ls.length bl)) 29)
  have ho3 := World.ownsRow.alloc hon (.cells (shC i t (.slice Bn ns.length bn) lim nxt (.slice Bh hs.length bh) (.slice Bl ls.length bl)) 29)
  have ho4 := World.ownsRow.alloc hoh (.cells (shC i t (.slice Bn ns.length bn) lim nxt (.slice Bh hs.length bh) (.slice Bl ls.length bl)) 29)
  have ho5 := World.ownsRow.alloc hol (.cells (shC i t (.slice Bn ns.length bn) lim nxt (.slice Bh hs.length bh) (.slice Bl ls.length bl)) 29)
  have HRO := Lib.hid hro
  have HEQ := Lib.hid heq
  have HKX := Lib.hid hkx
  clear hb1 hB1 hz1 hb2 hB2 hon hoh hol hrs hg1 hro heq hkx C2
  go_upto_region 5 with (fail)
  change Code.wp _ _ _ _ (w1.alloc (.cells (shC i t (.slice Bn ns.length bn) lim nxt (.slice Bh hs.length bh) (.slice Bl ls.length bl)) 29))
  generalize (w1.alloc (.cells (shC i t (.slice Bn ns.length bn) lim nxt (.slice Bh hs.length bh) (.slice Bl ls.length bl)) 29)) = W3 at hc3 hb3 hr3 hB3 ho3 ho4 ho5 ⊢
  have hlt1 : gr < gs := by omega
  have hn1 : gr ≠ g := by omega
  have hn2 : gs ≠ g := by omega
  have hn3 : g ≠ gr := by omega
  have hn4 : g ≠ gs := by omega
  try rw [hgs]
  clear hgs hz2 hne
  have HBB := Lib.hid hB3
  have r2 := hr3.cell2
  obtain ⟨-, k', hrd, hkl, hk0⟩ := hr3
  have HRD := Lib.hid hrd
  have r1 : W3.cell? ⟨gr, 1, none⟩ = some (.int .i64 (k' : Int)) := (hrd.cell 1).trans rfl
  clear hB3 hrd
  by_cases h0 : F = 0
  rotate_left
  · have e1 : (F == 0) = false := beq_eq_false_iff_ne.2 h0
    have e2 : (F != 0) = true := bne_iff_ne.2 h0
    have HV := Lib.hid (HBAD.out h0)
    have HN := Lib.hid h0
    have HB3 := Lib.hid hb3
    clear h0 hk0
    obtain ⟨q0, q1, q2, q3, q4, q5, q6⟩ := hb3.sh
    have y0 := hb3.frozen 0
    have y1 := hb3.frozen 1
    have y2 := hb3.frozen 2
    have y3 := hb3.frozen 3
    have y4 := hb3.frozen 4
    have y5 := hb3.frozen 5
    have y6 := hb3.frozen 6
    go_wp2_with fail
    go_region_held3 (fun w' => w'.cell? ⟨gr, 2, none⟩ = some (.int .i64 F)) (go_keep) (fail)
    all_goals go_wp2
    have hrF := (Blk.set7 hb3 (.int .u64 0) (.int .u64 0) (.slice none 0 0) (.int .i64 0) (.int .u64 0) (.slice none 0 0) (.slice none 0 0)).drew
    refine bodyPost_ret (results_cell2 rfl rfl (run_loadVar_row _ _ _ _ _ (0, 0) _ hrF Try.underlying29 rfl info_Shot)) rfl ?_
    refine ⟨(HSET.out _ _ _ (HSET.out _ _ _ (HSET.out _ _ _ (HSET.out _ _ _ (HSET.out _ _ _ (HSET.out _ _ _ (HSET.out _ _ _ HBB.out))))))).drew, .inr ⟨?_, ?_⟩⟩
    · rw [HV.out]
      exact HN.out
    · rw [HV.out]
      rfl
  subst h0
  obtain ⟨hkk, hkl2⟩ := hk0 rfl
  rw [Nat.zero_add] at hkk
  subst hkk
  have hsL := HKX.out rfl
  have hfin := HGOOD.out rfl
  rw [← hsL] at hfin
  have HFQ := Lib.hid (HEQ.out rfl)
  obtain ⟨f1, f2, f3, f4, f5, f6, f7⟩ := HFQ.out
  rw [f1, f2, f3, f4, f5, f6, f7] at hfin
  have HFIN := Lib.hid hfin
  clear hk0 hsL hfin f1 f2 f3 f4 f5 f6 f7 HBAD HGOOD HEQ HKX hkl
  by_cases hlt : k' < lb.length
  · have e1 : decide (k' < lb.length) = true := decide_eq_true hlt
    have HV : Hid (E = 11) := by
      show _ = _
      rw [HFIN.out, if_pos hlt]
    have CF := ref_Fail_any W3 gr A lb.length c k' 0 11 HRD.out
    rw [if_pos rfl] at CF
    have CF := Lib.hid CF
    have HB3 := Lib.hid hb3
    clear hlt HFIN hkl2 hb3
    go_wp2_with fail
    refine CF.out.mono ?_
    rintro x w4 ⟨rfl, hb4, hg4⟩
    have hr2 : w4.cell? ⟨gr, 2, none⟩ = some (.int .i64 11) := (hb4.cell 2).trans rfl
    have hb5 := HB3.out.grown hg4 (fun hh => by injection hh with hh; exact hn3 hh)
    have HB5 := Lib.hid (HBB.out.grown hg4 (by have := HB3.out.lt; omega) (fun i hi => by injection hi with hi; omega))
    clear hb4 hg4 CF r1 r2
    obtain ⟨q0, q1, q2, q3, q4, q5, q6⟩ := hb5.sh
    have y0 := hb5.frozen 0
    have y1 := hb5.frozen 1
    have y2 := hb5.frozen 2
    have y3 := hb5.frozen 3
    have y4 := hb5.frozen 4
    have y5 := hb5.frozen 5
    have y6 := hb5.frozen 6
    go_wp2_with fail
    go_region_held3 (fun w' => w'.cell? ⟨gr, 2, none⟩ = some (.int .i64 11)) (go_keep) (fail)
    all_goals go_wp2
    have hrF := (Blk.set7 hb5 (.int .u64 0) (.int .u64 0) (.slice none 0 0) (.int .i64 0) (.int .u64 0) (.slice none 0 0) (.slice none 0 0)).drew
    refine bodyPost_ret (results_cell2 rfl rfl (run_loadVar_row _ _ _ _ _ (0, 0) _ hrF Try.underlying29 rfl info_Shot)) rfl ?_
    refine ⟨(HSET.out _ _ _ (HSET.out _ _ _ (HSET.out _ _ _ (HSET.out _ _ _ (HSET.out _ _ _ (HSET.out _ _ _ (HSET.out _ _ _ HB5.out))))))).drew, .inr ⟨?_, ?_⟩⟩
    · rw [HV.out]
      decide
    · rw [HV.out]
      rfl
  have e1 : decide (k' < lb.length) = false := decide_eq_false hlt
  have HV : Hid (E = errShot (decide (ShotOk i t ns lim nxt hs ls))) := by
    show _ = _
    rw [HFIN.out, if_neg hlt]
  have RO := HRO.out
  have lN : ns.length ≤ 140737488355328 := by have := RO.nsl; omega
  have lH : hs.length * (8 * 5) ≤ 140737488355328 := by have := RO.hsl; omega
  have lL : ls.length * (8 * 6) ≤ 140737488355328 := by have := RO.lsl; omega
  have hwn : Wfs .i64 ns := fun z hz => wf_small (RO.ns z hz).1 (RO.ns z hz).2
  have HN := Lib.hid (InN.own_at (k := .i64) ho3 hwn lN)
  have HH := Lib.hid (InS.own_at (f := hdC) ho4 lH)
  have HL := Lib.hid (InS.own_at (f := lsC) ho5 lL)
  have CC := fun W k1 k2 k3 => r06_Check_any W i t Bn bn ns lim nxt Bh bh hs Bl bl ls k1 k2 k3
  rw [← HV.out] at CC
  unfold shV at CC
  have CX := Lib.hid (CC W3 HN.out HH.out HL.out)
  have HB3 := Lib.hid hb3
  have HC3 := Lib.hid hc3
  have HO3 := Lib.hid ho3
  have HO4 := Lib.hid ho4
  have HO5 := Lib.hid ho5
  have HWN := Lib.hid hwn
  clear CC hb3 ho3 ho4 ho5 hwn RO hlt HFIN hkl2 HN HH HL HRO
  obtain ⟨z0, z1, z2, z3, z4, z5, z6⟩ := hc3.sh
  clear hc3
  go_wp2_with fail
  refine CX.out.mono ?_
  rintro x w4 ⟨rfl, hB4⟩
  have hb4 := HB3.out.below hB4 HB3.out.lt
  have hc4 := HC3.out.below hB4 HC3.out.lt
  have HB4 := Lib.hid (HBB.out.trans (hB4.mono (Nat.le_of_lt HB3.out.lt)))
  have ho3 := own_below HO3.out hB4
  have ho4 := own_below HO4.out hB4
  have ho5 := own_below HO5.out hB4
  have HBx := Lib.hid hb4
  clear hB4 CX z0 z1 z2 z3 z4 z5 z6 r1 r2
  by_cases hE0 : E = 0
  rotate_left
  · have d2 : (E != 0) = true := bne_iff_ne.2 hE0
    have HNE := Lib.hid hE0
    clear hE0 ho3 ho4 ho5 hc4
    obtain ⟨q0, q1, q2, q3, q4, q5, q6⟩ := hb4.sh
    have y0 := hb4.frozen 0
    have y1 := hb4.frozen 1
    have y2 := hb4.frozen 2
    have y3 := hb4.frozen 3
    have y4 := hb4.frozen 4
    have y5 := hb4.frozen 5
    have y6 := hb4.frozen 6
    go_wp2
    have hrF := (Blk.set7 HBx.out (.int .u64 0) (.int .u64 0) (.slice none 0 0) (.int .i64 0) (.int .u64 0) (.slice none 0 0) (.slice none 0 0))
    refine bodyPost_ret (results_cell2 rfl rfl (run_loadVar_row _ _ _ _ _ (0, 0) _ hrF Try.underlying29 rfl info_Shot)) rfl ?_
    refine ⟨(HSET.out _ _ _ (HSET.out _ _ _ (HSET.out _ _ _ (HSET.out _ _ _ (HSET.out _ _ _ (HSET.out _ _ _ (HSET.out _ _ _ HB4.out))))))), .inr ⟨?_, ?_⟩⟩
    · exact HNE.out
    · rfl
  have d2 : (E != 0) = false := by simp [hE0]
  have HE0 := Lib.hid hE0
  have hG7 := grown_set7 w4 g (.int .u64 i) (.int .u64 t) (.slice Bn ns.length bn) (.int .i64 lim) (.int .u64 nxt) (.slice Bh hs.length bh) (.slice Bl ls.length bl)
  have Kon := Lib.hid (InN.own_at (k := .i64) (kept_gr ho3 hG7 (by omega)) HWN.out lN)
  have Koh := Lib.hid (InS.own_at (f := hdC) (kept_gr ho4 hG7 (by omega)) lH)
  have Kol := Lib.hid (InS.own_at (f := lsC) (kept_gr ho5 hG7 (by omega)) lL)
  obtain ⟨z0, z1, z2, z3, z4, z5, z6⟩ := hc4.sh
  clear hG7 hE0 ho3 ho4 ho5 hc4 lN lH lL
  obtain ⟨q0, q1, q2, q3, q4, q5, q6⟩ := hb4.sh
  have y0 := hb4.frozen 0
  have y1 := hb4.frozen 1
  have y2 := hb4.frozen 2
  have y3 := hb4.frozen 3
  have y4 := hb4.frozen 4
  have y5 := hb4.frozen 5
  have y6 := hb4.frozen 6
  go_wp2
  have hrF := Blk.set7 HBx.out (.int .u64 i) (.int .u64 t) (.slice Bn ns.length bn) (.int .i64 lim) (.int .u64 nxt) (.slice Bh hs.length bh) (.slice Bl ls.length bl)
  refine bodyPost_ret (results_cell2 rfl rfl (run_loadVar_row _ _ _ _ _ (0, 0) _ hrF Try.underlying29 rfl info_Shot)) rfl ?_
  refine And.intro ?_ (Or.inl ?_)
  · exact HSET.out _ _ _ (HSET.out _ _ _ (HSET.out _ _ _ (HSET.out _ _ _ (HSET.out _ _ _ (HSET.out _ _ _ (HSET.out _ _ _ HB4.out))))))
  refine And.intro HE0.out ?_
  obtain ⟨f1, f2, f3, f4, f5, f6, f7⟩ := HFQ.out
  rw [f1, f2, f3, f4, f5, f6, f7]
  exact ⟨Bn, bn, Bh, bh, Bl, bl, rfl, Kon.out, Koh.out, Kol.out⟩
end Go.Proofs.Ythdeappjankmmaa
