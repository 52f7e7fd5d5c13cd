/- What may last, by the code: hard.last, hard.Check. -/
import Derived.Test.YtadkkhbbempaaaaEnt
namespace Go.Proofs.Ytadkkhbbempaaaa
set_option maxRecDepth 100000
open Go.RowKit

theorem wrap_sum (i : Int) (n : Nat) (hi : 0 ≤ i ∧ i ≤ 4611686018427387904) (hn : n * 88 ≤ 140737488355328) : IntKind.u64.wrap (n : Int) = (n : Int) ∧ IntKind.u64.wrap (i + (n : Int)) = i + (n : Int) := by
  rw [IntKind.wrap_u64, IntKind.wrap_u64]
  omega
set_option maxHeartbeats 2000000 in
theorem hard_last_any (w : World) (h : Hb) (p : Sa) (PA : Option Addr) (PC : Nat) (xs : List Ec) (hi : 0 ≤ h.sh.i ∧ h.sh.i ≤ 4611686018427387904) (hn : xs.length * 88 ≤ 140737488355328) :
    Calls Try.prog 33 #[hrdV h p PA PC xs] w fun e w' => e = .returned (.int .u64 (h.sh.i + (xs.length : Int))) ∧ Below w.heap.size w w' := by
  obtain ⟨g, hg⟩ : ∃ g, w.heap.size = g := ⟨_, rfl⟩
  rw [hg]
  obtain ⟨w1, w2⟩ := wrap_sum h.sh.i xs.length hi hn
  have hB : Below g w (w.alloc (.cells (hrdC h p PA PC xs) 32)) := (Below.refl _ _).alloc (by omega) _
  have hb : Blk (w.alloc (.cells (hrdC h p PA PC xs) 32)) g 32 (hrdC h p PA PC xs) := hg ▸ Blk.new _ _ _
  have HB := Lib.hid hB
  clear hi hn hB
  unfold hrdV
  go_enter Try.func33, Try.ntmps33
  go_upto_region 1 with (fail)
  change Code.wp _ _ _ _ (w.alloc (.cells (hrdC h p PA PC xs) 32))
  generalize (w.alloc (.cells (hrdC h p PA PC xs) 32)) = W at hb HB ⊢
  try rw [hg]
  have z3 := hb.hrd.z3
  have z10 := hb.hrd.z10
  clear hb
  go_wp2
  go_ret
  exact ⟨rfl, HB.out⟩

set_option maxHeartbeats 8000000 in
theorem hard_Check_any (w : World) (h : Hb) (p : Sa) (PA : Option Addr) (PC : Nat) (xs : List Ec) (hin : InH w h p PA PC xs) (wf : (h.hrd xs).Wf) :
    Calls Try.prog 13 #[hrdV h p PA PC xs] w fun e w' => e = .returned (.int .i64 (errRec (decide (h.hrd xs).Ok))) ∧ Below w.heap.size w w' := by
  obtain ⟨g, hg⟩ : ∃ g, w.heap.size = g := ⟨_, rfl⟩
  rw [hg]
  obtain ⟨E, hE⟩ : ∃ E, errRec (decide (h.hrd xs).Ok) = E := ⟨_, rfl⟩
  have HE := Lib.hid hE
  rw [hE]
  have hB : Below g w (w.alloc (.cells (hrdC h p PA PC xs) 32)) := (Below.refl _ _).alloc (by omega) _
  have hb : Blk (w.alloc (.cells (hrdC h p PA PC xs) 32)) g 32 (hrdC h p PA PC xs) := hg ▸ Blk.new _ _ _
  have HIN := Lib.hid hin
  have CS := fun W (k : InSh W h.sh p) => shot_Check_any W h.sh.i h.sh.t p.A0 p.c0 h.sh.ns h.sh.lim h.sh.nxt p.A1 p.c1 h.sh.hs p.A2 p.c2 h.sh.ls k.n k.h k.l wf.sh.hs wf.sh.ls wf.sh.nxt.2
  unfold shV at CS
  have hsml := hin.log.small
  have CL := fun (hi : h.sh.i ≤ 4611686018427387904) W => hard_last_any W h p PA PC xs ⟨wf.sh.i.1, hi⟩ hsml
  unfold hrdV at CL
  have CL := Lib.hid CL
  have HWF := Lib.hid wf
  have hi0 : 0 ≤ h.sh.i := wf.sh.i.1
  have ht0 : 0 ≤ h.sh.t := wf.sh.t.1
  have ht1 := Lib.hid wf.sh.t.2
  clear hE hin wf
  unfold hrdV
  go_enter Try.func13, Try.ntmps13
  go_upto_region 1 with (fail)
  change Code.wp _ _ _ _ (w.alloc (.cells (hrdC h p PA PC xs) 32))
  generalize (w.alloc (.cells (hrdC h p PA PC xs) 32)) = W at hb hB ⊢
  try rw [hg]
  have HB := Lib.hid hB
  clear hB
  obtain ⟨z0, z1, z2, z3, z4, z5, z6, z7, z8, z9, z10⟩ := hb.hrd
  by_cases c1 : h.bt ≤ 4611686018427387904
  rotate_left
  · have d1 : decide (h.bt > 4611686018427387904) = true := decide_eq_true (by omega)
    have HV : Hid (E = 130) := HE.out.symm.trans (rec_bad (fun ok => c1 ok.bt))
    clear c1 hb hi0 ht0
    go_wp2
    go_ret
    exact ⟨by rw [HV.out]; rfl, HB.out⟩
  have d1 : decide (h.bt > 4611686018427387904) = false := decide_eq_false (by omega)
  have C1 := CS W (HIN.out.sh.keep (hg ▸ HB.out))
  by_cases c2 : h.sh.Ok
  rotate_left
  · rw [shot_bad c2] at C1
    have C1 := Lib.hid C1
    have HV : Hid (E = 130) := HE.out.symm.trans (rec_bad (fun ok => c2 ok.sh))
    have hbl := hb.lt
    clear c2 c1 CS hb hi0 ht0
    go_wp2_with fail
    refine C1.out.mono ?_
    rintro e w1 ⟨rfl, hB1⟩
    have HB1 := Lib.hid (HB.out.trans (hB1.mono (Nat.le_of_lt hbl)))
    clear hB1 z0 z1 z2 z3 z4 z5 z6 z7 z8 z9 z10
    go_wp2
    go_ret
    exact ⟨by rw [HV.out]; rfl, HB1.out⟩
  have hc2 : errShot (decide (ShotOk h.sh.i h.sh.t h.sh.ns h.sh.lim h.sh.nxt h.sh.hs h.sh.ls)) = 0 := by
    rw [decide_eq_true (show ShotOk h.sh.i h.sh.t h.sh.ns h.sh.lim h.sh.nxt h.sh.hs h.sh.ls from c2)]
    rfl
  rw [hc2] at C1
  have C1 := Lib.hid C1
  have HC1 := Lib.hid c1
  have HC2 := Lib.hid c2
  have hbl := hb.lt
  clear hc2 c1 c2 CS
  go_wp2_with fail
  refine C1.out.mono ?_
  rintro e w1 ⟨rfl, hB1⟩
  have HB1 := Lib.hid (HB.out.trans (hB1.mono (Nat.le_of_lt hbl)))
  have hb1 := hb.below hB1 hbl
  clear hB1 z0 z1 z2 z3 z4 z5 z6 z7 z8 z9 z10 hb hbl C1 HB d1
  obtain ⟨z0, z1, z2, z3, z4, z5, z6, z7, z8, z9, z10⟩ := hb1.hrd
  by_cases c3 : h.sh.i ≤ 4611686018427387904
  rotate_left
  · have d1 : decide (h.sh.i > 4611686018427387904) = true := decide_eq_true (by omega)
    have HV : Hid (E = 130) := HE.out.symm.trans (rec_bad (fun ok => c3 ok.i))
    clear c3 hb1 hi0 ht0
    go_wp2
    go_ret
    exact ⟨by rw [HV.out]; rfl, HB1.out⟩
  have d1 : decide (h.sh.i > 4611686018427387904) = false := decide_eq_false (by omega)
  have C2 := Lib.hid (CL.out c3 w1)
  have HC3 := Lib.hid c3
  have hbl := hb1.lt
  obtain ⟨LN, hLN⟩ : ∃ LN, h.sh.i + (xs.length : Int) = LN := ⟨_, rfl⟩
  rw [hLN] at C2
  have HLN := Lib.hid hLN
  clear c3 hLN CL
  go_wp2_with fail
  refine C2.out.mono ?_
  rintro e w2 ⟨rfl, hB2⟩
  have HB2 := Lib.hid (HB1.out.trans (hB2.mono (Nat.le_of_lt hbl)))
  have hb2 := hb1.below hB2 hbl
  clear hB2 z0 z1 z2 z3 z4 z5 z6 z7 z8 z9 z10 hb1 hbl C2 HB1 d1
  obtain ⟨z0, z1, z2, z3, z4, z5, z6, z7, z8, z9, z10⟩ := hb2.hrd
  by_cases c4 : LN ≤ 4611686018427387904
  rotate_left
  · have d1 : decide (LN > 4611686018427387904) = true := decide_eq_true (by omega)
    have HV : Hid (E = 130) := HE.out.symm.trans (rec_bad (fun ok => c4 (by rw [← HLN.out]; have := ok.last; simp only [Hb.hrd, List.length_map] at this; exact this)))
    clear c4 hb2 hi0 ht0
    go_wp2
    go_ret
    exact ⟨by rw [HV.out]; rfl, HB2.out⟩
  have d1 : decide (LN > 4611686018427387904) = false := decide_eq_false (by omega)
  have HC4 := Lib.hid c4
  clear c4
  by_cases c5 : h.vt < 0
  · have d2 : decide (h.vt < 0) = true := decide_eq_true c5
    have HV : Hid (E = 130) := HE.out.symm.trans (rec_bad (fun ok => by have := ok.v0; simp only [Hb.hrd] at this; omega))
    clear c5 hb2 hi0 ht0
    go_wp2
    go_ret
    exact ⟨by rw [HV.out]; rfl, HB2.out⟩
  have d2 : decide (h.vt < 0) = false := decide_eq_false c5
  by_cases c6 : h.vt > 7
  · have d3 : decide (h.vt > 7) = true := decide_eq_true c6
    have HV : Hid (E = 130) := HE.out.symm.trans (rec_bad (fun ok => by have := ok.v7; simp only [Hb.hrd] at this; omega))
    clear c6 c5 hb2 hi0 ht0
    go_wp2
    go_ret
    exact ⟨by rw [HV.out]; rfl, HB2.out⟩
  have d3 : decide (h.vt > 7) = false := decide_eq_false c6
  have HC5 : Hid (0 ≤ h.vt) := by show 0 ≤ _; omega
  have HC6 : Hid (h.vt ≤ 7) := by show _ ≤ _; omega
  clear c5 c6
  have HBL := Lib.hid hb2
  clear hb2
  by_cases c7 : h.tm = 0 ∧ h.vt ≠ 0
  · have htm : (h.tm == 0) = true := by simp [c7.1]
    have hvt : (h.vt != 0) = true := bne_iff_ne.2 c7.2
    have HV : Hid (E = 130) := HE.out.symm.trans (rec_bad (fun ok => c7.2 (ok.tv c7.1)))
    clear hi0 ht0 c7
    go_wp2
    go_ret
    exact ⟨by rw [HV.out]; rfl, HB2.out⟩
  have HC7 : Hid (h.tm = 0 → h.vt = 0) := fun q => Classical.not_not.1 (fun q2 => c7 ⟨q, q2⟩)
  obtain ⟨lg, hlg⟩ : ∃ lg, xs.map (·.e) = lg := ⟨_, rfl⟩
  have HLG := Lib.hid hlg
  have hn : xs.length * 88 ≤ 140737488355328 := hsml
  have htt : (h.tm == 0) = false ∨ ((h.tm == 0) = true ∧ (h.vt != 0) = false) := by
    by_cases q : h.tm = 0
    · right
      exact ⟨by simp [q], by simp [HC7.out q]⟩
    · left
      exact beq_eq_false_iff_ne.2 q
  clear c7 hlg hsml hi0 ht0
  rcases htt with htm | ⟨htm, hvt⟩
  all_goals
    go_wp2_with fail
    go_loopw [3, 5, 52] (fun tv _ iv wr => ∃ (k : Nat) (a : Int), tv = .int .u64 a ∧ iv = .int .i64 (k : Int) ∧ k ≤ xs.length ∧ (0 ≤ a ∧ a < 18446744073709551616) ∧ Below g w wr ∧ Blk wr g 32 (hrdC h p PA PC xs) ∧ logOk h.sh.t lg = logOk a (lg.drop k) ∧ lastTm h.sh.t lg = lastTm a (lg.drop k)) (fun _ _ iv _ => xs.length - (intOf iv).toNat)
    case atStart => exact ⟨0, h.sh.t, rfl, rfl, by omega, HWF.out.sh.t, HB2.out, HBL.out, by rw [List.drop_zero], by rw [List.drop_zero]⟩
    case round =>
      clear HB2 HBL z0 z1 z2 z3 z4 z5 z6 z7 z8 z9 z10
      obtain ⟨k, a, rfl, rfl, hk, ha, hB, hbk, hlo, hlt⟩ := hrel
      have HB := Lib.hid hB
      have HBK := Lib.hid hbk
      have HLO := Lib.hid hlo
      have HLT := Lib.hid hlt
      have HA := Lib.hid ha
      clear hlo hlt ha
      by_cases hkl : k < xs.length
      · obtain ⟨b, off, rfl, hbb, hat⟩ := (HIN.out.log.keep (hg ▸ hB)).rows.ec (by omega)
        have hmem := List.getElem_mem hkl
        have hdr : lg.drop k = xs[k].e :: lg.drop (k + 1) := by
          rw [← HLG.out, List.drop_eq_getElem_cons (by simpa using hkl)]
          simp
        have hatk := hat k hkl
        have hinx := (HIN.out.log.keep (hg ▸ hB)).inn _ hmem
        have hwx := HWF.out.log _ (List.mem_map_of_mem hmem)
        obtain ⟨x, hx⟩ : ∃ x, xs[k] = x := ⟨_, rfl⟩
        rw [hx] at hatk hinx hdr hwx
        obtain ⟨x0, x1, x2, x3, x4, x5, x6, x7, x8⟩ := hatk
        rw [hdr] at HLO HLT
        have HINX := Lib.hid hinx
        clear hat hx hmem hdr hinx hB
        have HWX := Lib.hid hwx
        have z10 := hbk.hrd.z10
        obtain ⟨gx, hgx⟩ : ∃ gx, wr.heap.size = gx := ⟨_, rfl⟩
        have hgl : g < gx := hgx ▸ hbk.lt
        have hx1 : Blk (wr.alloc (.cells (ecA x) 46)) gx 46 (ecA x) := hgx ▸ Blk.new _ _ _
        have hb1 := hbk.alloc (.cells (ecA x) 46)
        have hB1 := HB.out.alloc (by omega) (.cells (ecA x) 46)
        have hI1 := HINX.out.keep ((Below.refl wr.heap.size wr).alloc (Nat.le_refl _) (.cells (ecA x) 46))
        clear hwx hbk
        go_upto_region 7 with (fail)
        change Code.wp _ _ _ _ (wr.alloc (.cells (ecA x) 46))
        generalize (wr.alloc (.cells (ecA x) 46)) = W5 at hx1 hb1 hB1 hI1 ⊢
        try rw [hgx]
        clear hgx x0 x1 x2 x3 x4 x5 x6 x7 x8 z10
        have HX1 := Lib.hid hx1
        have HB1 := Lib.hid hb1
        have HBB := Lib.hid hB1
        have HI1 := Lib.hid hI1
        obtain ⟨x0, x1, x2, x3, x4, x5, x6, x7, x8⟩ := hx1.ec
        clear hx1 hb1 hB1 hI1
        have hlt1 : gx < W5.heap.size := HX1.out.lt
        by_cases cm : a ≤ x.e.tm ∧ 1 ≤ x.e.tm
        rotate_left
        · have HV : Hid (E = 130) := HE.out.symm.trans (rec_bad (fun ok => by
            have h1 := ok.log
            simp only [Hb.hrd] at h1
            rw [HLG.out, HLO.out] at h1
            simp only [logOk, Bool.and_eq_true, decide_eq_true_eq] at h1
            exact cm h1.1.1))
          have htm0 := HWX.out.tm.1
          by_cases ca : a < 1
          · have cx : x.e.tm < 1 := by omega
            clear cm htm0
            go_wp2
            go_ret
            exact ⟨by rw [HV.out]; rfl, HBB.out⟩
          · have ca' : 1 ≤ a := by omega
            have cx : x.e.tm < a := by omega
            clear cm htm0 ca
            go_wp2
            go_ret
            exact ⟨by rw [HV.out]; rfl, HBB.out⟩
        have HCM := Lib.hid cm
        have C5 := cmd_Check_any W5 x.e.k x.e.n x.e.t x.A x.c x.e.l x.e.b x.e.q x.e.s x.e.m HI1.out
        unfold cmdV at C5
        obtain ⟨ck, hck⟩ : ∃ ck, x.e.ok = ck := ⟨_, rfl⟩
        have hck2 : codeOk x.e.k x.e.n x.e.t x.e.l x.e.b x.e.q x.e.s x.e.m = ck := hck
        rw [hck2] at C5
        have HCK := Lib.hid hck
        have hca : (a < 1 ∧ 1 ≤ x.e.tm) ∨ (1 ≤ a ∧ a ≤ x.e.tm) := by omega
        clear cm hck hck2
        rcases hca with ⟨ca, cx⟩ | ⟨ca, cx⟩
        all_goals
          cases ck
          · rw [show errCmd false = 40 from rfl] at C5
            have C5 := Lib.hid C5
            have HV : Hid (E = 130) := HE.out.symm.trans (rec_bad (fun ok => by
              have h1 := ok.log
              simp only [Hb.hrd] at h1
              rw [HLG.out, HLO.out] at h1
              simp only [logOk, Bool.and_eq_true] at h1
              rw [HCK.out] at h1
              exact absurd h1.1.2 (by decide)))
            go_wp2_with fail
            refine C5.out.mono ?_
            rintro e w6 ⟨rfl, hB6⟩
            have HB6 := Lib.hid (HBB.out.trans (hB6.mono (by omega)))
            clear hB6
            go_wp2
            go_ret
            exact ⟨by rw [HV.out]; rfl, HB6.out⟩
          · rw [show errCmd true = 0 from rfl] at C5
            have C5 := Lib.hid C5
            have HLO2 : Hid (logOk h.sh.t lg = logOk x.e.tm (lg.drop (k + 1))) := by
              show _ = _
              rw [HLO.out]
              simp only [logOk]
              rw [HCK.out, decide_eq_true HCM.out]
              rfl
            have HLT2 : Hid (lastTm h.sh.t lg = lastTm x.e.tm (lg.drop (k + 1))) := HLT.out
            go_wp2_with fail
            refine C5.out.mono ?_
            rintro e w6 ⟨rfl, hB6⟩
            have HB6 := Lib.hid (HBB.out.trans (hB6.mono (by omega)))
            have HBK6 := Lib.hid (HB1.out.below hB6 HB1.out.lt)
            have hx6 := (HX1.out.below hB6 hlt1).ec.c0
            clear hB6 x0 x1 x2 x3 x4 x5 x6 x7 x8 C5
            go_wp2
            go_roundw
            case rel => exact ⟨k + 1, x.e.tm, rfl, by go_num, by omega, HWX.out.tm, HB6.out, HBK6.out, HLO2.out, HLT2.out⟩
            case measure => simp [intOf]; omega
      · obtain rfl : k = xs.length := by omega
        have hdr : lg.drop xs.length = [] := by
          rw [← HLG.out]
          simp
        rw [hdr] at HLO HLT
        have z1 := hbk.hrd.z1
        have HLX : Hid (logOk h.sh.t lg = true ∧ lastTm h.sh.t lg = a) := ⟨HLO.out, HLT.out⟩
        clear hdr hbk hB
        by_cases c8 : h.tm < a
        · have d8 : decide (h.tm < a) = true := decide_eq_true c8
          have HV : Hid (E = 130) := HE.out.symm.trans (rec_bad (fun ok => by
            have h1 := ok.tm
            simp only [Hb.hrd] at h1
            rw [HLG.out, HLX.out.2] at h1
            omega))
          clear c8
          go_wp2
          go_ret
          exact ⟨by rw [HV.out]; rfl, HB.out⟩
        · have d8 : decide (h.tm < a) = false := decide_eq_false c8
          have HV : Hid (E = 0) := HE.out.symm.trans (rec_good ⟨HC1.out, HC2.out, HC3.out, by simp only [Hb.hrd, List.length_map]; rw [HLN.out]; exact HC4.out, HC5.out, HC6.out, HC7.out, by simp only [Hb.hrd]; rw [HLG.out]; exact HLX.out.1, by simp only [Hb.hrd]; rw [HLG.out, HLX.out.2]; omega⟩)
          clear c8
          go_wp2
          go_ret
          exact ⟨by rw [HV.out]; rfl, HB.out⟩
end Go.Proofs.Ytadkkhbbempaaaa
