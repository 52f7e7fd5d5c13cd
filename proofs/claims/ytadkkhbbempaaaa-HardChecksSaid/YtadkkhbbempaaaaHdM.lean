/- What may last, by the document: Last, Check. -/
import Derived.Test.YtadkkhbbempaaaaHdK
import Derived.Deep.DeepCutAuto
namespace Go.Proofs.Ytadkkhbbempaaaa
set_option maxRecDepth 100000
open Go.RowKit

set_option maxHeartbeats 2000000 in
theorem r13_Last_any (w : World) (h : Hb) (p : Sa) (PA : Option Addr) (PC : Nat) (xs : List Ec) (hi : 0 ≤ h.sh.i ∧ h.sh.i ≤ 4611686018427387904) (hn : xs.length * 88 ≤ 140737488355328) :
    Calls Try.prog 36 #[hrdV h p PA PC xs] w fun e w' => e = .returned (.int .u64 (h.sh.i + (xs.length : Int))) ∧ Below w.heap.size w w' := by
  obtain ⟨g, hg⟩ : ∃ g, w.heap.size = g := ⟨_, rfl⟩
  rw [hg]
  obtain ⟨w1, w2⟩ := wrap_sum h.sh.i xs.length hi hn
  have hB : Below g w (w.alloc (.cells (hrdC h p PA PC xs) 32)) := (Below.refl _ _).alloc (by omega) _
  have hb : Blk (w.alloc (.cells (hrdC h p PA PC xs) 32)) g 32 (hrdC h p PA PC xs) := hg ▸ Blk.new _ _ _
  have HB := Lib.hid hB
  clear hi hn hB
  unfold hrdV
  go_enter Try.func36, Try.ntmps36
  go_upto_region 1 with (fail)
  change Code.wp _ _ _ _ (w.alloc (.cells (hrdC h p PA PC xs) 32))
  generalize (w.alloc (.cells (hrdC h p PA PC xs) 32)) = W at hb HB ⊢
  try rw [hg]
  have z3 := hb.hrd.z3
  have z10 := hb.hrd.z10
  clear hb
  go_wp2
  go_ret
  exact ⟨rfl, HB.out⟩


/-- All but the log. -/
structure HrdHead (h : Hb) (n : Nat) : Prop where
  bt : h.bt ≤ 4611686018427387904
  sh : h.sh.Ok
  i : h.sh.i ≤ 4611686018427387904
  last : h.sh.i + (n : Int) ≤ 4611686018427387904
  v0 : 0 ≤ h.vt
  v7 : h.vt ≤ 7
  tv : h.tm = 0 → h.vt = 0
noncomputable instance (h : Hb) (n : Nat) : Decidable (HrdHead h n) := Classical.propDecidable _
theorem hrd_iff (h : Hb) (xs : List Ec) : (h.hrd xs).Ok ↔ HrdHead h xs.length ∧ logOk h.sh.t (xs.map (·.e)) = true ∧ lastTm h.sh.t (xs.map (·.e)) ≤ h.tm := by
  constructor
  · intro k
    exact ⟨⟨k.bt, k.sh, k.i, by have := k.last; simp only [Hb.hrd, List.length_map] at this; exact this, k.v0, k.v7, k.tv⟩, k.log, k.tm⟩
  · rintro ⟨k, l, m⟩
    exact ⟨k.bt, k.sh, k.i, by simp only [Hb.hrd, List.length_map]; exact k.last, k.v0, k.v7, k.tv, l, m⟩

set_option maxHeartbeats 8000000 in
theorem r13_Check_any (w : World) (h : Hb) (p : Sa) (PA : Option Addr) (PC : Nat) (xs : List Ec) (hin : InH w h p PA PC xs) (wf : (h.hrd xs).Wf) :
    Calls Try.prog 14 #[hrdV h p PA PC xs] w fun e w' => e = .returned (.int .i64 (errRec (decide (h.hrd xs).Ok))) ∧ Below w.heap.size w w' := by
  obtain ⟨g, hg⟩ : ∃ g, w.heap.size = g := ⟨_, rfl⟩
  rw [hg]
  obtain ⟨E, hE⟩ : ∃ E, errRec (decide (h.hrd xs).Ok) = E := ⟨_, rfl⟩
  have HE := Lib.hid hE
  rw [hE]
  have hB : Below g w (w.alloc (.cells (hrdC h p PA PC xs) 32)) := (Below.refl _ _).alloc (by omega) _
  have hb : Blk (w.alloc (.cells (hrdC h p PA PC xs) 32)) g 32 (hrdC h p PA PC xs) := hg ▸ Blk.new _ _ _
  have HIN := Lib.hid hin
  have CS := fun W (k : InSh W h.sh p) => r06_Check_any W h.sh.i h.sh.t p.A0 p.c0 h.sh.ns h.sh.lim h.sh.nxt p.A1 p.c1 h.sh.hs p.A2 p.c2 h.sh.ls k.n k.h k.l
  unfold shV at CS
  have hsml := hin.log.small
  have CL := fun (hi : h.sh.i ≤ 4611686018427387904) W => r13_Last_any W h p PA PC xs ⟨wf.sh.i.1, hi⟩ hsml
  unfold hrdV at CL
  have CL := Lib.hid CL
  have HWF := Lib.hid wf
  have htm0 : 0 ≤ h.tm := wf.tm.1
  obtain ⟨G, hG⟩ : ∃ G, decide (HrdHead h xs.length) = G := ⟨_, rfl⟩
  have HG := Lib.hid hG
  clear hE hin wf hG
  unfold hrdV
  go_enter Try.func14, Try.ntmps14
  go_upto_region 1 with (fail)
  change Code.wp _ _ _ _ (w.alloc (.cells (hrdC h p PA PC xs) 32))
  generalize (w.alloc (.cells (hrdC h p PA PC xs) 32)) = W at hb hB ⊢
  try rw [hg]
  have HB := Lib.hid hB
  have HBK := Lib.hid hb
  clear hB
  obtain ⟨z0, z1, z2, z3, z4, z5, z6, z7, z8, z9, z10⟩ := hb.hrd
  go_cut [1, 3] (fun x y wx => x = .pointer (some ⟨g, 0, none⟩) ∧ y = .bool G ∧ Below g w wx ∧ Blk wx g 32 (hrdC h p PA PC xs))
  case first =>
    by_cases c1 : h.bt ≤ 4611686018427387904
    rotate_left
    · have d1 : decide (h.bt ≤ 4611686018427387904) = false := decide_eq_false c1
      have HV : Hid (G = false) := HG.out.symm.trans (decide_eq_false (fun ok => c1 ok.bt))
      clear c1 hb
      go_wp2
      go_meet
      case rel => exact ⟨rfl, by rw [HV.out], HB.out, HBK.out⟩
    have d1 : decide (h.bt ≤ 4611686018427387904) = true := decide_eq_true c1
    have C1 := CS W (HIN.out.sh.keep (hg ▸ HB.out))
    have hbl := hb.lt
    by_cases c2 : h.sh.Ok
    rotate_left
    · rw [shot_bad c2] at C1
      have C1 := Lib.hid C1
      have HV : Hid (G = false) := HG.out.symm.trans (decide_eq_false (fun ok => c2 ok.sh))
      clear c2 c1 CS hb
      go_wp2_with fail
      refine C1.out.mono ?_
      rintro e w1 ⟨rfl, hB1⟩
      have HB1 := Lib.hid (HB.out.trans (hB1.mono (Nat.le_of_lt hbl)))
      have HBK1 := Lib.hid (HBK.out.below hB1 hbl)
      clear hB1 z0 z1 z2 z3 z4 z5 z6 z7 z8 z9 z10
      go_wp2
      go_meet
      case rel => exact ⟨rfl, by rw [HV.out], HB1.out, HBK1.out⟩
    have hc2 : errShot (decide (ShotOk h.sh.i h.sh.t h.sh.ns h.sh.lim h.sh.nxt h.sh.hs h.sh.ls)) = 0 := by
      rw [decide_eq_true (show ShotOk h.sh.i h.sh.t h.sh.ns h.sh.lim h.sh.nxt h.sh.hs h.sh.ls from c2)]
      rfl
    rw [hc2] at C1
    have C1 := Lib.hid C1
    have HC1 := Lib.hid c1
    have HC2 := Lib.hid c2
    clear hc2 c1 c2 CS
    go_wp2_with fail
    refine C1.out.mono ?_
    rintro e w1 ⟨rfl, hB1⟩
    have HB1 := Lib.hid (HB.out.trans (hB1.mono (Nat.le_of_lt hbl)))
    have hb1 := hb.below hB1 hbl
    have HBK1 := Lib.hid hb1
    clear hB1 z0 z1 z2 z3 z4 z5 z6 z7 z8 z9 z10 hb hbl C1 HB HBK d1
    obtain ⟨z0, z1, z2, z3, z4, z5, z6, z7, z8, z9, z10⟩ := hb1.hrd
    by_cases c3 : h.sh.i ≤ 4611686018427387904
    rotate_left
    · have d1 : decide (h.sh.i ≤ 4611686018427387904) = false := decide_eq_false c3
      have HV : Hid (G = false) := HG.out.symm.trans (decide_eq_false (fun ok => c3 ok.i))
      clear c3 hb1
      go_wp2
      go_meet
      case rel => exact ⟨rfl, by rw [HV.out], HB1.out, HBK1.out⟩
    have d1 : decide (h.sh.i ≤ 4611686018427387904) = true := decide_eq_true c3
    have C2 := Lib.hid (CL.out c3 w1)
    have HC3 := Lib.hid c3
    have hbl := hb1.lt
    obtain ⟨LN, hLN⟩ : ∃ LN, h.sh.i + (xs.length : Int) = LN := ⟨_, rfl⟩
    rw [hLN] at C2
    have HLN := Lib.hid hLN
    clear c3 hLN CL
    go_wp2_with fail
    refine C2.out.mono ?_
    rintro e w2 ⟨rfl, hB2⟩
    have HB2 := Lib.hid (HB1.out.trans (hB2.mono (Nat.le_of_lt hbl)))
    have hb2 := hb1.below hB2 hbl
    have HBK2 := Lib.hid hb2
    clear hB2 z0 z1 z2 z3 z4 z5 z6 z7 z8 z9 z10 hb1 hbl C2 HB1 HBK1 d1
    obtain ⟨z0, z1, z2, z3, z4, z5, z6, z7, z8, z9, z10⟩ := hb2.hrd
    clear hb2
    by_cases c4 : LN ≤ 4611686018427387904
    rotate_left
    · have d1 : decide (LN ≤ 4611686018427387904) = false := decide_eq_false c4
      have HV : Hid (G = false) := HG.out.symm.trans (decide_eq_false (fun ok => c4 (by rw [← HLN.out]; exact ok.last)))
      clear c4
      go_wp2
      go_meet
      case rel => exact ⟨rfl, by rw [HV.out], HB2.out, HBK2.out⟩
    have d1 : decide (LN ≤ 4611686018427387904) = true := decide_eq_true c4
    have HC4 := Lib.hid c4
    clear c4
    by_cases c5 : h.vt ≥ 0
    rotate_left
    · have d2 : decide (h.vt ≥ 0) = false := decide_eq_false c5
      have HV : Hid (G = false) := HG.out.symm.trans (decide_eq_false (fun ok => c5 ok.v0))
      clear c5
      go_wp2
      go_meet
      case rel => exact ⟨rfl, by rw [HV.out], HB2.out, HBK2.out⟩
    have d2 : decide (h.vt ≥ 0) = true := decide_eq_true c5
    by_cases c6 : h.vt ≤ 7
    rotate_left
    · have d3 : decide (h.vt ≤ 7) = false := decide_eq_false c6
      have HV : Hid (G = false) := HG.out.symm.trans (decide_eq_false (fun ok => c6 ok.v7))
      clear c6
      go_wp2
      go_meet
      case rel => exact ⟨rfl, by rw [HV.out], HB2.out, HBK2.out⟩
    have d3 : decide (h.vt ≤ 7) = true := decide_eq_true c6
    have HC5 := Lib.hid c5
    have HC6 := Lib.hid c6
    by_cases c7 : h.tm > 0
    · have d4 : decide (h.tm > 0) = true := decide_eq_true c7
      have HV : Hid (G = true) := HG.out.symm.trans (decide_eq_true ⟨HC1.out, HC2.out, HC3.out, by rw [HLN.out]; exact HC4.out, HC5.out, HC6.out, fun q => by omega⟩)
      clear c5 c6 c7
      go_wp2
      go_meet
      case rel => exact ⟨rfl, by rw [HV.out], HB2.out, HBK2.out⟩
    · have d4 : decide (h.tm > 0) = false := decide_eq_false c7
      by_cases c8 : h.vt = 0
      · have d5 : (h.vt == 0) = true := by simp [c8]
        have HV : Hid (G = true) := HG.out.symm.trans (decide_eq_true ⟨HC1.out, HC2.out, HC3.out, by rw [HLN.out]; exact HC4.out, HC5.out, HC6.out, fun _ => c8⟩)
        clear c5 c6 c7 c8
        go_wp2
        go_meet
        case rel => exact ⟨rfl, by rw [HV.out], HB2.out, HBK2.out⟩
      · have d5 : (h.vt == 0) = false := beq_eq_false_iff_ne.2 c8
        have HV : Hid (G = false) := HG.out.symm.trans (decide_eq_false (fun ok => c8 (ok.tv (by omega))))
        clear c5 c6 c7 c8
        go_wp2
        go_meet
        case rel => exact ⟨rfl, by rw [HV.out], HB2.out, HBK2.out⟩
  case rest =>
  clear z0 z1 z2 z3 z4 z5 z6 z7 z8 z9 z10 hb
  obtain ⟨rfl, rfl, hB2, hb2⟩ := hcut
  have HB2 := Lib.hid hB2
  have HBK2 := Lib.hid hb2
  clear HB HBK CS CL
  obtain ⟨z0, z1, z2, z3, z4, z5, z6, z7, z8, z9, z10⟩ := hb2.hrd
  obtain ⟨lg, hlg⟩ : ∃ lg, xs.map (·.e) = lg := ⟨_, rfl⟩
  have HLG := Lib.hid hlg
  have HOK : Hid ((h.hrd xs).Ok ↔ (G = true ∧ logOk h.sh.t lg = true) ∧ lastTm h.sh.t lg ≤ h.tm) := by
    show _ ↔ _
    rw [hrd_iff, hlg, ← HG.out, decide_eq_true_iff, and_assoc]
  have hn : xs.length * 88 ≤ 140737488355328 := hsml
  clear hb2 hB2 hlg hsml
  go_wp2_with fail
  go_loopw [3, 4, 6, 53] (fun gv tv _ iv wr => ∃ (k : Nat) (a : Int) (gd : Bool), gv = .bool gd ∧ tv = .int .u64 a ∧ iv = .int .i64 (k : Int) ∧ k ≤ xs.length ∧ (0 ≤ a ∧ a < 18446744073709551616) ∧ Below g w wr ∧ Blk wr g 32 (hrdC h p PA PC xs) ∧ ((G = true ∧ logOk h.sh.t lg = true) ↔ (gd = true ∧ logOk a (lg.drop k) = true)) ∧ lastTm h.sh.t lg = lastTm a (lg.drop k)) (fun _ _ _ iv _ => xs.length - (intOf iv).toNat)
  case atStart => exact ⟨0, h.sh.t, G, rfl, rfl, rfl, by omega, HWF.out.sh.t, HB2.out, HBK2.out, by rw [List.drop_zero], by rw [List.drop_zero]⟩
  case round =>
    clear HB2 HBK2 z0 z1 z2 z3 z4 z5 z6 z7 z8 z9 z10
    obtain ⟨k, a, gd, rfl, rfl, rfl, hk, ha, hB, hbk, hlo, hlt⟩ := hrel
    have HB := Lib.hid hB
    have HBK := Lib.hid hbk
    have HLO := Lib.hid hlo
    have HLT := Lib.hid hlt
    clear hlo hlt
    by_cases hkl : k < xs.length
    · obtain ⟨b, off, rfl, hbb, hat⟩ := (HIN.out.log.keep (hg ▸ hB)).rows.ec (by omega)
      have hmem := List.getElem_mem hkl
      have hdr : lg.drop k = xs[k].e :: lg.drop (k + 1) := by
        rw [← HLG.out, List.drop_eq_getElem_cons (by simpa using hkl)]
        simp
      have hatk := hat k hkl
      have hinx := (HIN.out.log.keep (hg ▸ hB)).inn _ hmem
      have hwx := HWF.out.log _ (List.mem_map_of_mem hmem)
      obtain ⟨x, hx⟩ : ∃ x, xs[k] = x := ⟨_, rfl⟩
      rw [hx] at hatk hinx hdr hwx
      obtain ⟨x0, x1, x2, x3, x4, x5, x6, x7, x8⟩ := hatk
      rw [hdr] at HLO HLT
      have HINX := Lib.hid hinx
      clear hat hx hmem hdr hinx hB
      have HWX := Lib.hid hwx
      obtain ⟨gx, hgx⟩ : ∃ gx, wr.heap.size = gx := ⟨_, rfl⟩
      have hgl : g < gx := hgx ▸ hbk.lt
      have hx1 : Blk (wr.alloc (.cells (ecA x) 46)) gx 46 (ecA x) := hgx ▸ Blk.new _ _ _
      have hb1 := hbk.alloc (.cells (ecA x) 46)
      have hB1 := HB.out.alloc (by omega) (.cells (ecA x) 46)
      have hI1 := HINX.out.keep ((Below.refl wr.heap.size wr).alloc (Nat.le_refl _) (.cells (ecA x) 46))
      clear hwx hbk
      go_upto_region 6 with (fail)
      change Code.wp _ _ _ _ (wr.alloc (.cells (ecA x) 46))
      generalize (wr.alloc (.cells (ecA x) 46)) = W5 at hx1 hb1 hB1 hI1 ⊢
      try rw [hgx]
      clear hgx x0 x1 x2 x3 x4 x5 x6 x7 x8
      have HX1 := Lib.hid hx1
      have HB1 := Lib.hid hb1
      have HBB := Lib.hid hB1
      have HI1 := Lib.hid hI1
      obtain ⟨x0, x1, x2, x3, x4, x5, x6, x7, x8⟩ := hx1.ec
      clear hx1 hb1 hB1 hI1
      have hlt1 : gx < W5.heap.size := HX1.out.lt
      have HLT2 : Hid (lastTm h.sh.t lg = lastTm x.e.tm (lg.drop (k + 1))) := HLT.out
      cases gd
      · have HLO2 : Hid ((G = true ∧ logOk h.sh.t lg = true) ↔ (false = true ∧ logOk x.e.tm (lg.drop (k + 1)) = true)) := by
          show _ ↔ _
          rw [HLO.out]
          simp
        go_wp2
        go_roundw
        case rel => exact ⟨k + 1, x.e.tm, false, rfl, rfl, by go_num, by omega, HWX.out.tm, HBB.out, HB1.out, HLO2.out, HLT2.out⟩
        case measure => simp [intOf]; omega
      by_cases cm : a ≤ x.e.tm ∧ 1 ≤ x.e.tm
      rotate_left
      · have HLO2 : Hid ((G = true ∧ logOk h.sh.t lg = true) ↔ (false = true ∧ logOk x.e.tm (lg.drop (k + 1)) = true)) := by
          show _ ↔ _
          rw [HLO.out]
          simp only [logOk, decide_eq_false cm]
          simp
        by_cases ca : x.e.tm ≥ 1
        · have d1 : decide (x.e.tm ≥ 1) = true := decide_eq_true ca
          have d2 : decide (x.e.tm ≥ a) = false := decide_eq_false (by omega)
          clear cm ca ha
          go_wp2
          go_roundw
          case rel => exact ⟨k + 1, x.e.tm, false, rfl, rfl, by go_num, by omega, HWX.out.tm, HBB.out, HB1.out, HLO2.out, HLT2.out⟩
          case measure => simp [intOf]; omega
        · have d1 : decide (x.e.tm ≥ 1) = false := decide_eq_false ca
          clear cm ca ha
          go_wp2
          go_roundw
          case rel => exact ⟨k + 1, x.e.tm, false, rfl, rfl, by go_num, by omega, HWX.out.tm, HBB.out, HB1.out, HLO2.out, HLT2.out⟩
          case measure => simp [intOf]; omega
      have HCM := Lib.hid cm
      have d1 : decide (x.e.tm ≥ 1) = true := decide_eq_true cm.2
      have d2 : decide (x.e.tm ≥ a) = true := decide_eq_true cm.1
      have C5 := ref_Check_any W5 x.e.k x.e.n x.e.t x.A x.c x.e.l x.e.b x.e.q x.e.s x.e.m HI1.out HWX.out.n HWX.out.t
      rw [← codeOk_eq _ _ _ _ _ _ _ _ HWX.out.b HWX.out.q HWX.out.s HWX.out.m] at C5
      unfold cmdV at C5
      obtain ⟨ck, hck⟩ : ∃ ck, x.e.ok = ck := ⟨_, rfl⟩
      have hck2 : codeOk x.e.k x.e.n x.e.t x.e.l x.e.b x.e.q x.e.s x.e.m = ck := hck
      rw [hck2] at C5
      have HCK := Lib.hid hck
      have HLO2 : Hid ((G = true ∧ logOk h.sh.t lg = true) ↔ (ck = true ∧ logOk x.e.tm (lg.drop (k + 1)) = true)) := by
        show _ ↔ _
        rw [HLO.out]
        simp only [logOk, decide_eq_true HCM.out, HCK.out]
        simp
      clear cm hck hck2 ha
      cases ck
      · rw [show errCmd false = 40 from rfl] at C5
        have C5 := Lib.hid C5
        go_wp2_with fail
        refine C5.out.mono ?_
        rintro e w6 ⟨rfl, hB6⟩
        have HB6 := Lib.hid (HBB.out.trans (hB6.mono (by omega)))
        have HBK6 := Lib.hid (HB1.out.below hB6 HB1.out.lt)
        have hx6 := (HX1.out.below hB6 hlt1).ec.c0
        clear hB6 x0 x1 x2 x3 x4 x5 x6 x7 x8 C5
        go_wp2
        go_roundw
        case rel => exact ⟨k + 1, x.e.tm, false, rfl, rfl, by go_num, by omega, HWX.out.tm, HB6.out, HBK6.out, HLO2.out, HLT2.out⟩
        case measure => simp [intOf]; omega
      · rw [show errCmd true = 0 from rfl] at C5
        have C5 := Lib.hid C5
        go_wp2_with fail
        refine C5.out.mono ?_
        rintro e w6 ⟨rfl, hB6⟩
        have HB6 := Lib.hid (HBB.out.trans (hB6.mono (by omega)))
        have HBK6 := Lib.hid (HB1.out.below hB6 HB1.out.lt)
        have hx6 := (HX1.out.below hB6 hlt1).ec.c0
        clear hB6 x0 x1 x2 x3 x4 x5 x6 x7 x8 C5
        go_wp2
        go_roundw
        case rel => exact ⟨k + 1, x.e.tm, true, rfl, rfl, by go_num, by omega, HWX.out.tm, HB6.out, HBK6.out, by simpa using HLO2.out, HLT2.out⟩
        case measure => simp [intOf]; omega
    · obtain rfl : k = xs.length := by omega
      have hdr : lg.drop xs.length = [] := by
        rw [← HLG.out]
        simp
      rw [hdr] at HLO HLT
      have z1 := hbk.hrd.z1
      have HLX : Hid ((h.hrd xs).Ok ↔ gd = true ∧ a ≤ h.tm) := by
        show _ ↔ _
        rw [HOK.out, HLO.out, HLT.out]
        simp [logOk, lastTm]
      clear hdr hbk hB ha
      cases gd
      · have HV : Hid (E = 130) := HE.out.symm.trans (rec_bad (fun ok => absurd (HLX.out.1 ok).1 (by decide)))
        go_wp2
        go_ret
        exact ⟨by rw [HV.out]; rfl, HB.out⟩
      by_cases c8 : h.tm < a
      · have d8 : decide (h.tm < a) = true := decide_eq_true c8
        have HV : Hid (E = 130) := HE.out.symm.trans (rec_bad (fun ok => by have := (HLX.out.1 ok).2; omega))
        clear c8
        go_wp2
        go_ret
        exact ⟨by rw [HV.out]; rfl, HB.out⟩
      · have d8 : decide (h.tm < a) = false := decide_eq_false c8
        have HV : Hid (E = 0) := HE.out.symm.trans (rec_good (HLX.out.2 ⟨rfl, by omega⟩))
        clear c8
        go_wp2
        go_ret
        exact ⟨by rw [HV.out]; rfl, HB.out⟩
end Go.Proofs.Ytadkkhbbempaaaa
