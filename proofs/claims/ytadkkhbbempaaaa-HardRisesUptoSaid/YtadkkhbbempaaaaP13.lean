/- Texts drawn together (14 of them): words, plain laws and walks that the row leans on. -/
import Derived.Test.YtadkkhbbempaaaaP3
import Derived.Deep.DeepCutAuto
import Derived.Test.YtadkkhbbempaaaaP4
import Derived.Deep.RegionLaw
import Derived.Test.YtadkkhbbempaaaaP7
import Derived.Deep.WholeRow
import Derived.Lib.SliceRun
import Derived.Laws.OwnMore
import Derived.IntWalk
import Derived.Test.YtadkkhbbempaaaaP5
import Derived.Deep.RegionHeld3
import Derived.Test.YtadkkhbbempaaaaRows
import Derived.Test.YtadkkhbbempaaaaP1
/- What may last, by the document: Last, Check. -/
namespace Go.Proofs.Ytadkkhbbempaaaa
set_option maxRecDepth 100000
open Go.RowKit

set_option maxHeartbeats 2000000 in
theorem r13_Last_any (w : World) (h : Hb) (p : Sa) (PA : Option Addr) (PC : Nat) (xs : List Ec) (hi : 0 ≤ h.sh.i ∧ h.sh.i ≤ 4611686018427387904) (hn : xs.length * 88 ≤ 140737488355328) :
    Calls Try.prog 36 #[hrdV h p PA PC xs] w fun e w' => e = .returned (.int .u64 (h.sh.i + (xs.length : Int))) ∧ Below w.heap.size w w' := by
  obtain ⟨g, hg⟩ : ∃ g, w.heap.size = g := ⟨_, rfl⟩
  rw [hg]
  obtain ⟨w1, w2⟩ := wrap_sum h.sh.i xs.length hi hn
  have hB : Below g w (w.alloc (.cells (hrdC h p PA PC xs) 32)) := (Below.refl _ _).alloc (by omega) _
  have hb : Blk (w.alloc (.cells (hrdC h p PA PC xs) 32)) g 32 (hrdC h p PA PC xs) := hg ▸ Blk.new _ _ _
  have HB := Lib.hid hB
  clear hi hn hB
  unfold hrdV
  go_enter Try.func36, Try.ntmps36
  go_upto_region 1 with (fail)
  change Code.wp _ _ _ _ (w.alloc (.cells (hrdC h p PA PC xs) 32))
  generalize (w.alloc (.cells (hrdC h p PA PC xs) 32)) = W at hb HB ⊢
  try rw [hg]
  have z3 := hb.hrd.z3
  have z10 := hb.hrd.z10
  clear hb
  go_wp2
  go_ret
  exact ⟨rfl, HB.out⟩


/-- All but the log. -/
structure HrdHead (h : Hb) (n : Nat) : Prop where
  bt : h.bt ≤ 4611686018427387904
  sh : h.sh.Ok
  i : h.sh.i ≤ 4611686018427387904
  last : h.sh.i + (n : Int) ≤ 4611686018427387904
  v0 : 0 ≤ h.vt
  v7 : h.vt ≤ 7
  tv : h.tm = 0 → h.vt = 0
noncomputable instance (h : Hb) (n : Nat) : Decidable (HrdHead h n) := Classical.propDecidable _
theorem hrd_iff (h : Hb) (xs : List Ec) : (h.hrd xs).Ok ↔ HrdHead h xs.length ∧ logOk h.sh.t (xs.map (·.e)) = true ∧ lastTm h.sh.t (xs.map (·.e)) ≤ h.tm := by
  constructor
  · intro k
    exact ⟨⟨k.bt, k.sh, k.i, by have := k.last; simp only [Hb.hrd, List.length_map] at this; exact this, k.v0, k.v7, k.tv⟩, k.log, k.tm⟩
  · rintro ⟨k, l, m⟩
    exact ⟨k.bt, k.sh, k.i, by simp only [Hb.hrd, List.length_map]; exact k.last, k.v0, k.v7, k.tv, l, m⟩

set_option maxHeartbeats 8000000 in
theorem r13_Check_any (w : World) (h : Hb) (p : Sa) (PA : Option Addr) (PC : Nat) (xs : List Ec) (hin : InH w h p PA PC xs) (wf : (h.hrd xs).Wf) :
    Calls Try.prog 14 #[hrdV h p PA PC xs] w fun e w' => e = .returned (.int .i64 (errRec (decide (h.hrd xs).Ok))) ∧ Below w.heap.size w w' := by
  obtain ⟨g, hg⟩ : ∃ g, w.heap.size = g := ⟨_, rfl⟩
  rw [hg]
  obtain ⟨E, hE⟩ : ∃ E, errRec (decide (h.hrd xs).Ok) = E := ⟨_, rfl⟩
  have HE := Lib.hid hE
  rw [hE]
  have hB : Below g w (w.alloc (.cells (hrdC h p PA PC xs) 32)) := (Below.refl _ _).alloc (by omega) _
  have hb : Blk (w.alloc (.cells (hrdC h p PA PC xs) 32)) g 32 (hrdC h p PA PC xs) := hg ▸ Blk.new _ _ _
  have HIN := Lib.hid hin
  have CS := fun W (k : InSh W h.sh p) => r06_Check_any W h.sh.i h.sh.t p.A0 p.c0 h.sh.ns h.sh.lim h.sh.nxt p.A1 p.c1 h.sh.hs p.A2 p.c2 h.sh.ls k.n k.h k.l
  unfold shV at CS
  have hsml := hin.log.small
  have CL := fun (hi : h.sh.i ≤ 4611686018427387904) W => r13_Last_any W h p PA PC xs ⟨wf.sh.i.1, hi⟩ hsml
  unfold hrdV at CL
  have CL := Lib.hid CL
  have HWF := Lib.hid wf
  have htm0 : 0 ≤ h.tm := wf.tm.1
  obtain ⟨G, hG⟩ : ∃ G, decide (HrdHead h xs.length) = G := ⟨_, rfl⟩
  have HG := Lib.hid hG
  clear hE hin wf hG
  unfold hrdV
  go_enter Try.func14, Try.ntmps14
  go_upto_region 1 with (fail)
  change Code.wp _ _ _ _ (w.alloc (.cells (hrdC h p PA PC xs) 32))
  generalize (w.alloc (.cells (hrdC h p PA PC xs) 32)) = W at hb hB ⊢
  try rw [hg]
  have HB := Lib.hid hB
  have HBK := Lib.hid hb
  clear hB
  obtain ⟨z0, z1, z2, z3, z4, z5, z6, z7, z8, z9, z10⟩ := hb.hrd
  go_cut [1, 3] (fun x y wx => x = .pointer (some ⟨g, 0, none⟩) ∧ y = .bool G ∧ Below g w wx ∧ Blk wx g 32 (hrdC h p PA PC xs))
  case first =>
    by_cases c1 : h.bt ≤ 4611686018427387904
    rotate_left
    · have d1 : decide (h.bt ≤ 4611686018427387904) = false := decide_eq_false c1
      have HV : Hid (G = false) := HG.out.symm.trans (decide_eq_false (fun ok => c1 ok.bt))
      clear c1 hb
      go_wp2
      go_meet
      case rel => exact ⟨rfl, by rw [HV.out], HB.out, HBK.out⟩
    have d1 : decide (h.bt ≤ 4611686018427387904) = true := decide_eq_true c1
    have C1 := CS W (HIN.out.sh.keep (hg ▸ HB.out))
    have hbl := hb.lt
    by_cases c2 : h.sh.Ok
    rotate_left
    · rw [shot_bad c2] at C1
      have C1 := Lib.hid C1
      have HV : Hid (G = false) := HG.out.symm.trans (decide_eq_false (fun ok => c2 ok.sh))
      clear c2 c1 CS hb
      go_wp2_with fail
      refine C1.out.mono ?_
      rintro e w1 ⟨rfl, hB1⟩
      have HB1 := Lib.hid (HB.out.trans (hB1.mono (Nat.le_of_lt hbl)))
      have HBK1 := Lib.hid (HBK.out.below hB1 hbl)
      clear hB1 z0 z1 z2 z3 z4 z5 z6 z7 z8 z9 z10
      go_wp2
      go_meet
      case rel => exact ⟨rfl, by rw [HV.out], HB1.out, HBK1.out⟩
    have hc2 : errShot (decide (ShotOk h.sh.i h.sh.t h.sh.ns h.sh.lim h.sh.nxt h.sh.hs h.sh.ls)) = 0 := by
      rw [decide_eq_true (show ShotOk h.sh.i h.sh.t h.sh.ns h.sh.lim h.sh.nxt h.sh.hs h.sh.ls from c2)]
      rfl
    rw [hc2] at C1
    have C1 := Lib.hid C1
    have HC1 := Lib.hid c1
    have HC2 := Lib.hid c2
    clear hc2 c1 c2 CS
    go_wp2_with fail
    refine C1.out.mono ?_
    rintro e w1 ⟨rfl, hB1⟩
    have HB1 := Lib.hid (HB.out.trans (hB1.mono (Nat.le_of_lt hbl)))
    have hb1 := hb.below hB1 hbl
    have HBK1 := Lib.hid hb1
    clear hB1 z0 z1 z2 z3 z4 z5 z6 z7 z8 z9 z10 hb hbl C1 HB HBK d1
    obtain ⟨z0, z1, z2, z3, z4, z5, z6, z7, z8, z9, z10⟩ := hb1.hrd
    by_cases c3 : h.sh.i ≤ 4611686018427387904
    rotate_left
    · have d1 : decide (h.sh.i ≤ 4611686018427387904) = false := decide_eq_false c3
      have HV : Hid (G = false) := HG.out.symm.trans (decide_eq_false (fun ok => c3 ok.i))
      clear c3 hb1
      go_wp2
      go_meet
      case rel => exact ⟨rfl, by rw [HV.out], HB1.out, HBK1.out⟩
    have d1 : decide (h.sh.i ≤ 4611686018427387904) = true := decide_eq_true c3
    have C2 := Lib.hid (CL.out c3 w1)
    have HC3 := Lib.hid c3
    have hbl := hb1.lt
    obtain ⟨LN, hLN⟩ : ∃ LN, h.sh.i + (xs.length : Int) = LN := ⟨_, rfl⟩
    rw [hLN] at C2
    have HLN := Lib.hid hLN
    clear c3 hLN CL
    go_wp2_with fail
    refine C2.out.mono ?_
    rintro e w2 ⟨rfl, hB2⟩
    have HB2 := Lib.hid (HB1.out.trans (hB2.mono (Nat.le_of_lt hbl)))
    have hb2 := hb1.below hB2 hbl
    have HBK2 := Lib.hid hb2
    clear hB2 z0 z1 z2 z3 z4 z5 z6 z7 z8 z9 z10 hb1 hbl C2 HB1 HBK1 d1
    obtain ⟨z0, z1, z2, z3, z4, z5, z6, z7, z8, z9, z10⟩ := hb2.hrd
    clear hb2
    by_cases c4 : LN ≤ 4611686018427387904
    rotate_left
    · have d1 : decide (LN ≤ 4611686018427387904) = false := decide_eq_false c4
      have HV : Hid (G = false) := HG.out.symm.trans (decide_eq_false (fun ok => c4 (by rw [← HLN.out]; exact ok.last)))
      clear c4
      go_wp2
      go_meet
      case rel => exact ⟨rfl, by rw [HV.out], HB2.out, HBK2.out⟩
    have d1 : decide (LN ≤ 4611686018427387904) = true := decide_eq_true c4
    have HC4 := Lib.hid c4
    clear c4
    by_cases c5 : h.vt ≥ 0
    rotate_left
    · have d2 : decide (h.vt ≥ 0) = false := decide_eq_false c5
      have HV : Hid (G = false) := HG.out.symm.trans (decide_eq_false (fun ok => c5 ok.v0))
      clear c5
      go_wp2
      go_meet
      case rel => exact ⟨rfl, by rw [HV.out], HB2.out, HBK2.out⟩
    have d2 : decide (h.vt ≥ 0) = true := decide_eq_true c5
    by_cases c6 : h.vt ≤ 7
    rotate_left
    · have d3 : decide (h.vt ≤ 7) = false := decide_eq_false c6
      have HV : Hid (G = false) := HG.out.symm.trans (decide_eq_false (fun ok => c6 ok.v7))
      clear c6
      go_wp2
      go_meet
      case rel => exact ⟨rfl, by rw [HV.out], HB2.out, HBK2.out⟩
    have d3 : decide (h.vt ≤ 7) = true := decide_eq_true c6
    have HC5 := Lib.hid c5
    have HC6 := Lib.hid c6
    by_cases c7 : h.tm > 0
    · have d4 : decide (h.tm > 0) = true := decide_eq_true c7
      have HV : Hid (G = true) := HG.out.symm.trans (decide_eq_true ⟨HC1.out, HC2.out, HC3.out, by rw [HLN.out]; exact HC4.out, HC5.out, HC6.out, fun q => by omega⟩)
      clear c5 c6 c7
      go_wp2
      go_meet
      case rel => exact ⟨rfl, by rw [HV.out], HB2.out, HBK2.out⟩
    · have d4 : decide (h.tm > 0) = false := decide_eq_false c7
      by_cases c8 : h.vt = 0
      · have d5 : (h.vt == 0) = true := by simp [c8]
        have HV : Hid (G = true) := HG.out.symm.trans (decide_eq_true ⟨HC1.out, HC2.out, HC3.out, by rw [HLN.out]; exact HC4.out, HC5.out, HC6.out, fun _ => c8⟩)
        clear c5 c6 c7 c8
        go_wp2
        go_meet
        case rel => exact ⟨rfl, by rw [HV.out], HB2.out, HBK2.out⟩
      · have d5 : (h.vt == 0) = false := beq_eq_false_iff_ne.2 c8
        have HV : Hid (G = false) := HG.out.symm.trans (decide_eq_false (fun ok => c8 (ok.tv (by omega))))
        clear c5 c6 c7 c8
        go_wp2
        go_meet
        case rel => exact ⟨rfl, by rw [HV.out], HB2.out, HBK2.out⟩
  case rest =>
  clear z0 z1 z2 z3 z4 z5 z6 z7 z8 z9 z10 hb
  obtain ⟨rfl, rfl, hB2, hb2⟩ := hcut
  have HB2 := Lib.hid hB2
  have HBK2 := Lib.hid hb2
  clear HB HBK CS CL
  obtain ⟨z0, z1, z2, z3, z4, z5, z6, z7, z8, z9, z10⟩ := hb2.hrd
  obtain ⟨lg, hlg⟩ : ∃ lg, xs.map (·.e) = lg := ⟨_, rfl⟩
  have HLG := Lib.hid hlg
  have HOK : Hid ((h.hrd xs).Ok ↔ (G = true ∧ logOk h.sh.t lg = true) ∧ lastTm h.sh.t lg ≤ h.tm) := by
    show _ ↔ _
    rw [hrd_iff, hlg, ← HG.out, decide_eq_true_iff, and_assoc]
  have hn : xs.length * 88 ≤ 140737488355328 := hsml
  clear hb2 hB2 hlg hsml
  go_wp2_with fail
  go_loopw [3, 4, 6, 53] (fun gv tv _ iv wr => ∃ (k : Nat) (a : Int) (gd : Bool), gv = .bool gd ∧ tv = .int .u64 a ∧ iv = .int .i64 (k : Int) ∧ k ≤ xs.length ∧ (0 ≤ a ∧ a < 18446744073709551616) ∧ Below g w wr ∧ Blk wr g 32 (hrdC h p PA PC xs) ∧ ((G = true ∧ logOk h.sh.t lg = true) ↔ (gd = true ∧ logOk a (lg.drop k) = true)) ∧ lastTm h.sh.t lg = lastTm a (lg.drop k)) (fun _ _ _ iv _ => xs.length - (intOf iv).toNat)
  case atStart => exact ⟨0, h.sh.t, G, rfl, rfl, rfl, by omega, HWF.out.sh.t, HB2.out, HBK2.out, by rw [List.drop_zero], by rw [List.drop_zero]⟩
  case round =>
    clear HB2 HBK2 z0 z1 z2 z3 z4 z5 z6 z7 z8 z9 z10
    obtain ⟨k, a, gd, rfl, rfl, rfl, hk, ha, hB, hbk, hlo, hlt⟩ := hrel
    have HB := Lib.hid hB
    have HBK := Lib.hid hbk
    have HLO := Lib.hid hlo
    have HLT := Lib.hid hlt
    clear hlo hlt
    by_cases hkl : k < xs.length
    · obtain ⟨b, off, rfl, hbb, hat⟩ := (HIN.out.log.keep (hg ▸ hB)).rows.ec (by omega)
      have hmem := List.getElem_mem hkl
      have hdr : lg.drop k = xs[k].e :: lg.drop (k + 1) := by
        rw [← HLG.out, List.drop_eq_getElem_cons (by simpa using hkl)]
        simp
      have hatk := hat k hkl
      have hinx := (HIN.out.log.keep (hg ▸ hB)).inn _ hmem
      have hwx := HWF.out.log _ (List.mem_map_of_mem hmem)
      obtain ⟨x, hx⟩ : ∃ x, xs[k] = x := ⟨_, rfl⟩
      rw [hx] at hatk hinx hdr hwx
      obtain ⟨x0, x1, x2, x3, x4, x5, x6, x7, x8⟩ := hatk
      rw [hdr] at HLO HLT
      have HINX := Lib.hid hinx
      clear hat hx hmem hdr hinx hB
      have HWX := Lib.hid hwx
      obtain ⟨gx, hgx⟩ : ∃ gx, wr.heap.size = gx := ⟨_, rfl⟩
      have hgl : g < gx := hgx ▸ hbk.lt
      have hx1 : Blk (wr.alloc (.cells (ecA x) 46)) gx 46 (ecA x) := hgx ▸ Blk.new _ _ _
      have hb1 := hbk.alloc (.cells (ecA x) 46)
      have hB1 := HB.out.alloc (by omega) (.cells (ecA x) 46)
      have hI1 := HINX.out.keep ((Below.refl wr.heap.size wr).alloc (Nat.le_refl _) (.cells (ecA x) 46))
      clear hwx hbk
      go_upto_region 6 with (fail)
      change Code.wp _ _ _ _ (wr.alloc (.cells (ecA x) 46))
      generalize (wr.alloc (.cells (ecA x) 46)) = W5 at hx1 hb1 hB1 hI1 ⊢
      try rw [hgx]
      clear hgx x0 x1 x2 x3 x4 x5 x6 x7 x8
      have HX1 := Lib.hid hx1
      have HB1 := Lib.hid hb1
      have HBB := Lib.hid hB1
      have HI1 := Lib.hid hI1
      obtain ⟨x0, x1, x2, x3, x4, x5, x6, x7, x8⟩ := hx1.ec
      clear hx1 hb1 hB1 hI1
      have hlt1 : gx < W5.heap.size := HX1.out.lt
      have HLT2 : Hid (lastTm h.sh.t lg = lastTm x.e.tm (lg.drop (k + 1))) := HLT.out
      cases gd
      · have HLO2 : Hid ((G = true ∧ logOk h.sh.t lg = true) ↔ (false = true ∧ logOk x.e.tm (lg.drop (k + 1)) = true)) := by
          show _ ↔ _
          rw [HLO.out]
          simp
        go_wp2
        go_roundw
        case rel => exact ⟨k + 1, x.e.tm, false, rfl, rfl, by go_num, by omega, HWX.out.tm, HBB.out, HB1.out, HLO2.out, HLT2.out⟩
        case measure => simp [intOf]; omega
      by_cases cm : a ≤ x.e.tm ∧ 1 ≤ x.e.tm
      rotate_left
      · have HLO2 : Hid ((G = true ∧ logOk h.sh.t lg = true) ↔ (false = true ∧ logOk x.e.tm (lg.drop (k + 1)) = true)) := by
          show _ ↔ _
          rw [HLO.out]
          simp only [logOk, decide_eq_false cm]
          simp
        by_cases ca : x.e.tm ≥ 1
        · have d1 : decide (x.e.tm ≥ 1) = true := decide_eq_true ca
          have d2 : decide (x.e.tm ≥ a) = false := decide_eq_false (by omega)
          clear cm ca ha
          go_wp2
          go_roundw
          case rel => exact ⟨k + 1, x.e.tm, false, rfl, rfl, by go_num, by omega, HWX.out.tm, HBB.out, HB1.out, HLO2.out, HLT2.out⟩
          case measure => simp [intOf]; omega
        · have d1 : decide (x.e.tm ≥ 1) = false := decide_eq_false ca
          clear cm ca ha
          go_wp2
          go_roundw
          case rel => exact ⟨k + 1, x.e.tm, false, rfl, rfl, by go_num, by omega, HWX.out.tm, HBB.out, HB1.out, HLO2.out, HLT2.out⟩
          case measure => simp [intOf]; omega
      have HCM := Lib.hid cm
      have d1 : decide (x.e.tm ≥ 1) = true := decide_eq_true cm.2
      have d2 : decide (x.e.tm ≥ a) = true := decide_eq_true cm.1
      have C5 := ref_Check_any W5 x.e.k x.e.n x.e.t x.A x.c x.e.l x.e.b x.e.q x.e.s x.e.m HI1.out HWX.out.n HWX.out.t
      rw [← codeOk_eq _ _ _ _ _ _ _ _ HWX.out.b HWX.out.q HWX.out.s HWX.out.m] at C5
      unfold cmdV at C5
      obtain ⟨ck, hck⟩ : ∃ ck, x.e.ok = ck := ⟨_, rfl⟩
      have hck2 : codeOk x.e.k x.e.n x.e.t x.e.l x.e.b x.e.q x.e.s x.e.m = ck := hck
      rw [hck2] at C5
      have HCK := Lib.hid hck
      have HLO2 : Hid ((G = true ∧ logOk h.sh.t lg = true) ↔ (ck = true ∧ logOk x.e.tm (lg.drop (k + 1)) = true)) := by
        show _ ↔ _
        rw [HLO.out]
        simp only [logOk, decide_eq_true HCM.out, HCK.out]
        simp
      clear cm hck hck2 ha
      cases ck
      · rw [show errCmd false = 40 from rfl] at C5
        have C5 := Lib.hid C5
        go_wp2_with fail
        refine C5.out.mono ?_
        rintro e w6 ⟨rfl, hB6⟩
        have HB6 := Lib.hid (HBB.out.trans (hB6.mono (by omega)))
        have HBK6 := Lib.hid (HB1.out.below hB6 HB1.out.lt)
        have hx6 := (HX1.out.below hB6 hlt1).ec.c0
        clear hB6 x0 x1 x2 x3 x4 x5 x6 x7 x8 C5
        go_wp2
        go_roundw
        case rel => exact ⟨k + 1, x.e.tm, false, rfl, rfl, by go_num, by omega, HWX.out.tm, HB6.out, HBK6.out, HLO2.out, HLT2.out⟩
        case measure => simp [intOf]; omega
      · rw [show errCmd true = 0 from rfl] at C5
        have C5 := Lib.hid C5
        go_wp2_with fail
        refine C5.out.mono ?_
        rintro e w6 ⟨rfl, hB6⟩
        have HB6 := Lib.hid (HBB.out.trans (hB6.mono (by omega)))
        have HBK6 := Lib.hid (HB1.out.below hB6 HB1.out.lt)
        have hx6 := (HX1.out.below hB6 hlt1).ec.c0
        clear hB6 x0 x1 x2 x3 x4 x5 x6 x7 x8 C5
        go_wp2
        go_roundw
        case rel => exact ⟨k + 1, x.e.tm, true, rfl, rfl, by go_num, by omega, HWX.out.tm, HB6.out, HBK6.out, by simpa using HLO2.out, HLT2.out⟩
        case measure => simp [intOf]; omega
    · obtain rfl : k = xs.length := by omega
      have hdr : lg.drop xs.length = [] := by
        rw [← HLG.out]
        simp
      rw [hdr] at HLO HLT
      have z1 := hbk.hrd.z1
      have HLX : Hid ((h.hrd xs).Ok ↔ gd = true ∧ a ≤ h.tm) := by
        show _ ↔ _
        rw [HOK.out, HLO.out, HLT.out]
        simp [logOk, lastTm]
      clear hdr hbk hB ha
      cases gd
      · have HV : Hid (E = 130) := HE.out.symm.trans (rec_bad (fun ok => absurd (HLX.out.1 ok).1 (by decide)))
        go_wp2
        go_ret
        exact ⟨by rw [HV.out]; rfl, HB.out⟩
      by_cases c8 : h.tm < a
      · have d8 : decide (h.tm < a) = true := decide_eq_true c8
        have HV : Hid (E = 130) := HE.out.symm.trans (rec_bad (fun ok => by have := (HLX.out.1 ok).2; omega))
        clear c8
        go_wp2
        go_ret
        exact ⟨by rw [HV.out]; rfl, HB.out⟩
      · have d8 : decide (h.tm < a) = false := decide_eq_false c8
        have HV : Hid (E = 0) := HE.out.symm.trans (rec_good (HLX.out.2 ⟨rfl, by omega⟩))
        clear c8
        go_wp2
        go_ret
        exact ⟨by rw [HV.out]; rfl, HB.out⟩
end Go.Proofs.Ytadkkhbbempaaaa

/- What lasts in new memory: the document's Entries, Copy. -/
namespace Go.Proofs.Ytadkkhbbempaaaa
set_option maxRecDepth 100000
open Go.RowKit

/-- append(v, x) of one struct, as a step of a region that draws its order: any number of them. -/
theorem step_oneG {α : Type} {f : α → List Value} {s bytes : Nat} {T E : TypeId} {z0 : Value} {W : World} (hT : Try.prog.underlying T = some (.slice E)) (hinfo : (Try.prog.info? E).map (fun i => (i.zero, i.size, i.bytes)) = some (some z0, s, bytes)) (hz : z0.cells.size = s) (hs0 : 0 < s) (hfl : ∀ x, (f x).length = s) (hone : ∀ x, ∀ u ∈ f x, u.oneCell' = true)
    {ops : Array Oper} {o : Oper} {a : Act} {K : Act → World → Prop} {Q : Exit → Act → World → Prop} {EE : Prop} {cs : Array Value} (base : Nat) (hgd : o.guard = none) (sx x : Operand)
    (ho : o.op = .call { callee := .builtin .append, args := #[sx, x], argTypes := #[T, T] })
    (v : Value) (l : List α) (y : α) (hs : a.eval sx = v) (hcs : cs = (f y).toArray) (hx : a.eval x = .slice (some ⟨W.heap.size, 0, none⟩) 1 1) (HO : W.ownsRow base E s v l.length (l.flatMap f)) (hbase : base ≤ W.heap.size) (hl : (l.length + 1) * bytes ≤ 140737488355328) (hb1 : 1 ≤ bytes)
    (h : ∀ v1 w1, w1.ownsRow base E s v1 (l ++ [y]).length ((l ++ [y]).flatMap f) → W.grownBy w1 v.ownBlock → (v1.ownBlock = v.ownBlock ∨ ∃ b, v1.ownBlock = some b ∧ W.heap.size ≤ b) → K (a.put o.dst v1) w1) :
    if Region.wanted o (yielded ops a.tmps) = true then Oper.wp Try.prog o a (W.alloc (.cells cs E)) K Q else EE := by
  have hr : Reads (W.alloc (.cells cs E)) (W.heap.size + 1) s (some ⟨W.heap.size, 0, none⟩) 1 (f y) := by
    subst hcs
    refine ⟨by rw [hfl, Nat.one_mul], fun _ => ⟨W.heap.size, 0, rfl, by omega, fun j u hu => ?_⟩⟩
    rw [Nat.zero_add, World.cell?_alloc_mark]
    simpa using hu
  obtain ⟨i0, hi, hz0, hz1, hz2⟩ := info_parts hinfo
  have hO := World.ownsRow.alloc HO (.cells cs E)
  have hlen : l.length + 1 ≤ (l.length + 1) * bytes := Nat.le_mul_of_pos_right _ hb1
  refine step_append_any _ hgd sx x T ho base E i0 z0 s bytes hT hi hz0 hz1 hz2 hz hs0 v l.length (l.flatMap f) hs hO (W.heap.size + 1) _ _ _ (f y) hx hr (hone y) (by simp only [maxLen]; omega) hl (by simp; omega) ?_
  intro v1 w1 ho1 hg hat
  refine h v1 w1 ?_ (World.grownBy.trans (World.grownBy_alloc W _ _) hg) ?_
  · rw [List.length_append, List.length_singleton, List.flatMap_append, List.flatMap_singleton]
    exact ho1
  · rcases hat with hat | hat
    · exact .inl hat
    · exact .inr ⟨_, hat, by simp⟩
/-- Entries in the call's own memory, from block base on. -/
structure OwE (w : World) (base : Nat) (A : Option Addr) (c : Nat) (xs : List Ec) : Prop where
  inn : InE w A c xs
  own : ∀ a, A = some a → base ≤ a.block
  lists : ∀ x ∈ xs, ∀ a, x.A = some a → base ≤ a.block
theorem OwE.keep {w w1 : World} {base : Nat} {A : Option Addr} {c : Nat} {xs : List Ec} (h : OwE w base A c xs) (hb : Below w.heap.size w w1) : OwE w1 base A c xs := ⟨h.inn.keep hb, h.own, h.lists⟩
theorem OwE.lower {w : World} {base base' : Nat} {A : Option Addr} {c : Nat} {xs : List Ec} (h : OwE w base A c xs) (hb : base' ≤ base) : OwE w base' A c xs := ⟨h.inn, fun a e => Nat.le_trans hb (h.own a e), fun x hx a e => Nat.le_trans hb (h.lists x hx a e)⟩
theorem InN.setx {k : IntKind} {w : World} {A : Option Addr} {c : Nat} {l : List Int} (h : InN k w A c l) {p : Addr} (hp : ∀ a, A = some a → p.block ≠ a.block) (u : Value) : InN k (w.setCell p u) A c l := by
  refine ⟨⟨h.reads.1, fun h0 => ?_⟩, h.wf, h.cap, h.small⟩
  obtain ⟨b, off, e, hb, hc⟩ := h.reads.2 h0
  refine ⟨b, off, e, by simpa [World.setCell] using hb, fun j u' hu => ?_⟩
  rw [World.cell?_setCell_other w p _ u (fun e2 => by have := hp _ e; rw [e2] at this; exact this rfl)]
  exact hc j u' hu
theorem OwE.set {w : World} {base : Nat} {A : Option Addr} {c : Nat} {xs : List Ec} (h : OwE w base A c xs) {p : Addr} (hp : p.block < base) (u : Value) : OwE (w.setCell p u) base A c xs :=
  ⟨⟨h.inn.rows.far (fun b off e => by have := h.own _ e; simp only at this; omega) u, fun x hx => (h.inn.inn x hx).setx (fun a e => by have := h.lists x hx a e; omega) u, h.inn.small⟩, h.own, h.lists⟩
/-- What is kept of the entries that have been copied, while a further one is. -/
structure Ent1 (w : World) (g : Nat) (v : Value) (ys : List Ec) : Prop where
  row : w.ownsRow g 46 9 v ys.length (ys.flatMap ecC)
  inn : ∀ y ∈ ys, InN .i64 w y.A y.c y.e.l
  own : ∀ y ∈ ys, ∀ a, y.A = some a → g ≤ a.block ∧ v.ownBlock ≠ some a.block
theorem Ent1.drew {w : World} {g : Nat} {v : Value} {ys : List Ec} (h : Ent1 w g v ys) : Ent1 w.drew g v ys := ⟨h.row, fun y hy => ⟨(h.inn y hy).reads.drew, (h.inn y hy).wf, (h.inn y hy).cap, (h.inn y hy).small⟩, h.own⟩
theorem Ent1.below {w w1 : World} {g : Nat} {v : Value} {ys : List Ec} (h : Ent1 w g v ys) (hb : Below w.heap.size w w1) : Ent1 w1 g v ys := ⟨own_below h.row hb, fun y hy => (h.inn y hy).keep hb, h.own⟩
theorem Ent1.push {w w1 : World} {g : Nat} {v v1 : Value} {ys : List Ec} {y : Ec} (h : Ent1 w g v ys) (hr : w1.ownsRow g 46 9 v1 (ys ++ [y]).length ((ys ++ [y]).flatMap ecC)) (hg : w.grownBy w1 v.ownBlock) (hat : v1.ownBlock = v.ownBlock ∨ ∃ b, v1.ownBlock = some b ∧ w.heap.size ≤ b)
    (hy : InN .i64 w y.A y.c y.e.l) (ho : ∀ a, y.A = some a → g ≤ a.block ∧ v.ownBlock ≠ some a.block) (hlt : ∀ a, y.A = some a → a.block < w.heap.size) (hlts : ∀ x ∈ ys, ∀ a, x.A = some a → a.block < w.heap.size) : Ent1 w1 g v1 (ys ++ [y]) := by
  have hne : ∀ a : Addr, v.ownBlock ≠ some a.block → a.block < w.heap.size → v1.ownBlock ≠ some a.block := by
    intro a h1 h2 h3
    rcases hat with q | ⟨b, q, hb⟩
    · exact h1 (q.symm.trans h3)
    · rw [q] at h3
      injection h3 with h3
      omega
  refine ⟨hr, fun x hx => ?_, fun x hx a ha => ?_⟩
  · rcases List.mem_append.1 hx with q | q
    · exact (h.inn x q).grown hg (fun b off e hh => (h.own x q _ e).2 hh.symm)
    · rw [List.mem_singleton] at q
      subst q
      exact hy.grown hg (fun b off e hh => (ho _ e).2 hh.symm)
  · rcases List.mem_append.1 hx with q | q
    · exact ⟨(h.own x q a ha).1, hne a (h.own x q a ha).2 (hlts x q a ha)⟩
    · rw [List.mem_singleton] at q
      subst q
      exact ⟨(ho a ha).1, hne a (ho a ha).2 (hlt a ha)⟩

set_option maxHeartbeats 8000000 in
theorem r04_Entries_any (w : World) (A : Option Addr) (c : Nat) (xs : List Ec) (h : InE w A c xs) (hl : ∀ x ∈ xs, x.e.l.length ≤ 17592186043904) :
    Calls Try.prog 31 #[.slice A xs.length c] w fun e w' => ∃ A' c' ys, e = .returned (.slice A' ys.length c') ∧ ys.map (·.e) = xs.map (·.e) ∧ OwE w' w.heap.size A' c' ys ∧ Below w.heap.size w w' := by
  obtain ⟨g, hg⟩ : ∃ g, w.heap.size = g := ⟨_, rfl⟩
  rw [hg]
  have HIN := Lib.hid h
  have hsm := h.small
  have HLL := Lib.hid hl
  clear h hl
  go_enter Try.func31, Try.ntmps31
  go_wp2_with fail
  go_loopw [3, 5, 8] (fun v _ iv wr => ∃ (k : Nat) (ys : List Ec), iv = .int .i64 (k : Int) ∧ k ≤ xs.length ∧ ys.length = k ∧ ys.map (·.e) = (xs.take k).map (·.e) ∧ Ent1 wr g v ys ∧ Below g w wr ∧ (∀ y ∈ ys, ∀ a, y.A = some a → a.block < wr.heap.size)) (fun _ _ iv _ => xs.length - (intOf iv).toNat)
  case atStart => exact ⟨0, [], rfl, by omega, rfl, rfl, ⟨own_nil _ _ _ _, (fun y hy => by cases hy), (fun y hy => by cases hy)⟩, Below.refl _ _, fun y hy => by cases hy⟩
  case round =>
    obtain ⟨k, ys, rfl, hk, hyl, hym, hst, hB, hlts⟩ := hrel
    have HS := Lib.hid hst
    have HB := Lib.hid hB
    have HYM := Lib.hid hym
    have HYL := Lib.hid hyl
    have HLT := Lib.hid hlts
    clear hst hym hyl hlts
    by_cases hkl : k < xs.length
    · obtain ⟨b, off, rfl, hbb, hat⟩ := (HIN.out.keep (hg ▸ hB)).rows.ec (by omega)
      have hmem := List.getElem_mem hkl
      have hatk := hat k hkl
      have hinx := (HIN.out.keep (hg ▸ hB)).inn _ hmem
      have hlx := HLL.out _ hmem
      have htk : (xs.take (k + 1)).map (·.e) = (xs.take k).map (·.e) ++ [xs[k].e] := by
        rw [← List.take_append_getElem hkl, List.map_append]
        rfl
      obtain ⟨x, hx⟩ : ∃ x, xs[k] = x := ⟨_, rfl⟩
      rw [hx] at hatk hinx hlx htk
      obtain ⟨x0, x1, x2, x3, x4, x5, x6, x7, x8⟩ := hatk
      have HINX := Lib.hid hinx
      have HTK := Lib.hid htk
      clear hat hx hmem hinx htk hB
      have hgw : g ≤ wr.heap.size := by have := HB.out.size; omega
      obtain ⟨gx, hgx⟩ : ∃ gx, wr.heap.size = gx := ⟨_, rfl⟩
      have hx1 : Blk (wr.alloc (.cells (ecA x) 46)) gx 46 (ecA x) := hgx ▸ Blk.new _ _ _
      have hal : Below wr.heap.size wr (wr.alloc (.cells (ecA x) 46)) := (Below.refl _ _).alloc (Nat.le_refl _) _
      have hB1 := HB.out.alloc hgw (.cells (ecA x) 46)
      have hI1 := HINX.out.keep hal
      have hS1 := HS.out.below hal
      have hz1 : (wr.alloc (.cells (ecA x) 46)).heap.size = gx + 1 := by simp [hgx]
      have HLT1 : Hid (∀ y ∈ ys, ∀ a, y.A = some a → a.block < gx) := fun y hy a ha => by have := HLT.out y hy a ha; omega
      have HVB : Hid (∀ b, u3.ownBlock = some b → b < gx) := fun b hb => by have := (World.ownsRow.lt HS.out.row b hb).2; omega
      clear hal HS HLT
      go_upto_region 5 with (fail)
      change Code.wp _ _ _ _ (wr.alloc (.cells (ecA x) 46))
      generalize (wr.alloc (.cells (ecA x) 46)) = W5 at hx1 hB1 hI1 hS1 hz1 ⊢
      try rw [hgx]
      clear x0 x1 x2 x3 x4 x5 x6 x7 x8
      have HB1 := Lib.hid hB1
      have HX1 := Lib.hid hx1
      have HS1 := Lib.hid hS1
      have HZ5 : Hid (gx < W5.heap.size) := by show _ < _; omega
      have HZG : Hid (g ≤ W5.heap.size) := by show _ ≤ _; omega
      clear hz1
      obtain ⟨x0, x1, x2, x3, x4, x5, x6, x7, x8⟩ := hx1.ec
      have C7 := ref_Copy_own W5.drew x.e.k x.e.n x.e.t x.A x.c x.e.l x.e.b x.e.q x.e.s x.e.m ⟨hI1.reads.drew, hI1.wf, hI1.cap, hI1.small⟩ hlx
      unfold cmdV at C7
      have C7 := Lib.hid C7
      clear hgx hx1 hB1 hI1 hS1
      go_wp2_with fail
      go_region_law (first
        | (refine step_oneG (f := ecC) (W := w7) Try.underlying30 info_Entry rfl (by omega) ecC_len ecC_one g rfl _ _ rfl u3 ys ⟨A7, c7, x.e⟩ rfl rfl rfl H7.out.row HZ7.out (by have := HYL.out; omega) (by omega) ?_; intro v8 w8 ho8 hg8 hat8; have H8 := Lib.hid ho8; have HG8 := Lib.hid hg8; have HA8 := Lib.hid hat8; clear ho8 hg8 hat8)
        | (go_simp; go_at_call 41; refine C7.out.mono ?_; rintro q w7 ⟨A7, c7, rfl, hin7, hown7, hB7⟩; have hl7 : gx < w7.heap.size := Nat.lt_of_lt_of_le HZ5.out hB7.size; have c70 : w7.cell? ⟨gx, 0, none⟩ = some (.int .u64 x.e.tm) := ((HX1.out.drew.below hB7 HZ5.out).ec.c0); have H7 := Lib.hid (HS1.out.drew.below hB7); have HB7 := Lib.hid (HB1.out.drew.trans (hB7.mono HZG.out)); have HZ7 : Hid (g ≤ w7.heap.size) := Nat.le_trans HZG.out hB7.size; have HI7 := Lib.hid hin7; have HO7 := Lib.hid hown7; clear hB7 hin7 hown7))
      all_goals
        go_wp2
        go_roundw
        case rel =>
          have hlt7 : ∀ a, A7 = some a → a.block < w7.heap.size := fun a ha => (HO7.out a ha).2
          have hz7 : gx ≤ w7.heap.size := by omega
          refine ⟨k + 1, ys ++ [⟨A7, c7, x.e⟩], by go_num, by omega, by have := HYL.out; simp; omega, by rw [HTK.out, List.map_append, HYM.out]; rfl, H7.out.push H8.out HG8.out HA8.out HI7.out (fun a ha => by have h5 : W5.heap.size ≤ a.block := (HO7.out a ha).1; exact ⟨Nat.le_trans HZG.out h5, fun hh => by have := HVB.out _ hh; have := HZ5.out; omega⟩) hlt7 (fun y hy a ha => by have := HLT1.out y hy a ha; omega), HB7.out.grown HG8.out HZ7.out (fun j hj => own_base H7.out.row j hj), fun y hy a ha => ?_⟩
          have hs8 := HG8.out.size
          rcases List.mem_append.1 hy with q | q
          · have := HLT1.out y q a ha
            omega
          · rw [List.mem_singleton] at q
            subst q
            have := hlt7 a ha
            omega
        case measure => simp [intOf]; omega
    · obtain rfl : k = xs.length := by omega
      have hrow := HS.out.row
      obtain ⟨A8, c8, rfl, hc8, _, hrd⟩ := own_open hrow
      have HRD := Lib.hid hrd
      clear hrow hrd hB
      go_wp2
      go_ret
      refine ⟨A8, c8, ys, rfl, by rw [HYM.out, List.take_length], ⟨⟨⟨HRD.out, hc8, by have := HYL.out; omega⟩, HS.out.inn, by have := HYL.out; omega⟩, fun a ha => own_base HS.out.row a.block (by rw [ha]; rfl), fun y hy a ha => (HS.out.own y hy a ha).1⟩, HB.out⟩
end Go.Proofs.Ytadkkhbbempaaaa

/- What lasts in new memory: the document's Copy. -/
namespace Go.Proofs.Ytadkkhbbempaaaa
set_option maxRecDepth 100000
open Go.RowKit

theorem Blk.set11 {w : World} {g : Nat} {T : TypeId} {v0 v1 v2 v3 v4 v5 v6 v7 v8 v9 v10 : Value} (h : Blk w g T #[v0, v1, v2, v3, v4, v5, v6, v7, v8, v9, v10]) (u0 u1 u2 u3 u4 u5 u6 u7 u8 u9 u10 : Value) :
    Blk (((((((((((w.setCell ⟨g, 0, none⟩ u0).setCell ⟨g, 1, none⟩ u1).setCell ⟨g, 2, none⟩ u2).setCell ⟨g, 3, none⟩ u3).setCell ⟨g, 4, none⟩ u4).setCell ⟨g, 5, none⟩ u5).setCell ⟨g, 6, none⟩ u6).setCell ⟨g, 7, none⟩ u7).setCell ⟨g, 8, none⟩ u8).setCell ⟨g, 9, none⟩ u9).setCell ⟨g, 10, none⟩ u10) g T #[u0, u1, u2, u3, u4, u5, u6, u7, u8, u9, u10] :=
  (((((((((((h.setL 0 u0).setL 1 u1).setL 2 u2).setL 3 u3).setL 4 u4).setL 5 u5).setL 6 u6).setL 7 u7).setL 8 u8).setL 9 u9).setL 10 u10)
theorem grown_set11 (w : World) (g : Nat) (u0 u1 u2 u3 u4 u5 u6 u7 u8 u9 u10 : Value) : w.grownBy (((((((((((w.setCell ⟨g, 0, none⟩ u0).setCell ⟨g, 1, none⟩ u1).setCell ⟨g, 2, none⟩ u2).setCell ⟨g, 3, none⟩ u3).setCell ⟨g, 4, none⟩ u4).setCell ⟨g, 5, none⟩ u5).setCell ⟨g, 6, none⟩ u6).setCell ⟨g, 7, none⟩ u7).setCell ⟨g, 8, none⟩ u8).setCell ⟨g, 9, none⟩ u9).setCell ⟨g, 10, none⟩ u10) (some g) := by
  refine only_setCell (only_setCell (only_setCell (only_setCell (only_setCell (only_setCell (only_setCell (only_setCell (only_setCell (only_setCell (only_setCell (World.grownBy.refl _ _) ?_ _) ?_ _) ?_ _) ?_ _) ?_ _) ?_ _) ?_ _) ?_ _) ?_ _) ?_ _) ?_ _
  all_goals exact .inl rfl
/-- What lasts, in the call's own memory from block base on. -/
structure OwH (w : World) (base : Nat) (h : Hb) (p : Sa) (PA : Option Addr) (PC : Nat) (xs : List Ec) : Prop where
  sh : ShIn w base p.A0 p.c0 h.sh.ns p.A1 p.c1 h.sh.hs p.A2 p.c2 h.sh.ls
  log : OwE w base PA PC xs
section
variable {w w1 : World} {base base' : Nat} {h : Hb} {p : Sa} {PA : Option Addr} {PC : Nat} {xs : List Ec}
theorem OwH.keep (k : OwH w base h p PA PC xs) (hb : Below w.heap.size w w1) : OwH w1 base h p PA PC xs := ⟨k.sh.keep hb, k.log.keep hb⟩
theorem OwH.set (k : OwH w base h p PA PC xs) {q : Addr} (hq : q.block < base) (u : Value) : OwH (w.setCell q u) base h p PA PC xs := ⟨k.sh.set hq u, k.log.set hq u⟩
theorem OwH.lower (k : OwH w base h p PA PC xs) (hb : base' ≤ base) : OwH w base' h p PA PC xs := ⟨k.sh.lower hb, k.log.lower hb⟩
theorem OwH.inh (k : OwH w base h p PA PC xs) : InH w h p PA PC xs := ⟨⟨k.sh.hn.inn, k.sh.led.hh.inn, k.sh.led.hl.inn⟩, k.log.inn⟩
end

set_option maxHeartbeats 8000000 in
theorem r13_Copy_any (w : World) (h : Hb) (p : Sa) (PA : Option Addr) (PC : Nat) (xs : List Ec) (hin : InH w h p PA PC xs) (wf : (h.hrd xs).Wf) :
    Calls Try.prog 12 #[hrdV h p PA PC xs] w fun e w' => ∃ p' PA' PC' ys, e = .returned (hrdV h p' PA' PC' ys) ∧ ys.map (·.e) = xs.map (·.e) ∧ OwH w' w.heap.size h p' PA' PC' ys ∧ Below w.heap.size w w' := by
  obtain ⟨g, hg⟩ : ∃ g, w.heap.size = g := ⟨_, rfl⟩
  rw [hg]
  obtain ⟨gr, hgr⟩ : ∃ gr, g + 1 = gr := ⟨_, rfl⟩
  have hBx : Below g w ((w.alloc (.cells (hrdC h p PA PC xs) 32)).alloc (.cells (hrdC ⟨0, 0, 0, ⟨0, 0, [], 0, 0, [], []⟩⟩ ⟨none, 0, none, 0, none, 0⟩ none 0 []) 32)) := ((Below.refl _ _).alloc (by omega) _).alloc (by simp; omega) _
  have hs1 : (w.alloc (.cells (hrdC h p PA PC xs) 32)).heap.size = gr := by simp [hg, hgr]
  have hb1 : Blk ((w.alloc (.cells (hrdC h p PA PC xs) 32)).alloc (.cells (hrdC ⟨0, 0, 0, ⟨0, 0, [], 0, 0, [], []⟩⟩ ⟨none, 0, none, 0, none, 0⟩ none 0 []) 32)) g 32 (hrdC h p PA PC xs) := (hg ▸ Blk.new w 32 (hrdC h p PA PC xs) : Blk (w.alloc (.cells (hrdC h p PA PC xs) 32)) g 32 (hrdC h p PA PC xs)).alloc _
  have hr1 : Blk ((w.alloc (.cells (hrdC h p PA PC xs) 32)).alloc (.cells (hrdC ⟨0, 0, 0, ⟨0, 0, [], 0, 0, [], []⟩⟩ ⟨none, 0, none, 0, none, 0⟩ none 0 []) 32)) gr 32 (hrdC ⟨0, 0, 0, ⟨0, 0, [], 0, 0, [], []⟩⟩ ⟨none, 0, none, 0, none, 0⟩ none 0 []) := hs1 ▸ Blk.new _ _ _
  have hz1 : ((w.alloc (.cells (hrdC h p PA PC xs) 32)).alloc (.cells (hrdC ⟨0, 0, 0, ⟨0, 0, [], 0, 0, [], []⟩⟩ ⟨none, 0, none, 0, none, 0⟩ none 0 []) 32)).heap.size = g + 2 := by simp [hg]
  have HIN := Lib.hid hin
  have C1 := fun W (k : InSh W h.sh p) => r06_Copy_any W h.sh.i h.sh.t p.A0 p.c0 h.sh.ns h.sh.lim h.sh.nxt p.A1 p.c1 h.sh.hs p.A2 p.c2 h.sh.ls k.n wf.sh.ns k.h k.l
  have C2 := fun W (k : InE W PA PC xs) => r04_Entries_any W PA PC xs k (fun x hx => (wf.log x.e (List.mem_map_of_mem hx)).l)
  unfold shV at C1
  have C1 := Lib.hid C1
  have C2 := Lib.hid C2
  clear hin wf hs1
  unfold hrdV
  go_enter Try.func12, Try.ntmps12
  go_upto_region 1 with (fail)
  change Code.wp _ _ _ _ ((w.alloc (.cells (hrdC h p PA PC xs) 32)).alloc (.cells (hrdC ⟨0, 0, 0, ⟨0, 0, [], 0, 0, [], []⟩⟩ ⟨none, 0, none, 0, none, 0⟩ none 0 []) 32))
  generalize ((w.alloc (.cells (hrdC h p PA PC xs) 32)).alloc (.cells (hrdC ⟨0, 0, 0, ⟨0, 0, [], 0, 0, [], []⟩⟩ ⟨none, 0, none, 0, none, 0⟩ none 0 []) 32)) = W at hb1 hr1 hz1 hBx ⊢
  try rw [hgr]
  have HB := Lib.hid hBx
  have X1 := Lib.hid (C1.out W (HIN.out.sh.keep (hg ▸ hBx)))
  have HZ1 := Lib.hid hz1
  have hzg : g + 2 ≤ W.heap.size := by omega
  obtain ⟨z0, z1, z2, z3, z4, z5, z6, z7, z8, z9, z10⟩ := hb1.hrd
  clear hBx hz1 C1
  go_wp2_with fail
  refine X1.out.mono ?_
  rintro e w1 ⟨A0, c0, A1, c1, A2, c2, rfl, hin1, hB1⟩
  rw [HZ1.out] at hin1
  have hb2 := hb1.below hB1 (by omega)
  have hr2 := hr1.below hB1 (by omega)
  have hzg1 : g + 2 ≤ w1.heap.size := by have := hB1.size; omega
  have HB1 := Lib.hid (HB.out.trans (hB1.mono (by omega)))
  have HI1 := Lib.hid hin1
  clear hB1 z0 z1 z2 z3 z4 z5 z6 z7 z8 z9 z10 hb1 hr1 X1 HB hin1 hzg HZ1
  obtain ⟨z0, z1, z2, z3, z4, z5, z6, z7, z8, z9, z10⟩ := hb2.hrd
  have y3 := hb2.frozen 3
  have y4 := hb2.frozen 4
  have y5 := hb2.frozen 5
  have y6 := hb2.frozen 6
  have y7 := hb2.frozen 7
  have y8 := hb2.frozen 8
  have y9 := hb2.frozen 9
  have hb3 : Blk (((((((w1.setCell ⟨g, 3, none⟩ (.int .u64 h.sh.i)).setCell ⟨g, 4, none⟩ (.int .u64 h.sh.t)).setCell ⟨g, 5, none⟩ (.slice A0 h.sh.ns.length c0)).setCell ⟨g, 6, none⟩ (.int .i64 h.sh.lim)).setCell ⟨g, 7, none⟩ (.int .u64 h.sh.nxt)).setCell ⟨g, 8, none⟩ (.slice A1 h.sh.hs.length c1)).setCell ⟨g, 9, none⟩ (.slice A2 h.sh.ls.length c2)) g 32 (hrdC h ⟨A0, c0, A1, c1, A2, c2⟩ PA PC xs) := ((((((Blk.setL (l := [Value.int .u64 h.bt, .int .u64 h.tm, .int .i64 h.vt, .int .u64 h.sh.i, .int .u64 h.sh.t, .slice p.A0 h.sh.ns.length p.c0, .int .i64 h.sh.lim, .int .u64 h.sh.nxt, .slice p.A1 h.sh.hs.length p.c1, .slice p.A2 h.sh.ls.length p.c2, .slice PA xs.length PC]) hb2 3 _).setL 4 _).setL 5 _).setL 6 _).setL 7 _).setL 8 _).setL 9 _
  have hset1 : ∀ (j : Nat) (W : World) (u : Value), Below g w W → Below g w (W.setCell ⟨g, j, none⟩ u) := fun j W u hW => hW.setCell (p := ⟨g, j, none⟩) (Nat.le_refl _) u
  have hset2 : ∀ (j : Nat) (W : World) (u : Value), ShIn W (g + 2) A0 c0 h.sh.ns A1 c1 h.sh.hs A2 c2 h.sh.ls → ShIn (W.setCell ⟨g, j, none⟩ u) (g + 2) A0 c0 h.sh.ns A1 c1 h.sh.hs A2 c2 h.sh.ls := fun j W u hW => hW.set (p := ⟨g, j, none⟩) (by show g < g + 2; omega) u
  have hset3 : ∀ (j : Nat) (W : World) (u : Value) (cs : Array Value), Blk W gr 32 cs → Blk (W.setCell ⟨g, j, none⟩ u) gr 32 cs := fun j W u cs hW => hW.far (p := ⟨g, j, none⟩) (by show gr ≠ g; omega) u
  have HB3 : Hid (Below g w (((((((w1.setCell ⟨g, 3, none⟩ (.int .u64 h.sh.i)).setCell ⟨g, 4, none⟩ (.int .u64 h.sh.t)).setCell ⟨g, 5, none⟩ (.slice A0 h.sh.ns.length c0)).setCell ⟨g, 6, none⟩ (.int .i64 h.sh.lim)).setCell ⟨g, 7, none⟩ (.int .u64 h.sh.nxt)).setCell ⟨g, 8, none⟩ (.slice A1 h.sh.hs.length c1)).setCell ⟨g, 9, none⟩ (.slice A2 h.sh.ls.length c2))) := (hset1 _ _ _ (hset1 _ _ _ (hset1 _ _ _ (hset1 _ _ _ (hset1 _ _ _ (hset1 _ _ _ (hset1 _ _ _ HB1.out)))))))
  have HI3 : Hid (ShIn (((((((w1.setCell ⟨g, 3, none⟩ (.int .u64 h.sh.i)).setCell ⟨g, 4, none⟩ (.int .u64 h.sh.t)).setCell ⟨g, 5, none⟩ (.slice A0 h.sh.ns.length c0)).setCell ⟨g, 6, none⟩ (.int .i64 h.sh.lim)).setCell ⟨g, 7, none⟩ (.int .u64 h.sh.nxt)).setCell ⟨g, 8, none⟩ (.slice A1 h.sh.hs.length c1)).setCell ⟨g, 9, none⟩ (.slice A2 h.sh.ls.length c2)) (g + 2) A0 c0 h.sh.ns A1 c1 h.sh.hs A2 c2 h.sh.ls) := (hset2 _ _ _ (hset2 _ _ _ (hset2 _ _ _ (hset2 _ _ _ (hset2 _ _ _ (hset2 _ _ _ (hset2 _ _ _ HI1.out)))))))
  have hr3 : Blk (((((((w1.setCell ⟨g, 3, none⟩ (.int .u64 h.sh.i)).setCell ⟨g, 4, none⟩ (.int .u64 h.sh.t)).setCell ⟨g, 5, none⟩ (.slice A0 h.sh.ns.length c0)).setCell ⟨g, 6, none⟩ (.int .i64 h.sh.lim)).setCell ⟨g, 7, none⟩ (.int .u64 h.sh.nxt)).setCell ⟨g, 8, none⟩ (.slice A1 h.sh.hs.length c1)).setCell ⟨g, 9, none⟩ (.slice A2 h.sh.ls.length c2)) gr 32 (hrdC ⟨0, 0, 0, ⟨0, 0, [], 0, 0, [], []⟩⟩ ⟨none, 0, none, 0, none, 0⟩ none 0 []) := hset3 _ _ _ _ (hset3 _ _ _ _ (hset3 _ _ _ _ (hset3 _ _ _ _ (hset3 _ _ _ _ (hset3 _ _ _ _ (hset3 _ _ _ _ hr2))))))
  have hz3 : g + 2 ≤ (((((((w1.setCell ⟨g, 3, none⟩ (.int .u64 h.sh.i)).setCell ⟨g, 4, none⟩ (.int .u64 h.sh.t)).setCell ⟨g, 5, none⟩ (.slice A0 h.sh.ns.length c0)).setCell ⟨g, 6, none⟩ (.int .i64 h.sh.lim)).setCell ⟨g, 7, none⟩ (.int .u64 h.sh.nxt)).setCell ⟨g, 8, none⟩ (.slice A1 h.sh.hs.length c1)).setCell ⟨g, 9, none⟩ (.slice A2 h.sh.ls.length c2)).heap.size := by simp [World.setCell]; omega
  clear hset1 hset2 hset3 HB1 HI1
  go_upto_region 2 with (fail)
  change Code.wp _ _ _ _ (((((((w1.setCell ⟨g, 3, none⟩ (.int .u64 h.sh.i)).setCell ⟨g, 4, none⟩ (.int .u64 h.sh.t)).setCell ⟨g, 5, none⟩ (.slice A0 h.sh.ns.length c0)).setCell ⟨g, 6, none⟩ (.int .i64 h.sh.lim)).setCell ⟨g, 7, none⟩ (.int .u64 h.sh.nxt)).setCell ⟨g, 8, none⟩ (.slice A1 h.sh.hs.length c1)).setCell ⟨g, 9, none⟩ (.slice A2 h.sh.ls.length c2))
  generalize (((((((w1.setCell ⟨g, 3, none⟩ (.int .u64 h.sh.i)).setCell ⟨g, 4, none⟩ (.int .u64 h.sh.t)).setCell ⟨g, 5, none⟩ (.slice A0 h.sh.ns.length c0)).setCell ⟨g, 6, none⟩ (.int .i64 h.sh.lim)).setCell ⟨g, 7, none⟩ (.int .u64 h.sh.nxt)).setCell ⟨g, 8, none⟩ (.slice A1 h.sh.hs.length c1)).setCell ⟨g, 9, none⟩ (.slice A2 h.sh.ls.length c2)) = W3 at hb3 HB3 HI3 hr3 hz3 ⊢
  clear z0 z1 z2 z3 z4 z5 z6 z7 z8 z9 z10 y3 y4 y5 y6 y7 y8 y9 hb2 hr2 hzg1
  have X2 := Lib.hid (C2.out W3 (HIN.out.log.keep (hg ▸ HB3.out)))
  have z10 := hb3.hrd.z10
  clear C2
  go_wp2_with fail
  refine X2.out.mono ?_
  rintro e w4 ⟨A9, c9, ys, rfl, hym, hin4, hB4⟩
  have hb4 := hb3.below hB4 (by omega)
  have hr4 := hr3.below hB4 (by omega)
  have HB4 := Lib.hid (HB3.out.trans (hB4.mono (by omega)))
  have hI4 : OwH w4 (g + 2) h ⟨A0, c0, A1, c1, A2, c2⟩ A9 c9 ys := ⟨HI3.out.keep hB4, hin4.lower hz3⟩
  have hzg4 : g + 2 ≤ w4.heap.size := by have := hB4.size; omega
  have HYM := Lib.hid hym
  clear hB4 z10 hb3 hr3 X2 HB3 hin4 hz3 hym HI3
  have z10 := hb4.hrd.z10
  have y10 := hb4.frozen 10
  have hb5 : Blk (w4.setCell ⟨g, 10, none⟩ (.slice A9 ys.length c9)) g 32 (hrdC h ⟨A0, c0, A1, c1, A2, c2⟩ A9 c9 ys) := Blk.setL (l := [Value.int .u64 h.bt, .int .u64 h.tm, .int .i64 h.vt, .int .u64 h.sh.i, .int .u64 h.sh.t, .slice A0 h.sh.ns.length c0, .int .i64 h.sh.lim, .int .u64 h.sh.nxt, .slice A1 h.sh.hs.length c1, .slice A2 h.sh.ls.length c2, .slice PA xs.length PC]) hb4 10 _
  have HB5 := Lib.hid (HB4.out.setCell (p := ⟨g, 10, none⟩) (Nat.le_refl _) (.slice A9 ys.length c9))
  have HI5 := Lib.hid (hI4.set (q := ⟨g, 10, none⟩) (by show g < g + 2; omega) (.slice A9 ys.length c9))
  have hr5 := hr4.far (p := ⟨g, 10, none⟩) (by show gr ≠ g; omega) (.slice A9 ys.length c9)
  clear HB4 hI4
  go_upto_region 3 with (fail)
  change Code.wp _ _ _ _ (w4.setCell ⟨g, 10, none⟩ (.slice A9 ys.length c9))
  generalize (w4.setCell ⟨g, 10, none⟩ (.slice A9 ys.length c9)) = W5 at hb5 HB5 HI5 hr5 ⊢
  clear z10 y10 hb4 hr4 hzg4
  have HR5 := Lib.hid hr5
  obtain ⟨z0, z1, z2, z3, z4, z5, z6, z7, z8, z9, z10⟩ := hb5.hrd
  obtain ⟨q0, q1, q2, q3, q4, q5, q6, q7, q8, q9, q10⟩ := hr5.hrd
  have y0 := hr5.frozen 0
  have y1 := hr5.frozen 1
  have y2 := hr5.frozen 2
  have y3 := hr5.frozen 3
  have y4 := hr5.frozen 4
  have y5 := hr5.frozen 5
  have y6 := hr5.frozen 6
  have y7 := hr5.frozen 7
  have y8 := hr5.frozen 8
  have y9 := hr5.frozen 9
  have y10 := hr5.frozen 10
  have hne : g ≠ gr := by omega
  clear hb5 hr5
  go_wp2
  have hrF := Blk.set11 HR5.out (.int .u64 h.bt) (.int .u64 h.tm) (.int .i64 h.vt) (.int .u64 h.sh.i) (.int .u64 h.sh.t) (.slice A0 h.sh.ns.length c0) (.int .i64 h.sh.lim) (.int .u64 h.sh.nxt) (.slice A1 h.sh.hs.length c1) (.slice A2 h.sh.ls.length c2) (.slice A9 ys.length c9)
  refine bodyPost_ret (results_cell1 rfl rfl (run_loadVar_row _ _ _ _ _ (0, 0) _ hrF Try.underlying32 rfl info_Hard)) rfl ?_
  have f : ∀ (j : Nat) (W : World) (u : Value), OwH W (g + 2) h ⟨A0, c0, A1, c1, A2, c2⟩ A9 c9 ys → OwH (W.setCell ⟨gr, j, none⟩ u) (g + 2) h ⟨A0, c0, A1, c1, A2, c2⟩ A9 c9 ys := fun j W u k => k.set (q := ⟨gr, j, none⟩) (by show gr < g + 2; omega) u
  have s : ∀ (j : Nat) (W : World) (u : Value), Below g w W → Below g w (W.setCell ⟨gr, j, none⟩ u) := fun j W u k => k.setCell (p := ⟨gr, j, none⟩) (by show g ≤ gr; omega) u
  exact ⟨⟨A0, c0, A1, c1, A2, c2⟩, A9, c9, ys, rfl, HYM.out, OwH.lower (f _ _ _ (f _ _ _ (f _ _ _ (f _ _ _ (f _ _ _ (f _ _ _ (f _ _ _ (f _ _ _ (f _ _ _ (f _ _ _ (f _ _ _ HI5.out))))))))))) (by omega), (s _ _ _ (s _ _ _ (s _ _ _ (s _ _ _ (s _ _ _ (s _ _ _ (s _ _ _ (s _ _ _ (s _ _ _ (s _ _ _ (s _ _ _ HB5.out)))))))))))⟩
end Go.Proofs.Ytadkkhbbempaaaa

/- What is the call's own stays as it is where another block is written. -/
namespace Go.Proofs.Ytadkkhbbempaaaa
set_option maxRecDepth 100000
open Go.RowKit

section
variable {α : Type} {f : α → List Value} {s : Nat} {w w' : World} {base base' q : Nat} {A : Option Addr} {c : Nat} {l : List α}
theorem OwS.past (h : OwS f s w base A c l) (hg : w.grownBy w' (some q)) (hq : q < base) : OwS f s w' base A c l := by
  refine ⟨⟨⟨h.inn.reads.1, fun hn => ?_⟩, h.inn.cap, h.inn.small⟩, h.own⟩
  obtain ⟨b, off, e, hb, hc⟩ := h.inn.reads.2 hn
  have := h.own _ e
  exact ⟨b, off, e, Nat.lt_of_lt_of_le hb hg.size, fun j u hu => (World.cell?_of_block (hg.block b hb (fun e => by injection e with e; simp only at this; omega))).trans (hc j u hu)⟩
theorem OwS.lower (h : OwS f s w base A c l) (hb : base' ≤ base) : OwS f s w base' A c l := ⟨h.inn, fun a e => Nat.le_trans hb (h.own a e)⟩
end
section
variable {w w' : World} {base base' q : Nat} {A : Option Addr} {c : Nat} {l : List Int}
theorem OwI.past (h : OwI w base A c l) (hg : w.grownBy w' (some q)) (hq : q < base) : OwI w' base A c l :=
  ⟨h.inn.grown hg (fun b off e hh => by have := h.own _ e; injection hh with hh; simp only at this; omega), h.own⟩
theorem OwI.lower (h : OwI w base A c l) (hb : base' ≤ base) : OwI w base' A c l := ⟨h.inn, fun a e => Nat.le_trans hb (h.own a e)⟩
theorem OwI.of_cop {w w' : World} {A : Option Addr} {c : Nat} {l : List Int} (h : Cop w w' A c l) : OwI w' w.heap.size A c l :=
  ⟨h.inn, fun a e => h.own a.block (by rw [e]; rfl)⟩
end
section
variable {w w' : World} {base q : Nat}
theorem ShIn.past {An : Option Addr} {cn : Nat} {ns : List Int} {Ah : Option Addr} {ch : Nat} {hs : List Hd} {Al : Option Addr} {cl : Nat} {ls : List Ls} (h : ShIn w base An cn ns Ah ch hs Al cl ls) (hg : w.grownBy w' (some q)) (hq : q < base) : ShIn w' base An cn ns Ah ch hs Al cl ls :=
  ⟨h.hn.past hg hq, ⟨h.led.hh.past hg hq, h.led.hl.past hg hq⟩⟩
theorem OwE.past {A : Option Addr} {c : Nat} {xs : List Ec} (h : OwE w base A c xs) (hg : w.grownBy w' (some q)) (hq : q < base) : OwE w' base A c xs :=
  ⟨⟨((⟨h.inn.rows, h.own⟩ : OwS ecC 9 w base A c xs).past hg hq).inn, fun x hx => ((⟨h.inn.inn x hx, h.lists x hx⟩ : OwI w base x.A x.c x.e.l).past hg hq).inn, h.inn.small⟩, h.own, h.lists⟩
theorem OwH.past {h : Hb} {p : Sa} {PA : Option Addr} {PC : Nat} {xs : List Ec} (k : OwH w base h p PA PC xs) (hg : w.grownBy w' (some q)) (hq : q < base) : OwH w' base h p PA PC xs := ⟨k.sh.past hg hq, k.log.past hg hq⟩
end
theorem sets_grown {w : World} (q : Nat) (ps : List (Nat × Value)) : w.grownBy (setsW w q ps) (some q) :=
  setsW_any (fun X => w.grownBy X (some q)) (World.grownBy.refl _ _) (fun j _ u k => only_setCell (p := ⟨q, j, none⟩) k (.inl rfl) u) ps
theorem shtC_one (s : Sh) (a : Sa) : (shtC s a).all (·.oneCell') = true := by simp [shtC, Value.oneCell']
theorem hrdC_one (h : Hb) (p : Sa) (PA : Option Addr) (PC : Nat) (xs : List Ec) : (hrdC h p PA PC xs).all (·.oneCell') = true := by simp [hrdC, Value.oneCell']
theorem ecA_one (x : Ec) : (ecA x).all (·.oneCell') = true := by simp [ecA, Value.oneCell']
theorem info_Sht : (Try.prog.info? 29).map (·.size) = some 7 := by kernel_rfl
theorem info_Ent : (Try.prog.info? 46).map (·.size) = some 9 := by kernel_rfl
structure ShtAt (w : World) (g : Nat) (s : Sh) (a : Sa) : Prop where
  z0 : w.cell? ⟨g, 0, none⟩ = some (.int .u64 s.i)
  z1 : w.cell? ⟨g, 1, none⟩ = some (.int .u64 s.t)
  z2 : w.cell? ⟨g, 2, none⟩ = some (.slice a.A0 s.ns.length a.c0)
  z3 : w.cell? ⟨g, 3, none⟩ = some (.int .i64 s.lim)
  z4 : w.cell? ⟨g, 4, none⟩ = some (.int .u64 s.nxt)
  z5 : w.cell? ⟨g, 5, none⟩ = some (.slice a.A1 s.hs.length a.c1)
  z6 : w.cell? ⟨g, 6, none⟩ = some (.slice a.A2 s.ls.length a.c2)
theorem Blk.sht {w : World} {g : Nat} {T : TypeId} {s : Sh} {a : Sa} (k : Blk w g T (shtC s a)) : ShtAt w g s a := by
  constructor <;> (rw [k.cell]; rfl)
end Go.Proofs.Ytadkkhbbempaaaa

/- Lists of records, plain and in memory. -/
namespace Go.Proofs.Ytadkkhbbempaaaa
set_option maxRecDepth 100000
open Go.RowKit

/-! ### Plain -/
/-- The records of a log's entries. -/
def addL : Int → List En → List Rc
  | _, [] => []
  | i, e :: l => ⟨3, 0, 0, 0, i + 1, e, sh0⟩ :: addL (i + 1) l
theorem addL_app (i : Int) (l : List En) (e : En) : addL i (l ++ [e]) = addL i l ++ [⟨3, 0, 0, 0, i + l.length + 1, e, sh0⟩] := by
  induction l generalizing i with
  | nil => simp [addL]
  | cons x l ih =>
    rw [List.cons_append, addL, ih, addL, List.cons_append]
    congr 2
    simp only [List.length_cons, Rc.mk.injEq, true_and, and_true, List.cons.injEq]
    omega
theorem addL_length (i : Int) (l : List En) : (addL i l).length = l.length := by
  induction l generalizing i with
  | nil => rfl
  | cons x l ih => rw [addL, List.length_cons, ih, List.length_cons]
def base1 (h : Hrd) : List Rc := if h.bt > 0 then [⟨1, 0, h.bt, 0, 0, en0, sh0⟩] else []
def base2 (h : Hrd) : List Rc := base1 h ++ if h.tm > 0 then [⟨2, h.vt, 0, h.tm, 0, en0, sh0⟩] else []
/-- The records that make it. -/
def Hrd.base (h : Hrd) : List Rc := base2 h ++ addL h.sh.i h.log
theorem base2_length (h : Hrd) : (base2 h).length ≤ 2 := by
  unfold base2 base1
  split <;> split <;> simp

theorem sh0_wfB : sh0.Wf := ⟨⟨by decide, by decide⟩, ⟨by decide, by decide⟩, by decide, by decide, ⟨by decide, by decide⟩, (fun _ h => by cases h), (fun _ h => by cases h)⟩
theorem rc3_wf (J : Int) (e : En) (h0 : 0 ≤ J) (h1 : J < 18446744073709551616) (he : e.Wf) : Rc.Wf ⟨3, 0, 0, 0, J, e, sh0⟩ := ⟨(by show (Lit.int .i64 3).wf = true; decide), (by show (Lit.int .i64 0).wf = true; decide), (by show (0 : Int) ≤ 0 ∧ (0 : Int) < 18446744073709551616; decide), (by show (0 : Int) ≤ 0 ∧ (0 : Int) < 18446744073709551616; decide), ⟨h0, h1⟩, he, sh0_wfB⟩
/-! ### In memory -/
structure Rr where
  r : Rc
  a : Ra
def recL (x : Rr) : List Value := [.int .i64 x.r.k, .int .i64 x.r.v, .int .u64 x.r.bt, .int .u64 x.r.tm, .int .u64 x.r.ix, .int .u64 x.r.en.tm, .int .i64 x.r.en.k, .int .i64 x.r.en.n, .int .i64 x.r.en.t, .slice x.a.A x.r.en.l.length x.a.c, .int .u64 x.r.en.b, .int .u64 x.r.en.q, .int .u64 x.r.en.s, .int .u64 x.r.en.m, .int .u64 x.r.sh.i, .int .u64 x.r.sh.t, .slice x.a.s.A0 x.r.sh.ns.length x.a.s.c0, .int .i64 x.r.sh.lim, .int .u64 x.r.sh.nxt, .slice x.a.s.A1 x.r.sh.hs.length x.a.s.c1, .slice x.a.s.A2 x.r.sh.ls.length x.a.s.c2]
theorem recL_len (x : Rr) : (recL x).length = 21 := rfl
theorem recL_arr (x : Rr) : (recL x).toArray = recC x.r x.a := rfl
theorem recL_one (x : Rr) : ∀ u ∈ recL x, u.oneCell' = true := by
  have := recC_one x.r x.a
  rw [← recL_arr] at this
  simpa using this
theorem info_RecG : (Try.prog.info? 48).map (fun i => (i.zero, i.size, i.bytes)) = some (some (recV rc0 ra0), 21, 232) := by kernel_rfl
/-- Each place of a record's slices that hold something. -/
structure Rr.all (x : Rr) (P : Addr → Prop) : Prop where
  p : 0 < x.r.en.l.length → ∀ q, x.a.A = some q → P q
  p0 : 0 < x.r.sh.ns.length → ∀ q, x.a.s.A0 = some q → P q
  p1 : 0 < x.r.sh.hs.length → ∀ q, x.a.s.A1 = some q → P q
  p2 : 0 < x.r.sh.ls.length → ∀ q, x.a.s.A2 = some q → P q
theorem Rr.all.imp {x : Rr} {P Q : Addr → Prop} (h : x.all P) (hi : ∀ q, P q → Q q) : x.all Q := ⟨fun l q e => hi q (h.p l q e), fun l q e => hi q (h.p0 l q e), fun l q e => hi q (h.p1 l q e), fun l q e => hi q (h.p2 l q e)⟩
theorem ra0_all (r : Rc) (P : Addr → Prop) : (⟨r, ra0⟩ : Rr).all P := ⟨(fun _ _ e => by cases e), (fun _ _ e => by cases e), (fun _ _ e => by cases e), (fun _ _ e => by cases e)⟩
theorem Reads.past' {w w' : World} {s : Nat} {r : Option Nat} {A : Option Addr} {n : Nat} {xs : List Value} (h : Reads w w.heap.size s A n xs) (hg : w.grownBy w' r) (hne : 0 < n → ∀ x, A = some x → r ≠ some x.block) : Reads w' w'.heap.size s A n xs := by
  refine ⟨h.1, fun hn => ?_⟩
  obtain ⟨b, off, e, hb, hc⟩ := h.2 hn
  exact ⟨b, off, e, Nat.lt_of_lt_of_le hb hg.size, fun j u hu => (World.cell?_of_block (hg.block b hb (fun e2 => hne hn _ e e2.symm))).trans (hc j u hu)⟩
theorem Reads.lt {w : World} {s : Nat} {A : Option Addr} {n : Nat} {xs : List Value} (h : Reads w w.heap.size s A n xs) (hn : 0 < n) : ∀ q, A = some q → q.block < w.heap.size := by
  intro q e
  obtain ⟨b, off, e2, hb, _⟩ := h.2 hn
  rw [e] at e2
  injection e2 with e2
  subst e2
  exact hb
theorem InS.past' {α : Type} {f : α → List Value} {s : Nat} {w w' : World} {r : Option Nat} {A : Option Addr} {c : Nat} {l : List α} (h : InS f s w A c l) (hg : w.grownBy w' r) (hne : 0 < l.length → ∀ x, A = some x → r ≠ some x.block) : InS f s w' A c l := ⟨h.reads.past' hg hne, h.cap, h.small⟩
theorem InN.past' {k : IntKind} {w w' : World} {r : Option Nat} {A : Option Addr} {c : Nat} {l : List Int} (h : InN k w A c l) (hg : w.grownBy w' r) (hne : 0 < l.length → ∀ x, A = some x → r ≠ some x.block) : InN k w' A c l := ⟨h.reads.past' hg hne, h.wf, h.cap, h.small⟩
theorem InR.past {w w' : World} {x : Rr} {q : Option Nat} (h : InR w x.r x.a) (hg : w.grownBy w' q) (hne : x.all fun y => q ≠ some y.block) : InR w' x.r x.a :=
  ⟨h.l.past' hg hne.p, h.sh.n.past' hg hne.p0, h.sh.h.past' hg hne.p1, h.sh.l.past' hg hne.p2⟩
theorem InR.lt {w : World} {x : Rr} (h : InR w x.r x.a) : x.all fun y => y.block < w.heap.size :=
  ⟨fun l => h.l.reads.lt l, fun l => h.sh.n.reads.lt l, fun l => h.sh.h.reads.lt l, fun l => h.sh.l.reads.lt l⟩
theorem Rr.all.and {x : Rr} {P Q : Addr → Prop} (h : x.all P) (k : x.all Q) : x.all fun q => P q ∧ Q q := ⟨fun l q e => ⟨h.p l q e, k.p l q e⟩, fun l q e => ⟨h.p0 l q e, k.p0 l q e⟩, fun l q e => ⟨h.p1 l q e, k.p1 l q e⟩, fun l q e => ⟨h.p2 l q e, k.p2 l q e⟩⟩
/-- Records that are read: their row, and what each one's slices hold. -/
structure InRs (w : World) (A : Option Addr) (c : Nat) (rs : List Rr) : Prop where
  rows : InS recL 21 w A c rs
  inn : ∀ x ∈ rs, InR w x.r x.a
theorem InRs.keep {w w1 : World} {A : Option Addr} {c : Nat} {rs : List Rr} (h : InRs w A c rs) (hb : Below w.heap.size w w1) : InRs w1 A c rs := ⟨h.rows.keep hb, fun x hx => (h.inn x hx).keep hb⟩
/-- Records while they are laid, one behind the other. -/
structure Rs1 (w : World) (B : Nat) (v : Value) (rs : List Rr) : Prop where
  row : w.ownsRow B 48 21 v rs.length (rs.flatMap recL)
  inn : ∀ x ∈ rs, InR w x.r x.a
  own : ∀ x ∈ rs, x.all fun q => v.ownBlock ≠ some q.block
theorem Rs1.nil (w : World) (B : Nat) : Rs1 w B (.slice none 0 0) [] := ⟨own_nil _ _ _ _, (fun x hx => by cases hx), (fun x hx => by cases hx)⟩
theorem Rs1.below {w w1 : World} {B : Nat} {v : Value} {rs : List Rr} (h : Rs1 w B v rs) (hb : Below w.heap.size w w1) : Rs1 w1 B v rs :=
  ⟨own_below h.row hb, fun x hx => (h.inn x hx).keep hb, h.own⟩
theorem Rs1.drew {w : World} {B : Nat} {v : Value} {rs : List Rr} (h : Rs1 w B v rs) : Rs1 w.drew B v rs := h.below ((Below.refl w.heap.size w).drew)
theorem Rs1.push {w w1 : World} {B : Nat} {v v1 : Value} {rs : List Rr} {y : Rr} (h : Rs1 w B v rs) (hr : w1.ownsRow B 48 21 v1 (rs ++ [y]).length ((rs ++ [y]).flatMap recL)) (hg : w.grownBy w1 v.ownBlock) (hat : v1.ownBlock = v.ownBlock ∨ ∃ b, v1.ownBlock = some b ∧ w.heap.size ≤ b)
    (hy : InR w y.r y.a) (ho : y.all fun q => v.ownBlock ≠ some q.block) : Rs1 w1 B v1 (rs ++ [y]) := by
  have hne : ∀ q : Addr, v.ownBlock ≠ some q.block ∧ q.block < w.heap.size → v1.ownBlock ≠ some q.block := by
    intro q ⟨h1, h2⟩ h3
    rcases hat with e | ⟨b, e, hb⟩
    · exact h1 (e.symm.trans h3)
    · rw [e] at h3
      injection h3 with h3
      omega
  have hall : ∀ x ∈ rs ++ [y], InR w x.r x.a ∧ x.all fun q => v.ownBlock ≠ some q.block := by
    intro x hx
    rcases List.mem_append.1 hx with q | q
    · exact ⟨h.inn x q, h.own x q⟩
    · rw [List.mem_singleton] at q
      subst q
      exact ⟨hy, ho⟩
  exact ⟨hr, fun x hx => (hall x hx).1.past hg (hall x hx).2, fun x hx => ((hall x hx).2.and (hall x hx).1.lt).imp hne⟩
theorem Rs1.open {w : World} {B : Nat} {v : Value} {rs : List Rr} (h : Rs1 w B v rs) (hs : rs.length ≤ 100000000) : ∃ A c, v = .slice A rs.length c ∧ InRs w A c rs := by
  obtain ⟨A, c, rfl, hc, _, hr⟩ := own_open h.row
  exact ⟨A, c, rfl, ⟨hr, hc, by omega⟩, h.inn⟩
/-- append(v, x) of one struct, in a region that keeps its order. -/
theorem wpList_oneG {α : Type} {f : α → List Value} {s bytes : Nat} {T E : TypeId} {z0 : Value} {W : World} (hT : Try.prog.underlying T = some (.slice E)) (hinfo : (Try.prog.info? E).map (fun i => (i.zero, i.size, i.bytes)) = some (some z0, s, bytes)) (hz : z0.cells.size = s) (hs0 : 0 < s) (hfl : ∀ x, (f x).length = s) (hone : ∀ x, ∀ u ∈ f x, u.oneCell' = true)
    {ops : Array Oper} {rest : List Oper} {o : Oper} {a : Act} {Q : Exit → Act → World → Prop} {cs : Array Value} (base : Nat) (hgd : o.guard = none) (sx x : Operand)
    (ho : o.op = .call { callee := .builtin .append, args := #[sx, x], argTypes := #[T, T] })
    (v : Value) (l : List α) (y : α) (hs : a.eval sx = v) (hcs : cs = (f y).toArray) (hx : a.eval x = .slice (some ⟨W.heap.size, 0, none⟩) 1 1) (HO : W.ownsRow base E s v l.length (l.flatMap f)) (hbase : base ≤ W.heap.size) (hl : (l.length + 1) * bytes ≤ 140737488355328) (hb1 : 1 ≤ bytes)
    (h : ∀ v1 w1, w1.ownsRow base E s v1 (l ++ [y]).length ((l ++ [y]).flatMap f) → W.grownBy w1 v.ownBlock → (v1.ownBlock = v.ownBlock ∨ ∃ b, v1.ownBlock = some b ∧ W.heap.size ≤ b) → wpList Try.prog ops Q rest (a.put o.dst v1) w1) :
    wpList Try.prog ops Q (o :: rest) a (W.alloc (.cells cs E)) := by
  have hr : Reads (W.alloc (.cells cs E)) (W.heap.size + 1) s (some ⟨W.heap.size, 0, none⟩) 1 (f y) := by
    subst hcs
    refine ⟨by rw [hfl, Nat.one_mul], fun _ => ⟨W.heap.size, 0, rfl, by omega, fun j u hu => ?_⟩⟩
    rw [Nat.zero_add, World.cell?_alloc_mark]
    simpa using hu
  obtain ⟨i0, hi, hz0, hz1, hz2⟩ := info_parts hinfo
  have hO := World.ownsRow.alloc HO (.cells cs E)
  have hlen : l.length + 1 ≤ (l.length + 1) * bytes := Nat.le_mul_of_pos_right _ hb1
  refine wpList_append_any _ hgd sx x T ho base E i0 z0 s bytes hT hi hz0 hz1 hz2 hz hs0 v l.length (l.flatMap f) hs hO (W.heap.size + 1) _ _ _ (f y) hx hr (hone y) (by simp only [maxLen]; omega) hl (by simp; omega) ?_
  intro v1 w1 ho1 hg hat
  refine h v1 w1 ?_ (World.grownBy.trans (World.grownBy_alloc W _ _) hg) ?_
  · rw [List.length_append, List.length_singleton, List.flatMap_append, List.flatMap_singleton]
    exact ho1
  · rcases hat with hat | hat
    · exact .inl hat
    · exact .inr ⟨_, hat, by simp⟩
end Go.Proofs.Ytadkkhbbempaaaa

/- Records in new memory: the document's CopyRec. -/
namespace Go.Proofs.Ytadkkhbbempaaaa
set_option maxRecDepth 100000
open Go.RowKit

set_option maxHeartbeats 8000000 in
theorem r13_CopyRec_any (w : World) (r : Rc) (a : Ra) (hin : InR w r a) (wf : r.Wf) :
    Calls Try.prog 20 #[recV r a] w fun e w' => ∃ a', e = .returned (recV r a') ∧ InR w' r a' ∧ (⟨r, a'⟩ : Rr).all (fun q => w.heap.size ≤ q.block) ∧ Below w.heap.size w w' := by
  obtain ⟨g, hg⟩ : ∃ g, w.heap.size = g := ⟨_, rfl⟩
  rw [hg]
  obtain ⟨gr, hgr⟩ : ∃ gr, g + 1 = gr := ⟨_, rfl⟩
  have hBx : Below g w ((w.alloc (.cells (recC r a) 48)).alloc (.cells (recC rc0 ra0) 48)) := ((Below.refl _ _).alloc (by omega) _).alloc (by simp; omega) _
  have hsz : (w.alloc (.cells (recC r a) 48)).heap.size = gr := by simp [hg, hgr]
  have hb1 : Blk ((w.alloc (.cells (recC r a) 48)).alloc (.cells (recC rc0 ra0) 48)) g 48 (recC r a) := (hg ▸ Blk.new w 48 (recC r a) : Blk (w.alloc (.cells (recC r a) 48)) g 48 (recC r a)).alloc _
  have hr1 : Blk ((w.alloc (.cells (recC r a) 48)).alloc (.cells (recC rc0 ra0) 48)) gr 48 (recC rc0 ra0) := hsz ▸ Blk.new _ _ _
  have hz1 : g + 2 ≤ ((w.alloc (.cells (recC r a) 48)).alloc (.cells (recC rc0 ra0) 48)).heap.size := by simp [hg]
  have hne : gr ≠ g := by omega
  have HIN := Lib.hid hin
  have C1 := fun W (k : InN .i64 W a.A a.c r.en.l) => ref_Copy_own W r.en.k r.en.n r.en.t a.A a.c r.en.l r.en.b r.en.q r.en.s r.en.m k wf.en.l
  have C2 := fun W (k : InSh W r.sh a.s) => r06_Copy_any W r.sh.i r.sh.t a.s.A0 a.s.c0 r.sh.ns r.sh.lim r.sh.nxt a.s.A1 a.s.c1 r.sh.hs a.s.A2 a.s.c2 r.sh.ls k.n wf.sh.ns k.h k.l
  unfold cmdV at C1
  unfold shV at C2
  have D1 := Lib.hid C1
  have D2 := Lib.hid C2
  clear hsz hin wf C1 C2
  unfold recV
  go_enter Try.func20, Try.ntmps20
  go_upto_region 1 with (fail)
  change Code.wp _ _ _ _ ((w.alloc (.cells (recC r a) 48)).alloc (.cells (recC rc0 ra0) 48))
  generalize ((w.alloc (.cells (recC r a) 48)).alloc (.cells (recC rc0 ra0) 48)) = W at hb1 hr1 hz1 hBx ⊢
  try rw [hgr]
  have HB := Lib.hid hBx
  have HR := Lib.hid hr1
  have HK := Lib.hid hb1
  have X1 := Lib.hid (D1.out W (HIN.out.l.keep (hg ▸ hBx)))
  obtain ⟨z0, z1, z2, z3, z4, z5, z6, z7, z8, z9, z10, z11, z12, z13, z14, z15, z16, z17, z18, z19, z20⟩ := hb1.rc
  clear hb1 hr1 hBx D1
  go_wp2_with fail
  refine X1.out.mono ?_
  rintro e w1 ⟨A1, c1, rfl, hi1, ho1, hB1⟩
  have hb2 := HK.out.below hB1 HK.out.lt
  have hr2 := HR.out.below hB1 HR.out.lt
  have hbel2 := HB.out.trans (hB1.mono (Nat.le_of_lt HK.out.lt))
  have hI1 : OwI w1 (g + 2) A1 c1 r.en.l := ⟨hi1, fun q e => Nat.le_trans hz1 (ho1 q e).1⟩
  have hz2 : g + 2 ≤ w1.heap.size := Nat.le_trans hz1 hB1.size
  clear z0 z1 z2 z3 z4 z5 z6 z7 z8 z9 z10 z11 z12 z13 z14 z15 z16 z17 z18 z19 z20 X1 hi1 ho1 hB1 HB HR HK hz1
  obtain ⟨z0, z1, z2, z3, z4, z5, z6, z7, z8, z9, z10, z11, z12, z13, z14, z15, z16, z17, z18, z19, z20⟩ := hb2.rc
  have y6 := hb2.frozen 6
  have y7 := hb2.frozen 7
  have y8 := hb2.frozen 8
  have y9 := hb2.frozen 9
  have y10 := hb2.frozen 10
  have y11 := hb2.frozen 11
  have y12 := hb2.frozen 12
  have y13 := hb2.frozen 13
  have hg3 := sets_grown (w := w1) g [(6, Value.int .i64 r.en.k), (7, .int .i64 r.en.n), (8, .int .i64 r.en.t), (9, .slice A1 r.en.l.length c1), (10, .int .u64 r.en.b), (11, .int .u64 r.en.q), (12, .int .u64 r.en.s), (13, .int .u64 r.en.m)]
  have hb3 : Blk (setsW w1 g [(6, Value.int .i64 r.en.k), (7, .int .i64 r.en.n), (8, .int .i64 r.en.t), (9, .slice A1 r.en.l.length c1), (10, .int .u64 r.en.b), (11, .int .u64 r.en.q), (12, .int .u64 r.en.s), (13, .int .u64 r.en.m)]) g 48 (recC r ⟨A1, c1, a.s⟩) := setsW_blk (l := [Value.int .i64 r.k, .int .i64 r.v, .int .u64 r.bt, .int .u64 r.tm, .int .u64 r.ix, .int .u64 r.en.tm, .int .i64 r.en.k, .int .i64 r.en.n, .int .i64 r.en.t, .slice a.A r.en.l.length a.c, .int .u64 r.en.b, .int .u64 r.en.q, .int .u64 r.en.s, .int .u64 r.en.m, .int .u64 r.sh.i, .int .u64 r.sh.t, .slice a.s.A0 r.sh.ns.length a.s.c0, .int .i64 r.sh.lim, .int .u64 r.sh.nxt, .slice a.s.A1 r.sh.hs.length a.s.c1, .slice a.s.A2 r.sh.ls.length a.s.c2]) hb2 _
  have hr3 := setsW_far hr2 hne [(6, Value.int .i64 r.en.k), (7, .int .i64 r.en.n), (8, .int .i64 r.en.t), (9, .slice A1 r.en.l.length c1), (10, .int .u64 r.en.b), (11, .int .u64 r.en.q), (12, .int .u64 r.en.s), (13, .int .u64 r.en.m)]
  have hbel3 := setsW_below hbel2 (Nat.le_refl g) [(6, Value.int .i64 r.en.k), (7, .int .i64 r.en.n), (8, .int .i64 r.en.t), (9, .slice A1 r.en.l.length c1), (10, .int .u64 r.en.b), (11, .int .u64 r.en.q), (12, .int .u64 r.en.s), (13, .int .u64 r.en.m)]
  have hI3 := hI1.past hg3 (by omega)
  have hz3 : g + 2 ≤ (setsW w1 g [(6, Value.int .i64 r.en.k), (7, .int .i64 r.en.n), (8, .int .i64 r.en.t), (9, .slice A1 r.en.l.length c1), (10, .int .u64 r.en.b), (11, .int .u64 r.en.q), (12, .int .u64 r.en.s), (13, .int .u64 r.en.m)]).heap.size := by rw [setsW_size]; exact hz2
  go_upto_region 2 with (fail)
  change Code.wp _ _ _ _ (setsW w1 g [(6, Value.int .i64 r.en.k), (7, .int .i64 r.en.n), (8, .int .i64 r.en.t), (9, .slice A1 r.en.l.length c1), (10, .int .u64 r.en.b), (11, .int .u64 r.en.q), (12, .int .u64 r.en.s), (13, .int .u64 r.en.m)])
  generalize (setsW w1 g [(6, Value.int .i64 r.en.k), (7, .int .i64 r.en.n), (8, .int .i64 r.en.t), (9, .slice A1 r.en.l.length c1), (10, .int .u64 r.en.b), (11, .int .u64 r.en.q), (12, .int .u64 r.en.s), (13, .int .u64 r.en.m)]) = W3 at hb3 hr3 hbel3 hI3 hz3 ⊢
  clear z0 z1 z2 z3 z4 z5 z6 z7 z8 z9 z10 z11 z12 z13 z14 z15 z16 z17 z18 z19 z20 y6 y7 y8 y9 y10 y11 y12 y13 hb2 hr2 hbel2 hI1 hz2 hg3
  have HB := Lib.hid hbel3
  have HR := Lib.hid hr3
  have HK := Lib.hid hb3
  have HI3 := Lib.hid hI3
  have X2 := Lib.hid (D2.out W3 (HIN.out.sh.keep (hg ▸ hbel3)))
  obtain ⟨z0, z1, z2, z3, z4, z5, z6, z7, z8, z9, z10, z11, z12, z13, z14, z15, z16, z17, z18, z19, z20⟩ := hb3.rc
  clear hb3 hr3 hbel3 D2 hI3
  go_wp2_with fail
  refine X2.out.mono ?_
  rintro e w4 ⟨A4, c4, A5, c5, A6, c6, rfl, hs4, hB4⟩
  obtain ⟨q, hq⟩ : ∃ q : Sa, q = ⟨A4, c4, A5, c5, A6, c6⟩ := ⟨_, rfl⟩
  obtain ⟨rfl, rfl, rfl, rfl, rfl, rfl⟩ : q.A0 = A4 ∧ q.c0 = c4 ∧ q.A1 = A5 ∧ q.c1 = c5 ∧ q.A2 = A6 ∧ q.c2 = c6 := by subst hq; exact ⟨rfl, rfl, rfl, rfl, rfl, rfl⟩
  have hb5 := HK.out.below hB4 HK.out.lt
  have hr5 := HR.out.below hB4 HR.out.lt
  have hbel5 := HB.out.trans (hB4.mono (Nat.le_of_lt HK.out.lt))
  have hI5 := HI3.out.keep hB4
  have hS5 := hs4.lower hz3
  clear z0 z1 z2 z3 z4 z5 z6 z7 z8 z9 z10 z11 z12 z13 z14 z15 z16 z17 z18 z19 z20 X2 hs4 hB4 HB HR HK hq HI3 hz3
  obtain ⟨z0, z1, z2, z3, z4, z5, z6, z7, z8, z9, z10, z11, z12, z13, z14, z15, z16, z17, z18, z19, z20⟩ := hb5.rc
  have y14 := hb5.frozen 14
  have y15 := hb5.frozen 15
  have y16 := hb5.frozen 16
  have y17 := hb5.frozen 17
  have y18 := hb5.frozen 18
  have y19 := hb5.frozen 19
  have y20 := hb5.frozen 20
  have hg6 := sets_grown (w := w4) g [(14, Value.int .u64 r.sh.i), (15, .int .u64 r.sh.t), (16, .slice q.A0 r.sh.ns.length q.c0), (17, .int .i64 r.sh.lim), (18, .int .u64 r.sh.nxt), (19, .slice q.A1 r.sh.hs.length q.c1), (20, .slice q.A2 r.sh.ls.length q.c2)]
  have hb6 : Blk (setsW w4 g [(14, Value.int .u64 r.sh.i), (15, .int .u64 r.sh.t), (16, .slice q.A0 r.sh.ns.length q.c0), (17, .int .i64 r.sh.lim), (18, .int .u64 r.sh.nxt), (19, .slice q.A1 r.sh.hs.length q.c1), (20, .slice q.A2 r.sh.ls.length q.c2)]) g 48 (recC r ⟨A1, c1, q⟩) := setsW_blk (l := [Value.int .i64 r.k, .int .i64 r.v, .int .u64 r.bt, .int .u64 r.tm, .int .u64 r.ix, .int .u64 r.en.tm, .int .i64 r.en.k, .int .i64 r.en.n, .int .i64 r.en.t, .slice A1 r.en.l.length c1, .int .u64 r.en.b, .int .u64 r.en.q, .int .u64 r.en.s, .int .u64 r.en.m, .int .u64 r.sh.i, .int .u64 r.sh.t, .slice a.s.A0 r.sh.ns.length a.s.c0, .int .i64 r.sh.lim, .int .u64 r.sh.nxt, .slice a.s.A1 r.sh.hs.length a.s.c1, .slice a.s.A2 r.sh.ls.length a.s.c2]) hb5 _
  have hr6 := setsW_far hr5 hne [(14, Value.int .u64 r.sh.i), (15, .int .u64 r.sh.t), (16, .slice q.A0 r.sh.ns.length q.c0), (17, .int .i64 r.sh.lim), (18, .int .u64 r.sh.nxt), (19, .slice q.A1 r.sh.hs.length q.c1), (20, .slice q.A2 r.sh.ls.length q.c2)]
  have HB6 := Lib.hid (setsW_below hbel5 (Nat.le_refl g) [(14, Value.int .u64 r.sh.i), (15, .int .u64 r.sh.t), (16, .slice q.A0 r.sh.ns.length q.c0), (17, .int .i64 r.sh.lim), (18, .int .u64 r.sh.nxt), (19, .slice q.A1 r.sh.hs.length q.c1), (20, .slice q.A2 r.sh.ls.length q.c2)])
  have HI6 := Lib.hid (hI5.past hg6 (by omega))
  have HS6 := Lib.hid (hS5.past hg6 (by omega))
  go_upto_region 3 with (fail)
  change Code.wp _ _ _ _ (setsW w4 g [(14, Value.int .u64 r.sh.i), (15, .int .u64 r.sh.t), (16, .slice q.A0 r.sh.ns.length q.c0), (17, .int .i64 r.sh.lim), (18, .int .u64 r.sh.nxt), (19, .slice q.A1 r.sh.hs.length q.c1), (20, .slice q.A2 r.sh.ls.length q.c2)])
  generalize (setsW w4 g [(14, Value.int .u64 r.sh.i), (15, .int .u64 r.sh.t), (16, .slice q.A0 r.sh.ns.length q.c0), (17, .int .i64 r.sh.lim), (18, .int .u64 r.sh.nxt), (19, .slice q.A1 r.sh.hs.length q.c1), (20, .slice q.A2 r.sh.ls.length q.c2)]) = W6 at hb6 hr6 HB6 HI6 HS6 ⊢
  clear z0 z1 z2 z3 z4 z5 z6 z7 z8 z9 z10 z11 z12 z13 z14 z15 z16 z17 z18 z19 z20 y14 y15 y16 y17 y18 y19 y20 hb5 hr5 hbel5 hI5 hS5 hg6
  have HR := Lib.hid hr6
  clear hr6
  go_wp2_with (first | (refine wpList_load_row rfl 48 _ rfl g rfl 48 (recC r ⟨A1, c1, q⟩) hb6 _ Try.underlying48 rfl info_Rec ?_) | refine wpList_store_row rfl 48 _ _ rfl gr (recC r ⟨A1, c1, q⟩) rfl rfl 48 (recC rc0 ra0) HR.out info_Rec rfl (recC_one _ _) ?_)
  (try simp only [Exit.inBlock, Exit.then])
  refine bodyPost_ret (results_cell1 rfl rfl (run_loadVar_row _ gr 48 48 _ (0, 0) _ (Blk.row (cs := recC r ⟨A1, c1, q⟩) HR.out) Try.underlying48 rfl info_Rec)) rfl ?_
  have hI9 := HI6.out.past (row_grown gr (recC r ⟨A1, c1, q⟩)) (by omega)
  have hS9 := HS6.out.past (row_grown gr (recC r ⟨A1, c1, q⟩)) (by omega)
  exact ⟨⟨A1, c1, q⟩, rfl, ⟨hI9.inn, ⟨hS9.hn.inn, hS9.led.hh.inn, hS9.led.hl.inn⟩⟩, ⟨(fun _ x e => by have := hI9.own x e; show g ≤ x.block; omega), (fun _ x e => by have := hS9.hn.own x e; show g ≤ x.block; omega), (fun _ x e => by have := hS9.led.hh.own x e; show g ≤ x.block; omega), (fun _ x e => by have := hS9.led.hl.own x e; show g ≤ x.block; omega)⟩, row_below HB6.out (by omega) _⟩
end Go.Proofs.Ytadkkhbbempaaaa

/- slices.Clone of rows of structs. -/
namespace Go.Proofs.Ytadkkhbbempaaaa
set_option maxRecDepth 100000
open Go.RowKit

theorem own_emptyS (W : World) (base : Nat) (e : TypeId) (s : Nat) (hb : base ≤ W.heap.size) : (W.alloc (.cells #[] e)).ownsRow base e s (.slice (some ⟨W.heap.size, 0, none⟩) 0 0) 0 [] :=
  ⟨by simp, .inr ⟨W.heap.size, 0, #[], rfl, hb, heap_alloc_new W _, by simp, by unfold maxLen; omega, by simp, by simp⟩⟩
theorem len_none {α : Type} {f : α → List Value} {s : Nat} {w : World} {c : Nat} {l : List α} (h : InS f s w none c l) : l = [] := by
  rcases Nat.eq_zero_or_pos l.length with h0 | h0
  · exact List.eq_nil_of_length_eq_zero h0
  · obtain ⟨b, off, e, _⟩ := h.reads.2 h0
    cases e

set_option maxHeartbeats 1000000 in
theorem clone_Entry (w : World) (A : Option Addr) (c : Nat) (l : List Ec) (h : InS ecC 9 w A c l) (hs : l.length * 88 ≤ 140737488355328) :
    Calls Try.prog 76 #[.slice A l.length c] w fun e w' => ∃ A' c', e = .returned (.slice A' l.length c') ∧ OwS ecC 9 w' w.heap.size A' c' l ∧ Below w.heap.size w w' := by
  have q22 : ∀ (w : World) (a : Option Addr) (n c n' c' : Nat), (binOp .eql 30 (.slice a n c) (.slice none n' c')).run Try.prog w = .ok (.bool a.isNone) w := fun w a n c n' c' => Lib.run_eql_slice_nil w _ _ a n c n' c' Try.underlying30
  cases A with
  | none =>
    have hnil := len_none h
    subst hnil
    clear h hs
    go_enter Try.func76, Try.ntmps76
    go_wp2
    go_ret
    exact ⟨none, 0, rfl, ⟨InS.nil, fun b e => by cases e⟩, Below.refl _ _⟩
  | some ad =>
    have HIN := Lib.hid h
    have hcap := h.cap
    clear h
    have HOE := Lib.hid (own_emptyS w w.heap.size 46 9 (Nat.le_refl _))
    have hB0 : Below w.heap.size w (w.alloc (.cells #[] 46)) := (Below.refl _ _).alloc (Nat.le_refl _) _
    have HB0 := Lib.hid hB0
    have HR := Lib.hid (HIN.out.keep hB0).reads
    clear hB0
    go_enter Try.func76, Try.ntmps76
    go_wp2_with (at_builtin; refine app_own (w0 := w) w.heap.size rfl _ _ 30 46 _ 88 rfl Try.underlying30 9 info_Entry rfl (by omega) (by omega) _ [] 0 rfl _ _ _ _ (l.flatMap ecC) rfl HOE.out HR.out (flat_one ecC_one l) HB0.out HB0.out.size (by omega) ?_; intro v1 w1 ho1 hB1 _ _; obtain ⟨A1, c1, rfl, hin1⟩ := OwS.of (f := ecC) (l := l) (by simpa using ho1) (by omega); have HO1 := Lib.hid hin1; have HB1 := Lib.hid hB1; clear ho1 hB1 hin1)
    go_ret
    exact ⟨A1, c1, rfl, HO1.out, HB1.out⟩

set_option maxHeartbeats 1000000 in
theorem clone_Held (w : World) (A : Option Addr) (c : Nat) (l : List Hd) (h : InS hdC 5 w A c l) (hs : l.length * 40 ≤ 140737488355328) :
    Calls Try.prog 100 #[.slice A l.length c] w fun e w' => ∃ A' c', e = .returned (.slice A' l.length c') ∧ OwS hdC 5 w' w.heap.size A' c' l ∧ Below w.heap.size w w' := by
  have q22 : ∀ (w : World) (a : Option Addr) (n c n' c' : Nat), (binOp .eql 24 (.slice a n c) (.slice none n' c')).run Try.prog w = .ok (.bool a.isNone) w := fun w a n c n' c' => Lib.run_eql_slice_nil w _ _ a n c n' c' Try.underlying24
  cases A with
  | none =>
    have hnil := len_none h
    subst hnil
    clear h hs
    go_enter Try.func100, Try.ntmps100
    go_wp2
    go_ret
    exact ⟨none, 0, rfl, ⟨InS.nil, fun b e => by cases e⟩, Below.refl _ _⟩
  | some ad =>
    have HIN := Lib.hid h
    have hcap := h.cap
    clear h
    have HOE := Lib.hid (own_emptyS w w.heap.size 98 5 (Nat.le_refl _))
    have hB0 : Below w.heap.size w (w.alloc (.cells #[] 98)) := (Below.refl _ _).alloc (Nat.le_refl _) _
    have HB0 := Lib.hid hB0
    have HR := Lib.hid (HIN.out.keep hB0).reads
    clear hB0
    go_enter Try.func100, Try.ntmps100
    go_wp2_with (at_builtin; refine app_own (w0 := w) w.heap.size rfl _ _ 24 98 _ 40 rfl Try.underlying24 5 info_Held rfl (by omega) (by omega) _ [] 0 rfl _ _ _ _ (l.flatMap hdC) rfl HOE.out HR.out (flat_one hdC_one l) HB0.out HB0.out.size (by omega) ?_; intro v1 w1 ho1 hB1 _ _; obtain ⟨A1, c1, rfl, hin1⟩ := OwS.of (f := hdC) (l := l) (by simpa using ho1) (by omega); have HO1 := Lib.hid hin1; have HB1 := Lib.hid hB1; clear ho1 hB1 hin1)
    go_ret
    exact ⟨A1, c1, rfl, HO1.out, HB1.out⟩

set_option maxHeartbeats 1000000 in
theorem clone_Last (w : World) (A : Option Addr) (c : Nat) (l : List Ls) (h : InS lsC 6 w A c l) (hs : l.length * 48 ≤ 140737488355328) :
    Calls Try.prog 101 #[.slice A l.length c] w fun e w' => ∃ A' c', e = .returned (.slice A' l.length c') ∧ OwS lsC 6 w' w.heap.size A' c' l ∧ Below w.heap.size w w' := by
  have q22 : ∀ (w : World) (a : Option Addr) (n c n' c' : Nat), (binOp .eql 25 (.slice a n c) (.slice none n' c')).run Try.prog w = .ok (.bool a.isNone) w := fun w a n c n' c' => Lib.run_eql_slice_nil w _ _ a n c n' c' Try.underlying25
  cases A with
  | none =>
    have hnil := len_none h
    subst hnil
    clear h hs
    go_enter Try.func101, Try.ntmps101
    go_wp2
    go_ret
    exact ⟨none, 0, rfl, ⟨InS.nil, fun b e => by cases e⟩, Below.refl _ _⟩
  | some ad =>
    have HIN := Lib.hid h
    have hcap := h.cap
    clear h
    have HOE := Lib.hid (own_emptyS w w.heap.size 123 6 (Nat.le_refl _))
    have hB0 : Below w.heap.size w (w.alloc (.cells #[] 123)) := (Below.refl _ _).alloc (Nat.le_refl _) _
    have HB0 := Lib.hid hB0
    have HR := Lib.hid (HIN.out.keep hB0).reads
    clear hB0
    go_enter Try.func101, Try.ntmps101
    go_wp2_with (at_builtin; refine app_own (w0 := w) w.heap.size rfl _ _ 25 123 _ 48 rfl Try.underlying25 6 info_Last rfl (by omega) (by omega) _ [] 0 rfl _ _ _ _ (l.flatMap lsC) rfl HOE.out HR.out (flat_one lsC_one l) HB0.out HB0.out.size (by omega) ?_; intro v1 w1 ho1 hB1 _ _; obtain ⟨A1, c1, rfl, hin1⟩ := OwS.of (f := lsC) (l := l) (by simpa using ho1) (by omega); have HO1 := Lib.hid hin1; have HB1 := Lib.hid hB1; clear ho1 hB1 hin1)
    go_ret
    exact ⟨A1, c1, rfl, HO1.out, HB1.out⟩
end Go.Proofs.Ytadkkhbbempaaaa

/- What lasts in memory of its own: the code's cloneShot. -/
namespace Go.Proofs.Ytadkkhbbempaaaa
set_option maxRecDepth 100000
open Go.RowKit

set_option maxHeartbeats 8000000 in
theorem hard_cloneShot_any (w : World) (s : Sh) (a : Sa) (hin : InSh w s a) (wf : s.Wf) :
    Calls Try.prog 78 #[shtV s a] w fun e w' => ∃ q, e = .returned (shtV s q) ∧ ShIn w' w.heap.size q.A0 q.c0 s.ns q.A1 q.c1 s.hs q.A2 q.c2 s.ls ∧ Below w.heap.size w w' := by
  obtain ⟨g, hg⟩ : ∃ g, w.heap.size = g := ⟨_, rfl⟩
  rw [hg]
  obtain ⟨gr, hgr⟩ : ∃ gr, g + 1 = gr := ⟨_, rfl⟩
  have hBx : Below g w ((w.alloc (.cells (shtC s a) 29)).alloc (.cells (shtC sh0 sa0) 29)) := ((Below.refl _ _).alloc (by omega) _).alloc (by simp; omega) _
  have hsz : (w.alloc (.cells (shtC s a) 29)).heap.size = gr := by simp [hg, hgr]
  have hb1 : Blk ((w.alloc (.cells (shtC s a) 29)).alloc (.cells (shtC sh0 sa0) 29)) g 29 (shtC s a) := (hg ▸ Blk.new w 29 (shtC s a) : Blk (w.alloc (.cells (shtC s a) 29)) g 29 (shtC s a)).alloc _
  have hr1 : Blk ((w.alloc (.cells (shtC s a) 29)).alloc (.cells (shtC sh0 sa0) 29)) gr 29 (shtC sh0 sa0) := hsz ▸ Blk.new _ _ _
  have hz1 : ((w.alloc (.cells (shtC s a) 29)).alloc (.cells (shtC sh0 sa0) 29)).heap.size = g + 2 := by simp [hg]
  have HIN := Lib.hid hin
  have C1 := fun W (k : InN .i64 W a.A0 a.c0 s.ns) => clone_any W a.A0 a.c0 s.ns k wf.ns
  have C2 := fun W (k : InS hdC 5 W a.A1 a.c1 s.hs) => clone_Held W a.A1 a.c1 s.hs k (by have := k.small; omega)
  have C3 := fun W (k : InS lsC 6 W a.A2 a.c2 s.ls) => clone_Last W a.A2 a.c2 s.ls k (by have := k.small; omega)
  have C1 := Lib.hid C1
  have C2 := Lib.hid C2
  have C3 := Lib.hid C3
  clear hsz hin wf
  unfold shtV
  go_enter Try.func78, Try.ntmps78
  go_upto_region 1 with (fail)
  change Code.wp _ _ _ _ ((w.alloc (.cells (shtC s a) 29)).alloc (.cells (shtC sh0 sa0) 29))
  generalize ((w.alloc (.cells (shtC s a) 29)).alloc (.cells (shtC sh0 sa0) 29)) = W at hb1 hr1 hz1 hBx ⊢
  try rw [hgr]
  have HB0 := Lib.hid hBx.drew
  have HB := Lib.hid hb1.drew
  have HR := Lib.hid hr1.drew
  obtain ⟨z0, z1, z2, z3, z4, z5, z6⟩ := hb1.sht
  have hz : g + 2 ≤ W.drew.heap.size := by show _ ≤ W.heap.size; omega
  have HZ := Lib.hid hz
  have hgr1 : g < gr := by omega
  have X1 := Lib.hid (C1.out W.drew (HIN.out.n.keep (hg ▸ HB0.out)))
  clear hBx hb1 hr1 hz1 hz C1
  go_wp2_with fail
  go_region_law (first
    | (go_simp; go_at_call 77; refine X1.out.mono ?_; rintro e w1 ⟨A0, c0, rfl, hc1, hB1⟩; have HC1 := Lib.hid hc1; have HBl1 := Lib.hid hB1; have hb1 := HB.out.below hB1 (by have := HZ.out; omega); obtain ⟨_, _, z2', _, _, z5', z6'⟩ := hb1.sht; have X2 := Lib.hid (C2.out w1 (HIN.out.h.keep (hg ▸ HB0.out.trans (hB1.mono (by have := HZ.out; omega))))); clear hb1 hc1 hB1)
    | (go_simp; go_at_call 100; refine X2.out.mono ?_; rintro e w2 ⟨A1, c1, rfl, hc2, hB2⟩; have HC2 := Lib.hid hc2; have HBl2 := Lib.hid hB2; have hBl := HBl1.out.trans (hB2.mono HBl1.out.size); have hb2 := HB.out.below hBl (by have := HZ.out; omega); obtain ⟨_, _, z2'', _, _, z5'', z6''⟩ := hb2.sht; have X3 := Lib.hid (C3.out w2 (HIN.out.l.keep (hg ▸ HB0.out.trans (hBl.mono (by have := HZ.out; omega))))); clear hb2 hc2 hB2 hBl)
    | (go_simp; go_at_call 101; refine X3.out.mono ?_; rintro e w3 ⟨A2, c2, rfl, hc3, hB3⟩; have HC3 := Lib.hid hc3; have HBl3 := Lib.hid hB3; have hBl := HBl1.out.trans ((HBl2.out.trans (hB3.mono HBl2.out.size)).mono HBl1.out.size); have hb3 := HB.out.below hBl (by have := HZ.out; omega); obtain ⟨_, _, y2, _, _, y5, y6⟩ := hb3.sht; have f2 := hb3.frozen 2; have f5 := hb3.frozen 5; have f6 := hb3.frozen 6; clear hb3 hc3 hB3 hBl))
  all_goals
    have hBl := HBl1.out.trans ((HBl2.out.trans (HBl3.out.mono HBl2.out.size)).mono HBl1.out.size)
    have hgl : g < W.drew.heap.size := by have := HZ.out; omega
    have hrl : gr < W.drew.heap.size := by have := HZ.out; omega
    have hb3 := HB.out.below hBl hgl
    have hr3 := HR.out.below hBl hrl
    have hne : gr ≠ g := by omega
    have hI1 := ((OwI.of_cop HC1.out).lower HZ.out).keep (HBl2.out.trans (HBl3.out.mono HBl2.out.size))
    have hI2 := (HC2.out.lower (Nat.le_trans HZ.out HBl1.out.size)).keep HBl3.out
    have hI3 := HC3.out.lower (Nat.le_trans HZ.out (Nat.le_trans HBl1.out.size HBl2.out.size))
    have hI : ShIn w3 (g + 2) A0 c0 s.ns A1 c1 s.hs A2 c2 s.ls := ⟨hI1, ⟨hI2, hI3⟩⟩
    have hg3 := sets_grown (w := w3) g [(2, Value.slice A0 s.ns.length c0), (5, .slice A1 s.hs.length c1), (6, .slice A2 s.ls.length c2)]
    have hbF : Blk (setsW w3 g [(2, Value.slice A0 s.ns.length c0), (5, .slice A1 s.hs.length c1), (6, .slice A2 s.ls.length c2)]) g 29 (shtC s ⟨A0, c0, A1, c1, A2, c2⟩) := setsW_blk (l := [Value.int .u64 s.i, .int .u64 s.t, .slice a.A0 s.ns.length a.c0, .int .i64 s.lim, .int .u64 s.nxt, .slice a.A1 s.hs.length a.c1, .slice a.A2 s.ls.length a.c2]) hb3 _
    have hrF := setsW_far hr3 hne [(2, Value.slice A0 s.ns.length c0), (5, .slice A1 s.hs.length c1), (6, .slice A2 s.ls.length c2)]
    have HIF := Lib.hid (hI.past hg3 (by omega))
    have HBF := Lib.hid (setsW_below (HB0.out.trans (hBl.mono (Nat.le_of_lt hgl))) (Nat.le_refl g) [(2, Value.slice A0 s.ns.length c0), (5, .slice A1 s.hs.length c1), (6, .slice A2 s.ls.length c2)])
    have hgr2 : gr < g + 2 := by omega
    clear hg3 hI hI1 hI2 hI3 hb3 hr3 hBl hgl hrl y2 y5 y6 f2 f5 f6 z0 z1 z2 z3 z4 z5 z6 hgr HBl1 HBl2 HBl3 HC1 HC2 HC3 X1 X2 X3 HB0 HB HR HZ
    go_upto_region 2 with (fail)
    change Code.wp _ _ _ _ (setsW w3 g [(2, Value.slice A0 s.ns.length c0), (5, .slice A1 s.hs.length c1), (6, .slice A2 s.ls.length c2)])
    generalize (setsW w3 g [(2, Value.slice A0 s.ns.length c0), (5, .slice A1 s.hs.length c1), (6, .slice A2 s.ls.length c2)]) = WF at hbF hrF HIF HBF ⊢
    have HR := Lib.hid hrF
    clear hrF
    go_wp2_with (first | (refine wpList_load_row rfl 29 _ rfl g rfl 29 (shtC s ⟨A0, c0, A1, c1, A2, c2⟩) hbF _ Try.underlying29 rfl info_Sht ?_) | refine wpList_store_row rfl 29 _ _ rfl gr (shtC s ⟨A0, c0, A1, c1, A2, c2⟩) rfl rfl 29 (shtC sh0 sa0) HR.out info_Sht rfl (shtC_one _ _) ?_)
    (try simp only [Exit.inBlock, Exit.then])
    refine bodyPost_ret (results_cell1 rfl rfl (run_loadVar_row _ gr 29 29 _ (0, 0) _ (Blk.row (cs := shtC s ⟨A0, c0, A1, c1, A2, c2⟩) HR.out) Try.underlying29 rfl info_Sht)) rfl ?_
    exact ⟨⟨A0, c0, A1, c1, A2, c2⟩, rfl, (HIF.out.past (row_grown gr _) (by omega)).lower (by omega), row_below HBF.out (by omega) _⟩
end Go.Proofs.Ytadkkhbbempaaaa

/- What lasts in memory of its own: the code's clone. -/
namespace Go.Proofs.Ytadkkhbbempaaaa
set_option maxRecDepth 100000
open Go.RowKit

set_option maxHeartbeats 1000000 in
theorem clone_EntryR (w : World) (A : Option Addr) (c : Nat) (l : List Ec) (h : InS ecC 9 w A c l) (hs : l.length * 88 ≤ 140737488355328) :
    Calls Try.prog 76 #[.slice A l.length c] w fun e w' => ∃ A' c', e = .returned (.slice A' l.length c') ∧ w'.ownsRow w.heap.size 46 9 (.slice A' l.length c') l.length (l.flatMap ecC) ∧ Below w.heap.size w w' := by
  have q22 : ∀ (w : World) (a : Option Addr) (n c n' c' : Nat), (binOp .eql 30 (.slice a n c) (.slice none n' c')).run Try.prog w = .ok (.bool a.isNone) w := fun w a n c n' c' => Lib.run_eql_slice_nil w _ _ a n c n' c' Try.underlying30
  cases A with
  | none =>
    have hnil := len_none h
    subst hnil
    clear h hs
    go_enter Try.func76, Try.ntmps76
    go_wp2
    go_ret
    exact ⟨none, 0, rfl, own_nil _ _ _ _, Below.refl _ _⟩
  | some ad =>
    have HIN := Lib.hid h
    have hcap := h.cap
    clear h
    have HOE := Lib.hid (own_emptyS w w.heap.size 46 9 (Nat.le_refl _))
    have hB0 : Below w.heap.size w (w.alloc (.cells #[] 46)) := (Below.refl _ _).alloc (Nat.le_refl _) _
    have HB0 := Lib.hid hB0
    have HR := Lib.hid (HIN.out.keep hB0).reads
    clear hB0
    go_enter Try.func76, Try.ntmps76
    go_wp2_with (at_builtin; refine app_own (w0 := w) w.heap.size rfl _ _ 30 46 _ 88 rfl Try.underlying30 9 info_Entry rfl (by omega) (by omega) _ [] 0 rfl _ _ _ _ (l.flatMap ecC) rfl HOE.out HR.out (flat_one ecC_one l) HB0.out HB0.out.size (by omega) ?_; intro v1 w1 ho1 hB1 _ _; have HO1 := Lib.hid ho1; have HB1 := Lib.hid hB1; clear ho1 hB1)
    go_ret
    have ho := HO1.out
    rw [Nat.zero_add, List.nil_append] at ho
    obtain ⟨A1, c1, rfl⟩ := own_slice ho
    exact ⟨A1, c1, rfl, ho, HB1.out⟩

/-- Entries, one list's place changed. -/
def putA (ys : List Ec) (k : Nat) (A : Option Addr) (c : Nat) : List Ec := ys.modify k (fun y => ⟨A, c, y.e⟩)
theorem putA_len (ys : List Ec) (k : Nat) (A : Option Addr) (c : Nat) : (putA ys k A c).length = ys.length := by simp [putA]
theorem putA_get (ys : List Ec) (k : Nat) (A : Option Addr) (c : Nat) (j : Nat) (hj : j < ys.length) : (putA ys k A c)[j]'(by rw [putA_len]; exact hj) = if k = j then ⟨A, c, ys[j].e⟩ else ys[j] := by
  simp only [putA, List.getElem_modify]
theorem putA_e (ys : List Ec) (k : Nat) (A : Option Addr) (c : Nat) : (putA ys k A c).map (·.e) = ys.map (·.e) := by
  apply List.ext_getElem
  · simp [putA]
  · intro j h1 h2
    simp only [List.length_map, putA_len] at h1
    simp only [List.getElem_map]
    rw [putA_get ys k A c j h1]
    split <;> rfl
theorem putA_flat (ys : List Ec) (k : Nat) (hk : k < ys.length) (A : Option Addr) (c : Nat) : (putA ys k A c).flatMap ecC = (ys.flatMap ecC).set (k * 9 + 4) (.slice A ys[k].e.l.length c) := by
  induction ys generalizing k with
  | nil => simp at hk
  | cons y ys ih =>
    cases k with
    | zero => simp [putA, ecC]
    | succ k =>
      have h := ih k (by simpa using hk)
      have e : putA (y :: ys) (k + 1) A c = y :: putA ys k A c := by simp [putA]
      rw [e, List.flatMap_cons, List.flatMap_cons, h]
      have e2 : (k + 1) * 9 + 4 = (ecC y).length + (k * 9 + 4) := by rw [ecC_len]; omega
      rw [e2, List.set_append_right _ _ (by omega)]
      congr 1
      · congr 1
        omega
/-- While the lists of the entries are copied, one behind the other. -/
structure Cl (w : World) (B : Nat) (v : Value) (n : Nat) (xs ys : List Ec) (k : Nat) : Prop where
  row : w.ownsRow B 46 9 v n (ys.flatMap ecC)
  len : ys.length = n
  es : ys.map (·.e) = xs.map (·.e)
  done : ∀ (j : Nat) (hj : j < ys.length), j < k → InN .i64 w ys[j].A ys[j].c ys[j].e.l ∧ ∀ a, ys[j].A = some a → B ≤ a.block ∧ v.ownBlock ≠ some a.block
  rest : ∀ (j : Nat) (hj : j < ys.length), k ≤ j → xs[j]? = some ys[j]
theorem ecC_slot (x : Ec) : (ecC x)[4]? = some (.slice x.A x.e.l.length x.c) := rfl
section
variable {w w1 : World} {B b n c : Nat} {xs ys : List Ec} {k : Nat}
theorem Cl.slot (h : Cl w B (.slice (some ⟨b, 0, none⟩) n c) n xs ys k) (hk : k < n) (x : Ec) (hx : xs[k]? = some x) : w.cell? ⟨b, k * 9 + 4, none⟩ = some (.slice x.A x.e.l.length x.c) := by
  have hl := h.len
  rw [h.row.cellAt _ (by omega), flat_get ecC_len ys k (by omega) 4 (by omega), ecC_slot]
  have := h.rest k (by omega) (Nat.le_refl _)
  rw [hx] at this
  injection this with this
  rw [this]
theorem Cl.put (h : Cl w B (.slice (some ⟨b, 0, none⟩) n c) n xs ys k) (hk : k < n) (x : Ec) (hx : xs[k]? = some x) (hb : Below w.heap.size w w1) {A : Option Addr} {cA : Nat} (hc : OwI w1 w.heap.size A cA x.e.l) :
    Cl (w1.setCell ⟨b, k * 9 + 4, none⟩ (.slice A x.e.l.length cA)) B (.slice (some ⟨b, 0, none⟩) n c) n xs (putA ys k A cA) (k + 1) := by
  have hl := h.len
  have hr := own_below h.row hb
  have hyx : ys[k] = x := by
    have := h.rest k (by omega) (Nat.le_refl _)
    rw [hx] at this
    injection this with this
    exact this.symm
  have hblk := h.row.lt b rfl
  have hst := hr.stored (k * 9 + 4) (.slice A x.e.l.length cA)
  refine ⟨?_, by rw [putA_len]; exact hl, by rw [putA_e]; exact h.es, fun j hj hjk => ?_, fun j hj hjk => ?_⟩
  · rw [putA_flat ys k (by omega), hyx]
    exact hst.1
  · rw [putA_len] at hj
    rw [putA_get ys k A cA j hj]
    by_cases e : k = j
    · subst e
      rw [if_pos rfl, hyx]
      refine ⟨hc.inn.setx (fun a e => ?_) _, fun a e => ?_⟩
      · have := hc.own a e
        show b ≠ a.block
        omega
      · have := hc.own a e
        refine ⟨by omega, fun hh => ?_⟩
        injection hh with hh
        simp only at hh
        omega
    · rw [if_neg e]
      obtain ⟨i1, i2⟩ := h.done j hj (by omega)
      exact ⟨(i1.keep hb).setx (fun a e hh => (i2 a e).2 (by show some b = _; rw [show b = a.block from hh])) _, i2⟩
  · rw [putA_len] at hj
    rw [putA_get ys k A cA j hj, if_neg (by omega)]
    exact h.rest j hj (by omega)
end
theorem Ent1.past {w w' : World} {B q : Nat} {v : Value} {ys : List Ec} (h : Ent1 w B v ys) (hg : w.grownBy w' (some q)) (hq : q < B) : Ent1 w' B v ys :=
  ⟨h.row.kept hg (.inr (fun hh => by have := (h.row.lt q hh).1; omega)), fun y hy => (h.inn y hy).grown hg (fun b off e hh => by have := (h.own y hy _ e).1; injection hh with hh; simp only at this; omega), h.own⟩
theorem Ent1.lower {w : World} {B B' : Nat} {v : Value} {ys : List Ec} (h : Ent1 w B v ys) (hb : B' ≤ B) : Ent1 w B' v ys :=
  ⟨own_lower h.row hb, h.inn, fun y hy a e => ⟨Nat.le_trans hb (h.own y hy a e).1, (h.own y hy a e).2⟩⟩
theorem Cl.ent {w : World} {B : Nat} {v : Value} {n : Nat} {xs ys : List Ec} (h : Cl w B v n xs ys n) : Ent1 w B v ys := by
  have hl := h.len
  refine ⟨by rw [hl]; exact h.row, fun y hy => ?_, fun y hy => ?_⟩
  · obtain ⟨j, hj, rfl⟩ := List.getElem_of_mem hy
    exact (h.done j hj (by omega)).1
  · obtain ⟨j, hj, rfl⟩ := List.getElem_of_mem hy
    exact (h.done j hj (by omega)).2
/-- A snapshot's slices lie behind a log's block, and from block B on. -/
structure ShF (w : World) (B : Nat) (v : Value) (s : Sh) (q : Sa) : Prop where
  ex : ∃ B2, B ≤ B2 ∧ (∀ k, v.ownBlock = some k → k < B2) ∧ ShIn w B2 q.A0 q.c0 s.ns q.A1 q.c1 s.hs q.A2 q.c2 s.ls
section
variable {w w1 : World} {B B' : Nat} {v : Value} {s : Sh} {q : Sa}
theorem ShF.sh (h : ShF w B v s q) : ShIn w B q.A0 q.c0 s.ns q.A1 q.c1 s.hs q.A2 q.c2 s.ls := by
  obtain ⟨B2, h1, _, h3⟩ := h.ex
  exact h3.lower h1
theorem ShF.below (h : ShF w B v s q) (hb : Below w.heap.size w w1) : ShF w1 B v s q := by
  obtain ⟨B2, h1, h2, h3⟩ := h.ex
  exact ⟨B2, h1, h2, h3.keep hb⟩
theorem ShF.past {j : Nat} (h : ShF w B v s q) (hg : w.grownBy w1 (some j)) (hj : j < B) : ShF w1 B v s q := by
  obtain ⟨B2, h1, h2, h3⟩ := h.ex
  exact ⟨B2, h1, h2, h3.past hg (by omega)⟩
theorem ShF.lower (h : ShF w B v s q) (hb : B' ≤ B) : ShF w B' v s q := by
  obtain ⟨B2, h1, h2, h3⟩ := h.ex
  exact ⟨B2, by omega, h2, h3⟩
theorem ShF.push (h : ShF w B v s q) (hg : w.grownBy w1 v.ownBlock) : ShIn w1 B q.A0 q.c0 s.ns q.A1 q.c1 s.hs q.A2 q.c2 s.ls := by
  obtain ⟨B2, h1, h2, h3⟩ := h.ex
  cases hv : v.ownBlock with
  | none =>
    rw [hv] at hg
    exact (h3.keep ⟨hg.os, hg.tape, hg.output, hg.size, fun i hi => hg.block i hi (by simp)⟩).lower h1
  | some k =>
    rw [hv] at hg
    exact (h3.past hg (h2 k hv)).lower h1
end
def hb0 : Hb := ⟨0, 0, 0, sh0⟩
theorem hrdC_len (h : Hb) (p : Sa) (A : Option Addr) (c : Nat) {xs ys : List Ec} (e : ys.length = xs.length) : hrdC h p A c ys = hrdC h p A c xs := by unfold hrdC; rw [e]
theorem hrdV_len (h : Hb) (p : Sa) (A : Option Addr) (c : Nat) {xs ys : List Ec} (e : ys.length = xs.length) : hrdV h p A c ys = hrdV h p A c xs := by unfold hrdV; rw [e]

set_option maxHeartbeats 8000000 in
theorem hard_clone_any (w : World) (h : Hb) (p : Sa) (PA : Option Addr) (PC : Nat) (xs : List Ec) (hin : InH w h p PA PC xs) (wf : (h.hrd xs).Wf) :
    Calls Try.prog 40 #[hrdV h p PA PC xs] w fun e w' => ∃ q A c ys, e = .returned (hrdV h q A c ys) ∧ ys.map (·.e) = xs.map (·.e) ∧ Ent1 w' w.heap.size (.slice A ys.length c) ys ∧
      ShF w' w.heap.size (.slice A ys.length c) h.sh q ∧ Below w.heap.size w w' := by
  obtain ⟨g, hg⟩ : ∃ g, w.heap.size = g := ⟨_, rfl⟩
  rw [hg]
  obtain ⟨gr, hgr⟩ : ∃ gr, g + 1 = gr := ⟨_, rfl⟩
  have hBx : Below g w ((w.alloc (.cells (hrdC h p PA PC xs) 32)).alloc (.cells (hrdC hb0 sa0 none 0 []) 32)) := ((Below.refl _ _).alloc (by omega) _).alloc (by simp; omega) _
  have hsz : (w.alloc (.cells (hrdC h p PA PC xs) 32)).heap.size = gr := by simp [hg, hgr]
  have hb1 : Blk ((w.alloc (.cells (hrdC h p PA PC xs) 32)).alloc (.cells (hrdC hb0 sa0 none 0 []) 32)) g 32 (hrdC h p PA PC xs) := (hg ▸ Blk.new w 32 (hrdC h p PA PC xs) : Blk (w.alloc (.cells (hrdC h p PA PC xs) 32)) g 32 (hrdC h p PA PC xs)).alloc _
  have hr1 : Blk ((w.alloc (.cells (hrdC h p PA PC xs) 32)).alloc (.cells (hrdC hb0 sa0 none 0 []) 32)) gr 32 (hrdC hb0 sa0 none 0 []) := hsz ▸ Blk.new _ _ _
  have hz1 : g + 2 ≤ ((w.alloc (.cells (hrdC h p PA PC xs) 32)).alloc (.cells (hrdC hb0 sa0 none 0 []) 32)).heap.size := by simp [hg]
  have HIN := Lib.hid hin
  have hsm := hin.log.small
  have HLL : Hid (∀ x ∈ xs, x.e.l.length ≤ 17592186043904) := fun x hx => (wf.log x.e (List.mem_map_of_mem hx)).l
  have HWS := Lib.hid wf.sh
  have hne : g ≠ gr := by omega
  clear hsz hin wf
  unfold hrdV
  go_enter Try.func40, Try.ntmps40
  go_upto_region 1 with (fail)
  change Code.wp _ _ _ _ ((w.alloc (.cells (hrdC h p PA PC xs) 32)).alloc (.cells (hrdC hb0 sa0 none 0 []) 32))
  generalize ((w.alloc (.cells (hrdC h p PA PC xs) 32)).alloc (.cells (hrdC hb0 sa0 none 0 []) 32)) = W at hb1 hr1 hz1 hBx ⊢
  try rw [hgr]
  have HB := Lib.hid hBx
  have HZ := Lib.hid hz1
  have X1 := Lib.hid (clone_EntryR W PA PC xs (HIN.out.log.rows.keep (hg ▸ hBx)) hsm)
  have z10 := hb1.hrd.z10
  clear hBx hz1
  go_wp2_with fail
  refine X1.out.mono ?_
  rintro e w1 ⟨A1, c1, rfl, ho1, hB1⟩
  have hgs := HZ.out
  have hb2 := hb1.below hB1 (by omega)
  have hr2 := hr1.below hB1 (by omega)
  have hB2 := HB.out.trans (hB1.mono (by omega))
  have ho2 := own_lower ho1 HZ.out
  have hnb : (Value.slice A1 xs.length c1).ownBlock ≠ some g := fun hh => by have := (World.ownsRow.lt ho2 g hh).1; omega
  clear hb1 hr1 X1 z10 HZ hB1 ho1
  have z10 := hb2.hrd.z10
  have y10 := hb2.frozen 10
  have hb3 : Blk (w1.setCell ⟨g, 10, none⟩ (.slice A1 xs.length c1)) g 32 (hrdC h p A1 c1 xs) := Blk.setL (l := [Value.int .u64 h.bt, .int .u64 h.tm, .int .i64 h.vt, .int .u64 h.sh.i, .int .u64 h.sh.t, .slice p.A0 h.sh.ns.length p.c0, .int .i64 h.sh.lim, .int .u64 h.sh.nxt, .slice p.A1 h.sh.hs.length p.c1, .slice p.A2 h.sh.ls.length p.c2, .slice PA xs.length PC]) hb2 10 _
  have hr3 := hr2.far (p := ⟨g, 10, none⟩) (by show gr ≠ g; omega) (.slice A1 xs.length c1)
  have hB3 := hB2.setCell (p := ⟨g, 10, none⟩) (Nat.le_refl _) (.slice A1 xs.length c1)
  have ho3 := ho2.kept (only_setCell (p := ⟨g, 10, none⟩) (World.grownBy.refl w1 (some g)) (.inl rfl) (.slice A1 xs.length c1)) (.inr hnb)
  go_upto_region 2 with (fail)
  change Code.wp _ _ _ _ (w1.setCell ⟨g, 10, none⟩ (.slice A1 xs.length c1))
  generalize (w1.setCell ⟨g, 10, none⟩ (.slice A1 xs.length c1)) = W3 at hb3 hr3 hB3 ho3 ⊢
  clear z10 y10 hb2 hr2 hB2 ho2 hnb hgs
  have z10 := hb3.hrd.z10
  obtain ⟨n, hn⟩ : ∃ n, xs.length = n := ⟨_, rfl⟩
  have HN := Lib.hid hn
  obtain ⟨HC, hHC⟩ : ∃ HC, hrdC h p A1 c1 xs = HC := ⟨_, rfl⟩
  have z10v : HC[10]? = some (.slice A1 n c1) := by rw [← hHC, ← hn]; rfl
  rw [hn] at z10 hsm ho3
  rw [hHC] at hb3
  have HHC := Lib.hid hHC
  have HZV := Lib.hid z10v
  have HB3 := Lib.hid hB3
  have HBK := Lib.hid hb3
  have HRK := Lib.hid hr3
  have HO3 := Lib.hid ho3
  clear hn hHC z10v hB3 hb3 hr3 ho3
  go_wp2_with fail
  have hx0 : Cl W3 (g + 2) (.slice A1 n c1) n xs xs 0 := ⟨HO3.out, HN.out, rfl, fun j hj h => by omega, fun j hj _ => List.getElem?_eq_getElem hj⟩
  have HX0 := Lib.hid hx0
  clear hx0 HO3
  go_loopw [3, 11] (fun _ iv wr => ∃ (k : Nat) (ys : List Ec), iv = .int .i64 (k : Int) ∧ k ≤ n ∧ Cl wr (g + 2) (.slice A1 n c1) n xs ys k ∧ Below g w wr ∧ Blk wr g 32 HC ∧ Blk wr gr 32 (hrdC hb0 sa0 none 0 [])) (fun _ iv _ => n - (intOf iv).toNat)
  case atStart => exact ⟨0, xs, rfl, Nat.zero_le _, HX0.out, HB3.out, HBK.out, HRK.out⟩
  case round =>
    clear z10 HB3 HBK HRK HX0
    obtain ⟨k, ys, rfl, hk, hcl, hB, hbk, hrk⟩ := hrel
    have HCL := Lib.hid hcl
    have HB := Lib.hid hB
    have HBK := Lib.hid hbk
    have HRK := Lib.hid hrk
    have z10 := (hbk.cell 10).trans HZV.out
    have hgz : g + 2 ≤ wr.heap.size := by have := hrk.lt; omega
    by_cases hkl : k < n
    · obtain ⟨b, cc, hA1, hgb⟩ := World.ownsRow.form hcl.row (by omega)
      injection hA1 with hA1 _ hcc
      subst hA1
      have hkx : k < xs.length := by have := HN.out; omega
      have hxk : xs[k]? = some xs[k] := List.getElem?_eq_getElem hkx
      have hmem := List.getElem_mem hkx
      have hinx := (HIN.out.log.keep (hg ▸ hB)).inn _ hmem
      have hlx := HLL.out _ hmem
      obtain ⟨x, hx⟩ : ∃ x, xs[k] = x := ⟨_, rfl⟩
      rw [hx] at hxk hinx hlx
      have r4 := hcl.slot hkl x hxk
      have fr := hcl.row.frozenAt (k * 9 + 4)
      have C7 := Lib.hid (clone_any wr.drew x.A x.c x.e.l ⟨hinx.reads.drew, hinx.wf, hinx.cap, hinx.small⟩ hlx)
      have HXK := Lib.hid hxk
      clear hcl hB hbk hrk hcc hx hmem hinx hxk
      go_wp2_with fail
      go_region_law (go_simp; go_at_call 77; refine C7.out.mono ?_; rintro q w7 ⟨A7, c7, rfl, hc7, hB7⟩; have HC7 := Lib.hid hc7; have HB7 := Lib.hid hB7; have z107 := ((HBK.out.drew.below hB7 HBK.out.lt).cell 10).trans HZV.out; have ho7 := own_below HCL.out.row.drew hB7; have r47 : w7.cell? ⟨b, k * 9 + 4, none⟩ = some (.slice x.A x.e.l.length x.c) := (hB7.cell (p := ⟨b, k * 9 + 4, none⟩) (show b < wr.heap.size from hgb.2)).trans r4; have f47 := ho7.frozenAt (k * 9 + 4); clear hc7 hB7 ho7)
      all_goals
        have hput := HCL.out.put hkl x HXK.out (((Below.refl wr.heap.size wr).drew).trans (show Below wr.heap.size wr.drew w7 from HB7.out)) (show OwI w7 wr.heap.size A7 c7 x.e.l from OwI.of_cop (w := wr.drew) HC7.out)
        have hBf := (HB.out.drew.trans (HB7.out.mono (show g ≤ wr.heap.size by omega))).setCell (p := ⟨b, k * 9 + 4, none⟩) (by show g ≤ b; omega) (.slice A7 x.e.l.length c7)
        have hbk8 := (HBK.out.drew.below HB7.out HBK.out.lt).far (p := ⟨b, k * 9 + 4, none⟩) (by show g ≠ b; omega) (.slice A7 x.e.l.length c7)
        have hrk8 := (HRK.out.drew.below HB7.out HRK.out.lt).far (p := ⟨b, k * 9 + 4, none⟩) (by show gr ≠ b; omega) (.slice A7 x.e.l.length c7)
        go_upto_region 6 with (fail)
        change Code.wp _ _ _ _ (w7.setCell ⟨b, k * 9 + 4, none⟩ (.slice A7 x.e.l.length c7))
        generalize (w7.setCell ⟨b, k * 9 + 4, none⟩ (.slice A7 x.e.l.length c7)) = W8 at hput hBf hbk8 hrk8 ⊢
        have HP := Lib.hid hput
        have HB8 := Lib.hid hBf
        have HBK8 := Lib.hid hbk8
        have HRK8 := Lib.hid hrk8
        clear hput hBf hbk8 hrk8 r4 fr z10 z107 r47 f47 C7 HB HBK HRK HCL HC7 HB7
        go_wp2
        go_roundw
        case rel => exact ⟨k + 1, putA ys k A7 c7, by go_num, by omega, HP.out, HB8.out, HBK8.out, HRK8.out⟩
        case measure => simp [intOf]; omega
    · obtain rfl : k = n := by omega
      have hbk := HBK.out
      rw [← HHC.out] at hbk
      have hyl : ys.length = xs.length := by rw [HN.out]; exact HCL.out.len
      have HYL := Lib.hid hyl
      have X8 := hard_cloneShot_any wr h.sh p (HIN.out.sh.keep (hg ▸ HB.out)) HWS.out
      unfold shtV at X8
      have X8 := Lib.hid X8
      obtain ⟨z0, z1, z2, z3, z4, z5, z6, z7, z8, z9, z10⟩ := hbk.hrd
      have HBK := Lib.hid hbk
      clear hcl hB hbk hrk hyl
      go_wp2_with fail
      refine X8.out.mono ?_
      rintro e w8 ⟨q, rfl, hsh, hB8⟩
      have hb8 := HBK.out.below hB8 HBK.out.lt
      have hr8 := HRK.out.below hB8 HRK.out.lt
      have hB8w := HB.out.trans (hB8.mono (show g ≤ wr.heap.size by omega))
      have he8 := HCL.out.ent.below hB8
      have hsh8 : ShF w8 (g + 2) (.slice A1 k c1) h.sh q := ⟨⟨wr.heap.size, hgz, fun k e => (HCL.out.row.lt k e).2, hsh⟩⟩
      have HES := Lib.hid HCL.out.es
      clear z0 z1 z2 z3 z4 z5 z6 z7 z8 z9 z10 HBK HRK HB HCL X8 hsh hB8
      obtain ⟨z0, z1, z2, z3, z4, z5, z6, z7, z8, z9, z10⟩ := hb8.hrd
      have y3 := hb8.frozen 3
      have y4 := hb8.frozen 4
      have y5 := hb8.frozen 5
      have y6 := hb8.frozen 6
      have y7 := hb8.frozen 7
      have y8 := hb8.frozen 8
      have y9 := hb8.frozen 9
      have hg9 := sets_grown (w := w8) g [(3, Value.int .u64 h.sh.i), (4, .int .u64 h.sh.t), (5, .slice q.A0 h.sh.ns.length q.c0), (6, .int .i64 h.sh.lim), (7, .int .u64 h.sh.nxt), (8, .slice q.A1 h.sh.hs.length q.c1), (9, .slice q.A2 h.sh.ls.length q.c2)]
      have hb9 : Blk (setsW w8 g [(3, Value.int .u64 h.sh.i), (4, .int .u64 h.sh.t), (5, .slice q.A0 h.sh.ns.length q.c0), (6, .int .i64 h.sh.lim), (7, .int .u64 h.sh.nxt), (8, .slice q.A1 h.sh.hs.length q.c1), (9, .slice q.A2 h.sh.ls.length q.c2)]) g 32 (hrdC h q A1 c1 xs) := setsW_blk (l := [Value.int .u64 h.bt, .int .u64 h.tm, .int .i64 h.vt, .int .u64 h.sh.i, .int .u64 h.sh.t, .slice p.A0 h.sh.ns.length p.c0, .int .i64 h.sh.lim, .int .u64 h.sh.nxt, .slice p.A1 h.sh.hs.length p.c1, .slice p.A2 h.sh.ls.length p.c2, .slice A1 xs.length c1]) hb8 _
      have hr9 := setsW_far hr8 hne.symm [(3, Value.int .u64 h.sh.i), (4, .int .u64 h.sh.t), (5, .slice q.A0 h.sh.ns.length q.c0), (6, .int .i64 h.sh.lim), (7, .int .u64 h.sh.nxt), (8, .slice q.A1 h.sh.hs.length q.c1), (9, .slice q.A2 h.sh.ls.length q.c2)]
      have HE9 := Lib.hid (he8.past hg9 (by omega))
      have HS9 := Lib.hid (hsh8.past hg9 (by omega))
      have HB9 := Lib.hid (setsW_below hB8w (Nat.le_refl g) [(3, Value.int .u64 h.sh.i), (4, .int .u64 h.sh.t), (5, .slice q.A0 h.sh.ns.length q.c0), (6, .int .i64 h.sh.lim), (7, .int .u64 h.sh.nxt), (8, .slice q.A1 h.sh.hs.length q.c1), (9, .slice q.A2 h.sh.ls.length q.c2)])
      clear hg9 hB8w he8 hsh8
      go_upto_region 8 with (fail)
      change Code.wp _ _ _ _ (setsW w8 g [(3, Value.int .u64 h.sh.i), (4, .int .u64 h.sh.t), (5, .slice q.A0 h.sh.ns.length q.c0), (6, .int .i64 h.sh.lim), (7, .int .u64 h.sh.nxt), (8, .slice q.A1 h.sh.hs.length q.c1), (9, .slice q.A2 h.sh.ls.length q.c2)])
      generalize (setsW w8 g [(3, Value.int .u64 h.sh.i), (4, .int .u64 h.sh.t), (5, .slice q.A0 h.sh.ns.length q.c0), (6, .int .i64 h.sh.lim), (7, .int .u64 h.sh.nxt), (8, .slice q.A1 h.sh.hs.length q.c1), (9, .slice q.A2 h.sh.ls.length q.c2)]) = WF at hb9 hr9 HE9 HS9 HB9 ⊢
      clear z0 z1 z2 z3 z4 z5 z6 z7 z8 z9 z10 y3 y4 y5 y6 y7 y8 y9 hb8 hr8
      have HR := Lib.hid hr9
      clear hr9
      go_wp2_with (first | (refine wpList_load_row rfl 32 _ rfl g rfl 32 (hrdC h q A1 c1 xs) hb9 _ Try.underlying32 rfl info_Hard ?_) | refine wpList_store_row rfl 32 _ _ rfl gr (hrdC h q A1 c1 xs) rfl rfl 32 (hrdC hb0 sa0 none 0 []) HR.out info_Hard rfl (hrdC_one _ _ _ _ _) ?_)
      (try simp only [Exit.inBlock, Exit.then])
      refine bodyPost_ret (results_cell1 rfl rfl (run_loadVar_row _ gr 32 32 _ (0, 0) _ (Blk.row (cs := hrdC h q A1 c1 xs) HR.out) Try.underlying32 rfl info_Hard)) rfl ?_
      refine ⟨q, A1, c1, ys, ?_, HES.out, ?_, ?_, row_below HB9.out (by omega) _⟩
      · rw [HYL.out]
        rfl
      · have := (HE9.out.past (row_grown gr (hrdC h q A1 c1 xs)) (by omega)).lower (show g ≤ g + 2 by omega)
        rw [HYL.out, HN.out]
        exact this
      · have := (HS9.out.past (row_grown gr (hrdC h q A1 c1 xs)) (by omega)).lower (show g ≤ g + 2 by omega)
        rw [HYL.out, HN.out]
        exact this
end Go.Proofs.Ytadkkhbbempaaaa

/- The records that make what lasts: the code's Base. -/
namespace Go.Proofs.Ytadkkhbbempaaaa
set_option maxRecDepth 100000
open Go.RowKit

/-- What Base answers. -/
noncomputable def baseD (h : Hrd) : List Rc := if h.Ok then h.base else []
/-- While the records are laid. -/
structure BS (w0 w : World) (g : Nat) (HC : Array Value) (v : Value) (rs : List Rr) : Prop where
  blk : Blk w g 32 HC
  bel : Below g w0 w
  rs : Rs1 w (g + 1) v rs
section
variable {w0 w w1 : World} {g : Nat} {HC : Array Value} {v v1 : Value} {rs : List Rr}
theorem BS.below (h : BS w0 w g HC v rs) (hb : Below w.heap.size w w1) : BS w0 w1 g HC v rs :=
  ⟨h.blk.below hb h.blk.lt, h.bel.trans (hb.mono (Nat.le_of_lt h.blk.lt)), h.rs.below hb⟩
theorem BS.drew (h : BS w0 w g HC v rs) : BS w0 w.drew g HC v rs := ⟨h.blk.drew, h.bel.drew, h.rs.drew⟩
theorem BS.push {y : Rr} (h : BS w0 w g HC v rs) (hr : w1.ownsRow (g + 1) 48 21 v1 (rs ++ [y]).length ((rs ++ [y]).flatMap recL)) (hg : w.grownBy w1 v.ownBlock) (hat : v1.ownBlock = v.ownBlock ∨ ∃ b, v1.ownBlock = some b ∧ w.heap.size ≤ b)
    (hy : InR w y.r y.a) (ho : y.all fun q => v.ownBlock ≠ some q.block) : BS w0 w1 g HC v1 (rs ++ [y]) :=
  ⟨h.blk.grown hg (fun e => by have := (h.rs.row.lt g e.symm).1; omega), h.bel.grown hg (Nat.le_of_lt h.blk.lt) (fun j hj => by have := (h.rs.row.lt j hj).1; omega), h.rs.push hr hg hat hy ho⟩
theorem BS.size (h : BS w0 w g HC v rs) : g + 1 ≤ w.heap.size := h.blk.lt
end
/-- The clone's entries, read, in blocks from B1 to B2; what is laid stands elsewhere. -/
structure CB (w : World) (A : Option Addr) (c : Nat) (ys : List Ec) (B1 B2 : Nat) (v : Value) : Prop where
  rows : InS ecC 9 w A c ys
  inn : ∀ y ∈ ys, InN .i64 w y.A y.c y.e.l
  farA : 0 < ys.length → ∀ a, A = some a → B1 ≤ a.block ∧ a.block < B2
  far : ∀ y ∈ ys, 0 < y.e.l.length → ∀ a, y.A = some a → B1 ≤ a.block ∧ a.block < B2
  sep : ∀ b, v.ownBlock = some b → b < B1 ∨ B2 ≤ b
  siz : B2 ≤ w.heap.size
section
variable {w w1 : World} {A : Option Addr} {c : Nat} {ys : List Ec} {B1 B2 : Nat} {v v1 : Value}
theorem CB.below (h : CB w A c ys B1 B2 v) (hb : Below w.heap.size w w1) : CB w1 A c ys B1 B2 v := ⟨h.rows.keep hb, fun y hy => (h.inn y hy).keep hb, h.farA, h.far, h.sep, Nat.le_trans h.siz hb.size⟩
theorem CB.ne (h : CB w A c ys B1 B2 v) {a : Addr} (ha : B1 ≤ a.block ∧ a.block < B2) : v.ownBlock ≠ some a.block := fun e => by have := h.sep _ e; omega
theorem CB.push (h : CB w A c ys B1 B2 v) (hg : w.grownBy w1 v.ownBlock) (hat : v1.ownBlock = v.ownBlock ∨ ∃ b, v1.ownBlock = some b ∧ w.heap.size ≤ b) : CB w1 A c ys B1 B2 v1 := by
  refine ⟨h.rows.past' hg (fun l x e => h.ne (h.farA l x e)), fun y hy => (h.inn y hy).past' hg (fun l x e => h.ne (h.far y hy l x e)), h.farA, h.far, fun b e => ?_, Nat.le_trans h.siz hg.size⟩
  rcases hat with q | ⟨b', q, hb⟩
  · exact h.sep b (q.symm.trans e)
  · rw [q] at e
    injection e with e
    have := h.siz
    omega
theorem CB.start {n : Nat} (h : Ent1 w B1 (.slice A ys.length c) ys) (hv : ∀ b, v.ownBlock = some b → b < B1) (hl : ys.length ≤ 1048576) (hn : n = w.heap.size) : CB w A c ys B1 n v := by
  subst hn
  obtain ⟨A', c', e, hc, _, hr⟩ := own_open h.row
  injection e with e1 _ e2
  subst e1 e2
  exact ⟨⟨hr, hc, by omega⟩, h.inn, fun l a e => ⟨own_base h.row a.block (by rw [e]; rfl), hr.lt l a e⟩, fun y hy l a e => ⟨(h.own y hy a e).1, (h.inn y hy).reads.lt l a e⟩, fun b e => .inl (hv b e), Nat.le_refl _⟩
end
theorem wrap_u1 (x : Int) (h0 : 0 ≤ x) (h1 : x < 18446744073709551615) : IntKind.u64.wrap (x + 1) = x + 1 := by
  rw [IntKind.wrap_u64]
  omega

set_option maxHeartbeats 8000000 in
theorem hard_Base_any (w : World) (h : Hb) (p : Sa) (PA : Option Addr) (PC : Nat) (xs : List Ec) (hin : InH w h p PA PC xs) (wf : (h.hrd xs).Wf) (hn : xs.length ≤ 1048576) :
    Calls Try.prog 16 #[hrdV h p PA PC xs] w fun e w' => ∃ A c rs, e = .returned (.tuple #[.slice A rs.length c, .int .i64 (errRec (decide (h.hrd xs).Ok))]) ∧ rs.map (·.r) = baseD (h.hrd xs) ∧ InRs w' A c rs ∧ Below w.heap.size w w' := by
  obtain ⟨g, hg⟩ : ∃ g, w.heap.size = g := ⟨_, rfl⟩
  rw [hg]
  have hB : Below g w (w.alloc (.cells (hrdC h p PA PC xs) 32)) := (Below.refl _ _).alloc (by omega) _
  have hb : Blk (w.alloc (.cells (hrdC h p PA PC xs) 32)) g 32 (hrdC h p PA PC xs) := hg ▸ Blk.new _ _ _
  have HIN := Lib.hid hin
  have HWF := Lib.hid wf
  clear hin wf
  unfold hrdV
  go_enter Try.func16, Try.ntmps16
  go_upto_region 1 with (fail)
  change Code.wp _ _ _ _ (w.alloc (.cells (hrdC h p PA PC xs) 32))
  generalize (w.alloc (.cells (hrdC h p PA PC xs) 32)) = W at hb hB ⊢
  try rw [hg]
  have HB := Lib.hid hB
  have HK := Lib.hid hb
  have C1 := hard_Check_any W h p PA PC xs (HIN.out.keep (hg ▸ hB)) HWF.out
  unfold hrdV at C1
  obtain ⟨z0, z1, z2, z3, z4, z5, z6, z7, z8, z9, z10⟩ := hb.hrd
  by_cases ok : (h.hrd xs).Ok
  rotate_left
  · rw [rec_bad ok] at C1
    have C1 := Lib.hid C1
    have HV : Hid (errRec (decide (h.hrd xs).Ok) = 130 ∧ baseD (h.hrd xs) = []) := ⟨rec_bad ok, by unfold baseD; rw [if_neg ok]⟩
    clear ok hB hb
    go_wp2_with fail
    refine C1.out.mono ?_
    rintro e w1 ⟨rfl, hB1⟩
    have HB1 := Lib.hid (HB.out.trans (hB1.mono (Nat.le_of_lt HK.out.lt)))
    clear hB1 z0 z1 z2 z3 z4 z5 z6 z7 z8 z9 z10
    go_wp2
    go_ret2
    exact ⟨none, 0, [], by rw [HV.out.1]; rfl, by rw [HV.out.2]; rfl, ⟨InS.nil, fun x hx => by cases hx⟩, HB1.out⟩
  rw [rec_good ok] at C1
  have C1 := Lib.hid C1
  have HV : Hid (errRec (decide (h.hrd xs).Ok) = 0 ∧ baseD (h.hrd xs) = (h.hrd xs).base) := ⟨rec_good ok, by unfold baseD; rw [if_pos ok]⟩
  have HOK := Lib.hid ok
  clear ok hB hb
  go_wp2_with fail
  refine C1.out.mono ?_
  rintro e w1 ⟨rfl, hB1⟩
  have hS : BS w w1 g (hrdC h p PA PC xs) (.slice none 0 0) [] := ⟨HK.out.below hB1 HK.out.lt, HB.out.trans (hB1.mono (Nat.le_of_lt HK.out.lt)), Rs1.nil _ _⟩
  clear hB1 z0 z1 z2 z3 z4 z5 z6 z7 z8 z9 z10 HB HK C1
  have HS := Lib.hid hS
  obtain ⟨z0, z1, z2, z3, z4, z5, z6, z7, z8, z9, z10⟩ := hS.blk.hrd
  have hbt0 : 0 ≤ h.bt := HWF.out.bt.1
  have htm0 : 0 ≤ h.tm := HWF.out.tm.1
  obtain ⟨B1, hB1⟩ : ∃ B1, decide (0 < h.bt) = B1 := ⟨_, rfl⟩
  have HB1 : Hid (base1 (h.hrd xs) = if B1 = true then [⟨1, 0, h.bt, 0, 0, en0, sh0⟩] else []) := by
    show _ = _
    rw [← hB1]
    unfold base1
    simp only [decide_eq_true_eq]
    rfl
  clear hS
  go_upto_if 16 with (fail)
  clear hB1
  go_cut [5] (fun v wx => ∃ rs, BS w wx g (hrdC h p PA PC xs) v rs ∧ rs.map (·.r) = base1 (h.hrd xs))
  case first =>
    cases B1
    · have HV1 : Hid (([] : List Rr).map (·.r) = base1 (h.hrd xs)) := HB1.out.symm
      go_wp2
      go_meet
      case rel => exact ⟨_, HS.out, HV1.out⟩
    · have HV1 : Hid ([(⟨⟨1, 0, h.bt, 0, 0, en0, sh0⟩, ra0⟩ : Rr)].map (·.r) = base1 (h.hrd xs)) := HB1.out.symm
      go_wp2_with (at_builtin; refine wpList_oneG (f := recL) (W := w1) Try.underlying38 info_RecG rfl (by omega) recL_len recL_one (g + 1) rfl _ _ rfl (.slice none 0 0) [] ⟨⟨1, 0, h.bt, 0, 0, en0, sh0⟩, ra0⟩ rfl rfl rfl HS.out.rs.row HS.out.size (by simp) (by omega) ?_; intro v1 w2 ho2 hg2 hat2; have HP := Lib.hid (HS.out.push ho2 hg2 hat2 ⟨InN.nil, InSh.zero _⟩ (ra0_all _ _)); clear ho2 hg2 hat2)
      go_meet
      case rel => exact ⟨_, HP.out, HV1.out⟩
  case rest =>
    clear z0 z1 z2 z3 z4 z5 z6 z7 z8 z9 z10 HS HB1
    obtain ⟨rs, hS, hrs⟩ := hcut
    have HS := Lib.hid hS
    have HRS := Lib.hid hrs
    obtain ⟨z0, z1, z2, z3, z4, z5, z6, z7, z8, z9, z10⟩ := hS.blk.hrd
    obtain ⟨B2, hB2⟩ : ∃ B2, decide (0 < h.tm) = B2 := ⟨_, rfl⟩
    have HB2 : Hid (base2 (h.hrd xs) = base1 (h.hrd xs) ++ if B2 = true then [⟨2, h.vt, 0, h.tm, 0, en0, sh0⟩] else []) := by
      show _ = _
      rw [← hB2]
      unfold base2
      simp only [decide_eq_true_eq]
      rfl
    have hl1 : rs.length ≤ 1 := by
      have := congrArg List.length hrs
      rw [List.length_map] at this
      rw [this]
      unfold base1
      split <;> simp
    clear hS hrs
    go_upto_if 25 with (fail)
    clear hB2
    go_cut [5] (fun v wx => ∃ rs, BS w wx g (hrdC h p PA PC xs) v rs ∧ rs.map (·.r) = base2 (h.hrd xs))
    case first =>
      cases B2
      · have HV1 : Hid (rs.map (·.r) = base2 (h.hrd xs)) := by
          show _ = _
          rw [HB2.out, HRS.out]
          simp
        go_wp2
        go_meet
        case rel => exact ⟨_, HS.out, HV1.out⟩
      · have HV1 : Hid ((rs ++ [(⟨⟨2, h.vt, 0, h.tm, 0, en0, sh0⟩, ra0⟩ : Rr)]).map (·.r) = base2 (h.hrd xs)) := by
          show _ = _
          rw [HB2.out, List.map_append, HRS.out]
          rfl
        go_wp2_with (at_builtin; refine wpList_oneG (f := recL) (W := wc) Try.underlying38 info_RecG rfl (by omega) recL_len recL_one (g + 1) rfl _ _ rfl u5 rs ⟨⟨2, h.vt, 0, h.tm, 0, en0, sh0⟩, ra0⟩ rfl rfl rfl HS.out.rs.row HS.out.size (by omega) (by omega) ?_; intro v1 w2 ho2 hg2 hat2; have HP := Lib.hid (HS.out.push ho2 hg2 hat2 ⟨InN.nil, InSh.zero _⟩ (ra0_all _ _)); clear ho2 hg2 hat2)
        go_meet
        case rel => exact ⟨_, HP.out, HV1.out⟩
    case rest =>
      clear z0 z1 z2 z3 z4 z5 z6 z7 z8 z9 z10 HS HB2 HRS hl1
      obtain ⟨rs, hS, hrs⟩ := hcut
      have HS := Lib.hid hS
      have HRS := Lib.hid hrs
      have hl2 : rs.length ≤ 2 := by
        have := congrArg List.length hrs
        rw [List.length_map] at this
        rw [this]
        exact base2_length _
      obtain ⟨z0, z1, z2, z3, z4, z5, z6, z7, z8, z9, z10⟩ := hS.blk.hrd
      have X1' := hard_clone_any wc h p PA PC xs (HIN.out.keep (hg ▸ hS.bel)) HWF.out
      unfold hrdV at X1'
      have X1 := Lib.hid X1'
      clear X1'
      have hsep : ∀ b, u5.ownBlock = some b → b < wc.heap.size := fun b e => (hS.rs.row.lt b e).2
      have HSEP := Lib.hid hsep
      clear hS hrs hsep
      go_wp2_with fail
      refine X1.out.mono ?_
      rintro e w2 ⟨q, A, c, ys, rfl, hym, he2, _, hB2⟩
      have hyl : ys.length = xs.length := by
        have := congrArg List.length hym
        simpa using this
      have hCB := CB.start (v := u5) he2 HSEP.out (by omega) rfl
      have hS2 := HS.out.below hB2
      obtain ⟨B1, hB1⟩ : ∃ B1, wc.heap.size = B1 := ⟨_, rfl⟩
      obtain ⟨B2, hB2'⟩ : ∃ B2, w2.heap.size = B2 := ⟨_, rfl⟩
      rw [hB1, hB2'] at hCB
      have HCB := Lib.hid hCB
      have HS2 := Lib.hid hS2
      have HYM := Lib.hid hym
      have hyn : ys.length ≤ 1048576 := by omega
      obtain ⟨I0, hI0⟩ : ∃ I0, h.sh.i = I0 := ⟨_, rfl⟩
      have hi0 : 0 ≤ I0 := by have := HWF.out.sh.i.1; simp only [Hb.hrd] at this; omega
      have hi1 : I0 ≤ 4611686018427387904 := by have := HOK.out.i; simp only [Hb.hrd] at this; omega
      have HI0 := Lib.hid hI0
      have HI1 := Lib.hid hi1
      clear z0 z1 z2 z3 z4 z5 z6 z7 z8 z9 z10 HS X1 HSEP hCB hS2 hym he2 hB2 hB1 hB2' hyl hi1
      rw [hI0]
      clear hI0
      have hfd : ∀ W : World, (Instr.field 32 (.agg #[.int .u64 h.bt, .int .u64 h.tm, .int .i64 h.vt, .int .u64 I0, .int .u64 h.sh.t, .slice q.A0 h.sh.ns.length q.c0, .int .i64 h.sh.lim, .int .u64 h.sh.nxt, .slice q.A1 h.sh.hs.length q.c1, .slice q.A2 h.sh.ls.length q.c2, .slice A ys.length c]) 4).run Try.prog W = .ok (.slice A ys.length c) W := fun _ => by kernel_rfl
      go_wp2_with fail
      clear hfd
      go_loopw [5, 6, 8, 41] (fun v iv _ ix wr => ∃ (k : Nat) (rs' : List Rr) (I : Int), ix = .int .i64 (k : Int) ∧ iv = .int .u64 I ∧ I = I0 + k ∧ k ≤ ys.length ∧ rs'.length = rs.length + k ∧ BS w wr g (hrdC h p PA PC xs) v rs' ∧ rs'.map (·.r) = rs.map (·.r) ++ addL I0 ((ys.map (·.e)).take k) ∧ CB wr A c ys B1 B2 v) (fun _ _ _ ix _ => ys.length - (intOf ix).toNat)
      case atStart => exact ⟨0, rs, I0, rfl, rfl, by omega, by omega, by omega, HS2.out, by simp [addL], HCB.out⟩
      case round =>
        clear HCB HS2
        obtain ⟨k, rs', I, rfl, rfl, hI, hk, hl, hS, hm, hcb⟩ := hrel
        have HI := Lib.hid hI
        have HS := Lib.hid hS
        have HM := Lib.hid hm
        have HCB := Lib.hid hcb
        have hI2 : 0 ≤ I := by omega
        have hI3 : IntKind.u64.wrap (I + 1) = I + 1 := wrap_u1 I hI2 (by have := HI1.out; omega)
        clear hI hm
        by_cases hkl : k < ys.length
        · obtain ⟨b, off, rfl, hbb, hat⟩ := hcb.rows.ec (by omega)
          have hmem := List.getElem_mem hkl
          have hatk := hat k hkl
          have htk : (ys.map (·.e)).take (k + 1) = (ys.map (·.e)).take k ++ [ys[k].e] := by
            rw [List.take_succ_eq_append_getElem (by simpa using hkl)]
            simp
          obtain ⟨x, hx⟩ : ∃ x, ys[k] = x := ⟨_, rfl⟩
          rw [hx] at hatk htk hmem
          obtain ⟨x0, x1, x2, x3, x4, x5, x6, x7, x8⟩ := hatk
          have HTK := Lib.hid htk
          have HMEM := Lib.hid hmem
          have hgw := hS.size
          obtain ⟨gx, hgx⟩ : ∃ gx, wr.heap.size = gx := ⟨_, rfl⟩
          have hx1 : Blk (wr.alloc (.cells (ecA x) 46)) gx 46 (ecA x) := hgx ▸ Blk.new _ _ _
          have hal : Below wr.heap.size wr (wr.alloc (.cells (ecA x) 46)) := (Below.refl _ _).alloc (Nat.le_refl _) _
          have hS1 := hS.below hal
          have hcb1 := hcb.below hal
          clear hal HS HCB hS hcb hat hx hmem htk
          go_upto_region 13 with (fail)
          change Code.wp _ _ _ _ (wr.alloc (.cells (ecA x) 46))
          generalize (wr.alloc (.cells (ecA x) 46)) = W5 at hx1 hS1 hcb1 ⊢
          try rw [hgx]
          clear x0 x1 x2 x3 x4 x5 x6 x7 x8 hgx
          have HS1 := Lib.hid hS1
          have HCB1 := Lib.hid hcb1
          have HX1 := Lib.hid hx1
          clear hS1 hcb1 hx1
          have HL := Lib.hid hl
          obtain ⟨x0, x1, x2, x3, x4, x5, x6, x7, x8⟩ := HX1.out.ec
          clear hl
          go_upto_region 14 with (fail)
          clear hI3
          go_wp2_with (first
            | (at_builtin; refine wpList_oneG (f := recL) (W := W5) Try.underlying38 info_RecG rfl (by omega) recL_len recL_one (g + 1) rfl _ _ rfl u5 rs' ⟨⟨3, 0, 0, 0, I + 1, x.e, sh0⟩, ⟨x.A, x.c, sa0⟩⟩ rfl rfl rfl HS1.out.rs.row HS1.out.size (by have := HL.out; omega) (by omega) ?_; intro v1 w6 ho6 hg6 hat6; have HP := Lib.hid (HS1.out.push ho6 hg6 hat6 ⟨HCB1.out.inn x HMEM.out, InSh.zero _⟩ ⟨(fun l q e => HCB1.out.ne (HCB1.out.far x HMEM.out l q e)), (fun _ _ e => by cases e), (fun _ _ e => by cases e), (fun _ _ e => by cases e)⟩); have HC6 := Lib.hid (HCB1.out.push hg6 hat6); clear ho6 hg6 hat6))
          go_roundw
          case rel => exact ⟨k + 1, rs' ++ [⟨⟨3, 0, 0, 0, I + 1, x.e, sh0⟩, ⟨x.A, x.c, sa0⟩⟩], I + 1, by go_num, rfl, by have := HI.out; omega, by omega, by have := HL.out; simp; omega, HP.out, by rw [HTK.out, addL_app, List.map_append, HM.out, List.append_assoc, HI.out, List.length_take, List.length_map, Nat.min_eq_left (by omega)]; rfl, HC6.out⟩
          case measure => simp [intOf]; omega
        · obtain rfl : k = ys.length := by omega
          obtain ⟨A9, c9, rfl, hin9⟩ := hS.rs.open (by omega)
          have HIN9 := Lib.hid hin9
          clear hin9 hS hcb hl
          go_wp2
          go_ret2
          exact ⟨A9, c9, rs', by rw [HV.out.1]; rfl, by rw [HM.out, HV.out.2, HRS.out, HI0.out.symm, List.take_of_length_le (by simp), HYM.out]; rfl, HIN9.out, HS.out.bel⟩
end Go.Proofs.Ytadkkhbbempaaaa

/- The records that make what lasts: the document's Base. -/
namespace Go.Proofs.Ytadkkhbbempaaaa
set_option maxRecDepth 100000
open Go.RowKit

set_option maxHeartbeats 8000000 in
theorem r13_Base_any (w : World) (h : Hb) (p : Sa) (PA : Option Addr) (PC : Nat) (xs : List Ec) (hin : InH w h p PA PC xs) (wf : (h.hrd xs).Wf) (hn : xs.length ≤ 1048576) :
    Calls Try.prog 17 #[hrdV h p PA PC xs] w fun e w' => ∃ A c rs, e = .returned (.tuple #[.slice A rs.length c, .int .i64 (errRec (decide (h.hrd xs).Ok))]) ∧ rs.map (·.r) = baseD (h.hrd xs) ∧ InRs w' A c rs ∧ Below w.heap.size w w' := by
  obtain ⟨g, hg⟩ : ∃ g, w.heap.size = g := ⟨_, rfl⟩
  rw [hg]
  have hB : Below g w (w.alloc (.cells (hrdC h p PA PC xs) 32)) := (Below.refl _ _).alloc (by omega) _
  have hb : Blk (w.alloc (.cells (hrdC h p PA PC xs) 32)) g 32 (hrdC h p PA PC xs) := hg ▸ Blk.new _ _ _
  have HIN := Lib.hid hin
  have HWF := Lib.hid wf
  clear hin wf
  unfold hrdV
  go_enter Try.func17, Try.ntmps17
  go_upto_region 1 with (fail)
  change Code.wp _ _ _ _ (w.alloc (.cells (hrdC h p PA PC xs) 32))
  generalize (w.alloc (.cells (hrdC h p PA PC xs) 32)) = W at hb hB ⊢
  try rw [hg]
  have HB := Lib.hid hB
  have HK := Lib.hid hb
  have C1 := r13_Check_any W h p PA PC xs (HIN.out.keep (hg ▸ hB)) HWF.out
  unfold hrdV at C1
  obtain ⟨z0, z1, z2, z3, z4, z5, z6, z7, z8, z9, z10⟩ := hb.hrd
  by_cases ok : (h.hrd xs).Ok
  rotate_left
  · rw [rec_bad ok] at C1
    have C1 := Lib.hid C1
    have HV : Hid (errRec (decide (h.hrd xs).Ok) = 130 ∧ baseD (h.hrd xs) = []) := ⟨rec_bad ok, by unfold baseD; rw [if_neg ok]⟩
    clear ok hB hb
    go_wp2_with fail
    refine C1.out.mono ?_
    rintro e w1 ⟨rfl, hB1⟩
    have HB1 := Lib.hid (HB.out.trans (hB1.mono (Nat.le_of_lt HK.out.lt)))
    clear hB1 z0 z1 z2 z3 z4 z5 z6 z7 z8 z9 z10
    go_wp2
    go_ret2
    exact ⟨none, 0, [], by rw [HV.out.1]; rfl, by rw [HV.out.2]; rfl, ⟨InS.nil, fun x hx => by cases hx⟩, HB1.out⟩
  rw [rec_good ok] at C1
  have C1 := Lib.hid C1
  have HV : Hid (errRec (decide (h.hrd xs).Ok) = 0 ∧ baseD (h.hrd xs) = (h.hrd xs).base) := ⟨rec_good ok, by unfold baseD; rw [if_pos ok]⟩
  have HOK := Lib.hid ok
  clear ok hB hb
  go_wp2_with fail
  refine C1.out.mono ?_
  rintro e w1 ⟨rfl, hB1⟩
  have hS : BS w w1 g (hrdC h p PA PC xs) (.slice none 0 0) [] := ⟨HK.out.below hB1 HK.out.lt, HB.out.trans (hB1.mono (Nat.le_of_lt HK.out.lt)), Rs1.nil _ _⟩
  clear hB1 z0 z1 z2 z3 z4 z5 z6 z7 z8 z9 z10 HB HK C1
  have HS := Lib.hid hS
  obtain ⟨z0, z1, z2, z3, z4, z5, z6, z7, z8, z9, z10⟩ := hS.blk.hrd
  have hbt0 : 0 ≤ h.bt := HWF.out.bt.1
  have htm0 : 0 ≤ h.tm := HWF.out.tm.1
  obtain ⟨B1, hB1⟩ : ∃ B1, decide (0 < h.bt) = B1 := ⟨_, rfl⟩
  have HB1 : Hid (base1 (h.hrd xs) = if B1 = true then [⟨1, 0, h.bt, 0, 0, en0, sh0⟩] else []) := by
    show _ = _
    rw [← hB1]
    unfold base1
    simp only [decide_eq_true_eq]
    rfl
  clear hS
  go_upto_if 15 with (fail)
  clear hB1
  go_cut [5] (fun v wx => ∃ rs, BS w wx g (hrdC h p PA PC xs) v rs ∧ rs.map (·.r) = base1 (h.hrd xs))
  case first =>
    cases B1
    · have HV1 : Hid (([] : List Rr).map (·.r) = base1 (h.hrd xs)) := HB1.out.symm
      go_wp2
      go_meet
      case rel => exact ⟨_, HS.out, HV1.out⟩
    · have HV1 : Hid ([(⟨⟨1, 0, h.bt, 0, 0, en0, sh0⟩, ra0⟩ : Rr)].map (·.r) = base1 (h.hrd xs)) := HB1.out.symm
      go_wp2_with (at_builtin; refine wpList_oneG (f := recL) (W := w1) Try.underlying38 info_RecG rfl (by omega) recL_len recL_one (g + 1) rfl _ _ rfl (.slice none 0 0) [] ⟨⟨1, 0, h.bt, 0, 0, en0, sh0⟩, ra0⟩ rfl rfl rfl HS.out.rs.row HS.out.size (by simp) (by omega) ?_; intro v1 w2 ho2 hg2 hat2; have HP := Lib.hid (HS.out.push ho2 hg2 hat2 ⟨InN.nil, InSh.zero _⟩ (ra0_all _ _)); clear ho2 hg2 hat2)
      go_meet
      case rel => exact ⟨_, HP.out, HV1.out⟩
  case rest =>
    clear z0 z1 z2 z3 z4 z5 z6 z7 z8 z9 z10 HS HB1
    obtain ⟨rs, hS, hrs⟩ := hcut
    have HS := Lib.hid hS
    have HRS := Lib.hid hrs
    obtain ⟨z0, z1, z2, z3, z4, z5, z6, z7, z8, z9, z10⟩ := hS.blk.hrd
    obtain ⟨B2, hB2⟩ : ∃ B2, decide (0 < h.tm) = B2 := ⟨_, rfl⟩
    have HB2 : Hid (base2 (h.hrd xs) = base1 (h.hrd xs) ++ if B2 = true then [⟨2, h.vt, 0, h.tm, 0, en0, sh0⟩] else []) := by
      show _ = _
      rw [← hB2]
      unfold base2
      simp only [decide_eq_true_eq]
      rfl
    have hl1 : rs.length ≤ 1 := by
      have := congrArg List.length hrs
      rw [List.length_map] at this
      rw [this]
      unfold base1
      split <;> simp
    clear hS hrs
    go_upto_if 24 with (fail)
    clear hB2
    go_cut [5] (fun v wx => ∃ rs, BS w wx g (hrdC h p PA PC xs) v rs ∧ rs.map (·.r) = base2 (h.hrd xs))
    case first =>
      cases B2
      · have HV1 : Hid (rs.map (·.r) = base2 (h.hrd xs)) := by
          show _ = _
          rw [HB2.out, HRS.out]
          simp
        go_wp2
        go_meet
        case rel => exact ⟨_, HS.out, HV1.out⟩
      · have HV1 : Hid ((rs ++ [(⟨⟨2, h.vt, 0, h.tm, 0, en0, sh0⟩, ra0⟩ : Rr)]).map (·.r) = base2 (h.hrd xs)) := by
          show _ = _
          rw [HB2.out, List.map_append, HRS.out]
          rfl
        go_wp2_with (at_builtin; refine wpList_oneG (f := recL) (W := wc) Try.underlying38 info_RecG rfl (by omega) recL_len recL_one (g + 1) rfl _ _ rfl u5 rs ⟨⟨2, h.vt, 0, h.tm, 0, en0, sh0⟩, ra0⟩ rfl rfl rfl HS.out.rs.row HS.out.size (by omega) (by omega) ?_; intro v1 w2 ho2 hg2 hat2; have HP := Lib.hid (HS.out.push ho2 hg2 hat2 ⟨InN.nil, InSh.zero _⟩ (ra0_all _ _)); clear ho2 hg2 hat2)
        go_meet
        case rel => exact ⟨_, HP.out, HV1.out⟩
    case rest =>
      clear z0 z1 z2 z3 z4 z5 z6 z7 z8 z9 z10 HS HB2 HRS hl1
      obtain ⟨rs, hS, hrs⟩ := hcut
      have HS := Lib.hid hS
      have HRS := Lib.hid hrs
      have hl2 : rs.length ≤ 2 := by
        have := congrArg List.length hrs
        rw [List.length_map] at this
        rw [this]
        exact base2_length _
      obtain ⟨z0, z1, z2, z3, z4, z5, z6, z7, z8, z9, z10⟩ := hS.blk.hrd
      obtain ⟨I0, hI0⟩ : ∃ I0, h.sh.i = I0 := ⟨_, rfl⟩
      have hi0 : 0 ≤ I0 := by have := HWF.out.sh.i.1; simp only [Hb.hrd] at this; omega
      have hi1 : I0 ≤ 4611686018427387904 := by have := HOK.out.i; simp only [Hb.hrd] at this; omega
      have HI0 := Lib.hid hI0
      have HI1 := Lib.hid hi1
      obtain ⟨HC, hHC⟩ : ∃ HC, hrdC h p PA PC xs = HC := ⟨_, rfl⟩
      have z3v : HC[3]? = some (.int .u64 I0) := by rw [← hHC, ← hI0]; rfl
      have HZ3 := Lib.hid z3v
      rw [hHC] at hS
      have HS := Lib.hid hS
      rw [hI0]
      clear hS hrs hi1 hI0 hHC z3v
      go_wp2_with fail
      clear z0 z1 z2 z3 z4 z5 z6 z7 z8 z9 z10
      go_loopw [5, 6, 7, 36] (fun v _ _ ix wr => ∃ (k : Nat) (rs' : List Rr), ix = .int .i64 (k : Int) ∧ k ≤ xs.length ∧ rs'.length = rs.length + k ∧ BS w wr g HC v rs' ∧ rs'.map (·.r) = rs.map (·.r) ++ addL I0 ((xs.map (·.e)).take k)) (fun _ _ _ ix _ => xs.length - (intOf ix).toNat)
      case atStart => exact ⟨0, rs, rfl, by omega, by omega, HS.out, by simp [addL]⟩
      case round =>
        clear HS
        obtain ⟨k, rs', rfl, hk, hl, hS, hm⟩ := hrel
        have HS := Lib.hid hS
        have HM := Lib.hid hm
        have HL := Lib.hid hl
        clear hm hl
        by_cases hkl : k < xs.length
        · obtain ⟨b, off, rfl, hbb, hat⟩ := (HIN.out.log.keep (hg ▸ hS.bel)).rows.ec (by omega)
          have hmem := List.getElem_mem hkl
          have hatk := hat k hkl
          have htk : (xs.map (·.e)).take (k + 1) = (xs.map (·.e)).take k ++ [xs[k].e] := by
            rw [List.take_succ_eq_append_getElem (by simpa using hkl)]
            simp
          have hwx := HWF.out.log _ (List.mem_map_of_mem hmem)
          obtain ⟨x, hx⟩ : ∃ x, xs[k] = x := ⟨_, rfl⟩
          rw [hx] at hatk htk hmem hwx
          obtain ⟨x0, x1, x2, x3, x4, x5, x6, x7, x8⟩ := hatk
          have HTK := Lib.hid htk
          have HMEM := Lib.hid hmem
          have HWX := Lib.hid hwx
          have hgw := hS.size
          obtain ⟨gx, hgx⟩ : ∃ gx, wr.heap.size = gx := ⟨_, rfl⟩
          have hx1 : Blk (wr.alloc (.cells (ecA x) 46)) gx 46 (ecA x) := hgx ▸ Blk.new _ _ _
          have hal : Below wr.heap.size wr (wr.alloc (.cells (ecA x) 46)) := (Below.refl _ _).alloc (Nat.le_refl _) _
          have hS1 := hS.below hal
          clear hal HS hS hat hx hmem htk hwx
          go_upto_region 12 with (fail)
          change Code.wp _ _ _ _ (wr.alloc (.cells (ecA x) 46))
          generalize (wr.alloc (.cells (ecA x) 46)) = W5 at hx1 hS1 ⊢
          try rw [hgx]
          clear x0 x1 x2 x3 x4 x5 x6 x7 x8 hgx
          have HS1 := Lib.hid hS1
          obtain ⟨x0, x1, x2, x3, x4, x5, x6, x7, x8⟩ := hx1.ec
          obtain ⟨k0, hk0⟩ : ∃ k0 : Int, (k : Int) = k0 := ⟨_, rfl⟩
          have HK0 := Lib.hid hk0
          have q0 : 0 ≤ k0 := by omega
          have q5 : k0 ≤ 1048576 := by omega
          have q1 : IntKind.u64.wrap k0 = k0 := by rw [IntKind.wrap_u64]; omega
          have q2 : IntKind.u64.wrap (I0 + k0) = I0 + k0 := by have := HI1.out; rw [IntKind.wrap_u64]; omega
          have q3 : IntKind.u64.wrap (I0 + k0 + 1) = I0 + k0 + 1 := wrap_u1 _ (by omega) (by have := HI1.out; omega)
          have hix0 : 0 ≤ I0 + k0 + 1 := by omega
          have hix1 : I0 + k0 + 1 < 18446744073709551616 := by have := HI1.out; omega
          obtain ⟨J, hJ⟩ : ∃ J, I0 + k0 + 1 = J := ⟨_, rfl⟩
          have q4 : IntKind.u64.wrap (I0 + k0 + 1) = J := q3.trans hJ
          rw [hJ] at hix0 hix1
          have HJ := Lib.hid hJ
          have wfr : Rc.Wf ⟨3, 0, 0, 0, J, x.e, sh0⟩ := rc3_wf J x.e hix0 hix1 HWX.out
          have X7 := r13_CopyRec_any W5 ⟨3, 0, 0, 0, J, x.e, sh0⟩ ⟨x.A, x.c, sa0⟩ ⟨(HIN.out.log.inn x HMEM.out).keep (hg ▸ hS1.bel), InSh.zero _⟩ wfr
          unfold recV at X7
          have X7' := Lib.hid X7
          have z3 := (hS1.blk.cell 3).trans HZ3.out
          rw [hk0]
          clear hx1 hS1 hk0 hix0 hix1 hJ wfr X7 q3
          go_wp2_with fail
          refine X7'.out.mono ?_
          rintro e w7 ⟨a7, rfl, hi7, hall7, hB7⟩
          have HS7 := Lib.hid (HS1.out.below hB7)
          have hne7 : (⟨⟨3, 0, 0, 0, J, x.e, sh0⟩, a7⟩ : Rr).all (fun q => u5.ownBlock ≠ some q.block) := hall7.imp (fun q hq hh => by have := (HS1.out.rs.row.lt _ hh).2; omega)
          have HNE7 := Lib.hid hne7
          have HI7 := Lib.hid hi7
          clear hB7 hall7 hi7 hne7 x0 x1 x2 x3 x4 x5 x6 x7 x8 z3 X7' q1 q2 q4
          go_wp2_with (first
            | (at_builtin; refine wpList_oneG (f := recL) (W := w7) Try.underlying38 info_RecG rfl (by omega) recL_len recL_one (g + 1) rfl _ _ rfl u5 rs' ⟨⟨3, 0, 0, 0, J, x.e, sh0⟩, a7⟩ rfl rfl rfl HS7.out.rs.row HS7.out.size (by have := HL.out; omega) (by omega) ?_; intro v1 w8 ho8 hg8 hat8; have HP := Lib.hid (HS7.out.push ho8 hg8 hat8 HI7.out HNE7.out); clear ho8 hg8 hat8))
          rw [← HK0.out]
          go_roundw
          case rel => exact ⟨k + 1, rs' ++ [⟨⟨3, 0, 0, 0, J, x.e, sh0⟩, a7⟩], by go_num, by omega, by have := HL.out; simp; omega, HP.out, by rw [HTK.out, addL_app, List.map_append, HM.out, List.append_assoc, ← HJ.out, ← HK0.out, List.length_take, List.length_map, Nat.min_eq_left (by omega)]; rfl⟩
          case measure => simp [intOf]; omega
        · obtain rfl : k = xs.length := by omega
          obtain ⟨A9, c9, rfl, hin9⟩ := hS.rs.open (by have := HL.out; omega)
          have HIN9 := Lib.hid hin9
          clear hin9 hS
          go_wp2
          go_ret2
          exact ⟨A9, c9, rs', by rw [HV.out.1]; rfl, by rw [HM.out, HV.out.2, HRS.out, HI0.out.symm, List.take_of_length_le (by simp)]; rfl, HIN9.out, HS.out.bel⟩
end Go.Proofs.Ytadkkhbbempaaaa

/- Lists of records compared by the document: two that are the same. -/
namespace Go.Proofs.Ytadkkhbbempaaaa
set_option maxRecDepth 100000
open Go.RowKit

/-- A record stands from a cell on. -/
def RowAt (w : World) (b o : Nat) (x : Rr) : Prop := ∀ (j : Nat) (u : Value), (recL x)[j]? = some u → w.cell? ⟨b, o + j, none⟩ = some u
theorem InRs.at {w : World} {A : Option Addr} {c : Nat} {rs : List Rr} (h : InRs w A c rs) (h0 : 0 < rs.length) : ∃ b off, A = some ⟨b, off, none⟩ ∧ b < w.heap.size ∧ ∀ (j : Nat) (hj : j < rs.length), RowAt w b (off + j * 21) rs[j] := by
  obtain ⟨b, off, e, hb, hc⟩ := h.rows.all recL_len h0
  refine ⟨b, off, e, hb, fun j hj i u hu => ?_⟩
  have hi : i < 21 := by
    have := (List.getElem?_eq_some_iff.1 hu).1
    rw [recL_len] at this
    exact this
  rw [Nat.add_assoc]
  exact hc j hj i u hi hu

set_option maxHeartbeats 8000000 in
theorem r13_SameRecs_eq (w : World) (A1 : Option Addr) (c1 : Nat) (xs : List Rr) (A2 : Option Addr) (c2 : Nat) (ys : List Rr) (h1 : InRs w A1 c1 xs) (h2 : InRs w A2 c2 ys) (he : xs.map (·.r) = ys.map (·.r)) (hl : xs.length ≤ 100000000) :
    Calls Try.prog 19 #[.slice A1 xs.length c1, .slice A2 ys.length c2] w fun e w' => e = .returned (.bool true) ∧ Below w.heap.size w w' := by
  have hlen : ys.length = xs.length := by
    have := congrArg List.length he
    simpa using this.symm
  rw [hlen]
  obtain ⟨g, hg⟩ : ∃ g, w.heap.size = g := ⟨_, rfl⟩
  rw [hg]
  have H1 := Lib.hid h1
  have H2 := Lib.hid h2
  have HLEN := Lib.hid hlen
  have HEQ := Lib.hid he
  obtain ⟨n, hn⟩ : ∃ n, xs.length = n := ⟨_, rfl⟩
  have HN := Lib.hid hn
  rw [hn] at hl ⊢
  clear h1 h2 he hlen hn
  go_enter Try.func19, Try.ntmps19
  go_wp2_with fail
  go_loopw [5, 13] (fun _ iv wr => ∃ k : Nat, iv = .int .i64 (k : Int) ∧ k ≤ n ∧ Below g w wr) (fun _ iv _ => n - (intOf iv).toNat)
  case atStart => exact ⟨0, rfl, by omega, Below.refl _ _⟩
  case round =>
    obtain ⟨k, rfl, hk, hB⟩ := hrel
    have HB := Lib.hid hB
    by_cases hkl : k < n
    · have hk1 : k < xs.length := by have := HN.out; omega
      have hk2 : k < ys.length := by have := HLEN.out; omega
      obtain ⟨b, off, rfl, hbb, hat1⟩ := H1.out.at (by omega)
      obtain ⟨b2, off2, rfl, hbb2, hat2⟩ := H2.out.at (by omega)
      have hxy : xs[k].r = ys[k].r := by
        have h3 : (xs.map (·.r))[k]? = (ys.map (·.r))[k]? := by rw [HEQ.out]
        simp only [List.getElem?_map, List.getElem?_eq_getElem hk1, List.getElem?_eq_getElem hk2, Option.map_some, Option.some.injEq] at h3
        exact h3
      have a1 := hat1 k hk1
      have a2 := hat2 k hk2
      have i1 := (H1.out.inn _ (List.getElem_mem hk1)).keep (hg ▸ hB.drew)
      have i2 := (H2.out.inn _ (List.getElem_mem hk2)).keep (hg ▸ hB.drew)
      obtain ⟨x, hx⟩ : ∃ x, xs[k] = x := ⟨_, rfl⟩
      obtain ⟨y, hy⟩ : ∃ y, ys[k] = y := ⟨_, rfl⟩
      rw [hx] at a1 i1 hxy
      rw [hy] at a2 i2 hxy
      have C9 := r13_SameRec_of wr.drew x.r y.r x.a y.a i1 i2 (.inl (congrArg Rc.sh hxy))
      have HXY := Lib.hid hxy
      have hc : ∀ b o, b < g → wr.drew.cell? ⟨b, o, none⟩ = w.cell? ⟨b, o, none⟩ := fun b o hb => hB.drew.cell (p := ⟨b, o, none⟩) hb
      have hS : RowAt wr.drew b (off + k * 21) x ∧ RowAt wr.drew b2 (off2 + k * 21) y := ⟨fun j u hu => (hc _ _ (by omega)).trans (a1 j u hu), fun j u hu => (hc _ _ (by omega)).trans (a2 j u hu)⟩
      have HS := Lib.hid hS
      have HC9 := Lib.hid C9
      clear hx hy hat1 hat2 a1 a2 i1 i2 hxy hc hS C9 hB
      go_wp2_with fail
      refine wp_region_held_drew (S := fun w' => RowAt w' b (off + k * 21) x ∧ RowAt w' b2 (off2 + k * 21) y) (by kernel_rfl) HS.out (fun hHeld => ?_)
      refine wpAnyH_take (i := 0) (v := ?v0) rfl (by kernel_rfl) (by kernel_rfl) (by kernel_rfl) (fun _ _ _ h => h) (Or.inl ⟨by rfl, ?y0⟩) (by assumption) ?r0
      case y0 => (intro w hSw; (try dsimp only at hSw); (try go_simp); first | done | with_reducible rfl)
      ((try simp only [List.getElem_toArray, List.getElem_cons_zero]); (try simp only [Act.put, List.setIfInBounds_toArray, List.set_cons_zero, List.set_cons_succ]))
      refine wpAnyH_take (i := 1) (v := ?v1) rfl (by kernel_rfl) (by kernel_rfl) (by kernel_rfl) (fun _ _ _ h => h) (Or.inl ⟨by rfl, ?y1⟩) (by assumption) ?r1
      case y1 => (intro w hSw; (try dsimp only at hSw); (try go_simp); first | done | with_reducible rfl)
      ((try simp only [List.getElem_toArray, List.getElem_cons_succ, List.getElem_cons_zero]); (try simp only [Act.put, List.setIfInBounds_toArray, List.set_cons_zero, List.set_cons_succ]))
      refine wpAnyH_take (i := 2) (v := ?v2) rfl (by kernel_rfl) (by kernel_rfl) (by kernel_rfl) (fun _ _ _ h => h) (Or.inl ⟨by rfl, ?y2⟩) (by assumption) ?r2
      case y2 => (intro w hSw; (try dsimp only at hSw); (try go_simp); first | done | with_reducible rfl)
      ((try simp only [List.getElem_toArray, List.getElem_cons_succ, List.getElem_cons_zero]); (try simp only [Act.put, List.setIfInBounds_toArray, List.set_cons_zero, List.set_cons_succ]))
      refine wpAnyH_take (i := 3) (v := .agg (recC x.r x.a)) rfl (by kernel_rfl) (by kernel_rfl) (by kernel_rfl) (fun _ _ _ h => h) (yieldsIf_load_mid (by rfl) 48 _ rfl b (off + k * 21) rfl (recL x) _ (fun w hw' j v hj => hw'.1 j v hj) Try.underlying48 rfl info_Rec) (by assumption) ?r3
      ((try simp only [List.getElem_toArray, List.getElem_cons_succ, List.getElem_cons_zero]); (try simp only [Act.put, List.setIfInBounds_toArray, List.set_cons_zero, List.set_cons_succ]))
      refine wpAnyH_take (i := 4) (v := ?v4) rfl (by kernel_rfl) (by kernel_rfl) (by kernel_rfl) (fun _ _ _ h => h) (Or.inl ⟨by rfl, ?y4⟩) (by assumption) ?r4
      case y4 => (intro w hSw; (try dsimp only at hSw); (try go_simp); first | done | with_reducible rfl)
      ((try simp only [List.getElem_toArray, List.getElem_cons_succ, List.getElem_cons_zero]); (try simp only [Act.put, List.setIfInBounds_toArray, List.set_cons_zero, List.set_cons_succ]))
      refine wpAnyH_take (i := 5) (v := ?v5) rfl (by kernel_rfl) (by kernel_rfl) (by kernel_rfl) (fun _ _ _ h => h) (Or.inl ⟨by rfl, ?y5⟩) (by assumption) ?r5
      case y5 => (intro w hSw; (try dsimp only at hSw); (try go_simp); first | done | with_reducible rfl)
      ((try simp only [List.getElem_toArray, List.getElem_cons_succ, List.getElem_cons_zero]); (try simp only [Act.put, List.setIfInBounds_toArray, List.set_cons_zero, List.set_cons_succ]))
      refine wpAnyH_take (i := 6) (v := ?v6) rfl (by kernel_rfl) (by kernel_rfl) (by kernel_rfl) (fun _ _ _ h => h) (Or.inl ⟨by rfl, ?y6⟩) (by assumption) ?r6
      case y6 => (intro w hSw; (try dsimp only at hSw); (try go_simp); first | done | with_reducible rfl)
      ((try simp only [List.getElem_toArray, List.getElem_cons_succ, List.getElem_cons_zero]); (try simp only [Act.put, List.setIfInBounds_toArray, List.set_cons_zero, List.set_cons_succ]))
      refine wpAnyH_take (i := 7) (v := .agg (recC y.r y.a)) rfl (by kernel_rfl) (by kernel_rfl) (by kernel_rfl) (fun _ _ _ h => h) (yieldsIf_load_mid (by rfl) 48 _ rfl b2 (off2 + k * 21) rfl (recL y) _ (fun w hw' j v hj => hw'.2 j v hj) Try.underlying48 rfl info_Rec) (by assumption) ?r7
      ((try simp only [List.getElem_toArray, List.getElem_cons_succ, List.getElem_cons_zero]); (try simp only [Act.put, List.setIfInBounds_toArray, List.set_cons_zero, List.set_cons_succ]))
      have hLT : g ≤ wr.drew.heap.size := by show g ≤ wr.heap.size; have := HB.out.size; omega
      refine wpAnyH_ready (rs := [8]) (by kernel_rfl) (by simp) ?_
      refine AllReadyH.cons rfl (fun K hK => ?_) AllReadyH.nil
      go_simp
      refine HC9.out.mono ?_
      rintro x5 w5 ⟨V, rfl, hV, hB5⟩
      obtain rfl : V = true := hV.2 HXY.out
      have hB6 := HB.out.drew.trans (hB5.mono hLT)
      have HB6 := Lib.hid hB6
      have hc : ∀ b o, b < g → w5.cell? ⟨b, o, none⟩ = w.cell? ⟨b, o, none⟩ := fun b o hb => hB6.cell (p := ⟨b, o, none⟩) hb
      have hc0 : ∀ b o, b < g → wr.drew.cell? ⟨b, o, none⟩ = w.cell? ⟨b, o, none⟩ := fun b o hb => HB.out.drew.cell (p := ⟨b, o, none⟩) hb
      have hS5 : RowAt w5 b (off + k * 21) x ∧ RowAt w5 b2 (off2 + k * 21) y := ⟨fun j u hu => ((hc _ _ (by omega)).trans (hc0 _ _ (by omega)).symm).trans (HS.out.1 j u hu), fun j u hu => ((hc _ _ (by omega)).trans (hc0 _ _ (by omega)).symm).trans (HS.out.2 j u hu)⟩
      clear hB5 hB6 hc hc0 hV
      go_simp
      refine hK.out _ _ hS5 (fun hHeld2 => ?_)
      clear hK K hHeld hS5
      have hHeld := hHeld2
      clear hHeld2
      ((try simp only [List.getElem_toArray, List.getElem_cons_succ, List.getElem_cons_zero]); (try simp only [Act.put, List.setIfInBounds_toArray, List.set_cons_zero, List.set_cons_succ]))
      refine wpAnyH_take (i := 9) (v := ?v9) rfl (by kernel_rfl) (by kernel_rfl) (by kernel_rfl) (fun _ _ _ h => h) (Or.inl ⟨by rfl, ?y9⟩) (by assumption) ?r9
      case y9 => (intro w hSw; (try dsimp only at hSw); (try go_simp); first | done | with_reducible rfl)
      ((try simp only [List.getElem_toArray, List.getElem_cons_succ, List.getElem_cons_zero]); (try simp only [Act.put, List.setIfInBounds_toArray, List.set_cons_zero, List.set_cons_succ]))
      refine wpAnyH_done (by kernel_rfl) ?_ _
      clear hHeld HS
      go_wp2
      go_roundw
      case rel => exact ⟨k + 1, by go_num, by omega, HB6.out⟩
      case measure => simp [intOf]; omega
    · obtain rfl : k = n := by omega
      go_wp2
      go_ret
      exact ⟨rfl, HB.out⟩
end Go.Proofs.Ytadkkhbbempaaaa

/- What the bound of an '..UptoSaid' statement gives (after the seat's own page of lemmas, which is given to be copied), and of slices of bytes. -/
namespace Go.Proofs.Ytadkkhbbempaaaa
set_option maxRecDepth 100000
namespace bulks
theorem one_le {H : Type} (d : DataW H) : 1 ≤ Rows.uptoBulk d := by
  cases d with
  | lit l => cases l <;> simp [Rows.uptoBulk]
  | nil => simp [Rows.uptoBulk]
  | ptr d => simp [Rows.uptoBulk]
  | slice elems spare => simp [Rows.uptoBulk]
  | agg parts => simp [Rows.uptoBulk]
  | iface t d => simp [Rows.uptoBulk]
  | map entries => simp [Rows.uptoBulk]
  | held h => simp [Rows.uptoBulk]

/-- a part's bulk is at most the whole's -/
theorem part_le {H : Type} {d : DataW H} {l : List (DataW H)} (h : d ∈ l) : Rows.uptoBulk d ≤ Rows.uptoBulkAll l := by
  induction l with
  | nil => cases h
  | cons x r ih =>
    simp only [Rows.uptoBulkAll]
    cases List.mem_cons.1 h with
    | inl e => subst e; omega
    | inr e => have := ih e; omega

theorem append {H : Type} (l r : List (DataW H)) : Rows.uptoBulkAll (l ++ r) = Rows.uptoBulkAll l + Rows.uptoBulkAll r := by
  induction l with
  | nil => simp [Rows.uptoBulkAll]
  | cons x l ih => simp only [List.cons_append, Rows.uptoBulkAll, ih]; omega

/-- so many values at the most -/
theorem length_le {H : Type} (l : List (DataW H)) : l.length ≤ Rows.uptoBulkAll l := by
  induction l with
  | nil => simp [Rows.uptoBulkAll]
  | cons x r ih => have := one_le x; simp only [Rows.uptoBulkAll, List.length_cons]; omega

/-- a slice's places, and what they hold -/
theorem slice_le {H : Type} (elems spare : List (DataW H)) : elems.length + spare.length + 1 ≤ Rows.uptoBulk (.slice elems spare) := by
  have h1 := length_le elems
  have h2 := length_le spare
  simp only [Rows.uptoBulk]
  omega
theorem slice_elems {H : Type} (elems spare : List (DataW H)) : Rows.uptoBulkAll elems + 1 ≤ Rows.uptoBulk (.slice elems spare) := by
  simp only [Rows.uptoBulk]
  omega

/-- a string's letters -/
theorem string_eq {H : Type} (bytes : List UInt8) : Rows.uptoBulk (DataW.lit (H := H) (.string bytes)) = bytes.length + 1 := by
  simp [Rows.uptoBulk]

/-- THE BOUND, as the builder hands it over ('hk') -/
theorem bound {H : Type} {l : List (DataW H)} (hk : Rows.uptoSmall H l = true) : Rows.uptoBulkAll l ≤ 1048576 := by
  simpa [Rows.uptoSmall] using hk

/-- ROOM: a slice of n elements of b bytes, grown by append: below the 2^48 bytes that append, make and a Builder bear. Here n up to 2^21, b up to 4,096: put your own numbers. -/
theorem room {n b : Nat} (hn : n ≤ 2097152) (hb : b ≤ 4096) : (n + n / 4 + 192) * b ≤ 281474976710656 := by
  have h : (n + n / 4 + 192) * b ≤ 2621632 * 4096 := Nat.mul_le_mul (by omega) hb
  omega
end bulks
open Go.ChangeShapes Go.WideShapes Go.ChangeAt Go.RowKit
/-- A slice's elements are no more than the datum's bulk. -/
theorem bulks.bytes_len {H : Type} {enc : TypeId × Value → H} {W : World} {d : DataW H} {p : List MemPlace} {A : Option Addr} {n c : Nat}
    (h : DataW.Trod enc Try.prog W 0 (fun _ => true) true 75 (.slice A n c) d p) : n ≤ Rows.uptoBulk d := by
  obtain ⟨fuel, hf⟩ := h
  rcases open_ints Try.underlying75 Try.underlying5 (by kernel_rfl) hf with ⟨hcs, _⟩ | ⟨x, l, c, zs, hcs, _, hl, hm, hz, hx, hcell, hwz⟩
  · simp [Value.cells] at hcs
    omega
  · simp [Value.cells] at hcs
    obtain ⟨rfl, rfl, rfl⟩ := hcs
    have hz' : zs.length = c := by simpa using hz
    obtain ⟨hx, _⟩ := Prod.mk.inj hx
    subst hx
    have := bulks.slice_le (lits (H := H) .u8 (zs.take n)) (lits .u8 (zs.drop n))
    have e : (lits (H := H) .u8 (zs.take n)).length = n := by simp [lits]; omega
    omega
end Go.Proofs.Ytadkkhbbempaaaa

/- What the bound of an '..UptoSaid' statement gives of what lasts: its log's length. -/
namespace Go.Proofs.Ytadkkhbbempaaaa
set_option maxRecDepth 100000
open Go.Joins Go.ChangeShapes Go.WideShapes Go.RowKit Go.Deep Go.ChangeAt

theorem bulks.agg {H : Type} {d : DataW H} {l : List (DataW H)} (h : d ∈ l) : Rows.uptoBulk d ≤ Rows.uptoBulk (.agg l) := by
  have := bulks.part_le h
  simp only [Rows.uptoBulk]
  omega
theorem bulks.hard_len {H : Type} {enc : TypeId × Value → H} {W : World} {v : Value} {d : DataW H} {p : List MemPlace} (h : DataW.Trod enc Try.prog W 0 (fun _ => true) true 32 v d p)
    {hb : Hb} {q : Sa} {PA : Option Addr} {PC : Nat} {ls : List Ec} (e : v = hrdV hb q PA PC ls) : ls.length ≤ Rows.uptoBulk d := by
  subst e
  obtain ⟨fuel, hf⟩ := h
  obtain ⟨xs, n, hx, _, hlen, hg⟩ := parts Try.underlying32 hf
  match xs, hlen with
  | [y0, y1, y2, y3, y4], _ =>
    have g4 := hg 4 _ rfl 10 1 rfl (by kernel_rfl)
    simp only [hrdV, Value.cells, List.drop_zero, List.drop_succ_cons, List.take_succ_cons, List.take_zero, List.getElem?_cons_zero, List.getElem?_cons_succ] at g4
    simp only [Prod.mk.injEq] at hx
    obtain ⟨rfl, _⟩ := hx
    have hb : Rows.uptoBulk y4.1 ≤ Rows.uptoBulk (.agg ([y0, y1, y2, y3, y4].map (·.1))) := bulks.agg (by simp)
    refine Nat.le_trans ?_ hb
    rcases open_slice Try.underlying30 g4 with ⟨hcs, _⟩ | ⟨a, len, cap, m, n, D, Pl, hcs, _, hl, hm, hmm, hx, hi⟩
    · simp only [List.cons.injEq, Value.slice.injEq, and_true] at hcs
      omega
    · simp only [List.cons.injEq, Value.slice.injEq, and_true] at hcs
      obtain ⟨_, rfl, _⟩ := hcs
      rw [hx]
      refine Nat.le_trans ?_ (bulks.slice_le _ _)
      simp only [List.length_map, List.length_range]
      omega
end Go.Proofs.Ytadkkhbbempaaaa
