/- Texts drawn together (1 of them): words, plain laws and walks that the row leans on. -/
import Derived.Test.YtjnkpjhggeibeaaP4
import Derived.Test.YtjnkpjhggeibeaaP1
import Derived.Test.YtjnkpjhggeibeaaP7
import Derived.Deep.WholeRow
import Derived.Deep.DeepCutAuto
/- Messages: the code's Check, by kinds. -/
namespace Go.Proofs.Ytjnkpjhggeibeaa
set_option maxRecDepth 100000
set_option linter.unusedSimpArgs false
open Go.RowKit

structure HasAt (w : World) (g : Nat) (a b c d e f h : Bool) : Prop where
  z0 : w.cell? ⟨g, 0, none⟩ = some (.bool a)
  z1 : w.cell? ⟨g, 1, none⟩ = some (.bool b)
  z2 : w.cell? ⟨g, 2, none⟩ = some (.bool c)
  z3 : w.cell? ⟨g, 3, none⟩ = some (.bool d)
  z4 : w.cell? ⟨g, 4, none⟩ = some (.bool e)
  z5 : w.cell? ⟨g, 5, none⟩ = some (.bool f)
  z6 : w.cell? ⟨g, 6, none⟩ = some (.bool h)
theorem Blk.has {w : World} {g : Nat} {T : TypeId} {a b c d e f h : Bool} (k : Blk w g T (hasA a b c d e f h)) : HasAt w g a b c d e f h := by
  constructor <;> (rw [k.cell]; rfl)
set_option maxHeartbeats 8000000 in
theorem msg_Check_0 (w : World) (m : Mb) (p : Sa) (PA : Option Addr) (PC : Nat) (xs : List Ec) (hin : InE w PA PC xs) (hwf : ∀ x ∈ xs, x.e.Wf) (hsh : InSh w m.sh p) (wsh : m.sh.Wf) (kk : mK m.k = false) (kt : mT m.k = false) (ki : mI m.k = false) (kl : mL m.k = false) (kc : mC m.k = false) (kf : mF m.k = false) (ke : mE m.k = false) (ks : mS m.k = false) (k3 : (m.k == 3) = false) (k6 : (m.k == 6) = false) :
    Calls Try.prog 5 #[mgV m p PA xs.length PC] w fun e w' => e = .returned (.int .i64 (errMsg (codeM m (xs.map (·.e))))) ∧ Below w.heap.size w w' := by
  obtain ⟨g, hg⟩ : ∃ g, w.heap.size = g := ⟨_, rfl⟩
  have hb0 : Blk (w.alloc (.cells (mgC m p PA xs.length PC) 32)) g 32 (mgC m p PA xs.length PC) := hg ▸ Blk.new _ _ _
  have hB0 : Below g w (w.alloc (.cells (mgC m p PA xs.length PC) 32)) := (Below.refl _ _).alloc (by omega) _
  have HSH := Lib.hid (hsh.keep (hg ▸ hB0))
  have HIN := Lib.hid (hin.keep (hg ▸ hB0))
  have HWF := Lib.hid hwf
  have C1 := fun W => msg_of_any W m.k
  unfold hasK at C1
  rw [kt, ki, kl, kc, kf, ke, ks, kk] at C1
  have C1 := Lib.hid C1
  have CS := Lib.hid (fun W (h : InSh W m.sh p) => shot_Check_any W m.sh.i m.sh.t p.A0 p.c0 m.sh.ns m.sh.lim m.sh.nxt p.A1 p.c1 m.sh.hs p.A2 p.c2 m.sh.ls h.n h.h h.l wsh.hs wsh.ls wsh.nxt.2)
  have CN := fun W => msg_none_any W m.sh p
  unfold shtV at CN
  have CN := Lib.hid CN
  obtain ⟨V, hV⟩ : ∃ V, codeM m (xs.map (·.e)) = V := ⟨_, rfl⟩
  rw [hV, hg]
  obtain ⟨F, hF⟩ : ∃ F, true = F := ⟨_, rfl⟩
  obtain ⟨N, hN⟩ : ∃ N, shz m.sh = N := ⟨_, rfl⟩
  rw [hN] at CN
  have e3 : (m.k = 3) = False := by simpa using k3
  have e6 : (m.k = 6) = False := by simpa using k6
  have HV : Hid (V = ((baseB m && (fldB m xs.length && true)) && (N && F))) := by
    show _ = _
    rw [← hV, ← hF, ← hN, codeM, ks, kl]
    simp only [e3, e6, List.length_map, if_true, if_false, Bool.not_true, Bool.not_false, Bool.true_or, Bool.false_or, Bool.and_true]
    cases shz m.sh <;> simp
  have HF := Lib.hid hF
  have HFB : Hid (fldB m xs.length = ((decide (0 < m.tm) == false) && ((false || m.ix == 0) && ((false || m.lt == 0) && ((false || m.cm == 0) && ((false || !m.fl) && (false || (xs.length : Int) == 0))))))) := by
    show _ = _
    rw [fldB, kt, ki, kl, kc, kf, ke]
  have HBB : Hid (baseB m = false) := by
    show _ = _
    rw [baseB, kk]
    rfl
  clear hV hin hwf hsh e3 e6 hF hN kk kt ki kl kc kf ke ks wsh
  unfold mgV
  go_enter Try.func5, Try.ntmps5
  go_upto_region 1 with (fail)
  change Code.wp _ _ _ _ (w.alloc (.cells (mgC m p PA xs.length PC) 32))
  generalize (w.alloc (.cells (mgC m p PA xs.length PC) 32)) = W0 at hb0 hB0 HSH HIN ⊢
  try rw [hg]
  have z0 := hb0.mg.z0
  go_wp2_with fail
  refine (C1.out _).mono ?_
  rintro e w1 ⟨rfl, hB1⟩
  have hb1 := hb0.below hB1 hb0.lt
  have HSH := Lib.hid (HSH.out.keep hB1)
  have HIN := Lib.hid (HIN.out.keep hB1)
  have HB1 := Lib.hid (hB0.trans (hB1.mono (Nat.le_of_lt hb0.lt)))
  clear z0 hb0 hB0 hB1 hg C1
  have HK1 := Lib.hid hb1
  clear hb1
  go_upto_region 2 with (refine wpList_store_row rfl 41 _ _ rfl w1.heap.size (hasA false false false false false false false) rfl rfl 41 (hasA false false false false false false false) (Blk.new w1 41 _) info_Has rfl (hasA_one _ _ _ _ _ _ _) ?_; rw [World.setRow_alloc_new])
  have hb2 := HK1.out.alloc (.cells (hasA false false false false false false false) 41)
  have hh2 : Blk (w1.alloc (.cells (hasA false false false false false false false) 41)) w1.heap.size 41 (hasA false false false false false false false) := Blk.new _ _ _
  have HB2 := Lib.hid (HB1.out.alloc (Nat.le_of_lt HK1.out.lt) (.cells (hasA false false false false false false false) 41))
  have HIN := Lib.hid (HIN.out.keep ((Below.refl w1.heap.size w1).alloc (Nat.le_refl _) (.cells (hasA false false false false false false false) 41)))
  have HSH := Lib.hid (HSH.out.keep ((Below.refl w1.heap.size w1).alloc (Nat.le_refl _) (.cells (hasA false false false false false false false) 41)))
  clear HB1 HK1
  generalize hgh : w1.heap.size = gh at hh2 ⊢
  generalize (w1.alloc (.cells (hasA false false false false false false false) 41)) = W2 at hb2 hh2 HB2 HIN HSH ⊢
  clear hgh
  have HK2 := Lib.hid hb2
  obtain ⟨z0, z1, z2, z3, z4, z5, z6, z7, z8, z9, z10, z11, z12, z13, z14, z15⟩ := hb2.mg
  obtain ⟨q0, q1, q2, q3, q4, q5, q6⟩ := hh2.has
  clear hb2 hh2
  obtain ⟨FL, hFL⟩ : ∃ b, m.fl = b := ⟨_, rfl⟩
  rw [hFL] at z7
  have HFL := Lib.hid hFL
  clear hFL
  obtain ⟨G1, hG1⟩ : ∃ G1, baseB m = G1 := ⟨_, rfl⟩
  rw [hG1] at HV HBB
  clear hG1
  go_cut [5] (fun x wx => x = .bool G1 ∧ wx = W2)
  case first =>
    go_wp2
    go_meet
    case rel => exact ⟨by rw [HBB.out], rfl⟩
  case rest =>
    obtain ⟨rfl, rfl⟩ := hcut
    obtain ⟨G2, hG2⟩ : ∃ G2, (G1 && fldB m xs.length) = G2 := ⟨_, rfl⟩
    have HV2 : Hid (V = ((G2 && true) && (N && F))) := by
      show _ = _
      rw [HV.out, ← hG2]
      simp only [Bool.and_assoc]
    have HG2 : Hid (G2 = (G1 && fldB m xs.length)) := hG2.symm
    clear hG2 HBB HV
    go_upto_region 3 with (fail)
    go_cut [5] (fun x wx => x = .bool G2 ∧ wx = wc)
    case first =>
      cases G1
      · have HG : Hid (G2 = false) := by
          show _ = _
          rw [HG2.out]
          rfl
        go_wp2
        go_meet
        case rel => exact ⟨by rw [HG.out], rfl⟩
      have HG2 : Hid (G2 = fldB m xs.length) := by
        show _ = _
        rw [HG2.out, Bool.true_and]
      cases b1 : (decide (m.tm > 0))
      rotate_left
      · have b0 : decide (0 < m.tm) = true := b1
        have b9 : decide (m.tm ≤ 0) = false := by have := of_decide_eq_true b1; exact decide_eq_false (by omega)
        have HG : Hid (G2 = false) := by
          show _ = _
          rw [HG2.out, HFB.out, b0]
          simp
        go_wp2
        go_meet
        case rel => exact ⟨by rw [HG.out], rfl⟩
      have b0 : decide (0 < m.tm) = false := b1
      have b9 : decide (m.tm ≤ 0) = true := by have := of_decide_eq_false b1; exact decide_eq_true (by omega)
      cases b2 : (m.ix == 0)
      · have HG : Hid (G2 = false) := by
          show _ = _
          rw [HG2.out, HFB.out, b2]
          simp
        go_wp2
        go_meet
        case rel => exact ⟨by rw [HG.out], rfl⟩
      cases b3 : (m.lt == 0)
      · have HG : Hid (G2 = false) := by
          show _ = _
          rw [HG2.out, HFB.out, b3]
          simp
        go_wp2
        go_meet
        case rel => exact ⟨by rw [HG.out], rfl⟩
      cases b4 : (m.cm == 0)
      · have HG : Hid (G2 = false) := by
          show _ = _
          rw [HG2.out, HFB.out, b4]
          simp
        go_wp2
        go_meet
        case rel => exact ⟨by rw [HG.out], rfl⟩
      cases FL
      rotate_left
      · have HG : Hid (G2 = false) := by
          show _ = _
          rw [HG2.out, HFB.out, HFL.out]
          simp
        go_wp2
        go_meet
        case rel => exact ⟨by rw [HG.out], rfl⟩
      cases b6 : ((xs.length : Int) == 0)
      · have HG : Hid (G2 = false) := by
          show _ = _
          rw [HG2.out, HFB.out, b6]
          simp
        go_wp2
        go_meet
        case rel => exact ⟨by rw [HG.out], rfl⟩
      have HG : Hid (G2 = true) := by
        show _ = _
        rw [HG2.out, HFB.out, b0, b2, b3, b4, HFL.out, b6]
        rfl
      clear b0
      go_wp2
      go_meet
      case rel => exact ⟨by rw [HG.out], rfl⟩
    case rest =>
      obtain ⟨rfl, rfl⟩ := hcut
      clear HG2 HFB G1
      have HV3 : Hid (V = (G2 && (N && F))) := by
        show _ = _
        rw [HV2.out, Bool.and_true]
      clear HV2
      have hlt : g < wc.heap.size := HK2.out.lt
      go_wp2_with fail
      refine (CN.out _).mono ?_
      rintro e w2 ⟨rfl, hB3⟩
      have HB := Lib.hid (HB2.out.trans (hB3.mono (by omega)))
      have HIN := Lib.hid (HIN.out.keep hB3)
      have hb3 := HK2.out.below hB3 HK2.out.lt
      clear hB3 z0 z1 z2 z3 z4 z5 z6 z7 z8 z9 z10 z11 z12 z13 z14 z15 q0 q1 q2 q3 q4 q5 q6 hlt
      cases N
      · have HN : Hid (V = false) := by
          show _ = _
          rw [HV3.out]
          cases G2 <;> rfl
        clear hb3
        go_wp2
        go_ret
        exact ⟨by rw [HN.out]; rfl, HB.out⟩
      have hlt : g < w2.heap.size := hb3.lt
      obtain ⟨z0, z1, z2, z3, z4, z5, z6, z7, z8, z9, z10, z11, z12, z13, z14, z15⟩ := hb3.mg
      clear hb3
      have HN : Hid (V = G2) := by
        show _ = _
        rw [HV3.out, ← HF.out, Bool.true_and, Bool.and_true]
      cases G2
      all_goals
        go_wp2
        go_ret
        exact ⟨by rw [HN.out]; rfl, HB.out⟩
set_option maxHeartbeats 8000000 in
theorem msg_Check_1 (w : World) (m : Mb) (p : Sa) (PA : Option Addr) (PC : Nat) (xs : List Ec) (hin : InE w PA PC xs) (hwf : ∀ x ∈ xs, x.e.Wf) (hsh : InSh w m.sh p) (wsh : m.sh.Wf) (kk : mK m.k = true) (kt : mT m.k = true) (ki : mI m.k = true) (kl : mL m.k = true) (kc : mC m.k = false) (kf : mF m.k = false) (ke : mE m.k = false) (ks : mS m.k = false) (k3 : (m.k == 3) = false) (k6 : (m.k == 6) = false) :
    Calls Try.prog 5 #[mgV m p PA xs.length PC] w fun e w' => e = .returned (.int .i64 (errMsg (codeM m (xs.map (·.e))))) ∧ Below w.heap.size w w' := by
  obtain ⟨g, hg⟩ : ∃ g, w.heap.size = g := ⟨_, rfl⟩
  have hb0 : Blk (w.alloc (.cells (mgC m p PA xs.length PC) 32)) g 32 (mgC m p PA xs.length PC) := hg ▸ Blk.new _ _ _
  have hB0 : Below g w (w.alloc (.cells (mgC m p PA xs.length PC) 32)) := (Below.refl _ _).alloc (by omega) _
  have HSH := Lib.hid (hsh.keep (hg ▸ hB0))
  have HIN := Lib.hid (hin.keep (hg ▸ hB0))
  have HWF := Lib.hid hwf
  have C1 := fun W => msg_of_any W m.k
  unfold hasK at C1
  rw [kt, ki, kl, kc, kf, ke, ks, kk] at C1
  have C1 := Lib.hid C1
  have CS := Lib.hid (fun W (h : InSh W m.sh p) => shot_Check_any W m.sh.i m.sh.t p.A0 p.c0 m.sh.ns m.sh.lim m.sh.nxt p.A1 p.c1 m.sh.hs p.A2 p.c2 m.sh.ls h.n h.h h.l wsh.hs wsh.ls wsh.nxt.2)
  have CN := fun W => msg_none_any W m.sh p
  unfold shtV at CN
  have CN := Lib.hid CN
  obtain ⟨V, hV⟩ : ∃ V, codeM m (xs.map (·.e)) = V := ⟨_, rfl⟩
  rw [hV, hg]
  obtain ⟨F, hF⟩ : ∃ F, true = F := ⟨_, rfl⟩
  obtain ⟨N, hN⟩ : ∃ N, shz m.sh = N := ⟨_, rfl⟩
  rw [hN] at CN
  have e3 : (m.k = 3) = False := by simpa using k3
  have e6 : (m.k = 6) = False := by simpa using k6
  have HV : Hid (V = ((baseB m && (fldB m xs.length && logB m)) && (N && F))) := by
    show _ = _
    rw [← hV, ← hF, ← hN, codeM, ks, kl]
    simp only [e3, e6, List.length_map, if_true, if_false, Bool.not_true, Bool.not_false, Bool.true_or, Bool.false_or, Bool.and_true]
    cases shz m.sh <;> simp
  have HF := Lib.hid hF
  have HFB : Hid (fldB m xs.length = ((decide (0 < m.tm) == true) && ((true || m.ix == 0) && ((true || m.lt == 0) && ((false || m.cm == 0) && ((false || !m.fl) && (false || (xs.length : Int) == 0))))))) := by
    show _ = _
    rw [fldB, kt, ki, kl, kc, kf, ke]
  have HBB : Hid (baseB m = ((m.fr != m.o) && (decide (min m.fr m.o ≥ 1) && decide (max m.fr m.o ≤ 7)))) := by
    show _ = _
    rw [baseB, kk]
    rfl
  clear hV hin hwf hsh e3 e6 hF hN kk kt ki kl kc kf ke ks wsh
  unfold mgV
  go_enter Try.func5, Try.ntmps5
  go_upto_region 1 with (fail)
  change Code.wp _ _ _ _ (w.alloc (.cells (mgC m p PA xs.length PC) 32))
  generalize (w.alloc (.cells (mgC m p PA xs.length PC) 32)) = W0 at hb0 hB0 HSH HIN ⊢
  try rw [hg]
  have z0 := hb0.mg.z0
  go_wp2_with fail
  refine (C1.out _).mono ?_
  rintro e w1 ⟨rfl, hB1⟩
  have hb1 := hb0.below hB1 hb0.lt
  have HSH := Lib.hid (HSH.out.keep hB1)
  have HIN := Lib.hid (HIN.out.keep hB1)
  have HB1 := Lib.hid (hB0.trans (hB1.mono (Nat.le_of_lt hb0.lt)))
  clear z0 hb0 hB0 hB1 hg C1
  have HK1 := Lib.hid hb1
  clear hb1
  go_upto_region 2 with (refine wpList_store_row rfl 41 _ _ rfl w1.heap.size (hasA true true true false false false false) rfl rfl 41 (hasA false false false false false false false) (Blk.new w1 41 _) info_Has rfl (hasA_one _ _ _ _ _ _ _) ?_; rw [World.setRow_alloc_new])
  have hb2 := HK1.out.alloc (.cells (hasA true true true false false false false) 41)
  have hh2 : Blk (w1.alloc (.cells (hasA true true true false false false false) 41)) w1.heap.size 41 (hasA true true true false false false false) := Blk.new _ _ _
  have HB2 := Lib.hid (HB1.out.alloc (Nat.le_of_lt HK1.out.lt) (.cells (hasA true true true false false false false) 41))
  have HIN := Lib.hid (HIN.out.keep ((Below.refl w1.heap.size w1).alloc (Nat.le_refl _) (.cells (hasA true true true false false false false) 41)))
  have HSH := Lib.hid (HSH.out.keep ((Below.refl w1.heap.size w1).alloc (Nat.le_refl _) (.cells (hasA true true true false false false false) 41)))
  clear HB1 HK1
  generalize hgh : w1.heap.size = gh at hh2 ⊢
  generalize (w1.alloc (.cells (hasA true true true false false false false) 41)) = W2 at hb2 hh2 HB2 HIN HSH ⊢
  clear hgh
  have HK2 := Lib.hid hb2
  obtain ⟨z0, z1, z2, z3, z4, z5, z6, z7, z8, z9, z10, z11, z12, z13, z14, z15⟩ := hb2.mg
  obtain ⟨q0, q1, q2, q3, q4, q5, q6⟩ := hh2.has
  clear hb2 hh2
  obtain ⟨FL, hFL⟩ : ∃ b, m.fl = b := ⟨_, rfl⟩
  rw [hFL] at z7
  have HFL := Lib.hid hFL
  clear hFL
  obtain ⟨G1, hG1⟩ : ∃ G1, baseB m = G1 := ⟨_, rfl⟩
  rw [hG1] at HV HBB
  clear hG1
  go_cut [5] (fun x wx => x = .bool G1 ∧ wx = W2)
  case first =>
    cases a1 : (m.fr != m.o)
    · have HG : Hid (G1 = false) := by
        show _ = _
        rw [HBB.out, a1]
        simp
      go_wp2
      go_meet
      case rel => exact ⟨by rw [HG.out], rfl⟩
    cases a2 : (decide (min m.fr m.o ≥ 1))
    · have HG : Hid (G1 = false) := by
        show _ = _
        rw [HBB.out, a2]
        simp
      go_wp2
      go_meet
      case rel => exact ⟨by rw [HG.out], rfl⟩
    cases a3 : (decide (max m.fr m.o ≤ 7))
    · have HG : Hid (G1 = false) := by
        show _ = _
        rw [HBB.out, a3]
        simp
      go_wp2
      go_meet
      case rel => exact ⟨by rw [HG.out], rfl⟩
    have HG : Hid (G1 = true) := by
      show _ = _
      rw [HBB.out, a1, a2, a3]
      rfl
    go_wp2
    go_meet
    case rel => exact ⟨by rw [HG.out], rfl⟩
  case rest =>
    obtain ⟨rfl, rfl⟩ := hcut
    obtain ⟨G2, hG2⟩ : ∃ G2, (G1 && fldB m xs.length) = G2 := ⟨_, rfl⟩
    have HV2 : Hid (V = ((G2 && logB m) && (N && F))) := by
      show _ = _
      rw [HV.out, ← hG2]
      simp only [Bool.and_assoc]
    have HG2 : Hid (G2 = (G1 && fldB m xs.length)) := hG2.symm
    clear hG2 HBB HV
    go_upto_region 3 with (fail)
    go_cut [5] (fun x wx => x = .bool G2 ∧ wx = wc)
    case first =>
      cases G1
      · have HG : Hid (G2 = false) := by
          show _ = _
          rw [HG2.out]
          rfl
        go_wp2
        go_meet
        case rel => exact ⟨by rw [HG.out], rfl⟩
      have HG2 : Hid (G2 = fldB m xs.length) := by
        show _ = _
        rw [HG2.out, Bool.true_and]
      cases b1 : (decide (m.tm > 0))
      · have b0 : decide (0 < m.tm) = false := b1
        have HG : Hid (G2 = false) := by
          show _ = _
          rw [HG2.out, HFB.out, b0]
          simp
        go_wp2
        go_meet
        case rel => exact ⟨by rw [HG.out], rfl⟩
      have b0 : decide (0 < m.tm) = true := b1
      cases b2 : (m.cm == 0)
      · have HG : Hid (G2 = false) := by
          show _ = _
          rw [HG2.out, HFB.out, b2]
          simp
        go_wp2
        go_meet
        case rel => exact ⟨by rw [HG.out], rfl⟩
      cases FL
      rotate_left
      · have HG : Hid (G2 = false) := by
          show _ = _
          rw [HG2.out, HFB.out, HFL.out]
          simp
        go_wp2
        go_meet
        case rel => exact ⟨by rw [HG.out], rfl⟩
      cases b4 : ((xs.length : Int) == 0)
      · have HG : Hid (G2 = false) := by
          show _ = _
          rw [HG2.out, HFB.out, b4]
          simp
        go_wp2
        go_meet
        case rel => exact ⟨by rw [HG.out], rfl⟩
      have HG : Hid (G2 = true) := by
        show _ = _
        rw [HG2.out, HFB.out, b0, b2, HFL.out, b4]
        rfl
      clear b0
      go_wp2
      go_meet
      case rel => exact ⟨by rw [HG.out], rfl⟩
    case rest =>
      obtain ⟨rfl, rfl⟩ := hcut
      clear HG2 HFB G1
      obtain ⟨G3, hG3⟩ : ∃ G3, (G2 && logB m) = G3 := ⟨_, rfl⟩
      have HV3 : Hid (V = (G3 && (N && F))) := by
        show _ = _
        rw [HV2.out, hG3]
      have HG3 : Hid (G3 = (G2 && (((m.ix == 0) == (m.lt == 0)) && decide (m.lt ≤ m.tm)))) := hG3.symm
      clear hG3 HV2
      go_upto_if 92 with (fail)
      go_cut [5] (fun x wx => x = .bool G3 ∧ wx = wc)
      case first =>
        cases G2
        · have HG : Hid (G3 = false) := by
            show _ = _
            rw [HG3.out]
            rfl
          go_wp2
          go_meet
          case rel => exact ⟨by rw [HG.out], rfl⟩
        cases c1 : ((m.ix == 0) == (m.lt == 0))
        · have HG : Hid (G3 = false) := by
            show _ = _
            rw [HG3.out, c1]
            rfl
          go_wp2
          go_meet
          case rel => exact ⟨by rw [HG.out], rfl⟩
        have HG : Hid (G3 = decide (m.lt ≤ m.tm)) := by
          show _ = _
          rw [HG3.out, c1, Bool.true_and, Bool.true_and]
        go_wp2
        go_meet
        case rel => exact ⟨by rw [HG.out], rfl⟩
      case rest =>
        obtain ⟨rfl, rfl⟩ := hcut
        clear HG3 G2
        have hlt : g < wc.heap.size := HK2.out.lt
        go_wp2_with fail
        refine (CN.out _).mono ?_
        rintro e w2 ⟨rfl, hB3⟩
        have HB := Lib.hid (HB2.out.trans (hB3.mono (by omega)))
        have HIN := Lib.hid (HIN.out.keep hB3)
        have hb3 := HK2.out.below hB3 HK2.out.lt
        clear hB3 z0 z1 z2 z3 z4 z5 z6 z7 z8 z9 z10 z11 z12 z13 z14 z15 q0 q1 q2 q3 q4 q5 q6 hlt
        cases N
        · have HN : Hid (V = false) := by
            show _ = _
            rw [HV3.out]
            cases G3 <;> rfl
          clear hb3
          go_wp2
          go_ret
          exact ⟨by rw [HN.out]; rfl, HB.out⟩
        have hlt : g < w2.heap.size := hb3.lt
        obtain ⟨z0, z1, z2, z3, z4, z5, z6, z7, z8, z9, z10, z11, z12, z13, z14, z15⟩ := hb3.mg
        clear hb3
        have HN : Hid (V = G3) := by
          show _ = _
          rw [HV3.out, ← HF.out, Bool.true_and, Bool.and_true]
        cases G3
        all_goals
          go_wp2
          go_ret
          exact ⟨by rw [HN.out]; rfl, HB.out⟩
set_option maxHeartbeats 8000000 in
theorem msg_Check_2 (w : World) (m : Mb) (p : Sa) (PA : Option Addr) (PC : Nat) (xs : List Ec) (hin : InE w PA PC xs) (hwf : ∀ x ∈ xs, x.e.Wf) (hsh : InSh w m.sh p) (wsh : m.sh.Wf) (kk : mK m.k = true) (kt : mT m.k = true) (ki : mI m.k = false) (kl : mL m.k = false) (kc : mC m.k = false) (kf : mF m.k = true) (ke : mE m.k = false) (ks : mS m.k = false) (k3 : (m.k == 3) = false) (k6 : (m.k == 6) = false) :
    Calls Try.prog 5 #[mgV m p PA xs.length PC] w fun e w' => e = .returned (.int .i64 (errMsg (codeM m (xs.map (·.e))))) ∧ Below w.heap.size w w' := by
  obtain ⟨g, hg⟩ : ∃ g, w.heap.size = g := ⟨_, rfl⟩
  have hb0 : Blk (w.alloc (.cells (mgC m p PA xs.length PC) 32)) g 32 (mgC m p PA xs.length PC) := hg ▸ Blk.new _ _ _
  have hB0 : Below g w (w.alloc (.cells (mgC m p PA xs.length PC) 32)) := (Below.refl _ _).alloc (by omega) _
  have HSH := Lib.hid (hsh.keep (hg ▸ hB0))
  have HIN := Lib.hid (hin.keep (hg ▸ hB0))
  have HWF := Lib.hid hwf
  have C1 := fun W => msg_of_any W m.k
  unfold hasK at C1
  rw [kt, ki, kl, kc, kf, ke, ks, kk] at C1
  have C1 := Lib.hid C1
  have CS := Lib.hid (fun W (h : InSh W m.sh p) => shot_Check_any W m.sh.i m.sh.t p.A0 p.c0 m.sh.ns m.sh.lim m.sh.nxt p.A1 p.c1 m.sh.hs p.A2 p.c2 m.sh.ls h.n h.h h.l wsh.hs wsh.ls wsh.nxt.2)
  have CN := fun W => msg_none_any W m.sh p
  unfold shtV at CN
  have CN := Lib.hid CN
  obtain ⟨V, hV⟩ : ∃ V, codeM m (xs.map (·.e)) = V := ⟨_, rfl⟩
  rw [hV, hg]
  obtain ⟨F, hF⟩ : ∃ F, true = F := ⟨_, rfl⟩
  obtain ⟨N, hN⟩ : ∃ N, shz m.sh = N := ⟨_, rfl⟩
  rw [hN] at CN
  have e3 : (m.k = 3) = False := by simpa using k3
  have e6 : (m.k = 6) = False := by simpa using k6
  have HV : Hid (V = ((baseB m && (fldB m xs.length && true)) && (N && F))) := by
    show _ = _
    rw [← hV, ← hF, ← hN, codeM, ks, kl]
    simp only [e3, e6, List.length_map, if_true, if_false, Bool.not_true, Bool.not_false, Bool.true_or, Bool.false_or, Bool.and_true]
    cases shz m.sh <;> simp
  have HF := Lib.hid hF
  have HFB : Hid (fldB m xs.length = ((decide (0 < m.tm) == true) && ((false || m.ix == 0) && ((false || m.lt == 0) && ((false || m.cm == 0) && ((true || !m.fl) && (false || (xs.length : Int) == 0))))))) := by
    show _ = _
    rw [fldB, kt, ki, kl, kc, kf, ke]
  have HBB : Hid (baseB m = ((m.fr != m.o) && (decide (min m.fr m.o ≥ 1) && decide (max m.fr m.o ≤ 7)))) := by
    show _ = _
    rw [baseB, kk]
    rfl
  clear hV hin hwf hsh e3 e6 hF hN kk kt ki kl kc kf ke ks wsh
  unfold mgV
  go_enter Try.func5, Try.ntmps5
  go_upto_region 1 with (fail)
  change Code.wp _ _ _ _ (w.alloc (.cells (mgC m p PA xs.length PC) 32))
  generalize (w.alloc (.cells (mgC m p PA xs.length PC) 32)) = W0 at hb0 hB0 HSH HIN ⊢
  try rw [hg]
  have z0 := hb0.mg.z0
  go_wp2_with fail
  refine (C1.out _).mono ?_
  rintro e w1 ⟨rfl, hB1⟩
  have hb1 := hb0.below hB1 hb0.lt
  have HSH := Lib.hid (HSH.out.keep hB1)
  have HIN := Lib.hid (HIN.out.keep hB1)
  have HB1 := Lib.hid (hB0.trans (hB1.mono (Nat.le_of_lt hb0.lt)))
  clear z0 hb0 hB0 hB1 hg C1
  have HK1 := Lib.hid hb1
  clear hb1
  go_upto_region 2 with (refine wpList_store_row rfl 41 _ _ rfl w1.heap.size (hasA true false false false true false false) rfl rfl 41 (hasA false false false false false false false) (Blk.new w1 41 _) info_Has rfl (hasA_one _ _ _ _ _ _ _) ?_; rw [World.setRow_alloc_new])
  have hb2 := HK1.out.alloc (.cells (hasA true false false false true false false) 41)
  have hh2 : Blk (w1.alloc (.cells (hasA true false false false true false false) 41)) w1.heap.size 41 (hasA true false false false true false false) := Blk.new _ _ _
  have HB2 := Lib.hid (HB1.out.alloc (Nat.le_of_lt HK1.out.lt) (.cells (hasA true false false false true false false) 41))
  have HIN := Lib.hid (HIN.out.keep ((Below.refl w1.heap.size w1).alloc (Nat.le_refl _) (.cells (hasA true false false false true false false) 41)))
  have HSH := Lib.hid (HSH.out.keep ((Below.refl w1.heap.size w1).alloc (Nat.le_refl _) (.cells (hasA true false false false true false false) 41)))
  clear HB1 HK1
  generalize hgh : w1.heap.size = gh at hh2 ⊢
  generalize (w1.alloc (.cells (hasA true false false false true false false) 41)) = W2 at hb2 hh2 HB2 HIN HSH ⊢
  clear hgh
  have HK2 := Lib.hid hb2
  obtain ⟨z0, z1, z2, z3, z4, z5, z6, z7, z8, z9, z10, z11, z12, z13, z14, z15⟩ := hb2.mg
  obtain ⟨q0, q1, q2, q3, q4, q5, q6⟩ := hh2.has
  clear hb2 hh2
  obtain ⟨FL, hFL⟩ : ∃ b, m.fl = b := ⟨_, rfl⟩
  rw [hFL] at z7
  have HFL := Lib.hid hFL
  clear hFL
  obtain ⟨G1, hG1⟩ : ∃ G1, baseB m = G1 := ⟨_, rfl⟩
  rw [hG1] at HV HBB
  clear hG1
  go_cut [5] (fun x wx => x = .bool G1 ∧ wx = W2)
  case first =>
    cases a1 : (m.fr != m.o)
    · have HG : Hid (G1 = false) := by
        show _ = _
        rw [HBB.out, a1]
        simp
      go_wp2
      go_meet
      case rel => exact ⟨by rw [HG.out], rfl⟩
    cases a2 : (decide (min m.fr m.o ≥ 1))
    · have HG : Hid (G1 = false) := by
        show _ = _
        rw [HBB.out, a2]
        simp
      go_wp2
      go_meet
      case rel => exact ⟨by rw [HG.out], rfl⟩
    cases a3 : (decide (max m.fr m.o ≤ 7))
    · have HG : Hid (G1 = false) := by
        show _ = _
        rw [HBB.out, a3]
        simp
      go_wp2
      go_meet
      case rel => exact ⟨by rw [HG.out], rfl⟩
    have HG : Hid (G1 = true) := by
      show _ = _
      rw [HBB.out, a1, a2, a3]
      rfl
    go_wp2
    go_meet
    case rel => exact ⟨by rw [HG.out], rfl⟩
  case rest =>
    obtain ⟨rfl, rfl⟩ := hcut
    obtain ⟨G2, hG2⟩ : ∃ G2, (G1 && fldB m xs.length) = G2 := ⟨_, rfl⟩
    have HV2 : Hid (V = ((G2 && true) && (N && F))) := by
      show _ = _
      rw [HV.out, ← hG2]
      simp only [Bool.and_assoc]
    have HG2 : Hid (G2 = (G1 && fldB m xs.length)) := hG2.symm
    clear hG2 HBB HV
    go_upto_region 3 with (fail)
    go_cut [5] (fun x wx => x = .bool G2 ∧ wx = wc)
    case first =>
      cases G1
      · have HG : Hid (G2 = false) := by
          show _ = _
          rw [HG2.out]
          rfl
        go_wp2
        go_meet
        case rel => exact ⟨by rw [HG.out], rfl⟩
      have HG2 : Hid (G2 = fldB m xs.length) := by
        show _ = _
        rw [HG2.out, Bool.true_and]
      cases b1 : (decide (m.tm > 0))
      · have b0 : decide (0 < m.tm) = false := b1
        have HG : Hid (G2 = false) := by
          show _ = _
          rw [HG2.out, HFB.out, b0]
          simp
        go_wp2
        go_meet
        case rel => exact ⟨by rw [HG.out], rfl⟩
      have b0 : decide (0 < m.tm) = true := b1
      cases b2 : (m.ix == 0)
      · have HG : Hid (G2 = false) := by
          show _ = _
          rw [HG2.out, HFB.out, b2]
          simp
        go_wp2
        go_meet
        case rel => exact ⟨by rw [HG.out], rfl⟩
      cases b3 : (m.lt == 0)
      · have HG : Hid (G2 = false) := by
          show _ = _
          rw [HG2.out, HFB.out, b3]
          simp
        go_wp2
        go_meet
        case rel => exact ⟨by rw [HG.out], rfl⟩
      cases b4 : (m.cm == 0)
      · have HG : Hid (G2 = false) := by
          show _ = _
          rw [HG2.out, HFB.out, b4]
          simp
        go_wp2
        go_meet
        case rel => exact ⟨by rw [HG.out], rfl⟩
      cases b5 : ((xs.length : Int) == 0)
      · have HG : Hid (G2 = false) := by
          show _ = _
          rw [HG2.out, HFB.out, b5]
          simp
        go_wp2
        go_meet
        case rel => exact ⟨by rw [HG.out], rfl⟩
      have HG : Hid (G2 = true) := by
        show _ = _
        rw [HG2.out, HFB.out, b0, b2, b3, b4, b5]
        rfl
      clear b0
      go_wp2
      go_meet
      case rel => exact ⟨by rw [HG.out], rfl⟩
    case rest =>
      obtain ⟨rfl, rfl⟩ := hcut
      clear HG2 HFB G1
      have HV3 : Hid (V = (G2 && (N && F))) := by
        show _ = _
        rw [HV2.out, Bool.and_true]
      clear HV2
      have hlt : g < wc.heap.size := HK2.out.lt
      go_wp2_with fail
      refine (CN.out _).mono ?_
      rintro e w2 ⟨rfl, hB3⟩
      have HB := Lib.hid (HB2.out.trans (hB3.mono (by omega)))
      have HIN := Lib.hid (HIN.out.keep hB3)
      have hb3 := HK2.out.below hB3 HK2.out.lt
      clear hB3 z0 z1 z2 z3 z4 z5 z6 z7 z8 z9 z10 z11 z12 z13 z14 z15 q0 q1 q2 q3 q4 q5 q6 hlt
      cases N
      · have HN : Hid (V = false) := by
          show _ = _
          rw [HV3.out]
          cases G2 <;> rfl
        clear hb3
        go_wp2
        go_ret
        exact ⟨by rw [HN.out]; rfl, HB.out⟩
      have hlt : g < w2.heap.size := hb3.lt
      obtain ⟨z0, z1, z2, z3, z4, z5, z6, z7, z8, z9, z10, z11, z12, z13, z14, z15⟩ := hb3.mg
      clear hb3
      have HN : Hid (V = G2) := by
        show _ = _
        rw [HV3.out, ← HF.out, Bool.true_and, Bool.and_true]
      cases G2
      all_goals
        go_wp2
        go_ret
        exact ⟨by rw [HN.out]; rfl, HB.out⟩
set_option maxHeartbeats 8000000 in
theorem msg_Check_3 (w : World) (m : Mb) (p : Sa) (PA : Option Addr) (PC : Nat) (xs : List Ec) (hin : InE w PA PC xs) (hwf : ∀ x ∈ xs, x.e.Wf) (hsh : InSh w m.sh p) (wsh : m.sh.Wf) (kk : mK m.k = true) (kt : mT m.k = true) (ki : mI m.k = true) (kl : mL m.k = true) (kc : mC m.k = true) (kf : mF m.k = false) (ke : mE m.k = true) (ks : mS m.k = false) (k3 : (m.k == 3) = true) (k6 : (m.k == 6) = false) :
    Calls Try.prog 5 #[mgV m p PA xs.length PC] w fun e w' => e = .returned (.int .i64 (errMsg (codeM m (xs.map (·.e))))) ∧ Below w.heap.size w w' := by
  obtain ⟨g, hg⟩ : ∃ g, w.heap.size = g := ⟨_, rfl⟩
  have hb0 : Blk (w.alloc (.cells (mgC m p PA xs.length PC) 32)) g 32 (mgC m p PA xs.length PC) := hg ▸ Blk.new _ _ _
  have hB0 : Below g w (w.alloc (.cells (mgC m p PA xs.length PC) 32)) := (Below.refl _ _).alloc (by omega) _
  have HSH := Lib.hid (hsh.keep (hg ▸ hB0))
  have HIN := Lib.hid (hin.keep (hg ▸ hB0))
  have HWF := Lib.hid hwf
  have C1 := fun W => msg_of_any W m.k
  unfold hasK at C1
  rw [kt, ki, kl, kc, kf, ke, ks, kk] at C1
  have C1 := Lib.hid C1
  have CS := Lib.hid (fun W (h : InSh W m.sh p) => shot_Check_any W m.sh.i m.sh.t p.A0 p.c0 m.sh.ns m.sh.lim m.sh.nxt p.A1 p.c1 m.sh.hs p.A2 p.c2 m.sh.ls h.n h.h h.l wsh.hs wsh.ls wsh.nxt.2)
  have CN := fun W => msg_none_any W m.sh p
  unfold shtV at CN
  have CN := Lib.hid CN
  obtain ⟨V, hV⟩ : ∃ V, codeM m (xs.map (·.e)) = V := ⟨_, rfl⟩
  rw [hV, hg]
  obtain ⟨F, hF⟩ : ∃ F, fedB m (xs.map (·.e)) = F := ⟨_, rfl⟩
  obtain ⟨N, hN⟩ : ∃ N, shz m.sh = N := ⟨_, rfl⟩
  rw [hN] at CN
  have e3 : (m.k = 3) = True := by simpa using k3
  have e6 : (m.k = 6) = False := by simpa using k6
  have HV : Hid (V = ((baseB m && (fldB m xs.length && logB m)) && (N && F))) := by
    show _ = _
    rw [← hV, ← hF, ← hN, codeM, ks, kl]
    simp only [e3, e6, List.length_map, if_true, if_false, Bool.not_true, Bool.not_false, Bool.true_or, Bool.false_or, Bool.and_true]
    cases shz m.sh <;> simp
  have HF := Lib.hid hF
  have HFB : Hid (fldB m xs.length = ((decide (0 < m.tm) == true) && ((true || m.ix == 0) && ((true || m.lt == 0) && ((true || m.cm == 0) && ((false || !m.fl) && (true || (xs.length : Int) == 0))))))) := by
    show _ = _
    rw [fldB, kt, ki, kl, kc, kf, ke]
  have HBB : Hid (baseB m = ((m.fr != m.o) && (decide (min m.fr m.o ≥ 1) && decide (max m.fr m.o ≤ 7)))) := by
    show _ = _
    rw [baseB, kk]
    rfl
  clear hV hin hwf hsh e3 e6 hF hN kk kt ki kl kc kf ke ks wsh
  unfold mgV
  go_enter Try.func5, Try.ntmps5
  go_upto_region 1 with (fail)
  change Code.wp _ _ _ _ (w.alloc (.cells (mgC m p PA xs.length PC) 32))
  generalize (w.alloc (.cells (mgC m p PA xs.length PC) 32)) = W0 at hb0 hB0 HSH HIN ⊢
  try rw [hg]
  have z0 := hb0.mg.z0
  go_wp2_with fail
  refine (C1.out _).mono ?_
  rintro e w1 ⟨rfl, hB1⟩
  have hb1 := hb0.below hB1 hb0.lt
  have HSH := Lib.hid (HSH.out.keep hB1)
  have HIN := Lib.hid (HIN.out.keep hB1)
  have HB1 := Lib.hid (hB0.trans (hB1.mono (Nat.le_of_lt hb0.lt)))
  clear z0 hb0 hB0 hB1 hg C1
  have HK1 := Lib.hid hb1
  clear hb1
  go_upto_region 2 with (refine wpList_store_row rfl 41 _ _ rfl w1.heap.size (hasA true true true true false true false) rfl rfl 41 (hasA false false false false false false false) (Blk.new w1 41 _) info_Has rfl (hasA_one _ _ _ _ _ _ _) ?_; rw [World.setRow_alloc_new])
  have hb2 := HK1.out.alloc (.cells (hasA true true true true false true false) 41)
  have hh2 : Blk (w1.alloc (.cells (hasA true true true true false true false) 41)) w1.heap.size 41 (hasA true true true true false true false) := Blk.new _ _ _
  have HB2 := Lib.hid (HB1.out.alloc (Nat.le_of_lt HK1.out.lt) (.cells (hasA true true true true false true false) 41))
  have HIN := Lib.hid (HIN.out.keep ((Below.refl w1.heap.size w1).alloc (Nat.le_refl _) (.cells (hasA true true true true false true false) 41)))
  have HSH := Lib.hid (HSH.out.keep ((Below.refl w1.heap.size w1).alloc (Nat.le_refl _) (.cells (hasA true true true true false true false) 41)))
  clear HB1 HK1
  generalize hgh : w1.heap.size = gh at hh2 ⊢
  generalize (w1.alloc (.cells (hasA true true true true false true false) 41)) = W2 at hb2 hh2 HB2 HIN HSH ⊢
  clear hgh
  have HK2 := Lib.hid hb2
  obtain ⟨z0, z1, z2, z3, z4, z5, z6, z7, z8, z9, z10, z11, z12, z13, z14, z15⟩ := hb2.mg
  obtain ⟨q0, q1, q2, q3, q4, q5, q6⟩ := hh2.has
  clear hb2 hh2
  obtain ⟨FL, hFL⟩ : ∃ b, m.fl = b := ⟨_, rfl⟩
  rw [hFL] at z7
  have HFL := Lib.hid hFL
  clear hFL
  obtain ⟨G1, hG1⟩ : ∃ G1, baseB m = G1 := ⟨_, rfl⟩
  rw [hG1] at HV HBB
  clear hG1
  go_cut [5] (fun x wx => x = .bool G1 ∧ wx = W2)
  case first =>
    cases a1 : (m.fr != m.o)
    · have HG : Hid (G1 = false) := by
        show _ = _
        rw [HBB.out, a1]
        simp
      go_wp2
      go_meet
      case rel => exact ⟨by rw [HG.out], rfl⟩
    cases a2 : (decide (min m.fr m.o ≥ 1))
    · have HG : Hid (G1 = false) := by
        show _ = _
        rw [HBB.out, a2]
        simp
      go_wp2
      go_meet
      case rel => exact ⟨by rw [HG.out], rfl⟩
    cases a3 : (decide (max m.fr m.o ≤ 7))
    · have HG : Hid (G1 = false) := by
        show _ = _
        rw [HBB.out, a3]
        simp
      go_wp2
      go_meet
      case rel => exact ⟨by rw [HG.out], rfl⟩
    have HG : Hid (G1 = true) := by
      show _ = _
      rw [HBB.out, a1, a2, a3]
      rfl
    go_wp2
    go_meet
    case rel => exact ⟨by rw [HG.out], rfl⟩
  case rest =>
    obtain ⟨rfl, rfl⟩ := hcut
    obtain ⟨G2, hG2⟩ : ∃ G2, (G1 && fldB m xs.length) = G2 := ⟨_, rfl⟩
    have HV2 : Hid (V = ((G2 && logB m) && (N && F))) := by
      show _ = _
      rw [HV.out, ← hG2]
      simp only [Bool.and_assoc]
    have HG2 : Hid (G2 = (G1 && fldB m xs.length)) := hG2.symm
    clear hG2 HBB HV
    go_upto_region 3 with (fail)
    go_cut [5] (fun x wx => x = .bool G2 ∧ wx = wc)
    case first =>
      cases G1
      · have HG : Hid (G2 = false) := by
          show _ = _
          rw [HG2.out]
          rfl
        go_wp2
        go_meet
        case rel => exact ⟨by rw [HG.out], rfl⟩
      have HG2 : Hid (G2 = fldB m xs.length) := by
        show _ = _
        rw [HG2.out, Bool.true_and]
      cases b1 : (decide (m.tm > 0))
      · have b0 : decide (0 < m.tm) = false := b1
        have HG : Hid (G2 = false) := by
          show _ = _
          rw [HG2.out, HFB.out, b0]
          simp
        go_wp2
        go_meet
        case rel => exact ⟨by rw [HG.out], rfl⟩
      have b0 : decide (0 < m.tm) = true := b1
      cases FL
      rotate_left
      · have HG : Hid (G2 = false) := by
          show _ = _
          rw [HG2.out, HFB.out, HFL.out]
          simp
        go_wp2
        go_meet
        case rel => exact ⟨by rw [HG.out], rfl⟩
      have HG : Hid (G2 = true) := by
        show _ = _
        rw [HG2.out, HFB.out, b0, HFL.out]
        rfl
      clear b0
      go_wp2
      go_meet
      case rel => exact ⟨by rw [HG.out], rfl⟩
    case rest =>
      obtain ⟨rfl, rfl⟩ := hcut
      clear HG2 HFB G1
      obtain ⟨G3, hG3⟩ : ∃ G3, (G2 && logB m) = G3 := ⟨_, rfl⟩
      have HV3 : Hid (V = (G3 && (N && F))) := by
        show _ = _
        rw [HV2.out, hG3]
      have HG3 : Hid (G3 = (G2 && (((m.ix == 0) == (m.lt == 0)) && decide (m.lt ≤ m.tm)))) := hG3.symm
      clear hG3 HV2
      go_upto_if 92 with (fail)
      go_cut [5] (fun x wx => x = .bool G3 ∧ wx = wc)
      case first =>
        cases G2
        · have HG : Hid (G3 = false) := by
            show _ = _
            rw [HG3.out]
            rfl
          go_wp2
          go_meet
          case rel => exact ⟨by rw [HG.out], rfl⟩
        cases c1 : ((m.ix == 0) == (m.lt == 0))
        · have HG : Hid (G3 = false) := by
            show _ = _
            rw [HG3.out, c1]
            rfl
          go_wp2
          go_meet
          case rel => exact ⟨by rw [HG.out], rfl⟩
        have HG : Hid (G3 = decide (m.lt ≤ m.tm)) := by
          show _ = _
          rw [HG3.out, c1, Bool.true_and, Bool.true_and]
        go_wp2
        go_meet
        case rel => exact ⟨by rw [HG.out], rfl⟩
      case rest =>
        obtain ⟨rfl, rfl⟩ := hcut
        clear HG3 G2
        have hlt : g < wc.heap.size := HK2.out.lt
        go_wp2_with fail
        refine (CN.out _).mono ?_
        rintro e w2 ⟨rfl, hB3⟩
        have HB := Lib.hid (HB2.out.trans (hB3.mono (by omega)))
        have HIN := Lib.hid (HIN.out.keep hB3)
        have hb3 := HK2.out.below hB3 HK2.out.lt
        clear hB3 z0 z1 z2 z3 z4 z5 z6 z7 z8 z9 z10 z11 z12 z13 z14 z15 q0 q1 q2 q3 q4 q5 q6 hlt
        cases N
        · have HN : Hid (V = false) := by
            show _ = _
            rw [HV3.out]
            cases G3 <;> rfl
          clear hb3
          go_wp2
          go_ret
          exact ⟨by rw [HN.out]; rfl, HB.out⟩
        have hlt : g < w2.heap.size := hb3.lt
        obtain ⟨z0, z1, z2, z3, z4, z5, z6, z7, z8, z9, z10, z11, z12, z13, z14, z15⟩ := hb3.mg
        clear hb3
        cases G3
        · have HN : Hid (V = false) := by
            show _ = _
            rw [HV3.out]
            rfl
          go_wp2
          go_ret
          exact ⟨by rw [HN.out]; rfl, HB.out⟩
        have CE := msg_fed_any _ m p PA PC xs HIN.out HWF.out
        rw [HF.out] at CE
        unfold mgV at CE
        have CE := Lib.hid CE
        have HN : Hid (V = F) := by
          show _ = _
          rw [HV3.out, Bool.true_and, Bool.true_and]
        cases F
        all_goals
          go_wp2_with fail
          refine CE.out.mono ?_
          rintro e w3 ⟨rfl, hB4⟩
          have HB := Lib.hid (HB.out.trans (hB4.mono (by omega)))
          clear hB4 z0 z1 z2 z3 z4 z5 z6 z7 z8 z9 z10 z11 z12 z13 z14 z15
          go_wp2
          go_ret
          exact ⟨by rw [HN.out]; rfl, HB.out⟩
set_option maxHeartbeats 8000000 in
theorem msg_Check_4 (w : World) (m : Mb) (p : Sa) (PA : Option Addr) (PC : Nat) (xs : List Ec) (hin : InE w PA PC xs) (hwf : ∀ x ∈ xs, x.e.Wf) (hsh : InSh w m.sh p) (wsh : m.sh.Wf) (kk : mK m.k = true) (kt : mT m.k = true) (ki : mI m.k = true) (kl : mL m.k = false) (kc : mC m.k = false) (kf : mF m.k = true) (ke : mE m.k = false) (ks : mS m.k = false) (k3 : (m.k == 3) = false) (k6 : (m.k == 6) = false) :
    Calls Try.prog 5 #[mgV m p PA xs.length PC] w fun e w' => e = .returned (.int .i64 (errMsg (codeM m (xs.map (·.e))))) ∧ Below w.heap.size w w' := by
  obtain ⟨g, hg⟩ : ∃ g, w.heap.size = g := ⟨_, rfl⟩
  have hb0 : Blk (w.alloc (.cells (mgC m p PA xs.length PC) 32)) g 32 (mgC m p PA xs.length PC) := hg ▸ Blk.new _ _ _
  have hB0 : Below g w (w.alloc (.cells (mgC m p PA xs.length PC) 32)) := (Below.refl _ _).alloc (by omega) _
  have HSH := Lib.hid (hsh.keep (hg ▸ hB0))
  have HIN := Lib.hid (hin.keep (hg ▸ hB0))
  have HWF := Lib.hid hwf
  have C1 := fun W => msg_of_any W m.k
  unfold hasK at C1
  rw [kt, ki, kl, kc, kf, ke, ks, kk] at C1
  have C1 := Lib.hid C1
  have CS := Lib.hid (fun W (h : InSh W m.sh p) => shot_Check_any W m.sh.i m.sh.t p.A0 p.c0 m.sh.ns m.sh.lim m.sh.nxt p.A1 p.c1 m.sh.hs p.A2 p.c2 m.sh.ls h.n h.h h.l wsh.hs wsh.ls wsh.nxt.2)
  have CN := fun W => msg_none_any W m.sh p
  unfold shtV at CN
  have CN := Lib.hid CN
  obtain ⟨V, hV⟩ : ∃ V, codeM m (xs.map (·.e)) = V := ⟨_, rfl⟩
  rw [hV, hg]
  obtain ⟨F, hF⟩ : ∃ F, true = F := ⟨_, rfl⟩
  obtain ⟨N, hN⟩ : ∃ N, shz m.sh = N := ⟨_, rfl⟩
  rw [hN] at CN
  have e3 : (m.k = 3) = False := by simpa using k3
  have e6 : (m.k = 6) = False := by simpa using k6
  have HV : Hid (V = ((baseB m && (fldB m xs.length && true)) && (N && F))) := by
    show _ = _
    rw [← hV, ← hF, ← hN, codeM, ks, kl]
    simp only [e3, e6, List.length_map, if_true, if_false, Bool.not_true, Bool.not_false, Bool.true_or, Bool.false_or, Bool.and_true]
    cases shz m.sh <;> simp
  have HF := Lib.hid hF
  have HFB : Hid (fldB m xs.length = ((decide (0 < m.tm) == true) && ((true || m.ix == 0) && ((false || m.lt == 0) && ((false || m.cm == 0) && ((true || !m.fl) && (false || (xs.length : Int) == 0))))))) := by
    show _ = _
    rw [fldB, kt, ki, kl, kc, kf, ke]
  have HBB : Hid (baseB m = ((m.fr != m.o) && (decide (min m.fr m.o ≥ 1) && decide (max m.fr m.o ≤ 7)))) := by
    show _ = _
    rw [baseB, kk]
    rfl
  clear hV hin hwf hsh e3 e6 hF hN kk kt ki kl kc kf ke ks wsh
  unfold mgV
  go_enter Try.func5, Try.ntmps5
  go_upto_region 1 with (fail)
  change Code.wp _ _ _ _ (w.alloc (.cells (mgC m p PA xs.length PC) 32))
  generalize (w.alloc (.cells (mgC m p PA xs.length PC) 32)) = W0 at hb0 hB0 HSH HIN ⊢
  try rw [hg]
  have z0 := hb0.mg.z0
  go_wp2_with fail
  refine (C1.out _).mono ?_
  rintro e w1 ⟨rfl, hB1⟩
  have hb1 := hb0.below hB1 hb0.lt
  have HSH := Lib.hid (HSH.out.keep hB1)
  have HIN := Lib.hid (HIN.out.keep hB1)
  have HB1 := Lib.hid (hB0.trans (hB1.mono (Nat.le_of_lt hb0.lt)))
  clear z0 hb0 hB0 hB1 hg C1
  have HK1 := Lib.hid hb1
  clear hb1
  go_upto_region 2 with (refine wpList_store_row rfl 41 _ _ rfl w1.heap.size (hasA true true false false true false false) rfl rfl 41 (hasA false false false false false false false) (Blk.new w1 41 _) info_Has rfl (hasA_one _ _ _ _ _ _ _) ?_; rw [World.setRow_alloc_new])
  have hb2 := HK1.out.alloc (.cells (hasA true true false false true false false) 41)
  have hh2 : Blk (w1.alloc (.cells (hasA true true false false true false false) 41)) w1.heap.size 41 (hasA true true false false true false false) := Blk.new _ _ _
  have HB2 := Lib.hid (HB1.out.alloc (Nat.le_of_lt HK1.out.lt) (.cells (hasA true true false false true false false) 41))
  have HIN := Lib.hid (HIN.out.keep ((Below.refl w1.heap.size w1).alloc (Nat.le_refl _) (.cells (hasA true true false false true false false) 41)))
  have HSH := Lib.hid (HSH.out.keep ((Below.refl w1.heap.size w1).alloc (Nat.le_refl _) (.cells (hasA true true false false true false false) 41)))
  clear HB1 HK1
  generalize hgh : w1.heap.size = gh at hh2 ⊢
  generalize (w1.alloc (.cells (hasA true true false false true false false) 41)) = W2 at hb2 hh2 HB2 HIN HSH ⊢
  clear hgh
  have HK2 := Lib.hid hb2
  obtain ⟨z0, z1, z2, z3, z4, z5, z6, z7, z8, z9, z10, z11, z12, z13, z14, z15⟩ := hb2.mg
  obtain ⟨q0, q1, q2, q3, q4, q5, q6⟩ := hh2.has
  clear hb2 hh2
  obtain ⟨FL, hFL⟩ : ∃ b, m.fl = b := ⟨_, rfl⟩
  rw [hFL] at z7
  have HFL := Lib.hid hFL
  clear hFL
  obtain ⟨G1, hG1⟩ : ∃ G1, baseB m = G1 := ⟨_, rfl⟩
  rw [hG1] at HV HBB
  clear hG1
  go_cut [5] (fun x wx => x = .bool G1 ∧ wx = W2)
  case first =>
    cases a1 : (m.fr != m.o)
    · have HG : Hid (G1 = false) := by
        show _ = _
        rw [HBB.out, a1]
        simp
      go_wp2
      go_meet
      case rel => exact ⟨by rw [HG.out], rfl⟩
    cases a2 : (decide (min m.fr m.o ≥ 1))
    · have HG : Hid (G1 = false) := by
        show _ = _
        rw [HBB.out, a2]
        simp
      go_wp2
      go_meet
      case rel => exact ⟨by rw [HG.out], rfl⟩
    cases a3 : (decide (max m.fr m.o ≤ 7))
    · have HG : Hid (G1 = false) := by
        show _ = _
        rw [HBB.out, a3]
        simp
      go_wp2
      go_meet
      case rel => exact ⟨by rw [HG.out], rfl⟩
    have HG : Hid (G1 = true) := by
      show _ = _
      rw [HBB.out, a1, a2, a3]
      rfl
    go_wp2
    go_meet
    case rel => exact ⟨by rw [HG.out], rfl⟩
  case rest =>
    obtain ⟨rfl, rfl⟩ := hcut
    obtain ⟨G2, hG2⟩ : ∃ G2, (G1 && fldB m xs.length) = G2 := ⟨_, rfl⟩
    have HV2 : Hid (V = ((G2 && true) && (N && F))) := by
      show _ = _
      rw [HV.out, ← hG2]
      simp only [Bool.and_assoc]
    have HG2 : Hid (G2 = (G1 && fldB m xs.length)) := hG2.symm
    clear hG2 HBB HV
    go_upto_region 3 with (fail)
    go_cut [5] (fun x wx => x = .bool G2 ∧ wx = wc)
    case first =>
      cases G1
      · have HG : Hid (G2 = false) := by
          show _ = _
          rw [HG2.out]
          rfl
        go_wp2
        go_meet
        case rel => exact ⟨by rw [HG.out], rfl⟩
      have HG2 : Hid (G2 = fldB m xs.length) := by
        show _ = _
        rw [HG2.out, Bool.true_and]
      cases b1 : (decide (m.tm > 0))
      · have b0 : decide (0 < m.tm) = false := b1
        have HG : Hid (G2 = false) := by
          show _ = _
          rw [HG2.out, HFB.out, b0]
          simp
        go_wp2
        go_meet
        case rel => exact ⟨by rw [HG.out], rfl⟩
      have b0 : decide (0 < m.tm) = true := b1
      cases b2 : (m.lt == 0)
      · have HG : Hid (G2 = false) := by
          show _ = _
          rw [HG2.out, HFB.out, b2]
          simp
        go_wp2
        go_meet
        case rel => exact ⟨by rw [HG.out], rfl⟩
      cases b3 : (m.cm == 0)
      · have HG : Hid (G2 = false) := by
          show _ = _
          rw [HG2.out, HFB.out, b3]
          simp
        go_wp2
        go_meet
        case rel => exact ⟨by rw [HG.out], rfl⟩
      cases b4 : ((xs.length : Int) == 0)
      · have HG : Hid (G2 = false) := by
          show _ = _
          rw [HG2.out, HFB.out, b4]
          simp
        go_wp2
        go_meet
        case rel => exact ⟨by rw [HG.out], rfl⟩
      have HG : Hid (G2 = true) := by
        show _ = _
        rw [HG2.out, HFB.out, b0, b2, b3, b4]
        rfl
      clear b0
      go_wp2
      go_meet
      case rel => exact ⟨by rw [HG.out], rfl⟩
    case rest =>
      obtain ⟨rfl, rfl⟩ := hcut
      clear HG2 HFB G1
      have HV3 : Hid (V = (G2 && (N && F))) := by
        show _ = _
        rw [HV2.out, Bool.and_true]
      clear HV2
      have hlt : g < wc.heap.size := HK2.out.lt
      go_wp2_with fail
      refine (CN.out _).mono ?_
      rintro e w2 ⟨rfl, hB3⟩
      have HB := Lib.hid (HB2.out.trans (hB3.mono (by omega)))
      have HIN := Lib.hid (HIN.out.keep hB3)
      have hb3 := HK2.out.below hB3 HK2.out.lt
      clear hB3 z0 z1 z2 z3 z4 z5 z6 z7 z8 z9 z10 z11 z12 z13 z14 z15 q0 q1 q2 q3 q4 q5 q6 hlt
      cases N
      · have HN : Hid (V = false) := by
          show _ = _
          rw [HV3.out]
          cases G2 <;> rfl
        clear hb3
        go_wp2
        go_ret
        exact ⟨by rw [HN.out]; rfl, HB.out⟩
      have hlt : g < w2.heap.size := hb3.lt
      obtain ⟨z0, z1, z2, z3, z4, z5, z6, z7, z8, z9, z10, z11, z12, z13, z14, z15⟩ := hb3.mg
      clear hb3
      have HN : Hid (V = G2) := by
        show _ = _
        rw [HV3.out, ← HF.out, Bool.true_and, Bool.and_true]
      cases G2
      all_goals
        go_wp2
        go_ret
        exact ⟨by rw [HN.out]; rfl, HB.out⟩
set_option maxHeartbeats 8000000 in
theorem msg_Check_5 (w : World) (m : Mb) (p : Sa) (PA : Option Addr) (PC : Nat) (xs : List Ec) (hin : InE w PA PC xs) (hwf : ∀ x ∈ xs, x.e.Wf) (hsh : InSh w m.sh p) (wsh : m.sh.Wf) (kk : mK m.k = true) (kt : mT m.k = true) (ki : mI m.k = false) (kl : mL m.k = false) (kc : mC m.k = false) (kf : mF m.k = false) (ke : mE m.k = false) (ks : mS m.k = true) (k3 : (m.k == 3) = false) (k6 : (m.k == 6) = false) :
    Calls Try.prog 5 #[mgV m p PA xs.length PC] w fun e w' => e = .returned (.int .i64 (errMsg (codeM m (xs.map (·.e))))) ∧ Below w.heap.size w w' := by
  obtain ⟨g, hg⟩ : ∃ g, w.heap.size = g := ⟨_, rfl⟩
  have hb0 : Blk (w.alloc (.cells (mgC m p PA xs.length PC) 32)) g 32 (mgC m p PA xs.length PC) := hg ▸ Blk.new _ _ _
  have hB0 : Below g w (w.alloc (.cells (mgC m p PA xs.length PC) 32)) := (Below.refl _ _).alloc (by omega) _
  have HSH := Lib.hid (hsh.keep (hg ▸ hB0))
  have HIN := Lib.hid (hin.keep (hg ▸ hB0))
  have HWF := Lib.hid hwf
  have C1 := fun W => msg_of_any W m.k
  unfold hasK at C1
  rw [kt, ki, kl, kc, kf, ke, ks, kk] at C1
  have C1 := Lib.hid C1
  have CS := Lib.hid (fun W (h : InSh W m.sh p) => shot_Check_any W m.sh.i m.sh.t p.A0 p.c0 m.sh.ns m.sh.lim m.sh.nxt p.A1 p.c1 m.sh.hs p.A2 p.c2 m.sh.ls h.n h.h h.l wsh.hs wsh.ls wsh.nxt.2)
  have CN := fun W => msg_none_any W m.sh p
  unfold shtV at CN
  have CN := Lib.hid CN
  obtain ⟨V, hV⟩ : ∃ V, codeM m (xs.map (·.e)) = V := ⟨_, rfl⟩
  rw [hV, hg]
  obtain ⟨F, hF⟩ : ∃ F, shB m = F := ⟨_, rfl⟩
  obtain ⟨N, hN⟩ : ∃ N, shz m.sh = N := ⟨_, rfl⟩
  rw [hN] at CN
  have e3 : (m.k = 3) = False := by simpa using k3
  have e6 : (m.k = 6) = False := by simpa using k6
  have HV : Hid (V = ((baseB m && (fldB m xs.length && true)) && F)) := by
    show _ = _
    rw [← hV, ← hF, codeM, ks, kl]
    simp only [e3, e6, List.length_map, if_true, if_false, Bool.not_true, Bool.not_false, Bool.true_or, Bool.false_or, Bool.and_true]
    skip
  have HF := Lib.hid hF
  have HFB : Hid (fldB m xs.length = ((decide (0 < m.tm) == true) && ((false || m.ix == 0) && ((false || m.lt == 0) && ((false || m.cm == 0) && ((false || !m.fl) && (false || (xs.length : Int) == 0))))))) := by
    show _ = _
    rw [fldB, kt, ki, kl, kc, kf, ke]
  have HBB : Hid (baseB m = ((m.fr != m.o) && (decide (min m.fr m.o ≥ 1) && decide (max m.fr m.o ≤ 7)))) := by
    show _ = _
    rw [baseB, kk]
    rfl
  clear hV hin hwf hsh e3 e6 hF hN kk kt ki kl kc kf ke ks wsh
  unfold mgV
  go_enter Try.func5, Try.ntmps5
  go_upto_region 1 with (fail)
  change Code.wp _ _ _ _ (w.alloc (.cells (mgC m p PA xs.length PC) 32))
  generalize (w.alloc (.cells (mgC m p PA xs.length PC) 32)) = W0 at hb0 hB0 HSH HIN ⊢
  try rw [hg]
  have z0 := hb0.mg.z0
  go_wp2_with fail
  refine (C1.out _).mono ?_
  rintro e w1 ⟨rfl, hB1⟩
  have hb1 := hb0.below hB1 hb0.lt
  have HSH := Lib.hid (HSH.out.keep hB1)
  have HIN := Lib.hid (HIN.out.keep hB1)
  have HB1 := Lib.hid (hB0.trans (hB1.mono (Nat.le_of_lt hb0.lt)))
  clear z0 hb0 hB0 hB1 hg C1
  have HK1 := Lib.hid hb1
  clear hb1
  go_upto_region 2 with (refine wpList_store_row rfl 41 _ _ rfl w1.heap.size (hasA true false false false false false true) rfl rfl 41 (hasA false false false false false false false) (Blk.new w1 41 _) info_Has rfl (hasA_one _ _ _ _ _ _ _) ?_; rw [World.setRow_alloc_new])
  have hb2 := HK1.out.alloc (.cells (hasA true false false false false false true) 41)
  have hh2 : Blk (w1.alloc (.cells (hasA true false false false false false true) 41)) w1.heap.size 41 (hasA true false false false false false true) := Blk.new _ _ _
  have HB2 := Lib.hid (HB1.out.alloc (Nat.le_of_lt HK1.out.lt) (.cells (hasA true false false false false false true) 41))
  have HIN := Lib.hid (HIN.out.keep ((Below.refl w1.heap.size w1).alloc (Nat.le_refl _) (.cells (hasA true false false false false false true) 41)))
  have HSH := Lib.hid (HSH.out.keep ((Below.refl w1.heap.size w1).alloc (Nat.le_refl _) (.cells (hasA true false false false false false true) 41)))
  clear HB1 HK1
  generalize hgh : w1.heap.size = gh at hh2 ⊢
  generalize (w1.alloc (.cells (hasA true false false false false false true) 41)) = W2 at hb2 hh2 HB2 HIN HSH ⊢
  clear hgh
  have HK2 := Lib.hid hb2
  obtain ⟨z0, z1, z2, z3, z4, z5, z6, z7, z8, z9, z10, z11, z12, z13, z14, z15⟩ := hb2.mg
  obtain ⟨q0, q1, q2, q3, q4, q5, q6⟩ := hh2.has
  clear hb2 hh2
  obtain ⟨FL, hFL⟩ : ∃ b, m.fl = b := ⟨_, rfl⟩
  rw [hFL] at z7
  have HFL := Lib.hid hFL
  clear hFL
  obtain ⟨G1, hG1⟩ : ∃ G1, baseB m = G1 := ⟨_, rfl⟩
  rw [hG1] at HV HBB
  clear hG1
  go_cut [5] (fun x wx => x = .bool G1 ∧ wx = W2)
  case first =>
    cases a1 : (m.fr != m.o)
    · have HG : Hid (G1 = false) := by
        show _ = _
        rw [HBB.out, a1]
        simp
      go_wp2
      go_meet
      case rel => exact ⟨by rw [HG.out], rfl⟩
    cases a2 : (decide (min m.fr m.o ≥ 1))
    · have HG : Hid (G1 = false) := by
        show _ = _
        rw [HBB.out, a2]
        simp
      go_wp2
      go_meet
      case rel => exact ⟨by rw [HG.out], rfl⟩
    cases a3 : (decide (max m.fr m.o ≤ 7))
    · have HG : Hid (G1 = false) := by
        show _ = _
        rw [HBB.out, a3]
        simp
      go_wp2
      go_meet
      case rel => exact ⟨by rw [HG.out], rfl⟩
    have HG : Hid (G1 = true) := by
      show _ = _
      rw [HBB.out, a1, a2, a3]
      rfl
    go_wp2
    go_meet
    case rel => exact ⟨by rw [HG.out], rfl⟩
  case rest =>
    obtain ⟨rfl, rfl⟩ := hcut
    obtain ⟨G2, hG2⟩ : ∃ G2, (G1 && fldB m xs.length) = G2 := ⟨_, rfl⟩
    have HV2 : Hid (V = ((G2 && true) && F)) := by
      show _ = _
      rw [HV.out, ← hG2]
      simp only [Bool.and_assoc]
    have HG2 : Hid (G2 = (G1 && fldB m xs.length)) := hG2.symm
    clear hG2 HBB HV
    go_upto_region 3 with (fail)
    go_cut [5] (fun x wx => x = .bool G2 ∧ wx = wc)
    case first =>
      cases G1
      · have HG : Hid (G2 = false) := by
          show _ = _
          rw [HG2.out]
          rfl
        go_wp2
        go_meet
        case rel => exact ⟨by rw [HG.out], rfl⟩
      have HG2 : Hid (G2 = fldB m xs.length) := by
        show _ = _
        rw [HG2.out, Bool.true_and]
      cases b1 : (decide (m.tm > 0))
      · have b0 : decide (0 < m.tm) = false := b1
        have HG : Hid (G2 = false) := by
          show _ = _
          rw [HG2.out, HFB.out, b0]
          simp
        go_wp2
        go_meet
        case rel => exact ⟨by rw [HG.out], rfl⟩
      have b0 : decide (0 < m.tm) = true := b1
      cases b2 : (m.ix == 0)
      · have HG : Hid (G2 = false) := by
          show _ = _
          rw [HG2.out, HFB.out, b2]
          simp
        go_wp2
        go_meet
        case rel => exact ⟨by rw [HG.out], rfl⟩
      cases b3 : (m.lt == 0)
      · have HG : Hid (G2 = false) := by
          show _ = _
          rw [HG2.out, HFB.out, b3]
          simp
        go_wp2
        go_meet
        case rel => exact ⟨by rw [HG.out], rfl⟩
      cases b4 : (m.cm == 0)
      · have HG : Hid (G2 = false) := by
          show _ = _
          rw [HG2.out, HFB.out, b4]
          simp
        go_wp2
        go_meet
        case rel => exact ⟨by rw [HG.out], rfl⟩
      cases FL
      rotate_left
      · have HG : Hid (G2 = false) := by
          show _ = _
          rw [HG2.out, HFB.out, HFL.out]
          simp
        go_wp2
        go_meet
        case rel => exact ⟨by rw [HG.out], rfl⟩
      cases b6 : ((xs.length : Int) == 0)
      · have HG : Hid (G2 = false) := by
          show _ = _
          rw [HG2.out, HFB.out, b6]
          simp
        go_wp2
        go_meet
        case rel => exact ⟨by rw [HG.out], rfl⟩
      have HG : Hid (G2 = true) := by
        show _ = _
        rw [HG2.out, HFB.out, b0, b2, b3, b4, HFL.out, b6]
        rfl
      clear b0
      go_wp2
      go_meet
      case rel => exact ⟨by rw [HG.out], rfl⟩
    case rest =>
      obtain ⟨rfl, rfl⟩ := hcut
      clear HG2 HFB G1
      have HV3 : Hid (V = (G2 && F)) := by
        show _ = _
        rw [HV2.out, Bool.and_true]
      clear HV2
      cases G2
      · have HN : Hid (V = false) := by
          show _ = _
          rw [HV3.out]
          rfl
        go_wp2
        go_ret
        exact ⟨by rw [HN.out]; rfl, HB2.out⟩
      have CE := CS.out _ HSH.out
      unfold shV at CE
      obtain ⟨D, hD⟩ : ∃ D, decide (ShotOk m.sh.i m.sh.t m.sh.ns m.sh.lim m.sh.nxt m.sh.hs m.sh.ls) = D := ⟨_, rfl⟩
      rw [hD] at CE
      have HN0 : Hid (V = (D && (decide (m.sh.i > 0) && decide (m.sh.t ≤ m.tm)))) := by
        show _ = _
        rw [HV3.out, ← HF.out, ← hD, Bool.true_and]
        simp only [shB, Sh.Ok]
        congr
      clear hD
      cases D
      · have HN : Hid (V = false) := by
          show _ = _
          rw [HN0.out]
          rfl
        have hq : errShot false = 60 := rfl
        rw [hq] at CE
        have CE := Lib.hid CE
        have hlt : g < wc.heap.size := HK2.out.lt
        go_wp2_with fail
        refine CE.out.mono ?_
        rintro e w2 ⟨rfl, hB3⟩
        have HB := Lib.hid (HB2.out.trans (hB3.mono (by omega)))
        clear hB3 z0 z1 z2 z3 z4 z5 z6 z7 z8 z9 z10 z11 z12 z13 z14 z15 hlt
        go_wp2
        go_ret
        exact ⟨by rw [HN.out]; rfl, HB.out⟩
      have hq : errShot true = 0 := rfl
      rw [hq] at CE
      have CE := Lib.hid CE
      have hlt : g < wc.heap.size := HK2.out.lt
      go_wp2_with fail
      refine CE.out.mono ?_
      rintro e w2 ⟨rfl, hB3⟩
      have HB := Lib.hid (HB2.out.trans (hB3.mono (by omega)))
      have hb3 := HK2.out.below hB3 HK2.out.lt
      clear hB3 z0 z1 z2 z3 z4 z5 z6 z7 z8 z9 z10 z11 z12 z13 z14 z15 hlt
      obtain ⟨z0, z1, z2, z3, z4, z5, z6, z7, z8, z9, z10, z11, z12, z13, z14, z15⟩ := hb3.mg
      clear hb3
      cases vi : decide (m.sh.i > 0)
      · have HN : Hid (V = false) := by
          show _ = _
          rw [HN0.out, vi]
          rfl
        go_wp2
        go_ret
        exact ⟨by rw [HN.out]; rfl, HB.out⟩
      cases vj : decide (m.sh.t ≤ m.tm)
      · have HN : Hid (V = false) := by
          show _ = _
          rw [HN0.out, vi, vj]
          rfl
        go_wp2
        go_ret
        exact ⟨by rw [HN.out]; rfl, HB.out⟩
      · have HN : Hid (V = true) := by
          show _ = _
          rw [HN0.out, vi, vj]
          rfl
        go_wp2
        go_ret
        exact ⟨by rw [HN.out]; rfl, HB.out⟩
set_option maxHeartbeats 8000000 in
theorem msg_Check_6 (w : World) (m : Mb) (p : Sa) (PA : Option Addr) (PC : Nat) (xs : List Ec) (hin : InE w PA PC xs) (hwf : ∀ x ∈ xs, x.e.Wf) (hsh : InSh w m.sh p) (wsh : m.sh.Wf) (kk : mK m.k = true) (kt : mT m.k = false) (ki : mI m.k = false) (kl : mL m.k = false) (kc : mC m.k = false) (kf : mF m.k = false) (ke : mE m.k = true) (ks : mS m.k = false) (k3 : (m.k == 3) = false) (k6 : (m.k == 6) = true) :
    Calls Try.prog 5 #[mgV m p PA xs.length PC] w fun e w' => e = .returned (.int .i64 (errMsg (codeM m (xs.map (·.e))))) ∧ Below w.heap.size w w' := by
  obtain ⟨g, hg⟩ : ∃ g, w.heap.size = g := ⟨_, rfl⟩
  have hb0 : Blk (w.alloc (.cells (mgC m p PA xs.length PC) 32)) g 32 (mgC m p PA xs.length PC) := hg ▸ Blk.new _ _ _
  have hB0 : Below g w (w.alloc (.cells (mgC m p PA xs.length PC) 32)) := (Below.refl _ _).alloc (by omega) _
  have HSH := Lib.hid (hsh.keep (hg ▸ hB0))
  have HIN := Lib.hid (hin.keep (hg ▸ hB0))
  have HWF := Lib.hid hwf
  have C1 := fun W => msg_of_any W m.k
  unfold hasK at C1
  rw [kt, ki, kl, kc, kf, ke, ks, kk] at C1
  have C1 := Lib.hid C1
  have CS := Lib.hid (fun W (h : InSh W m.sh p) => shot_Check_any W m.sh.i m.sh.t p.A0 p.c0 m.sh.ns m.sh.lim m.sh.nxt p.A1 p.c1 m.sh.hs p.A2 p.c2 m.sh.ls h.n h.h h.l wsh.hs wsh.ls wsh.nxt.2)
  have CN := fun W => msg_none_any W m.sh p
  unfold shtV at CN
  have CN := Lib.hid CN
  obtain ⟨V, hV⟩ : ∃ V, codeM m (xs.map (·.e)) = V := ⟨_, rfl⟩
  rw [hV, hg]
  obtain ⟨F, hF⟩ : ∃ F, putB m (xs.map (·.e)) = F := ⟨_, rfl⟩
  obtain ⟨N, hN⟩ : ∃ N, shz m.sh = N := ⟨_, rfl⟩
  rw [hN] at CN
  have e3 : (m.k = 3) = False := by simpa using k3
  have e6 : (m.k = 6) = True := by simpa using k6
  have HV : Hid (V = ((baseB m && (fldB m xs.length && true)) && (N && F))) := by
    show _ = _
    rw [← hV, ← hF, ← hN, codeM, ks, kl]
    simp only [e3, e6, List.length_map, if_true, if_false, Bool.not_true, Bool.not_false, Bool.true_or, Bool.false_or, Bool.and_true]
    cases shz m.sh <;> simp
  have HF := Lib.hid hF
  have HFB : Hid (fldB m xs.length = ((decide (0 < m.tm) == false) && ((false || m.ix == 0) && ((false || m.lt == 0) && ((false || m.cm == 0) && ((false || !m.fl) && (true || (xs.length : Int) == 0))))))) := by
    show _ = _
    rw [fldB, kt, ki, kl, kc, kf, ke]
  have HBB : Hid (baseB m = ((m.fr != m.o) && (decide (min m.fr m.o ≥ 1) && decide (max m.fr m.o ≤ 7)))) := by
    show _ = _
    rw [baseB, kk]
    rfl
  clear hV hin hwf hsh e3 e6 hF hN kk kt ki kl kc kf ke ks wsh
  unfold mgV
  go_enter Try.func5, Try.ntmps5
  go_upto_region 1 with (fail)
  change Code.wp _ _ _ _ (w.alloc (.cells (mgC m p PA xs.length PC) 32))
  generalize (w.alloc (.cells (mgC m p PA xs.length PC) 32)) = W0 at hb0 hB0 HSH HIN ⊢
  try rw [hg]
  have z0 := hb0.mg.z0
  go_wp2_with fail
  refine (C1.out _).mono ?_
  rintro e w1 ⟨rfl, hB1⟩
  have hb1 := hb0.below hB1 hb0.lt
  have HSH := Lib.hid (HSH.out.keep hB1)
  have HIN := Lib.hid (HIN.out.keep hB1)
  have HB1 := Lib.hid (hB0.trans (hB1.mono (Nat.le_of_lt hb0.lt)))
  clear z0 hb0 hB0 hB1 hg C1
  have HK1 := Lib.hid hb1
  clear hb1
  go_upto_region 2 with (refine wpList_store_row rfl 41 _ _ rfl w1.heap.size (hasA false false false false false true false) rfl rfl 41 (hasA false false false false false false false) (Blk.new w1 41 _) info_Has rfl (hasA_one _ _ _ _ _ _ _) ?_; rw [World.setRow_alloc_new])
  have hb2 := HK1.out.alloc (.cells (hasA false false false false false true false) 41)
  have hh2 : Blk (w1.alloc (.cells (hasA false false false false false true false) 41)) w1.heap.size 41 (hasA false false false false false true false) := Blk.new _ _ _
  have HB2 := Lib.hid (HB1.out.alloc (Nat.le_of_lt HK1.out.lt) (.cells (hasA false false false false false true false) 41))
  have HIN := Lib.hid (HIN.out.keep ((Below.refl w1.heap.size w1).alloc (Nat.le_refl _) (.cells (hasA false false false false false true false) 41)))
  have HSH := Lib.hid (HSH.out.keep ((Below.refl w1.heap.size w1).alloc (Nat.le_refl _) (.cells (hasA false false false false false true false) 41)))
  clear HB1 HK1
  generalize hgh : w1.heap.size = gh at hh2 ⊢
  generalize (w1.alloc (.cells (hasA false false false false false true false) 41)) = W2 at hb2 hh2 HB2 HIN HSH ⊢
  clear hgh
  have HK2 := Lib.hid hb2
  obtain ⟨z0, z1, z2, z3, z4, z5, z6, z7, z8, z9, z10, z11, z12, z13, z14, z15⟩ := hb2.mg
  obtain ⟨q0, q1, q2, q3, q4, q5, q6⟩ := hh2.has
  clear hb2 hh2
  obtain ⟨FL, hFL⟩ : ∃ b, m.fl = b := ⟨_, rfl⟩
  rw [hFL] at z7
  have HFL := Lib.hid hFL
  clear hFL
  obtain ⟨G1, hG1⟩ : ∃ G1, baseB m = G1 := ⟨_, rfl⟩
  rw [hG1] at HV HBB
  clear hG1
  go_cut [5] (fun x wx => x = .bool G1 ∧ wx = W2)
  case first =>
    cases a1 : (m.fr != m.o)
    · have HG : Hid (G1 = false) := by
        show _ = _
        rw [HBB.out, a1]
        simp
      go_wp2
      go_meet
      case rel => exact ⟨by rw [HG.out], rfl⟩
    cases a2 : (decide (min m.fr m.o ≥ 1))
    · have HG : Hid (G1 = false) := by
        show _ = _
        rw [HBB.out, a2]
        simp
      go_wp2
      go_meet
      case rel => exact ⟨by rw [HG.out], rfl⟩
    cases a3 : (decide (max m.fr m.o ≤ 7))
    · have HG : Hid (G1 = false) := by
        show _ = _
        rw [HBB.out, a3]
        simp
      go_wp2
      go_meet
      case rel => exact ⟨by rw [HG.out], rfl⟩
    have HG : Hid (G1 = true) := by
      show _ = _
      rw [HBB.out, a1, a2, a3]
      rfl
    go_wp2
    go_meet
    case rel => exact ⟨by rw [HG.out], rfl⟩
  case rest =>
    obtain ⟨rfl, rfl⟩ := hcut
    obtain ⟨G2, hG2⟩ : ∃ G2, (G1 && fldB m xs.length) = G2 := ⟨_, rfl⟩
    have HV2 : Hid (V = ((G2 && true) && (N && F))) := by
      show _ = _
      rw [HV.out, ← hG2]
      simp only [Bool.and_assoc]
    have HG2 : Hid (G2 = (G1 && fldB m xs.length)) := hG2.symm
    clear hG2 HBB HV
    go_upto_region 3 with (fail)
    go_cut [5] (fun x wx => x = .bool G2 ∧ wx = wc)
    case first =>
      cases G1
      · have HG : Hid (G2 = false) := by
          show _ = _
          rw [HG2.out]
          rfl
        go_wp2
        go_meet
        case rel => exact ⟨by rw [HG.out], rfl⟩
      have HG2 : Hid (G2 = fldB m xs.length) := by
        show _ = _
        rw [HG2.out, Bool.true_and]
      cases b1 : (decide (m.tm > 0))
      rotate_left
      · have b0 : decide (0 < m.tm) = true := b1
        have b9 : decide (m.tm ≤ 0) = false := by have := of_decide_eq_true b1; exact decide_eq_false (by omega)
        have HG : Hid (G2 = false) := by
          show _ = _
          rw [HG2.out, HFB.out, b0]
          simp
        go_wp2
        go_meet
        case rel => exact ⟨by rw [HG.out], rfl⟩
      have b0 : decide (0 < m.tm) = false := b1
      have b9 : decide (m.tm ≤ 0) = true := by have := of_decide_eq_false b1; exact decide_eq_true (by omega)
      cases b2 : (m.ix == 0)
      · have HG : Hid (G2 = false) := by
          show _ = _
          rw [HG2.out, HFB.out, b2]
          simp
        go_wp2
        go_meet
        case rel => exact ⟨by rw [HG.out], rfl⟩
      cases b3 : (m.lt == 0)
      · have HG : Hid (G2 = false) := by
          show _ = _
          rw [HG2.out, HFB.out, b3]
          simp
        go_wp2
        go_meet
        case rel => exact ⟨by rw [HG.out], rfl⟩
      cases b4 : (m.cm == 0)
      · have HG : Hid (G2 = false) := by
          show _ = _
          rw [HG2.out, HFB.out, b4]
          simp
        go_wp2
        go_meet
        case rel => exact ⟨by rw [HG.out], rfl⟩
      cases FL
      rotate_left
      · have HG : Hid (G2 = false) := by
          show _ = _
          rw [HG2.out, HFB.out, HFL.out]
          simp
        go_wp2
        go_meet
        case rel => exact ⟨by rw [HG.out], rfl⟩
      have HG : Hid (G2 = true) := by
        show _ = _
        rw [HG2.out, HFB.out, b0, b2, b3, b4, HFL.out]
        rfl
      clear b0
      go_wp2
      go_meet
      case rel => exact ⟨by rw [HG.out], rfl⟩
    case rest =>
      obtain ⟨rfl, rfl⟩ := hcut
      clear HG2 HFB G1
      have HV3 : Hid (V = (G2 && (N && F))) := by
        show _ = _
        rw [HV2.out, Bool.and_true]
      clear HV2
      have hlt : g < wc.heap.size := HK2.out.lt
      go_wp2_with fail
      refine (CN.out _).mono ?_
      rintro e w2 ⟨rfl, hB3⟩
      have HB := Lib.hid (HB2.out.trans (hB3.mono (by omega)))
      have HIN := Lib.hid (HIN.out.keep hB3)
      have hb3 := HK2.out.below hB3 HK2.out.lt
      clear hB3 z0 z1 z2 z3 z4 z5 z6 z7 z8 z9 z10 z11 z12 z13 z14 z15 q0 q1 q2 q3 q4 q5 q6 hlt
      cases N
      · have HN : Hid (V = false) := by
          show _ = _
          rw [HV3.out]
          cases G2 <;> rfl
        clear hb3
        go_wp2
        go_ret
        exact ⟨by rw [HN.out]; rfl, HB.out⟩
      have hlt : g < w2.heap.size := hb3.lt
      obtain ⟨z0, z1, z2, z3, z4, z5, z6, z7, z8, z9, z10, z11, z12, z13, z14, z15⟩ := hb3.mg
      clear hb3
      cases G2
      · have HN : Hid (V = false) := by
          show _ = _
          rw [HV3.out]
          rfl
        go_wp2
        go_ret
        exact ⟨by rw [HN.out]; rfl, HB.out⟩
      have CE := msg_put_any _ m p PA PC xs HIN.out HWF.out
      rw [HF.out] at CE
      unfold mgV at CE
      have CE := Lib.hid CE
      have HN : Hid (V = F) := by
        show _ = _
        rw [HV3.out, Bool.true_and, Bool.true_and]
      cases F
      all_goals
        go_wp2_with fail
        refine CE.out.mono ?_
        rintro e w3 ⟨rfl, hB4⟩
        have HB := Lib.hid (HB.out.trans (hB4.mono (by omega)))
        clear hB4 z0 z1 z2 z3 z4 z5 z6 z7 z8 z9 z10 z11 z12 z13 z14 z15
        go_wp2
        go_ret
        exact ⟨by rw [HN.out]; rfl, HB.out⟩
theorem msg_Check_any (w : World) (m : Mb) (p : Sa) (PA : Option Addr) (PC : Nat) (xs : List Ec) (hin : InE w PA PC xs) (hwf : ∀ x ∈ xs, x.e.Wf) (hsh : InSh w m.sh p) (wsh : m.sh.Wf) :
    Calls Try.prog 5 #[mgV m p PA xs.length PC] w fun e w' => e = .returned (.int .i64 (errMsg (codeM m (xs.map (·.e))))) ∧ Below w.heap.size w w' := by
  have hk := mkinds m.k
  rcases hk with h | h | h | h | h | h | ⟨h1, h2, h3, h4, h5, h6⟩
  · exact msg_Check_1 w m p PA PC xs hin hwf hsh wsh (by rw [h]; rfl) (by rw [h]; rfl) (by rw [h]; rfl) (by rw [h]; rfl) (by rw [h]; rfl) (by rw [h]; rfl) (by rw [h]; rfl) (by rw [h]; rfl) (by rw [h]; rfl) (by rw [h]; rfl)
  · exact msg_Check_2 w m p PA PC xs hin hwf hsh wsh (by rw [h]; rfl) (by rw [h]; rfl) (by rw [h]; rfl) (by rw [h]; rfl) (by rw [h]; rfl) (by rw [h]; rfl) (by rw [h]; rfl) (by rw [h]; rfl) (by rw [h]; rfl) (by rw [h]; rfl)
  · exact msg_Check_3 w m p PA PC xs hin hwf hsh wsh (by rw [h]; rfl) (by rw [h]; rfl) (by rw [h]; rfl) (by rw [h]; rfl) (by rw [h]; rfl) (by rw [h]; rfl) (by rw [h]; rfl) (by rw [h]; rfl) (by rw [h]; rfl) (by rw [h]; rfl)
  · exact msg_Check_4 w m p PA PC xs hin hwf hsh wsh (by rw [h]; rfl) (by rw [h]; rfl) (by rw [h]; rfl) (by rw [h]; rfl) (by rw [h]; rfl) (by rw [h]; rfl) (by rw [h]; rfl) (by rw [h]; rfl) (by rw [h]; rfl) (by rw [h]; rfl)
  · exact msg_Check_5 w m p PA PC xs hin hwf hsh wsh (by rw [h]; rfl) (by rw [h]; rfl) (by rw [h]; rfl) (by rw [h]; rfl) (by rw [h]; rfl) (by rw [h]; rfl) (by rw [h]; rfl) (by rw [h]; rfl) (by rw [h]; rfl) (by rw [h]; rfl)
  · exact msg_Check_6 w m p PA PC xs hin hwf hsh wsh (by rw [h]; rfl) (by rw [h]; rfl) (by rw [h]; rfl) (by rw [h]; rfl) (by rw [h]; rfl) (by rw [h]; rfl) (by rw [h]; rfl) (by rw [h]; rfl) (by rw [h]; rfl) (by rw [h]; rfl)
  · exact msg_Check_0 w m p PA PC xs hin hwf hsh wsh (by simp [mK, mT, h1, h2, h3, h4, h5, h6]) (by simp [mT, h1, h2, h3, h4, h5, h6]) (by simp [mI, h1, h2, h3, h4, h5, h6]) (by simp [mL, h1, h2, h3, h4, h5, h6]) (by simp [mC, h1, h2, h3, h4, h5, h6]) (by simp [mF, h1, h2, h3, h4, h5, h6]) (by simp [mE, h1, h2, h3, h4, h5, h6]) (by simp [mS, h1, h2, h3, h4, h5, h6]) (by simp [h1, h2, h3, h4, h5, h6]) (by simp [h1, h2, h3, h4, h5, h6])
end Go.Proofs.Ytjnkpjhggeibeaa
