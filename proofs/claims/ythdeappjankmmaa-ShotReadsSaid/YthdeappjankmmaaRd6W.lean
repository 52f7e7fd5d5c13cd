/- The document reads a snapshot: the walk of its Read. -/
import Derived.Test.YthdeappjankmmaaRd6S
import Derived.Deep.RegionLaw
import Derived.Deep.RegionHeld3
import Derived.Deep.DeepCutAuto
import Derived.Deep.CutBlock
namespace Go.Proofs.Ythdeappjankmmaa
set_option maxRecDepth 100000
open Go.RowKit

/-- Ahead of the numbers: the reader's cells, the snapshot, the result. -/
structure R60 (w : World) (g gr gs B : Nat) (A : Option Addr) (c : Nat) (LB : List Int) (wx : World) (k' : Nat) (e : Int) : Prop where
  res : Blk wx g 29 (shC 0 0 (.slice none 0 0) 0 0 (.slice none 0 0) (.slice none 0 0))
  rd : Blk wx gr 71 (rdCells A LB.length c k' e)
  cm : Blk wx gs 29 (shC 0 0 (.slice none 0 0) 0 0 (.slice none 0 0) (.slice none 0 0))
  grow : w.grownBy wx (some gr)
  sz : B ≤ wx.heap.size
theorem R60.drewN {w : World} {g gr gs B : Nat} {A : Option Addr} {c : Nat} {LB : List Int} {wx : World} {k' : Nat} {e : Int} (h : R60 w g gr gs B A c LB wx k' e) (n : Nat) : R60 w g gr gs B A c LB (wx.drewN n) k' e :=
  ⟨h.res, h.rd, h.cm, only_drewN h.grow n, h.sz⟩
theorem R60.fail {w : World} {g gr gs B : Nat} {A : Option Addr} {c : Nat} {LB : List Int} {wx : World} {k' : Nat} {e e' : Int} (h : R60 w g gr gs B A c LB wx k' e) (o : S6o w g gr gs B) {w1 : World} (hb : Blk w1 gr 71 (rdCells A LB.length c k' e')) (hg : wx.grownBy w1 (some gr)) : R60 w g gr gs B A c LB w1 k' e' := by
  have o1 := o.h1
  have o2 := o.h2
  have o3 := o.h3
  have hne : ∀ j, j ≠ gr → some j ≠ some gr := fun j hj hh => hj (by injection hh)
  exact ⟨h.res.grown hg (hne _ (by omega)), hb, h.cm.grown hg (hne _ (by omega)), World.grownBy.trans h.grow hg, Nat.le_trans h.sz hg.size⟩
/-- The error that the document's Read starts the numbers with. -/
def rE1 (lb : List Int) (e : Int) : Int := if e ≠ 0 then e else if lb.length = 0 then 10 else if lb.head? ≠ some 83 then 11 else 0
/-- Its error in the end. -/
def rE (lb : List Int) (e : Int) : Int := if rE1 lb e = 0 then (sLs lb).2.2 else rE1 lb e
theorem chain {lb : List Int} {e1 i t lim nxt cn chn cln : Int} {ns : List Int} {hs : List Hd} {ls : List Ls} {k1 k2 k3 k4 k5 k6 k7 k8 k9 kx : Nat} {ei et ec en el ex eh eH e9 eL : Int}
    (hI : rnum lb 1 e1 18446744073709551615 = (i, k1, ei)) (hT : rnum lb k1 ei 18446744073709551615 = (t, k2, et)) (hC : rnum lb k2 et 64 = (cn, k3, ec)) (hN : decNodes lb cn.toNat k3 ec = (ns, k4, en))
    (hL : rnum lb k4 en 65535 = (lim, k5, el)) (hX : rnum lb k5 el 18446744073709551615 = (nxt, k6, ex)) (hCh : rnum lb k6 ex 64 = (chn, k7, eh)) (hH : decH lb chn.toNat k7 eh = (hs, k8, eH)) (hCl : rnum lb k8 eH 64 = (cln, k9, e9)) (hLs : decL lb cln.toNat k9 e9 = (ls, kx, eL)) :
    (e1 = 0 → sI lb = (i, k1, ei) ∧ sT lb = (t, k2, et) ∧ sNs lb = (ns, k4, en) ∧ sLim lb = (lim, k5, el) ∧ sNxt lb = (nxt, k6, ex) ∧ sHs lb = (hs, k8, eH) ∧ sLs lb = (ls, kx, eL)) ∧
    (e1 ≠ 0 → eL = e1) ∧ (eL = 0 → en = 0 ∧ eH = 0) := by
  refine ⟨fun h0 => ?_, fun h0 => ?_, fun h0 => ?_⟩
  · subst h0
    have a1 : sI lb = (i, k1, ei) := hI
    have a2 : sT lb = (t, k2, et) := by unfold sT; rw [a1]; exact hT
    have a3 : sCn lb = (cn, k3, ec) := by unfold sCn; rw [a2]; exact hC
    have a4 : sNs lb = (ns, k4, en) := by unfold sNs; rw [a3]; exact hN
    have a5 : sLim lb = (lim, k5, el) := by unfold sLim; rw [a4]; exact hL
    have a6 : sNxt lb = (nxt, k6, ex) := by unfold sNxt; rw [a5]; exact hX
    have a7 : sCh lb = (chn, k7, eh) := by unfold sCh; rw [a6]; exact hCh
    have a8 : sHs lb = (hs, k8, eH) := by unfold sHs; rw [a7]; exact hH
    have a9 : sCl lb = (cln, k9, e9) := by unfold sCl; rw [a8]; exact hCl
    have a10 : sLs lb = (ls, kx, eL) := by unfold sLs; rw [a9]; exact hLs
    exact ⟨a1, a2, a4, a5, a6, a8, a10⟩
  · rw [rnum_err h0] at hI
    simp only [Prod.mk.injEq] at hI
    obtain ⟨_, _, rfl⟩ := hI
    rw [rnum_err h0] at hT
    simp only [Prod.mk.injEq] at hT
    obtain ⟨_, _, rfl⟩ := hT
    rw [rnum_err h0] at hC
    simp only [Prod.mk.injEq] at hC
    obtain ⟨_, _, rfl⟩ := hC
    have n := decNodes_err (lb := lb) h0 cn.toNat k3
    rw [hN] at n
    simp only at n
    subst n
    rw [rnum_err h0] at hL
    simp only [Prod.mk.injEq] at hL
    obtain ⟨_, _, rfl⟩ := hL
    rw [rnum_err h0] at hX
    simp only [Prod.mk.injEq] at hX
    obtain ⟨_, _, rfl⟩ := hX
    rw [rnum_err h0] at hCh
    simp only [Prod.mk.injEq] at hCh
    obtain ⟨_, _, rfl⟩ := hCh
    have n := decH_err (lb := lb) h0 chn.toNat k7
    rw [hH] at n
    simp only at n
    subst n
    rw [rnum_err h0] at hCl
    simp only [Prod.mk.injEq] at hCl
    obtain ⟨_, _, rfl⟩ := hCl
    have n := decL_err (lb := lb) h0 cln.toNat k9
    rw [hLs] at n
    exact n
  · have n9 : e9 = 0 := by
      rcases Classical.em (e9 = 0) with q | q
      · exact q
      · have n := decL_err (lb := lb) q cln.toNat k9
        rw [hLs] at n
        exact absurd (n.symm.trans h0) q
    subst n9
    have nH : eH = 0 := rnum_zero (lb := lb) (k := k8) (most := 64) (by rw [hCl])
    subst nH
    have nh : eh = 0 := by
      rcases Classical.em (eh = 0) with q | q
      · exact q
      · have n := decH_err (lb := lb) q chn.toNat k7
        rw [hH] at n
        exact absurd n.symm q
    subst nh
    have nx : ex = 0 := rnum_zero (lb := lb) (k := k6) (most := 64) (by rw [hCh])
    subst nx
    have nl : el = 0 := rnum_zero (lb := lb) (k := k5) (most := 18446744073709551615) (by rw [hX])
    subst nl
    exact ⟨rnum_zero (lb := lb) (k := k4) (most := 65535) (by rw [hL]), rfl⟩
/-- What may be said of whatever is read. -/
structure ReadOk (i t : Int) (ns : List Int) (lim nxt : Int) (hs : List Hd) (ls : List Ls) : Prop where
  i : 0 ≤ i ∧ i < 18446744073709551616
  t : 0 ≤ t ∧ t < 18446744073709551616
  nsl : ns.length ≤ 64
  ns : ∀ z ∈ ns, 0 ≤ z ∧ z ≤ 65535
  lim : 0 ≤ lim ∧ lim ≤ 65535
  nxt : 0 ≤ nxt ∧ nxt < 18446744073709551616
  hsl : hs.length ≤ 64
  hs : ∀ h ∈ hs, h.Wf
  lsl : ls.length ≤ 64
  ls : ∀ x ∈ ls, x.Wf
/-- What the document's Read comes to. -/
def R6P (w : World) (gr : Nat) (A : Option Addr) (c : Nat) (LB : List Int) (K : Nat) (lb : List Int) (E : Int) (x : Ending) (w' : World) : Prop :=
  ∃ (i t : Int) (vn : Value) (ns : List Int) (lim nxt : Int) (vh : Value) (hs : List Hd) (vl : Value) (ls : List Ls),
    x = .returned (shV i t vn lim nxt vh vl) ∧ OwnN .i64 3 w' w.heap.size vn ns ∧ w'.ownsRow w.heap.size 54 5 vh hs.length (hs.flatMap hdC) ∧ w'.ownsRow w.heap.size 61 6 vl ls.length (ls.flatMap lsC) ∧
    ReadOk i t ns lim nxt hs ls ∧ (E = 0 → (sI lb).1 = i ∧ (sT lb).1 = t ∧ (sNs lb).1 = ns ∧ (sLim lb).1 = lim ∧ (sNxt lb).1 = nxt ∧ (sHs lb).1 = hs ∧ (sLs lb).1 = ls) ∧
    (∃ kx, (E = 0 → kx = (sLs lb).2.1) ∧ RS w' gr A c LB K lb kx E) ∧ w.grownBy w' (some gr)
theorem wf_held (a b : Int) (ha : 0 ≤ a ∧ a ≤ 65535) (hb : 0 ≤ b ∧ b ≤ 65535) {c d f : Int} (hc : 0 ≤ c ∧ c < 18446744073709551616) (hd : 0 ≤ d ∧ d < 18446744073709551616) (hf : 0 ≤ f ∧ f < 18446744073709551616) : (⟨a, b, c, d, f⟩ : Hd).Wf :=
  ⟨wf_small ha.1 ha.2, wf_small hb.1 hb.2, hc, hd, hf⟩

set_option maxHeartbeats 20000000 in
theorem r06_Read_walk (w : World) (gr : Nat) (A : Option Addr) (c : Nat) (LB : List Int) (K : Nat) (lb : List Int) (hlb : LB.drop K = lb) (k' : Nat) (e : Int) (h : ∀ W, w.grownBy W (some gr) → In8 W A c LB)
    (hb : Blk w gr 71 (rdCells A LB.length c k' e)) (hk' : k' ≤ LB.length) (hk0 : e = 0 → k' = K) :
    Calls Try.prog 38 #[.pointer (some ⟨gr, 0, none⟩)] w (R6P w gr A c LB K lb (rE lb e)) := by
  have HIN := Lib.hid h
  have hin0 := h w (World.grownBy.refl _ _)
  have hbyt := hin0.byt
  have hsm := hin0.small
  obtain ⟨g, hg⟩ : ∃ g, w.heap.size = g := ⟨_, rfl⟩
  obtain ⟨gs, hgs⟩ : ∃ gs, g + 1 = gs := ⟨_, rfl⟩
  have hgr := hb.lt
  have ORD : Hid (S6o w g gr gs (gs + 1)) := ⟨by omega, by omega, by omega, hg⟩
  have hs1 : (w.alloc (.cells (shC 0 0 (.slice none 0 0) 0 0 (.slice none 0 0) (.slice none 0 0)) 29)).heap.size = gs := by simp [hg, hgs]
  have hBx : Below g w ((w.alloc (.cells (shC 0 0 (.slice none 0 0) 0 0 (.slice none 0 0) (.slice none 0 0)) 29)).alloc (.cells (shC 0 0 (.slice none 0 0) 0 0 (.slice none 0 0) (.slice none 0 0)) 29)) := ((Below.refl _ _).alloc (by omega) _).alloc (by simp; omega) _
  have hst0 : R60 w g gr gs (gs + 1) A c LB ((w.alloc (.cells (shC 0 0 (.slice none 0 0) 0 0 (.slice none 0 0) (.slice none 0 0)) 29)).alloc (.cells (shC 0 0 (.slice none 0 0) 0 0 (.slice none 0 0) (.slice none 0 0)) 29)) k' e := by
    refine ⟨(hg ▸ Blk.new w 29 (shC 0 0 (.slice none 0 0) 0 0 (.slice none 0 0) (.slice none 0 0)) : Blk (w.alloc (.cells (shC 0 0 (.slice none 0 0) 0 0 (.slice none 0 0) (.slice none 0 0)) 29)) g 29 (shC 0 0 (.slice none 0 0) 0 0 (.slice none 0 0) (.slice none 0 0))).alloc _, hb.below hBx (by omega), hs1 ▸ Blk.new _ _ _, only_of_below (hg ▸ hBx) _, by simp; omega⟩
  have HST := Lib.hid hst0
  have HLB := Lib.hid hlb
  have HK0 := Lib.hid hk0
  clear h hin0 hb hst0 hlb hk0 hBx hs1
  go_enter Try.func38, Try.ntmps38
  go_upto_region 2 with (fail)
  change Code.wp _ _ _ _ ((w.alloc (.cells (shC 0 0 (.slice none 0 0) 0 0 (.slice none 0 0) (.slice none 0 0)) 29)).alloc (.cells (shC 0 0 (.slice none 0 0) 0 0 (.slice none 0 0) (.slice none 0 0)) 29))
  generalize ((w.alloc (.cells (shC 0 0 (.slice none 0 0) 0 0 (.slice none 0 0) (.slice none 0 0)) 29)).alloc (.cells (shC 0 0 (.slice none 0 0) 0 0 (.slice none 0 0) (.slice none 0 0)) 29)) = W0 at HST ⊢
  try rw [hgs]
  obtain ⟨b1, hb1⟩ : ∃ b1, (e == 0 && decide (LB.length ≤ k')) = b1 := ⟨_, rfl⟩
  obtain ⟨e', he'⟩ : ∃ e', (if b1 then 10 else e) = e' := ⟨_, rfl⟩
  have HB1 := Lib.hid hb1
  have HE' := Lib.hid he'
  clear hb1 he'
  have r0 : W0.cell? ⟨gr, 0, none⟩ = some (.slice A LB.length c) := (HST.out.rd.cell 0).trans rfl
  have r1 : W0.cell? ⟨gr, 1, none⟩ = some (.int .i64 (k' : Int)) := (HST.out.rd.cell 1).trans rfl
  have r2 : W0.cell? ⟨gr, 2, none⟩ = some (.int .i64 e) := (HST.out.rd.cell 2).trans rfl
  go_cut [3, 27] (fun x y wx => x = .pointer (some ⟨gs, 0, none⟩) ∧ y = .bool b1 ∧ R60 w g gr gs (gs + 1) A c LB wx k' e)
  case first =>
    by_cases he : e = 0
    · have d1 : (e == 0) = true := by simp [he]
      by_cases hl : (LB.length : Int) ≤ (k' : Int)
      · have d2 : decide (LB.length ≤ k') = true := decide_eq_true (by omega)
        have HV : Hid (b1 = true) := by
          show _ = _
          rw [← HB1.out, d1, decide_eq_true (by omega)]
          rfl
        clear he hl
        go_quiet (fail)
        go_wp2
        go_meet
        case rel => exact ⟨rfl, by rw [HV.out], HST.out.drewN _⟩
      · have d2 : decide (LB.length ≤ k') = false := decide_eq_false (by omega)
        have HV : Hid (b1 = false) := by
          show _ = _
          rw [← HB1.out, d1, decide_eq_false (by omega)]
          rfl
        clear he hl
        go_quiet (fail)
        go_wp2
        go_meet
        case rel => exact ⟨rfl, by rw [HV.out], HST.out.drewN _⟩
    · have d1 : (e == 0) = false := beq_eq_false_iff_ne.2 he
      have HV : Hid (b1 = false) := by
        show _ = _
        rw [← HB1.out, d1]
        rfl
      clear he
      go_quiet (fail)
      go_wp2
      go_meet
      case rel => exact ⟨rfl, by rw [HV.out], HST.out.drewN _⟩
  case rest =>
  obtain ⟨rfl, rfl, hst1⟩ := hcut
  have HS1 := Lib.hid hst1
  clear hst1 HST r0 r1 r2
  go_upto_if 27 with (fail)
  go_cut [3] (fun x wx => x = .pointer (some ⟨gs, 0, none⟩) ∧ R60 w g gr gs (gs + 1) A c LB wx k' e')
  case first =>
    cases b1
    · have HV : Hid (e' = e) := HE'.out.symm
      go_wp2
      go_meet
      case rel => exact ⟨rfl, by rw [HV.out]; exact HS1.out⟩
    · have he0 : e = 0 := by
        have := HB1.out
        simp only [Bool.and_eq_true, beq_iff_eq] at this
        exact this.1
      have HV : Hid (e' = 10) := HE'.out.symm
      have CF := ref_Fail_any wc gr A LB.length c k' e 10 HS1.out.rd
      rw [if_pos he0] at CF
      have CF := Lib.hid CF
      clear he0
      go_wp2_with fail
      refine CF.out.mono ?_
      rintro x w2 ⟨rfl, hb2, hg2⟩
      have HS2 := Lib.hid (HS1.out.fail ORD.out hb2 hg2)
      clear hb2 hg2
      go_wp2
      go_meet
      case rel => exact ⟨rfl, by rw [HV.out]; exact HS2.out⟩
  case rest =>
  obtain ⟨rfl, hst2⟩ := hcut
  have HS2 := Lib.hid hst2
  clear hst2 HS1
  obtain ⟨b2, hb2⟩ : ∃ b2, (e' == 0 && decide (lb.head? ≠ some 83)) = b2 := ⟨_, rfl⟩
  obtain ⟨e1, he1⟩ : ∃ e1, (if b2 then 11 else e') = e1 := ⟨_, rfl⟩
  have HB2 := Lib.hid hb2
  have HE1 := Lib.hid he1
  clear hb2 he1
  have r0 : wc.cell? ⟨gr, 0, none⟩ = some (.slice A LB.length c) := (HS2.out.rd.cell 0).trans rfl
  have r1 : wc.cell? ⟨gr, 1, none⟩ = some (.int .i64 (k' : Int)) := (HS2.out.rd.cell 1).trans rfl
  have r2 : wc.cell? ⟨gr, 2, none⟩ = some (.int .i64 e') := (HS2.out.rd.cell 2).trans rfl
  go_upto_region 4 with (fail)
  go_cut [3, 47] (fun x y wx => x = .pointer (some ⟨gs, 0, none⟩) ∧ y = .bool b2 ∧ R60 w g gr gs (gs + 1) A c LB wx k' e')
  case first =>
    by_cases he : e' = 0
    · have d1 : (e' == 0) = true := by simp [he]
      have hne : e = 0 ∧ k' < LB.length := by
        have h1 := HE'.out
        rw [he] at h1
        cases hb : b1
        · rw [hb] at h1
          have h2 := HB1.out
          rw [hb] at h2
          have h3 : e = 0 := h1
          rw [h3] at h2
          refine ⟨h3, ?_⟩
          simpa using h2
        · rw [hb] at h1
          exact absurd h1 (by simp)
      have hkK := HK0.out hne.1
      obtain ⟨b0, off, hA, hcell⟩ := (HIN.out _ HS2.out.grow).all (by omega)
      have hcl := hcell k' hne.2
      have hhd : lb.head? = some LB[k'] := by
        have h3 : LB[K]? = LB[k']? := by rw [hkK]
        rw [← HLB.out, List.head?_drop, h3, List.getElem?_eq_getElem hne.2]
      obtain ⟨z, hz⟩ : ∃ z, LB[k'] = z := ⟨_, rfl⟩
      rw [hz] at hcl hhd
      subst hA
      have hk1 : (k' : Int) < (LB.length : Int) := by omega
      have hlt := hne.2
      clear hcell hz hne hkK
      by_cases hz : z = 83
      · have d2 : (z != 83) = false := by simp [hz]
        have HV : Hid (b2 = false) := by
          show _ = _
          rw [← HB2.out, hhd, hz]
          simp
        clear he hz hhd
        go_quiet (fail)
        go_wp2
        go_meet
        case rel => exact ⟨rfl, by rw [HV.out], HS2.out.drewN _⟩
      · have d2 : (z != 83) = true := bne_iff_ne.2 hz
        have HV : Hid (b2 = true) := by
          show _ = _
          rw [← HB2.out, hhd, d1]
          simp [hz]
        clear he hz hhd
        go_quiet (fail)
        go_wp2
        go_meet
        case rel => exact ⟨rfl, by rw [HV.out], HS2.out.drewN _⟩
    · have d1 : (e' == 0) = false := beq_eq_false_iff_ne.2 he
      have HV : Hid (b2 = false) := by
        show _ = _
        rw [← HB2.out, d1]
        rfl
      clear he
      go_quiet (fail)
      go_wp2
      go_meet
      case rel => exact ⟨rfl, by rw [HV.out], HS2.out.drewN _⟩
  case rest =>
  obtain ⟨rfl, rfl, hst3⟩ := hcut
  have HS3 := Lib.hid hst3
  clear hst3 HS2 r0 r1 r2
  go_upto_if 47 with (fail)
  go_cut [3] (fun x wx => x = .pointer (some ⟨gs, 0, none⟩) ∧ R60 w g gr gs (gs + 1) A c LB wx k' e1)
  case first =>
    cases b2
    · have HV : Hid (e1 = e') := HE1.out.symm
      go_wp2
      go_meet
      case rel => exact ⟨rfl, by rw [HV.out]; exact HS3.out⟩
    · have he0 : e' = 0 := by
        have := HB2.out
        simp only [Bool.and_eq_true, beq_iff_eq] at this
        exact this.1
      have HV : Hid (e1 = 11) := HE1.out.symm
      have CF := ref_Fail_any wc gr A LB.length c k' e' 11 HS3.out.rd
      rw [if_pos he0] at CF
      have CF := Lib.hid CF
      clear he0
      go_wp2_with fail
      refine CF.out.mono ?_
      rintro x w2 ⟨rfl, hb2, hg2⟩
      have HS4 := Lib.hid (HS3.out.fail ORD.out hb2 hg2)
      clear hb2 hg2
      go_wp2
      go_meet
      case rel => exact ⟨rfl, by rw [HV.out]; exact HS4.out⟩
  case rest =>
  obtain ⟨rfl, hst4⟩ := hcut
  have HS4 := Lib.hid hst4
  clear hst4 HS3
  have HEE : Hid (e1 = rE1 lb e) := by
    show _ = _
    have hE1 := HE1.out
    have hE' := HE'.out
    have hB2 := HB2.out
    have hB1 := HB1.out
    have hl := congrArg List.length HLB.out
    rw [List.length_drop] at hl
    unfold rE1
    by_cases he : e ≠ 0
    · rw [if_pos he]
      have c1 : (e == 0) = false := beq_eq_false_iff_ne.2 he
      rw [c1, Bool.false_and] at hB1
      subst hB1
      have h2 : e = e' := hE'
      subst h2
      rw [c1, Bool.false_and] at hB2
      subst hB2
      exact hE1.symm
    · rw [if_neg he]
      have he0 : e = 0 := Classical.not_not.1 he
      have hkK := HK0.out he0
      subst he0
      by_cases hz : lb.length = 0
      · rw [if_pos hz]
        have c1 : decide (LB.length ≤ k') = true := decide_eq_true (by omega)
        rw [c1] at hB1
        have hB1' : b1 = true := by rw [← hB1]; rfl
        subst hB1'
        have h2 : (10 : Int) = e' := hE'
        subst h2
        have hB2' : b2 = false := by rw [← hB2]; rfl
        subst hB2'
        exact hE1.symm
      · rw [if_neg hz]
        have c1 : decide (LB.length ≤ k') = false := decide_eq_false (by omega)
        rw [c1] at hB1
        have hB1' : b1 = false := by rw [← hB1]; rfl
        subst hB1'
        have h2 : (0 : Int) = e' := hE'
        subst h2
        by_cases h83 : lb.head? ≠ some 83
        · rw [if_pos h83]
          have hB2' : b2 = true := by rw [← hB2, decide_eq_true h83]; rfl
          subst hB2'
          exact hE1.symm
        · rw [if_neg h83]
          have hB2' : b2 = false := by rw [← hB2, decide_eq_false h83]; rfl
          subst hB2'
          exact hE1.symm
  have HE0 : Hid (e1 = 0 → e = 0 ∧ lb.head? = some 83) := by
    show _ → _
    intro h1
    have hE1 := HE1.out
    rw [h1] at hE1
    have hE' := HE'.out
    have hB2 := HB2.out
    have hB1 := HB1.out
    cases b2
    · have h2 : e' = 0 := hE1
      rw [h2] at hE' hB2
      cases b1
      · have h3 : e = 0 := hE'
        refine ⟨h3, ?_⟩
        simpa using hB2
      · exact absurd hE' (by simp)
    · exact absurd hE1 (by simp)
  have r1 : wc.cell? ⟨gr, 1, none⟩ = some (.int .i64 (k' : Int)) := (HS4.out.rd.cell 1).trans rfl
  have fr := HS4.out.rd.frozen 1
  have HSUM : Hid ((k' : Int) + 1 = ((k' + 1 : Nat) : Int)) := by
    show _ = _
    omega
  have H5 : Hid (S6 w g gr gs (gs + 1) A c LB K lb (wc.setCell ⟨gr, 1, none⟩ (.int .i64 ((k' : Int) + 1))) 0 0 (.slice none 0 0) [] 0 0 (.slice none 0 0) [] (.slice none 0 0) [] 1 e1) := by
    have o1 := ORD.out.h1
    have o2 := ORD.out.h2
    have hg : wc.grownBy (wc.setCell ⟨gr, 1, none⟩ (.int .i64 ((k' : Int) + 1))) (some gr) := only_setCell (p := ⟨gr, 1, none⟩) (World.grownBy.refl wc (some gr)) (.inl rfl) _
    have hne : ∀ j, j ≠ gr → some j ≠ some gr := fun j hj hh => hj (by injection hh)
    have hrd : Blk (wc.setCell ⟨gr, 1, none⟩ (.int .i64 ((k' : Int) + 1))) gr 71 (rdCells A LB.length c (k' + 1) e1) := by
      have := Blk.setL (l := [Value.slice A LB.length c, .int .i64 (k' : Int), .int .i64 e1]) HS4.out.rd 1 (.int .i64 ((k' : Int) + 1))
      rw [HSUM.out] at this ⊢
      exact this
    refine ⟨HS4.out.res.grown hg (hne _ (by omega)), ⟨HLB.out, k' + 1, hrd, by omega, fun h1 => ?_⟩, HS4.out.cm.grown hg (hne _ (by omega)), World.grownBy.trans HS4.out.grow hg, Nat.le_trans HS4.out.sz hg.size, own_nil _ _ _ _, own_nil _ _ _ _, own_nil _ _ _ _⟩
    obtain ⟨q1, q2⟩ := HE0.out h1
    have q3 := HK0.out q1
    refine ⟨by omega, ?_⟩
    have q4 : (LB.drop K).head? ≠ none := by rw [HLB.out, q2]; simp
    rw [List.head?_drop] at q4
    have q5 : K < LB.length := by
      rcases Nat.lt_or_ge K LB.length with q | q
      · exact q
      · exact absurd (List.getElem?_eq_none q) q4
    omega
  clear HE1 HE' HB1 HB2 HK0
  go_upto_region 7 with (fail)
  generalize wc.setCell ⟨gr, 1, none⟩ (.int .i64 ((k' : Int) + 1)) = W5 at H5 ⊢
  clear r1 fr HS4 HSUM
  have HNUM := Lib.hid (fun (W : World) (k : Nat) (e : Int) (z : RS W gr A c LB K lb k e) => z.num_le hbyt (most := 18446744073709551615) (by decide))
  have HSML := Lib.hid (fun (W : World) (k : Nat) (e : Int) (z : RS W gr A c LB K lb k e) => z.num_le hbyt (most := 65535) (by decide))
  have HSIX := Lib.hid (fun (W : World) (k : Nat) (e : Int) (z : RS W gr A c LB K lb k e) => z.num_le hbyt (most := 64) (by decide))
  obtain ⟨⟨i, k1, ei⟩, hI⟩ : ∃ r, rnum lb 1 e1 18446744073709551615 = r := ⟨_, rfl⟩
  have C1 := H5.out.num ORD.out HIN.out
  have hi := HNUM.out _ _ _ H5.out.rd
  rw [hI] at C1 hi
  simp only at C1 hi
  have C1 := Lib.hid C1
  have HI := Lib.hid hI
  have HIB := Lib.hid hi
  clear hI hi
  go_wp2_with fail
  refine C1.out.mono ?_
  rintro x w6 ⟨rfl, h6⟩
  have H6 := Lib.hid h6
  have z0 := h6.cm.sh.z0
  have y0 := h6.cm.frozen 0
  have h7 := h6.setc ORD.out 0 (.int .u64 i) rfl h6.on h6.oh h6.ol
  have H7 := Lib.hid h7
  clear h6 h7 C1 H5
  go_upto_region 8 with (fail)
  change Code.wp _ _ _ _ (w6.setCell ⟨gs, 0, none⟩ (.int .u64 i))
  generalize (w6.setCell ⟨gs, 0, none⟩ (.int .u64 i)) = W7 at H7 ⊢
  clear z0 y0 H6
  obtain ⟨⟨t, k2, et⟩, hT⟩ : ∃ r, rnum lb k1 ei 18446744073709551615 = r := ⟨_, rfl⟩
  have C2 := H7.out.num ORD.out HIN.out
  have ht := HNUM.out _ _ _ H7.out.rd
  rw [hT] at C2 ht
  simp only at C2 ht
  have C2 := Lib.hid C2
  have HT := Lib.hid hT
  have HTB := Lib.hid ht
  clear hT ht
  go_wp2_with fail
  refine C2.out.mono ?_
  rintro x w8 ⟨rfl, h8⟩
  have z1 := h8.cm.sh.z1
  have y1 := h8.cm.frozen 1
  have H9 := Lib.hid (h8.setc ORD.out 1 (.int .u64 t) rfl h8.on h8.oh h8.ol)
  clear h8 C2 H7
  go_upto_region 9 with (fail)
  change Code.wp _ _ _ _ (w8.setCell ⟨gs, 1, none⟩ (.int .u64 t))
  generalize (w8.setCell ⟨gs, 1, none⟩ (.int .u64 t)) = W9 at H9 ⊢
  clear z1 y1
  obtain ⟨⟨cni, k3, ec⟩, hC⟩ : ∃ r, rnum lb k2 et 64 = r := ⟨_, rfl⟩
  have C3 := H9.out.small ORD.out HIN.out 64 (.inl rfl)
  have hc := HSIX.out _ _ _ H9.out.rd
  rw [hC] at C3 hc
  simp only at C3 hc
  obtain ⟨cn, rfl⟩ := Int.eq_ofNat_of_zero_le hc.1
  have hcn : cn ≤ 64 := by omega
  have C3 := Lib.hid C3
  have HC := Lib.hid hC
  clear hC hc
  go_wp2_with fail
  refine C3.out.mono ?_
  rintro x w10 ⟨rfl, h10⟩
  have H10 := Lib.hid h10
  clear h10 C3 H9
  obtain ⟨⟨ns, k4, en⟩, rN⟩ : ∃ r, decNodes lb cn k3 ec = r := ⟨_, rfl⟩
  have HNN := Lib.hid rN
  clear rN
  go_upto_block 0 with (fail)
  go_cut [3] (fun x wx => x = .pointer (some ⟨gs, 0, none⟩) ∧ ∃ (sv : Value) (L : List Int), S6 w g gr gs (gs + 1) A c LB K lb wx i t sv L 0 0 (.slice none 0 0) [] (.slice none 0 0) [] k4 en ∧ L.length ≤ 64 ∧ (∀ z ∈ L, 0 ≤ z ∧ z ≤ 65535) ∧ (en = 0 → L = ns))
  case first =>
    go_wp2_with fail
    go_loopw [4, 5] (fun kk _ wr => ∃ (rem : Nat) (sv : Value) (L : List Int) (kj : Nat) (ej : Int), kk = .int .i64 (rem : Int) ∧ rem ≤ cn ∧ L.length + rem = cn ∧ (∀ z ∈ L, 0 ≤ z ∧ z ≤ 65535) ∧ S6 w g gr gs (gs + 1) A c LB K lb wr i t sv L 0 0 (.slice none 0 0) [] (.slice none 0 0) [] kj ej ∧ (ns, k4, en) = (L ++ (decNodes lb rem kj ej).1, (decNodes lb rem kj ej).2)) (fun kk _ _ => (intOf kk).toNat)
    case atStart => exact ⟨cn, _, [], k3, ec, rfl, by omega, by simp, (fun z hz => by cases hz), H10.out, by rw [HNN.out]; simp⟩
    case round =>
      clear H10
      obtain ⟨rem, sv, L, kj, ej, rfl, hrem, hlen, hwf, hst, heq⟩ := hrel
      have HS := Lib.hid hst
      have HWF := Lib.hid hwf
      have HEQ := Lib.hid heq
      have HLEN := Lib.hid hlen
      have r2 := hst.rd.cell2
      clear hst hwf heq hlen
      cases rem with
      | zero =>
        have hgt : decide (((0 : Nat) : Int) > 0) = false := by decide
        have HF : Hid (L = ns ∧ kj = k4 ∧ ej = en) := by
          have := HEQ.out
          simp only [decNodes, List.append_nil, Prod.mk.injEq] at this
          exact ⟨this.1.symm, this.2.1.symm, this.2.2.symm⟩
        go_wp2
        go_meet
        case rel =>
          obtain ⟨f1, f2, f3⟩ := HF.out
          subst f1 f2 f3
          exact ⟨rfl, _, _, HS.out, by have := HLEN.out; omega, HWF.out, fun _ => rfl⟩
      | succ rem =>
        have hgt : decide (((rem + 1 : Nat) : Int) > 0) = true := decide_eq_true (by omega)
        by_cases he : ej = 0
        · have hE : (ej == 0) = true := by simp [he]
          clear he
          obtain ⟨⟨v7, k7, e7⟩, hr7⟩ : ∃ r, rnum lb kj ej 65535 = r := ⟨_, rfl⟩
          have C2 := HS.out.small ORD.out HIN.out 65535 (.inr rfl)
          have hv := HSML.out _ _ _ HS.out.rd
          rw [hr7] at C2 hv
          simp only at C2 hv
          have HDD : Hid (decNodes lb (rem + 1) kj ej = (v7 :: (decNodes lb rem k7 e7).1, (decNodes lb rem k7 e7).2)) := by
            show _ = _
            simp only [decNodes, hr7]
          have C2 := Lib.hid C2
          have HV := Lib.hid hv
          clear hr7 hv
          go_wp2_with fail
          refine C2.out.mono ?_
          rintro x w5 ⟨rfl, h5⟩
          have H5 := Lib.hid h5
          have z2 := h5.cm.sh.z2
          clear h5 C2 r2
          go_wp2_with (at_builtin; refine push_own (w0 := w5) (W := w5) (gs + 1) rfl _ _ 22 3 (.int .i64 0) 8 rfl Try.underlying22 info_int rfl (by omega) sv (nums .i64 L) (.int .i64 v7) L.length (nums_length .i64 L).symm rfl rfl rfl H5.out.on (Below.refl _ _) H5.out.sz (by have := HLEN.out; omega) ?_; intro v8 w8 ho8 _ hg8 _; have H8 : Hid (OwnN .i64 3 w8 (gs + 1) v8 (L ++ [v7])) := (by show OwnN _ _ _ _ _ _; unfold OwnN; rw [List.length_append, nums_append]; exact ho8); have HG8 := Lib.hid hg8; have b28 := H5.out.cm.grown hg8 (fun hh => by have := own_base H5.out.on _ hh.symm; omega); have c28 := b28.sh.z2; have f28 := b28.frozen 2; obtain ⟨A8, c8, rfl⟩ := own_slice ho8; clear b28 ho8 hg8)
          go_roundw
          case rel => exact ⟨rem, _, L ++ [v7], k7, e7, by go_num, by omega, by have := HLEN.out; simp; omega, (fun z hz => by rcases List.mem_append.1 hz with q | q; exact HWF.out z q; rw [List.mem_singleton] at q; subst q; exact ⟨HV.out.1, HV.out.2.1⟩), H5.out.appN ORD.out HG8.out H8.out, by rw [HEQ.out, HDD.out]; simp⟩
          case measure => simp [intOf]
        · have hE : (ej == 0) = false := beq_eq_false_iff_ne.2 he
          have HF : Hid (ej = en) := by
            have h1 := congrArg (fun z => z.2.2) HEQ.out
            have h2 := decNodes_err (lb := lb) he (rem + 1) kj
            simp only at h1
            show _ = _
            rw [h1, h2]
          have HNE := Lib.hid he
          clear he
          go_wp2
          go_meet
          case rel => exact ⟨rfl, _, _, by rw [← HF.out]; exact ⟨HS.out.res, HS.out.rd.err HNE.out, HS.out.cm, HS.out.grow, HS.out.sz, HS.out.on, HS.out.oh, HS.out.ol⟩, by have := HLEN.out; omega, HWF.out, fun h0 => absurd (HF.out.trans h0) HNE.out⟩
  case rest =>
  obtain ⟨rfl, svN, LN, hstN, hlnN, hwfN, heqN⟩ := hcut
  have HSN := Lib.hid hstN
  have HWN := Lib.hid hwfN
  have HQN := Lib.hid heqN
  clear hstN hwfN heqN H10
  obtain ⟨⟨lim, k5, el⟩, r11⟩ : ∃ r, rnum lb k4 en 65535 = r := ⟨_, rfl⟩
  have C11 := HSN.out.small ORD.out HIN.out 65535 (.inr rfl)
  have b11 := HSML.out _ _ _ HSN.out.rd
  rw [r11] at C11 b11
  simp only at C11 b11
  have C11 := Lib.hid C11
  have HLm := Lib.hid r11
  have HLmB := Lib.hid b11
  clear r11 b11
  go_wp2_with fail
  refine C11.out.mono ?_
  rintro x w11 ⟨rfl, h11⟩
  have z11 := h11.cm.sh.z3
  have y11 := h11.cm.frozen 3
  have H11 := Lib.hid (h11.setc ORD.out 3 (.int .i64 lim) rfl h11.on h11.oh h11.ol)
  clear h11 C11 HSN
  go_upto_region 15 with (fail)
  change Code.wp _ _ _ _ (w11.setCell ⟨gs, 3, none⟩ (.int .i64 lim))
  generalize (w11.setCell ⟨gs, 3, none⟩ (.int .i64 lim)) = W11 at H11 ⊢
  clear z11 y11
  obtain ⟨⟨nxt, k6, ex⟩, r12⟩ : ∃ r, rnum lb k5 el 18446744073709551615 = r := ⟨_, rfl⟩
  have C12 := H11.out.num ORD.out HIN.out
  have b12 := HNUM.out _ _ _ H11.out.rd
  rw [r12] at C12 b12
  simp only at C12 b12
  have C12 := Lib.hid C12
  have HNx := Lib.hid r12
  have HNxB := Lib.hid b12
  clear r12 b12
  go_wp2_with fail
  refine C12.out.mono ?_
  rintro x w12 ⟨rfl, h12⟩
  have z12 := h12.cm.sh.z4
  have y12 := h12.cm.frozen 4
  have H12 := Lib.hid (h12.setc ORD.out 4 (.int .u64 nxt) rfl h12.on h12.oh h12.ol)
  clear h12 C12 H11
  go_upto_region 16 with (fail)
  change Code.wp _ _ _ _ (w12.setCell ⟨gs, 4, none⟩ (.int .u64 nxt))
  generalize (w12.setCell ⟨gs, 4, none⟩ (.int .u64 nxt)) = W12 at H12 ⊢
  clear z12 y12
  obtain ⟨⟨chni, k7, eh⟩, r13⟩ : ∃ r, rnum lb k6 ex 64 = r := ⟨_, rfl⟩
  have C13 := H12.out.small ORD.out HIN.out 64 (.inl rfl)
  have b13 := HSIX.out _ _ _ H12.out.rd
  rw [r13] at C13 b13
  simp only at C13 b13
  obtain ⟨chn, rfl⟩ := Int.eq_ofNat_of_zero_le b13.1
  have hchn : chn ≤ 64 := by omega
  have C13 := Lib.hid C13
  have HCh := Lib.hid r13
  clear r13 b13
  go_wp2_with fail
  refine C13.out.mono ?_
  rintro x w13 ⟨rfl, h13⟩
  have H13 := Lib.hid h13
  clear h13 C13 H12
  obtain ⟨⟨hs, k8, eH⟩, rH⟩ : ∃ r, decH lb chn k7 eh = r := ⟨_, rfl⟩
  have HNH := Lib.hid rH
  clear rH
  go_upto_block 2 with (fail)
  go_cut [3] (fun x wx => x = .pointer (some ⟨gs, 0, none⟩) ∧ ∃ (sv : Value) (L : List Hd), S6 w g gr gs (gs + 1) A c LB K lb wx i t svN LN lim nxt sv L (.slice none 0 0) [] k8 eH ∧ L.length ≤ 64 ∧ (∀ z ∈ L, z.Wf) ∧ (eH = 0 → L = hs))
  case first =>
    go_wp2_with fail
    go_loopw [6, 7] (fun kk _ wr => ∃ (rem : Nat) (sv : Value) (L : List Hd) (kj : Nat) (ej : Int), kk = .int .i64 (rem : Int) ∧ rem ≤ chn ∧ L.length + rem = chn ∧ (∀ z ∈ L, z.Wf) ∧ S6 w g gr gs (gs + 1) A c LB K lb wr i t svN LN lim nxt sv L (.slice none 0 0) [] kj ej ∧ (hs, k8, eH) = (L ++ (decH lb rem kj ej).1, (decH lb rem kj ej).2)) (fun kk _ _ => (intOf kk).toNat)
    case atStart => exact ⟨chn, _, [], k7, eh, rfl, by omega, by simp, (fun z hz => by cases hz), H13.out, by rw [HNH.out]; simp⟩
    case round =>
      clear H13
      obtain ⟨rem, sv, L, kj, ej, rfl, hrem, hlen, hwf, hst, heq⟩ := hrel
      have HS := Lib.hid hst
      have HWF := Lib.hid hwf
      have HEQ := Lib.hid heq
      have HLEN := Lib.hid hlen
      have r2 := hst.rd.cell2
      clear hst hwf heq hlen
      cases rem with
      | zero =>
        have hgt : decide (((0 : Nat) : Int) > 0) = false := by decide
        have HF : Hid (L = hs ∧ kj = k8 ∧ ej = eH) := by
          have := HEQ.out
          simp only [decH, List.append_nil, Prod.mk.injEq] at this
          exact ⟨this.1.symm, this.2.1.symm, this.2.2.symm⟩
        go_wp2
        go_meet
        case rel =>
          obtain ⟨f1, f2, f3⟩ := HF.out
          subst f1 f2 f3
          exact ⟨rfl, _, _, HS.out, by have := HLEN.out; omega, HWF.out, fun _ => rfl⟩
      | succ rem =>
        have hgt : decide (((rem + 1 : Nat) : Int) > 0) = true := decide_eq_true (by omega)
        by_cases he : ej = 0
        · have hE : (ej == 0) = true := by simp [he]
          clear he
          obtain ⟨gx, hgx⟩ : ∃ gx, wr.heap.size = gx := ⟨_, rfl⟩
          have hBx : gs + 1 ≤ gx := hgx ▸ HS.out.sz
          have hxne : gx ≠ gr := by have := ORD.out.h1; have := ORD.out.h2; omega
          have N1 : Hid (svN.ownBlock ≠ some gx) := fun hh => by have := (World.ownsRow.lt HS.out.on gx hh).2; omega
          have N2 : Hid (sv.ownBlock ≠ some gx) := fun hh => by have := (World.ownsRow.lt HS.out.oh gx hh).2; omega
          have N3 : Hid ((Value.slice none 0 0).ownBlock ≠ some gx) := fun hh => by have := (World.ownsRow.lt HS.out.ol gx hh).2; omega
          have hx0 : Blk (wr.alloc (.cells (hdA ⟨0, 0, 0, 0, 0⟩) 54)) gx 54 (hdA ⟨0, 0, 0, 0, 0⟩) := hgx ▸ Blk.new _ _ _
          have h0 := HS.out.alloc ORD.out (.cells (hdA ⟨0, 0, 0, 0, 0⟩) 54)
          clear HS
          go_upto_region 20 with (fail)
          change Code.wp _ _ _ _ (wr.alloc (.cells (hdA ⟨0, 0, 0, 0, 0⟩) 54))
          generalize wr.alloc (.cells (hdA ⟨0, 0, 0, 0, 0⟩) 54) = Q0 at hx0 h0 ⊢
          try rw [hgx]
          clear hgx r2
          obtain ⟨⟨a1, ka, ea⟩, rq0⟩ : ∃ r, rnum lb kj ej 65535 = r := ⟨_, rfl⟩
          have Yq0 := h0.smallB ORD.out HIN.out hx0 hxne
          have bq0 := HSML.out _ _ _ h0.rd
          rw [rq0] at Yq0 bq0
          simp only at Yq0 bq0
          have Yq0 := Lib.hid Yq0
          have Rq0 := Lib.hid rq0
          have Bq0 := Lib.hid bq0
          clear rq0 bq0 h0 hx0
          go_wp2_with fail
          refine Yq0.out.mono ?_
          rintro x q0 ⟨rfl, hq0, hxq0⟩
          have xq0 : q0.cell? ⟨gx, 0, none⟩ = some (.int .i64 0) := (hxq0.cell 0).trans rfl
          have yq0 := hxq0.frozen 0
          have hyq0 : Blk (q0.setCell ⟨gx, 0, none⟩ (.int .i64 a1)) gx 54 (hdA ⟨a1, 0, 0, 0, 0⟩) := Blk.setL (l := [Value.int .i64 0, .int .i64 0, .int .u64 0, .int .u64 0, .int .u64 0]) hxq0 0 _
          have hzq0 := hq0.setX ORD.out hBx N1.out N2.out N3.out 0 (.int .i64 a1)
          clear hq0 hxq0 Yq0
          go_upto_region 21 with (fail)
          change Code.wp _ _ _ _ (q0.setCell ⟨gx, 0, none⟩ (.int .i64 a1))
          generalize q0.setCell ⟨gx, 0, none⟩ (.int .i64 a1) = Pq0 at hyq0 hzq0 ⊢
          clear xq0 yq0
          obtain ⟨⟨b1, kb, eb⟩, rq1⟩ : ∃ r, rnum lb ka ea 65535 = r := ⟨_, rfl⟩
          have Yq1 := hzq0.smallB ORD.out HIN.out hyq0 hxne
          have bq1 := HSML.out _ _ _ hzq0.rd
          rw [rq1] at Yq1 bq1
          simp only at Yq1 bq1
          have Yq1 := Lib.hid Yq1
          have Rq1 := Lib.hid rq1
          have Bq1 := Lib.hid bq1
          clear rq1 bq1 hzq0 hyq0
          go_wp2_with fail
          refine Yq1.out.mono ?_
          rintro x q1 ⟨rfl, hq1, hxq1⟩
          have xq1 : q1.cell? ⟨gx, 1, none⟩ = some (.int .i64 0) := (hxq1.cell 1).trans rfl
          have yq1 := hxq1.frozen 1
          have hyq1 : Blk (q1.setCell ⟨gx, 1, none⟩ (.int .i64 b1)) gx 54 (hdA ⟨a1, b1, 0, 0, 0⟩) := Blk.setL (l := [Value.int .i64 a1, .int .i64 0, .int .u64 0, .int .u64 0, .int .u64 0]) hxq1 1 _
          have hzq1 := hq1.setX ORD.out hBx N1.out N2.out N3.out 1 (.int .i64 b1)
          clear hq1 hxq1 Yq1
          go_upto_region 22 with (fail)
          change Code.wp _ _ _ _ (q1.setCell ⟨gx, 1, none⟩ (.int .i64 b1))
          generalize q1.setCell ⟨gx, 1, none⟩ (.int .i64 b1) = Pq1 at hyq1 hzq1 ⊢
          clear xq1 yq1
          obtain ⟨⟨c1, kc, ec2⟩, rq2⟩ : ∃ r, rnum lb kb eb 18446744073709551615 = r := ⟨_, rfl⟩
          have Yq2 := hzq1.numB ORD.out HIN.out hyq1 hxne
          have bq2 := HNUM.out _ _ _ hzq1.rd
          rw [rq2] at Yq2 bq2
          simp only at Yq2 bq2
          have Yq2 := Lib.hid Yq2
          have Rq2 := Lib.hid rq2
          have Bq2 := Lib.hid bq2
          clear rq2 bq2 hzq1 hyq1
          go_wp2_with fail
          refine Yq2.out.mono ?_
          rintro x q2 ⟨rfl, hq2, hxq2⟩
          have xq2 : q2.cell? ⟨gx, 2, none⟩ = some (.int .u64 0) := (hxq2.cell 2).trans rfl
          have yq2 := hxq2.frozen 2
          have hyq2 : Blk (q2.setCell ⟨gx, 2, none⟩ (.int .u64 c1)) gx 54 (hdA ⟨a1, b1, c1, 0, 0⟩) := Blk.setL (l := [Value.int .i64 a1, .int .i64 b1, .int .u64 0, .int .u64 0, .int .u64 0]) hxq2 2 _
          have hzq2 := hq2.setX ORD.out hBx N1.out N2.out N3.out 2 (.int .u64 c1)
          clear hq2 hxq2 Yq2
          go_upto_region 23 with (fail)
          change Code.wp _ _ _ _ (q2.setCell ⟨gx, 2, none⟩ (.int .u64 c1))
          generalize q2.setCell ⟨gx, 2, none⟩ (.int .u64 c1) = Pq2 at hyq2 hzq2 ⊢
          clear xq2 yq2
          obtain ⟨⟨d1, kd, ed⟩, rq3⟩ : ∃ r, rnum lb kc ec2 18446744073709551615 = r := ⟨_, rfl⟩
          have Yq3 := hzq2.numB ORD.out HIN.out hyq2 hxne
          have bq3 := HNUM.out _ _ _ hzq2.rd
          rw [rq3] at Yq3 bq3
          simp only at Yq3 bq3
          have Yq3 := Lib.hid Yq3
          have Rq3 := Lib.hid rq3
          have Bq3 := Lib.hid bq3
          clear rq3 bq3 hzq2 hyq2
          go_wp2_with fail
          refine Yq3.out.mono ?_
          rintro x q3 ⟨rfl, hq3, hxq3⟩
          have xq3 : q3.cell? ⟨gx, 3, none⟩ = some (.int .u64 0) := (hxq3.cell 3).trans rfl
          have yq3 := hxq3.frozen 3
          have hyq3 : Blk (q3.setCell ⟨gx, 3, none⟩ (.int .u64 d1)) gx 54 (hdA ⟨a1, b1, c1, d1, 0⟩) := Blk.setL (l := [Value.int .i64 a1, .int .i64 b1, .int .u64 c1, .int .u64 0, .int .u64 0]) hxq3 3 _
          have hzq3 := hq3.setX ORD.out hBx N1.out N2.out N3.out 3 (.int .u64 d1)
          clear hq3 hxq3 Yq3
          go_upto_region 24 with (fail)
          change Code.wp _ _ _ _ (q3.setCell ⟨gx, 3, none⟩ (.int .u64 d1))
          generalize q3.setCell ⟨gx, 3, none⟩ (.int .u64 d1) = Pq3 at hyq3 hzq3 ⊢
          clear xq3 yq3
          obtain ⟨⟨f1, kf, ef⟩, rq4⟩ : ∃ r, rnum lb kd ed 18446744073709551615 = r := ⟨_, rfl⟩
          have Yq4 := hzq3.numB ORD.out HIN.out hyq3 hxne
          have bq4 := HNUM.out _ _ _ hzq3.rd
          rw [rq4] at Yq4 bq4
          simp only at Yq4 bq4
          have Yq4 := Lib.hid Yq4
          have Rq4 := Lib.hid rq4
          have Bq4 := Lib.hid bq4
          clear rq4 bq4 hzq3 hyq3
          go_wp2_with fail
          refine Yq4.out.mono ?_
          rintro x q4 ⟨rfl, hq4, hxq4⟩
          have xq4 : q4.cell? ⟨gx, 4, none⟩ = some (.int .u64 0) := (hxq4.cell 4).trans rfl
          have yq4 := hxq4.frozen 4
          have hyq4 : Blk (q4.setCell ⟨gx, 4, none⟩ (.int .u64 f1)) gx 54 (hdA ⟨a1, b1, c1, d1, f1⟩) := Blk.setL (l := [Value.int .i64 a1, .int .i64 b1, .int .u64 c1, .int .u64 d1, .int .u64 0]) hxq4 4 _
          have hzq4 := hq4.setX ORD.out hBx N1.out N2.out N3.out 4 (.int .u64 f1)
          clear hq4 hxq4 Yq4
          go_upto_region 25 with (fail)
          change Code.wp _ _ _ _ (q4.setCell ⟨gx, 4, none⟩ (.int .u64 f1))
          generalize q4.setCell ⟨gx, 4, none⟩ (.int .u64 f1) = Pq4 at hyq4 hzq4 ⊢
          clear xq4 yq4
          have HL := Lib.hid hzq4
          have v0 : Pq4.cell? ⟨gx, 0, none⟩ = some (.int .i64 a1) := (hyq4.cell 0).trans rfl
          have v1 : Pq4.cell? ⟨gx, 1, none⟩ = some (.int .i64 b1) := (hyq4.cell 1).trans rfl
          have v2 : Pq4.cell? ⟨gx, 2, none⟩ = some (.int .u64 c1) := (hyq4.cell 2).trans rfl
          have v3 : Pq4.cell? ⟨gx, 3, none⟩ = some (.int .u64 d1) := (hyq4.cell 3).trans rfl
          have v4 : Pq4.cell? ⟨gx, 4, none⟩ = some (.int .u64 f1) := (hyq4.cell 4).trans rfl
          have zz := hzq4.cm.sh.z5
          have hlz := hzq4.cm.lt
          have HDD : Hid (decH lb (rem + 1) kj ej = (⟨a1, b1, c1, d1, f1⟩ :: (decH lb rem kf ef).1, (decH lb rem kf ef).2)) := by
            show _ = _
            have hd : dHd lb kj ej = (⟨a1, b1, c1, d1, f1⟩, kf, ef) := by
              unfold dHd
              simp only [Rq0.out, Rq1.out, Rq2.out, Rq3.out, Rq4.out]
            simp only [decH, hd]
          clear hzq4 hyq4
          go_wp2_with (at_builtin; refine one_own (f := hdC) (W := Pq4) Try.underlying24 info_Held rfl (by omega) hdC_len hdC_one (gs + 1) rfl _ _ rfl sv L ⟨a1, b1, c1, d1, f1⟩ rfl rfl rfl HL.out.oh HL.out.sz (by have := HLEN.out; omega) (by omega) ?_; intro v8 w8 ho8 hg8; have H8 := Lib.hid ho8; have HG8 := Lib.hid hg8; have b28 := HL.out.cm.grown hg8 (fun hh => by have := own_base HL.out.oh _ hh.symm; omega); have c28 := b28.sh.z5; have f28 := b28.frozen 5; obtain ⟨A8, c8, rfl⟩ := own_slice ho8; clear b28 ho8 hg8)
          go_roundw
          case rel => exact ⟨rem, _, L ++ [⟨a1, b1, c1, d1, f1⟩], kf, ef, by go_num, by omega, by have := HLEN.out; simp; omega, (fun z hz => by rcases List.mem_append.1 hz with q | q; exact HWF.out z q; rw [List.mem_singleton] at q; subst q; exact ⟨wf_small Bq0.out.1 Bq0.out.2.1, wf_small Bq1.out.1 Bq1.out.2.1, ⟨Bq2.out.1, Bq2.out.2.2⟩, ⟨Bq3.out.1, Bq3.out.2.2⟩, ⟨Bq4.out.1, Bq4.out.2.2⟩⟩), HL.out.appH ORD.out HG8.out (by have := H8.out; rw [List.length_append] at this ⊢; exact this), by rw [HEQ.out, HDD.out]; simp⟩
          case measure => simp [intOf]
        · have hE : (ej == 0) = false := beq_eq_false_iff_ne.2 he
          have HF : Hid (ej = eH) := by
            have h1 := congrArg (fun z => z.2.2) HEQ.out
            have h2 := decH_err (lb := lb) he (rem + 1) kj
            simp only at h1
            show _ = _
            rw [h1, h2]
          have HNE := Lib.hid he
          clear he
          go_wp2
          go_meet
          case rel => exact ⟨rfl, _, _, by rw [← HF.out]; exact ⟨HS.out.res, HS.out.rd.err HNE.out, HS.out.cm, HS.out.grow, HS.out.sz, HS.out.on, HS.out.oh, HS.out.ol⟩, by have := HLEN.out; omega, HWF.out, fun h0 => absurd (HF.out.trans h0) HNE.out⟩
  case rest =>
  obtain ⟨rfl, svH, LH, hstH, hlnH, hwfH, heqH⟩ := hcut
  have HSH := Lib.hid hstH
  have HWH := Lib.hid hwfH
  have HQH := Lib.hid heqH
  clear hstH hwfH heqH H13
  obtain ⟨⟨clni, k9, e9⟩, r14⟩ : ∃ r, rnum lb k8 eH 64 = r := ⟨_, rfl⟩
  have C14 := HSH.out.small ORD.out HIN.out 64 (.inl rfl)
  have b14 := HSIX.out _ _ _ HSH.out.rd
  rw [r14] at C14 b14
  simp only at C14 b14
  obtain ⟨cln, rfl⟩ := Int.eq_ofNat_of_zero_le b14.1
  have hcln : cln ≤ 64 := by omega
  have C14 := Lib.hid C14
  have HCl := Lib.hid r14
  clear r14 b14
  go_wp2_with fail
  refine C14.out.mono ?_
  rintro x w14 ⟨rfl, h14⟩
  have H14 := Lib.hid h14
  clear h14 C14 HSH
  obtain ⟨⟨ls, kx, eL⟩, rL⟩ : ∃ r, decL lb cln k9 e9 = r := ⟨_, rfl⟩
  have HNL := Lib.hid rL
  clear rL
  go_upto_block 4 with (fail)
  go_cut [3] (fun x wx => x = .pointer (some ⟨gs, 0, none⟩) ∧ ∃ (sv : Value) (L : List Ls), S6 w g gr gs (gs + 1) A c LB K lb wx i t svN LN lim nxt svH LH sv L kx eL ∧ L.length ≤ 64 ∧ (∀ z ∈ L, z.Wf) ∧ (eL = 0 → L = ls))
  case first =>
    go_wp2_with fail
    go_loopw [8, 9] (fun kk _ wr => ∃ (rem : Nat) (sv : Value) (L : List Ls) (kj : Nat) (ej : Int), kk = .int .i64 (rem : Int) ∧ rem ≤ cln ∧ L.length + rem = cln ∧ (∀ z ∈ L, z.Wf) ∧ S6 w g gr gs (gs + 1) A c LB K lb wr i t svN LN lim nxt svH LH sv L kj ej ∧ (ls, kx, eL) = (L ++ (decL lb rem kj ej).1, (decL lb rem kj ej).2)) (fun kk _ _ => (intOf kk).toNat)
    case atStart => exact ⟨cln, _, [], k9, e9, rfl, by omega, by simp, (fun z hz => by cases hz), H14.out, by rw [HNL.out]; simp⟩
    case round =>
      clear H14
      obtain ⟨rem, sv, L, kj, ej, rfl, hrem, hlen, hwf, hst, heq⟩ := hrel
      have HS := Lib.hid hst
      have HWF := Lib.hid hwf
      have HEQ := Lib.hid heq
      have HLEN := Lib.hid hlen
      have r2 := hst.rd.cell2
      clear hst hwf heq hlen
      cases rem with
      | zero =>
        have hgt : decide (((0 : Nat) : Int) > 0) = false := by decide
        have HF : Hid (L = ls ∧ kj = kx ∧ ej = eL) := by
          have := HEQ.out
          simp only [decL, List.append_nil, Prod.mk.injEq] at this
          exact ⟨this.1.symm, this.2.1.symm, this.2.2.symm⟩
        go_wp2
        go_meet
        case rel =>
          obtain ⟨f1, f2, f3⟩ := HF.out
          subst f1 f2 f3
          exact ⟨rfl, _, _, HS.out, by have := HLEN.out; omega, HWF.out, fun _ => rfl⟩
      | succ rem =>
        have hgt : decide (((rem + 1 : Nat) : Int) > 0) = true := decide_eq_true (by omega)
        by_cases he : ej = 0
        · have hE : (ej == 0) = true := by simp [he]
          clear he
          obtain ⟨gx, hgx⟩ : ∃ gx, wr.heap.size = gx := ⟨_, rfl⟩
          have hBx : gs + 1 ≤ gx := hgx ▸ HS.out.sz
          have hxne : gx ≠ gr := by have := ORD.out.h1; have := ORD.out.h2; omega
          have N1 : Hid (svN.ownBlock ≠ some gx) := fun hh => by have := (World.ownsRow.lt HS.out.on gx hh).2; omega
          have N2 : Hid (svH.ownBlock ≠ some gx) := fun hh => by have := (World.ownsRow.lt HS.out.oh gx hh).2; omega
          have N3 : Hid (sv.ownBlock ≠ some gx) := fun hh => by have := (World.ownsRow.lt HS.out.ol gx hh).2; omega
          have hx0 : Blk (wr.alloc (.cells (lsA ⟨0, 0, 0, 0, 0, 0⟩) 61)) gx 61 (lsA ⟨0, 0, 0, 0, 0, 0⟩) := hgx ▸ Blk.new _ _ _
          have h0 := HS.out.alloc ORD.out (.cells (lsA ⟨0, 0, 0, 0, 0, 0⟩) 61)
          clear HS
          go_upto_region 30 with (fail)
          change Code.wp _ _ _ _ (wr.alloc (.cells (lsA ⟨0, 0, 0, 0, 0, 0⟩) 61))
          generalize wr.alloc (.cells (lsA ⟨0, 0, 0, 0, 0, 0⟩) 61) = Q0 at hx0 h0 ⊢
          try rw [hgx]
          clear hgx r2
          obtain ⟨⟨a1, ka, ea⟩, rq0⟩ : ∃ r, rnum lb kj ej 65535 = r := ⟨_, rfl⟩
          have Yq0 := h0.smallB ORD.out HIN.out hx0 hxne
          have bq0 := HSML.out _ _ _ h0.rd
          rw [rq0] at Yq0 bq0
          simp only at Yq0 bq0
          have Yq0 := Lib.hid Yq0
          have Rq0 := Lib.hid rq0
          have Bq0 := Lib.hid bq0
          clear rq0 bq0 h0 hx0
          go_wp2_with fail
          refine Yq0.out.mono ?_
          rintro x q0 ⟨rfl, hq0, hxq0⟩
          have xq0 : q0.cell? ⟨gx, 0, none⟩ = some (.int .i64 0) := (hxq0.cell 0).trans rfl
          have yq0 := hxq0.frozen 0
          have hyq0 : Blk (q0.setCell ⟨gx, 0, none⟩ (.int .i64 a1)) gx 61 (lsA ⟨a1, 0, 0, 0, 0, 0⟩) := Blk.setL (l := [Value.int .i64 0, .int .u64 0, .int .u64 0, .int .i64 0, .int .i64 0, .int .u64 0]) hxq0 0 _
          have hzq0 := hq0.setX ORD.out hBx N1.out N2.out N3.out 0 (.int .i64 a1)
          clear hq0 hxq0 Yq0
          go_upto_region 31 with (fail)
          change Code.wp _ _ _ _ (q0.setCell ⟨gx, 0, none⟩ (.int .i64 a1))
          generalize q0.setCell ⟨gx, 0, none⟩ (.int .i64 a1) = Pq0 at hyq0 hzq0 ⊢
          clear xq0 yq0
          obtain ⟨⟨b1, kb, eb⟩, rq1⟩ : ∃ r, rnum lb ka ea 18446744073709551615 = r := ⟨_, rfl⟩
          have Yq1 := hzq0.numB ORD.out HIN.out hyq0 hxne
          have bq1 := HNUM.out _ _ _ hzq0.rd
          rw [rq1] at Yq1 bq1
          simp only at Yq1 bq1
          have Yq1 := Lib.hid Yq1
          have Rq1 := Lib.hid rq1
          have Bq1 := Lib.hid bq1
          clear rq1 bq1 hzq0 hyq0
          go_wp2_with fail
          refine Yq1.out.mono ?_
          rintro x q1 ⟨rfl, hq1, hxq1⟩
          have xq1 : q1.cell? ⟨gx, 1, none⟩ = some (.int .u64 0) := (hxq1.cell 1).trans rfl
          have yq1 := hxq1.frozen 1
          have hyq1 : Blk (q1.setCell ⟨gx, 1, none⟩ (.int .u64 b1)) gx 61 (lsA ⟨a1, b1, 0, 0, 0, 0⟩) := Blk.setL (l := [Value.int .i64 a1, .int .u64 0, .int .u64 0, .int .i64 0, .int .i64 0, .int .u64 0]) hxq1 1 _
          have hzq1 := hq1.setX ORD.out hBx N1.out N2.out N3.out 1 (.int .u64 b1)
          clear hq1 hxq1 Yq1
          go_upto_region 32 with (fail)
          change Code.wp _ _ _ _ (q1.setCell ⟨gx, 1, none⟩ (.int .u64 b1))
          generalize q1.setCell ⟨gx, 1, none⟩ (.int .u64 b1) = Pq1 at hyq1 hzq1 ⊢
          clear xq1 yq1
          obtain ⟨⟨c1, kc, ec2⟩, rq2⟩ : ∃ r, rnum lb kb eb 18446744073709551615 = r := ⟨_, rfl⟩
          have Yq2 := hzq1.numB ORD.out HIN.out hyq1 hxne
          have bq2 := HNUM.out _ _ _ hzq1.rd
          rw [rq2] at Yq2 bq2
          simp only at Yq2 bq2
          have Yq2 := Lib.hid Yq2
          have Rq2 := Lib.hid rq2
          have Bq2 := Lib.hid bq2
          clear rq2 bq2 hzq1 hyq1
          go_wp2_with fail
          refine Yq2.out.mono ?_
          rintro x q2 ⟨rfl, hq2, hxq2⟩
          have xq2 : q2.cell? ⟨gx, 2, none⟩ = some (.int .u64 0) := (hxq2.cell 2).trans rfl
          have yq2 := hxq2.frozen 2
          have hyq2 : Blk (q2.setCell ⟨gx, 2, none⟩ (.int .u64 c1)) gx 61 (lsA ⟨a1, b1, c1, 0, 0, 0⟩) := Blk.setL (l := [Value.int .i64 a1, .int .u64 b1, .int .u64 0, .int .i64 0, .int .i64 0, .int .u64 0]) hxq2 2 _
          have hzq2 := hq2.setX ORD.out hBx N1.out N2.out N3.out 2 (.int .u64 c1)
          clear hq2 hxq2 Yq2
          go_upto_region 33 with (fail)
          change Code.wp _ _ _ _ (q2.setCell ⟨gx, 2, none⟩ (.int .u64 c1))
          generalize q2.setCell ⟨gx, 2, none⟩ (.int .u64 c1) = Pq2 at hyq2 hzq2 ⊢
          clear xq2 yq2
          obtain ⟨⟨d1, kd, ed⟩, rq3⟩ : ∃ r, rnum lb kc ec2 65535 = r := ⟨_, rfl⟩
          have Yq3 := hzq2.smallB ORD.out HIN.out hyq2 hxne
          have bq3 := HSML.out _ _ _ hzq2.rd
          rw [rq3] at Yq3 bq3
          simp only at Yq3 bq3
          have Yq3 := Lib.hid Yq3
          have Rq3 := Lib.hid rq3
          have Bq3 := Lib.hid bq3
          clear rq3 bq3 hzq2 hyq2
          go_wp2_with fail
          refine Yq3.out.mono ?_
          rintro x q3 ⟨rfl, hq3, hxq3⟩
          have xq3 : q3.cell? ⟨gx, 3, none⟩ = some (.int .i64 0) := (hxq3.cell 3).trans rfl
          have yq3 := hxq3.frozen 3
          have hyq3 : Blk (q3.setCell ⟨gx, 3, none⟩ (.int .i64 d1)) gx 61 (lsA ⟨a1, b1, c1, d1, 0, 0⟩) := Blk.setL (l := [Value.int .i64 a1, .int .u64 b1, .int .u64 c1, .int .i64 0, .int .i64 0, .int .u64 0]) hxq3 3 _
          have hzq3 := hq3.setX ORD.out hBx N1.out N2.out N3.out 3 (.int .i64 d1)
          clear hq3 hxq3 Yq3
          go_upto_region 34 with (fail)
          change Code.wp _ _ _ _ (q3.setCell ⟨gx, 3, none⟩ (.int .i64 d1))
          generalize q3.setCell ⟨gx, 3, none⟩ (.int .i64 d1) = Pq3 at hyq3 hzq3 ⊢
          clear xq3 yq3
          obtain ⟨⟨f1, kf, ef⟩, rq4⟩ : ∃ r, rnum lb kd ed 65535 = r := ⟨_, rfl⟩
          have Yq4 := hzq3.smallB ORD.out HIN.out hyq3 hxne
          have bq4 := HSML.out _ _ _ hzq3.rd
          rw [rq4] at Yq4 bq4
          simp only at Yq4 bq4
          have Yq4 := Lib.hid Yq4
          have Rq4 := Lib.hid rq4
          have Bq4 := Lib.hid bq4
          clear rq4 bq4 hzq3 hyq3
          go_wp2_with fail
          refine Yq4.out.mono ?_
          rintro x q4 ⟨rfl, hq4, hxq4⟩
          have xq4 : q4.cell? ⟨gx, 4, none⟩ = some (.int .i64 0) := (hxq4.cell 4).trans rfl
          have yq4 := hxq4.frozen 4
          have hyq4 : Blk (q4.setCell ⟨gx, 4, none⟩ (.int .i64 f1)) gx 61 (lsA ⟨a1, b1, c1, d1, f1, 0⟩) := Blk.setL (l := [Value.int .i64 a1, .int .u64 b1, .int .u64 c1, .int .i64 d1, .int .i64 0, .int .u64 0]) hxq4 4 _
          have hzq4 := hq4.setX ORD.out hBx N1.out N2.out N3.out 4 (.int .i64 f1)
          clear hq4 hxq4 Yq4
          go_upto_region 35 with (fail)
          change Code.wp _ _ _ _ (q4.setCell ⟨gx, 4, none⟩ (.int .i64 f1))
          generalize q4.setCell ⟨gx, 4, none⟩ (.int .i64 f1) = Pq4 at hyq4 hzq4 ⊢
          clear xq4 yq4
          obtain ⟨⟨g1, kg, eg⟩, rq5⟩ : ∃ r, rnum lb kf ef 18446744073709551615 = r := ⟨_, rfl⟩
          have Yq5 := hzq4.numB ORD.out HIN.out hyq4 hxne
          have bq5 := HNUM.out _ _ _ hzq4.rd
          rw [rq5] at Yq5 bq5
          simp only at Yq5 bq5
          have Yq5 := Lib.hid Yq5
          have Rq5 := Lib.hid rq5
          have Bq5 := Lib.hid bq5
          clear rq5 bq5 hzq4 hyq4
          go_wp2_with fail
          refine Yq5.out.mono ?_
          rintro x q5 ⟨rfl, hq5, hxq5⟩
          have xq5 : q5.cell? ⟨gx, 5, none⟩ = some (.int .u64 0) := (hxq5.cell 5).trans rfl
          have yq5 := hxq5.frozen 5
          have hyq5 : Blk (q5.setCell ⟨gx, 5, none⟩ (.int .u64 g1)) gx 61 (lsA ⟨a1, b1, c1, d1, f1, g1⟩) := Blk.setL (l := [Value.int .i64 a1, .int .u64 b1, .int .u64 c1, .int .i64 d1, .int .i64 f1, .int .u64 0]) hxq5 5 _
          have hzq5 := hq5.setX ORD.out hBx N1.out N2.out N3.out 5 (.int .u64 g1)
          clear hq5 hxq5 Yq5
          go_upto_region 36 with (fail)
          change Code.wp _ _ _ _ (q5.setCell ⟨gx, 5, none⟩ (.int .u64 g1))
          generalize q5.setCell ⟨gx, 5, none⟩ (.int .u64 g1) = Pq5 at hyq5 hzq5 ⊢
          clear xq5 yq5
          have HL := Lib.hid hzq5
          have v0 : Pq5.cell? ⟨gx, 0, none⟩ = some (.int .i64 a1) := (hyq5.cell 0).trans rfl
          have v1 : Pq5.cell? ⟨gx, 1, none⟩ = some (.int .u64 b1) := (hyq5.cell 1).trans rfl
          have v2 : Pq5.cell? ⟨gx, 2, none⟩ = some (.int .u64 c1) := (hyq5.cell 2).trans rfl
          have v3 : Pq5.cell? ⟨gx, 3, none⟩ = some (.int .i64 d1) := (hyq5.cell 3).trans rfl
          have v4 : Pq5.cell? ⟨gx, 4, none⟩ = some (.int .i64 f1) := (hyq5.cell 4).trans rfl
          have v5 : Pq5.cell? ⟨gx, 5, none⟩ = some (.int .u64 g1) := (hyq5.cell 5).trans rfl
          have zz := hzq5.cm.sh.z6
          have hlz := hzq5.cm.lt
          have HDD : Hid (decL lb (rem + 1) kj ej = (⟨a1, b1, c1, d1, f1, g1⟩ :: (decL lb rem kg eg).1, (decL lb rem kg eg).2)) := by
            show _ = _
            have hd : dLs lb kj ej = (⟨a1, b1, c1, d1, f1, g1⟩, kg, eg) := by
              unfold dLs
              simp only [Rq0.out, Rq1.out, Rq2.out, Rq3.out, Rq4.out, Rq5.out]
            simp only [decL, hd]
          clear hzq5 hyq5
          go_wp2_with (at_builtin; refine one_own (f := lsC) (W := Pq5) Try.underlying25 info_Last rfl (by omega) lsC_len lsC_one (gs + 1) rfl _ _ rfl sv L ⟨a1, b1, c1, d1, f1, g1⟩ rfl rfl rfl HL.out.ol HL.out.sz (by have := HLEN.out; omega) (by omega) ?_; intro v8 w8 ho8 hg8; have H8 := Lib.hid ho8; have HG8 := Lib.hid hg8; have b28 := HL.out.cm.grown hg8 (fun hh => by have := own_base HL.out.ol _ hh.symm; omega); have c28 := b28.sh.z6; have f28 := b28.frozen 6; obtain ⟨A8, c8, rfl⟩ := own_slice ho8; clear b28 ho8 hg8)
          go_roundw
          case rel => exact ⟨rem, _, L ++ [⟨a1, b1, c1, d1, f1, g1⟩], kg, eg, by go_num, by omega, by have := HLEN.out; simp; omega, (fun z hz => by rcases List.mem_append.1 hz with q | q; exact HWF.out z q; rw [List.mem_singleton] at q; subst q; exact ⟨wf_small Bq0.out.1 Bq0.out.2.1, ⟨Bq1.out.1, Bq1.out.2.2⟩, ⟨Bq2.out.1, Bq2.out.2.2⟩, wf_small Bq3.out.1 Bq3.out.2.1, wf_small Bq4.out.1 Bq4.out.2.1, ⟨Bq5.out.1, Bq5.out.2.2⟩⟩), HL.out.appL ORD.out HG8.out (by have := H8.out; rw [List.length_append] at this ⊢; exact this), by rw [HEQ.out, HDD.out]; simp⟩
          case measure => simp [intOf]
        · have hE : (ej == 0) = false := beq_eq_false_iff_ne.2 he
          have HF : Hid (ej = eL) := by
            have h1 := congrArg (fun z => z.2.2) HEQ.out
            have h2 := decL_err (lb := lb) he (rem + 1) kj
            simp only at h1
            show _ = _
            rw [h1, h2]
          have HNE := Lib.hid he
          clear he
          go_wp2
          go_meet
          case rel => exact ⟨rfl, _, _, by rw [← HF.out]; exact ⟨HS.out.res, HS.out.rd.err HNE.out, HS.out.cm, HS.out.grow, HS.out.sz, HS.out.on, HS.out.oh, HS.out.ol⟩, by have := HLEN.out; omega, HWF.out, fun h0 => absurd (HF.out.trans h0) HNE.out⟩
  case rest =>
  obtain ⟨rfl, svL, LL, hstL, hlnL, hwfL, heqL⟩ := hcut
  have HSL := Lib.hid hstL
  have HWL := Lib.hid hwfL
  have HQL := Lib.hid heqL
  clear hstL hwfL heqL H14
  have HCH := Lib.hid (chain (ns := ns) (k4 := k4) (en := en) (hs := hs) (k8 := k8) (eH := eH) (ls := ls) (kx := kx) (eL := eL) HI.out HT.out HC.out HNN.out HLm.out HNx.out HCh.out HNH.out HCl.out HNL.out)
  obtain ⟨Bn, bn, rfl⟩ := own_slice HSL.out.on
  obtain ⟨Bh, bh, rfl⟩ := own_slice HSL.out.oh
  obtain ⟨Bl, bl, rfl⟩ := own_slice HSL.out.ol
  obtain ⟨z0, z1, z2, z3, z4, z5, z6⟩ := HSL.out.cm.sh
  obtain ⟨q0, q1, q2, q3, q4, q5, q6⟩ := HSL.out.res.sh
  have y0 := HSL.out.res.frozen 0
  have y1 := HSL.out.res.frozen 1
  have y2 := HSL.out.res.frozen 2
  have y3 := HSL.out.res.frozen 3
  have y4 := HSL.out.res.frozen 4
  have y5 := HSL.out.res.frozen 5
  have y6 := HSL.out.res.frozen 6
  have hn1 : gs ≠ g := by omega
  have hn2 : g ≠ gs := by omega
  have HLNN := Lib.hid hlnN
  have HLNH := Lib.hid hlnH
  have HLNL := Lib.hid hlnL
  have hG7 := grown_set7 wc g (.int .u64 i) (.int .u64 t) (.slice Bn LN.length bn) (.int .i64 lim) (.int .u64 nxt) (.slice Bh LH.length bh) (.slice Bl LL.length bl)
  have FON := Lib.hid (own_lower (base' := g) (kept_gr HSL.out.on hG7 (by omega)) (by omega))
  have FOH := Lib.hid (own_lower (base' := g) (kept_gr HSL.out.oh hG7 (by omega)) (by omega))
  have FOL := Lib.hid (own_lower (base' := g) (kept_gr HSL.out.ol hG7 (by omega)) (by omega))
  have FRS := Lib.hid (HSL.out.rd.grown hG7 (fun hh => by injection hh with hh; omega))
  have FGR := Lib.hid (grown_any HSL.out.grow hG7 (fun j hj => by injection hj with hj; omega))
  have hFE : eL = rE lb e := by
    obtain ⟨p1, p2, p3⟩ := HCH.out
    unfold rE
    rw [← HEE.out]
    by_cases h0 : e1 = 0
    · rw [if_pos h0, (p1 h0).2.2.2.2.2.2]
    · rw [if_neg h0]
      exact p2 h0
  have HFE := Lib.hid hFE
  have HG := Lib.hid hg
  clear hG7 hFE hlnN hlnH hlnL
  go_wp2
  have hrF := Blk.set7 HSL.out.res (.int .u64 i) (.int .u64 t) (.slice Bn LN.length bn) (.int .i64 lim) (.int .u64 nxt) (.slice Bh LH.length bh) (.slice Bl LL.length bl)
  refine bodyPost_ret (results_cell1 rfl rfl (run_loadVar_row _ _ _ _ _ (0, 0) _ hrF Try.underlying29 rfl info_Shot)) rfl ?_
  rw [← HFE.out]
  unfold R6P
  rw [HG.out]
  refine ⟨i, t, _, LN, lim, nxt, _, LH, _, LL, rfl, FON.out, FOH.out, FOL.out, ⟨⟨HIB.out.1, HIB.out.2.2⟩, ⟨HTB.out.1, HTB.out.2.2⟩, HLNN.out, HWN.out, ⟨HLmB.out.1, HLmB.out.2.1⟩, ⟨HNxB.out.1, HNxB.out.2.2⟩, HLNH.out, HWH.out, HLNL.out, HWL.out⟩, fun h0 => ?_, ⟨kx, fun h0 => ?_, FRS.out⟩, FGR.out⟩
  · obtain ⟨p1, p2, p3⟩ := HCH.out
    obtain ⟨n1, n2⟩ := p3 h0
    have h1 : e1 = 0 := by
      rcases Classical.em (e1 = 0) with q | q
      · exact q
      · exact absurd ((p2 q).symm.trans h0) q
    obtain ⟨a1, a2, a3, a4, a5, a6, a7⟩ := p1 h1
    rw [a1, a2, a3, a4, a5, a6, a7, HQN.out n1, HQH.out n2, HQL.out h0]
    exact ⟨rfl, rfl, rfl, rfl, rfl, rfl, rfl⟩
  · obtain ⟨p1, p2, p3⟩ := HCH.out
    have h1 : e1 = 0 := by
      rcases Classical.em (e1 = 0) with q | q
      · exact q
      · exact absurd ((p2 q).symm.trans h0) q
    rw [(p1 h1).2.2.2.2.2.2]
end Go.Proofs.Ythdeappjankmmaa
