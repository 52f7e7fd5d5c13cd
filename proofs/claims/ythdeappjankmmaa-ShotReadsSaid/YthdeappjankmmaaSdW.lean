/- Snapshots read: the code's Decode. -/
import Derived.Test.YthdeappjankmmaaSdS
import Derived.Deep.RegionLaw
import Derived.Deep.RegionHeld3
import Derived.Deep.DeepCutAuto
namespace Go.Proofs.Ythdeappjankmmaa
set_option maxRecDepth 100000
open Go.RowKit

set_option maxRecDepth 100000 in
set_option maxHeartbeats 40000000 in
theorem shot_Decode_walk (w : World) (A : Option Addr) (c : Nat) (lb : List Int) (h : In8 w A c lb) :
    Calls Try.prog 19 #[.slice A lb.length c] w fun x w' => Below w.heap.size w w' ∧
      ((sE lb = 0 ∧ ∃ A0 c0 A1 c1 A2 c2, x = .returned (.tuple #[shV (sI lb).1 (sT lb).1 (.slice A0 (sNs lb).1.length c0) (sLim lb).1 (sNxt lb).1 (.slice A1 (sHs lb).1.length c1) (.slice A2 (sLs lb).1.length c2), .int .i64 0]) ∧ InN .i64 w' A0 c0 (sNs lb).1 ∧ InS hdC 5 w' A1 c1 (sHs lb).1 ∧ InS lsC 6 w' A2 c2 (sLs lb).1) ∨
       (sE lb ≠ 0 ∧ x = .returned (.tuple #[shV 0 0 (.slice none 0 0) 0 0 (.slice none 0 0) (.slice none 0 0), .int .i64 (sE lb)]))) := by
  have HIN := Lib.hid h
  have hbyt := h.byt
  have hsm := h.small
  have hcap := h.cap
  obtain ⟨g, hg⟩ : ∃ g, w.heap.size = g := ⟨_, rfl⟩
  rw [hg]
  have HLE := Lib.hid (fun (k : Nat) (hk : k ≤ lb.length) (e most : Int) (hm : 0 ≤ most) => rnum_le hbyt hk e hm)
  have HSET : Hid (∀ (j : Nat) (W : World) (u : Value), Below g w W → Below g w (W.setCell ⟨g, j, none⟩ u)) := fun j W u hW => hW.setCell (p := ⟨g, j, none⟩) (Nat.le_refl _) u
  obtain ⟨E, hE⟩ : ∃ E, sE lb = E := ⟨_, rfl⟩
  have HE := Lib.hid hE
  rw [hE]
  have hb0 : Blk (w.alloc (.cells (shC 0 0 (.slice none 0 0) 0 0 (.slice none 0 0) (.slice none 0 0)) 29)) g 29 (shC 0 0 (.slice none 0 0) 0 0 (.slice none 0 0) (.slice none 0 0)) := hg ▸ Blk.new _ _ _
  have hB0 : Below g w (w.alloc (.cells (shC 0 0 (.slice none 0 0) 0 0 (.slice none 0 0) (.slice none 0 0)) 29)) := (Below.refl _ _).alloc (by omega) _
  have hz0 : (w.alloc (.cells (shC 0 0 (.slice none 0 0) 0 0 (.slice none 0 0) (.slice none 0 0)) 29)).heap.size = g + 1 := by simp [hg]
  unfold shV
  clear hE h
  go_enter Try.func19, Try.ntmps19
  go_upto_region 1 with (fail)
  change Code.wp _ _ _ _ (w.alloc (.cells (shC 0 0 (.slice none 0 0) 0 0 (.slice none 0 0) (.slice none 0 0)) 29))
  generalize (w.alloc (.cells (shC 0 0 (.slice none 0 0) 0 0 (.slice none 0 0) (.slice none 0 0)) 29)) = W0 at hb0 hB0 hz0 ⊢
  have HB0 := Lib.hid hB0
  by_cases h1 : (8192 : Int) < lb.length
  · have d1 : decide ((8192 : Int) < lb.length) = true := decide_eq_true h1
    have HV : Hid (E = 2) := by
      show _ = _
      rw [← HE.out, sE, if_pos (by omega)]
    obtain ⟨z0, z1, z2, z3, z4, z5, z6⟩ := hb0.sh
    have y0 := hb0.frozen 0
    have y1 := hb0.frozen 1
    have y2 := hb0.frozen 2
    have y3 := hb0.frozen 3
    have y4 := hb0.frozen 4
    have y5 := hb0.frozen 5
    have y6 := hb0.frozen 6
    go_wp2
    (try simp only [Exit.inBlock, Exit.then])
    have hrF := Blk.set7 hb0 (.int .u64 0) (.int .u64 0) (.slice none 0 0) (.int .i64 0) (.int .u64 0) (.slice none 0 0) (.slice none 0 0)
    refine bodyPost_ret (results_cell2 rfl rfl (run_loadVar_row _ _ _ _ _ (0, 0) _ hrF Try.underlying29 rfl info_Shot)) rfl ?_
    exact ⟨HSET.out _ _ _ (HSET.out _ _ _ (HSET.out _ _ _ (HSET.out _ _ _ (HSET.out _ _ _ (HSET.out _ _ _ (HSET.out _ _ _ HB0.out)))))), .inr ⟨by rw [HV.out]; decide, by rw [HV.out]; rfl⟩⟩
  have d1 : decide ((8192 : Int) < lb.length) = false := decide_eq_false h1
  by_cases h2 : lb.length = 0
  · have d2 : ((lb.length : Int) == 0) = true := by simp [h2]
    have HV : Hid (E = 10) := by
      show _ = _
      rw [← HE.out, sE, if_neg (by omega), if_pos h2]
    obtain ⟨z0, z1, z2, z3, z4, z5, z6⟩ := hb0.sh
    have y0 := hb0.frozen 0
    have y1 := hb0.frozen 1
    have y2 := hb0.frozen 2
    have y3 := hb0.frozen 3
    have y4 := hb0.frozen 4
    have y5 := hb0.frozen 5
    have y6 := hb0.frozen 6
    go_wp2
    (try simp only [Exit.inBlock, Exit.then])
    have hrF := Blk.set7 hb0 (.int .u64 0) (.int .u64 0) (.slice none 0 0) (.int .i64 0) (.int .u64 0) (.slice none 0 0) (.slice none 0 0)
    refine bodyPost_ret (results_cell2 rfl rfl (run_loadVar_row _ _ _ _ _ (0, 0) _ hrF Try.underlying29 rfl info_Shot)) rfl ?_
    exact ⟨HSET.out _ _ _ (HSET.out _ _ _ (HSET.out _ _ _ (HSET.out _ _ _ (HSET.out _ _ _ (HSET.out _ _ _ (HSET.out _ _ _ HB0.out)))))), .inr ⟨by rw [HV.out]; decide, by rw [HV.out]; rfl⟩⟩
  have d2 : ((lb.length : Int) == 0) = false := by rw [beq_eq_false_iff_ne]; omega
  obtain ⟨b, off, rfl, hcell⟩ := (HIN.out.keep (hg ▸ hB0)).all (by omega)
  have hc0 := hcell 0 (by omega)
  rw [Nat.add_zero] at hc0
  clear hcell
  obtain ⟨z, hz⟩ : ∃ z, lb[0] = z := ⟨_, rfl⟩
  rw [hz] at hc0
  have hhd : lb.head? = some z := by rw [List.head?_eq_getElem?, List.getElem?_eq_getElem (by omega), hz]
  by_cases h3 : z = 83
  rotate_left
  · have d3 : (z != 83) = true := bne_iff_ne.2 h3
    have HV : Hid (E = 11) := by
      show _ = _
      rw [← HE.out, sE, if_neg (by omega), if_neg h2, if_pos (by rw [hhd]; intro hh; injection hh with hh; exact h3 hh)]
    clear h3 hz
    obtain ⟨z0, z1, z2, z3, z4, z5, z6⟩ := hb0.sh
    have y0 := hb0.frozen 0
    have y1 := hb0.frozen 1
    have y2 := hb0.frozen 2
    have y3 := hb0.frozen 3
    have y4 := hb0.frozen 4
    have y5 := hb0.frozen 5
    have y6 := hb0.frozen 6
    go_wp2
    (try simp only [Exit.inBlock, Exit.then])
    have hrF := Blk.set7 hb0 (.int .u64 0) (.int .u64 0) (.slice none 0 0) (.int .i64 0) (.int .u64 0) (.slice none 0 0) (.slice none 0 0)
    refine bodyPost_ret (results_cell2 rfl rfl (run_loadVar_row _ _ _ _ _ (0, 0) _ hrF Try.underlying29 rfl info_Shot)) rfl ?_
    exact ⟨HSET.out _ _ _ (HSET.out _ _ _ (HSET.out _ _ _ (HSET.out _ _ _ (HSET.out _ _ _ (HSET.out _ _ _ (HSET.out _ _ _ HB0.out)))))), .inr ⟨by rw [HV.out]; decide, by rw [HV.out]; rfl⟩⟩
  subst h3
  have HE2 : Hid (E = if sE1 lb = 0 then errShot (decide (ShotOk (sI lb).1 (sT lb).1 (sNs lb).1 (sLim lb).1 (sNxt lb).1 (sHs lb).1 (sLs lb).1)) else sE1 lb) := by
    show _ = _
    rw [← HE.out, sE, if_neg (by omega), if_neg h2, if_neg (by rw [hhd]; simp)]
  clear hz hhd HE
  obtain ⟨gr, hgr⟩ : ∃ gr, g + 1 = gr := ⟨_, rfl⟩
  have hI1 : ∀ W, In8 W (some ⟨b, off, none⟩) c lb → In8 W (if c = 1 then some (⟨b, off, none⟩ : Addr) else some (⟨b, off + 1, none⟩ : Addr)) (c - 1) (lb.drop 1) := fun W hW => by
    refine ⟨?_, hW.byt.drop 1, by rw [List.length_drop]; have := hW.cap; omega, by rw [List.length_drop]; have := hW.small; omega⟩
    have := hW.reads.cut (k := 1) (cap := c) (by omega) hW.cap
    rw [List.length_drop]
    simpa [u8s, List.map_drop, add_plain] using this
  have hrc : RC (W0.alloc (.cells (sdC (if c = 1 then some (⟨b, off, none⟩ : Addr) else some (⟨b, off + 1, none⟩ : Addr)) (lb.length - 1) (c - 1) 0) 65)) gr (some ⟨b, off, none⟩) c lb 1 0 := by
    refine ⟨(if c = 1 then some (⟨b, off, none⟩ : Addr) else some (⟨b, off + 1, none⟩ : Addr)), c - 1, ?_, hI1, by omega, by omega⟩
    rw [← hgr, ← hz0]
    exact Blk.new _ _ _
  have hb1 := hb0.alloc (.cells (sdC (if c = 1 then some (⟨b, off, none⟩ : Addr) else some (⟨b, off + 1, none⟩ : Addr)) (lb.length - 1) (c - 1) 0) 65)
  have hB1 := hB0.alloc (by omega) (.cells (sdC (if c = 1 then some (⟨b, off, none⟩ : Addr) else some (⟨b, off + 1, none⟩ : Addr)) (lb.length - 1) (c - 1) 0) 65)
  have hz1 : (W0.alloc (.cells (sdC (if c = 1 then some (⟨b, off, none⟩ : Addr) else some (⟨b, off + 1, none⟩ : Addr)) (lb.length - 1) (c - 1) 0) 65)).heap.size = g + 2 := by simp [hz0]
  clear hI1
  go_upto_region 8 with (fail)
  change Code.wp _ _ _ _ (W0.alloc (.cells (sdC (if c = 1 then some (⟨b, off, none⟩ : Addr) else some (⟨b, off + 1, none⟩ : Addr)) (lb.length - 1) (c - 1) 0) 65))
  generalize (W0.alloc (.cells (sdC (if c = 1 then some (⟨b, off, none⟩ : Addr) else some (⟨b, off + 1, none⟩ : Addr)) (lb.length - 1) (c - 1) 0) 65)) = W1 at hrc hb1 hB1 hz1 ⊢
  generalize (if c = 1 then some (⟨b, off, none⟩ : Addr) else some (⟨b, off + 1, none⟩ : Addr)) = A1
  try rw [hgr]
  clear hc0 hb0 hB0 hz0 HB0 d1 d2 h1 h2
  have HI : Hid (∀ W, Below g w W → In8 W (some ⟨b, off, none⟩) c lb) := fun W hW => HIN.out.keep (hg ▸ hW)
  obtain ⟨⟨i, k1, e1⟩, hI⟩ : ∃ r, sI lb = r := ⟨_, rfl⟩
  have hI' : rnum lb 1 0 18446744073709551615 = (i, k1, e1) := hI
  have C1 := swide_any W1 gr _ c lb 1 0 (HI.out _ hB1) hrc
  rw [hI'] at C1
  simp only at C1
  have C1 := Lib.hid C1
  have HsI := Lib.hid hI
  clear hrc hI' hI
  go_wp2_with fail
  refine C1.out.mono ?_
  rintro x w2 ⟨rfl, hr2, hg2⟩
  have hne : ∀ j, j ≠ gr → some j ≠ some gr := fun j hj hh => hj (by injection hh)
  have hb2 := hb1.grown hg2 (hne _ (by omega))
  have hB2 : Below g w w2 := hB1.grown hg2 (by omega) (fun j hj => by injection hj with hj; omega)
  have hz2 : g + 2 ≤ w2.heap.size := by have := hg2.size; omega
  obtain ⟨⟨t, k2, e2⟩, hT⟩ : ∃ r, sT lb = r := ⟨_, rfl⟩
  have hT' : rnum lb k1 e1 18446744073709551615 = (t, k2, e2) := by rw [← hT]; unfold sT; rw [HsI.out]
  have C2 := swide_any w2 gr _ c lb k1 e1 (HI.out _ hB2) hr2
  rw [hT'] at C2
  simp only at C2
  have C2 := Lib.hid C2
  have HsT := Lib.hid hT
  clear hr2 hT' hT hb1 hB1 hz1 hg2 C1
  go_wp2_with fail
  refine C2.out.mono ?_
  rintro x w3 ⟨rfl, hr3, hg3⟩
  have hb3 := hb2.grown hg3 (hne _ (by omega))
  have hB3 : Below g w w3 := hB2.grown hg3 (by omega) (fun j hj => by injection hj with hj; omega)
  have hz3 : g + 2 ≤ w3.heap.size := by have := hg3.size; omega
  clear hb2 hB2 hz2 hg3 C2
  obtain ⟨gs, hgs⟩ : ∃ gs, w3.heap.size = gs := ⟨_, rfl⟩
  have hltr : gr < gs := by omega
  have H4 : Hid (SD w g gr gs (gs + 1) (some ⟨b, off, none⟩) c lb (w3.alloc (.cells (shC i t (.slice none 0 0) 0 0 (.slice none 0 0) (.slice none 0 0)) 29)) i t (.slice none 0 0) [] 0 0 (.slice none 0 0) [] (.slice none 0 0) [] k2 e2) :=
    ⟨hb3.alloc _, hr3.grown (World.grownBy_alloc _ _ none) (by simp), hgs ▸ Blk.new _ _ _, hB3.alloc (by omega) _, by simp; omega, own_nil _ _ _ _, own_nil _ _ _ _, own_nil _ _ _ _⟩
  have ORD : Hid (SDo g gr gs (gs + 1)) := ⟨by omega, hltr, by omega⟩
  clear hb3 hB3 hr3 hne
  go_upto_region 9 with (fail)
  change Code.wp _ _ _ _ (w3.alloc (.cells (shC i t (.slice none 0 0) 0 0 (.slice none 0 0) (.slice none 0 0)) 29))
  generalize w3.alloc (.cells (shC i t (.slice none 0 0) 0 0 (.slice none 0 0) (.slice none 0 0)) 29) = W4 at H4 ⊢
  try rw [hgs]
  clear hgs hz3
  obtain ⟨⟨cni, k3, e3⟩, hC⟩ : ∃ r, sCn lb = r := ⟨_, rfl⟩
  have hC' : rnum lb k2 e2 64 = (cni, k3, e3) := by rw [← hC]; unfold sCn; rw [HsT.out]
  have C3 := H4.out.many ORD.out HI.out
  have hb3 := HLE.out k2 H4.out.rd.le e2 64 (by decide)
  rw [hC'] at C3 hb3
  simp only at C3 hb3
  obtain ⟨cn, rfl⟩ := Int.eq_ofNat_of_zero_le hb3.1
  have hcn : cn ≤ 64 := by omega
  have C3 := Lib.hid C3
  have HsC := Lib.hid hC
  clear hC hC' hb3
  go_wp2_with fail
  refine C3.out.mono ?_
  rintro x w5 ⟨rfl, h5⟩
  have H5 := Lib.hid h5
  have hk3 := h5.rd.le
  clear h5 C3 H4
  obtain ⟨⟨ns, k4, e4⟩, hN⟩ : ∃ r, sNs lb = r := ⟨_, rfl⟩
  have hN' : (ns, k4, e4) = decNodes lb cn k3 e3 := by rw [← hN]; unfold sNs; rw [HsC.out, Int.toNat_natCast]
  have HsN := Lib.hid hN
  have HN' := Lib.hid hN'
  clear hN hN'
  go_wp2_with fail
  go_loopw [35] (fun j wr => ∃ (jn : Nat) (sn : Value) (Lj : List Int) (kj : Nat) (ej : Int), j = .int .u64 (jn : Int) ∧ jn ≤ cn ∧ Lj.length = jn ∧ SD w g gr gs (gs + 1) (some ⟨b, off, none⟩) c lb wr i t sn Lj 0 0 (.slice none 0 0) [] (.slice none 0 0) [] kj ej ∧ (ns, k4, e4) = (Lj ++ (decNodes lb (cn - jn) kj ej).1, (decNodes lb (cn - jn) kj ej).2)) (fun j _ => cn - (intOf j).toNat)
  case atStart => exact ⟨0, _, [], k3, e3, rfl, by omega, rfl, H5.out, by rw [HN'.out]; simp⟩
  case round =>
    clear H5
    obtain ⟨jn, sn, Lj, kj, ej, rfl, hj, hlj, hst, heq⟩ := hrel
    have HS := Lib.hid hst
    have HEQ := Lib.hid heq
    have HLJ := Lib.hid hlj
    clear hst heq hlj
    by_cases hlt : jn < cn
    · have C7 := (HS.out.drew).small ORD.out HI.out
      have hd7 : decNodes lb (cn - jn) kj ej = ((rnum lb kj ej 65535).1 :: (decNodes lb (cn - jn - 1) (rnum lb kj ej 65535).2.1 (rnum lb kj ej 65535).2.2).1, (decNodes lb (cn - jn - 1) (rnum lb kj ej 65535).2.1 (rnum lb kj ej 65535).2.2).2) := by
        obtain ⟨y, hy⟩ : ∃ y, cn - jn = y + 1 := ⟨cn - jn - 1, by omega⟩
        rw [hy]
        rfl
      obtain ⟨⟨v7, k7, e7⟩, hr7⟩ : ∃ r, rnum lb kj ej 65535 = r := ⟨_, rfl⟩
      rw [hr7] at C7 hd7
      simp only at C7 hd7
      have HD7 := Lib.hid hd7
      have C7 := Lib.hid C7
      clear hr7 hd7
      obtain ⟨z0, z1, z2, z3, z4, z5, z6⟩ := HS.out.cm.sh
      clear z0 z1 z3 z4 z5 z6
      go_wp2_with fail
      go_region_law (first
        | (refine step_oneN (W := w7) (gs + 1) rfl _ _ rfl _ Lj v7 rfl rfl rfl H7.out.on H7.out.sz (by have := HLJ.out; omega) ?_; intro v8 w8 ho8 hg8; have H8 := Lib.hid ho8; have HG8 := Lib.hid hg8; have b28 := H7.out.cm.grown hg8 (fun hh => by have := own_base H7.out.on _ hh.symm; omega); have c28 := b28.sh.z2; have f28 := b28.frozen 2; obtain ⟨A8, c8, rfl⟩ := own_slice ho8; clear b28 ho8 hg8)
        | (go_simp; go_at_call 37; refine C7.out.mono ?_; rintro x w7 ⟨rfl, h7⟩; have H7 := Lib.hid h7; have c27 := h7.cm.sh.z2; have hl7 := h7.cm.lt; have c29 : ∀ o, (w7.alloc o).cell? ⟨gs, 2, none⟩ = some sn := fun o => (World.cell?_alloc_lt w7 o ⟨gs, 2, none⟩ hl7).trans c27; clear h7))
      all_goals
        go_wp2
        go_roundw
        case rel => exact ⟨jn + 1, _, Lj ++ [v7], k7, e7, by go_num, by omega, by have := HLJ.out; simp; omega, H7.out.appN ORD.out HG8.out (by have := H8.out; rw [List.length_append] at this; exact this), by rw [HEQ.out, HD7.out, show cn - (jn + 1) = cn - jn - 1 by omega]; simp⟩
        case measure => simp [intOf]; omega
    · obtain rfl : cn = jn := by omega
      have hfin := HEQ.out
      rw [Nat.sub_self] at hfin
      simp only [decNodes, List.append_nil, Prod.mk.injEq] at hfin
      obtain ⟨rfl, rfl, rfl⟩ := hfin
      obtain ⟨⟨lim, k5, e5⟩, hL⟩ : ∃ r, sLim lb = r := ⟨_, rfl⟩
      have hL' : rnum lb k4 e4 65535 = (lim, k5, e5) := by rw [← hL]; unfold sLim; rw [HsN.out]
      have C8 := HS.out.small ORD.out HI.out
      rw [hL'] at C8
      simp only at C8
      have C8 := Lib.hid C8
      have HsL := Lib.hid hL
      clear hL hL' HEQ HLJ hlt hj
      go_wp2_with fail
      refine C8.out.mono ?_
      rintro x w8 ⟨rfl, h8⟩
      obtain ⟨⟨nxt, k6, e6⟩, hX⟩ : ∃ r, sNxt lb = r := ⟨_, rfl⟩
      have hX' : rnum lb k5 e5 18446744073709551615 = (nxt, k6, e6) := by rw [← hX]; unfold sNxt; rw [HsL.out]
      have HNX := (HLE.out k5 h8.rd.le e5 18446744073709551615 (by decide)).2.2.2
      rw [hX'] at HNX
      simp only at HNX
      have HNX := Lib.hid HNX
      have C9 := h8.wide ORD.out HI.out
      rw [hX'] at C9
      simp only at C9
      have C9 := Lib.hid C9
      have HsX := Lib.hid hX
      clear hX hX' h8 C8 HS
      go_wp2_with fail
      refine C9.out.mono ?_
      rintro x w9 ⟨rfl, h9⟩
      have h10 := h9.setc ORD.out 3 (.int .i64 lim) rfl h9.on h9.oh h9.ol
      have H11 := Lib.hid (h10.setc ORD.out 4 (.int .u64 nxt) rfl h10.on h10.oh h10.ol)
      obtain ⟨z0, z1, z2, z3, z4, z5, z6⟩ := h9.cm.sh
      have y3 := h9.cm.frozen 3
      have y4 := h9.cm.frozen 4
      clear h9 h10 C9 z0 z1 z2 z5 z6
      go_upto_region 15 with (fail)
      change Code.wp _ _ _ _ ((w9.setCell ⟨gs, 3, none⟩ (.int .i64 lim)).setCell ⟨gs, 4, none⟩ (.int .u64 nxt))
      generalize ((w9.setCell ⟨gs, 3, none⟩ (.int .i64 lim)).setCell ⟨gs, 4, none⟩ (.int .u64 nxt)) = W11 at H11 ⊢
      clear z3 z4 y3 y4
      obtain ⟨⟨chi, k7, e7⟩, hC⟩ : ∃ r, sCh lb = r := ⟨_, rfl⟩
      have hC' : rnum lb k6 e6 64 = (chi, k7, e7) := by rw [← hC]; unfold sCh; rw [HsX.out]
      have C3 := H11.out.many ORD.out HI.out
      have hb3 := HLE.out k6 H11.out.rd.le e6 64 (by decide)
      rw [hC'] at C3 hb3
      simp only at C3 hb3
      obtain ⟨chn, rfl⟩ := Int.eq_ofNat_of_zero_le hb3.1
      have hchn : chn ≤ 64 := by omega
      have C3 := Lib.hid C3
      have HsCh := Lib.hid hC
      clear hC hC' hb3
      go_wp2_with fail
      refine C3.out.mono ?_
      rintro x w12 ⟨rfl, h12⟩
      have H12 := Lib.hid h12
      have hk7 := h12.rd.le
      clear h12 C3 H11
      obtain ⟨⟨hs, k8, e8⟩, hH⟩ : ∃ r, sHs lb = r := ⟨_, rfl⟩
      have hH' : (hs, k8, e8) = decH lb chn k7 e7 := by rw [← hH]; unfold sHs; rw [HsCh.out, Int.toNat_natCast]
      have HsH := Lib.hid hH
      have HH' := Lib.hid hH'
      clear hH hH'
      go_wp2_with fail
      go_loopw [58] (fun j wr => ∃ (jn : Nat) (hv : Value) (Lj : List Hd) (kj : Nat) (ej : Int), j = .int .u64 (jn : Int) ∧ jn ≤ chn ∧ Lj.length = jn ∧ SD w g gr gs (gs + 1) (some ⟨b, off, none⟩) c lb wr i t sn ns lim nxt hv Lj (.slice none 0 0) [] kj ej ∧ (hs, k8, e8) = (Lj ++ (decH lb (chn - jn) kj ej).1, (decH lb (chn - jn) kj ej).2)) (fun j _ => chn - (intOf j).toNat)
      case atStart => exact ⟨0, _, [], k7, e7, rfl, by omega, rfl, H12.out, by rw [HH'.out]; simp⟩
      case round =>
        clear H12
        obtain ⟨jn, hv, Lj, kj, ej, rfl, hj, hlj, hst, heq⟩ := hrel
        have HS := Lib.hid hst
        have HEQ := Lib.hid heq
        have HLJ := Lib.hid hlj
        clear hst heq hlj
        by_cases hlt : jn < chn
        · obtain ⟨⟨a1, ka, ea⟩, ra⟩ : ∃ r, rnum lb kj ej 65535 = r := ⟨_, rfl⟩
          obtain ⟨⟨b1, kb, eb⟩, rb⟩ : ∃ r, rnum lb ka ea 65535 = r := ⟨_, rfl⟩
          obtain ⟨⟨c1, kc, ec⟩, rc⟩ : ∃ r, rnum lb kb eb 18446744073709551615 = r := ⟨_, rfl⟩
          obtain ⟨⟨d1, kd, ed⟩, rd⟩ : ∃ r, rnum lb kc ec 18446744073709551615 = r := ⟨_, rfl⟩
          obtain ⟨⟨f1, kf, ef⟩, rf⟩ : ∃ r, rnum lb kd ed 18446744073709551615 = r := ⟨_, rfl⟩
          have HD7 : Hid (decH lb (chn - jn) kj ej = (⟨a1, b1, c1, d1, f1⟩ :: (decH lb (chn - jn - 1) kf ef).1, (decH lb (chn - jn - 1) kf ef).2)) := by
            show _ = _
            obtain ⟨y, hy⟩ : ∃ y, chn - jn = y + 1 := ⟨chn - jn - 1, by omega⟩
            have hd : dHd lb kj ej = (⟨a1, b1, c1, d1, f1⟩, kf, ef) := by
              unfold dHd
              simp only [ra, rb, rc, rd, rf]
            rw [hy, Nat.add_sub_cancel]
            simp only [decH, hd]
          have Y0 := HS.out.drew.small ORD.out HI.out
          rw [ra] at Y0
          simp only at Y0
          have Y0 := Lib.hid Y0
          have RB := Lib.hid rb
          have RC' := Lib.hid rc
          have RDD := Lib.hid rd
          have RF := Lib.hid rf
          have S0 := HS.out.drew.cm.sh.z5
          clear ra rb rc rd rf
          go_wp2_with fail
          go_region_law (first
              | (refine step_oneH (W := q5) (gs + 1) rfl _ _ rfl _ Lj ⟨a1, b1, c1, d1, f1⟩ rfl rfl rfl HQ.out.oh HQ.out.sz (by have := HLJ.out; omega) ?_; intro v8 w8 ho8 hg8; have H8 := Lib.hid ho8; have HG8 := Lib.hid hg8; have b28 := HQ.out.cm.grown hg8 (fun hh => by have := own_base HQ.out.oh _ hh.symm; omega); have S8 := b28.sh.z5; have f28 := b28.frozen 5; obtain ⟨A8, c8, rfl⟩ := own_slice ho8; clear b28 ho8 hg8)
              | (go_simp; go_at_call 37; refine Y0.out.mono ?_; rintro x q1 ⟨rfl, hq⟩; have S1 := hq.cm.sh.z5; have Y1 := hq.small ORD.out HI.out; rw [RB.out] at Y1; simp only at Y1; have Y1 := Lib.hid Y1; clear hq)
              | (go_simp; go_at_call 37; refine Y1.out.mono ?_; rintro x q2 ⟨rfl, hq⟩; have S2 := hq.cm.sh.z5; have Y2 := hq.wide ORD.out HI.out; rw [RC'.out] at Y2; simp only at Y2; have Y2 := Lib.hid Y2; clear hq)
              | (go_simp; go_at_call 35; refine Y2.out.mono ?_; rintro x q3 ⟨rfl, hq⟩; have S3 := hq.cm.sh.z5; have Y3 := hq.wide ORD.out HI.out; rw [RDD.out] at Y3; simp only at Y3; have Y3 := Lib.hid Y3; clear hq)
              | (go_simp; go_at_call 35; refine Y3.out.mono ?_; rintro x q4 ⟨rfl, hq⟩; have S4 := hq.cm.sh.z5; have Y4 := hq.wide ORD.out HI.out; rw [RF.out] at Y4; simp only at Y4; have Y4 := Lib.hid Y4; clear hq)
              | (go_simp; go_at_call 35; refine Y4.out.mono ?_; rintro x q5 ⟨rfl, hq⟩; have S5 := hq.cm.sh.z5; have hl5 := hq.cm.lt; have S6 : ∀ o, (q5.alloc o).cell? ⟨gs, 5, none⟩ = some hv := fun o => (World.cell?_alloc_lt q5 o ⟨gs, 5, none⟩ hl5).trans S5; have HQ := Lib.hid hq; clear hq))
          all_goals
            go_wp2
            go_roundw
            case rel => exact ⟨jn + 1, _, Lj ++ [⟨a1, b1, c1, d1, f1⟩], kf, ef, by go_num, by omega, by have := HLJ.out; simp; omega, HQ.out.appH ORD.out HG8.out (by have := H8.out; rw [List.length_append] at this ⊢; exact this), by rw [HEQ.out, HD7.out, show chn - (jn + 1) = chn - jn - 1 by omega]; simp⟩
            case measure => simp [intOf]; omega
        · obtain rfl : chn = jn := by omega
          have hfin := HEQ.out
          rw [Nat.sub_self] at hfin
          simp only [decH, List.append_nil, Prod.mk.injEq] at hfin
          obtain ⟨rfl, rfl, rfl⟩ := hfin
          obtain ⟨⟨cli, k9, e9⟩, hC⟩ : ∃ r, sCl lb = r := ⟨_, rfl⟩
          have hC' : rnum lb k8 e8 64 = (cli, k9, e9) := by rw [← hC]; unfold sCl; rw [HsH.out]
          have C3 := HS.out.many ORD.out HI.out
          have hb3 := HLE.out k8 HS.out.rd.le e8 64 (by decide)
          rw [hC'] at C3 hb3
          simp only at C3 hb3
          obtain ⟨cln, rfl⟩ := Int.eq_ofNat_of_zero_le hb3.1
          have hcln : cln ≤ 64 := by omega
          have C3 := Lib.hid C3
          have HsCl := Lib.hid hC
          clear hC hC' hb3 HEQ HLJ hlt hj
          go_wp2_with fail
          refine C3.out.mono ?_
          rintro x w13 ⟨rfl, h13⟩
          have H13 := Lib.hid h13
          have hk9' := h13.rd.le
          clear h13 C3 HS
          obtain ⟨⟨ls, kx, ex⟩, hLs⟩ : ∃ r, sLs lb = r := ⟨_, rfl⟩
          have hLs' : (ls, kx, ex) = decL lb cln k9 e9 := by rw [← hLs]; unfold sLs; rw [HsCl.out, Int.toNat_natCast]
          have HsLs := Lib.hid hLs
          have HLs' := Lib.hid hLs'
          clear hLs hLs'
          go_wp2_with fail
          go_loopw [7, 83] (fun _ j wr => ∃ (jn : Nat) (lv : Value) (Lj : List Ls) (kj : Nat) (ej : Int), j = .int .u64 (jn : Int) ∧ jn ≤ cln ∧ Lj.length = jn ∧ SD w g gr gs (gs + 1) (some ⟨b, off, none⟩) c lb wr i t sn ns lim nxt hv hs lv Lj kj ej ∧ (ls, kx, ex) = (Lj ++ (decL lb (cln - jn) kj ej).1, (decL lb (cln - jn) kj ej).2)) (fun _ j _ => cln - (intOf j).toNat)
          case atStart => exact ⟨0, _, [], k9, e9, rfl, by omega, rfl, H13.out, by rw [HLs'.out]; simp⟩
          case round =>
            clear H13
            obtain ⟨jn, lv, Lj, kj, ej, rfl, hj, hlj, hst, heq⟩ := hrel
            have HS := Lib.hid hst
            have HEQ := Lib.hid heq
            have HLJ := Lib.hid hlj
            clear hst heq hlj
            by_cases hlt : jn < cln
            · obtain ⟨⟨a1, ka, ea⟩, ra⟩ : ∃ r, rnum lb kj ej 65535 = r := ⟨_, rfl⟩
              obtain ⟨⟨b1, kb, eb⟩, rb⟩ : ∃ r, rnum lb ka ea 18446744073709551615 = r := ⟨_, rfl⟩
              obtain ⟨⟨c1, kc, ec⟩, rc⟩ : ∃ r, rnum lb kb eb 18446744073709551615 = r := ⟨_, rfl⟩
              obtain ⟨⟨d1, kd, ed⟩, rd⟩ : ∃ r, rnum lb kc ec 65535 = r := ⟨_, rfl⟩
              obtain ⟨⟨f1, kf, ef⟩, rf⟩ : ∃ r, rnum lb kd ed 65535 = r := ⟨_, rfl⟩
              obtain ⟨⟨g1, kg, eg⟩, rg⟩ : ∃ r, rnum lb kf ef 18446744073709551615 = r := ⟨_, rfl⟩
              have HD7 : Hid (decL lb (cln - jn) kj ej = (⟨a1, b1, c1, d1, f1, g1⟩ :: (decL lb (cln - jn - 1) kg eg).1, (decL lb (cln - jn - 1) kg eg).2)) := by
                show _ = _
                obtain ⟨y, hy⟩ : ∃ y, cln - jn = y + 1 := ⟨cln - jn - 1, by omega⟩
                have hd : dLs lb kj ej = (⟨a1, b1, c1, d1, f1, g1⟩, kg, eg) := by
                  unfold dLs
                  simp only [ra, rb, rc, rd, rf, rg]
                rw [hy, Nat.add_sub_cancel]
                simp only [decL, hd]
              have RA := Lib.hid ra
              have RB := Lib.hid rb
              have RC' := Lib.hid rc
              have RDD := Lib.hid rd
              have RF := Lib.hid rf
              have RG := Lib.hid rg
              clear ra rb rc rd rf rg
              have Y0 := HS.out.small ORD.out HI.out
              rw [RA.out] at Y0
              simp only at Y0
              have Y0 := Lib.hid Y0
              go_wp2_with fail
              refine Y0.out.mono ?_
              rintro x q1 ⟨rfl, hq1⟩
              have Y1 := hq1.wide ORD.out HI.out
              rw [RB.out] at Y1
              simp only at Y1
              have Y1 := Lib.hid Y1
              clear hq1 Y0 HS
              go_wp2_with fail
              refine Y1.out.mono ?_
              rintro x q2 ⟨rfl, hq2⟩
              have Y2 := hq2.wide ORD.out HI.out
              rw [RC'.out] at Y2
              simp only at Y2
              have Y2 := Lib.hid Y2
              clear hq2 Y1
              go_wp2_with fail
              refine Y2.out.mono ?_
              rintro x q3 ⟨rfl, hq3⟩
              obtain ⟨gx, hgx⟩ : ∃ gx, q3.heap.size = gx := ⟨_, rfl⟩
              have hBx : gs + 1 ≤ gx := hgx ▸ hq3.sz
              have hxne : gx ≠ gr := by have := ORD.out.h2; omega
              have N1 : Hid (sn.ownBlock ≠ some gx) := fun hh => by have := (World.ownsRow.lt hq3.on gx hh).2; omega
              have N2 : Hid (hv.ownBlock ≠ some gx) := fun hh => by have := (World.ownsRow.lt hq3.oh gx hh).2; omega
              have N3 : Hid (lv.ownBlock ≠ some gx) := fun hh => by have := (World.ownsRow.lt hq3.ol gx hh).2; omega
              have hx4 : Blk (q3.alloc (.cells (lsA ⟨a1, b1, c1, 0, 0, 0⟩) 61)) gx 61 (lsA ⟨a1, b1, c1, 0, 0, 0⟩) := hgx ▸ Blk.new _ _ _
              have h4 := hq3.alloc ORD.out (.cells (lsA ⟨a1, b1, c1, 0, 0, 0⟩) 61)
              clear hq3 Y2
              go_upto_region 22 with (fail)
              change Code.wp _ _ _ _ (q3.alloc (.cells (lsA ⟨a1, b1, c1, 0, 0, 0⟩) 61))
              generalize q3.alloc (.cells (lsA ⟨a1, b1, c1, 0, 0, 0⟩) 61) = Q4 at hx4 h4 ⊢
              try rw [hgx]
              clear hgx
              have Y3 := h4.smallB ORD.out HI.out hx4 hxne
              rw [RDD.out] at Y3
              simp only at Y3
              have Y3 := Lib.hid Y3
              clear h4 hx4
              go_wp2_with fail
              refine Y3.out.mono ?_
              rintro x q5 ⟨rfl, hq5, hx5⟩
              have Y4 := hq5.smallB ORD.out HI.out hx5 hxne
              rw [RF.out] at Y4
              simp only at Y4
              have Y4 := Lib.hid Y4
              clear hq5 hx5 Y3
              go_wp2_with fail
              refine Y4.out.mono ?_
              rintro x q6 ⟨rfl, hq6, hx6⟩
              have Y5 := hq6.wideB ORD.out HI.out hx6 hxne
              rw [RG.out] at Y5
              simp only at Y5
              have Y5 := Lib.hid Y5
              clear hq6 hx6 Y4
              go_wp2_with fail
              refine Y5.out.mono ?_
              rintro x q7 ⟨rfl, hq7, hx7⟩
              have x3 : q7.cell? ⟨gx, 3, none⟩ = some (.int .i64 0) := (hx7.cell 3).trans rfl
              have x4 : q7.cell? ⟨gx, 4, none⟩ = some (.int .i64 0) := (hx7.cell 4).trans rfl
              have x5 : q7.cell? ⟨gx, 5, none⟩ = some (.int .u64 0) := (hx7.cell 5).trans rfl
              have y3 := hx7.frozen 3
              have y4 := hx7.frozen 4
              have y5 := hx7.frozen 5
              have hx8 : Blk (((q7.setCell ⟨gx, 3, none⟩ (.int .i64 d1)).setCell ⟨gx, 4, none⟩ (.int .i64 f1)).setCell ⟨gx, 5, none⟩ (.int .u64 g1)) gx 61 (lsA ⟨a1, b1, c1, d1, f1, g1⟩) := ((Blk.setL (l := [Value.int .i64 a1, .int .u64 b1, .int .u64 c1, .int .i64 0, .int .i64 0, .int .u64 0]) hx7 3 _).setL 4 _).setL 5 _
              have h8 := ((hq7.setX ORD.out hBx N1.out N2.out N3.out 3 (.int .i64 d1)).setX ORD.out hBx N1.out N2.out N3.out 4 (.int .i64 f1)).setX ORD.out hBx N1.out N2.out N3.out 5 (.int .u64 g1)
              clear hq7 hx7 Y5
              go_upto_region 23 with (fail)
              change Code.wp _ _ _ _ (((q7.setCell ⟨gx, 3, none⟩ (.int .i64 d1)).setCell ⟨gx, 4, none⟩ (.int .i64 f1)).setCell ⟨gx, 5, none⟩ (.int .u64 g1))
              generalize (((q7.setCell ⟨gx, 3, none⟩ (.int .i64 d1)).setCell ⟨gx, 4, none⟩ (.int .i64 f1)).setCell ⟨gx, 5, none⟩ (.int .u64 g1)) = Q8 at hx8 h8 ⊢
              clear x3 x4 x5 y3 y4 y5
              have H8 := Lib.hid h8
              have v0 : Q8.cell? ⟨gx, 0, none⟩ = some (.int .i64 a1) := (hx8.cell 0).trans rfl
              have v1 : Q8.cell? ⟨gx, 1, none⟩ = some (.int .u64 b1) := (hx8.cell 1).trans rfl
              have v2 : Q8.cell? ⟨gx, 2, none⟩ = some (.int .u64 c1) := (hx8.cell 2).trans rfl
              have v3 : Q8.cell? ⟨gx, 3, none⟩ = some (.int .i64 d1) := (hx8.cell 3).trans rfl
              have v4 : Q8.cell? ⟨gx, 4, none⟩ = some (.int .i64 f1) := (hx8.cell 4).trans rfl
              have v5 : Q8.cell? ⟨gx, 5, none⟩ = some (.int .u64 g1) := (hx8.cell 5).trans rfl
              have z6 := h8.cm.sh.z6
              have hl8 := h8.cm.lt
              have z6a : ∀ o, (Q8.drew.alloc o).cell? ⟨gs, 6, none⟩ = some lv := fun o => (World.cell?_alloc_lt Q8.drew o ⟨gs, 6, none⟩ hl8).trans z6
              clear h8 hx8
              go_wp2_with fail
              go_region_law (first
                | (refine step_oneL (W := Q8.drew) (gs + 1) rfl _ _ rfl _ Lj ⟨a1, b1, c1, d1, f1, g1⟩ rfl rfl rfl H8.out.drew.ol H8.out.sz (by have := HLJ.out; omega) ?_; intro v9 w9 ho9 hg9; have H9 := Lib.hid ho9; have HG9 := Lib.hid hg9; have b29 := H8.out.drew.cm.grown hg9 (fun hh => by have := own_base H8.out.ol _ hh.symm; omega); have c29 := b29.sh.z6; have f29 := b29.frozen 6; obtain ⟨A9, c9, rfl⟩ := own_slice ho9; clear b29 ho9 hg9)
                | fail)
              all_goals
                go_wp2
                go_roundw
                case rel => exact ⟨jn + 1, _, Lj ++ [⟨a1, b1, c1, d1, f1, g1⟩], kg, eg, by go_num, by omega, by have := HLJ.out; simp; omega, H8.out.drew.appL ORD.out HG9.out (by have := H9.out; rw [List.length_append] at this ⊢; exact this), by rw [HEQ.out, HD7.out, show cln - (jn + 1) = cln - jn - 1 by omega]; simp⟩
                case measure => simp [intOf]; omega
            · obtain rfl : cln = jn := by omega
              have hfin := HEQ.out
              rw [Nat.sub_self] at hfin
              simp only [decL, List.append_nil, Prod.mk.injEq] at hfin
              obtain ⟨rfl, rfl, rfl⟩ := hfin
              have hns := decNodes_mem hbyt cn k3 e3 hk3
              rw [← HN'.out] at hns
              have hhs := decH_mem hbyt chn k7 e7 hk7
              rw [← HH'.out] at hhs
              have hls := decL_mem hbyt cln k9 e9 hk9'
              rw [← HLs'.out] at hls
              obtain ⟨hnl, hnz, -⟩ := hns
              obtain ⟨hhl, hhw, -⟩ := hhs
              obtain ⟨hll, hlw, -⟩ := hls
              simp only at hnl hnz hhl hhw hll hlw
              have hnL : ns.length ≤ 64 := by omega
              have hhL : hs.length ≤ 64 := by omega
              have hlL : ls.length ≤ 64 := by omega
              clear hnl hhl hll
              have HWN : Hid (Wfs .i64 ns) := fun z hz => wf_small (hnz z hz).1 (hnz z hz).2
              have HWH := Lib.hid hhw
              have HWL := Lib.hid hlw
              obtain ⟨B0, b0, rfl, _⟩ := InN.own (k := .i64) HS.out.on HWN.out (by omega)
              obtain ⟨B1, b1, rfl, _⟩ := InS.own (f := hdC) HS.out.oh (by omega)
              obtain ⟨B2, b2, rfl, _⟩ := InS.own (f := lsC) HS.out.ol (by omega)
              have hse : sE1 lb = if ex = 0 ∧ kx < lb.length then 11 else ex := by unfold sE1; rw [HsLs.out]
              have HSE := Lib.hid hse
              have HE3 : Hid (E = if sE1 lb = 0 then errShot (decide (ShotOk i t ns lim nxt hs ls)) else sE1 lb) := by
                show _ = _
                rw [HE2.out, HsI.out, HsT.out, HsN.out, HsL.out, HsX.out, HsH.out, HsLs.out]
              have CK := Lib.hid (fun W h1 h2 h3 => shot_Check_any W i t B0 b0 ns lim nxt B1 b1 hs B2 b2 ls h1 h2 h3 HWH.out HWL.out HNX.out)
              have HF : Hid (∀ x : Ending, x = .returned (.tuple #[.agg #[.int .u64 i, .int .u64 t, .slice B0 ns.length b0, .int .i64 lim, .int .u64 nxt, .slice B1 hs.length b1, .slice B2 ls.length b2], .int .i64 0]) →
                  x = .returned (.tuple #[.agg #[.int .u64 (sI lb).1, .int .u64 (sT lb).1, .slice B0 (sNs lb).1.length b0, .int .i64 (sLim lb).1, .int .u64 (sNxt lb).1, .slice B1 (sHs lb).1.length b1, .slice B2 (sLs lb).1.length b2], .int .i64 0])) := by
                show ∀ x : Ending, _
                rw [HsI.out, HsT.out, HsN.out, HsL.out, HsX.out, HsH.out, HsLs.out]
                exact fun _ hx => hx
              clear hse hnz hhw hlw HE2 hlt hj HLJ HEQ
              obtain ⟨A9, c9, hbR, _, hk9, hc9⟩ := HS.out.rd
              obtain ⟨m, hm⟩ : ∃ m, lb.length - kx = m := ⟨_, rfl⟩
              rw [hm] at hbR
              have r0 : wr.cell? ⟨gr, 0, none⟩ = some (.slice A9 m c9) := (hbR.cell 0).trans rfl
              have r1 : wr.cell? ⟨gr, 1, none⟩ = some (.int .i64 ex) := (hbR.cell 1).trans rfl
              have fr := hbR.frozen 1
              have o1 := ORD.out.h1
              have o2 := ORD.out.h2
              have hn1 : gr ≠ g := by omega
              have hn2 : gs ≠ g := by omega
              have hn3 : g ≠ gr := by omega
              have hn4 : g ≠ gs := by omega
              clear hbR
              by_cases he : ex = 0
              rotate_left
              · have HV : Hid (E = ex) := by
                  show _ = _
                  have hs1 : sE1 lb = ex := by rw [HSE.out, if_neg (fun hh => he hh.1)]
                  rw [HE3.out, hs1, if_neg he]
                have HNE := Lib.hid he
                have d1 : (ex == 0) = false := beq_eq_false_iff_ne.2 he
                have d2 : (ex != 0) = true := bne_iff_ne.2 he
                clear he
                obtain ⟨q0, q1, q2, q3, q4, q5, q6⟩ := HS.out.res.sh
                have y0 := HS.out.res.frozen 0
                have y1 := HS.out.res.frozen 1
                have y2 := HS.out.res.frozen 2
                have y3 := HS.out.res.frozen 3
                have y4 := HS.out.res.frozen 4
                have y5 := HS.out.res.frozen 5
                have y6 := HS.out.res.frozen 6
                go_wp2_with fail
                go_region_held3 (fun w' => w'.cell? ⟨gr, 1, none⟩ = some (.int .i64 ex)) (go_keep) (fail)
                all_goals go_wp2
                have hrF := (Blk.set7 HS.out.res (.int .u64 0) (.int .u64 0) (.slice none 0 0) (.int .i64 0) (.int .u64 0) (.slice none 0 0) (.slice none 0 0)).drew
                refine bodyPost_ret (results_cell2 rfl rfl (run_loadVar_row _ _ _ _ _ (0, 0) _ hrF Try.underlying29 rfl info_Shot)) rfl ?_
                refine ⟨(HSET.out _ _ _ (HSET.out _ _ _ (HSET.out _ _ _ (HSET.out _ _ _ (HSET.out _ _ _ (HSET.out _ _ _ (HSET.out _ _ _ HS.out.bel))))))).drew, .inr ⟨?_, ?_⟩⟩
                · rw [HV.out]
                  exact HNE.out
                · rw [HV.out]
                  rfl
              subst he
              by_cases hmm : m = 0
              rotate_left
              · have HV : Hid (E = 11) := by
                  show _ = _
                  have hs1 : sE1 lb = 11 := by rw [HSE.out, if_pos (show (0 : Int) = 0 ∧ kx < lb.length from ⟨rfl, by omega⟩)]
                  rw [HE3.out, hs1, if_neg (by decide)]
                have d1 : decide ((0 : Int) < (m : Int)) = true := decide_eq_true (by omega)
                have HS2 := Lib.hid (HS.out.err ORD.out 11)
                go_upto_region 27 with (fail)
                change Code.wp _ _ _ _ (wr.setCell ⟨gr, 1, none⟩ (.int .i64 11))
                generalize wr.setCell ⟨gr, 1, none⟩ (.int .i64 11) = W20 at HS2 ⊢
                clear r0 r1 fr hmm d1
                obtain ⟨A8, c8, hbR, _, _, _⟩ := HS2.out.rd
                have r1 : W20.cell? ⟨gr, 1, none⟩ = some (.int .i64 11) := (hbR.cell 1).trans rfl
                clear hbR
                obtain ⟨q0, q1, q2, q3, q4, q5, q6⟩ := HS2.out.res.sh
                have y0 := HS2.out.res.frozen 0
                have y1 := HS2.out.res.frozen 1
                have y2 := HS2.out.res.frozen 2
                have y3 := HS2.out.res.frozen 3
                have y4 := HS2.out.res.frozen 4
                have y5 := HS2.out.res.frozen 5
                have y6 := HS2.out.res.frozen 6
                go_wp2_with fail
                go_region_held3 (fun w' => w'.cell? ⟨gr, 1, none⟩ = some (.int .i64 11)) (go_keep) (fail)
                all_goals go_wp2
                have hrF := (Blk.set7 HS2.out.res (.int .u64 0) (.int .u64 0) (.slice none 0 0) (.int .i64 0) (.int .u64 0) (.slice none 0 0) (.slice none 0 0)).drew
                refine bodyPost_ret (results_cell2 rfl rfl (run_loadVar_row _ _ _ _ _ (0, 0) _ hrF Try.underlying29 rfl info_Shot)) rfl ?_
                refine ⟨(HSET.out _ _ _ (HSET.out _ _ _ (HSET.out _ _ _ (HSET.out _ _ _ (HSET.out _ _ _ (HSET.out _ _ _ (HSET.out _ _ _ HS2.out.bel))))))).drew, .inr ⟨?_, ?_⟩⟩
                · rw [HV.out]
                  decide
                · rw [HV.out]
                  rfl
              have HV : Hid (E = errShot (decide (ShotOk i t ns lim nxt hs ls))) := by
                show _ = _
                have hs1 : sE1 lb = 0 := by rw [HSE.out, if_neg (show ¬ ((0 : Int) = 0 ∧ kx < lb.length) from fun hh => by omega)]
                rw [HE3.out, hs1, if_pos rfl]
              have d1 : ¬ 0 < m := by omega
              have d3 : decide (0 < m) = false := decide_eq_false d1
              have inn := InN.own_at (k := .i64) HS.out.on HWN.out (by omega)
              have inh := InS.own_at (f := hdC) HS.out.oh (by omega)
              have inl := InS.own_at (f := lsC) HS.out.ol (by omega)
              have XU := CK.out wr inn inh inl
              rw [← HV.out] at XU
              unfold shV at XU
              have X := Lib.hid XU
              clear XU
              obtain ⟨z0, z1, z2, z3, z4, z5, z6⟩ := HS.out.cm.sh
              clear inn inh inl
              go_wp2_with fail
              refine X.out.mono ?_
              rintro x w14 ⟨rfl, hB14⟩
              have h14 := HS.out.below ORD.out hB14
              have HS2 := Lib.hid (h14.err ORD.out E)
              obtain ⟨A8, c8, hbR, _, _, _⟩ := h14.rd
              have e1 : w14.cell? ⟨gr, 1, none⟩ = some (.int .i64 0) := (hbR.cell 1).trans rfl
              have fr2 := hbR.frozen 1
              clear hB14 h14 X hbR z0 z1 z2 z3 z4 z5 z6 r0 r1 fr d1 d3 hmm
              go_upto_region 29 with (fail)
              change Code.wp _ _ _ _ (w14.setCell ⟨gr, 1, none⟩ (.int .i64 E))
              generalize w14.setCell ⟨gr, 1, none⟩ (.int .i64 E) = W20 at HS2 ⊢
              clear e1 fr2
              obtain ⟨A7, c7, hbR, _, _, _⟩ := HS2.out.rd
              have r1 : W20.cell? ⟨gr, 1, none⟩ = some (.int .i64 E) := (hbR.cell 1).trans rfl
              clear hbR
              by_cases hE0 : E = 0
              rotate_left
              · have d2 : (E != 0) = true := bne_iff_ne.2 hE0
                have HNE := Lib.hid hE0
                clear hE0
                obtain ⟨q0, q1, q2, q3, q4, q5, q6⟩ := HS2.out.res.sh
                have y0 := HS2.out.res.frozen 0
                have y1 := HS2.out.res.frozen 1
                have y2 := HS2.out.res.frozen 2
                have y3 := HS2.out.res.frozen 3
                have y4 := HS2.out.res.frozen 4
                have y5 := HS2.out.res.frozen 5
                have y6 := HS2.out.res.frozen 6
                go_wp2_with fail
                go_region_held3 (fun w' => w'.cell? ⟨gr, 1, none⟩ = some (.int .i64 E)) (go_keep) (fail)
                all_goals go_wp2
                have hrF := (Blk.set7 HS2.out.res (.int .u64 0) (.int .u64 0) (.slice none 0 0) (.int .i64 0) (.int .u64 0) (.slice none 0 0) (.slice none 0 0)).drew
                refine bodyPost_ret (results_cell2 rfl rfl (run_loadVar_row _ _ _ _ _ (0, 0) _ hrF Try.underlying29 rfl info_Shot)) rfl ?_
                refine ⟨(HSET.out _ _ _ (HSET.out _ _ _ (HSET.out _ _ _ (HSET.out _ _ _ (HSET.out _ _ _ (HSET.out _ _ _ (HSET.out _ _ _ HS2.out.bel))))))).drew, .inr ⟨?_, ?_⟩⟩
                · exact HNE.out
                · rfl
              have d2 : (E != 0) = false := by simp [hE0]
              have HE0 := Lib.hid hE0
              clear hE0
              obtain ⟨z0, z1, z2, z3, z4, z5, z6⟩ := HS2.out.cm.sh
              obtain ⟨q0, q1, q2, q3, q4, q5, q6⟩ := HS2.out.res.sh
              have y0 := HS2.out.res.frozen 0
              have y1 := HS2.out.res.frozen 1
              have y2 := HS2.out.res.frozen 2
              have y3 := HS2.out.res.frozen 3
              have y4 := HS2.out.res.frozen 4
              have y5 := HS2.out.res.frozen 5
              have y6 := HS2.out.res.frozen 6
              have hG7 := grown_set7 W20 g (.int .u64 i) (.int .u64 t) (.slice B0 ns.length b0) (.int .i64 lim) (.int .u64 nxt) (.slice B1 hs.length b1) (.slice B2 ls.length b2)
              have ogs : g < gs + 1 := by omega
              have lN : ns.length ≤ 140737488355328 := by omega
              have lH : hs.length * (8 * 5) ≤ 140737488355328 := by omega
              have lL : ls.length * (8 * 6) ≤ 140737488355328 := by omega
              have Kon := Lib.hid (InN.own_at (k := .i64) (kept_gr HS2.out.on hG7 ogs) HWN.out lN)
              have Koh := Lib.hid (InS.own_at (f := hdC) (kept_gr HS2.out.oh hG7 ogs) lH)
              have Kol := Lib.hid (InS.own_at (f := lsC) (kept_gr HS2.out.ol hG7 ogs) lL)
              clear hG7 lN lH lL
              go_wp2
              have hrF := Blk.set7 HS2.out.res (.int .u64 i) (.int .u64 t) (.slice B0 ns.length b0) (.int .i64 lim) (.int .u64 nxt) (.slice B1 hs.length b1) (.slice B2 ls.length b2)
              refine bodyPost_ret (results_cell2 rfl rfl (run_loadVar_row _ _ _ _ _ (0, 0) _ hrF Try.underlying29 rfl info_Shot)) rfl ?_
              refine And.intro ?_ (Or.inl ?_)
              · exact HSET.out _ _ _ (HSET.out _ _ _ (HSET.out _ _ _ (HSET.out _ _ _ (HSET.out _ _ _ (HSET.out _ _ _ (HSET.out _ _ _ HS2.out.bel))))))
              refine And.intro HE0.out ?_
              refine ⟨B0, b0, B1, b1, B2, b2, ?_⟩
              refine And.intro ?_ (And.intro ?_ (And.intro ?_ ?_))
              · refine HF.out _ ?_
                refine congrArg Ending.returned ?_
                rfl
              · rw [HsN.out]
                exact Kon.out
              · rw [HsH.out]
                exact Koh.out
              · rw [HsLs.out]
                exact Kol.out
end Go.Proofs.Ythdeappjankmmaa
