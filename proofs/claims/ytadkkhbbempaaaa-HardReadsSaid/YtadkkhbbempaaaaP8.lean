/- Texts drawn together (8 of them): words, plain laws and walks that the row leans on. -/
import Derived.Test.YtadkkhbbempaaaaP7
import Derived.Deep.RegionLaw
import Derived.Deep.RegionHeld3
import Derived.Deep.DeepCutAuto
import Derived.Test.YtadkkhbbempaaaaP1
import Derived.Test.YtadkkhbbempaaaaP3
import Derived.Test.YtadkkhbbempaaaaP4
/- Snapshots read: the code's Decode. -/
namespace Go.Proofs.Ytadkkhbbempaaaa
set_option maxRecDepth 100000
open Go.RowKit

set_option maxRecDepth 100000 in
set_option maxHeartbeats 40000000 in
theorem shot_Decode_walk2 (w : World) (A : Option Addr) (c : Nat) (lb : List Int) (h : In8 w A c lb) :
    Calls Try.prog 57 #[.slice A lb.length c] w fun x w' => Below w.heap.size w w' ∧
      ((sE lb = 0 ∧ ∃ A0 c0 A1 c1 A2 c2, x = .returned (.tuple #[shV (sI lb).1 (sT lb).1 (.slice A0 (sNs lb).1.length c0) (sLim lb).1 (sNxt lb).1 (.slice A1 (sHs lb).1.length c1) (.slice A2 (sLs lb).1.length c2), .int .i64 0]) ∧ InN .i64 w' A0 c0 (sNs lb).1 ∧ InS hdC 5 w' A1 c1 (sHs lb).1 ∧ InS lsC 6 w' A2 c2 (sLs lb).1 ∧ (∀ b, (Value.slice A0 (sNs lb).1.length c0).ownBlock = some b → w.heap.size ≤ b) ∧ (∀ b, (Value.slice A1 (sHs lb).1.length c1).ownBlock = some b → w.heap.size ≤ b) ∧ (∀ b, (Value.slice A2 (sLs lb).1.length c2).ownBlock = some b → w.heap.size ≤ b)) ∨
       (sE lb ≠ 0 ∧ x = .returned (.tuple #[shV 0 0 (.slice none 0 0) 0 0 (.slice none 0 0) (.slice none 0 0), .int .i64 (sE lb)]))) := by
  have HIN := Lib.hid h
  have hbyt := h.byt
  have hsm := h.small
  have hcap := h.cap
  obtain ⟨g, hg⟩ : ∃ g, w.heap.size = g := ⟨_, rfl⟩
  rw [hg]
  have HLE := Lib.hid (fun (k : Nat) (hk : k ≤ lb.length) (e most : Int) (hm : 0 ≤ most) => rnum_le hbyt hk e hm)
  have HSET : Hid (∀ (j : Nat) (W : World) (u : Value), Below g w W → Below g w (W.setCell ⟨g, j, none⟩ u)) := fun j W u hW => hW.setCell (p := ⟨g, j, none⟩) (Nat.le_refl _) u
  obtain ⟨E, hE⟩ : ∃ E, sE lb = E := ⟨_, rfl⟩
  have HE := Lib.hid hE
  rw [hE]
  have hb0 : Blk (w.alloc (.cells (shC 0 0 (.slice none 0 0) 0 0 (.slice none 0 0) (.slice none 0 0)) 29)) g 29 (shC 0 0 (.slice none 0 0) 0 0 (.slice none 0 0) (.slice none 0 0)) := hg ▸ Blk.new _ _ _
  have hB0 : Below g w (w.alloc (.cells (shC 0 0 (.slice none 0 0) 0 0 (.slice none 0 0) (.slice none 0 0)) 29)) := (Below.refl _ _).alloc (by omega) _
  have hz0 : (w.alloc (.cells (shC 0 0 (.slice none 0 0) 0 0 (.slice none 0 0) (.slice none 0 0)) 29)).heap.size = g + 1 := by simp [hg]
  unfold shV
  clear hE h
  go_enter Try.func57, Try.ntmps57
  go_upto_region 1 with (fail)
  change Code.wp _ _ _ _ (w.alloc (.cells (shC 0 0 (.slice none 0 0) 0 0 (.slice none 0 0) (.slice none 0 0)) 29))
  generalize (w.alloc (.cells (shC 0 0 (.slice none 0 0) 0 0 (.slice none 0 0) (.slice none 0 0)) 29)) = W0 at hb0 hB0 hz0 ⊢
  have HB0 := Lib.hid hB0
  by_cases h1 : (8192 : Int) < lb.length
  · have d1 : decide ((8192 : Int) < lb.length) = true := decide_eq_true h1
    have HV : Hid (E = 2) := by
      show _ = _
      rw [← HE.out, sE, if_pos (by omega)]
    obtain ⟨z0, z1, z2, z3, z4, z5, z6⟩ := hb0.sh
    have y0 := hb0.frozen 0
    have y1 := hb0.frozen 1
    have y2 := hb0.frozen 2
    have y3 := hb0.frozen 3
    have y4 := hb0.frozen 4
    have y5 := hb0.frozen 5
    have y6 := hb0.frozen 6
    go_wp2
    (try simp only [Exit.inBlock, Exit.then])
    have hrF := Blk.set7 hb0 (.int .u64 0) (.int .u64 0) (.slice none 0 0) (.int .i64 0) (.int .u64 0) (.slice none 0 0) (.slice none 0 0)
    refine bodyPost_ret (results_cell2 rfl rfl (run_loadVar_row _ _ _ _ _ (0, 0) _ hrF Try.underlying29 rfl info_Shot)) rfl ?_
    exact ⟨HSET.out _ _ _ (HSET.out _ _ _ (HSET.out _ _ _ (HSET.out _ _ _ (HSET.out _ _ _ (HSET.out _ _ _ (HSET.out _ _ _ HB0.out)))))), .inr ⟨by rw [HV.out]; decide, by rw [HV.out]; rfl⟩⟩
  have d1 : decide ((8192 : Int) < lb.length) = false := decide_eq_false h1
  by_cases h2 : lb.length = 0
  · have d2 : ((lb.length : Int) == 0) = true := by simp [h2]
    have HV : Hid (E = 10) := by
      show _ = _
      rw [← HE.out, sE, if_neg (by omega), if_pos h2]
    obtain ⟨z0, z1, z2, z3, z4, z5, z6⟩ := hb0.sh
    have y0 := hb0.frozen 0
    have y1 := hb0.frozen 1
    have y2 := hb0.frozen 2
    have y3 := hb0.frozen 3
    have y4 := hb0.frozen 4
    have y5 := hb0.frozen 5
    have y6 := hb0.frozen 6
    go_wp2
    (try simp only [Exit.inBlock, Exit.then])
    have hrF := Blk.set7 hb0 (.int .u64 0) (.int .u64 0) (.slice none 0 0) (.int .i64 0) (.int .u64 0) (.slice none 0 0) (.slice none 0 0)
    refine bodyPost_ret (results_cell2 rfl rfl (run_loadVar_row _ _ _ _ _ (0, 0) _ hrF Try.underlying29 rfl info_Shot)) rfl ?_
    exact ⟨HSET.out _ _ _ (HSET.out _ _ _ (HSET.out _ _ _ (HSET.out _ _ _ (HSET.out _ _ _ (HSET.out _ _ _ (HSET.out _ _ _ HB0.out)))))), .inr ⟨by rw [HV.out]; decide, by rw [HV.out]; rfl⟩⟩
  have d2 : ((lb.length : Int) == 0) = false := by rw [beq_eq_false_iff_ne]; omega
  obtain ⟨b, off, rfl, hcell⟩ := (HIN.out.keep (hg ▸ hB0)).all (by omega)
  have hc0 := hcell 0 (by omega)
  rw [Nat.add_zero] at hc0
  clear hcell
  obtain ⟨z, hz⟩ : ∃ z, lb[0] = z := ⟨_, rfl⟩
  rw [hz] at hc0
  have hhd : lb.head? = some z := by rw [List.head?_eq_getElem?, List.getElem?_eq_getElem (by omega), hz]
  by_cases h3 : z = 83
  rotate_left
  · have d3 : (z != 83) = true := bne_iff_ne.2 h3
    have HV : Hid (E = 11) := by
      show _ = _
      rw [← HE.out, sE, if_neg (by omega), if_neg h2, if_pos (by rw [hhd]; intro hh; injection hh with hh; exact h3 hh)]
    clear h3 hz
    obtain ⟨z0, z1, z2, z3, z4, z5, z6⟩ := hb0.sh
    have y0 := hb0.frozen 0
    have y1 := hb0.frozen 1
    have y2 := hb0.frozen 2
    have y3 := hb0.frozen 3
    have y4 := hb0.frozen 4
    have y5 := hb0.frozen 5
    have y6 := hb0.frozen 6
    go_wp2
    (try simp only [Exit.inBlock, Exit.then])
    have hrF := Blk.set7 hb0 (.int .u64 0) (.int .u64 0) (.slice none 0 0) (.int .i64 0) (.int .u64 0) (.slice none 0 0) (.slice none 0 0)
    refine bodyPost_ret (results_cell2 rfl rfl (run_loadVar_row _ _ _ _ _ (0, 0) _ hrF Try.underlying29 rfl info_Shot)) rfl ?_
    exact ⟨HSET.out _ _ _ (HSET.out _ _ _ (HSET.out _ _ _ (HSET.out _ _ _ (HSET.out _ _ _ (HSET.out _ _ _ (HSET.out _ _ _ HB0.out)))))), .inr ⟨by rw [HV.out]; decide, by rw [HV.out]; rfl⟩⟩
  subst h3
  have HE2 : Hid (E = if sE1 lb = 0 then errShot (decide (ShotOk (sI lb).1 (sT lb).1 (sNs lb).1 (sLim lb).1 (sNxt lb).1 (sHs lb).1 (sLs lb).1)) else sE1 lb) := by
    show _ = _
    rw [← HE.out, sE, if_neg (by omega), if_neg h2, if_neg (by rw [hhd]; simp)]
  clear hz hhd HE
  obtain ⟨gr, hgr⟩ : ∃ gr, g + 1 = gr := ⟨_, rfl⟩
  have hI1 : ∀ W, In8 W (some ⟨b, off, none⟩) c lb → In8 W (if c = 1 then some (⟨b, off, none⟩ : Addr) else some (⟨b, off + 1, none⟩ : Addr)) (c - 1) (lb.drop 1) := fun W hW => by
    refine ⟨?_, hW.byt.drop 1, by rw [List.length_drop]; have := hW.cap; omega, by rw [List.length_drop]; have := hW.small; omega⟩
    have := hW.reads.cut (k := 1) (cap := c) (by omega) hW.cap
    rw [List.length_drop]
    simpa [u8s, List.map_drop, add_plain] using this
  have hrc : RC (W0.alloc (.cells (sdC (if c = 1 then some (⟨b, off, none⟩ : Addr) else some (⟨b, off + 1, none⟩ : Addr)) (lb.length - 1) (c - 1) 0) 130)) gr (some ⟨b, off, none⟩) c lb 1 0 := by
    refine ⟨(if c = 1 then some (⟨b, off, none⟩ : Addr) else some (⟨b, off + 1, none⟩ : Addr)), c - 1, ?_, hI1, by omega, by omega⟩
    rw [← hgr, ← hz0]
    exact Blk.new _ _ _
  have hb1 := hb0.alloc (.cells (sdC (if c = 1 then some (⟨b, off, none⟩ : Addr) else some (⟨b, off + 1, none⟩ : Addr)) (lb.length - 1) (c - 1) 0) 130)
  have hB1 := hB0.alloc (by omega) (.cells (sdC (if c = 1 then some (⟨b, off, none⟩ : Addr) else some (⟨b, off + 1, none⟩ : Addr)) (lb.length - 1) (c - 1) 0) 130)
  have hz1 : (W0.alloc (.cells (sdC (if c = 1 then some (⟨b, off, none⟩ : Addr) else some (⟨b, off + 1, none⟩ : Addr)) (lb.length - 1) (c - 1) 0) 130)).heap.size = g + 2 := by simp [hz0]
  clear hI1
  go_upto_region 8 with (fail)
  change Code.wp _ _ _ _ (W0.alloc (.cells (sdC (if c = 1 then some (⟨b, off, none⟩ : Addr) else some (⟨b, off + 1, none⟩ : Addr)) (lb.length - 1) (c - 1) 0) 130))
  generalize (W0.alloc (.cells (sdC (if c = 1 then some (⟨b, off, none⟩ : Addr) else some (⟨b, off + 1, none⟩ : Addr)) (lb.length - 1) (c - 1) 0) 130)) = W1 at hrc hb1 hB1 hz1 ⊢
  generalize (if c = 1 then some (⟨b, off, none⟩ : Addr) else some (⟨b, off + 1, none⟩ : Addr)) = A1
  try rw [hgr]
  clear hc0 hb0 hB0 hz0 HB0 d1 d2 h1 h2
  have HI : Hid (∀ W, Below g w W → In8 W (some ⟨b, off, none⟩) c lb) := fun W hW => HIN.out.keep (hg ▸ hW)
  obtain ⟨⟨i, k1, e1⟩, hI⟩ : ∃ r, sI lb = r := ⟨_, rfl⟩
  have hI' : rnum lb 1 0 18446744073709551615 = (i, k1, e1) := hI
  have C1 := swide_any W1 gr _ c lb 1 0 (HI.out _ hB1) hrc
  rw [hI'] at C1
  simp only at C1
  have C1 := Lib.hid C1
  have HsI := Lib.hid hI
  clear hrc hI' hI
  go_wp2_with fail
  refine C1.out.mono ?_
  rintro x w2 ⟨rfl, hr2, hg2⟩
  have hne : ∀ j, j ≠ gr → some j ≠ some gr := fun j hj hh => hj (by injection hh)
  have hb2 := hb1.grown hg2 (hne _ (by omega))
  have hB2 : Below g w w2 := hB1.grown hg2 (by omega) (fun j hj => by injection hj with hj; omega)
  have hz2 : g + 2 ≤ w2.heap.size := by have := hg2.size; omega
  obtain ⟨⟨t, k2, e2⟩, hT⟩ : ∃ r, sT lb = r := ⟨_, rfl⟩
  have hT' : rnum lb k1 e1 18446744073709551615 = (t, k2, e2) := by rw [← hT]; unfold sT; rw [HsI.out]
  have C2 := swide_any w2 gr _ c lb k1 e1 (HI.out _ hB2) hr2
  rw [hT'] at C2
  simp only at C2
  have C2 := Lib.hid C2
  have HsT := Lib.hid hT
  clear hr2 hT' hT hb1 hB1 hz1 hg2 C1
  go_wp2_with fail
  refine C2.out.mono ?_
  rintro x w3 ⟨rfl, hr3, hg3⟩
  have hb3 := hb2.grown hg3 (hne _ (by omega))
  have hB3 : Below g w w3 := hB2.grown hg3 (by omega) (fun j hj => by injection hj with hj; omega)
  have hz3 : g + 2 ≤ w3.heap.size := by have := hg3.size; omega
  clear hb2 hB2 hz2 hg3 C2
  obtain ⟨gs, hgs⟩ : ∃ gs, w3.heap.size = gs := ⟨_, rfl⟩
  have hltr : gr < gs := by omega
  have H4 : Hid (SD w g gr gs (gs + 1) (some ⟨b, off, none⟩) c lb (w3.alloc (.cells (shC i t (.slice none 0 0) 0 0 (.slice none 0 0) (.slice none 0 0)) 29)) i t (.slice none 0 0) [] 0 0 (.slice none 0 0) [] (.slice none 0 0) [] k2 e2) :=
    ⟨hb3.alloc _, hr3.grown (World.grownBy_alloc _ _ none) (by simp), hgs ▸ Blk.new _ _ _, hB3.alloc (by omega) _, by simp; omega, own_nil _ _ _ _, own_nil _ _ _ _, own_nil _ _ _ _⟩
  have ORD : Hid (SDo g gr gs (gs + 1)) := ⟨by omega, hltr, by omega⟩
  clear hb3 hB3 hr3 hne
  go_upto_region 9 with (fail)
  change Code.wp _ _ _ _ (w3.alloc (.cells (shC i t (.slice none 0 0) 0 0 (.slice none 0 0) (.slice none 0 0)) 29))
  generalize w3.alloc (.cells (shC i t (.slice none 0 0) 0 0 (.slice none 0 0) (.slice none 0 0)) 29) = W4 at H4 ⊢
  try rw [hgs]
  clear hgs hz3
  obtain ⟨⟨cni, k3, e3⟩, hC⟩ : ∃ r, sCn lb = r := ⟨_, rfl⟩
  have hC' : rnum lb k2 e2 64 = (cni, k3, e3) := by rw [← hC]; unfold sCn; rw [HsT.out]
  have C3 := H4.out.many ORD.out HI.out
  have hb3 := HLE.out k2 H4.out.rd.le e2 64 (by decide)
  rw [hC'] at C3 hb3
  simp only at C3 hb3
  obtain ⟨cn, rfl⟩ := Int.eq_ofNat_of_zero_le hb3.1
  have hcn : cn ≤ 64 := by omega
  have C3 := Lib.hid C3
  have HsC := Lib.hid hC
  clear hC hC' hb3
  go_wp2_with fail
  refine C3.out.mono ?_
  rintro x w5 ⟨rfl, h5⟩
  have H5 := Lib.hid h5
  have hk3 := h5.rd.le
  clear h5 C3 H4
  obtain ⟨⟨ns, k4, e4⟩, hN⟩ : ∃ r, sNs lb = r := ⟨_, rfl⟩
  have hN' : (ns, k4, e4) = decNodes lb cn k3 e3 := by rw [← hN]; unfold sNs; rw [HsC.out, Int.toNat_natCast]
  have HsN := Lib.hid hN
  have HN' := Lib.hid hN'
  clear hN hN'
  go_wp2_with fail
  go_loopw [35] (fun j wr => ∃ (jn : Nat) (sn : Value) (Lj : List Int) (kj : Nat) (ej : Int), j = .int .u64 (jn : Int) ∧ jn ≤ cn ∧ Lj.length = jn ∧ SD w g gr gs (gs + 1) (some ⟨b, off, none⟩) c lb wr i t sn Lj 0 0 (.slice none 0 0) [] (.slice none 0 0) [] kj ej ∧ (ns, k4, e4) = (Lj ++ (decNodes lb (cn - jn) kj ej).1, (decNodes lb (cn - jn) kj ej).2)) (fun j _ => cn - (intOf j).toNat)
  case atStart => exact ⟨0, _, [], k3, e3, rfl, by omega, rfl, H5.out, by rw [HN'.out]; simp⟩
  case round =>
    clear H5
    obtain ⟨jn, sn, Lj, kj, ej, rfl, hj, hlj, hst, heq⟩ := hrel
    have HS := Lib.hid hst
    have HEQ := Lib.hid heq
    have HLJ := Lib.hid hlj
    clear hst heq hlj
    by_cases hlt : jn < cn
    · have C7 := (HS.out.drew).small ORD.out HI.out
      have hd7 : decNodes lb (cn - jn) kj ej = ((rnum lb kj ej 65535).1 :: (decNodes lb (cn - jn - 1) (rnum lb kj ej 65535).2.1 (rnum lb kj ej 65535).2.2).1, (decNodes lb (cn - jn - 1) (rnum lb kj ej 65535).2.1 (rnum lb kj ej 65535).2.2).2) := by
        obtain ⟨y, hy⟩ : ∃ y, cn - jn = y + 1 := ⟨cn - jn - 1, by omega⟩
        rw [hy]
        rfl
      obtain ⟨⟨v7, k7, e7⟩, hr7⟩ : ∃ r, rnum lb kj ej 65535 = r := ⟨_, rfl⟩
      rw [hr7] at C7 hd7
      simp only at C7 hd7
      have HD7 := Lib.hid hd7
      have C7 := Lib.hid C7
      clear hr7 hd7
      obtain ⟨z0, z1, z2, z3, z4, z5, z6⟩ := HS.out.cm.sh
      clear z0 z1 z3 z4 z5 z6
      go_wp2_with fail
      go_region_law (first
        | (refine step_oneN (W := w7) (gs + 1) rfl _ _ rfl _ Lj v7 rfl rfl rfl H7.out.on H7.out.sz (by have := HLJ.out; omega) ?_; intro v8 w8 ho8 hg8; have H8 := Lib.hid ho8; have HG8 := Lib.hid hg8; have b28 := H7.out.cm.grown hg8 (fun hh => by have := own_base H7.out.on _ hh.symm; omega); have c28 := b28.sh.z2; have f28 := b28.frozen 2; obtain ⟨A8, c8, rfl⟩ := own_slice ho8; clear b28 ho8 hg8)
        | (go_simp; go_at_call 92; refine C7.out.mono ?_; rintro x w7 ⟨rfl, h7⟩; have H7 := Lib.hid h7; have c27 := h7.cm.sh.z2; have hl7 := h7.cm.lt; have c29 : ∀ o, (w7.alloc o).cell? ⟨gs, 2, none⟩ = some sn := fun o => (World.cell?_alloc_lt w7 o ⟨gs, 2, none⟩ hl7).trans c27; clear h7))
      all_goals
        go_wp2
        go_roundw
        case rel => exact ⟨jn + 1, _, Lj ++ [v7], k7, e7, by go_num, by omega, by have := HLJ.out; simp; omega, H7.out.appN ORD.out HG8.out (by have := H8.out; rw [List.length_append] at this; exact this), by rw [HEQ.out, HD7.out, show cn - (jn + 1) = cn - jn - 1 by omega]; simp⟩
        case measure => simp [intOf]; omega
    · obtain rfl : cn = jn := by omega
      have hfin := HEQ.out
      rw [Nat.sub_self] at hfin
      simp only [decNodes, List.append_nil, Prod.mk.injEq] at hfin
      obtain ⟨rfl, rfl, rfl⟩ := hfin
      obtain ⟨⟨lim, k5, e5⟩, hL⟩ : ∃ r, sLim lb = r := ⟨_, rfl⟩
      have hL' : rnum lb k4 e4 65535 = (lim, k5, e5) := by rw [← hL]; unfold sLim; rw [HsN.out]
      have C8 := HS.out.small ORD.out HI.out
      rw [hL'] at C8
      simp only at C8
      have C8 := Lib.hid C8
      have HsL := Lib.hid hL
      clear hL hL' HEQ HLJ hlt hj
      go_wp2_with fail
      refine C8.out.mono ?_
      rintro x w8 ⟨rfl, h8⟩
      obtain ⟨⟨nxt, k6, e6⟩, hX⟩ : ∃ r, sNxt lb = r := ⟨_, rfl⟩
      have hX' : rnum lb k5 e5 18446744073709551615 = (nxt, k6, e6) := by rw [← hX]; unfold sNxt; rw [HsL.out]
      have HNX := (HLE.out k5 h8.rd.le e5 18446744073709551615 (by decide)).2.2.2
      rw [hX'] at HNX
      simp only at HNX
      have HNX := Lib.hid HNX
      have C9 := h8.wide ORD.out HI.out
      rw [hX'] at C9
      simp only at C9
      have C9 := Lib.hid C9
      have HsX := Lib.hid hX
      clear hX hX' h8 C8 HS
      go_wp2_with fail
      refine C9.out.mono ?_
      rintro x w9 ⟨rfl, h9⟩
      have h10 := h9.setc ORD.out 3 (.int .i64 lim) rfl h9.on h9.oh h9.ol
      have H11 := Lib.hid (h10.setc ORD.out 4 (.int .u64 nxt) rfl h10.on h10.oh h10.ol)
      obtain ⟨z0, z1, z2, z3, z4, z5, z6⟩ := h9.cm.sh
      have y3 := h9.cm.frozen 3
      have y4 := h9.cm.frozen 4
      clear h9 h10 C9 z0 z1 z2 z5 z6
      go_upto_region 15 with (fail)
      change Code.wp _ _ _ _ ((w9.setCell ⟨gs, 3, none⟩ (.int .i64 lim)).setCell ⟨gs, 4, none⟩ (.int .u64 nxt))
      generalize ((w9.setCell ⟨gs, 3, none⟩ (.int .i64 lim)).setCell ⟨gs, 4, none⟩ (.int .u64 nxt)) = W11 at H11 ⊢
      clear z3 z4 y3 y4
      obtain ⟨⟨chi, k7, e7⟩, hC⟩ : ∃ r, sCh lb = r := ⟨_, rfl⟩
      have hC' : rnum lb k6 e6 64 = (chi, k7, e7) := by rw [← hC]; unfold sCh; rw [HsX.out]
      have C3 := H11.out.many ORD.out HI.out
      have hb3 := HLE.out k6 H11.out.rd.le e6 64 (by decide)
      rw [hC'] at C3 hb3
      simp only at C3 hb3
      obtain ⟨chn, rfl⟩ := Int.eq_ofNat_of_zero_le hb3.1
      have hchn : chn ≤ 64 := by omega
      have C3 := Lib.hid C3
      have HsCh := Lib.hid hC
      clear hC hC' hb3
      go_wp2_with fail
      refine C3.out.mono ?_
      rintro x w12 ⟨rfl, h12⟩
      have H12 := Lib.hid h12
      have hk7 := h12.rd.le
      clear h12 C3 H11
      obtain ⟨⟨hs, k8, e8⟩, hH⟩ : ∃ r, sHs lb = r := ⟨_, rfl⟩
      have hH' : (hs, k8, e8) = decH lb chn k7 e7 := by rw [← hH]; unfold sHs; rw [HsCh.out, Int.toNat_natCast]
      have HsH := Lib.hid hH
      have HH' := Lib.hid hH'
      clear hH hH'
      go_wp2_with fail
      go_loopw [58] (fun j wr => ∃ (jn : Nat) (hv : Value) (Lj : List Hd) (kj : Nat) (ej : Int), j = .int .u64 (jn : Int) ∧ jn ≤ chn ∧ Lj.length = jn ∧ SD w g gr gs (gs + 1) (some ⟨b, off, none⟩) c lb wr i t sn ns lim nxt hv Lj (.slice none 0 0) [] kj ej ∧ (hs, k8, e8) = (Lj ++ (decH lb (chn - jn) kj ej).1, (decH lb (chn - jn) kj ej).2)) (fun j _ => chn - (intOf j).toNat)
      case atStart => exact ⟨0, _, [], k7, e7, rfl, by omega, rfl, H12.out, by rw [HH'.out]; simp⟩
      case round =>
        clear H12
        obtain ⟨jn, hv, Lj, kj, ej, rfl, hj, hlj, hst, heq⟩ := hrel
        have HS := Lib.hid hst
        have HEQ := Lib.hid heq
        have HLJ := Lib.hid hlj
        clear hst heq hlj
        by_cases hlt : jn < chn
        · obtain ⟨⟨a1, ka, ea⟩, ra⟩ : ∃ r, rnum lb kj ej 65535 = r := ⟨_, rfl⟩
          obtain ⟨⟨b1, kb, eb⟩, rb⟩ : ∃ r, rnum lb ka ea 65535 = r := ⟨_, rfl⟩
          obtain ⟨⟨c1, kc, ec⟩, rc⟩ : ∃ r, rnum lb kb eb 18446744073709551615 = r := ⟨_, rfl⟩
          obtain ⟨⟨d1, kd, ed⟩, rd⟩ : ∃ r, rnum lb kc ec 18446744073709551615 = r := ⟨_, rfl⟩
          obtain ⟨⟨f1, kf, ef⟩, rf⟩ : ∃ r, rnum lb kd ed 18446744073709551615 = r := ⟨_, rfl⟩
          have HD7 : Hid (decH lb (chn - jn) kj ej = (⟨a1, b1, c1, d1, f1⟩ :: (decH lb (chn - jn - 1) kf ef).1, (decH lb (chn - jn - 1) kf ef).2)) := by
            show _ = _
            obtain ⟨y, hy⟩ : ∃ y, chn - jn = y + 1 := ⟨chn - jn - 1, by omega⟩
            have hd : dHd lb kj ej = (⟨a1, b1, c1, d1, f1⟩, kf, ef) := by
              unfold dHd
              simp only [ra, rb, rc, rd, rf]
            rw [hy, Nat.add_sub_cancel]
            simp only [decH, hd]
          have Y0 := HS.out.drew.small ORD.out HI.out
          rw [ra] at Y0
          simp only at Y0
          have Y0 := Lib.hid Y0
          have RB := Lib.hid rb
          have RC' := Lib.hid rc
          have RDD := Lib.hid rd
          have RF := Lib.hid rf
          have S0 := HS.out.drew.cm.sh.z5
          clear ra rb rc rd rf
          go_wp2_with fail
          go_region_law (first
              | (refine step_oneH (W := q5) (gs + 1) rfl _ _ rfl _ Lj ⟨a1, b1, c1, d1, f1⟩ rfl rfl rfl HQ.out.oh HQ.out.sz (by have := HLJ.out; omega) ?_; intro v8 w8 ho8 hg8; have H8 := Lib.hid ho8; have HG8 := Lib.hid hg8; have b28 := HQ.out.cm.grown hg8 (fun hh => by have := own_base HQ.out.oh _ hh.symm; omega); have S8 := b28.sh.z5; have f28 := b28.frozen 5; obtain ⟨A8, c8, rfl⟩ := own_slice ho8; clear b28 ho8 hg8)
              | (go_simp; go_at_call 92; refine Y0.out.mono ?_; rintro x q1 ⟨rfl, hq⟩; have S1 := hq.cm.sh.z5; have Y1 := hq.small ORD.out HI.out; rw [RB.out] at Y1; simp only at Y1; have Y1 := Lib.hid Y1; clear hq)
              | (go_simp; go_at_call 92; refine Y1.out.mono ?_; rintro x q2 ⟨rfl, hq⟩; have S2 := hq.cm.sh.z5; have Y2 := hq.wide ORD.out HI.out; rw [RC'.out] at Y2; simp only at Y2; have Y2 := Lib.hid Y2; clear hq)
              | (go_simp; go_at_call 90; refine Y2.out.mono ?_; rintro x q3 ⟨rfl, hq⟩; have S3 := hq.cm.sh.z5; have Y3 := hq.wide ORD.out HI.out; rw [RDD.out] at Y3; simp only at Y3; have Y3 := Lib.hid Y3; clear hq)
              | (go_simp; go_at_call 90; refine Y3.out.mono ?_; rintro x q4 ⟨rfl, hq⟩; have S4 := hq.cm.sh.z5; have Y4 := hq.wide ORD.out HI.out; rw [RF.out] at Y4; simp only at Y4; have Y4 := Lib.hid Y4; clear hq)
              | (go_simp; go_at_call 90; refine Y4.out.mono ?_; rintro x q5 ⟨rfl, hq⟩; have S5 := hq.cm.sh.z5; have hl5 := hq.cm.lt; have S6 : ∀ o, (q5.alloc o).cell? ⟨gs, 5, none⟩ = some hv := fun o => (World.cell?_alloc_lt q5 o ⟨gs, 5, none⟩ hl5).trans S5; have HQ := Lib.hid hq; clear hq))
          all_goals
            go_wp2
            go_roundw
            case rel => exact ⟨jn + 1, _, Lj ++ [⟨a1, b1, c1, d1, f1⟩], kf, ef, by go_num, by omega, by have := HLJ.out; simp; omega, HQ.out.appH ORD.out HG8.out (by have := H8.out; rw [List.length_append] at this ⊢; exact this), by rw [HEQ.out, HD7.out, show chn - (jn + 1) = chn - jn - 1 by omega]; simp⟩
            case measure => simp [intOf]; omega
        · obtain rfl : chn = jn := by omega
          have hfin := HEQ.out
          rw [Nat.sub_self] at hfin
          simp only [decH, List.append_nil, Prod.mk.injEq] at hfin
          obtain ⟨rfl, rfl, rfl⟩ := hfin
          obtain ⟨⟨cli, k9, e9⟩, hC⟩ : ∃ r, sCl lb = r := ⟨_, rfl⟩
          have hC' : rnum lb k8 e8 64 = (cli, k9, e9) := by rw [← hC]; unfold sCl; rw [HsH.out]
          have C3 := HS.out.many ORD.out HI.out
          have hb3 := HLE.out k8 HS.out.rd.le e8 64 (by decide)
          rw [hC'] at C3 hb3
          simp only at C3 hb3
          obtain ⟨cln, rfl⟩ := Int.eq_ofNat_of_zero_le hb3.1
          have hcln : cln ≤ 64 := by omega
          have C3 := Lib.hid C3
          have HsCl := Lib.hid hC
          clear hC hC' hb3 HEQ HLJ hlt hj
          go_wp2_with fail
          refine C3.out.mono ?_
          rintro x w13 ⟨rfl, h13⟩
          have H13 := Lib.hid h13
          have hk9' := h13.rd.le
          clear h13 C3 HS
          obtain ⟨⟨ls, kx, ex⟩, hLs⟩ : ∃ r, sLs lb = r := ⟨_, rfl⟩
          have hLs' : (ls, kx, ex) = decL lb cln k9 e9 := by rw [← hLs]; unfold sLs; rw [HsCl.out, Int.toNat_natCast]
          have HsLs := Lib.hid hLs
          have HLs' := Lib.hid hLs'
          clear hLs hLs'
          go_wp2_with fail
          go_loopw [7, 83] (fun _ j wr => ∃ (jn : Nat) (lv : Value) (Lj : List Ls) (kj : Nat) (ej : Int), j = .int .u64 (jn : Int) ∧ jn ≤ cln ∧ Lj.length = jn ∧ SD w g gr gs (gs + 1) (some ⟨b, off, none⟩) c lb wr i t sn ns lim nxt hv hs lv Lj kj ej ∧ (ls, kx, ex) = (Lj ++ (decL lb (cln - jn) kj ej).1, (decL lb (cln - jn) kj ej).2)) (fun _ j _ => cln - (intOf j).toNat)
          case atStart => exact ⟨0, _, [], k9, e9, rfl, by omega, rfl, H13.out, by rw [HLs'.out]; simp⟩
          case round =>
            clear H13
            obtain ⟨jn, lv, Lj, kj, ej, rfl, hj, hlj, hst, heq⟩ := hrel
            have HS := Lib.hid hst
            have HEQ := Lib.hid heq
            have HLJ := Lib.hid hlj
            clear hst heq hlj
            by_cases hlt : jn < cln
            · obtain ⟨⟨a1, ka, ea⟩, ra⟩ : ∃ r, rnum lb kj ej 65535 = r := ⟨_, rfl⟩
              obtain ⟨⟨b1, kb, eb⟩, rb⟩ : ∃ r, rnum lb ka ea 18446744073709551615 = r := ⟨_, rfl⟩
              obtain ⟨⟨c1, kc, ec⟩, rc⟩ : ∃ r, rnum lb kb eb 18446744073709551615 = r := ⟨_, rfl⟩
              obtain ⟨⟨d1, kd, ed⟩, rd⟩ : ∃ r, rnum lb kc ec 65535 = r := ⟨_, rfl⟩
              obtain ⟨⟨f1, kf, ef⟩, rf⟩ : ∃ r, rnum lb kd ed 65535 = r := ⟨_, rfl⟩
              obtain ⟨⟨g1, kg, eg⟩, rg⟩ : ∃ r, rnum lb kf ef 18446744073709551615 = r := ⟨_, rfl⟩
              have HD7 : Hid (decL lb (cln - jn) kj ej = (⟨a1, b1, c1, d1, f1, g1⟩ :: (decL lb (cln - jn - 1) kg eg).1, (decL lb (cln - jn - 1) kg eg).2)) := by
                show _ = _
                obtain ⟨y, hy⟩ : ∃ y, cln - jn = y + 1 := ⟨cln - jn - 1, by omega⟩
                have hd : dLs lb kj ej = (⟨a1, b1, c1, d1, f1, g1⟩, kg, eg) := by
                  unfold dLs
                  simp only [ra, rb, rc, rd, rf, rg]
                rw [hy, Nat.add_sub_cancel]
                simp only [decL, hd]
              have RA := Lib.hid ra
              have RB := Lib.hid rb
              have RC' := Lib.hid rc
              have RDD := Lib.hid rd
              have RF := Lib.hid rf
              have RG := Lib.hid rg
              clear ra rb rc rd rf rg
              have Y0 := HS.out.small ORD.out HI.out
              rw [RA.out] at Y0
              simp only at Y0
              have Y0 := Lib.hid Y0
              go_wp2_with fail
              refine Y0.out.mono ?_
              rintro x q1 ⟨rfl, hq1⟩
              have Y1 := hq1.wide ORD.out HI.out
              rw [RB.out] at Y1
              simp only at Y1
              have Y1 := Lib.hid Y1
              clear hq1 Y0 HS
              go_wp2_with fail
              refine Y1.out.mono ?_
              rintro x q2 ⟨rfl, hq2⟩
              have Y2 := hq2.wide ORD.out HI.out
              rw [RC'.out] at Y2
              simp only at Y2
              have Y2 := Lib.hid Y2
              clear hq2 Y1
              go_wp2_with fail
              refine Y2.out.mono ?_
              rintro x q3 ⟨rfl, hq3⟩
              obtain ⟨gx, hgx⟩ : ∃ gx, q3.heap.size = gx := ⟨_, rfl⟩
              have hBx : gs + 1 ≤ gx := hgx ▸ hq3.sz
              have hxne : gx ≠ gr := by have := ORD.out.h2; omega
              have N1 : Hid (sn.ownBlock ≠ some gx) := fun hh => by have := (World.ownsRow.lt hq3.on gx hh).2; omega
              have N2 : Hid (hv.ownBlock ≠ some gx) := fun hh => by have := (World.ownsRow.lt hq3.oh gx hh).2; omega
              have N3 : Hid (lv.ownBlock ≠ some gx) := fun hh => by have := (World.ownsRow.lt hq3.ol gx hh).2; omega
              have hx4 : Blk (q3.alloc (.cells (lsA ⟨a1, b1, c1, 0, 0, 0⟩) 123)) gx 123 (lsA ⟨a1, b1, c1, 0, 0, 0⟩) := hgx ▸ Blk.new _ _ _
              have h4 := hq3.alloc ORD.out (.cells (lsA ⟨a1, b1, c1, 0, 0, 0⟩) 123)
              clear hq3 Y2
              go_upto_region 22 with (fail)
              change Code.wp _ _ _ _ (q3.alloc (.cells (lsA ⟨a1, b1, c1, 0, 0, 0⟩) 123))
              generalize q3.alloc (.cells (lsA ⟨a1, b1, c1, 0, 0, 0⟩) 123) = Q4 at hx4 h4 ⊢
              try rw [hgx]
              clear hgx
              have Y3 := h4.smallB ORD.out HI.out hx4 hxne
              rw [RDD.out] at Y3
              simp only at Y3
              have Y3 := Lib.hid Y3
              clear h4 hx4
              go_wp2_with fail
              refine Y3.out.mono ?_
              rintro x q5 ⟨rfl, hq5, hx5⟩
              have Y4 := hq5.smallB ORD.out HI.out hx5 hxne
              rw [RF.out] at Y4
              simp only at Y4
              have Y4 := Lib.hid Y4
              clear hq5 hx5 Y3
              go_wp2_with fail
              refine Y4.out.mono ?_
              rintro x q6 ⟨rfl, hq6, hx6⟩
              have Y5 := hq6.wideB ORD.out HI.out hx6 hxne
              rw [RG.out] at Y5
              simp only at Y5
              have Y5 := Lib.hid Y5
              clear hq6 hx6 Y4
              go_wp2_with fail
              refine Y5.out.mono ?_
              rintro x q7 ⟨rfl, hq7, hx7⟩
              have x3 : q7.cell? ⟨gx, 3, none⟩ = some (.int .i64 0) := (hx7.cell 3).trans rfl
              have x4 : q7.cell? ⟨gx, 4, none⟩ = some (.int .i64 0) := (hx7.cell 4).trans rfl
              have x5 : q7.cell? ⟨gx, 5, none⟩ = some (.int .u64 0) := (hx7.cell 5).trans rfl
              have y3 := hx7.frozen 3
              have y4 := hx7.frozen 4
              have y5 := hx7.frozen 5
              have hx8 : Blk (((q7.setCell ⟨gx, 3, none⟩ (.int .i64 d1)).setCell ⟨gx, 4, none⟩ (.int .i64 f1)).setCell ⟨gx, 5, none⟩ (.int .u64 g1)) gx 123 (lsA ⟨a1, b1, c1, d1, f1, g1⟩) := ((Blk.setL (l := [Value.int .i64 a1, .int .u64 b1, .int .u64 c1, .int .i64 0, .int .i64 0, .int .u64 0]) hx7 3 _).setL 4 _).setL 5 _
              have h8 := ((hq7.setX ORD.out hBx N1.out N2.out N3.out 3 (.int .i64 d1)).setX ORD.out hBx N1.out N2.out N3.out 4 (.int .i64 f1)).setX ORD.out hBx N1.out N2.out N3.out 5 (.int .u64 g1)
              clear hq7 hx7 Y5
              go_upto_region 23 with (fail)
              change Code.wp _ _ _ _ (((q7.setCell ⟨gx, 3, none⟩ (.int .i64 d1)).setCell ⟨gx, 4, none⟩ (.int .i64 f1)).setCell ⟨gx, 5, none⟩ (.int .u64 g1))
              generalize (((q7.setCell ⟨gx, 3, none⟩ (.int .i64 d1)).setCell ⟨gx, 4, none⟩ (.int .i64 f1)).setCell ⟨gx, 5, none⟩ (.int .u64 g1)) = Q8 at hx8 h8 ⊢
              clear x3 x4 x5 y3 y4 y5
              have H8 := Lib.hid h8
              have v0 : Q8.cell? ⟨gx, 0, none⟩ = some (.int .i64 a1) := (hx8.cell 0).trans rfl
              have v1 : Q8.cell? ⟨gx, 1, none⟩ = some (.int .u64 b1) := (hx8.cell 1).trans rfl
              have v2 : Q8.cell? ⟨gx, 2, none⟩ = some (.int .u64 c1) := (hx8.cell 2).trans rfl
              have v3 : Q8.cell? ⟨gx, 3, none⟩ = some (.int .i64 d1) := (hx8.cell 3).trans rfl
              have v4 : Q8.cell? ⟨gx, 4, none⟩ = some (.int .i64 f1) := (hx8.cell 4).trans rfl
              have v5 : Q8.cell? ⟨gx, 5, none⟩ = some (.int .u64 g1) := (hx8.cell 5).trans rfl
              have z6 := h8.cm.sh.z6
              have hl8 := h8.cm.lt
              have z6a : ∀ o, (Q8.drew.alloc o).cell? ⟨gs, 6, none⟩ = some lv := fun o => (World.cell?_alloc_lt Q8.drew o ⟨gs, 6, none⟩ hl8).trans z6
              clear h8 hx8
              go_wp2_with fail
              go_region_law (first
                | (refine step_oneL (W := Q8.drew) (gs + 1) rfl _ _ rfl _ Lj ⟨a1, b1, c1, d1, f1, g1⟩ rfl rfl rfl H8.out.drew.ol H8.out.sz (by have := HLJ.out; omega) ?_; intro v9 w9 ho9 hg9; have H9 := Lib.hid ho9; have HG9 := Lib.hid hg9; have b29 := H8.out.drew.cm.grown hg9 (fun hh => by have := own_base H8.out.ol _ hh.symm; omega); have c29 := b29.sh.z6; have f29 := b29.frozen 6; obtain ⟨A9, c9, rfl⟩ := own_slice ho9; clear b29 ho9 hg9)
                | fail)
              all_goals
                go_wp2
                go_roundw
                case rel => exact ⟨jn + 1, _, Lj ++ [⟨a1, b1, c1, d1, f1, g1⟩], kg, eg, by go_num, by omega, by have := HLJ.out; simp; omega, H8.out.drew.appL ORD.out HG9.out (by have := H9.out; rw [List.length_append] at this ⊢; exact this), by rw [HEQ.out, HD7.out, show cln - (jn + 1) = cln - jn - 1 by omega]; simp⟩
                case measure => simp [intOf]; omega
            · obtain rfl : cln = jn := by omega
              have hfin := HEQ.out
              rw [Nat.sub_self] at hfin
              simp only [decL, List.append_nil, Prod.mk.injEq] at hfin
              obtain ⟨rfl, rfl, rfl⟩ := hfin
              have hns := decNodes_mem hbyt cn k3 e3 hk3
              rw [← HN'.out] at hns
              have hhs := decH_mem hbyt chn k7 e7 hk7
              rw [← HH'.out] at hhs
              have hls := decL_mem hbyt cln k9 e9 hk9'
              rw [← HLs'.out] at hls
              obtain ⟨hnl, hnz, -⟩ := hns
              obtain ⟨hhl, hhw, -⟩ := hhs
              obtain ⟨hll, hlw, -⟩ := hls
              simp only at hnl hnz hhl hhw hll hlw
              have hnL : ns.length ≤ 64 := by omega
              have hhL : hs.length ≤ 64 := by omega
              have hlL : ls.length ≤ 64 := by omega
              clear hnl hhl hll
              have HWN : Hid (Wfs .i64 ns) := fun z hz => wf_small (hnz z hz).1 (hnz z hz).2
              have HWH := Lib.hid hhw
              have HWL := Lib.hid hlw
              obtain ⟨B0, b0, rfl, _⟩ := InN.own (k := .i64) HS.out.on HWN.out (by omega)
              obtain ⟨B1, b1, rfl, _⟩ := InS.own (f := hdC) HS.out.oh (by omega)
              obtain ⟨B2, b2, rfl, _⟩ := InS.own (f := lsC) HS.out.ol (by omega)
              have hse : sE1 lb = if ex = 0 ∧ kx < lb.length then 11 else ex := by unfold sE1; rw [HsLs.out]
              have HSE := Lib.hid hse
              have HE3 : Hid (E = if sE1 lb = 0 then errShot (decide (ShotOk i t ns lim nxt hs ls)) else sE1 lb) := by
                show _ = _
                rw [HE2.out, HsI.out, HsT.out, HsN.out, HsL.out, HsX.out, HsH.out, HsLs.out]
              have CK := Lib.hid (fun W h1 h2 h3 => shot_Check_any W i t B0 b0 ns lim nxt B1 b1 hs B2 b2 ls h1 h2 h3 HWH.out HWL.out HNX.out)
              have HF : Hid (∀ x : Ending, x = .returned (.tuple #[.agg #[.int .u64 i, .int .u64 t, .slice B0 ns.length b0, .int .i64 lim, .int .u64 nxt, .slice B1 hs.length b1, .slice B2 ls.length b2], .int .i64 0]) →
                  x = .returned (.tuple #[.agg #[.int .u64 (sI lb).1, .int .u64 (sT lb).1, .slice B0 (sNs lb).1.length b0, .int .i64 (sLim lb).1, .int .u64 (sNxt lb).1, .slice B1 (sHs lb).1.length b1, .slice B2 (sLs lb).1.length b2], .int .i64 0])) := by
                show ∀ x : Ending, _
                rw [HsI.out, HsT.out, HsN.out, HsL.out, HsX.out, HsH.out, HsLs.out]
                exact fun _ hx => hx
              clear hse hnz hhw hlw HE2 hlt hj HLJ HEQ
              obtain ⟨A9, c9, hbR, _, hk9, hc9⟩ := HS.out.rd
              obtain ⟨m, hm⟩ : ∃ m, lb.length - kx = m := ⟨_, rfl⟩
              rw [hm] at hbR
              have r0 : wr.cell? ⟨gr, 0, none⟩ = some (.slice A9 m c9) := (hbR.cell 0).trans rfl
              have r1 : wr.cell? ⟨gr, 1, none⟩ = some (.int .i64 ex) := (hbR.cell 1).trans rfl
              have fr := hbR.frozen 1
              have o1 := ORD.out.h1
              have o2 := ORD.out.h2
              have hn1 : gr ≠ g := by omega
              have hn2 : gs ≠ g := by omega
              have hn3 : g ≠ gr := by omega
              have hn4 : g ≠ gs := by omega
              clear hbR
              by_cases he : ex = 0
              rotate_left
              · have HV : Hid (E = ex) := by
                  show _ = _
                  have hs1 : sE1 lb = ex := by rw [HSE.out, if_neg (fun hh => he hh.1)]
                  rw [HE3.out, hs1, if_neg he]
                have HNE := Lib.hid he
                have d1 : (ex == 0) = false := beq_eq_false_iff_ne.2 he
                have d2 : (ex != 0) = true := bne_iff_ne.2 he
                clear he
                obtain ⟨q0, q1, q2, q3, q4, q5, q6⟩ := HS.out.res.sh
                have y0 := HS.out.res.frozen 0
                have y1 := HS.out.res.frozen 1
                have y2 := HS.out.res.frozen 2
                have y3 := HS.out.res.frozen 3
                have y4 := HS.out.res.frozen 4
                have y5 := HS.out.res.frozen 5
                have y6 := HS.out.res.frozen 6
                go_wp2_with fail
                go_region_held3 (fun w' => w'.cell? ⟨gr, 1, none⟩ = some (.int .i64 ex)) (go_keep) (fail)
                all_goals go_wp2
                have hrF := (Blk.set7 HS.out.res (.int .u64 0) (.int .u64 0) (.slice none 0 0) (.int .i64 0) (.int .u64 0) (.slice none 0 0) (.slice none 0 0)).drew
                refine bodyPost_ret (results_cell2 rfl rfl (run_loadVar_row _ _ _ _ _ (0, 0) _ hrF Try.underlying29 rfl info_Shot)) rfl ?_
                refine ⟨(HSET.out _ _ _ (HSET.out _ _ _ (HSET.out _ _ _ (HSET.out _ _ _ (HSET.out _ _ _ (HSET.out _ _ _ (HSET.out _ _ _ HS.out.bel))))))).drew, .inr ⟨?_, ?_⟩⟩
                · rw [HV.out]
                  exact HNE.out
                · rw [HV.out]
                  rfl
              subst he
              by_cases hmm : m = 0
              rotate_left
              · have HV : Hid (E = 11) := by
                  show _ = _
                  have hs1 : sE1 lb = 11 := by rw [HSE.out, if_pos (show (0 : Int) = 0 ∧ kx < lb.length from ⟨rfl, by omega⟩)]
                  rw [HE3.out, hs1, if_neg (by decide)]
                have d1 : decide ((0 : Int) < (m : Int)) = true := decide_eq_true (by omega)
                have HS2 := Lib.hid (HS.out.err ORD.out 11)
                go_upto_region 27 with (fail)
                change Code.wp _ _ _ _ (wr.setCell ⟨gr, 1, none⟩ (.int .i64 11))
                generalize wr.setCell ⟨gr, 1, none⟩ (.int .i64 11) = W20 at HS2 ⊢
                clear r0 r1 fr hmm d1
                obtain ⟨A8, c8, hbR, _, _, _⟩ := HS2.out.rd
                have r1 : W20.cell? ⟨gr, 1, none⟩ = some (.int .i64 11) := (hbR.cell 1).trans rfl
                clear hbR
                obtain ⟨q0, q1, q2, q3, q4, q5, q6⟩ := HS2.out.res.sh
                have y0 := HS2.out.res.frozen 0
                have y1 := HS2.out.res.frozen 1
                have y2 := HS2.out.res.frozen 2
                have y3 := HS2.out.res.frozen 3
                have y4 := HS2.out.res.frozen 4
                have y5 := HS2.out.res.frozen 5
                have y6 := HS2.out.res.frozen 6
                go_wp2_with fail
                go_region_held3 (fun w' => w'.cell? ⟨gr, 1, none⟩ = some (.int .i64 11)) (go_keep) (fail)
                all_goals go_wp2
                have hrF := (Blk.set7 HS2.out.res (.int .u64 0) (.int .u64 0) (.slice none 0 0) (.int .i64 0) (.int .u64 0) (.slice none 0 0) (.slice none 0 0)).drew
                refine bodyPost_ret (results_cell2 rfl rfl (run_loadVar_row _ _ _ _ _ (0, 0) _ hrF Try.underlying29 rfl info_Shot)) rfl ?_
                refine ⟨(HSET.out _ _ _ (HSET.out _ _ _ (HSET.out _ _ _ (HSET.out _ _ _ (HSET.out _ _ _ (HSET.out _ _ _ (HSET.out _ _ _ HS2.out.bel))))))).drew, .inr ⟨?_, ?_⟩⟩
                · rw [HV.out]
                  decide
                · rw [HV.out]
                  rfl
              have HV : Hid (E = errShot (decide (ShotOk i t ns lim nxt hs ls))) := by
                show _ = _
                have hs1 : sE1 lb = 0 := by rw [HSE.out, if_neg (show ¬ ((0 : Int) = 0 ∧ kx < lb.length) from fun hh => by omega)]
                rw [HE3.out, hs1, if_pos rfl]
              have d1 : ¬ 0 < m := by omega
              have d3 : decide (0 < m) = false := decide_eq_false d1
              have inn := InN.own_at (k := .i64) HS.out.on HWN.out (by omega)
              have inh := InS.own_at (f := hdC) HS.out.oh (by omega)
              have inl := InS.own_at (f := lsC) HS.out.ol (by omega)
              have XU := CK.out wr inn inh inl
              rw [← HV.out] at XU
              unfold shV at XU
              have X := Lib.hid XU
              clear XU
              obtain ⟨z0, z1, z2, z3, z4, z5, z6⟩ := HS.out.cm.sh
              clear inn inh inl
              go_wp2_with fail
              refine X.out.mono ?_
              rintro x w14 ⟨rfl, hB14⟩
              have h14 := HS.out.below ORD.out hB14
              have HS2 := Lib.hid (h14.err ORD.out E)
              obtain ⟨A8, c8, hbR, _, _, _⟩ := h14.rd
              have e1 : w14.cell? ⟨gr, 1, none⟩ = some (.int .i64 0) := (hbR.cell 1).trans rfl
              have fr2 := hbR.frozen 1
              clear hB14 h14 X hbR z0 z1 z2 z3 z4 z5 z6 r0 r1 fr d1 d3 hmm
              go_upto_region 29 with (fail)
              change Code.wp _ _ _ _ (w14.setCell ⟨gr, 1, none⟩ (.int .i64 E))
              generalize w14.setCell ⟨gr, 1, none⟩ (.int .i64 E) = W20 at HS2 ⊢
              clear e1 fr2
              obtain ⟨A7, c7, hbR, _, _, _⟩ := HS2.out.rd
              have r1 : W20.cell? ⟨gr, 1, none⟩ = some (.int .i64 E) := (hbR.cell 1).trans rfl
              clear hbR
              by_cases hE0 : E = 0
              rotate_left
              · have d2 : (E != 0) = true := bne_iff_ne.2 hE0
                have HNE := Lib.hid hE0
                clear hE0
                obtain ⟨q0, q1, q2, q3, q4, q5, q6⟩ := HS2.out.res.sh
                have y0 := HS2.out.res.frozen 0
                have y1 := HS2.out.res.frozen 1
                have y2 := HS2.out.res.frozen 2
                have y3 := HS2.out.res.frozen 3
                have y4 := HS2.out.res.frozen 4
                have y5 := HS2.out.res.frozen 5
                have y6 := HS2.out.res.frozen 6
                go_wp2_with fail
                go_region_held3 (fun w' => w'.cell? ⟨gr, 1, none⟩ = some (.int .i64 E)) (go_keep) (fail)
                all_goals go_wp2
                have hrF := (Blk.set7 HS2.out.res (.int .u64 0) (.int .u64 0) (.slice none 0 0) (.int .i64 0) (.int .u64 0) (.slice none 0 0) (.slice none 0 0)).drew
                refine bodyPost_ret (results_cell2 rfl rfl (run_loadVar_row _ _ _ _ _ (0, 0) _ hrF Try.underlying29 rfl info_Shot)) rfl ?_
                refine ⟨(HSET.out _ _ _ (HSET.out _ _ _ (HSET.out _ _ _ (HSET.out _ _ _ (HSET.out _ _ _ (HSET.out _ _ _ (HSET.out _ _ _ HS2.out.bel))))))).drew, .inr ⟨?_, ?_⟩⟩
                · exact HNE.out
                · rfl
              have d2 : (E != 0) = false := by simp [hE0]
              have HE0 := Lib.hid hE0
              clear hE0
              obtain ⟨z0, z1, z2, z3, z4, z5, z6⟩ := HS2.out.cm.sh
              obtain ⟨q0, q1, q2, q3, q4, q5, q6⟩ := HS2.out.res.sh
              have y0 := HS2.out.res.frozen 0
              have y1 := HS2.out.res.frozen 1
              have y2 := HS2.out.res.frozen 2
              have y3 := HS2.out.res.frozen 3
              have y4 := HS2.out.res.frozen 4
              have y5 := HS2.out.res.frozen 5
              have y6 := HS2.out.res.frozen 6
              have hG7 := grown_set7 W20 g (.int .u64 i) (.int .u64 t) (.slice B0 ns.length b0) (.int .i64 lim) (.int .u64 nxt) (.slice B1 hs.length b1) (.slice B2 ls.length b2)
              have ogs : g < gs + 1 := by omega
              have lN : ns.length ≤ 140737488355328 := by omega
              have lH : hs.length * (8 * 5) ≤ 140737488355328 := by omega
              have lL : ls.length * (8 * 6) ≤ 140737488355328 := by omega
              have Kon := Lib.hid (InN.own_at (k := .i64) (kept_gr HS2.out.on hG7 ogs) HWN.out lN)
              have Koh := Lib.hid (InS.own_at (f := hdC) (kept_gr HS2.out.oh hG7 ogs) lH)
              have Kol := Lib.hid (InS.own_at (f := lsC) (kept_gr HS2.out.ol hG7 ogs) lL)
              clear hG7 lN lH lL
              go_wp2
              have hrF := Blk.set7 HS2.out.res (.int .u64 i) (.int .u64 t) (.slice B0 ns.length b0) (.int .i64 lim) (.int .u64 nxt) (.slice B1 hs.length b1) (.slice B2 ls.length b2)
              refine bodyPost_ret (results_cell2 rfl rfl (run_loadVar_row _ _ _ _ _ (0, 0) _ hrF Try.underlying29 rfl info_Shot)) rfl ?_
              refine And.intro ?_ (Or.inl ?_)
              · exact HSET.out _ _ _ (HSET.out _ _ _ (HSET.out _ _ _ (HSET.out _ _ _ (HSET.out _ _ _ (HSET.out _ _ _ (HSET.out _ _ _ HS2.out.bel))))))
              refine And.intro HE0.out ?_
              refine ⟨B0, b0, B1, b1, B2, b2, ?_⟩
              refine And.intro ?_ (And.intro ?_ (And.intro ?_ (And.intro ?_ (And.intro ?_ (And.intro ?_ ?_)))))
              · refine HF.out _ ?_
                refine congrArg Ending.returned ?_
                rfl
              · rw [HsN.out]
                exact Kon.out
              · rw [HsH.out]
                exact Koh.out
              · rw [HsLs.out]
                exact Kol.out
              · rw [HsN.out]
                intro b hb
                have := (World.ownsRow.lt HS2.out.on b hb).1
                omega
              · rw [HsH.out]
                intro b hb
                have := (World.ownsRow.lt HS2.out.oh b hb).1
                omega
              · rw [HsLs.out]
                intro b hb
                have := (World.ownsRow.lt HS2.out.ol b hb).1
                omega
theorem shot_Decode_walk (w : World) (A : Option Addr) (c : Nat) (lb : List Int) (h : In8 w A c lb) :
    Calls Try.prog 57 #[.slice A lb.length c] w fun x w' => Below w.heap.size w w' ∧
      ((sE lb = 0 ∧ ∃ A0 c0 A1 c1 A2 c2, x = .returned (.tuple #[shV (sI lb).1 (sT lb).1 (.slice A0 (sNs lb).1.length c0) (sLim lb).1 (sNxt lb).1 (.slice A1 (sHs lb).1.length c1) (.slice A2 (sLs lb).1.length c2), .int .i64 0]) ∧ InN .i64 w' A0 c0 (sNs lb).1 ∧ InS hdC 5 w' A1 c1 (sHs lb).1 ∧ InS lsC 6 w' A2 c2 (sLs lb).1) ∨
       (sE lb ≠ 0 ∧ x = .returned (.tuple #[shV 0 0 (.slice none 0 0) 0 0 (.slice none 0 0) (.slice none 0 0), .int .i64 (sE lb)]))) :=
  (shot_Decode_walk2 w A c lb h).mono fun _ _ ⟨hB, hx⟩ => ⟨hB, hx.elim (fun ⟨h0, A0, c0, A1, c1, A2, c2, h1, h2, h3, h4, _⟩ => .inl ⟨h0, A0, c0, A1, c1, A2, c2, h1, h2, h3, h4⟩) .inr⟩
end Go.Proofs.Ytadkkhbbempaaaa

/- Plain laws of layer 1: a number is read as what it was; what was read is written so again; what was cut is none; the order. -/
namespace Go.Proofs.Ytadkkhbbempaaaa
set_option maxRecDepth 100000
open Go.RowKit

theorem getD_cons_zero (x : Int) (l : List Int) : (x :: l).getD 0 0 = x := rfl
/-- The first byte of a number that is not 0 is not 0. -/
theorem be_head (n : Nat) (h0 : n ≠ 0) (h : n < 18446744073709551616) : (be n).getD 0 0 ≠ 0 ∧ 1 ≤ blen 8 n := by
  obtain ⟨h1, h2⟩ := blen_ge 8 n h0 (by simpa using h)
  have h3 := blen_lt 8 n (by simpa using h)
  obtain ⟨k, hk⟩ : ∃ k, blen 8 n = k + 1 := ⟨blen 8 n - 1, by omega⟩
  unfold be
  rw [hk] at h2 h3 ⊢
  simp only [Nat.add_sub_cancel] at h2
  refine ⟨?_, by omega⟩
  have : 1 ≤ n / 256 ^ k := by
    rw [Nat.le_div_iff_mul_le (Nat.pow_pos (by omega))]; omega
  have h4 : n / 256 ^ k < 256 := by
    rw [Nat.div_lt_iff_lt_mul (Nat.pow_pos (by omega))]
    rw [Nat.pow_succ] at h3; omega
  show ((n / 256 ^ k % 256 : Nat) : Int) ≠ 0
  omega

/-- P1.5: read as what it was, whatever stands behind it. -/
theorem readN_numB (n : Nat) (h : n < 18446744073709551616) (l : List Int) : readN (numB n ++ l) = ((n : Int), ((numB n).length : Int), 0) := by
  have hl := numB_length n
  have h8 := blen_le 8 n
  unfold readN
  have e0 : (numB n ++ l).getD 0 0 = (blen 8 n : Int) := by simp [numB]
  have e1 : (numB n ++ l).tail = be n ++ l := by simp [numB]
  rw [e0, e1, if_neg (by rw [List.length_append, hl]; omega), if_neg (by omega), if_neg (by rw [List.length_append, hl]; omega), if_neg, Int.toNat_natCast]
  · rw [List.take_append_of_le_length (by rw [be_length]; omega), List.take_of_length_le (by rw [be_length]; omega), fold_be n h, hl]
    simp only [Prod.mk.injEq, true_and, and_true]
    omega
  · rintro ⟨hp, hz⟩
    have hn : n ≠ 0 := by
      rintro rfl
      rw [blen_zero] at hp
      omega
    obtain ⟨h1, h2⟩ := be_head n hn h
    apply h1
    rw [← hz]
    have hb : 0 < (be n).length := by rw [be_length]; omega
    simp [numB, List.getElem?_append_left hb, hb]

/-- P1.2: a number's bytes without the last one are short. -/
theorem readN_cut (n : Nat) : (readN ((numB n).take ((numB n).length - 1))).2.2 = 10 := by
  have hl := numB_length n
  have h8 := blen_le 8 n
  rw [hl, Nat.add_sub_cancel]
  rcases Nat.eq_zero_or_pos (blen 8 n) with h0 | h0
  · rw [h0]; simp [readN]
  · have e : (numB n).take (blen 8 n) = (blen 8 n : Int) :: (be n).take (blen 8 n - 1) := by
      obtain ⟨k, hk⟩ : ∃ k, blen 8 n = k + 1 := ⟨blen 8 n - 1, by omega⟩
      unfold numB
      rw [hk]
      simp
    rw [e]
    unfold readN
    have hlen : ((be n).take (blen 8 n - 1)).length = blen 8 n - 1 := by rw [List.length_take, be_length]; omega
    rw [getD_cons_zero, if_neg (by simp), if_neg (by omega), if_pos (by rw [List.length_cons, hlen]; omega)]

/-- P1.5: what is read is written as these bytes. -/
theorem numB_readN (l : List Int) (hl : Byt l) (h : (readN l).2.2 = 0) : numB (readN l).1.toNat = l.take (readN l).2.1.toNat ∧ (readN l).2.1.toNat ≤ l.length := by
  unfold readN at h ⊢
  by_cases h0 : l.length = 0
  · rw [if_pos h0] at h; simp at h
  rw [if_neg h0] at h ⊢
  by_cases h8 : l.getD 0 0 > 8
  · rw [if_pos h8] at h; simp at h
  rw [if_neg h8] at h ⊢
  by_cases hs : (l.length : Int) < 1 + l.getD 0 0
  · rw [if_pos hs] at h; simp at h
  rw [if_neg hs] at h ⊢
  by_cases hz : 1 + l.getD 0 0 > 1 ∧ l.getD 1 0 = 0
  · rw [if_pos hz] at h; simp at h
  rw [if_neg hz]
  cases l with
  | nil => simp at h0
  | cons x t =>
    rw [getD_cons_zero] at *
    have hx := hl x List.mem_cons_self
    have ht : Byt t := fun y hy => hl y (List.mem_cons_of_mem _ hy)
    obtain ⟨m, rfl⟩ := Int.eq_ofNat_of_zero_le hx.1
    simp only [List.tail_cons, Int.toNat_natCast, List.length_cons] at *
    have e1 : (1 + (m : Int)).toNat = m + 1 := by omega
    rw [e1, List.take_succ_cons]
    refine ⟨?_, by omega⟩
    have hd : (t.take m).length = m := by rw [List.length_take]; omega
    have hb := ht.take m
    have hf := fold_lt _ hb
    rw [hd] at hf
    have hble : blen 8 (fold (t.take m)) = m := by
      rcases Nat.eq_zero_or_pos m with hm | hm
      · subst hm; simp [fold_nil, blen_zero]
      · cases t with
        | nil => simp at hs; omega
        | cons y u =>
          have hy0 : y ≠ 0 := by
            intro e
            apply hz
            exact ⟨by omega, by simpa using e⟩
          have hy := ht y List.mem_cons_self
          obtain ⟨k, rfl⟩ : ∃ k, m = k + 1 := ⟨m - 1, by omega⟩
          rw [List.take_succ_cons] at hf hd ⊢
          have hge : 256 ^ k ≤ fold (y :: u.take k) := by
            rw [fold_cons]
            have hk : (u.take k).length = k := by simpa using hd
            rw [hk]
            have := Nat.mul_le_mul_right (256 ^ k) (show 1 ≤ y.toNat by omega)
            omega
          have h256 : fold (y :: u.take k) < 256 ^ 8 := Nat.lt_of_lt_of_le hf (Nat.pow_le_pow_right (by omega) (by omega))
          have hne : fold (y :: u.take k) ≠ 0 := by have := Nat.pow_pos (n := k) (show 0 < 256 by omega); omega
          obtain ⟨a1, a2⟩ := blen_ge 8 _ hne h256
          have a3 := blen_lt 8 _ h256
          have b1 : blen 8 (fold (y :: u.take k)) < k + 2 := by
            rcases Nat.lt_or_ge (blen 8 (fold (y :: u.take k))) (k + 2) with q | q
            · exact q
            · have := Nat.pow_le_pow_right (show 0 < 256 by omega) (show k + 1 ≤ blen 8 (fold (y :: u.take k)) - 1 by omega)
              omega
          have b2 : k < blen 8 (fold (y :: u.take k)) := by
            rcases Nat.lt_or_ge k (blen 8 (fold (y :: u.take k))) with q | q
            · exact q
            · have := Nat.pow_le_pow_right (show 0 < 256 by omega) q
              omega
          omega
    unfold numB be
    rw [hble]
    congr 1
    have := digs_fold (t.take m) hb
    rw [hd] at this
    exact this

/-- Bytes as the model orders them. -/
def lexB : List Int → List Int → Bool
  | _, [] => false
  | [], _ :: _ => true
  | a :: x, b :: y => decide (a < b) || (a == b && lexB x y)
theorem lexB_irrefl (l : List Int) : lexB l l = false := by
  induction l with
  | nil => rfl
  | cons x t ih => simp [lexB, ih]
theorem two_digits (q a b c d : Nat) (hc : c < q) (hd : d < q) : (decide ((a : Int) < b) || ((a : Int) == b && decide (c < d))) = decide (q * a + c < q * b + d) := by
  rw [Bool.eq_iff_iff]
  simp only [Bool.or_eq_true, Bool.and_eq_true, decide_eq_true_eq, beq_iff_eq]
  constructor
  · rintro (h | ⟨h1, h2⟩)
    · have := Nat.mul_le_mul_left q (show a + 1 ≤ b by omega)
      rw [Nat.mul_add] at this
      omega
    · have : a = b := by omega
      subst this; omega
  · intro h
    rcases Nat.lt_trichotomy a b with h1 | h1 | h1
    · left; omega
    · subst h1; right; exact ⟨rfl, by omega⟩
    · have := Nat.mul_le_mul_left q (show b + 1 ≤ a by omega)
      rw [Nat.mul_add] at this
      omega
theorem digs_lex (k n m : Nat) (hn : n < 256 ^ k) (hm : m < 256 ^ k) : lexB (digs n k) (digs m k) = decide (n < m) := by
  induction k generalizing n m with
  | zero => simp at hn hm; subst hn; subst hm; rfl
  | succ k ih =>
    have hp : 0 < 256 ^ k := Nat.pow_pos (by omega)
    have low : ∀ j x, j ≤ k → digs (x % 256 ^ k) j = digs x j := by
      intro j x hj
      induction j with
      | zero => rfl
      | succ j ihj =>
        simp only [digs]
        rw [ihj (by omega)]
        congr 2
        have e : 256 ^ k = 256 ^ j * (256 * 256 ^ (k - j - 1)) := by
          rw [Nat.mul_comm 256, ← Nat.pow_succ, ← Nat.pow_add]; congr 1; omega
        rw [e, Nat.mod_mul_right_div_self, Nat.mod_mul_right_mod]
    simp only [digs, lexB]
    have hn1 : n / 256 ^ k < 256 := by rw [Nat.div_lt_iff_lt_mul hp, Nat.mul_comm]; rwa [Nat.pow_succ] at hn
    have hm1 : m / 256 ^ k < 256 := by rw [Nat.div_lt_iff_lt_mul hp, Nat.mul_comm]; rwa [Nat.pow_succ] at hm
    rw [Nat.mod_eq_of_lt hn1, Nat.mod_eq_of_lt hm1, ← low k n (Nat.le_refl _), ← low k m (Nat.le_refl _), ih _ _ (Nat.mod_lt _ hp) (Nat.mod_lt _ hp)]
    rw [two_digits (256 ^ k) (n / 256 ^ k) (m / 256 ^ k) _ _ (Nat.mod_lt n hp) (Nat.mod_lt m hp), Nat.div_add_mod, Nat.div_add_mod]
/-- P1.1: the lesser number's bytes stand ahead. -/
theorem numB_lex (n m : Nat) (hn : n < 18446744073709551616) (hm : m < 18446744073709551616) : lexB (numB n) (numB m) = decide (n < m) := by
  have an := blen_lt 8 n (by simpa using hn)
  have am := blen_lt 8 m (by simpa using hm)
  have key : ∀ x y : Nat, x < 18446744073709551616 → y < 18446744073709551616 → blen 8 x < blen 8 y → x < y := by
    intro x y hx hy h
    have ax := blen_lt 8 x (by simpa using hx)
    have y0 : y ≠ 0 := by rintro rfl; rw [blen_zero] at h; omega
    have ay := (blen_ge 8 y y0 (by simpa using hy)).2
    have := Nat.pow_le_pow_right (show 0 < 256 by omega) (show blen 8 x ≤ blen 8 y - 1 by omega)
    omega
  unfold numB be
  simp only [lexB]
  rcases Nat.lt_trichotomy (blen 8 n) (blen 8 m) with h | h | h
  · have := key n m hn hm h
    have h' : (blen 8 n : Int) < blen 8 m := by omega
    simp [h', this]
  · rw [h]
    rw [h] at an
    simp [digs_lex _ n m an am]
  · have := key m n hm hn h
    have h' : ¬ (blen 8 n : Int) < blen 8 m := by omega
    have h'' : ¬ (blen 8 n : Int) = blen 8 m := by omega
    have h3 : ¬ n < m := by omega
    rw [show ((blen 8 n : Int) == (blen 8 m : Int)) = false from beq_eq_false_iff_ne.2 h'']
    simp [h', h3]
theorem numB_inj (n m : Nat) (hn : n < 18446744073709551616) (hm : m < 18446744073709551616) (h : numB n = numB m) : n = m := by
  have h1 := numB_lex n m hn hm
  have h2 := numB_lex m n hm hn
  rw [h, lexB_irrefl] at h1
  rw [← h, lexB_irrefl] at h2
  simp at h1 h2
  omega
theorem lexB_bytes (x y : List Int) (hx : Byt x) (hy : Byt y) : Op.bytesLess (strOfNums x).data.toList (strOfNums y).data.toList = lexB x y := by
  rw [strOfNums_data, strOfNums_data]
  induction x generalizing y with
  | nil => cases y <;> rfl
  | cons a s ih =>
    cases y with
    | nil => rfl
    | cons b t =>
      have ha := hx a List.mem_cons_self
      have hb := hy b List.mem_cons_self
      simp only [List.map_cons, Op.bytesLess, lexB]
      rw [ih t (fun z hz => hx z (List.mem_cons_of_mem _ hz)) (fun z hz => hy z (List.mem_cons_of_mem _ hz))]
      have e1 : decide (UInt8.ofNat a.toNat < UInt8.ofNat b.toNat) = decide (a < b) := by
        rw [Bool.eq_iff_iff]
        simp only [decide_eq_true_eq, UInt8.lt_iff_toNat_lt, UInt8.toNat_ofNat']
        omega
      have e2 : (UInt8.ofNat a.toNat == UInt8.ofNat b.toNat) = (a == b) := by
        rw [Bool.eq_iff_iff]
        simp only [beq_iff_eq]
        constructor
        · intro h
          have := congrArg UInt8.toNat h
          simp only [UInt8.toNat_ofNat'] at this
          omega
        · rintro rfl; rfl
      rw [e1, e2]
end Go.Proofs.Ytadkkhbbempaaaa

/- Plain laws of a reader of numbers: a list of numbers with their bounds, read one behind the other. -/
namespace Go.Proofs.Ytadkkhbbempaaaa
set_option maxRecDepth 100000
open Go.RowKit

theorem rnumI_hit {lb : List Int} {k : Nat} {z : Int} {rest : List Int} {most : Int} (h : lb.drop k = numB z.toNat ++ rest) (h0 : 0 ≤ z) (hv : z < 18446744073709551616) (hm : z ≤ most) :
    rnum lb k 0 most = (z, k + (numB z.toNat).length, 0) ∧ lb.drop (k + (numB z.toNat).length) = rest := by
  constructor
  · unfold rnum
    rw [if_neg (by simp), h, readN_numB z.toNat (by omega) rest]
    rw [if_neg (by simp), if_neg (by show ¬ ((z.toNat : Int) > most); omega)]
    simp only [Int.toNat_natCast]
    rw [Int.toNat_of_nonneg h0]
  · rw [← List.drop_drop, h]
    simp
theorem rnum_short {lb : List Int} {k v : Nat} {most : Int} (h : lb.drop k = (numB v).take ((numB v).length - 1)) : (rnum lb k 0 most).2.2 = 10 := by
  have h10 := readN_cut v
  rw [← h] at h10
  unfold rnum
  rw [if_neg (by simp), if_pos (by rw [h10]; decide)]
  exact h10
theorem rnum_back {lb : List Int} (hb : Byt lb) {k : Nat} (hk : k ≤ lb.length) {e most : Int} (hm : 0 ≤ most) (h : (rnum lb k e most).2.2 = 0) :
    e = 0 ∧ lb.take (rnum lb k e most).2.1 = lb.take k ++ numB (rnum lb k e most).1.toNat ∧ (rnum lb k e most).2.1 ≤ lb.length := by
  have hle := (rnum_le hb hk e hm).2.2.1
  by_cases he : e = 0
  · refine ⟨he, ?_, hle⟩
    subst he
    unfold rnum at h ⊢
    rw [if_neg (by simp)] at h ⊢
    by_cases h2 : (readN (lb.drop k)).2.2 ≠ 0
    · rw [if_pos h2] at h
      exact absurd h h2
    rw [if_neg h2] at h ⊢
    by_cases h3 : (readN (lb.drop k)).1 > most
    · rw [if_pos h3] at h
      simp at h
    rw [if_neg h3]
    obtain ⟨n1, n2⟩ := numB_readN (lb.drop k) (hb.drop k) (by simpa using h2)
    simp only
    rw [n1, List.take_add]
  · rw [rnum_err he] at h
    exact absurd h he
theorem cut_front {a b : List Int} (hb : 1 ≤ b.length) : (a ++ b).take ((a ++ b).length - 1) = a ++ b.take (b.length - 1) := by
  rw [List.length_append, List.take_append, List.take_of_length_le (by omega), show a.length + b.length - 1 - a.length = b.length - 1 by omega]
/-- Numbers, each with its bound. -/
def rnums (lb : List Int) : List Int → Nat → Int → List Int × Nat × Int
  | [], k, e => ([], k, e)
  | m :: ms, k, e => ((rnum lb k e m).1 :: (rnums lb ms (rnum lb k e m).2.1 (rnum lb k e m).2.2).1, (rnums lb ms (rnum lb k e m).2.1 (rnum lb k e m).2.2).2)
theorem rnums_app (lb : List Int) : ∀ (a b : List Int) (k : Nat) (e : Int), rnums lb (a ++ b) k e = ((rnums lb a k e).1 ++ (rnums lb b (rnums lb a k e).2.1 (rnums lb a k e).2.2).1, (rnums lb b (rnums lb a k e).2.1 (rnums lb a k e).2.2).2) := by
  intro a
  induction a with
  | nil => intro b k e; rfl
  | cons m a ih =>
    intro b k e
    rw [List.cons_append]
    simp only [rnums]
    rw [ih b]
    rfl
theorem rnums_err {lb : List Int} {e : Int} (he : e ≠ 0) : ∀ (ms : List Int) (k : Nat), (rnums lb ms k e).2 = (k, e) := by
  intro ms
  induction ms with
  | nil => intro k; rfl
  | cons m ms ih =>
    intro k
    simp only [rnums]
    rw [rnum_err he]
    exact ih k
/-- Numbers that a list of bounds lets in. -/
inductive Fits : List Int → List Int → Prop
  | nil : Fits [] []
  | cons {z m : Int} {l ms : List Int} (h0 : 0 ≤ z) (h1 : z < 18446744073709551616) (h2 : z ≤ m) (h : Fits l ms) : Fits (z :: l) (m :: ms)
theorem Fits.app {a b ma mb : List Int} (h : Fits a ma) (k : Fits b mb) : Fits (a ++ b) (ma ++ mb) := by
  induction h with
  | nil => exact k
  | cons h0 h1 h2 _ ih => exact .cons h0 h1 h2 ih
theorem Fits.rep {l : List Int} {m : Int} (hm : m < 18446744073709551616) (h : ∀ z ∈ l, 0 ≤ z ∧ z ≤ m) : Fits l (List.replicate l.length m) := by
  induction l with
  | nil => exact .nil
  | cons z l ih =>
    have := h z (by simp)
    exact .cons this.1 (by omega) this.2 (ih fun y hy => h y (by simp [hy]))
theorem Fits.flat {α : Type} {f : α → List Int} {ms : List Int} {l : List α} (h : ∀ x ∈ l, Fits (f x) ms) : Fits (l.flatMap f) (List.replicate l.length ms).flatten := by
  induction l with
  | nil => exact .nil
  | cons z l ih =>
    rw [List.flatMap_cons, List.length_cons, List.replicate_succ, List.flatten_cons]
    exact (h z (by simp)).app (ih fun y hy => h y (by simp [hy]))
theorem Fits.len {l ms : List Int} (h : Fits l ms) : l.length = ms.length := by
  induction h with
  | nil => rfl
  | cons _ _ _ _ ih => simp [ih]
theorem rnums_hit {lb : List Int} {l ms : List Int} (hf : Fits l ms) : ∀ (k : Nat) (rest : List Int), lb.drop k = numsB l ++ rest →
    rnums lb ms k 0 = (l, k + (numsB l).length, 0) ∧ lb.drop (k + (numsB l).length) = rest := by
  induction hf with
  | nil => intro k rest h; exact ⟨by simp [rnums, numsB], by simpa [numsB] using h⟩
  | cons h0 h1 h2 _ ih =>
    intro k rest h
    rw [numsB_cons, List.append_assoc] at h
    obtain ⟨a1, a2⟩ := rnumI_hit h h0 h1 h2
    obtain ⟨i1, i2⟩ := ih _ rest a2
    rw [numsB_cons, List.length_append, ← Nat.add_assoc]
    refine ⟨?_, i2⟩
    simp only [rnums]
    rw [a1]
    simp only
    rw [i1]
theorem numsB_pos {l : List Int} (h : 0 < l.length) : 1 ≤ (numsB l).length := by
  cases l with
  | nil => simp at h
  | cons y l =>
    rw [numsB_cons, List.length_append]
    have := numB_pos y.toNat
    omega
theorem rnums_short {lb : List Int} {l ms : List Int} (hf : Fits l ms) : ∀ (k : Nat), 0 < l.length → lb.drop k = (numsB l).take ((numsB l).length - 1) → (rnums lb ms k 0).2.2 = 10 := by
  induction hf with
  | nil => intro k h0; simp at h0
  | @cons z m l ms h0 h1 h2 hf ih =>
    intro k _ h
    simp only [rnums]
    rcases Nat.eq_zero_or_pos l.length with hl0 | hl0
    · have hl : l = [] := List.eq_nil_of_length_eq_zero hl0
      subst hl
      have e1 : numsB [z] = numB z.toNat := by simp [numsB]
      rw [e1] at h
      have h10 := rnum_short (most := m) h
      rw [rnums_err (by rw [h10]; decide)]
      exact h10
    · have hp := numsB_pos hl0
      rw [numsB_cons, cut_front hp] at h
      obtain ⟨a1, a2⟩ := rnumI_hit h h0 h1 h2
      rw [a1]
      exact ih _ hl0 a2
theorem rnums_back {lb : List Int} (hb : Byt lb) : ∀ (ms : List Int) (k : Nat) (e : Int), (∀ m ∈ ms, 0 ≤ m) → k ≤ lb.length → (rnums lb ms k e).2.2 = 0 →
    e = 0 ∧ lb.take (rnums lb ms k e).2.1 = lb.take k ++ numsB (rnums lb ms k e).1 ∧ (rnums lb ms k e).2.1 ≤ lb.length := by
  intro ms
  induction ms with
  | nil => intro k e _ hk h; exact ⟨h, by simp [rnums, numsB], hk⟩
  | cons m ms ih =>
    intro k e hm hk h
    have hm0 := hm m (by simp)
    obtain ⟨i1, i2, i3⟩ := ih (rnum lb k e m).2.1 (rnum lb k e m).2.2 (fun y hy => hm y (by simp [hy])) ((rnum_le hb hk e hm0).2.2.1) h
    obtain ⟨r1, r2, r3⟩ := rnum_back hb hk hm0 i1
    refine ⟨r1, ?_, i3⟩
    simp only [rnums]
    rw [i2, r2, numsB_cons, List.append_assoc]
theorem rnums_le {lb : List Int} (hb : Byt lb) : ∀ (ms : List Int) (k : Nat) (e : Int), (∀ m ∈ ms, 0 ≤ m) → k ≤ lb.length → (rnums lb ms k e).2.1 ≤ lb.length := by
  intro ms
  induction ms with
  | nil => intro k e _ hk; exact hk
  | cons m ms ih =>
    intro k e hm hk
    exact ih _ _ (fun y hy => hm y (by simp [hy])) ((rnum_le hb hk e (hm m (by simp))).2.2.1)
/-- A number that is read lies within its bound. -/
theorem rnums_fits {lb : List Int} (hb : Byt lb) : ∀ (ms : List Int) (k : Nat) (e : Int), (∀ m ∈ ms, 0 ≤ m) → k ≤ lb.length → Fits (rnums lb ms k e).1 ms := by
  intro ms
  induction ms with
  | nil => intro k e _ _; exact .nil
  | cons m ms ih =>
    intro k e hm hk
    obtain ⟨r1, r2, r3, r4⟩ := rnum_le hb hk e (hm m (by simp))
    exact .cons r1 r4 r2 (ih _ _ (fun y hy => hm y (by simp [hy])) r3)
theorem decNodes_rnums (lb : List Int) : ∀ (c k : Nat) (e : Int), rnums lb (List.replicate c 65535) k e = decNodes lb c k e := by
  intro c
  induction c with
  | zero => intro k e; rfl
  | succ c ih =>
    intro k e
    rw [List.replicate_succ]
    simp only [rnums, decNodes]
    rw [ih]
end Go.Proofs.Ytadkkhbbempaaaa

/- Plain laws of commands' bytes: what was written is read as what it was; what is read is written so; what was cut is short. -/
namespace Go.Proofs.Ytadkkhbbempaaaa
set_option maxRecDepth 100000
open Go.RowKit

/-! ### A number that stands there is read -/
theorem rnum_hit {lb : List Int} {k v : Nat} {rest : List Int} {most : Int} (h : lb.drop k = numB v ++ rest) (hv : v < 18446744073709551616) (hm : (v : Int) ≤ most) :
    rnum lb k 0 most = ((v : Int), k + (numB v).length, 0) ∧ lb.drop (k + (numB v).length) = rest := by
  constructor
  · unfold rnum
    rw [if_neg (by simp), h, readN_numB v hv rest]
    rw [if_neg (by simp), if_neg (by show ¬ ((v : Int) > most); omega)]
    simp
  · rw [← List.drop_drop, h]
    simp
theorem decNodes_hit {lb : List Int} : ∀ (l : List Int) (k : Nat) (rest : List Int), lb.drop k = numsB l ++ rest → (∀ z ∈ l, 0 ≤ z ∧ z ≤ 65535) →
    decNodes lb l.length k 0 = (l, k + (numsB l).length, 0) ∧ lb.drop (k + (numsB l).length) = rest := by
  intro l
  induction l with
  | nil => intro k rest h _; exact ⟨by simp [decNodes, numsB], by simpa [numsB] using h⟩
  | cons z l ih =>
    intro k rest h hz
    have hz0 := hz z (by simp)
    rw [numsB_cons, List.append_assoc] at h
    obtain ⟨h1, h2⟩ := rnum_hit (most := 65535) h (by omega) (by omega)
    obtain ⟨i1, i2⟩ := ih _ rest h2 (fun y hy => hz y (by simp [hy]))
    rw [numsB_cons, List.length_append, ← Nat.add_assoc]
    refine ⟨?_, i2⟩
    rw [List.length_cons]
    unfold decNodes
    rw [h1]
    simp only
    rw [i1, Int.toNat_of_nonneg hz0.1]
theorem decNodes_short {lb : List Int} : ∀ (l : List Int) (k : Nat), 0 < l.length → lb.drop k = (numsB l).take ((numsB l).length - 1) → (∀ z ∈ l, 0 ≤ z ∧ z ≤ 65535) → (decNodes lb l.length k 0).2.2 = 10 := by
  intro l
  induction l with
  | nil => intro k h0; simp at h0
  | cons z l ih =>
    intro k _ h hz
    have hz0 := hz z (by simp)
    rw [List.length_cons]
    unfold decNodes
    rcases Nat.eq_zero_or_pos l.length with h0 | h0
    · have hl : l = [] := List.eq_nil_of_length_eq_zero h0
      subst hl
      have e1 : numsB [z] = numB z.toNat := by simp [numsB]
      rw [e1] at h
      have h10 := rnum_short (most := 65535) h
      simp only [decNodes, List.length_nil]
      exact h10
    · have hp : 1 ≤ (numsB l).length := by
        cases l with
        | nil => simp at h0
        | cons y l =>
          rw [numsB_cons, List.length_append]
          have := numB_pos y.toNat
          omega
      have e1 : (numsB (z :: l)).take ((numsB (z :: l)).length - 1) = numB z.toNat ++ (numsB l).take ((numsB l).length - 1) := by
        rw [numsB_cons, List.length_append, List.take_append, List.take_of_length_le (by omega), show (numB z.toNat).length + (numsB l).length - 1 - (numB z.toNat).length = (numsB l).length - 1 by omega]
      rw [e1] at h
      obtain ⟨h1, h2⟩ := rnum_hit (most := 65535) h (by omega) (by omega)
      rw [h1]
      exact ih _ h0 h2 (fun y hy => hz y (by simp [hy]))

/-! ### What was written is read as what it was -/
structure CmdOk (k n t : Nat) (l : List Int) (b q s m : Nat) : Prop where
  ok : codeOk k n t l b q s m = true
  hb : b < 18446744073709551616
  hq : q < 18446744073709551616
  hs : s < 18446744073709551616
  hm : m < 18446744073709551616
theorem CmdOk.zeroR {k n t : Nat} {l : List Int} {b q s m : Nat} (h : CmdOk k n t l b q s m) (hR : kR k = false) : n = 0 ∧ b = 0 ∧ q = 0 := by
  have := h.ok
  simp [codeOk, reqB, reqZ, hR] at this
  omega
theorem CmdOk.zeroT {k n t : Nat} {l : List Int} {b q s m : Nat} (h : CmdOk k n t l b q s m) (hT : kT k = false) : t = 0 ∧ s = 0 := by
  have := h.ok
  simp [codeOk, tokB, tokZ, hT] at this
  omega
theorem CmdOk.zeroS {k n t : Nat} {l : List Int} {b q s m : Nat} (h : CmdOk k n t l b q s m) (hS : kS k = false) : m = 0 := by
  have := h.ok
  simp [codeOk, hS] at this
  omega
theorem fnum_no (lb : List Int) (st : Nat × Int) (most : Int) : fnum false lb st most = (0, st.1, st.2) := rfl
theorem fnum_yes (lb : List Int) (k : Nat) (e most : Int) : fnum true lb (k, e) most = rnum lb k e most := rfl

theorem hit_K {k : Nat} {R : List Int} (hk : 1 ≤ k ∧ k ≤ 6) (lb : List Int) (h : lb = numB k ++ R) : dK lb = ((k : Int), (numB k).length, 0) ∧ lb.drop (numB k).length = R := by
  have h0 : lb.drop 0 = numB k ++ R := h
  obtain ⟨h1, h2⟩ := rnum_hit (most := 6) h0 (by omega) (by omega)
  rw [Nat.zero_add] at h1 h2
  refine ⟨?_, h2⟩
  unfold dK
  rw [h1]
  have hI : kI (k : Int) = true := by simp [kI]; omega
  simp [hI]
theorem hit_L {k : Nat} {l R : List Int} {lb : List Int} {p : Nat} (hK : dK lb = ((k : Int), p, 0)) (hs : kN k = true → IsSet l) (hn : kN k = false → l = []) (h : lb.drop p = numsB (if kN k then (l.length : Int) :: l else []) ++ R) :
    ∃ p', dL lb = (l, p', 0) ∧ lb.drop p' = R ∧ p' = p + (numsB (if kN k then (l.length : Int) :: l else [])).length := by
  cases hN : kN k
  · rw [hN] at h
    refine ⟨p, ?_, by simpa [numsB] using h, by simp [numsB]⟩
    unfold dL
    rw [hK]
    simp only [hN, hn hN]
    rfl
  · rw [hN] at h
    have hset := hs hN
    have h7 := set_len hset
    simp only [if_pos] at h ⊢
    rw [numsB_cons, List.append_assoc, Int.toNat_natCast] at h
    obtain ⟨h1, h2⟩ := rnum_hit (most := 7) h (by omega) (by omega)
    obtain ⟨h3, h4⟩ := decNodes_hit l _ R h2 (fun z hz => by
      obtain ⟨i, hi, e⟩ := List.getElem_of_mem hz
      have := set_mem hset hi
      omega)
    refine ⟨_, ?_, h4, by rw [numsB_cons, Int.toNat_natCast, List.length_append, Nat.add_assoc]⟩
    unfold dL
    rw [hK]
    simp only [hN, if_pos]
    rw [h1]
    simp only [Int.toNat_natCast]
    exact h3
theorem hit_f {there : Bool} {v : Nat} {R : List Int} {lb : List Int} {p : Nat} {most : Int} (hv : v < 18446744073709551616) (hm : (v : Int) ≤ most) (hz : there = false → v = 0) (h : lb.drop p = (if there then numB v else []) ++ R) :
    ∃ p', fnum there lb (p, 0) most = ((v : Int), p', 0) ∧ lb.drop p' = R ∧ p' = p + (if there then numB v else []).length := by
  cases there
  · exact ⟨p, by rw [fnum_no, hz rfl]; rfl, by simpa using h, by simp⟩
  · simp only [if_pos] at h ⊢
    obtain ⟨h1, h2⟩ := rnum_hit h hv hm
    exact ⟨_, by rw [fnum_yes]; exact h1, h2, rfl⟩
/-- A command's bytes, part by part. -/
theorem numsB_parts (k n t : Nat) (l : List Int) (b q s m : Nat) (R : List Int) : numsB (numsL k n t l b q s m) ++ R =
    numB k ++ (numsB (if kN k then (l.length : Int) :: l else []) ++ ((if kR k then numB n else []) ++ ((if kR k then numB b else []) ++ ((if kR k then numB q else []) ++ ((if kT k then numB t else []) ++ ((if kT k then numB s else []) ++ ((if kS k then numB m else []) ++ R))))))) := by
  unfold numsL
  cases kN k <;> cases kR k <;> cases kT k <;> cases kS k <;> simp [numsB]
theorem back {k n t : Nat} {l : List Int} {b q s m : Nat} (h : CmdOk k n t l b q s m) (R lb : List Int) (hlb : lb = numsB (numsL k n t l b q s m) ++ R) :
    dE lb = 0 ∧ dK lb = ((k : Int), (dK lb).2) ∧ dL lb = (l, (dL lb).2) ∧ dn lb = ((n : Int), (dn lb).2) ∧ db lb = ((b : Int), (db lb).2) ∧ dq lb = ((q : Int), (dq lb).2) ∧ dt lb = ((t : Int), (dt lb).2) ∧ ds lb = ((s : Int), (ds lb).2) ∧ dm lb = ((m : Int), (numsB (numsL k n t l b q s m)).length, 0) := by
  obtain ⟨k1, k6, n0, n7, t0, t6, hset, hnil⟩ := ok_nats h.ok
  have hq := h.hq
  have hb := h.hb
  have hs := h.hs
  have hm := h.hm
  have hlen : (numsB (numsL (k : Int) n t l b q s m)).length = (numB k).length + (numsB (if kN k then (l.length : Int) :: l else [])).length + (if kR k then numB n else []).length + (if kR k then numB b else []).length + (if kR k then numB q else []).length + (if kT k then numB t else []).length + (if kT k then numB s else []).length + (if kS k then numB m else []).length := by
    have e := numsB_parts k n t l b q s m []
    rw [List.append_nil] at e
    rw [e]
    simp only [List.length_append, List.length_nil]
    omega
  rw [numsB_parts] at hlb
  obtain ⟨eK, d1⟩ := hit_K (by omega) lb hlb
  obtain ⟨p1, eL, d2, q1⟩ := hit_L eK hset hnil d1
  have fn := hit_f (most := 65535) (by omega) (by omega) (fun hR => (h.zeroR hR).1) d2
  obtain ⟨p2, en, d3, q2⟩ := fn
  obtain ⟨p3, eb, d4, q3⟩ := hit_f (most := 18446744073709551615) hb (by omega) (fun hR => (h.zeroR hR).2.1) d3
  obtain ⟨p4, eq, d5, q4⟩ := hit_f (most := 18446744073709551615) hq (by omega) (fun hR => (h.zeroR hR).2.2) d4
  obtain ⟨p5, et, d6, q5⟩ := hit_f (most := 65535) (by omega) (by omega) (fun hT => (h.zeroT hT).1) d5
  obtain ⟨p6, es, d7, q6⟩ := hit_f (most := 18446744073709551615) hs (by omega) (fun hT => (h.zeroT hT).2) d6
  obtain ⟨p7, em, d8, q7⟩ := hit_f (most := 18446744073709551615) hm (by omega) (fun hS => h.zeroS hS) d7
  have xn : dn lb = ((n : Int), p2, 0) := by unfold dn; rw [eK, eL]; exact en
  have xb : db lb = ((b : Int), p3, 0) := by unfold db; rw [eK, xn]; exact eb
  have xq : dq lb = ((q : Int), p4, 0) := by unfold dq; rw [eK, xb]; exact eq
  have xt : dt lb = ((t : Int), p5, 0) := by unfold dt; rw [eK, xq]; exact et
  have xs : ds lb = ((s : Int), p6, 0) := by unfold ds; rw [eK, xt]; exact es
  have xm : dm lb = ((m : Int), p7, 0) := by unfold dm; rw [eK, xs]; exact em
  refine ⟨?_, by rw [eK], by rw [eL], by rw [xn], by rw [xb], by rw [xq], by rw [xt], by rw [xs], ?_⟩
  · unfold dE
    rw [xm, eK, xn, xt, eL, xb, xq, xs]
    simp [h.ok, errCmd]
  · rw [xm, hlen]
    have : p7 = (numB k).length + (numsB (if kN k then (l.length : Int) :: l else [])).length + (if kR k then numB n else []).length + (if kR k then numB b else []).length + (if kR k then numB q else []).length + (if kT k then numB t else []).length + (if kT k then numB s else []).length + (if kS k then numB m else []).length := by
      rw [q7, q6, q5, q4, q3, q2, q1]
    rw [this]
end Go.Proofs.Ytadkkhbbempaaaa

/- Plain laws of commands' bytes, second part: what is read is written as these bytes; what was cut is short. -/
namespace Go.Proofs.Ytadkkhbbempaaaa
set_option maxRecDepth 100000
open Go.RowKit

/-! ### An error stays -/
theorem fnum_err {there : Bool} {lb : List Int} {k : Nat} {e most : Int} (he : e ≠ 0) : (fnum there lb (k, e) most).2.2 = e := by
  cases there
  · rfl
  · rw [fnum_yes, rnum_err he]
theorem dL_err {lb : List Int} {e : Int} (he : e ≠ 0) (h : (dK lb).2.2 = e) : (dL lb).2.2 = e := by
  unfold dL
  split
  · rw [h, rnum_err he]
    exact decNodes_err he _ _
  · exact h
theorem dn_err {lb : List Int} {e : Int} (he : e ≠ 0) (h : (dL lb).2.2 = e) : (dn lb).2.2 = e := by
  unfold dn
  rw [show (dL lb).2 = ((dL lb).2.1, e) from Prod.ext rfl h]
  exact fnum_err he
theorem db_err {lb : List Int} {e : Int} (he : e ≠ 0) (h : (dn lb).2.2 = e) : (db lb).2.2 = e := by
  unfold db
  rw [show (dn lb).2 = ((dn lb).2.1, e) from Prod.ext rfl h]
  exact fnum_err he
theorem dq_err {lb : List Int} {e : Int} (he : e ≠ 0) (h : (db lb).2.2 = e) : (dq lb).2.2 = e := by
  unfold dq
  rw [show (db lb).2 = ((db lb).2.1, e) from Prod.ext rfl h]
  exact fnum_err he
theorem dt_err {lb : List Int} {e : Int} (he : e ≠ 0) (h : (dq lb).2.2 = e) : (dt lb).2.2 = e := by
  unfold dt
  rw [show (dq lb).2 = ((dq lb).2.1, e) from Prod.ext rfl h]
  exact fnum_err he
theorem ds_err {lb : List Int} {e : Int} (he : e ≠ 0) (h : (dt lb).2.2 = e) : (ds lb).2.2 = e := by
  unfold ds
  rw [show (dt lb).2 = ((dt lb).2.1, e) from Prod.ext rfl h]
  exact fnum_err he
theorem dm_err {lb : List Int} {e : Int} (he : e ≠ 0) (h : (ds lb).2.2 = e) : (dm lb).2.2 = e := by
  unfold dm
  rw [show (ds lb).2 = ((ds lb).2.1, e) from Prod.ext rfl h]
  exact fnum_err he
theorem dE_err {lb : List Int} {e : Int} (he : e ≠ 0) (h : (dm lb).2.2 = e) : dE lb = e := by
  unfold dE
  rw [h, if_neg he]

/-! ### What was cut is short -/
theorem fnum_short {lb : List Int} {p v : Nat} {most : Int} (h : lb.drop p = (numB v).take ((numB v).length - 1)) : (fnum true lb (p, 0) most).2.2 = 10 := by
  rw [fnum_yes]
  exact rnum_short h
theorem cuts {k n t : Nat} {l : List Int} {b q s m : Nat} (h : CmdOk k n t l b q s m) (lb : List Int) (hlb : lb = (numsB (numsL k n t l b q s m)).take ((numsB (numsL k n t l b q s m)).length - 1)) : dE lb = 10 := by
  obtain ⟨k1, k6, n0, n7, t0, t6, hset, hnil⟩ := ok_nats h.ok
  have hq := h.hq
  have hb := h.hb
  have hs := h.hs
  have hm := h.hm
  have p1 := numB_pos 1
  have p2 := fun v => numB_pos v
  have h10 : (10 : Int) ≠ 0 := by decide
  have e := numsB_parts k n t l b q s m []
  rw [List.append_nil] at e
  rw [e] at hlb
  have hk : k = 1 ∨ k = 2 ∨ k = 3 ∨ k = 4 ∨ k = 5 ∨ k = 6 := by omega
  have hz : dm lb = dm lb := rfl
  rcases hk with rfl | rfl | rfl | rfl | rfl | rfl
  · have e1 : lb = (numB 1).take ((numB 1).length - 1) := by simpa [kN, kR, kT, kS, numsB] using hlb
    have hr := rnum_short (lb := lb) (k := 0) (v := 1) (most := 6) (by rw [List.drop_zero]; exact e1)
    have hK : (dK lb).2.2 = 10 := by
      unfold dK
      simp only
      rw [if_neg (by rw [hr]; simp), hr]
    exact dE_err h10 (dm_err h10 (ds_err h10 (dt_err h10 (dq_err h10 (db_err h10 (dn_err h10 (dL_err h10 hK)))))))
  · have hN : kN ((2 : Nat) : Int) = true := by decide
    have hs2 := hset hN
    have hl0 := hs2.1
    have h7 := set_len hs2
    have hzz : ∀ z ∈ l, 0 ≤ z ∧ z ≤ 65535 := fun z hz => by
      obtain ⟨i, hi, e⟩ := List.getElem_of_mem hz
      have := set_mem hs2 hi
      omega
    have hp : 1 ≤ (numsB l).length := by
      cases l with
      | nil => simp at hl0
      | cons y l =>
        rw [numsB_cons, List.length_append]
        have := numB_pos y.toNat
        omega
    have e1 : lb = numB 2 ++ (numB l.length ++ (numsB l).take ((numsB l).length - 1)) := by
      have e2 : lb = (numB 2 ++ (numB l.length ++ numsB l)).take ((numB 2 ++ (numB l.length ++ numsB l)).length - 1) := by simpa [kN, kR, kT, kS, numsB] using hlb
      rw [e2, cut_front (by rw [List.length_append]; omega), cut_front hp]
    obtain ⟨eK, d1⟩ := hit_K (by omega) lb e1
    obtain ⟨h1, h2⟩ := rnum_hit (most := 7) d1 (by omega) (by omega)
    have hL : (dL lb).2.2 = 10 := by
      unfold dL
      rw [eK]
      simp only [hN, if_pos]
      rw [h1]
      simp only [Int.toNat_natCast]
      exact decNodes_short l _ hl0 h2 hzz
    exact dE_err h10 (dm_err h10 (ds_err h10 (dt_err h10 (dq_err h10 (db_err h10 (dn_err h10 hL))))))
  · have e1 : lb = numB 3 ++ (numsB (if kN ((3 : Nat) : Int) then (l.length : Int) :: l else []) ++ ((if kR ((3 : Nat) : Int) then numB n else []) ++ ((if kR ((3 : Nat) : Int) then numB b else []) ++ (numB q).take ((numB q).length - 1)))) := by
      have e2 : lb = (numB 3 ++ (numB n ++ (numB b ++ numB q))).take ((numB 3 ++ (numB n ++ (numB b ++ numB q))).length - 1) := by simpa [kN, kR, kT, kS, numsB] using hlb
      have := p2 q
      rw [e2, cut_front (by simp only [List.length_append]; omega), cut_front (by simp only [List.length_append]; omega), cut_front (p2 q)]
      simp [kN, kR, numsB]
    obtain ⟨eK, d1⟩ := hit_K (by omega) lb e1
    obtain ⟨P1, eL, d2, _⟩ := hit_L eK hset hnil d1
    obtain ⟨P2, en, d3, _⟩ := hit_f (most := 65535) (by omega) (by omega) (fun hR => (h.zeroR hR).1) d2
    obtain ⟨P3, eb, d4, _⟩ := hit_f (most := 18446744073709551615) hb (by omega) (fun hR => (h.zeroR hR).2.1) d3
    have xn : dn lb = ((n : Int), P2, 0) := by unfold dn; rw [eK, eL]; exact en
    have xb : db lb = ((b : Int), P3, 0) := by unfold db; rw [eK, xn]; exact eb
    have xq : (dq lb).2.2 = 10 := by unfold dq; rw [eK, xb]; exact fnum_short d4
    exact dE_err h10 (dm_err h10 (ds_err h10 (dt_err h10 xq)))
  · have e1 : lb = numB 4 ++ (numsB (if kN ((4 : Nat) : Int) then (l.length : Int) :: l else []) ++ ((if kR ((4 : Nat) : Int) then numB n else []) ++ ((if kR ((4 : Nat) : Int) then numB b else []) ++ ((if kR ((4 : Nat) : Int) then numB q else []) ++ ((if kT ((4 : Nat) : Int) then numB t else []) ++ (numB s).take ((numB s).length - 1)))))) := by
      have e2 : lb = (numB 4 ++ (numB n ++ (numB b ++ (numB q ++ (numB t ++ numB s))))).take ((numB 4 ++ (numB n ++ (numB b ++ (numB q ++ (numB t ++ numB s))))).length - 1) := by simpa [kN, kR, kT, kS, numsB] using hlb
      have := p2 s
      rw [e2, cut_front (by simp only [List.length_append]; omega), cut_front (by simp only [List.length_append]; omega), cut_front (by simp only [List.length_append]; omega), cut_front (by simp only [List.length_append]; omega), cut_front (p2 s)]
      simp [kN, kR, kT, numsB]
    obtain ⟨eK, d1⟩ := hit_K (by omega) lb e1
    obtain ⟨P1, eL, d2, _⟩ := hit_L eK hset hnil d1
    obtain ⟨P2, en, d3, _⟩ := hit_f (most := 65535) (by omega) (by omega) (fun hR => (h.zeroR hR).1) d2
    obtain ⟨P3, eb, d4, _⟩ := hit_f (most := 18446744073709551615) hb (by omega) (fun hR => (h.zeroR hR).2.1) d3
    obtain ⟨P4, eq, d5, _⟩ := hit_f (most := 18446744073709551615) hq (by omega) (fun hR => (h.zeroR hR).2.2) d4
    obtain ⟨P5, et, d6, _⟩ := hit_f (most := 65535) (by omega) (by omega) (fun hT => (h.zeroT hT).1) d5
    have xn : dn lb = ((n : Int), P2, 0) := by unfold dn; rw [eK, eL]; exact en
    have xb : db lb = ((b : Int), P3, 0) := by unfold db; rw [eK, xn]; exact eb
    have xq : dq lb = ((q : Int), P4, 0) := by unfold dq; rw [eK, xb]; exact eq
    have xt : dt lb = ((t : Int), P5, 0) := by unfold dt; rw [eK, xq]; exact et
    have xs : (ds lb).2.2 = 10 := by unfold ds; rw [eK, xt]; exact fnum_short d6
    exact dE_err h10 (dm_err h10 xs)
  · have e1 : lb = numB 5 ++ (numsB (if kN ((5 : Nat) : Int) then (l.length : Int) :: l else []) ++ ((if kR ((5 : Nat) : Int) then numB n else []) ++ ((if kR ((5 : Nat) : Int) then numB b else []) ++ ((if kR ((5 : Nat) : Int) then numB q else []) ++ ((if kT ((5 : Nat) : Int) then numB t else []) ++ (numB s).take ((numB s).length - 1)))))) := by
      have e2 : lb = (numB 5 ++ (numB n ++ (numB b ++ (numB q ++ (numB t ++ numB s))))).take ((numB 5 ++ (numB n ++ (numB b ++ (numB q ++ (numB t ++ numB s))))).length - 1) := by simpa [kN, kR, kT, kS, numsB] using hlb
      have := p2 s
      rw [e2, cut_front (by simp only [List.length_append]; omega), cut_front (by simp only [List.length_append]; omega), cut_front (by simp only [List.length_append]; omega), cut_front (by simp only [List.length_append]; omega), cut_front (p2 s)]
      simp [kN, kR, kT, numsB]
    obtain ⟨eK, d1⟩ := hit_K (by omega) lb e1
    obtain ⟨P1, eL, d2, _⟩ := hit_L eK hset hnil d1
    obtain ⟨P2, en, d3, _⟩ := hit_f (most := 65535) (by omega) (by omega) (fun hR => (h.zeroR hR).1) d2
    obtain ⟨P3, eb, d4, _⟩ := hit_f (most := 18446744073709551615) hb (by omega) (fun hR => (h.zeroR hR).2.1) d3
    obtain ⟨P4, eq, d5, _⟩ := hit_f (most := 18446744073709551615) hq (by omega) (fun hR => (h.zeroR hR).2.2) d4
    obtain ⟨P5, et, d6, _⟩ := hit_f (most := 65535) (by omega) (by omega) (fun hT => (h.zeroT hT).1) d5
    have xn : dn lb = ((n : Int), P2, 0) := by unfold dn; rw [eK, eL]; exact en
    have xb : db lb = ((b : Int), P3, 0) := by unfold db; rw [eK, xn]; exact eb
    have xq : dq lb = ((q : Int), P4, 0) := by unfold dq; rw [eK, xb]; exact eq
    have xt : dt lb = ((t : Int), P5, 0) := by unfold dt; rw [eK, xq]; exact et
    have xs : (ds lb).2.2 = 10 := by unfold ds; rw [eK, xt]; exact fnum_short d6
    exact dE_err h10 (dm_err h10 xs)
  · have e1 : lb = numB 6 ++ (numsB (if kN ((6 : Nat) : Int) then (l.length : Int) :: l else []) ++ ((if kR ((6 : Nat) : Int) then numB n else []) ++ ((if kR ((6 : Nat) : Int) then numB b else []) ++ ((if kR ((6 : Nat) : Int) then numB q else []) ++ ((if kT ((6 : Nat) : Int) then numB t else []) ++ ((if kT ((6 : Nat) : Int) then numB s else []) ++ (numB m).take ((numB m).length - 1))))))) := by
      have e2 : lb = (numB 6 ++ (numB t ++ (numB s ++ numB m))).take ((numB 6 ++ (numB t ++ (numB s ++ numB m))).length - 1) := by simpa [kN, kR, kT, kS, numsB] using hlb
      have := p2 m
      rw [e2, cut_front (by simp only [List.length_append]; omega), cut_front (by simp only [List.length_append]; omega), cut_front (p2 m)]
      simp [kN, kR, kT, numsB]
    obtain ⟨eK, d1⟩ := hit_K (by omega) lb e1
    obtain ⟨P1, eL, d2, _⟩ := hit_L eK hset hnil d1
    obtain ⟨P2, en, d3, _⟩ := hit_f (most := 65535) (by omega) (by omega) (fun hR => (h.zeroR hR).1) d2
    obtain ⟨P3, eb, d4, _⟩ := hit_f (most := 18446744073709551615) hb (by omega) (fun hR => (h.zeroR hR).2.1) d3
    obtain ⟨P4, eq, d5, _⟩ := hit_f (most := 18446744073709551615) hq (by omega) (fun hR => (h.zeroR hR).2.2) d4
    obtain ⟨P5, et, d6, _⟩ := hit_f (most := 65535) (by omega) (by omega) (fun hT => (h.zeroT hT).1) d5
    obtain ⟨P6, es, d7, _⟩ := hit_f (most := 18446744073709551615) hs (by omega) (fun hT => (h.zeroT hT).2) d6
    have xn : dn lb = ((n : Int), P2, 0) := by unfold dn; rw [eK, eL]; exact en
    have xb : db lb = ((b : Int), P3, 0) := by unfold db; rw [eK, xn]; exact eb
    have xq : dq lb = ((q : Int), P4, 0) := by unfold dq; rw [eK, xb]; exact eq
    have xt : dt lb = ((t : Int), P5, 0) := by unfold dt; rw [eK, xq]; exact et
    have xs : ds lb = ((s : Int), P6, 0) := by unfold ds; rw [eK, xt]; exact es
    have xm : (dm lb).2.2 = 10 := by unfold dm; rw [eK, xs]; exact fnum_short d7
    exact dE_err h10 xm
end Go.Proofs.Ytadkkhbbempaaaa

/- Plain laws of commands' bytes, third part: what is read is written as these bytes. -/
namespace Go.Proofs.Ytadkkhbbempaaaa
set_option maxRecDepth 100000
open Go.RowKit

theorem decNodes_back {lb : List Int} (hb : Byt lb) : ∀ (c k : Nat) (e : Int), k ≤ lb.length → (decNodes lb c k e).2.2 = 0 →
    e = 0 ∧ lb.take (decNodes lb c k e).2.1 = lb.take k ++ numsB (decNodes lb c k e).1 ∧ (decNodes lb c k e).2.1 ≤ lb.length := by
  intro c
  induction c with
  | zero => intro k e hk h; exact ⟨h, by simp [decNodes, numsB], hk⟩
  | succ c ih =>
    intro k e hk h
    obtain ⟨i1, i2, i3⟩ := ih (rnum lb k e 65535).2.1 (rnum lb k e 65535).2.2 ((rnum_le hb hk e (by decide)).2.2.1) h
    obtain ⟨r1, r2, r3⟩ := rnum_back hb hk (by decide) i1
    refine ⟨r1, ?_, i3⟩
    show lb.take (decNodes lb c (rnum lb k e 65535).2.1 (rnum lb k e 65535).2.2).2.1 = lb.take k ++ numsB ((rnum lb k e 65535).1 :: (decNodes lb c (rnum lb k e 65535).2.1 (rnum lb k e 65535).2.2).1)
    rw [i2, r2, numsB_cons, List.append_assoc]
theorem fnum_back {there : Bool} {lb : List Int} (hb : Byt lb) {k : Nat} (hk : k ≤ lb.length) {e most : Int} (hm : 0 ≤ most) (h : (fnum there lb (k, e) most).2.2 = 0) :
    e = 0 ∧ lb.take (fnum there lb (k, e) most).2.1 = lb.take k ++ (if there then numB (fnum there lb (k, e) most).1.toNat else []) ∧ (fnum there lb (k, e) most).2.1 ≤ lb.length := by
  cases there
  · exact ⟨h, by simp [fnum_no], hk⟩
  · simp only [fnum_yes] at h ⊢
    exact rnum_back hb hk hm h
theorem fnum_le {there : Bool} {lb : List Int} (hb : Byt lb) {k : Nat} (hk : k ≤ lb.length) (e : Int) {most : Int} (hm : 0 ≤ most) :
    0 ≤ (fnum there lb (k, e) most).1 ∧ (fnum there lb (k, e) most).1 ≤ most ∧ (fnum there lb (k, e) most).2.1 ≤ lb.length := by
  cases there
  · exact ⟨Int.le_refl _, hm, hk⟩
  · rw [fnum_yes]
    obtain ⟨r1, r2, r3, _⟩ := rnum_le hb hk e hm
    exact ⟨r1, r2, r3⟩
/-- A command's bytes, part by part. -/
theorem numsB_parts2 (k n t : Int) (l : List Int) (b q s m : Int) : numsB (numsL k n t l b q s m) =
    numB k.toNat ++ numsB (if kN k then (l.length : Int) :: l else []) ++ (if kR k then numB n.toNat else []) ++ (if kR k then numB b.toNat else []) ++ (if kR k then numB q.toNat else []) ++ (if kT k then numB t.toNat else []) ++ (if kT k then numB s.toNat else []) ++ (if kS k then numB m.toNat else []) := by
  unfold numsL
  cases kN k <;> cases kR k <;> cases kT k <;> cases kS k <;> simp [numsB]
structure Ranges (lb : List Int) : Prop where
  K : 0 ≤ (dK lb).1 ∧ (dK lb).1 ≤ 6 ∧ (dK lb).2.1 ≤ lb.length
  L : (dL lb).2.1 ≤ lb.length ∧ (dL lb).1.length ≤ 7 ∧ ∀ z ∈ (dL lb).1, 0 ≤ z ∧ z ≤ 65535
  n : 0 ≤ (dn lb).1 ∧ (dn lb).1 ≤ 65535 ∧ (dn lb).2.1 ≤ lb.length
  b : 0 ≤ (db lb).1 ∧ (db lb).1 ≤ 18446744073709551615 ∧ (db lb).2.1 ≤ lb.length
  q : 0 ≤ (dq lb).1 ∧ (dq lb).1 ≤ 18446744073709551615 ∧ (dq lb).2.1 ≤ lb.length
  t : 0 ≤ (dt lb).1 ∧ (dt lb).1 ≤ 65535 ∧ (dt lb).2.1 ≤ lb.length
  s : 0 ≤ (ds lb).1 ∧ (ds lb).1 ≤ 18446744073709551615 ∧ (ds lb).2.1 ≤ lb.length
  m : 0 ≤ (dm lb).1 ∧ (dm lb).1 ≤ 18446744073709551615 ∧ (dm lb).2.1 ≤ lb.length
theorem decNodes_facts {lb : List Int} (hb : Byt lb) : ∀ (c k : Nat) (e : Int), k ≤ lb.length → (decNodes lb c k e).1.length = c ∧ (∀ z ∈ (decNodes lb c k e).1, 0 ≤ z ∧ z ≤ 65535) ∧ (decNodes lb c k e).2.1 ≤ lb.length := by
  intro c
  induction c with
  | zero => intro k e hk; exact ⟨rfl, (fun z hz => by cases hz), hk⟩
  | succ c ih =>
    intro k e hk
    obtain ⟨r1, r2, r3, r4⟩ := rnum_le hb hk e (most := 65535) (by decide)
    obtain ⟨i1, i2, i3⟩ := ih (rnum lb k e 65535).2.1 (rnum lb k e 65535).2.2 r3
    refine ⟨by simp [decNodes, i1], fun z hz => ?_, i3⟩
    simp only [decNodes, List.mem_cons] at hz
    rcases hz with rfl | hz
    · exact ⟨r1, r2⟩
    · exact i2 z hz
theorem ranges {lb : List Int} (hb : Byt lb) : Ranges lb := by
  have hK := rnum_le hb (Nat.zero_le lb.length) 0 (most := 6) (by decide)
  have K : 0 ≤ (dK lb).1 ∧ (dK lb).1 ≤ 6 ∧ (dK lb).2.1 ≤ lb.length := ⟨hK.1, hK.2.1, hK.2.2.1⟩
  have L : (dL lb).2.1 ≤ lb.length ∧ (dL lb).1.length ≤ 7 ∧ ∀ z ∈ (dL lb).1, 0 ≤ z ∧ z ≤ 65535 := by
    unfold dL
    split
    · have hc := rnum_le hb K.2.2 (dK lb).2.2 (most := 7) (by decide)
      obtain ⟨n1, n2, n3⟩ := decNodes_facts hb (rnum lb (dK lb).2.1 (dK lb).2.2 7).1.toNat (rnum lb (dK lb).2.1 (dK lb).2.2 7).2.1 (rnum lb (dK lb).2.1 (dK lb).2.2 7).2.2 hc.2.2.1
      exact ⟨n3, by rw [n1]; omega, n2⟩
    · exact ⟨K.2.2, by simp, fun z hz => by cases hz⟩
  have n := fnum_le (there := kR (dK lb).1) hb L.1 (dL lb).2.2 (most := 65535) (by decide)
  have b := fnum_le (there := kR (dK lb).1) hb n.2.2 (dn lb).2.2 (most := 18446744073709551615) (by decide)
  have q := fnum_le (there := kR (dK lb).1) hb b.2.2 (db lb).2.2 (most := 18446744073709551615) (by decide)
  have t := fnum_le (there := kT (dK lb).1) hb q.2.2 (dq lb).2.2 (most := 65535) (by decide)
  have s := fnum_le (there := kT (dK lb).1) hb t.2.2 (dt lb).2.2 (most := 18446744073709551615) (by decide)
  have m := fnum_le (there := kS (dK lb).1) hb s.2.2 (ds lb).2.2 (most := 18446744073709551615) (by decide)
  exact ⟨K, L, n, b, q, t, s, m⟩
theorem same {lb : List Int} (hb : Byt lb) (h : dE lb = 0) : codeOk (dK lb).1 (dn lb).1 (dt lb).1 (dL lb).1 (db lb).1 (dq lb).1 (ds lb).1 (dm lb).1 = true ∧
    lb.take (dm lb).2.1 = numsB (numsL (dK lb).1 (dn lb).1 (dt lb).1 (dL lb).1 (db lb).1 (dq lb).1 (ds lb).1 (dm lb).1) := by
  have r := ranges hb
  have hm0 : (dm lb).2.2 = 0 := by
    unfold dE at h
    split at h
    · assumption
    · exact h
  have hok : codeOk (dK lb).1 (dn lb).1 (dt lb).1 (dL lb).1 (db lb).1 (dq lb).1 (ds lb).1 (dm lb).1 = true := by
    unfold dE at h
    rw [if_pos hm0] at h
    unfold errCmd at h
    split at h
    · assumption
    · simp at h
  refine ⟨hok, ?_⟩
  obtain ⟨em, tm, _⟩ := fnum_back (there := kS (dK lb).1) hb r.s.2.2 (e := (ds lb).2.2) (most := 18446744073709551615) (by decide) hm0
  obtain ⟨es, ts, _⟩ := fnum_back (there := kT (dK lb).1) hb r.t.2.2 (e := (dt lb).2.2) (most := 18446744073709551615) (by decide) em
  obtain ⟨et, tt, _⟩ := fnum_back (there := kT (dK lb).1) hb r.q.2.2 (e := (dq lb).2.2) (most := 65535) (by decide) es
  obtain ⟨eq, tq, _⟩ := fnum_back (there := kR (dK lb).1) hb r.b.2.2 (e := (db lb).2.2) (most := 18446744073709551615) (by decide) et
  obtain ⟨eb, tb, _⟩ := fnum_back (there := kR (dK lb).1) hb r.n.2.2 (e := (dn lb).2.2) (most := 18446744073709551615) (by decide) eq
  obtain ⟨en, tn, _⟩ := fnum_back (there := kR (dK lb).1) hb r.L.1 (e := (dL lb).2.2) (most := 65535) (by decide) eb
  have hL : (dK lb).2.2 = 0 ∧ lb.take (dL lb).2.1 = lb.take (dK lb).2.1 ++ numsB (if kN (dK lb).1 then ((dL lb).1.length : Int) :: (dL lb).1 else []) := by
    have en' := en
    unfold dL at en' ⊢
    cases hN : kN (dK lb).1
    · rw [hN] at en'
      exact ⟨en', by simp [numsB]⟩
    · rw [hN] at en'
      simp only [if_pos] at en' ⊢
      have hc := rnum_le hb r.K.2.2 (dK lb).2.2 (most := 7) (by decide)
      obtain ⟨d1, d2, d3⟩ := decNodes_back hb _ _ _ hc.2.2.1 en'
      obtain ⟨c1, c2, c3⟩ := rnum_back hb r.K.2.2 (by decide) d1
      obtain ⟨n1, _, _⟩ := decNodes_facts hb (rnum lb (dK lb).2.1 (dK lb).2.2 7).1.toNat (rnum lb (dK lb).2.1 (dK lb).2.2 7).2.1 (rnum lb (dK lb).2.1 (dK lb).2.2 7).2.2 hc.2.2.1
      refine ⟨c1, ?_⟩
      rw [d2, c2, numsB_cons, n1, Int.toNat_natCast, List.append_assoc]
  have hK : lb.take (dK lb).2.1 = numB (dK lb).1.toNat := by
    have h0 := hL.1
    have hr0 : (rnum lb 0 0 6).2.2 = 0 := by
      unfold dK at h0
      simp only at h0
      split at h0
      · simp at h0
      · exact h0
    obtain ⟨_, c2, _⟩ := rnum_back hb (Nat.zero_le _) (by decide) hr0
    show lb.take (rnum lb 0 0 6).2.1 = numB (rnum lb 0 0 6).1.toNat
    rw [c2]
    simp
  rw [numsB_parts2]
  have tm' : lb.take (dm lb).2.1 = lb.take (ds lb).2.1 ++ (if kS (dK lb).1 then numB (dm lb).1.toNat else []) := tm
  have ts' : lb.take (ds lb).2.1 = lb.take (dt lb).2.1 ++ (if kT (dK lb).1 then numB (ds lb).1.toNat else []) := ts
  have tt' : lb.take (dt lb).2.1 = lb.take (dq lb).2.1 ++ (if kT (dK lb).1 then numB (dt lb).1.toNat else []) := tt
  have tq' : lb.take (dq lb).2.1 = lb.take (db lb).2.1 ++ (if kR (dK lb).1 then numB (dq lb).1.toNat else []) := tq
  have tb' : lb.take (db lb).2.1 = lb.take (dn lb).2.1 ++ (if kR (dK lb).1 then numB (db lb).1.toNat else []) := tb
  have tn' : lb.take (dn lb).2.1 = lb.take (dL lb).2.1 ++ (if kR (dK lb).1 then numB (dn lb).1.toNat else []) := tn
  rw [tm', ts', tt', tq', tb', tn', hL.2, hK]
end Go.Proofs.Ytadkkhbbempaaaa

/- The parts of a snapshot as lists of numbers with their bounds. -/
namespace Go.Proofs.Ytadkkhbbempaaaa
set_option maxRecDepth 100000
open Go.RowKit

def hdM : List Int := [65535, 65535, 18446744073709551615, 18446744073709551615, 18446744073709551615]
def lsM : List Int := [65535, 18446744073709551615, 18446744073709551615, 65535, 65535, 18446744073709551615]
theorem dHd_rnums (lb : List Int) (k : Nat) (e : Int) : rnums lb hdM k e = (hdL (dHd lb k e).1, (dHd lb k e).2) := rfl
theorem dLs_rnums (lb : List Int) (k : Nat) (e : Int) : rnums lb lsM k e = (lsL (dLs lb k e).1, (dLs lb k e).2) := rfl
theorem decH_rnums (lb : List Int) : ∀ (c k : Nat) (e : Int), rnums lb (List.replicate c hdM).flatten k e = ((decH lb c k e).1.flatMap hdL, (decH lb c k e).2) := by
  intro c
  induction c with
  | zero => intro k e; rfl
  | succ c ih =>
    intro k e
    rw [List.replicate_succ, List.flatten_cons, rnums_app, dHd_rnums]
    simp only
    rw [ih]
    simp only [decH, List.flatMap_cons]
theorem decL_rnums (lb : List Int) : ∀ (c k : Nat) (e : Int), rnums lb (List.replicate c lsM).flatten k e = ((decL lb c k e).1.flatMap lsL, (decL lb c k e).2) := by
  intro c
  induction c with
  | zero => intro k e; rfl
  | succ c ih =>
    intro k e
    rw [List.replicate_succ, List.flatten_cons, rnums_app, dLs_rnums]
    simp only
    rw [ih]
    simp only [decL, List.flatMap_cons]
theorem hdL_inj {l m : List Hd} (h : l.flatMap hdL = m.flatMap hdL) : l = m := by
  induction l generalizing m with
  | nil =>
    cases m with
    | nil => rfl
    | cons y m => simp [hdL] at h
  | cons x l ih =>
    cases m with
    | nil => simp [hdL] at h
    | cons y m =>
      simp only [List.flatMap_cons, hdL, List.cons_append, List.nil_append, List.cons.injEq] at h
      obtain ⟨h1, h2, h3, h4, h5, h6⟩ := h
      rw [ih h6]
      cases x
      cases y
      simp_all
theorem lsL_inj {l m : List Ls} (h : l.flatMap lsL = m.flatMap lsL) : l = m := by
  induction l generalizing m with
  | nil =>
    cases m with
    | nil => rfl
    | cons y m => simp [lsL] at h
  | cons x l ih =>
    cases m with
    | nil => simp [lsL] at h
    | cons y m =>
      simp only [List.flatMap_cons, lsL, List.cons_append, List.nil_append, List.cons.injEq] at h
      obtain ⟨h1, h2, h3, h4, h5, h6, h7⟩ := h
      rw [ih h7]
      cases x
      cases y
      simp_all
end Go.Proofs.Ytadkkhbbempaaaa

/- Plain laws of snapshots' bytes: read as what was written; written as what was read; short when cut; none when longer. -/
namespace Go.Proofs.Ytadkkhbbempaaaa
set_option maxRecDepth 100000
open Go.RowKit

theorem hdM_le : ∀ m ∈ hdM, (0 : Int) ≤ m := by decide
theorem lsM_le : ∀ m ∈ lsM, (0 : Int) ≤ m := by decide
theorem hdM_nn (c : Nat) : ∀ m ∈ (List.replicate c hdM).flatten, (0 : Int) ≤ m := fun m hm => by
  obtain ⟨x, hx, hmx⟩ := List.mem_flatten.1 hm
  rw [(List.mem_replicate.1 hx).2] at hmx
  exact hdM_le m hmx
theorem lsM_nn (c : Nat) : ∀ m ∈ (List.replicate c lsM).flatten, (0 : Int) ≤ m := fun m hm => by
  obtain ⟨x, hx, hmx⟩ := List.mem_flatten.1 hm
  rw [(List.mem_replicate.1 hx).2] at hmx
  exact lsM_le m hmx
theorem rep_nn (c : Nat) : ∀ m ∈ List.replicate c (65535 : Int), (0 : Int) ≤ m := fun m hm => by
  rw [(List.mem_replicate.1 hm).2]
  decide
/-! ### What is read, group by group -/
theorem g1 (lb : List Int) : rnums lb [18446744073709551615, 18446744073709551615, 64] 1 0 = ([(sI lb).1, (sT lb).1, (sCn lb).1], (sCn lb).2) := by simp only [rnums, sCn, sT, sI]
theorem g2 (lb : List Int) : rnums lb (List.replicate (sCn lb).1.toNat 65535) (sCn lb).2.1 (sCn lb).2.2 = sNs lb := decNodes_rnums _ _ _ _
theorem g3 (lb : List Int) : rnums lb [65535, 18446744073709551615, 64] (sNs lb).2.1 (sNs lb).2.2 = ([(sLim lb).1, (sNxt lb).1, (sCh lb).1], (sCh lb).2) := by simp only [rnums, sCh, sNxt, sLim]
theorem g4 (lb : List Int) : rnums lb (List.replicate (sCh lb).1.toNat hdM).flatten (sCh lb).2.1 (sCh lb).2.2 = ((sHs lb).1.flatMap hdL, (sHs lb).2) := decH_rnums _ _ _ _
theorem g5 (lb : List Int) : rnums lb [64] (sHs lb).2.1 (sHs lb).2.2 = ([(sCl lb).1], (sCl lb).2) := by simp only [rnums, sCl]
theorem g6 (lb : List Int) : rnums lb (List.replicate (sCl lb).1.toNat lsM).flatten (sCl lb).2.1 (sCl lb).2.2 = ((sLs lb).1.flatMap lsL, (sLs lb).2) := decL_rnums _ _ _ _

section
variable {i t : Int} {ns : List Int} {lim nxt : Int} {hs : List Hd} {ls : List Ls} {lb R : List Int}
theorem fits1 (n : ShNums i t ns lim nxt hs ls) : Fits [i, t, (ns.length : Int)] [18446744073709551615, 18446744073709551615, 64] := by
  have h1 := n.i
  have h2 := n.t
  have h3 := n.nsl
  exact .cons h1.1 h1.2 (by omega) (.cons h2.1 h2.2 (by omega) (.cons (by omega) (by omega) (by omega) .nil))
theorem fits2 (n : ShNums i t ns lim nxt hs ls) : Fits ns (List.replicate ns.length 65535) := Fits.rep (by decide) fun z hz => by have := n.ns z hz; omega
theorem fits3 (n : ShNums i t ns lim nxt hs ls) : Fits [lim, nxt, (hs.length : Int)] [65535, 18446744073709551615, 64] := by
  have h1 := n.lim
  have h2 := n.nxt
  have h3 := n.hsl
  exact .cons (by omega) (by omega) (by omega) (.cons h2.1 h2.2 (by omega) (.cons (by omega) (by omega) (by omega) .nil))
theorem fits4 (n : ShNums i t ns lim nxt hs ls) : Fits (hs.flatMap hdL) (List.replicate hs.length hdM).flatten := Fits.flat fun x hx => by
  obtain ⟨a, b, c, d, e⟩ := n.hs x hx
  exact .cons (by omega) (by omega) (by omega) (.cons (by omega) (by omega) (by omega) (.cons c.1 c.2 (by omega) (.cons d.1 d.2 (by omega) (.cons e.1 e.2 (by omega) .nil))))
theorem fits5 (n : ShNums i t ns lim nxt hs ls) : Fits [(ls.length : Int)] [64] := by
  have h3 := n.lsl
  exact .cons (by omega) (by omega) (by omega) .nil
theorem fits6 (n : ShNums i t ns lim nxt hs ls) : Fits (ls.flatMap lsL) (List.replicate ls.length lsM).flatten := Fits.flat fun x hx => by
  obtain ⟨a, b, c, d, e, f⟩ := n.ls x hx
  exact .cons (by omega) (by omega) (by omega) (.cons b.1 b.2 (by omega) (.cons c.1 c.2 (by omega) (.cons (by omega) (by omega) (by omega) (.cons e.1 (by omega) e.2 (.cons f.1 f.2 (by omega) .nil)))))
/-- All but the rows of Last. -/
structure Front (lb : List Int) (i t : Int) (ns : List Int) (lim nxt : Int) (hs : List Hd) : Prop where
  i : (sI lb).1 = i
  t : (sT lb).1 = t
  ns : (sNs lb).1 = ns
  lim : (sLim lb).1 = lim
  nxt : (sNxt lb).1 = nxt
  hs : (sHs lb).1 = hs
theorem front (n : ShNums i t ns lim nxt hs ls) (h : lb.drop 1 = numsB ([i, t, (ns.length : Int)] ++ (ns ++ ([lim, nxt, (hs.length : Int)] ++ hs.flatMap hdL))) ++ R) :
    Front lb i t ns lim nxt hs ∧ (sHs lb).2.2 = 0 ∧ lb.drop (sHs lb).2.1 = R := by
  rw [numsB_append, List.append_assoc] at h
  obtain ⟨a1, b1⟩ := rnums_hit (fits1 n) 1 _ h
  rw [g1] at a1
  simp only [Prod.mk.injEq, List.cons.injEq, and_true] at a1
  obtain ⟨⟨e1, e2, e3⟩, e4⟩ := a1
  rw [numsB_append, List.append_assoc] at b1
  obtain ⟨a2, b2⟩ := rnums_hit (fits2 n) _ _ b1
  have x2 := g2 lb
  rw [e3, e4, Int.toNat_natCast] at x2
  simp only at x2
  rw [a2] at x2
  rw [numsB_append, List.append_assoc] at b2
  obtain ⟨a3, b3⟩ := rnums_hit (fits3 n) _ _ b2
  have x3 := g3 lb
  rw [← x2] at x3
  simp only at x3
  rw [a3] at x3
  simp only [Prod.mk.injEq, List.cons.injEq, and_true] at x3
  obtain ⟨⟨f1, f2, f3⟩, f4⟩ := x3
  obtain ⟨a4, b4⟩ := rnums_hit (fits4 n) _ _ b3
  have x4 := g4 lb
  rw [← f3, ← f4, Int.toNat_natCast] at x4
  simp only at x4
  rw [a4] at x4
  simp only [Prod.mk.injEq] at x4
  obtain ⟨f5, f6⟩ := x4
  refine ⟨⟨e1, e2, by rw [← x2], f1.symm, f2.symm, (hdL_inj f5).symm⟩, by rw [← f6], ?_⟩
  rw [← f6]
  exact b4
theorem shotB_eq : shotB i t ns lim nxt hs ls = 83 :: (numsB ([i, t, (ns.length : Int)] ++ (ns ++ ([lim, nxt, (hs.length : Int)] ++ hs.flatMap hdL))) ++ (numsB [(ls.length : Int)] ++ numsB (ls.flatMap lsL))) := by
  unfold shotB shotL
  simp only [numsB_append, List.append_assoc]
theorem whole (n : ShNums i t ns lim nxt hs ls) (h : lb = shotB i t ns lim nxt hs ls ++ R) :
    Front lb i t ns lim nxt hs ∧ (sLs lb).1 = ls ∧ (sLs lb).2.2 = 0 ∧ lb.drop (sLs lb).2.1 = R := by
  rw [shotB_eq, List.cons_append, List.append_assoc, List.append_assoc] at h
  have h1 := congrArg (List.drop 1) h
  rw [List.drop_succ_cons, List.drop_zero] at h1
  obtain ⟨F, e0, b4⟩ := front n h1
  obtain ⟨a5, b5⟩ := rnums_hit (fits5 n) _ _ b4
  have x5 := g5 lb
  rw [e0, a5] at x5
  simp only [Prod.mk.injEq, List.cons.injEq, and_true] at x5
  obtain ⟨c1, c2⟩ := x5
  obtain ⟨a6, b6⟩ := rnums_hit (fits6 n) _ _ b5
  have x6 := g6 lb
  rw [← c1, ← c2, Int.toNat_natCast] at x6
  simp only at x6
  rw [a6] at x6
  simp only [Prod.mk.injEq] at x6
  obtain ⟨d1, d2⟩ := x6
  refine ⟨F, (lsL_inj d1).symm, by rw [← d2], ?_⟩
  rw [← d2]
  exact b6
theorem sLs_le (hb : Byt lb) (h0 : 1 ≤ lb.length) : (sLs lb).2.1 ≤ lb.length := by
  have r1 := rnums_le hb [18446744073709551615, 18446744073709551615, 64] 1 0 (by decide) h0
  rw [g1] at r1
  have r2 := rnums_le hb (List.replicate (sCn lb).1.toNat 65535) (sCn lb).2.1 (sCn lb).2.2 (rep_nn _) r1
  rw [g2] at r2
  have r3 := rnums_le hb [65535, 18446744073709551615, 64] (sNs lb).2.1 (sNs lb).2.2 (by decide) r2
  rw [g3] at r3
  have p4 := hdM_nn
  have p6 := lsM_nn
  have r4 := rnums_le hb (List.replicate (sCh lb).1.toNat hdM).flatten (sCh lb).2.1 (sCh lb).2.2 (p4 _) r3
  rw [g4] at r4
  have r5 := rnums_le hb [64] (sHs lb).2.1 (sHs lb).2.2 (by decide) r4
  rw [g5] at r5
  have r6 := rnums_le hb (List.replicate (sCl lb).1.toNat lsM).flatten (sCl lb).2.1 (sCl lb).2.2 (p6 _) r5
  rw [g6] at r6
  exact r6
/-- What was written is read. -/
theorem shot_back (n : ShNums i t ns lim nxt hs ls) (ok : ShotOk i t ns lim nxt hs ls) (h : lb = shotB i t ns lim nxt hs ls) (hlen : lb.length ≤ 8192) :
    sE lb = 0 ∧ Front lb i t ns lim nxt hs ∧ (sLs lb).1 = ls := by
  obtain ⟨F, e1, e2, e3⟩ := whole (lb := lb) (R := []) n (by rw [List.append_nil]; exact h)
  have hd : lb.head? = some 83 := by rw [h]; rfl
  have h0 : lb.length ≠ 0 := by rw [h]; simp [shotB]
  refine ⟨?_, F, e1⟩
  have h1 : sE1 lb = 0 := by
    unfold sE1
    rw [if_neg, e2]
    intro hh
    have := congrArg List.length e3
    rw [List.length_drop, List.length_nil] at this
    omega
  unfold sE
  rw [if_neg (by omega), if_neg h0, if_neg (by rw [hd]; simp), if_pos h1, F.i, F.t, F.ns, F.lim, F.nxt, F.hs, e1, decide_eq_true ok]
  rfl
/-- With one more byte it is none. -/
theorem shot_more (n : ShNums i t ns lim nxt hs ls) {c : Int} (h : lb = shotB i t ns lim nxt hs ls ++ [c]) (hlen : lb.length ≤ 8192) : sE lb = 11 := by
  obtain ⟨F, e1, e2, e3⟩ := whole (lb := lb) (R := [c]) n h
  have hd : lb.head? = some 83 := by rw [h]; rfl
  have h0 : lb.length ≠ 0 := by rw [h]; simp [shotB]
  have h1 : sE1 lb = 11 := by
    unfold sE1
    rw [if_pos]
    refine ⟨e2, ?_⟩
    have := congrArg List.length e3
    rw [List.length_drop, List.length_singleton] at this
    omega
  unfold sE
  rw [if_neg (by omega), if_neg h0, if_neg (by rw [hd]; simp), if_neg (by rw [h1]; decide), h1]
/-- A byte less is short. -/
theorem shot_cut (n : ShNums i t ns lim nxt hs ls) (h : lb = (shotB i t ns lim nxt hs ls).take ((shotB i t ns lim nxt hs ls).length - 1)) (hlen : lb.length ≤ 8192) : sE lb = 10 := by
  have hp5 := numsB_pos (l := [(ls.length : Int)]) (by simp)
  rw [shotB_eq] at h
  have hcut : lb = 83 :: (numsB ([i, t, (ns.length : Int)] ++ (ns ++ ([lim, nxt, (hs.length : Int)] ++ hs.flatMap hdL))) ++ (numsB [(ls.length : Int)] ++ numsB (ls.flatMap lsL)).take ((numsB [(ls.length : Int)] ++ numsB (ls.flatMap lsL)).length - 1)) := by
    rw [h, ← List.singleton_append, cut_front (by simp only [List.length_append]; omega), cut_front (by simp only [List.length_append]; omega)]
    rfl
  have hd : lb.head? = some 83 := by rw [hcut]; rfl
  have h0 : lb.length ≠ 0 := by rw [hcut]; simp
  have h1 := congrArg (List.drop 1) hcut
  rw [List.drop_succ_cons, List.drop_zero] at h1
  obtain ⟨F, e0, b4⟩ := front n h1
  have key : (sLs lb).2.2 = 10 := by
    rcases Nat.eq_zero_or_pos ls.length with hz | hz
    · have hl : ls = [] := List.eq_nil_of_length_eq_zero hz
      subst hl
      have x5 := rnums_short (fits5 n) (sHs lb).2.1 (by simp) (by rw [b4]; simp [numsB])
      have y5 := g5 lb
      rw [e0] at y5
      rw [y5] at x5
      have hz2 : (sCl lb).2.2 = 10 := x5
      have x7 := rnums_err (lb := lb) (e := (sCl lb).2.2) (by rw [hz2]; decide) (List.replicate (sCl lb).1.toNat lsM).flatten (sCl lb).2.1
      rw [g6] at x7
      have := congrArg Prod.snd x7
      simp only at this
      rw [this, hz2]
    · have hp6 : 1 ≤ (numsB (ls.flatMap lsL)).length := numsB_pos (by rw [flatI_len (s := 6) (fun _ => rfl)]; omega)
      rw [cut_front hp6] at b4
      obtain ⟨a5, b5⟩ := rnums_hit (fits5 n) _ _ b4
      have x5 := g5 lb
      rw [e0, a5] at x5
      simp only [Prod.mk.injEq, List.cons.injEq, and_true] at x5
      obtain ⟨c1, c2⟩ := x5
      have a6 := rnums_short (fits6 n) _ (by rw [flatI_len (s := 6) (fun _ => rfl)]; omega) b5
      have x6 := g6 lb
      rw [← c1, ← c2, Int.toNat_natCast] at x6
      simp only at x6
      rw [x6] at a6
      exact a6
  have h1 : sE1 lb = 10 := by
    unfold sE1
    rw [if_neg (by rw [key]; simp), key]
  unfold sE
  rw [if_neg (by omega), if_neg h0, if_neg (by rw [hd]; simp), if_neg (by rw [h1]; decide), h1]
/-- What is read is written as these bytes. -/
theorem shot_same (hb : Byt lb) (h : sE lb = 0) : ShotOk (sI lb).1 (sT lb).1 (sNs lb).1 (sLim lb).1 (sNxt lb).1 (sHs lb).1 (sLs lb).1 ∧ shotB (sI lb).1 (sT lb).1 (sNs lb).1 (sLim lb).1 (sNxt lb).1 (sHs lb).1 (sLs lb).1 = lb := by
  unfold sE at h
  split at h
  · simp at h
  split at h
  · simp at h
  split at h
  · simp at h
  rename_i hl h0 hd
  split at h
  rotate_left
  · contradiction
  rename_i h1
  have ok : ShotOk (sI lb).1 (sT lb).1 (sNs lb).1 (sLim lb).1 (sNxt lb).1 (sHs lb).1 (sLs lb).1 := by
    rcases Classical.em (ShotOk (sI lb).1 (sT lb).1 (sNs lb).1 (sLim lb).1 (sNxt lb).1 (sHs lb).1 (sLs lb).1) with q | q
    · exact q
    · rw [decide_eq_false q] at h
      simp [errShot] at h
  refine ⟨ok, ?_⟩
  have h2 : (sLs lb).2.2 = 0 := by
    unfold sE1 at h1
    split at h1
    · simp at h1
    · exact h1
  have h3 : lb.length ≤ (sLs lb).2.1 := by
    unfold sE1 at h1
    split at h1
    · simp at h1
    · rename_i hh
      exact Nat.le_of_not_lt fun q => hh ⟨h2, q⟩
  have h0' : 1 ≤ lb.length := by omega
  have p4 := hdM_nn
  have p6 := lsM_nn
  have p2 := rep_nn
  have r1 := rnums_le hb [18446744073709551615, 18446744073709551615, 64] 1 0 (by decide) h0'
  rw [g1] at r1
  have r2 := rnums_le hb (List.replicate (sCn lb).1.toNat 65535) (sCn lb).2.1 (sCn lb).2.2 (p2 _) r1
  rw [g2] at r2
  have r3 := rnums_le hb [65535, 18446744073709551615, 64] (sNs lb).2.1 (sNs lb).2.2 (by decide) r2
  rw [g3] at r3
  have r4 := rnums_le hb (List.replicate (sCh lb).1.toNat hdM).flatten (sCh lb).2.1 (sCh lb).2.2 (p4 _) r3
  rw [g4] at r4
  have r5 := rnums_le hb [64] (sHs lb).2.1 (sHs lb).2.2 (by decide) r4
  rw [g5] at r5
  obtain ⟨e6, t6, _⟩ := rnums_back hb (List.replicate (sCl lb).1.toNat lsM).flatten (sCl lb).2.1 (sCl lb).2.2 (p6 _) r5 (by rw [g6]; exact h2)
  rw [g6] at t6
  obtain ⟨e5, t5, _⟩ := rnums_back hb [64] (sHs lb).2.1 (sHs lb).2.2 (by decide) r4 (by rw [g5]; exact e6)
  rw [g5] at t5
  obtain ⟨e4, t4, _⟩ := rnums_back hb (List.replicate (sCh lb).1.toNat hdM).flatten (sCh lb).2.1 (sCh lb).2.2 (p4 _) r3 (by rw [g4]; exact e5)
  rw [g4] at t4
  obtain ⟨e3, t3, _⟩ := rnums_back hb [65535, 18446744073709551615, 64] (sNs lb).2.1 (sNs lb).2.2 (by decide) r2 (by rw [g3]; exact e4)
  rw [g3] at t3
  obtain ⟨e2, t2, _⟩ := rnums_back hb (List.replicate (sCn lb).1.toNat 65535) (sCn lb).2.1 (sCn lb).2.2 (p2 _) r1 (by rw [g2]; exact e3)
  rw [g2] at t2
  obtain ⟨e1, t1, _⟩ := rnums_back hb [18446744073709551615, 18446744073709551615, 64] 1 0 (by decide) h0' (by rw [g1]; exact e2)
  rw [g1] at t1
  simp only at t1 t2 t3 t4 t5 t6
  have f1 := rnums_fits hb [18446744073709551615, 18446744073709551615, 64] 1 0 (by decide) h0'
  rw [g1] at f1
  have f3 := rnums_fits hb [65535, 18446744073709551615, 64] (sNs lb).2.1 (sNs lb).2.2 (by decide) r2
  rw [g3] at f3
  have f5 := rnums_fits hb [64] (sHs lb).2.1 (sHs lb).2.2 (by decide) r4
  rw [g5] at f5
  have c1 : ((sNs lb).1.length : Int) = (sCn lb).1 := by
    have := (decNodes_mem hb (sCn lb).1.toNat (sCn lb).2.1 (sCn lb).2.2 r1).1
    have e : (sNs lb).1.length = (sCn lb).1.toNat := this
    cases f1 with
    | cons _ _ _ f => cases f with
      | cons _ _ _ f => cases f with
        | cons h _ _ _ => omega
  have c3 : ((sHs lb).1.length : Int) = (sCh lb).1 := by
    have := (decH_mem hb (sCh lb).1.toNat (sCh lb).2.1 (sCh lb).2.2 r3).1
    have e : (sHs lb).1.length = (sCh lb).1.toNat := this
    cases f3 with
    | cons _ _ _ f => cases f with
      | cons _ _ _ f => cases f with
        | cons h _ _ _ => omega
  have c5 : ((sLs lb).1.length : Int) = (sCl lb).1 := by
    have := (decL_mem hb (sCl lb).1.toNat (sCl lb).2.1 (sCl lb).2.2 r5).1
    have e : (sLs lb).1.length = (sCl lb).1.toNat := this
    cases f5 with
    | cons h _ _ _ => omega
  have t0 : lb.take 1 = [83] := by
    cases lb with
    | nil => simp at h0'
    | cons x l =>
      simp only [List.head?_cons, ne_eq, Option.some.injEq, Classical.not_not] at hd
      subst hd
      rfl
  rw [List.take_of_length_le h3, t5, t4, t3, t2, t1, t0] at t6
  rw [shotB_eq, c1, c3, c5]
  refine Eq.trans ?_ t6.symm
  simp only [numsB_append, List.append_assoc, List.singleton_append]
  rfl
/-- Numbers that are read. -/
theorem shot_wf (hb : Byt lb) (h0 : 1 ≤ lb.length) : (0 ≤ (sI lb).1 ∧ (sI lb).1 < 18446744073709551616) ∧ (0 ≤ (sT lb).1 ∧ (sT lb).1 < 18446744073709551616) ∧ (0 ≤ (sNxt lb).1 ∧ (sNxt lb).1 < 18446744073709551616) ∧
    (∀ h ∈ (sHs lb).1, h.Wf) ∧ (∀ x ∈ (sLs lb).1, x.Wf) ∧ (sNs lb).1.length ≤ 64 ∧ (sHs lb).1.length ≤ 64 ∧ (sLs lb).1.length ≤ 64 := by
  have p4 := hdM_nn
  have p2 := rep_nn
  have r1 := rnums_le hb [18446744073709551615, 18446744073709551615, 64] 1 0 (by decide) h0
  rw [g1] at r1
  have r2 := rnums_le hb (List.replicate (sCn lb).1.toNat 65535) (sCn lb).2.1 (sCn lb).2.2 (p2 _) r1
  rw [g2] at r2
  have r3 := rnums_le hb [65535, 18446744073709551615, 64] (sNs lb).2.1 (sNs lb).2.2 (by decide) r2
  rw [g3] at r3
  have r4 := rnums_le hb (List.replicate (sCh lb).1.toNat hdM).flatten (sCh lb).2.1 (sCh lb).2.2 (p4 _) r3
  rw [g4] at r4
  have r5 := rnums_le hb [64] (sHs lb).2.1 (sHs lb).2.2 (by decide) r4
  rw [g5] at r5
  have f1 := rnums_fits hb [18446744073709551615, 18446744073709551615, 64] 1 0 (by decide) h0
  rw [g1] at f1
  have f3 := rnums_fits hb [65535, 18446744073709551615, 64] (sNs lb).2.1 (sNs lb).2.2 (by decide) r2
  rw [g3] at f3
  have f5 := rnums_fits hb [64] (sHs lb).2.1 (sHs lb).2.2 (by decide) r4
  rw [g5] at f5
  obtain ⟨m1, _, _⟩ := decNodes_mem hb (sCn lb).1.toNat (sCn lb).2.1 (sCn lb).2.2 r1
  obtain ⟨m3, w3, _⟩ := decH_mem hb (sCh lb).1.toNat (sCh lb).2.1 (sCh lb).2.2 r3
  obtain ⟨m5, w5, _⟩ := decL_mem hb (sCl lb).1.toNat (sCl lb).2.1 (sCl lb).2.2 r5
  have e1 : (sNs lb).1.length = (sCn lb).1.toNat := m1
  have e3 : (sHs lb).1.length = (sCh lb).1.toNat := m3
  have e5 : (sLs lb).1.length = (sCl lb).1.toNat := m5
  cases f1 with
  | cons a1 a2 _ f => cases f with
    | cons b1 b2 _ f => cases f with
      | cons _ _ k1 _ =>
        cases f3 with
        | cons _ _ _ f => cases f with
          | cons n1 n2 _ f => cases f with
            | cons _ _ k3 _ =>
              cases f5 with
              | cons _ _ k5 _ => exact ⟨⟨a1, a2⟩, ⟨b1, b2⟩, ⟨n1, n2⟩, w3, w5, by omega, by omega, by omega⟩
end
end Go.Proofs.Ytadkkhbbempaaaa
