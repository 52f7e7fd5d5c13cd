/- Texts drawn together (2 of them): words, plain laws and walks that the row leans on. -/
import Derived.Test.YtadkkhbbempaaaaP11
import Derived.Test.YtadkkhbbempaaaaP10
import Derived.Test.YtadkkhbbempaaaaP5
import Derived.Deep.WholeRow
/- The document reads a snapshot: its error, and the code's. -/
namespace Go.Proofs.Ytadkkhbbempaaaa
set_option maxRecDepth 100000
open Go.RowKit

theorem rE_bad {lb : List Int} (hlen : ¬ 8192 < lb.length) (h : rE lb 0 ≠ 0) : sE lb = rE lb 0 := by
  unfold rE rE1 at h ⊢
  rw [if_neg (show ¬ (0 : Int) ≠ 0 by simp)] at h ⊢
  unfold sE
  rw [if_neg hlen]
  by_cases h0 : lb.length = 0
  · rw [if_pos h0, if_pos h0, if_neg (by decide)]
  · rw [if_neg h0] at h ⊢
    rw [if_neg h0]
    by_cases h83 : lb.head? ≠ some 83
    · rw [if_pos h83, if_pos h83, if_neg (by decide)]
    · rw [if_neg h83] at h ⊢
      rw [if_neg h83]
      rw [if_pos rfl] at h ⊢
      have h1 : sE1 lb = (sLs lb).2.2 := by
        unfold sE1
        rw [if_neg (fun hh => h hh.1)]
      rw [h1, if_neg h]
theorem rE_good {lb : List Int} (hlen : ¬ 8192 < lb.length) (h : rE lb 0 = 0) : sE lb = if (sLs lb).2.1 < lb.length then 11 else errShot (decide (ShotOk (sI lb).1 (sT lb).1 (sNs lb).1 (sLim lb).1 (sNxt lb).1 (sHs lb).1 (sLs lb).1)) := by
  unfold rE rE1 at h
  rw [if_neg (show ¬ (0 : Int) ≠ 0 by simp)] at h
  unfold sE
  rw [if_neg hlen]
  by_cases h0 : lb.length = 0
  · rw [if_pos h0, if_neg (by decide)] at h
    exact absurd h (by decide)
  · rw [if_neg h0] at h
    rw [if_neg h0]
    by_cases h83 : lb.head? ≠ some 83
    · rw [if_pos h83, if_neg (by decide)] at h
      exact absurd h (by decide)
    · rw [if_neg h83, if_pos rfl] at h
      rw [if_neg h83]
      have h1 : sE1 lb = if (sLs lb).2.1 < lb.length then 11 else 0 := by
        unfold sE1
        by_cases hl : (sLs lb).2.1 < lb.length
        · rw [if_pos ⟨h, hl⟩, if_pos hl]
        · rw [if_neg (fun hh => hl hh.2), if_neg hl, h]
      rw [h1]
      by_cases hl : (sLs lb).2.1 < lb.length
      · rw [if_pos hl, if_pos hl, if_neg (by decide)]
      · rw [if_neg hl, if_neg hl, if_pos rfl]
end Go.Proofs.Ytadkkhbbempaaaa

/- Records read: the document's Decode. -/
namespace Go.Proofs.Ytadkkhbbempaaaa
set_option maxRecDepth 100000
set_option linter.unusedSimpArgs false
open Go.RowKit

structure HX (w W : World) (g gx gr b c : Nat) (lb : List Int) (cs : Array Value) (k : Nat) (e : Int) : Prop where
  res : Blk W g 48 (recC rc0 ra0)
  rc : Blk W gx 48 cs
  rd : RS W gr (some ⟨b, 0, none⟩) c lb 0 lb k e
  by_ : By W b lb
  bel : Below g w W
structure HXO (g gx gr c : Nat) (lb : List Int) : Prop where
  o1 : g < gx
  o2 : g < gr
  byt : Byt lb
  cap : lb.length ≤ c
  small : lb.length ≤ 8000
section
variable {w W : World} {g gx gr b c : Nat} {lb : List Int} {cs : Array Value} {k : Nat} {e : Int}
theorem HX.in8 (h : HX w W g gx gr b c lb cs k e) (o : HXO g gx gr c lb) : In8 W (some ⟨b, 0, none⟩) c lb := h.by_.in8 o.byt o.cap (by have := o.small; omega)
theorem HX.ner (h : HX w W g gx gr b c lb cs k e) : gx ≠ gr ∧ b ≠ gr ∧ b ≠ gx ∧ gr < W.heap.size := by
  obtain ⟨_, k', hb, _⟩ := h.rd
  exact ⟨h.rc.ne_ hb (by decide), h.by_.ne hb (by decide), h.by_.ne h.rc (by decide), hb.lt⟩
theorem HX.grow {W1 : World} {k1 : Nat} {e1 : Int} (h : HX w W g gx gr b c lb cs k e) (o : HXO g gx gr c lb) (hr : RS W1 gr (some ⟨b, 0, none⟩) c lb 0 lb k1 e1) (hg : W.grownBy W1 (some gr)) : HX w W1 g gx gr b c lb cs k1 e1 := by
  obtain ⟨n1, n2, n3, n4⟩ := h.ner
  have o1 := o.o1
  have o2 := o.o2
  exact ⟨h.res.grown hg (fun e => by injection e with e; omega), h.rc.grown hg (fun e => n1 (Option.some.inj e)), hr, h.by_.grown hg (fun e => n2 (Option.some.inj e)), h.bel.grown hg (Nat.le_of_lt h.res.lt) (fun i hi => by injection hi with hi; omega)⟩
theorem HX.num (h : HX w W g gx gr b c lb cs k e) (o : HXO g gx gr c lb) :
    Calls Try.prog 58 #[.pointer (some ⟨gr, 0, none⟩)] W fun x w' => x = .returned (.int .u64 (rnum lb k e M64).1) ∧ HX w w' g gx gr b c lb cs (rnum lb k e M64).2.1 (rnum lb k e M64).2.2 :=
  (refR_NumS W gr (some ⟨b, 0, none⟩) c lb 0 lb k e (h.in8 o) h.rd).mono fun _ _ ⟨h1, h2, h3⟩ => ⟨h1, h.grow o h2 h3⟩
theorem HX.small (h : HX w W g gx gr b c lb cs k e) (o : HXO g gx gr c lb) :
    Calls Try.prog 59 #[.pointer (some ⟨gr, 0, none⟩), .int .i64 65535] W fun x w' => x = .returned (.int .i64 (rnum lb k e 65535).1) ∧ HX w w' g gx gr b c lb cs (rnum lb k e 65535).2.1 (rnum lb k e 65535).2.2 :=
  (refR_Small W gr (some ⟨b, 0, none⟩) c lb 0 lb k e 65535 (Nat.le_refl _) (h.in8 o) h.rd).mono fun _ _ ⟨h1, h2, h3⟩ => ⟨h1, h.grow o h2 h3⟩
theorem HX.below {W1 : World} (h : HX w W g gx gr b c lb cs k e) (hb : Below W.heap.size W W1) : HX w W1 g gx gr b c lb cs k e := by
  obtain ⟨n1, n2, n3, n4⟩ := h.ner
  exact ⟨h.res.below hb h.res.lt, h.rc.below hb h.rc.lt, h.rd.below hb n4, h.by_.below hb h.by_.lt, h.bel.trans (hb.mono (Nat.le_of_lt h.res.lt))⟩
theorem HX.set {l : List Value} (h : HX w W g gx gr b c lb l.toArray k e) (o : HXO g gx gr c lb) (j : Nat) (u : Value) : HX w (W.setCell ⟨gx, j, none⟩ u) g gx gr b c lb (l.set j u).toArray k e := by
  obtain ⟨n1, n2, n3, n4⟩ := h.ner
  have o1 := o.o1
  exact ⟨h.res.far (p := ⟨gx, j, none⟩) (by show g ≠ gx; omega) u, h.rc.setL j u, h.rd.far (only_setCell (p := ⟨gx, j, none⟩) (World.grownBy.refl W (some gx)) (.inl rfl) u) (fun e => n1 e.symm),
    h.by_.of_block (Below.heap_setCell W ⟨gx, j, none⟩ u b n3), h.bel.setCell (p := ⟨gx, j, none⟩) (by show g ≤ gx; omega) u⟩
theorem HX.mid {l : List Value} (h : HX w W g gx gr b c lb l.toArray k e) (o : HXO g gx gr c lb) (vs : List Value) (f : Nat) : HX w (W.setCells gx f vs) g gx gr b c lb (midL l f vs).toArray k e := by
  induction vs generalizing W l f with
  | nil => exact h
  | cons v vs ih => exact ih (h.set o f v) (f + 1)
end
theorem rnum_65 (l : List Int) (k : Nat) (e : Int) : ((rnum l k e M64).1 > 65535 ∧ (rnum l k e 65535).2.2 = 11 ∧ (rnum l k e M64).2.2 = 0) ∨ ((rnum l k e M64).1 ≤ 65535 ∧ rnum l k e 65535 = rnum l k e M64) := by
  unfold rnum
  by_cases h1 : e ≠ 0
  · rw [if_pos h1, if_pos h1]
    exact .inr ⟨by show (0 : Int) ≤ 65535; omega, rfl⟩
  rw [if_neg h1, if_neg h1]
  by_cases h2 : (readN (l.drop k)).2.2 ≠ 0
  · rw [if_pos h2, if_pos h2]
    exact .inr ⟨by show (0 : Int) ≤ 65535; omega, rfl⟩
  rw [if_neg h2, if_neg h2]
  by_cases h3 : (readN (l.drop k)).1 > M64
  · rw [if_pos h3]
    have h4 : (readN (l.drop k)).1 > 65535 := by have : M64 = 18446744073709551615 := rfl; omega
    rw [if_pos h4]
    exact .inr ⟨by show (0 : Int) ≤ 65535; omega, rfl⟩
  · rw [if_neg h3]
    by_cases h4 : (readN (l.drop k)).1 > 65535
    · rw [if_pos h4]
      exact .inl ⟨h4, rfl, rfl⟩
    · rw [if_neg h4]
      exact .inr ⟨by show (readN (l.drop k)).1 ≤ 65535; omega, rfl⟩
set_option maxHeartbeats 4000000 in
/-- A command read by a reader that has failed. -/
theorem refR_Cmd_err (w : World) (gr : Nat) (A : Option Addr) (c : Nat) (LB : List Int) (K : Nat) (lb : List Int) (k : Nat) (e : Int) (he : e ≠ 0) (h : ∀ W, w.grownBy W (some gr) → In8 W A c LB) (hb : RS w gr A c LB K lb k e) :
    Calls Try.prog 60 #[.pointer (some ⟨gr, 0, none⟩)] w fun x w' => x = .returned (cmdV 0 0 0 (.slice none 0 0) 0 0 0 0) ∧ RS w' gr A c LB K lb k e ∧ w.grownBy w' (some gr) := by
  have HIN := Lib.hid h
  have hlt0 := hb.lt
  obtain ⟨g, hg⟩ : ∃ g, w.heap.size = g := ⟨_, rfl⟩
  obtain ⟨gc, hgc⟩ : ∃ gc, g + 1 = gc := ⟨_, rfl⟩
  have hBx : Below g w ((w.alloc (.cells (cmdCells 0 0 0 (.slice none 0 0) 0 0 0 0) 44)).alloc (.cells (cmdCells 0 0 0 (.slice none 0 0) 0 0 0 0) 44)) := ((Below.refl _ _).alloc (by omega) _).alloc (by simp; omega) _
  have hs1 : (w.alloc (.cells (cmdCells 0 0 0 (.slice none 0 0) 0 0 0 0) 44)).heap.size = gc := by simp [hg, hgc]
  have hb1 : Blk ((w.alloc (.cells (cmdCells 0 0 0 (.slice none 0 0) 0 0 0 0) 44)).alloc (.cells (cmdCells 0 0 0 (.slice none 0 0) 0 0 0 0) 44)) g 44 (cmdCells 0 0 0 (.slice none 0 0) 0 0 0 0) := (hg ▸ Blk.new w 44 (cmdCells 0 0 0 (.slice none 0 0) 0 0 0 0) : Blk (w.alloc (.cells (cmdCells 0 0 0 (.slice none 0 0) 0 0 0 0) 44)) g 44 (cmdCells 0 0 0 (.slice none 0 0) 0 0 0 0)).alloc _
  have hc1 : Blk ((w.alloc (.cells (cmdCells 0 0 0 (.slice none 0 0) 0 0 0 0) 44)).alloc (.cells (cmdCells 0 0 0 (.slice none 0 0) 0 0 0 0) 44)) gc 44 (cmdCells 0 0 0 (.slice none 0 0) 0 0 0 0) := hs1 ▸ Blk.new _ _ _
  have hz1 : ((w.alloc (.cells (cmdCells 0 0 0 (.slice none 0 0) 0 0 0 0) 44)).alloc (.cells (cmdCells 0 0 0 (.slice none 0 0) 0 0 0 0) 44)).heap.size = g + 2 := by simp [hg]
  have hr1 := hb.below hBx (by omega)
  have hG1 := only_of_below (hg ▸ hBx) (some gr)
  have HE := Lib.hid he
  clear hs1 hBx h hb he
  go_enter Try.func60, Try.ntmps60
  go_upto_region 2 with (fail)
  change Code.wp _ _ _ _ ((w.alloc (.cells (cmdCells 0 0 0 (.slice none 0 0) 0 0 0 0) 44)).alloc (.cells (cmdCells 0 0 0 (.slice none 0 0) 0 0 0 0) 44))
  generalize ((w.alloc (.cells (cmdCells 0 0 0 (.slice none 0 0) 0 0 0 0) 44)).alloc (.cells (cmdCells 0 0 0 (.slice none 0 0) 0 0 0 0) 44)) = W0 at hb1 hc1 hz1 hr1 hG1 ⊢
  try rw [hgc]
  have C1 := refR_Small W0 gr A c LB K lb k e 6 (by omega) (HIN.out _ hG1) hr1
  have e6 : ((6 : Nat) : Int) = 6 := rfl
  rw [e6, rnum_err HE.out] at C1
  simp only at C1
  have C1 := Lib.hid C1
  have hgr0 : gr < g := by omega
  clear hr1 e6
  go_wp2_with fail
  refine C1.out.mono ?_
  rintro x w1 ⟨rfl, hr2, hg2⟩
  have hne : ∀ i, i ≠ gr → some i ≠ some gr := fun i hi hh => hi (by injection hh)
  have hb2 := hb1.grown hg2 (hne _ (by omega))
  have hc2 := hc1.grown hg2 (hne _ (by omega))
  have hG2 := World.grownBy.trans hG1 hg2
  have hz2 : g + 2 ≤ w1.heap.size := by have := hg2.size; omega
  have y0 := hc2.frozen 0
  have x0 : w1.cell? ⟨gc, 0, none⟩ = some (.int .i64 0) := hc2.cmd.c0
  clear hb1 hc1 hG1 hg2 hz1 C1
  go_upto_region 3 with (fail)
  have hGc : w1.grownBy (w1.setCell ⟨gc, 0, none⟩ (.int .i64 0)) (some gc) := only_setCell (p := ⟨gc, 0, none⟩) (World.grownBy.refl w1 (some gc)) (.inl rfl) _
  have hnc : ∀ i, i ≠ gc → some i ≠ some gc := fun i hi hh => hi (by injection hh)
  have hb3 := hb2.grown hGc (hnc _ (by omega))
  have hc3 : Blk (w1.setCell ⟨gc, 0, none⟩ (.int .i64 0)) gc 44 (cmdCells 0 0 0 (.slice none 0 0) 0 0 0 0) := Blk.setL (l := [Value.int .i64 0, .int .i64 0, .int .i64 0, .slice none 0 0, .int .u64 0, .int .u64 0, .int .u64 0, .int .u64 0]) hc2 0 _
  have hr3 := hr2.far hGc (by omega)
  have hG3 := grown_out hG2 hGc (by omega)
  have hz3 : g + 2 ≤ (w1.setCell ⟨gc, 0, none⟩ (.int .i64 0)).heap.size := by have := hGc.size; omega
  generalize w1.setCell ⟨gc, 0, none⟩ (.int .i64 0) = W3 at hb3 hc3 hr3 hG3 hz3 ⊢
  clear hb2 hc2 hG2 hGc hr2 hz2 x0 y0 hnc
  obtain ⟨c0, c1, c2, c3, c4, c5, c6, c7⟩ := hc3.cmd
  have CF := Lib.hid (fun W => ref_fields_any W 0)
  go_wp2_with fail
  refine (CF.out _).mono ?_
  rintro x w4 ⟨rfl, rfl⟩
  clear CF
  have hI : kI 0 = false := by decide
  have hfl : fld 0 = ⟨#[]⟩ := by simp [fld]
  obtain ⟨hlb, k', hbr, hle', hk'⟩ := hr3
  have HLB := Lib.hid hlb
  have CX := ref_Fail_any w4 gr A LB.length c k' e 11 hbr
  rw [if_neg HE.out] at CX
  have CX := Lib.hid CX
  have HB := Lib.hid hb3
  have HC := Lib.hid hc3
  have HG := Lib.hid hG3
  have HKE := Lib.hid hk'
  clear hbr hb3 hc3 hG3 c0 c1 c2 c3 c4 c5 c6 c7 hk' hlb
  go_wp2_with fail
  refine CX.out.mono ?_
  rintro x w5 ⟨rfl, hr5, hg5⟩
  have hb5 := HB.out.grown hg5 (hne _ (by omega))
  have hc5 := HC.out.grown hg5 (hne _ (by omega))
  have HG5 : Hid (w.grownBy w5 (some gr)) := World.grownBy.trans HG.out hg5
  have HR5 : Hid (RS w5 gr A c LB K lb k e) := ⟨HLB.out, k', hr5, hle', HKE.out⟩
  obtain ⟨c0, c1, c2, c3, c4, c5, c6, c7⟩ := hc5.cmd
  obtain ⟨z0, z1, z2, z3, z4, z5, z6, z7⟩ := hb5.cmd
  have y0 := hb5.frozen 0
  have y1 := hb5.frozen 1
  have y2 := hb5.frozen 2
  have y3 := hb5.frozen 3
  have y4 := hb5.frozen 4
  have y5 := hb5.frozen 5
  have y6 := hb5.frozen 6
  have y7 := hb5.frozen 7
  have HB5 := Lib.hid hb5
  clear hr5 hg5 hb5 hc5 HB HC HG HKE CX
  have hn2 : gc ≠ g := by omega
  have hn4 : g ≠ gc := by omega
  go_wp2
  have hrF := Blk.set8 HB5.out (.int .i64 0) (.int .i64 0) (.int .i64 0) (.slice none 0 0) (.int .u64 0) (.int .u64 0) (.int .u64 0) (.int .u64 0)
  have hG8 := grown_set8 w5 g (.int .i64 0) (.int .i64 0) (.int .i64 0) (.slice none 0 0) (.int .u64 0) (.int .u64 0) (.int .u64 0) (.int .u64 0)
  refine bodyPost_ret (results_cell1 rfl rfl (run_loadVar_row _ _ _ _ _ (0, 0) _ hrF Try.underlying44 rfl info_Cmd)) rfl ?_
  exact ⟨rfl, HR5.out.far hG8 (by omega), grown_out HG5.out hG8 (by omega)⟩
theorem HX.cmd {w W : World} {g gx gr b c : Nat} {lb : List Int} {cs : Array Value} {k : Nat} {e : Int} (v5 v6 : Int) (hv6 : 0 ≤ v6 ∧ v6 < 18446744073709551616) (h : HX w W g gx gr b c lb cs k e) (o : HXO g gx gr c lb) (he : e = 0 ∨ e = 10 ∨ e = 11) :
    Calls Try.prog 60 #[.pointer (some ⟨gr, 0, none⟩)] W fun x w' => ∃ (en : En) (A7 : Option Addr) (c7 k7 : Nat) (e7 : Int), x = .returned (cmdV en.k en.n en.t (.slice A7 en.l.length c7) en.b en.q en.s en.m) ∧ en.tm = v6 ∧ en.Wf ∧ InN .i64 w' A7 c7 en.l ∧
      (∀ b, (Value.slice A7 en.l.length c7).ownBlock = some b → W.heap.size ≤ b) ∧ HX w w' g gx gr b c lb cs k7 e7 ∧ e7 ≠ 60 ∧ (if e = 0 then addD v5 v6 (lb.drop k) else fin lb e k (rcA v5 v6)) = fin lb e7 k7 (rcE v5 en) := by
  obtain ⟨n1, n2, n3, n4⟩ := h.ner
  have hin : ∀ W', W.grownBy W' (some gr) → In8 W' (some ⟨b, 0, none⟩) c lb := fun W' hg => (h.by_.grown hg (fun e => n2 (Option.some.inj e))).in8 o.byt o.cap (by have := o.small; omega)
  by_cases e0 : e = 0
  rotate_left
  · refine (refR_Cmd_err W gr (some ⟨b, 0, none⟩) c lb 0 lb k e e0 hin h.rd).mono ?_
    rintro x w' ⟨rfl, hr, hg⟩
    exact ⟨⟨v6, 0, 0, 0, [], 0, 0, 0, 0⟩, none, 0, k, e, rfl, rfl, ⟨hv6, wf0, wf0, wf0, Nat.zero_le _, wfu0, wfu0, wfu0, wfu0⟩, InN.nil, (fun b hb => by cases hb), h.grow o hr hg, by omega, by
      have q60 : ¬ e = 60 := by omega
      simp only [if_neg e0, fin, if_neg q60, if_pos e0, ne_eq, e0, not_false_eq_true, if_true, if_false]⟩
  subst e0
  obtain ⟨_, k', hblk, hle, hk'⟩ := h.rd
  obtain ⟨q1, q2⟩ := hk' rfl
  have hrs : RS W gr (some ⟨b, 0, none⟩) c lb k (lb.drop k) 0 0 := ⟨rfl, k', hblk, hle, fun _ => ⟨by omega, q2⟩⟩
  refine (refR_Cmd W gr (some ⟨b, 0, none⟩) c lb k (lb.drop k) hin hrs).mono ?_
  rintro x w' ⟨v, L', rfl, hown, hL7, hwfs, hL, ⟨_, k2, hb2, hle2, hk2⟩, hg⟩
  obtain ⟨A7, c7, rfl, hin7⟩ := InN.own hown hwfs (by omega)
  obtain ⟨l9, hl9⟩ : ∃ l9, lb.drop k = l9 := ⟨_, rfl⟩
  have hb9 : Byt l9 := hl9 ▸ o.byt.drop k
  have hl : lb.length - k = l9.length := by rw [← hl9, List.length_drop]
  rw [hl9, fin_eq] at hL hb2 hk2
  rw [hl9, fin_eq]
  simp only at hL hb2 hk2 ⊢
  have E := enD_wf hb9 hv6 (tm := v6)
  have hd := dm_errs l9
  refine ⟨⟨v6, (dK l9).1, (dn l9).1, (dt l9).1, L', (db l9).1, (dq l9).1, (ds l9).1, (dm l9).1⟩, A7, c7, k + (dm l9).2.1, (dm l9).2.2, rfl, rfl, ⟨E.tm, E.k, E.n, E.t, by show L'.length ≤ _; omega, E.b, E.q, E.s, E.m⟩, hin7, ?_, h.grow o ⟨rfl, k2, hb2, hle2, fun q => ⟨by have := hk2 q; omega, (hk2 q).2⟩⟩ hg, by omega, ?_⟩
  · exact fun b hb => own_base hown b hb
  rw [if_pos trivial]
  by_cases hm : (dm l9).2.2 = 0
  · obtain rfl := hL hm
    have hen : (⟨v6, (dK l9).1, (dn l9).1, (dt l9).1, (dL l9).1, (db l9).1, (dq l9).1, (ds l9).1, (dm l9).1⟩ : En) = enD v6 l9 := rfl
    rw [hen, fin, if_neg (show ¬ (dm l9).2.2 = 60 by omega), if_neg (show ¬ (dm l9).2.2 ≠ 0 by rw [hm]; simp), addD]
    have hlt : (k + (dm l9).2.1 < lb.length) = ((dm l9).2.1 < l9.length) := propext (by omega)
    simp only [hlt]
    cases ho : (enD v6 l9).ok
    · have h40 : dE l9 = 40 := by
        rw [dE, if_pos hm]
        show errCmd (enD v6 l9).ok = 40
        rw [ho]; rfl
      rw [if_pos h40, aE_eq hb9 h40]
      by_cases hk : (dm l9).2.1 < l9.length
      · rw [if_pos hk, if_pos hk]
      · rw [if_neg hk, if_neg hk, if_neg]
        rintro ⟨_, hkd⟩
        simp [Rc.kind, rcE, ho] at hkd
    · have h0 : dE l9 = 0 := by
        rw [dE, if_pos hm]
        show errCmd (enD v6 l9).ok = 0
        rw [ho]; rfl
      rw [h0, if_neg (by decide), if_neg (by simp)]
  · have hde : dE l9 = (dm l9).2.2 := by rw [dE, if_neg hm]
    rw [addD, fin, hde, if_neg (show ¬ (dm l9).2.2 = 40 by omega), if_pos hm, if_neg (show ¬ (dm l9).2.2 = 60 by omega), if_pos hm]
theorem dHd_errs (l : List Int) (k : Nat) {e : Int} (he : e = 0 ∨ e = 10 ∨ e = 11) : (dHd l k e).2.2 = 0 ∨ (dHd l k e).2.2 = 10 ∨ (dHd l k e).2.2 = 11 := by
  unfold dHd
  exact rnum_errs _ _ (rnum_errs _ _ (rnum_errs _ _ (rnum_errs _ _ (rnum_errs _ _ he))))
theorem dLs_errs (l : List Int) (k : Nat) {e : Int} (he : e = 0 ∨ e = 10 ∨ e = 11) : (dLs l k e).2.2 = 0 ∨ (dLs l k e).2.2 = 10 ∨ (dLs l k e).2.2 = 11 := by
  unfold dLs
  exact rnum_errs _ _ (rnum_errs _ _ (rnum_errs _ _ (rnum_errs _ _ (rnum_errs _ _ (rnum_errs _ _ he)))))
theorem decH_errs (l : List Int) : ∀ (c k : Nat) {e : Int}, (e = 0 ∨ e = 10 ∨ e = 11) → (decH l c k e).2.2 = 0 ∨ (decH l c k e).2.2 = 10 ∨ (decH l c k e).2.2 = 11
  | 0, _, _, he => he
  | c + 1, k, e, he => decH_errs l c (dHd l k e).2.1 (dHd_errs l k he)
theorem decL_errs (l : List Int) : ∀ (c k : Nat) {e : Int}, (e = 0 ∨ e = 10 ∨ e = 11) → (decL l c k e).2.2 = 0 ∨ (decL l c k e).2.2 = 10 ∨ (decL l c k e).2.2 = 11
  | 0, _, _, he => he
  | c + 1, k, e, he => decL_errs l c (dLs l k e).2.1 (dLs_errs l k he)
theorem rE_60 (l : List Int) : rE l 0 ≠ 60 := by
  have h : (sLs l).2.2 = 0 ∨ (sLs l).2.2 = 10 ∨ (sLs l).2.2 = 11 := by
    unfold sLs sCl
    refine decL_errs l _ _ (rnum_errs _ _ ?_)
    unfold sHs sCh
    refine decH_errs l _ _ (rnum_errs _ _ ?_)
    unfold sNxt sLim
    refine rnum_errs _ _ (rnum_errs _ _ ?_)
    unfold sNs sCn sT sI
    exact decNodes_errs _ _ _ _ (rnum_errs _ _ (rnum_errs _ _ (rnum_errs _ _ (.inl rfl))))
  unfold rE rE1
  split
  · omega
  · split <;> (try split) <;> (try split) <;> omega
theorem HX.shot {w W : World} {g gx gr b c : Nat} {lb : List Int} {cs : Array Value} (h : HX w W g gx gr b c lb cs 0 0) (o : HXO g gx gr c lb) :
    Calls Try.prog 61 #[.pointer (some ⟨gr, 0, none⟩)] W fun x w' => ∃ (sh : Sh) (sa : Sa) (k7 : Nat) (e7 : Int), x = .returned (shtV sh sa) ∧ sh.Wf ∧ InSh w' sh sa ∧ Far W.heap.size sh sa ∧ HX w w' g gx gr b c lb cs k7 e7 ∧ e7 ≠ 60 ∧
      fin lb (sE lb) lb.length ⟨5, 0, 0, 0, 0, en0, if sE lb = 0 then shD lb else sh0⟩ = fin lb e7 k7 ⟨5, 0, 0, 0, 0, en0, sh⟩ := by
  obtain ⟨n1, n2, n3, n4⟩ := h.ner
  have hin : ∀ W', W.grownBy W' (some gr) → In8 W' (some ⟨b, 0, none⟩) c lb := fun W' hg => (h.by_.grown hg (fun e => n2 (Option.some.inj e))).in8 o.byt o.cap (by have := o.small; omega)
  obtain ⟨_, k', hblk, hle, hk'⟩ := h.rd
  obtain ⟨q1, q2⟩ := hk' rfl
  have hsm := o.small
  refine (r06_Read_walk W gr (some ⟨b, 0, none⟩) c lb 0 lb rfl k' 0 hin hblk q2 (fun _ => by omega)).mono ?_
  rintro x w' ⟨i, t, vn, ns, lim, nxt, vh, hs, vl, ls, rfl, on, oh, ol, ok, heq, ⟨kx, hkx, hr⟩, hg⟩
  have okns := ok.nsl
  have okhs := ok.hsl
  have okls := ok.lsl
  obtain ⟨A0, c0, rfl, i0⟩ := InN.own on (fun z hz => wf_small (ok.ns z hz).1 (ok.ns z hz).2) (by omega)
  obtain ⟨A1, c1, rfl, i1⟩ := InS.own oh (by omega)
  obtain ⟨A2, c2, rfl, i2⟩ := InS.own ol (by omega)
  have h60 : rE lb 0 ≠ 60 := rE_60 lb
  refine ⟨⟨i, t, ns, lim, nxt, hs, ls⟩, ⟨A0, c0, A1, c1, A2, c2⟩, kx, rE lb 0, rfl, ⟨ok.i, ok.t, by show ns.length ≤ _; omega, wf_small ok.lim.1 ok.lim.2, ok.nxt, ok.hs, ok.ls⟩, ⟨i0, i1, i2⟩, ⟨fun b hb => own_base on b hb, fun b hb => own_base oh b hb, fun b hb => own_base ol b hb⟩, h.grow o hr hg, h60, ?_⟩
  by_cases hE : rE lb 0 = 0
  · obtain ⟨rfl, rfl, rfl, rfl, rfl, rfl, rfl⟩ := heq hE
    have hk := hkx hE
    subst hk
    have hsE := rE_good (lb := lb) (by omega) hE
    have hsh : (⟨(sI lb).1, (sT lb).1, (sNs lb).1, (sLim lb).1, (sNxt lb).1, (sHs lb).1, (sLs lb).1⟩ : Sh) = shD lb := rfl
    rw [hsh, hE]
    have r0 : ∀ (k : Nat) (r : Rc), fin lb 0 k r = if k < lb.length then (11, rc0) else if r.May then (0, r) else (130, rc0) := fun k r => by
      rw [fin, if_neg (show ¬ (0 : Int) = 60 by decide), if_neg (show ¬ (0 : Int) ≠ 0 by simp)]
    rw [r0]
    by_cases hk : (sLs lb).2.1 < lb.length
    · rw [if_pos hk] at hsE
      rw [if_pos hk, hsE]
      rfl
    · rw [if_neg hk] at hsE
      rw [if_neg hk]
      by_cases hs : ShotOk (sI lb).1 (sT lb).1 (sNs lb).1 (sLim lb).1 (sNxt lb).1 (sHs lb).1 (sLs lb).1
      · rw [decide_eq_true hs] at hsE
        have hsE : sE lb = 0 := hsE
        rw [hsE, if_pos rfl, r0, if_neg (Nat.lt_irrefl _)]
      · rw [decide_eq_false hs] at hsE
        have hsE : sE lb = 60 := hsE
        rw [hsE, fin, if_pos rfl, if_neg]
        rintro ⟨_, hkd⟩
        simp only [Rc.kind] at hkd
        rcases hkd with q | q | q | q | q
        all_goals first | exact hs q.2 | exact absurd q.1 (by decide)
  · have hsE := rE_bad (lb := lb) (by omega) hE
    rw [hsE, fin, fin, if_neg h60, if_pos hE, if_neg h60, if_pos hE]

set_option maxHeartbeats 40000000 in
theorem r13_Decode_any (w : World) (s : ByteArray) :
    Calls Try.prog 29 #[.string s] w fun x w' => Below w.heap.size w w' ∧ ∃ a, x = .returned (.tuple #[recV (hD (bytes s)).2 a, .int .i64 (hD (bytes s)).1]) ∧ InR w' (hD (bytes s)).2 a := by
  obtain ⟨g, hg⟩ : ∃ g, w.heap.size = g := ⟨_, rfl⟩
  rw [hg]
  have hlen := bytes_length s
  obtain ⟨DD, hDD⟩ : ∃ DD, hD (bytes s) = DD := ⟨_, rfl⟩
  have HDD : Hid (DD = hD (bytes s)) := hDD.symm
  rw [hDD]
  clear hDD
  have hBx : Below g w (w.alloc (.cells (recC rc0 ra0) 48)) := (Below.refl _ _).alloc (by omega) _
  have hr1 : Blk (w.alloc (.cells (recC rc0 ra0) 48)) g 48 (recC rc0 ra0) := hg ▸ Blk.new _ _ _
  unfold recV
  go_enter Try.func29, Try.ntmps29
  go_upto_region 1 with (fail)
  change Code.wp _ _ _ _ (w.alloc (.cells (recC rc0 ra0) 48))
  generalize (w.alloc (.cells (recC rc0 ra0) 48)) = W at hr1 hBx ⊢
  try rw [hg]
  by_cases h1 : 8000 < s.size
  · have d1 : decide ((s.size : Int) > 8000) = true := decide_eq_true (by omega)
    have HV : Hid (DD = (2, rc0)) := by
      show _ = _
      rw [HDD.out, hD, if_pos (by omega)]
    clear h1
    go_wp2_with (refine wpList_store_row rfl 48 _ _ rfl g (recC rc0 ra0) rfl rfl 48 (recC rc0 ra0) hr1 info_Rec rfl (recC_one _ _) ?_)
    (try simp only [Exit.inBlock, Exit.then])
    refine bodyPost_ret (results_cell rfl rfl (run_loadVar_row _ g 48 48 _ (0, 0) _ (Blk.row (cs := recC rc0 ra0) hr1) Try.underlying48 rfl info_Rec)) rfl ?_
    exact ⟨row_below hBx (Nat.le_refl _) _, ra0, by have hv := HV.out; subst hv; rfl, by have hv := HV.out; subst hv; exact InR.zero _⟩
  have d1 : decide ((s.size : Int) > 8000) = false := decide_eq_false (by omega)
  by_cases h2 : s.size = 0
  · have d2 : (s.toList == []) = true := by
      have : s.toList = [] := List.eq_nil_of_length_eq_zero (by rw [ByteArray.toList_eq]; simpa using h2)
      rw [this]; rfl
    have HV : Hid (DD = (10, rc0)) := by
      show _ = _
      rw [HDD.out, hD, if_neg (by omega), if_pos (by omega)]
    clear h1
    go_wp2_with (refine wpList_store_row rfl 48 _ _ rfl g (recC rc0 ra0) rfl rfl 48 (recC rc0 ra0) hr1 info_Rec rfl (recC_one _ _) ?_)
    (try simp only [Exit.inBlock, Exit.then])
    refine bodyPost_ret (results_cell rfl rfl (run_loadVar_row _ g 48 48 _ (0, 0) _ (Blk.row (cs := recC rc0 ra0) hr1) Try.underlying48 rfl info_Rec)) rfl ?_
    exact ⟨row_below hBx (Nat.le_refl _) _, ra0, by have hv := HV.out; subst hv; rfl, by have hv := HV.out; subst hv; exact InR.zero _⟩
  have d2 : (s.toList == []) = false := by
    rw [beq_eq_false_iff_ne]
    intro h
    have := congrArg List.length h
    rw [ByteArray.toList_eq] at this
    exact h2 (by simpa using this)
  have h0 : 0 < s.size := by omega
  have hs8 : s.size ≤ 8000 := by omega
  have hfact : ∃ (z : Int) (s2 : ByteArray), (0 ≤ z ∧ z ≤ 255) ∧ bytes s = z :: bytes s2 ∧ (∀ w, (Instr.index 9 (.string s) (.int .i64 0)).run Try.prog w = .ok (.int .u8 z) w) ∧ (∀ w, (Instr.slice 9 (.string s) (some (.int .i64 1)) none none).run Try.prog w = .ok (.string s2) w) := str_cut s h0
  obtain ⟨z, s2, hz, hbs, hix, hsl⟩ := hfact
  have hl2 : s2.size + 1 = s.size := by
    have := congrArg List.length hbs
    rw [List.length_cons, bytes_length, bytes_length] at this
    omega
  have hz1 := hz.1
  have hz2 := hz.2
  have wz : IntKind.i64.wrap z = z := by rw [IntKind.wrap_i64]; omega
  have HV : Hid (DD = recD z (bytes s2)) := by
    show _ = _
    rw [HDD.out, hD, if_neg (by omega), if_neg (by omega), hbs]
    rfl
  have hcv : ∀ w, (convert 9 75 (.string s2)).run Try.prog w = .ok (.slice (some ⟨w.heap.size, 0, none⟩) s2.size (grownCap w s2.size 0 5)) (Lib.bytesWorld w 5 s2) := fun w => Lib.run_convert_string_bytes w _ _ _ s2 Try.underlying9 Try.underlying75 Try.underlying5
  have hgl : g < W.heap.size := hr1.lt
  have hx1 := Blk.new W 48 (recC (rcK z) ra0)
  have hr2 := hr1.alloc (.cells (recC (rcK z) ra0) 48)
  have hB2 := hBx.alloc (Nat.le_of_lt hgl) (.cells (recC (rcK z) ra0) 48)
  clear hr1 hBx HDD h1 h2 hbs hlen
  go_upto_region 6 with (refine wpList_store_row rfl 48 _ _ rfl W.heap.size (recC (rcK z) ra0) rfl rfl 48 (recC rc0 ra0) (Blk.new W 48 _) info_Rec rfl (recC_one _ _) ?_; rw [World.setRow_alloc_new])
  obtain ⟨gx, hgx⟩ : ∃ gx, W.heap.size = gx := ⟨_, rfl⟩
  change Code.wp _ _ _ _ (W.alloc (.cells (recC (rcK z) ra0) 48))
  rw [hgx] at hx1
  have hgg : g < gx := hgx ▸ hgl
  generalize (W.alloc (.cells (recC (rcK z) ra0) 48)) = W1 at hx1 hr2 hB2 ⊢
  try rw [hgx]
  clear hgx hgl
  go_upto_region 7 with (fail)
  have hr4 := (hr2.below (conv_below W1 s2) hr2.lt).alloc (.cells (rdCells (some ⟨W1.heap.size, 0, none⟩) s2.size (grownCap W1 s2.size 0 5) 0 0) 90)
  have hx4 := (hx1.below (conv_below W1 s2) hx1.lt).alloc (.cells (rdCells (some ⟨W1.heap.size, 0, none⟩) s2.size (grownCap W1 s2.size 0 5) 0 0) 90)
  have hy4 := (by_conv W1 s2).below (B := (Lib.bytesWorld W1 5 s2).heap.size) ((Below.refl _ _).alloc (Nat.le_refl _) (.cells (rdCells (some ⟨W1.heap.size, 0, none⟩) s2.size (grownCap W1 s2.size 0 5) 0 0) 90)) (by_conv W1 s2).lt
  have hg4 : g ≤ (Lib.bytesWorld W1 5 s2).heap.size := by rw [Lib.bytesWorld_size]; have := hr2.lt; omega
  have hB4 := (hB2.trans ((conv_below W1 s2).mono (Nat.le_of_lt hr2.lt))).alloc hg4 (.cells (rdCells (some ⟨W1.heap.size, 0, none⟩) s2.size (grownCap W1 s2.size 0 5) 0 0) 90)
  have hn4 : Blk ((Lib.bytesWorld W1 5 s2).alloc (.cells (rdCells (some ⟨W1.heap.size, 0, none⟩) s2.size (grownCap W1 s2.size 0 5) 0 0) 90)) (Lib.bytesWorld W1 5 s2).heap.size 90 (rdCells (some ⟨W1.heap.size, 0, none⟩) s2.size (grownCap W1 s2.size 0 5) 0 0) := Blk.new _ _ _
  have hbl := bytes_length s2
  have hrs : RS ((Lib.bytesWorld W1 5 s2).alloc (.cells (rdCells (some ⟨W1.heap.size, 0, none⟩) s2.size (grownCap W1 s2.size 0 5) 0 0) 90)) (Lib.bytesWorld W1 5 s2).heap.size (some ⟨W1.heap.size, 0, none⟩) (grownCap W1 s2.size 0 5) (bytes s2) 0 (bytes s2) 0 0 := ⟨rfl, 0, by rw [hbl]; exact hn4, Nat.zero_le _, fun _ => ⟨rfl, Nat.zero_le _⟩⟩
  have hd0 : HX w ((Lib.bytesWorld W1 5 s2).alloc (.cells (rdCells (some ⟨W1.heap.size, 0, none⟩) s2.size (grownCap W1 s2.size 0 5) 0 0) 90)) g gx (Lib.bytesWorld W1 5 s2).heap.size W1.heap.size (grownCap W1 s2.size 0 5) (bytes s2) (recC (rcK z) ra0).toList.toArray 0 0 := ⟨hr4, hx4, hrs, hy4, hB4⟩
  have ho : HXO g gx (Lib.bytesWorld W1 5 s2).heap.size (grownCap W1 s2.size 0 5) (bytes s2) := ⟨hgg, by rw [Lib.bytesWorld_size]; have := hr2.lt; omega, bytes_byt s2, by rw [hbl]; exact grownCap_ge _ _ _ _, by omega⟩
  change Code.wp _ _ _ _ ((Lib.bytesWorld W1 5 s2).alloc (.cells (rdCells (some ⟨W1.heap.size, 0, none⟩) s2.size (grownCap W1 s2.size 0 5) 0 0) 90))
  generalize ((Lib.bytesWorld W1 5 s2).alloc (.cells (rdCells (some ⟨W1.heap.size, 0, none⟩) s2.size (grownCap W1 s2.size 0 5) 0 0) 90)) = wc at hd0 ⊢
  generalize (Lib.bytesWorld W1 5 s2).heap.size = gr at hd0 ho ⊢
  generalize grownCap W1 s2.size 0 5 = c at hd0 ho ⊢
  generalize W1.heap.size = b at hd0 ⊢
  obtain ⟨lb, hlb⟩ : ∃ lb, bytes s2 = lb := ⟨_, rfl⟩
  rw [hlb] at ho hd0 HV
  have HO := Lib.hid ho
  have H0 := Lib.hid hd0
  clear hlb hbl hr4 hx4 hy4 hg4 hB4 hn4 hrs hd0 ho hx1 hr2 hB2 hgg hix hsl hcv d1 d2 h0 hs8 hl2 wz
  by_cases n1 : z = 1
  · subst n1
    have k1 : ((1 : Int) == 1) = true := by decide
    have k2 : ((1 : Int) == 2) = false := by decide
    have k3 : ((1 : Int) == 3) = false := by decide
    have k4 : ((1 : Int) == 4) = false := by decide
    have k5 : ((1 : Int) == 5) = false := by decide
    have hle := rnum_le HO.out.byt (Nat.zero_le lb.length) 0 (most := M64) (by decide)
    have hu : DD = fin lb (rnum lb 0 0 M64).2.2 (rnum lb 0 0 M64).2.1 ⟨1, 0, (rnum lb 0 0 M64).1, 0, 0, en0, sh0⟩ := HV.out
    have C := H0.out.num HO.out
    have h60 : (rnum lb 0 0 M64).2.2 ≠ 60 := by
      rcases rnum_errs lb 0 (e := 0) (most := M64) (.inl rfl) with q | q | q <;> omega
    obtain ⟨⟨v5, n5, e5⟩, hr5⟩ : ∃ q, rnum lb 0 0 M64 = q := ⟨_, rfl⟩
    rw [hr5] at C hu hle h60
    simp only at C hu hle h60
    have HV3 : Hid (DD = fin lb e5 n5 ⟨1, 0, v5, 0, 0, en0, sh0⟩) := hu
    have HLE := Lib.hid hle
    have C := Lib.hid C
    clear hr5 hu hle HV
    have z0 : wc.cell? ⟨gx, 0, none⟩ = some (.int .i64 1) := H0.out.rc.cell 0
    go_wp2_with fail
    refine C.out.mono ?_
    rintro x w5 ⟨rfl, h5⟩
    have c5 : w5.cell? ⟨gx, 2, none⟩ = some (.int .u64 0) := h5.rc.cell 2
    have f5 := h5.rc.frozen 2
    have h6 := h5.set HO.out 2 (.int .u64 v5)
    clear h5 z0 H0
    go_upto_region 22 with (fail)
    generalize (w5.setCell ⟨gx, 2, none⟩ (.int .u64 v5)) = Wx at h6 ⊢
    have H := Lib.hid h6
    clear h6 c5 f5
    have HI : Hid (InR Wx ⟨1, 0, v5, 0, 0, en0, sh0⟩ ra0) := ⟨InN.nil, InSh.zero _⟩
    have HW : Hid (Rc.Wf ⟨1, 0, v5, 0, 0, en0, sh0⟩) := ⟨by show (Lit.int .i64 1).wf = true; decide, wf0, ⟨HLE.out.1, HLE.out.2.2.2⟩, wfu0, wfu0, en0_wf2, sh0_wf2⟩
    have HV := HV3
    have hres0 := H.out.res
    have hrc0 : Blk Wx gx 48 (recC (Rc.mk 1 0 v5 0 0 en0 sh0) ra0) := H.out.rc
    have hbel0 := H.out.bel
    obtain ⟨-, k9, hge0, hkl9, hk9⟩ := H.out.rd
    have c1 : Wx.cell? ⟨gr, 1, none⟩ = some (.int .i64 (k9 : Int)) := hge0.cell 1
    have c2 : Wx.cell? ⟨gr, 2, none⟩ = some (.int .i64 e5) := hge0.cell 2
    have c0 : Wx.cell? ⟨gr, 0, none⟩ = some (.slice (some ⟨b, 0, none⟩) lb.length c) := hge0.cell 0
    by_cases e00 : e5 = 0
    rotate_left
    · have qz : (e5 == 0) = false := beq_eq_false_iff_ne.2 e00
      have qn : (e5 != 0) = true := bne_iff_ne.2 e00
      have HV2 : Hid (DD = (e5, rc0)) := by
        show _ = _
        rw [HV.out, fin, if_neg h60, if_pos e00]
      have HRES := Lib.hid (fun n : Nat => hres0.drewN n)
      have HGE := Lib.hid (fun n : Nat => hge0.drewN n)
      have HBEL := Lib.hid (fun n : Nat => below_drewN hbel0 n)
      clear hrc0 hk9 hres0 hge0 hbel0
      go_upto_region 22 with (fail)
      go_quiet (fail)
      go_upto_region 25 with (fail)
      have hres := HRES.out nq
      have hge := HGE.out nq
      have hbel := HBEL.out nq
      have ce : (Wx.drewN nq).cell? ⟨gr, 2, none⟩ = some (.int .i64 e5) := hge.cell 2
      go_upto_region 25 with (fail)
      refine wp_region_held_drew (S := fun w' => w'.cell? ⟨gr, 2, none⟩ = some (.int .i64 (e5))) (by kernel_rfl) ce (fun hHeld => ?_)
      refine wpAnyH_take (i := 0) (v := ?v1) rfl (by kernel_rfl) (by kernel_rfl) (by kernel_rfl) (fun _ _ _ h => h) (Or.inl ⟨by rfl, ?y1⟩) (by assumption) ?r1
      case y1 => (intro w hSw; (try dsimp only at hSw); (try go_simp); first | done | with_reducible rfl)
      ((try simp only [List.getElem_toArray, List.getElem_cons_zero]); (try simp only [Act.put, List.setIfInBounds_toArray, List.set_cons_zero, List.set_cons_succ]))
      refine wpAnyH_take (i := 1) (v := ?v1002) rfl (by kernel_rfl) (by kernel_rfl) (by kernel_rfl) (fun _ _ _ h => h) (Or.inl ⟨by rfl, ?y1002⟩) (by assumption) ?r1002
      case y1002 => (intro w hSw; (try dsimp only at hSw); (try go_simp); first | done | with_reducible rfl)
      ((try simp only [List.getElem_toArray, List.getElem_cons_succ, List.getElem_cons_zero]); (try simp only [Act.put, List.setIfInBounds_toArray, List.set_cons_zero, List.set_cons_succ]))
      refine wpAnyH_take (i := 2) (v := ?v2003) rfl (by kernel_rfl) (by kernel_rfl) (by kernel_rfl) (fun _ _ _ h => h) (Or.inl ⟨by rfl, ?y2003⟩) (by assumption) ?r2003
      case y2003 => (intro w hSw; (try dsimp only at hSw); (try go_simp); first | done | with_reducible rfl)
      ((try simp only [List.getElem_toArray, List.getElem_cons_succ, List.getElem_cons_zero]); (try simp only [Act.put, List.setIfInBounds_toArray, List.set_cons_zero, List.set_cons_succ]))
      refine wpAnyH_take (i := 3) (v := ?v3004) rfl (by kernel_rfl) (by kernel_rfl) (by kernel_rfl) (fun _ _ _ h => h) (Or.inl ⟨by rfl, ?y3004⟩) (by assumption) ?r3004
      case y3004 => (intro w hSw; (try dsimp only at hSw); (try go_simp); first | done | with_reducible rfl)
      ((try simp only [List.getElem_toArray, List.getElem_cons_succ, List.getElem_cons_zero]); (try simp only [Act.put, List.setIfInBounds_toArray, List.set_cons_zero, List.set_cons_succ]))
      refine wpAnyH_take (i := 4) (v := ?v4005) rfl (by kernel_rfl) (by kernel_rfl) (by kernel_rfl) (fun _ _ _ h => h) (Or.inl ⟨by rfl, ?y4005⟩) (by assumption) ?r4005
      case y4005 => (intro w hSw; (try dsimp only at hSw); (try go_simp); first | done | with_reducible rfl)
      ((try simp only [List.getElem_toArray, List.getElem_cons_succ, List.getElem_cons_zero]); (try simp only [Act.put, List.setIfInBounds_toArray, List.set_cons_zero, List.set_cons_succ]))
      refine wpAnyH_ready (rs := [5]) (by kernel_rfl) (by simp) ?_
      refine AllReadyH.cons rfl (fun K hK => ?_) AllReadyH.nil
      refine step_store_row rfl 48 _ _ rfl g (recC rc0 ra0) rfl rfl 48 (recC rc0 ra0) hres.drew info_Rec rfl (recC_one _ _) ?_
      refine hK.out _ _ ((hge.drew.rowFar (fun e => (hres.ne_ hge (by decide)) e.symm)).cell 2) (fun hHeld2 => ?_)
      clear hK K hHeld
      have hHeld := hHeld2
      clear hHeld2
      ((try simp only [List.getElem_toArray, List.getElem_cons_succ, List.getElem_cons_zero]); (try simp only [Act.put, List.setIfInBounds_toArray, List.set_cons_zero, List.set_cons_succ]))
      refine wpAnyH_take (i := 6) (v := ?v6006) rfl (by kernel_rfl) (by kernel_rfl) (by kernel_rfl) (fun _ _ _ h => h) (Or.inl ⟨by rfl, ?y6006⟩) (by assumption) ?r6006
      case y6006 => (intro w hSw; (try dsimp only at hSw); (try go_simp); first | done | with_reducible rfl)
      ((try simp only [List.getElem_toArray, List.getElem_cons_succ, List.getElem_cons_zero]); (try simp only [Act.put, List.setIfInBounds_toArray, List.set_cons_zero, List.set_cons_succ]))
      refine wpAnyH_done (by kernel_rfl) ?_ _
      go_wp2_with fail
      (try simp only [Exit.inBlock, Exit.then])
      refine bodyPost_ret (results_cell rfl rfl (run_loadVar_row _ g 48 48 _ (0, 0) _ (Blk.row (cs := recC rc0 ra0) hres.drew) Try.underlying48 rfl info_Rec)) rfl ?_
      exact ⟨row_below hbel.drew (Nat.le_refl _) _, ra0, by have hv := HV2.out; subst hv; rfl, by have hv := HV2.out; subst hv; exact InR.zero _⟩
    have qz : (e5 == 0) = true := by rw [e00]; rfl
    obtain ⟨hk9a, hk9b⟩ := hk9 e00
    have hor := HO.out.o2
    have hox := HO.out.o1
    have HRES := Lib.hid (fun n : Nat => hres0.drewN n)
    have HBEL := Lib.hid (fun n : Nat => below_drewN hbel0 n)
    by_cases hk : n5 < lb.length
    · have dk : decide ((k9 : Int) < (lb.length : Int)) = true := decide_eq_true (by omega)
      have HV2 : Hid (DD = (11, rc0)) := by
        show _ = _
        rw [HV.out, fin, if_neg h60, if_neg (by rw [e00]; simp), if_pos hk]
      have CF := Lib.hid (fun n : Nat => ref_Fail_any (Wx.drewN n) gr (some ⟨b, 0, none⟩) lb.length c k9 e5 11 (hge0.drewN n))
      clear hrc0 hres0 hge0 hbel0
      go_upto_region 22 with (fail)
      go_quiet (fail)
      go_upto_region 23 with (fail)
      go_wp2_with fail
      refine (CF.out nq).mono ?_
      rintro x w6 ⟨rfl, hF, hG⟩
      rw [if_pos e00] at hF
      have hres := (HRES.out nq).grown hG (fun e => by injection e with e; omega)
      have hge := hF
      have hbel := (HBEL.out nq).grown hG (Nat.le_of_lt (HRES.out nq).lt) (fun i hi => by injection hi with hi; omega)
      have ce : w6.cell? ⟨gr, 2, none⟩ = some (.int .i64 11) := hge.cell 2
      clear hF hG c0 c1 c2 qz
      go_upto_region 25 with (fail)
      refine wp_region_held_drew (S := fun w' => w'.cell? ⟨gr, 2, none⟩ = some (.int .i64 (11))) (by kernel_rfl) ce (fun hHeld => ?_)
      refine wpAnyH_take (i := 0) (v := ?v7) rfl (by kernel_rfl) (by kernel_rfl) (by kernel_rfl) (fun _ _ _ h => h) (Or.inl ⟨by rfl, ?y7⟩) (by assumption) ?r7
      case y7 => (intro w hSw; (try dsimp only at hSw); (try go_simp); first | done | with_reducible rfl)
      ((try simp only [List.getElem_toArray, List.getElem_cons_zero]); (try simp only [Act.put, List.setIfInBounds_toArray, List.set_cons_zero, List.set_cons_succ]))
      refine wpAnyH_take (i := 1) (v := ?v1008) rfl (by kernel_rfl) (by kernel_rfl) (by kernel_rfl) (fun _ _ _ h => h) (Or.inl ⟨by rfl, ?y1008⟩) (by assumption) ?r1008
      case y1008 => (intro w hSw; (try dsimp only at hSw); (try go_simp); first | done | with_reducible rfl)
      ((try simp only [List.getElem_toArray, List.getElem_cons_succ, List.getElem_cons_zero]); (try simp only [Act.put, List.setIfInBounds_toArray, List.set_cons_zero, List.set_cons_succ]))
      refine wpAnyH_take (i := 2) (v := ?v2009) rfl (by kernel_rfl) (by kernel_rfl) (by kernel_rfl) (fun _ _ _ h => h) (Or.inl ⟨by rfl, ?y2009⟩) (by assumption) ?r2009
      case y2009 => (intro w hSw; (try dsimp only at hSw); (try go_simp); first | done | with_reducible rfl)
      ((try simp only [List.getElem_toArray, List.getElem_cons_succ, List.getElem_cons_zero]); (try simp only [Act.put, List.setIfInBounds_toArray, List.set_cons_zero, List.set_cons_succ]))
      refine wpAnyH_take (i := 3) (v := ?v3010) rfl (by kernel_rfl) (by kernel_rfl) (by kernel_rfl) (fun _ _ _ h => h) (Or.inl ⟨by rfl, ?y3010⟩) (by assumption) ?r3010
      case y3010 => (intro w hSw; (try dsimp only at hSw); (try go_simp); first | done | with_reducible rfl)
      ((try simp only [List.getElem_toArray, List.getElem_cons_succ, List.getElem_cons_zero]); (try simp only [Act.put, List.setIfInBounds_toArray, List.set_cons_zero, List.set_cons_succ]))
      refine wpAnyH_take (i := 4) (v := ?v4011) rfl (by kernel_rfl) (by kernel_rfl) (by kernel_rfl) (fun _ _ _ h => h) (Or.inl ⟨by rfl, ?y4011⟩) (by assumption) ?r4011
      case y4011 => (intro w hSw; (try dsimp only at hSw); (try go_simp); first | done | with_reducible rfl)
      ((try simp only [List.getElem_toArray, List.getElem_cons_succ, List.getElem_cons_zero]); (try simp only [Act.put, List.setIfInBounds_toArray, List.set_cons_zero, List.set_cons_succ]))
      refine wpAnyH_ready (rs := [5]) (by kernel_rfl) (by simp) ?_
      refine AllReadyH.cons rfl (fun K hK => ?_) AllReadyH.nil
      refine step_store_row rfl 48 _ _ rfl g (recC rc0 ra0) rfl rfl 48 (recC rc0 ra0) hres.drew info_Rec rfl (recC_one _ _) ?_
      refine hK.out _ _ ((hge.drew.rowFar (fun e => (hres.ne_ hge (by decide)) e.symm)).cell 2) (fun hHeld2 => ?_)
      clear hK K hHeld
      have hHeld := hHeld2
      clear hHeld2
      ((try simp only [List.getElem_toArray, List.getElem_cons_succ, List.getElem_cons_zero]); (try simp only [Act.put, List.setIfInBounds_toArray, List.set_cons_zero, List.set_cons_succ]))
      refine wpAnyH_take (i := 6) (v := ?v6012) rfl (by kernel_rfl) (by kernel_rfl) (by kernel_rfl) (fun _ _ _ h => h) (Or.inl ⟨by rfl, ?y6012⟩) (by assumption) ?r6012
      case y6012 => (intro w hSw; (try dsimp only at hSw); (try go_simp); first | done | with_reducible rfl)
      ((try simp only [List.getElem_toArray, List.getElem_cons_succ, List.getElem_cons_zero]); (try simp only [Act.put, List.setIfInBounds_toArray, List.set_cons_zero, List.set_cons_succ]))
      refine wpAnyH_done (by kernel_rfl) ?_ _
      go_wp2_with fail
      (try simp only [Exit.inBlock, Exit.then])
      refine bodyPost_ret (results_cell rfl rfl (run_loadVar_row _ g 48 48 _ (0, 0) _ (Blk.row (cs := recC rc0 ra0) hres.drew) Try.underlying48 rfl info_Rec)) rfl ?_
      exact ⟨row_below hbel.drew (Nat.le_refl _) _, ra0, by have hv := HV2.out; subst hv; rfl, by have hv := HV2.out; subst hv; exact InR.zero _⟩
    have dk : decide ((k9 : Int) < (lb.length : Int)) = false := decide_eq_false (by omega)
    have qn : (e5 != 0) = false := by rw [e00]; rfl
    have HRC := Lib.hid (fun n : Nat => hrc0.drewN n)
    have CM := fun n : Nat => r13_May_any (Wx.drewN n) (Rc.mk 1 0 v5 0 0 en0 sh0) ra0 (HI.out.keep (below_drewN (Below.refl _ _) n)) HW.out
    have hrl := hrc0.lt
    have hgl := hres0.lt
    clear hrc0 hres0 hge0 hbel0
    by_cases hm : (Rc.mk 1 0 v5 0 0 en0 sh0).May
    · have HV2 : Hid (DD = (0, (Rc.mk 1 0 v5 0 0 en0 sh0))) := by
        show _ = _
        rw [HV.out, fin, if_neg h60, if_neg (by rw [e00]; simp), if_neg hk, if_pos hm]
      rw [decide_eq_true hm] at CM
      unfold recV at CM
      have CM := Lib.hid CM
      go_upto_region 22 with (fail)
      go_quiet (fail)
      go_upto_region 26 with (fail)
      go_wp2_with (refine wpList_load_row rfl 48 _ rfl gx rfl 48 (recC (Rc.mk 1 0 v5 0 0 en0 sh0) ra0) (HRC.out nq) _ Try.underlying48 rfl info_Rec ?_)
      refine (CM.out nq).mono ?_
      rintro y w8 ⟨rfl, hB8⟩
      have hres8 := (HRES.out nq).below hB8 hgl
      have hrc8 := (HRC.out nq).below hB8 hrl
      have hbel8 := (HBEL.out nq).trans (hB8.mono (Nat.le_of_lt hgl))
      have HI8 := Lib.hid ((HI.out.keep (below_drewN (Below.refl _ _) nq)).keep hB8)
      clear hB8
      go_wp2_with (first | (refine wpList_load_row rfl 48 _ rfl gx rfl 48 (recC (Rc.mk 1 0 v5 0 0 en0 sh0) ra0) hrc8 _ Try.underlying48 rfl info_Rec ?_) | refine wpList_store_row rfl 48 _ _ rfl g (recC (Rc.mk 1 0 v5 0 0 en0 sh0) ra0) rfl rfl 48 (recC rc0 ra0) hres8 info_Rec rfl (recC_one _ _) ?_)
      (try simp only [Exit.inBlock, Exit.then])
      refine bodyPost_ret (results_cell rfl rfl (run_loadVar_row _ g 48 48 _ (0, 0) _ (Blk.row (cs := recC (Rc.mk 1 0 v5 0 0 en0 sh0) ra0) hres8) Try.underlying48 rfl info_Rec)) rfl ?_
      exact ⟨row_below hbel8 (Nat.le_refl _) _, ra0, by have hv := HV2.out; subst hv; rfl, by have hv := HV2.out; subst hv; exact ⟨InN.nil, InSh.zero _⟩⟩
    · have HV2 : Hid (DD = (130, rc0)) := by
        show _ = _
        rw [HV.out, fin, if_neg h60, if_neg (by rw [e00]; simp), if_neg hk, if_neg hm]
      rw [decide_eq_false hm] at CM
      unfold recV at CM
      have CM := Lib.hid CM
      go_upto_region 22 with (fail)
      go_quiet (fail)
      go_upto_region 26 with (fail)
      go_wp2_with (refine wpList_load_row rfl 48 _ rfl gx rfl 48 (recC (Rc.mk 1 0 v5 0 0 en0 sh0) ra0) (HRC.out nq) _ Try.underlying48 rfl info_Rec ?_)
      refine (CM.out nq).mono ?_
      rintro y w8 ⟨rfl, hB8⟩
      have hres8 := (HRES.out nq).below hB8 hgl
      have hbel8 := (HBEL.out nq).trans (hB8.mono (Nat.le_of_lt hgl))
      clear hB8
      go_wp2_with (refine wpList_store_row rfl 48 _ _ rfl g (recC rc0 ra0) rfl rfl 48 (recC rc0 ra0) hres8 info_Rec rfl (recC_one _ _) ?_)
      (try simp only [Exit.inBlock, Exit.then])
      refine bodyPost_ret (results_cell rfl rfl (run_loadVar_row _ g 48 48 _ (0, 0) _ (Blk.row (cs := recC rc0 ra0) hres8) Try.underlying48 rfl info_Rec)) rfl ?_
      exact ⟨row_below hbel8 (Nat.le_refl _) _, ra0, by have hv := HV2.out; subst hv; rfl, by have hv := HV2.out; subst hv; exact InR.zero _⟩
  by_cases n2 : z = 2
  · subst n2
    have k1 : ((2 : Int) == 1) = false := by decide
    have k2 : ((2 : Int) == 2) = true := by decide
    have k3 : ((2 : Int) == 3) = false := by decide
    have k4 : ((2 : Int) == 4) = false := by decide
    have k5 : ((2 : Int) == 5) = false := by decide
    have hle := rnum_le HO.out.byt (Nat.zero_le lb.length) 0 (most := M64) (by decide)
    have her := rnum_errs lb 0 (e := 0) (most := M64) (.inl rfl)
    have hu : DD = fin lb (rnum lb (rnum lb 0 0 M64).2.1 (rnum lb 0 0 M64).2.2 65535).2.2 (rnum lb (rnum lb 0 0 M64).2.1 (rnum lb 0 0 M64).2.2 65535).2.1 ⟨2, (rnum lb (rnum lb 0 0 M64).2.1 (rnum lb 0 0 M64).2.2 65535).1, 0, (rnum lb 0 0 M64).1, 0, en0, sh0⟩ := by
      rw [HV.out, recD, if_neg (by decide), if_pos rfl]
      rcases rnum_65 lb (rnum lb 0 0 M64).2.1 (rnum lb 0 0 M64).2.2 with ⟨q1, q2, q3⟩ | ⟨q1, q2⟩
      · rw [if_pos q1, fin, q2, if_neg (by decide), if_pos (by decide)]
      · rw [if_neg (by omega), q2]
    have C := H0.out.num HO.out
    obtain ⟨⟨v5, n5, e5⟩, hr5⟩ : ∃ q, rnum lb 0 0 M64 = q := ⟨_, rfl⟩
    rw [hr5] at C hu hle her
    simp only at C hu hle her
    have hle2 := rnum_le HO.out.byt hle.2.2.1 e5 (most := 65535) (by decide)
    have her2 := rnum_errs lb n5 (e := e5) (most := 65535) her
    have C2 := fun (W2 : World) (cs : Array Value) (h : HX w W2 g gx gr b c lb cs n5 e5) => h.small HO.out
    obtain ⟨⟨v7, n7, e7⟩, hr6⟩ : ∃ q, rnum lb n5 e5 65535 = q := ⟨_, rfl⟩
    rw [hr6] at C2 hu hle2 her2
    simp only at C2 hu hle2 her2
    have h60 : e7 ≠ 60 := by omega
    have hwf7 : (Lit.int .i64 v7).wf = true := wf_i64_of (by have := hle2.1; omega) (by have := hle2.2.1; omega)
    have HWF7 := Lib.hid hwf7
    have HU := Lib.hid hu
    have HLE := Lib.hid hle
    have C := Lib.hid C
    have C2 := Lib.hid C2
    clear hr5 hr6 hu hle hle2 her her2 hwf7 HV
    have z0 : wc.cell? ⟨gx, 0, none⟩ = some (.int .i64 2) := H0.out.rc.cell 0
    go_wp2_with fail
    refine C.out.mono ?_
    rintro x w5 ⟨rfl, h5⟩
    have c5 : w5.cell? ⟨gx, 3, none⟩ = some (.int .u64 0) := h5.rc.cell 3
    have f5 := h5.rc.frozen 3
    have h6 := h5.set HO.out 3 (.int .u64 v5)
    clear h5 z0 H0
    have H6 := Lib.hid h6
    clear h6
    go_wp2_with fail
    refine (C2.out _ _ H6.out).mono ?_
    rintro x w7 ⟨rfl, h7⟩
    have c7 : w7.cell? ⟨gx, 1, none⟩ = some (.int .i64 0) := h7.rc.cell 1
    have f7 := h7.rc.frozen 1
    have h8 := h7.set HO.out 1 (.int .i64 v7)
    clear h7 c5 f5 H6
    go_upto_region 22 with (fail)
    generalize (w7.setCell ⟨gx, 1, none⟩ (.int .i64 v7)) = Wx at h8 ⊢
    have H := Lib.hid h8
    clear h8 c7 f7
    have HI : Hid (InR Wx ⟨2, v7, 0, v5, 0, en0, sh0⟩ ra0) := ⟨InN.nil, InSh.zero _⟩
    have HW : Hid (Rc.Wf ⟨2, v7, 0, v5, 0, en0, sh0⟩) := ⟨by show (Lit.int .i64 2).wf = true; decide, HWF7.out, wfu0, ⟨HLE.out.1, HLE.out.2.2.2⟩, wfu0, en0_wf2, sh0_wf2⟩
    have HV : Hid (DD = fin lb e7 n7 ⟨2, v7, 0, v5, 0, en0, sh0⟩) := HU.out
    have hres0 := H.out.res
    have hrc0 : Blk Wx gx 48 (recC (Rc.mk 2 v7 0 v5 0 en0 sh0) ra0) := H.out.rc
    have hbel0 := H.out.bel
    obtain ⟨-, k9, hge0, hkl9, hk9⟩ := H.out.rd
    have c1 : Wx.cell? ⟨gr, 1, none⟩ = some (.int .i64 (k9 : Int)) := hge0.cell 1
    have c2 : Wx.cell? ⟨gr, 2, none⟩ = some (.int .i64 e7) := hge0.cell 2
    have c0 : Wx.cell? ⟨gr, 0, none⟩ = some (.slice (some ⟨b, 0, none⟩) lb.length c) := hge0.cell 0
    by_cases e00 : e7 = 0
    rotate_left
    · have qz : (e7 == 0) = false := beq_eq_false_iff_ne.2 e00
      have qn : (e7 != 0) = true := bne_iff_ne.2 e00
      have HV2 : Hid (DD = (e7, rc0)) := by
        show _ = _
        rw [HV.out, fin, if_neg h60, if_pos e00]
      have HRES := Lib.hid (fun n : Nat => hres0.drewN n)
      have HGE := Lib.hid (fun n : Nat => hge0.drewN n)
      have HBEL := Lib.hid (fun n : Nat => below_drewN hbel0 n)
      clear hrc0 hk9 hres0 hge0 hbel0
      go_upto_region 22 with (fail)
      go_quiet (fail)
      go_upto_region 25 with (fail)
      have hres := HRES.out nq
      have hge := HGE.out nq
      have hbel := HBEL.out nq
      have ce : (Wx.drewN nq).cell? ⟨gr, 2, none⟩ = some (.int .i64 e7) := hge.cell 2
      go_upto_region 25 with (fail)
      refine wp_region_held_drew (S := fun w' => w'.cell? ⟨gr, 2, none⟩ = some (.int .i64 (e7))) (by kernel_rfl) ce (fun hHeld => ?_)
      refine wpAnyH_take (i := 0) (v := ?v25) rfl (by kernel_rfl) (by kernel_rfl) (by kernel_rfl) (fun _ _ _ h => h) (Or.inl ⟨by rfl, ?y25⟩) (by assumption) ?r25
      case y25 => (intro w hSw; (try dsimp only at hSw); (try go_simp); first | done | with_reducible rfl)
      ((try simp only [List.getElem_toArray, List.getElem_cons_zero]); (try simp only [Act.put, List.setIfInBounds_toArray, List.set_cons_zero, List.set_cons_succ]))
      refine wpAnyH_take (i := 1) (v := ?v1026) rfl (by kernel_rfl) (by kernel_rfl) (by kernel_rfl) (fun _ _ _ h => h) (Or.inl ⟨by rfl, ?y1026⟩) (by assumption) ?r1026
      case y1026 => (intro w hSw; (try dsimp only at hSw); (try go_simp); first | done | with_reducible rfl)
      ((try simp only [List.getElem_toArray, List.getElem_cons_succ, List.getElem_cons_zero]); (try simp only [Act.put, List.setIfInBounds_toArray, List.set_cons_zero, List.set_cons_succ]))
      refine wpAnyH_take (i := 2) (v := ?v2027) rfl (by kernel_rfl) (by kernel_rfl) (by kernel_rfl) (fun _ _ _ h => h) (Or.inl ⟨by rfl, ?y2027⟩) (by assumption) ?r2027
      case y2027 => (intro w hSw; (try dsimp only at hSw); (try go_simp); first | done | with_reducible rfl)
      ((try simp only [List.getElem_toArray, List.getElem_cons_succ, List.getElem_cons_zero]); (try simp only [Act.put, List.setIfInBounds_toArray, List.set_cons_zero, List.set_cons_succ]))
      refine wpAnyH_take (i := 3) (v := ?v3028) rfl (by kernel_rfl) (by kernel_rfl) (by kernel_rfl) (fun _ _ _ h => h) (Or.inl ⟨by rfl, ?y3028⟩) (by assumption) ?r3028
      case y3028 => (intro w hSw; (try dsimp only at hSw); (try go_simp); first | done | with_reducible rfl)
      ((try simp only [List.getElem_toArray, List.getElem_cons_succ, List.getElem_cons_zero]); (try simp only [Act.put, List.setIfInBounds_toArray, List.set_cons_zero, List.set_cons_succ]))
      refine wpAnyH_take (i := 4) (v := ?v4029) rfl (by kernel_rfl) (by kernel_rfl) (by kernel_rfl) (fun _ _ _ h => h) (Or.inl ⟨by rfl, ?y4029⟩) (by assumption) ?r4029
      case y4029 => (intro w hSw; (try dsimp only at hSw); (try go_simp); first | done | with_reducible rfl)
      ((try simp only [List.getElem_toArray, List.getElem_cons_succ, List.getElem_cons_zero]); (try simp only [Act.put, List.setIfInBounds_toArray, List.set_cons_zero, List.set_cons_succ]))
      refine wpAnyH_ready (rs := [5]) (by kernel_rfl) (by simp) ?_
      refine AllReadyH.cons rfl (fun K hK => ?_) AllReadyH.nil
      refine step_store_row rfl 48 _ _ rfl g (recC rc0 ra0) rfl rfl 48 (recC rc0 ra0) hres.drew info_Rec rfl (recC_one _ _) ?_
      refine hK.out _ _ ((hge.drew.rowFar (fun e => (hres.ne_ hge (by decide)) e.symm)).cell 2) (fun hHeld2 => ?_)
      clear hK K hHeld
      have hHeld := hHeld2
      clear hHeld2
      ((try simp only [List.getElem_toArray, List.getElem_cons_succ, List.getElem_cons_zero]); (try simp only [Act.put, List.setIfInBounds_toArray, List.set_cons_zero, List.set_cons_succ]))
      refine wpAnyH_take (i := 6) (v := ?v6030) rfl (by kernel_rfl) (by kernel_rfl) (by kernel_rfl) (fun _ _ _ h => h) (Or.inl ⟨by rfl, ?y6030⟩) (by assumption) ?r6030
      case y6030 => (intro w hSw; (try dsimp only at hSw); (try go_simp); first | done | with_reducible rfl)
      ((try simp only [List.getElem_toArray, List.getElem_cons_succ, List.getElem_cons_zero]); (try simp only [Act.put, List.setIfInBounds_toArray, List.set_cons_zero, List.set_cons_succ]))
      refine wpAnyH_done (by kernel_rfl) ?_ _
      go_wp2_with fail
      (try simp only [Exit.inBlock, Exit.then])
      refine bodyPost_ret (results_cell rfl rfl (run_loadVar_row _ g 48 48 _ (0, 0) _ (Blk.row (cs := recC rc0 ra0) hres.drew) Try.underlying48 rfl info_Rec)) rfl ?_
      exact ⟨row_below hbel.drew (Nat.le_refl _) _, ra0, by have hv := HV2.out; subst hv; rfl, by have hv := HV2.out; subst hv; exact InR.zero _⟩
    have qz : (e7 == 0) = true := by rw [e00]; rfl
    obtain ⟨hk9a, hk9b⟩ := hk9 e00
    have hor := HO.out.o2
    have hox := HO.out.o1
    have HRES := Lib.hid (fun n : Nat => hres0.drewN n)
    have HBEL := Lib.hid (fun n : Nat => below_drewN hbel0 n)
    by_cases hk : n7 < lb.length
    · have dk : decide ((k9 : Int) < (lb.length : Int)) = true := decide_eq_true (by omega)
      have HV2 : Hid (DD = (11, rc0)) := by
        show _ = _
        rw [HV.out, fin, if_neg h60, if_neg (by rw [e00]; simp), if_pos hk]
      have CF := Lib.hid (fun n : Nat => ref_Fail_any (Wx.drewN n) gr (some ⟨b, 0, none⟩) lb.length c k9 e7 11 (hge0.drewN n))
      clear hrc0 hres0 hge0 hbel0
      go_upto_region 22 with (fail)
      go_quiet (fail)
      go_upto_region 23 with (fail)
      go_wp2_with fail
      refine (CF.out nq).mono ?_
      rintro x w6 ⟨rfl, hF, hG⟩
      rw [if_pos e00] at hF
      have hres := (HRES.out nq).grown hG (fun e => by injection e with e; omega)
      have hge := hF
      have hbel := (HBEL.out nq).grown hG (Nat.le_of_lt (HRES.out nq).lt) (fun i hi => by injection hi with hi; omega)
      have ce : w6.cell? ⟨gr, 2, none⟩ = some (.int .i64 11) := hge.cell 2
      clear hF hG c0 c1 c2 qz
      go_upto_region 25 with (fail)
      refine wp_region_held_drew (S := fun w' => w'.cell? ⟨gr, 2, none⟩ = some (.int .i64 (11))) (by kernel_rfl) ce (fun hHeld => ?_)
      refine wpAnyH_take (i := 0) (v := ?v31) rfl (by kernel_rfl) (by kernel_rfl) (by kernel_rfl) (fun _ _ _ h => h) (Or.inl ⟨by rfl, ?y31⟩) (by assumption) ?r31
      case y31 => (intro w hSw; (try dsimp only at hSw); (try go_simp); first | done | with_reducible rfl)
      ((try simp only [List.getElem_toArray, List.getElem_cons_zero]); (try simp only [Act.put, List.setIfInBounds_toArray, List.set_cons_zero, List.set_cons_succ]))
      refine wpAnyH_take (i := 1) (v := ?v1032) rfl (by kernel_rfl) (by kernel_rfl) (by kernel_rfl) (fun _ _ _ h => h) (Or.inl ⟨by rfl, ?y1032⟩) (by assumption) ?r1032
      case y1032 => (intro w hSw; (try dsimp only at hSw); (try go_simp); first | done | with_reducible rfl)
      ((try simp only [List.getElem_toArray, List.getElem_cons_succ, List.getElem_cons_zero]); (try simp only [Act.put, List.setIfInBounds_toArray, List.set_cons_zero, List.set_cons_succ]))
      refine wpAnyH_take (i := 2) (v := ?v2033) rfl (by kernel_rfl) (by kernel_rfl) (by kernel_rfl) (fun _ _ _ h => h) (Or.inl ⟨by rfl, ?y2033⟩) (by assumption) ?r2033
      case y2033 => (intro w hSw; (try dsimp only at hSw); (try go_simp); first | done | with_reducible rfl)
      ((try simp only [List.getElem_toArray, List.getElem_cons_succ, List.getElem_cons_zero]); (try simp only [Act.put, List.setIfInBounds_toArray, List.set_cons_zero, List.set_cons_succ]))
      refine wpAnyH_take (i := 3) (v := ?v3034) rfl (by kernel_rfl) (by kernel_rfl) (by kernel_rfl) (fun _ _ _ h => h) (Or.inl ⟨by rfl, ?y3034⟩) (by assumption) ?r3034
      case y3034 => (intro w hSw; (try dsimp only at hSw); (try go_simp); first | done | with_reducible rfl)
      ((try simp only [List.getElem_toArray, List.getElem_cons_succ, List.getElem_cons_zero]); (try simp only [Act.put, List.setIfInBounds_toArray, List.set_cons_zero, List.set_cons_succ]))
      refine wpAnyH_take (i := 4) (v := ?v4035) rfl (by kernel_rfl) (by kernel_rfl) (by kernel_rfl) (fun _ _ _ h => h) (Or.inl ⟨by rfl, ?y4035⟩) (by assumption) ?r4035
      case y4035 => (intro w hSw; (try dsimp only at hSw); (try go_simp); first | done | with_reducible rfl)
      ((try simp only [List.getElem_toArray, List.getElem_cons_succ, List.getElem_cons_zero]); (try simp only [Act.put, List.setIfInBounds_toArray, List.set_cons_zero, List.set_cons_succ]))
      refine wpAnyH_ready (rs := [5]) (by kernel_rfl) (by simp) ?_
      refine AllReadyH.cons rfl (fun K hK => ?_) AllReadyH.nil
      refine step_store_row rfl 48 _ _ rfl g (recC rc0 ra0) rfl rfl 48 (recC rc0 ra0) hres.drew info_Rec rfl (recC_one _ _) ?_
      refine hK.out _ _ ((hge.drew.rowFar (fun e => (hres.ne_ hge (by decide)) e.symm)).cell 2) (fun hHeld2 => ?_)
      clear hK K hHeld
      have hHeld := hHeld2
      clear hHeld2
      ((try simp only [List.getElem_toArray, List.getElem_cons_succ, List.getElem_cons_zero]); (try simp only [Act.put, List.setIfInBounds_toArray, List.set_cons_zero, List.set_cons_succ]))
      refine wpAnyH_take (i := 6) (v := ?v6036) rfl (by kernel_rfl) (by kernel_rfl) (by kernel_rfl) (fun _ _ _ h => h) (Or.inl ⟨by rfl, ?y6036⟩) (by assumption) ?r6036
      case y6036 => (intro w hSw; (try dsimp only at hSw); (try go_simp); first | done | with_reducible rfl)
      ((try simp only [List.getElem_toArray, List.getElem_cons_succ, List.getElem_cons_zero]); (try simp only [Act.put, List.setIfInBounds_toArray, List.set_cons_zero, List.set_cons_succ]))
      refine wpAnyH_done (by kernel_rfl) ?_ _
      go_wp2_with fail
      (try simp only [Exit.inBlock, Exit.then])
      refine bodyPost_ret (results_cell rfl rfl (run_loadVar_row _ g 48 48 _ (0, 0) _ (Blk.row (cs := recC rc0 ra0) hres.drew) Try.underlying48 rfl info_Rec)) rfl ?_
      exact ⟨row_below hbel.drew (Nat.le_refl _) _, ra0, by have hv := HV2.out; subst hv; rfl, by have hv := HV2.out; subst hv; exact InR.zero _⟩
    have dk : decide ((k9 : Int) < (lb.length : Int)) = false := decide_eq_false (by omega)
    have qn : (e7 != 0) = false := by rw [e00]; rfl
    have HRC := Lib.hid (fun n : Nat => hrc0.drewN n)
    have CM := fun n : Nat => r13_May_any (Wx.drewN n) (Rc.mk 2 v7 0 v5 0 en0 sh0) ra0 (HI.out.keep (below_drewN (Below.refl _ _) n)) HW.out
    have hrl := hrc0.lt
    have hgl := hres0.lt
    clear hrc0 hres0 hge0 hbel0
    by_cases hm : (Rc.mk 2 v7 0 v5 0 en0 sh0).May
    · have HV2 : Hid (DD = (0, (Rc.mk 2 v7 0 v5 0 en0 sh0))) := by
        show _ = _
        rw [HV.out, fin, if_neg h60, if_neg (by rw [e00]; simp), if_neg hk, if_pos hm]
      rw [decide_eq_true hm] at CM
      unfold recV at CM
      have CM := Lib.hid CM
      go_upto_region 22 with (fail)
      go_quiet (fail)
      go_upto_region 26 with (fail)
      go_wp2_with (refine wpList_load_row rfl 48 _ rfl gx rfl 48 (recC (Rc.mk 2 v7 0 v5 0 en0 sh0) ra0) (HRC.out nq) _ Try.underlying48 rfl info_Rec ?_)
      refine (CM.out nq).mono ?_
      rintro y w8 ⟨rfl, hB8⟩
      have hres8 := (HRES.out nq).below hB8 hgl
      have hrc8 := (HRC.out nq).below hB8 hrl
      have hbel8 := (HBEL.out nq).trans (hB8.mono (Nat.le_of_lt hgl))
      have HI8 := Lib.hid ((HI.out.keep (below_drewN (Below.refl _ _) nq)).keep hB8)
      clear hB8
      go_wp2_with (first | (refine wpList_load_row rfl 48 _ rfl gx rfl 48 (recC (Rc.mk 2 v7 0 v5 0 en0 sh0) ra0) hrc8 _ Try.underlying48 rfl info_Rec ?_) | refine wpList_store_row rfl 48 _ _ rfl g (recC (Rc.mk 2 v7 0 v5 0 en0 sh0) ra0) rfl rfl 48 (recC rc0 ra0) hres8 info_Rec rfl (recC_one _ _) ?_)
      (try simp only [Exit.inBlock, Exit.then])
      refine bodyPost_ret (results_cell rfl rfl (run_loadVar_row _ g 48 48 _ (0, 0) _ (Blk.row (cs := recC (Rc.mk 2 v7 0 v5 0 en0 sh0) ra0) hres8) Try.underlying48 rfl info_Rec)) rfl ?_
      exact ⟨row_below hbel8 (Nat.le_refl _) _, ra0, by have hv := HV2.out; subst hv; rfl, by have hv := HV2.out; subst hv; exact ⟨InN.nil, InSh.zero _⟩⟩
    · have HV2 : Hid (DD = (130, rc0)) := by
        show _ = _
        rw [HV.out, fin, if_neg h60, if_neg (by rw [e00]; simp), if_neg hk, if_neg hm]
      rw [decide_eq_false hm] at CM
      unfold recV at CM
      have CM := Lib.hid CM
      go_upto_region 22 with (fail)
      go_quiet (fail)
      go_upto_region 26 with (fail)
      go_wp2_with (refine wpList_load_row rfl 48 _ rfl gx rfl 48 (recC (Rc.mk 2 v7 0 v5 0 en0 sh0) ra0) (HRC.out nq) _ Try.underlying48 rfl info_Rec ?_)
      refine (CM.out nq).mono ?_
      rintro y w8 ⟨rfl, hB8⟩
      have hres8 := (HRES.out nq).below hB8 hgl
      have hbel8 := (HBEL.out nq).trans (hB8.mono (Nat.le_of_lt hgl))
      clear hB8
      go_wp2_with (refine wpList_store_row rfl 48 _ _ rfl g (recC rc0 ra0) rfl rfl 48 (recC rc0 ra0) hres8 info_Rec rfl (recC_one _ _) ?_)
      (try simp only [Exit.inBlock, Exit.then])
      refine bodyPost_ret (results_cell rfl rfl (run_loadVar_row _ g 48 48 _ (0, 0) _ (Blk.row (cs := recC rc0 ra0) hres8) Try.underlying48 rfl info_Rec)) rfl ?_
      exact ⟨row_below hbel8 (Nat.le_refl _) _, ra0, by have hv := HV2.out; subst hv; rfl, by have hv := HV2.out; subst hv; exact InR.zero _⟩
  by_cases n3 : z = 3
  · subst n3
    have k1 : ((3 : Int) == 1) = false := by decide
    have k2 : ((3 : Int) == 2) = false := by decide
    have k3 : ((3 : Int) == 3) = true := by decide
    have k4 : ((3 : Int) == 4) = false := by decide
    have k5 : ((3 : Int) == 5) = false := by decide
    have hle := rnum_le HO.out.byt (Nat.zero_le lb.length) 0 (most := M64) (by decide)
    have her := rnum_errs lb 0 (e := 0) (most := M64) (.inl rfl)
    have hu := HV.out
    unfold recD at hu
    rw [if_neg (by decide), if_neg (by decide), if_pos rfl] at hu
    have C := H0.out.num HO.out
    obtain ⟨⟨v5, n5, e5⟩, hr5⟩ : ∃ q, rnum lb 0 0 M64 = q := ⟨_, rfl⟩
    rw [hr5] at C hu hle her
    simp only at C hu hle her
    have hle2 := rnum_le HO.out.byt hle.2.2.1 e5 (most := M64) (by decide)
    have her2 := rnum_errs lb n5 (e := e5) (most := M64) her
    have C2 := fun (W2 : World) (cs : Array Value) (h : HX w W2 g gx gr b c lb cs n5 e5) => h.num HO.out
    obtain ⟨⟨v6, n6, e6⟩, hr6⟩ : ∃ q, rnum lb n5 e5 M64 = q := ⟨_, rfl⟩
    rw [hr6] at C2 hu hle2 her2
    simp only at C2 hu hle2 her2
    have hle2' : 0 ≤ v6 ∧ v6 < 18446744073709551616 := ⟨hle2.1, hle2.2.2.2⟩
    have HU := Lib.hid hu
    have HLE := Lib.hid hle
    have C := Lib.hid C
    have C2 := Lib.hid C2
    have C3 := Lib.hid (fun (W2 : World) (cs : Array Value) (h : HX w W2 g gx gr b c lb cs n6 e6) => h.cmd v5 v6 hle2' HO.out her2)
    clear hr5 hr6 hu hle hle2 her her2 hle2' HV
    have z0 : wc.cell? ⟨gx, 0, none⟩ = some (.int .i64 3) := H0.out.rc.cell 0
    go_wp2_with fail
    refine C.out.mono ?_
    rintro x w5 ⟨rfl, h5⟩
    have c5 : w5.cell? ⟨gx, 4, none⟩ = some (.int .u64 0) := h5.rc.cell 4
    have f5 := h5.rc.frozen 4
    have h6 := h5.set HO.out 4 (.int .u64 v5)
    clear h5 z0 H0
    have H6 := Lib.hid h6
    clear h6
    go_wp2_with fail
    refine (C2.out _ _ H6.out).mono ?_
    rintro x w7 ⟨rfl, h7⟩
    have c7 : w7.cell? ⟨gx, 5, none⟩ = some (.int .u64 0) := h7.rc.cell 5
    have f7 := h7.rc.frozen 5
    have h8 := h7.set HO.out 5 (.int .u64 v6)
    clear h7 c5 f5 H6
    have H8 := Lib.hid h8
    clear h8
    go_wp2_with fail
    refine (C3.out _ _ H8.out).mono ?_
    rintro x w9 ⟨en, A7, c7, k7, e7, rfl, rfl, hwf, hin, hown, h9, h60, hu⟩
    have HWF := Lib.hid hwf
    have HLT : Hid (∀ b, (Value.slice A7 en.l.length c7).ownBlock = some b → gx < b) := fun b hb => Nat.lt_of_lt_of_le H8.out.rc.lt (hown b hb)
    have HV3 : Hid (DD = fin lb e7 k7 (rcE v5 en)) := HU.out.trans hu
    have h10 := h9.mid HO.out (cmdCells en.k en.n en.t (.slice A7 en.l.length c7) en.b en.q en.s en.m).toList 6
    have hg10 : w9.grownBy (w9.setCells gx 6 (cmdCells en.k en.n en.t (.slice A7 en.l.length c7) en.b en.q en.s en.m).toList) (some gx) := mid_grown gx _ 6
    have HR9 : Hid (HX w (w9.setCells gx 6 (cmdCells en.k en.n en.t (.slice A7 en.l.length c7) en.b en.q en.s en.m).toList) g gx gr b c lb (midL ((((recC (rcK 3) ra0).toList.set 4 (.int .u64 v5)).set 5 (.int .u64 en.tm))) 6 (cmdCells en.k en.n en.t (.slice A7 en.l.length c7) en.b en.q en.s en.m).toList).toArray k7 e7 ∧ InN .i64 (w9.setCells gx 6 (cmdCells en.k en.n en.t (.slice A7 en.l.length c7) en.b en.q en.s en.m).toList) A7 c7 en.l) := ⟨h10, hin.grown hg10 (fun b off e hh => by
      subst e
      injection hh with hh
      have := HLT.out b rfl
      omega)⟩
    have hth := h9.rc.there 6 8 (Nat.le_of_ble_eq_true rfl)
    clear h9 h10 hg10 hin hown hwf hu H8 f7 HU C C2 C3
    go_upto_region 22 with (refine wpList_store_mid rfl 44 _ _ rfl gx 6 (cmdCells en.k en.n en.t (.slice A7 en.l.length c7) en.b en.q en.s en.m) rfl rfl hth info_Cmd (by simp [cmdCells, Value.oneCell']) ?_; refine gen_world (R := fun W' => HX w W' g gx gr b c lb (midL ((((recC (rcK 3) ra0).toList.set 4 (.int .u64 v5)).set 5 (.int .u64 en.tm))) 6 (cmdCells en.k en.n en.t (.slice A7 en.l.length c7) en.b en.q en.s en.m).toList).toArray k7 e7 ∧ InN .i64 W' A7 c7 en.l) (P := fun W' => wpList _ _ _ _ _ W') HR9.out (fun Wx h9 => ?_); have H9 := Lib.hid h9; clear h9)
    have H : Hid (HX w Wx g gx gr b c lb (recC (rcE v5 en) ⟨A7, c7, sa0⟩) k7 e7) := H9.out.1
    have HI : Hid (InR Wx (rcE v5 en) ⟨A7, c7, sa0⟩) := ⟨H9.out.2, InSh.zero _⟩
    have HW : Hid (Rc.Wf (rcE v5 en)) := ⟨by show (Lit.int .i64 3).wf = true; decide, wf0, wfu0, wfu0, ⟨HLE.out.1, HLE.out.2.2.2⟩, HWF.out, sh0_wf2⟩
    clear HR9 hth H9 C2
    (try simp only [Act.put])
    have HV := HV3
    have hres0 := H.out.res
    have hrc0 : Blk Wx gx 48 (recC (rcE v5 en) ⟨A7, c7, sa0⟩) := H.out.rc
    have hbel0 := H.out.bel
    obtain ⟨-, k9, hge0, hkl9, hk9⟩ := H.out.rd
    have c1 : Wx.cell? ⟨gr, 1, none⟩ = some (.int .i64 (k9 : Int)) := hge0.cell 1
    have c2 : Wx.cell? ⟨gr, 2, none⟩ = some (.int .i64 e7) := hge0.cell 2
    have c0 : Wx.cell? ⟨gr, 0, none⟩ = some (.slice (some ⟨b, 0, none⟩) lb.length c) := hge0.cell 0
    by_cases e00 : e7 = 0
    rotate_left
    · have qz : (e7 == 0) = false := beq_eq_false_iff_ne.2 e00
      have qn : (e7 != 0) = true := bne_iff_ne.2 e00
      have HV2 : Hid (DD = (e7, rc0)) := by
        show _ = _
        rw [HV.out, fin, if_neg h60, if_pos e00]
      have HRES := Lib.hid (fun n : Nat => hres0.drewN n)
      have HGE := Lib.hid (fun n : Nat => hge0.drewN n)
      have HBEL := Lib.hid (fun n : Nat => below_drewN hbel0 n)
      clear hrc0 hk9 hres0 hge0 hbel0
      go_upto_region 22 with (fail)
      go_quiet (fail)
      go_upto_region 25 with (fail)
      have hres := HRES.out nq
      have hge := HGE.out nq
      have hbel := HBEL.out nq
      have ce : (Wx.drewN nq).cell? ⟨gr, 2, none⟩ = some (.int .i64 e7) := hge.cell 2
      go_upto_region 25 with (fail)
      refine wp_region_held_drew (S := fun w' => w'.cell? ⟨gr, 2, none⟩ = some (.int .i64 (e7))) (by kernel_rfl) ce (fun hHeld => ?_)
      refine wpAnyH_take (i := 0) (v := ?v37) rfl (by kernel_rfl) (by kernel_rfl) (by kernel_rfl) (fun _ _ _ h => h) (Or.inl ⟨by rfl, ?y37⟩) (by assumption) ?r37
      case y37 => (intro w hSw; (try dsimp only at hSw); (try go_simp); first | done | with_reducible rfl)
      ((try simp only [List.getElem_toArray, List.getElem_cons_zero]); (try simp only [Act.put, List.setIfInBounds_toArray, List.set_cons_zero, List.set_cons_succ]))
      refine wpAnyH_take (i := 1) (v := ?v1038) rfl (by kernel_rfl) (by kernel_rfl) (by kernel_rfl) (fun _ _ _ h => h) (Or.inl ⟨by rfl, ?y1038⟩) (by assumption) ?r1038
      case y1038 => (intro w hSw; (try dsimp only at hSw); (try go_simp); first | done | with_reducible rfl)
      ((try simp only [List.getElem_toArray, List.getElem_cons_succ, List.getElem_cons_zero]); (try simp only [Act.put, List.setIfInBounds_toArray, List.set_cons_zero, List.set_cons_succ]))
      refine wpAnyH_take (i := 2) (v := ?v2039) rfl (by kernel_rfl) (by kernel_rfl) (by kernel_rfl) (fun _ _ _ h => h) (Or.inl ⟨by rfl, ?y2039⟩) (by assumption) ?r2039
      case y2039 => (intro w hSw; (try dsimp only at hSw); (try go_simp); first | done | with_reducible rfl)
      ((try simp only [List.getElem_toArray, List.getElem_cons_succ, List.getElem_cons_zero]); (try simp only [Act.put, List.setIfInBounds_toArray, List.set_cons_zero, List.set_cons_succ]))
      refine wpAnyH_take (i := 3) (v := ?v3040) rfl (by kernel_rfl) (by kernel_rfl) (by kernel_rfl) (fun _ _ _ h => h) (Or.inl ⟨by rfl, ?y3040⟩) (by assumption) ?r3040
      case y3040 => (intro w hSw; (try dsimp only at hSw); (try go_simp); first | done | with_reducible rfl)
      ((try simp only [List.getElem_toArray, List.getElem_cons_succ, List.getElem_cons_zero]); (try simp only [Act.put, List.setIfInBounds_toArray, List.set_cons_zero, List.set_cons_succ]))
      refine wpAnyH_take (i := 4) (v := ?v4041) rfl (by kernel_rfl) (by kernel_rfl) (by kernel_rfl) (fun _ _ _ h => h) (Or.inl ⟨by rfl, ?y4041⟩) (by assumption) ?r4041
      case y4041 => (intro w hSw; (try dsimp only at hSw); (try go_simp); first | done | with_reducible rfl)
      ((try simp only [List.getElem_toArray, List.getElem_cons_succ, List.getElem_cons_zero]); (try simp only [Act.put, List.setIfInBounds_toArray, List.set_cons_zero, List.set_cons_succ]))
      refine wpAnyH_ready (rs := [5]) (by kernel_rfl) (by simp) ?_
      refine AllReadyH.cons rfl (fun K hK => ?_) AllReadyH.nil
      refine step_store_row rfl 48 _ _ rfl g (recC rc0 ra0) rfl rfl 48 (recC rc0 ra0) hres.drew info_Rec rfl (recC_one _ _) ?_
      refine hK.out _ _ ((hge.drew.rowFar (fun e => (hres.ne_ hge (by decide)) e.symm)).cell 2) (fun hHeld2 => ?_)
      clear hK K hHeld
      have hHeld := hHeld2
      clear hHeld2
      ((try simp only [List.getElem_toArray, List.getElem_cons_succ, List.getElem_cons_zero]); (try simp only [Act.put, List.setIfInBounds_toArray, List.set_cons_zero, List.set_cons_succ]))
      refine wpAnyH_take (i := 6) (v := ?v6042) rfl (by kernel_rfl) (by kernel_rfl) (by kernel_rfl) (fun _ _ _ h => h) (Or.inl ⟨by rfl, ?y6042⟩) (by assumption) ?r6042
      case y6042 => (intro w hSw; (try dsimp only at hSw); (try go_simp); first | done | with_reducible rfl)
      ((try simp only [List.getElem_toArray, List.getElem_cons_succ, List.getElem_cons_zero]); (try simp only [Act.put, List.setIfInBounds_toArray, List.set_cons_zero, List.set_cons_succ]))
      refine wpAnyH_done (by kernel_rfl) ?_ _
      go_wp2_with fail
      (try simp only [Exit.inBlock, Exit.then])
      refine bodyPost_ret (results_cell rfl rfl (run_loadVar_row _ g 48 48 _ (0, 0) _ (Blk.row (cs := recC rc0 ra0) hres.drew) Try.underlying48 rfl info_Rec)) rfl ?_
      exact ⟨row_below hbel.drew (Nat.le_refl _) _, ra0, by have hv := HV2.out; subst hv; rfl, by have hv := HV2.out; subst hv; exact InR.zero _⟩
    have qz : (e7 == 0) = true := by rw [e00]; rfl
    obtain ⟨hk9a, hk9b⟩ := hk9 e00
    have hor := HO.out.o2
    have hox := HO.out.o1
    have HRES := Lib.hid (fun n : Nat => hres0.drewN n)
    have HBEL := Lib.hid (fun n : Nat => below_drewN hbel0 n)
    by_cases hk : k7 < lb.length
    · have dk : decide ((k9 : Int) < (lb.length : Int)) = true := decide_eq_true (by omega)
      have HV2 : Hid (DD = (11, rc0)) := by
        show _ = _
        rw [HV.out, fin, if_neg h60, if_neg (by rw [e00]; simp), if_pos hk]
      have CF := Lib.hid (fun n : Nat => ref_Fail_any (Wx.drewN n) gr (some ⟨b, 0, none⟩) lb.length c k9 e7 11 (hge0.drewN n))
      clear hrc0 hres0 hge0 hbel0
      go_upto_region 22 with (fail)
      go_quiet (fail)
      go_upto_region 23 with (fail)
      go_wp2_with fail
      refine (CF.out nq).mono ?_
      rintro x w6 ⟨rfl, hF, hG⟩
      rw [if_pos e00] at hF
      have hres := (HRES.out nq).grown hG (fun e => by injection e with e; omega)
      have hge := hF
      have hbel := (HBEL.out nq).grown hG (Nat.le_of_lt (HRES.out nq).lt) (fun i hi => by injection hi with hi; omega)
      have ce : w6.cell? ⟨gr, 2, none⟩ = some (.int .i64 11) := hge.cell 2
      clear hF hG c0 c1 c2 qz
      go_upto_region 25 with (fail)
      refine wp_region_held_drew (S := fun w' => w'.cell? ⟨gr, 2, none⟩ = some (.int .i64 (11))) (by kernel_rfl) ce (fun hHeld => ?_)
      refine wpAnyH_take (i := 0) (v := ?v43) rfl (by kernel_rfl) (by kernel_rfl) (by kernel_rfl) (fun _ _ _ h => h) (Or.inl ⟨by rfl, ?y43⟩) (by assumption) ?r43
      case y43 => (intro w hSw; (try dsimp only at hSw); (try go_simp); first | done | with_reducible rfl)
      ((try simp only [List.getElem_toArray, List.getElem_cons_zero]); (try simp only [Act.put, List.setIfInBounds_toArray, List.set_cons_zero, List.set_cons_succ]))
      refine wpAnyH_take (i := 1) (v := ?v1044) rfl (by kernel_rfl) (by kernel_rfl) (by kernel_rfl) (fun _ _ _ h => h) (Or.inl ⟨by rfl, ?y1044⟩) (by assumption) ?r1044
      case y1044 => (intro w hSw; (try dsimp only at hSw); (try go_simp); first | done | with_reducible rfl)
      ((try simp only [List.getElem_toArray, List.getElem_cons_succ, List.getElem_cons_zero]); (try simp only [Act.put, List.setIfInBounds_toArray, List.set_cons_zero, List.set_cons_succ]))
      refine wpAnyH_take (i := 2) (v := ?v2045) rfl (by kernel_rfl) (by kernel_rfl) (by kernel_rfl) (fun _ _ _ h => h) (Or.inl ⟨by rfl, ?y2045⟩) (by assumption) ?r2045
      case y2045 => (intro w hSw; (try dsimp only at hSw); (try go_simp); first | done | with_reducible rfl)
      ((try simp only [List.getElem_toArray, List.getElem_cons_succ, List.getElem_cons_zero]); (try simp only [Act.put, List.setIfInBounds_toArray, List.set_cons_zero, List.set_cons_succ]))
      refine wpAnyH_take (i := 3) (v := ?v3046) rfl (by kernel_rfl) (by kernel_rfl) (by kernel_rfl) (fun _ _ _ h => h) (Or.inl ⟨by rfl, ?y3046⟩) (by assumption) ?r3046
      case y3046 => (intro w hSw; (try dsimp only at hSw); (try go_simp); first | done | with_reducible rfl)
      ((try simp only [List.getElem_toArray, List.getElem_cons_succ, List.getElem_cons_zero]); (try simp only [Act.put, List.setIfInBounds_toArray, List.set_cons_zero, List.set_cons_succ]))
      refine wpAnyH_take (i := 4) (v := ?v4047) rfl (by kernel_rfl) (by kernel_rfl) (by kernel_rfl) (fun _ _ _ h => h) (Or.inl ⟨by rfl, ?y4047⟩) (by assumption) ?r4047
      case y4047 => (intro w hSw; (try dsimp only at hSw); (try go_simp); first | done | with_reducible rfl)
      ((try simp only [List.getElem_toArray, List.getElem_cons_succ, List.getElem_cons_zero]); (try simp only [Act.put, List.setIfInBounds_toArray, List.set_cons_zero, List.set_cons_succ]))
      refine wpAnyH_ready (rs := [5]) (by kernel_rfl) (by simp) ?_
      refine AllReadyH.cons rfl (fun K hK => ?_) AllReadyH.nil
      refine step_store_row rfl 48 _ _ rfl g (recC rc0 ra0) rfl rfl 48 (recC rc0 ra0) hres.drew info_Rec rfl (recC_one _ _) ?_
      refine hK.out _ _ ((hge.drew.rowFar (fun e => (hres.ne_ hge (by decide)) e.symm)).cell 2) (fun hHeld2 => ?_)
      clear hK K hHeld
      have hHeld := hHeld2
      clear hHeld2
      ((try simp only [List.getElem_toArray, List.getElem_cons_succ, List.getElem_cons_zero]); (try simp only [Act.put, List.setIfInBounds_toArray, List.set_cons_zero, List.set_cons_succ]))
      refine wpAnyH_take (i := 6) (v := ?v6048) rfl (by kernel_rfl) (by kernel_rfl) (by kernel_rfl) (fun _ _ _ h => h) (Or.inl ⟨by rfl, ?y6048⟩) (by assumption) ?r6048
      case y6048 => (intro w hSw; (try dsimp only at hSw); (try go_simp); first | done | with_reducible rfl)
      ((try simp only [List.getElem_toArray, List.getElem_cons_succ, List.getElem_cons_zero]); (try simp only [Act.put, List.setIfInBounds_toArray, List.set_cons_zero, List.set_cons_succ]))
      refine wpAnyH_done (by kernel_rfl) ?_ _
      go_wp2_with fail
      (try simp only [Exit.inBlock, Exit.then])
      refine bodyPost_ret (results_cell rfl rfl (run_loadVar_row _ g 48 48 _ (0, 0) _ (Blk.row (cs := recC rc0 ra0) hres.drew) Try.underlying48 rfl info_Rec)) rfl ?_
      exact ⟨row_below hbel.drew (Nat.le_refl _) _, ra0, by have hv := HV2.out; subst hv; rfl, by have hv := HV2.out; subst hv; exact InR.zero _⟩
    have dk : decide ((k9 : Int) < (lb.length : Int)) = false := decide_eq_false (by omega)
    have qn : (e7 != 0) = false := by rw [e00]; rfl
    have HRC := Lib.hid (fun n : Nat => hrc0.drewN n)
    have CM := fun n : Nat => r13_May_any (Wx.drewN n) (rcE v5 en) ⟨A7, c7, sa0⟩ (HI.out.keep (below_drewN (Below.refl _ _) n)) HW.out
    have hrl := hrc0.lt
    have hgl := hres0.lt
    clear hrc0 hres0 hge0 hbel0
    by_cases hm : (rcE v5 en).May
    · have HV2 : Hid (DD = (0, (rcE v5 en))) := by
        show _ = _
        rw [HV.out, fin, if_neg h60, if_neg (by rw [e00]; simp), if_neg hk, if_pos hm]
      rw [decide_eq_true hm] at CM
      unfold recV at CM
      have CM := Lib.hid CM
      go_upto_region 22 with (fail)
      go_quiet (fail)
      go_upto_region 26 with (fail)
      go_wp2_with (refine wpList_load_row rfl 48 _ rfl gx rfl 48 (recC (rcE v5 en) ⟨A7, c7, sa0⟩) (HRC.out nq) _ Try.underlying48 rfl info_Rec ?_)
      refine (CM.out nq).mono ?_
      rintro y w8 ⟨rfl, hB8⟩
      have hres8 := (HRES.out nq).below hB8 hgl
      have hrc8 := (HRC.out nq).below hB8 hrl
      have hbel8 := (HBEL.out nq).trans (hB8.mono (Nat.le_of_lt hgl))
      have HI8 := Lib.hid ((HI.out.keep (below_drewN (Below.refl _ _) nq)).keep hB8)
      clear hB8
      go_wp2_with (first | (refine wpList_load_row rfl 48 _ rfl gx rfl 48 (recC (rcE v5 en) ⟨A7, c7, sa0⟩) hrc8 _ Try.underlying48 rfl info_Rec ?_) | refine wpList_store_row rfl 48 _ _ rfl g (recC (rcE v5 en) ⟨A7, c7, sa0⟩) rfl rfl 48 (recC rc0 ra0) hres8 info_Rec rfl (recC_one _ _) ?_)
      (try simp only [Exit.inBlock, Exit.then])
      refine bodyPost_ret (results_cell rfl rfl (run_loadVar_row _ g 48 48 _ (0, 0) _ (Blk.row (cs := recC (rcE v5 en) ⟨A7, c7, sa0⟩) hres8) Try.underlying48 rfl info_Rec)) rfl ?_
      exact ⟨row_below hbel8 (Nat.le_refl _) _, ⟨A7, c7, sa0⟩, by have hv := HV2.out; subst hv; rfl, by have hv := HV2.out; subst hv; exact ⟨HI8.out.l.grown (row_grown g _) (fun b off e hh => by subst e; injection hh with hh; have := HLT.out b rfl; omega), InSh.zero _⟩⟩
    · have HV2 : Hid (DD = (130, rc0)) := by
        show _ = _
        rw [HV.out, fin, if_neg h60, if_neg (by rw [e00]; simp), if_neg hk, if_neg hm]
      rw [decide_eq_false hm] at CM
      unfold recV at CM
      have CM := Lib.hid CM
      go_upto_region 22 with (fail)
      go_quiet (fail)
      go_upto_region 26 with (fail)
      go_wp2_with (refine wpList_load_row rfl 48 _ rfl gx rfl 48 (recC (rcE v5 en) ⟨A7, c7, sa0⟩) (HRC.out nq) _ Try.underlying48 rfl info_Rec ?_)
      refine (CM.out nq).mono ?_
      rintro y w8 ⟨rfl, hB8⟩
      have hres8 := (HRES.out nq).below hB8 hgl
      have hbel8 := (HBEL.out nq).trans (hB8.mono (Nat.le_of_lt hgl))
      clear hB8
      go_wp2_with (refine wpList_store_row rfl 48 _ _ rfl g (recC rc0 ra0) rfl rfl 48 (recC rc0 ra0) hres8 info_Rec rfl (recC_one _ _) ?_)
      (try simp only [Exit.inBlock, Exit.then])
      refine bodyPost_ret (results_cell rfl rfl (run_loadVar_row _ g 48 48 _ (0, 0) _ (Blk.row (cs := recC rc0 ra0) hres8) Try.underlying48 rfl info_Rec)) rfl ?_
      exact ⟨row_below hbel8 (Nat.le_refl _) _, ra0, by have hv := HV2.out; subst hv; rfl, by have hv := HV2.out; subst hv; exact InR.zero _⟩
  by_cases n4 : z = 4
  · subst n4
    have k1 : ((4 : Int) == 1) = false := by decide
    have k2 : ((4 : Int) == 2) = false := by decide
    have k3 : ((4 : Int) == 3) = false := by decide
    have k4 : ((4 : Int) == 4) = true := by decide
    have k5 : ((4 : Int) == 5) = false := by decide
    have hle := rnum_le HO.out.byt (Nat.zero_le lb.length) 0 (most := M64) (by decide)
    have hu : DD = fin lb (rnum lb 0 0 M64).2.2 (rnum lb 0 0 M64).2.1 ⟨4, 0, 0, 0, (rnum lb 0 0 M64).1, en0, sh0⟩ := HV.out
    have C := H0.out.num HO.out
    have h60 : (rnum lb 0 0 M64).2.2 ≠ 60 := by
      rcases rnum_errs lb 0 (e := 0) (most := M64) (.inl rfl) with q | q | q <;> omega
    obtain ⟨⟨v5, n5, e5⟩, hr5⟩ : ∃ q, rnum lb 0 0 M64 = q := ⟨_, rfl⟩
    rw [hr5] at C hu hle h60
    simp only at C hu hle h60
    have HV3 : Hid (DD = fin lb e5 n5 ⟨4, 0, 0, 0, v5, en0, sh0⟩) := hu
    have HLE := Lib.hid hle
    have C := Lib.hid C
    clear hr5 hu hle HV
    have z0 : wc.cell? ⟨gx, 0, none⟩ = some (.int .i64 4) := H0.out.rc.cell 0
    go_wp2_with fail
    refine C.out.mono ?_
    rintro x w5 ⟨rfl, h5⟩
    have c5 : w5.cell? ⟨gx, 4, none⟩ = some (.int .u64 0) := h5.rc.cell 4
    have f5 := h5.rc.frozen 4
    have h6 := h5.set HO.out 4 (.int .u64 v5)
    clear h5 z0 H0
    go_upto_region 22 with (fail)
    generalize (w5.setCell ⟨gx, 4, none⟩ (.int .u64 v5)) = Wx at h6 ⊢
    have H := Lib.hid h6
    clear h6 c5 f5
    have HI : Hid (InR Wx ⟨4, 0, 0, 0, v5, en0, sh0⟩ ra0) := ⟨InN.nil, InSh.zero _⟩
    have HW : Hid (Rc.Wf ⟨4, 0, 0, 0, v5, en0, sh0⟩) := ⟨by show (Lit.int .i64 4).wf = true; decide, wf0, wfu0, wfu0, ⟨HLE.out.1, HLE.out.2.2.2⟩, en0_wf2, sh0_wf2⟩
    have HV := HV3
    have hres0 := H.out.res
    have hrc0 : Blk Wx gx 48 (recC (Rc.mk 4 0 0 0 v5 en0 sh0) ra0) := H.out.rc
    have hbel0 := H.out.bel
    obtain ⟨-, k9, hge0, hkl9, hk9⟩ := H.out.rd
    have c1 : Wx.cell? ⟨gr, 1, none⟩ = some (.int .i64 (k9 : Int)) := hge0.cell 1
    have c2 : Wx.cell? ⟨gr, 2, none⟩ = some (.int .i64 e5) := hge0.cell 2
    have c0 : Wx.cell? ⟨gr, 0, none⟩ = some (.slice (some ⟨b, 0, none⟩) lb.length c) := hge0.cell 0
    by_cases e00 : e5 = 0
    rotate_left
    · have qz : (e5 == 0) = false := beq_eq_false_iff_ne.2 e00
      have qn : (e5 != 0) = true := bne_iff_ne.2 e00
      have HV2 : Hid (DD = (e5, rc0)) := by
        show _ = _
        rw [HV.out, fin, if_neg h60, if_pos e00]
      have HRES := Lib.hid (fun n : Nat => hres0.drewN n)
      have HGE := Lib.hid (fun n : Nat => hge0.drewN n)
      have HBEL := Lib.hid (fun n : Nat => below_drewN hbel0 n)
      clear hrc0 hk9 hres0 hge0 hbel0
      go_upto_region 22 with (fail)
      go_quiet (fail)
      go_upto_region 25 with (fail)
      have hres := HRES.out nq
      have hge := HGE.out nq
      have hbel := HBEL.out nq
      have ce : (Wx.drewN nq).cell? ⟨gr, 2, none⟩ = some (.int .i64 e5) := hge.cell 2
      go_upto_region 25 with (fail)
      refine wp_region_held_drew (S := fun w' => w'.cell? ⟨gr, 2, none⟩ = some (.int .i64 (e5))) (by kernel_rfl) ce (fun hHeld => ?_)
      refine wpAnyH_take (i := 0) (v := ?v13) rfl (by kernel_rfl) (by kernel_rfl) (by kernel_rfl) (fun _ _ _ h => h) (Or.inl ⟨by rfl, ?y13⟩) (by assumption) ?r13
      case y13 => (intro w hSw; (try dsimp only at hSw); (try go_simp); first | done | with_reducible rfl)
      ((try simp only [List.getElem_toArray, List.getElem_cons_zero]); (try simp only [Act.put, List.setIfInBounds_toArray, List.set_cons_zero, List.set_cons_succ]))
      refine wpAnyH_take (i := 1) (v := ?v1014) rfl (by kernel_rfl) (by kernel_rfl) (by kernel_rfl) (fun _ _ _ h => h) (Or.inl ⟨by rfl, ?y1014⟩) (by assumption) ?r1014
      case y1014 => (intro w hSw; (try dsimp only at hSw); (try go_simp); first | done | with_reducible rfl)
      ((try simp only [List.getElem_toArray, List.getElem_cons_succ, List.getElem_cons_zero]); (try simp only [Act.put, List.setIfInBounds_toArray, List.set_cons_zero, List.set_cons_succ]))
      refine wpAnyH_take (i := 2) (v := ?v2015) rfl (by kernel_rfl) (by kernel_rfl) (by kernel_rfl) (fun _ _ _ h => h) (Or.inl ⟨by rfl, ?y2015⟩) (by assumption) ?r2015
      case y2015 => (intro w hSw; (try dsimp only at hSw); (try go_simp); first | done | with_reducible rfl)
      ((try simp only [List.getElem_toArray, List.getElem_cons_succ, List.getElem_cons_zero]); (try simp only [Act.put, List.setIfInBounds_toArray, List.set_cons_zero, List.set_cons_succ]))
      refine wpAnyH_take (i := 3) (v := ?v3016) rfl (by kernel_rfl) (by kernel_rfl) (by kernel_rfl) (fun _ _ _ h => h) (Or.inl ⟨by rfl, ?y3016⟩) (by assumption) ?r3016
      case y3016 => (intro w hSw; (try dsimp only at hSw); (try go_simp); first | done | with_reducible rfl)
      ((try simp only [List.getElem_toArray, List.getElem_cons_succ, List.getElem_cons_zero]); (try simp only [Act.put, List.setIfInBounds_toArray, List.set_cons_zero, List.set_cons_succ]))
      refine wpAnyH_take (i := 4) (v := ?v4017) rfl (by kernel_rfl) (by kernel_rfl) (by kernel_rfl) (fun _ _ _ h => h) (Or.inl ⟨by rfl, ?y4017⟩) (by assumption) ?r4017
      case y4017 => (intro w hSw; (try dsimp only at hSw); (try go_simp); first | done | with_reducible rfl)
      ((try simp only [List.getElem_toArray, List.getElem_cons_succ, List.getElem_cons_zero]); (try simp only [Act.put, List.setIfInBounds_toArray, List.set_cons_zero, List.set_cons_succ]))
      refine wpAnyH_ready (rs := [5]) (by kernel_rfl) (by simp) ?_
      refine AllReadyH.cons rfl (fun K hK => ?_) AllReadyH.nil
      refine step_store_row rfl 48 _ _ rfl g (recC rc0 ra0) rfl rfl 48 (recC rc0 ra0) hres.drew info_Rec rfl (recC_one _ _) ?_
      refine hK.out _ _ ((hge.drew.rowFar (fun e => (hres.ne_ hge (by decide)) e.symm)).cell 2) (fun hHeld2 => ?_)
      clear hK K hHeld
      have hHeld := hHeld2
      clear hHeld2
      ((try simp only [List.getElem_toArray, List.getElem_cons_succ, List.getElem_cons_zero]); (try simp only [Act.put, List.setIfInBounds_toArray, List.set_cons_zero, List.set_cons_succ]))
      refine wpAnyH_take (i := 6) (v := ?v6018) rfl (by kernel_rfl) (by kernel_rfl) (by kernel_rfl) (fun _ _ _ h => h) (Or.inl ⟨by rfl, ?y6018⟩) (by assumption) ?r6018
      case y6018 => (intro w hSw; (try dsimp only at hSw); (try go_simp); first | done | with_reducible rfl)
      ((try simp only [List.getElem_toArray, List.getElem_cons_succ, List.getElem_cons_zero]); (try simp only [Act.put, List.setIfInBounds_toArray, List.set_cons_zero, List.set_cons_succ]))
      refine wpAnyH_done (by kernel_rfl) ?_ _
      go_wp2_with fail
      (try simp only [Exit.inBlock, Exit.then])
      refine bodyPost_ret (results_cell rfl rfl (run_loadVar_row _ g 48 48 _ (0, 0) _ (Blk.row (cs := recC rc0 ra0) hres.drew) Try.underlying48 rfl info_Rec)) rfl ?_
      exact ⟨row_below hbel.drew (Nat.le_refl _) _, ra0, by have hv := HV2.out; subst hv; rfl, by have hv := HV2.out; subst hv; exact InR.zero _⟩
    have qz : (e5 == 0) = true := by rw [e00]; rfl
    obtain ⟨hk9a, hk9b⟩ := hk9 e00
    have hor := HO.out.o2
    have hox := HO.out.o1
    have HRES := Lib.hid (fun n : Nat => hres0.drewN n)
    have HBEL := Lib.hid (fun n : Nat => below_drewN hbel0 n)
    by_cases hk : n5 < lb.length
    · have dk : decide ((k9 : Int) < (lb.length : Int)) = true := decide_eq_true (by omega)
      have HV2 : Hid (DD = (11, rc0)) := by
        show _ = _
        rw [HV.out, fin, if_neg h60, if_neg (by rw [e00]; simp), if_pos hk]
      have CF := Lib.hid (fun n : Nat => ref_Fail_any (Wx.drewN n) gr (some ⟨b, 0, none⟩) lb.length c k9 e5 11 (hge0.drewN n))
      clear hrc0 hres0 hge0 hbel0
      go_upto_region 22 with (fail)
      go_quiet (fail)
      go_upto_region 23 with (fail)
      go_wp2_with fail
      refine (CF.out nq).mono ?_
      rintro x w6 ⟨rfl, hF, hG⟩
      rw [if_pos e00] at hF
      have hres := (HRES.out nq).grown hG (fun e => by injection e with e; omega)
      have hge := hF
      have hbel := (HBEL.out nq).grown hG (Nat.le_of_lt (HRES.out nq).lt) (fun i hi => by injection hi with hi; omega)
      have ce : w6.cell? ⟨gr, 2, none⟩ = some (.int .i64 11) := hge.cell 2
      clear hF hG c0 c1 c2 qz
      go_upto_region 25 with (fail)
      refine wp_region_held_drew (S := fun w' => w'.cell? ⟨gr, 2, none⟩ = some (.int .i64 (11))) (by kernel_rfl) ce (fun hHeld => ?_)
      refine wpAnyH_take (i := 0) (v := ?v19) rfl (by kernel_rfl) (by kernel_rfl) (by kernel_rfl) (fun _ _ _ h => h) (Or.inl ⟨by rfl, ?y19⟩) (by assumption) ?r19
      case y19 => (intro w hSw; (try dsimp only at hSw); (try go_simp); first | done | with_reducible rfl)
      ((try simp only [List.getElem_toArray, List.getElem_cons_zero]); (try simp only [Act.put, List.setIfInBounds_toArray, List.set_cons_zero, List.set_cons_succ]))
      refine wpAnyH_take (i := 1) (v := ?v1020) rfl (by kernel_rfl) (by kernel_rfl) (by kernel_rfl) (fun _ _ _ h => h) (Or.inl ⟨by rfl, ?y1020⟩) (by assumption) ?r1020
      case y1020 => (intro w hSw; (try dsimp only at hSw); (try go_simp); first | done | with_reducible rfl)
      ((try simp only [List.getElem_toArray, List.getElem_cons_succ, List.getElem_cons_zero]); (try simp only [Act.put, List.setIfInBounds_toArray, List.set_cons_zero, List.set_cons_succ]))
      refine wpAnyH_take (i := 2) (v := ?v2021) rfl (by kernel_rfl) (by kernel_rfl) (by kernel_rfl) (fun _ _ _ h => h) (Or.inl ⟨by rfl, ?y2021⟩) (by assumption) ?r2021
      case y2021 => (intro w hSw; (try dsimp only at hSw); (try go_simp); first | done | with_reducible rfl)
      ((try simp only [List.getElem_toArray, List.getElem_cons_succ, List.getElem_cons_zero]); (try simp only [Act.put, List.setIfInBounds_toArray, List.set_cons_zero, List.set_cons_succ]))
      refine wpAnyH_take (i := 3) (v := ?v3022) rfl (by kernel_rfl) (by kernel_rfl) (by kernel_rfl) (fun _ _ _ h => h) (Or.inl ⟨by rfl, ?y3022⟩) (by assumption) ?r3022
      case y3022 => (intro w hSw; (try dsimp only at hSw); (try go_simp); first | done | with_reducible rfl)
      ((try simp only [List.getElem_toArray, List.getElem_cons_succ, List.getElem_cons_zero]); (try simp only [Act.put, List.setIfInBounds_toArray, List.set_cons_zero, List.set_cons_succ]))
      refine wpAnyH_take (i := 4) (v := ?v4023) rfl (by kernel_rfl) (by kernel_rfl) (by kernel_rfl) (fun _ _ _ h => h) (Or.inl ⟨by rfl, ?y4023⟩) (by assumption) ?r4023
      case y4023 => (intro w hSw; (try dsimp only at hSw); (try go_simp); first | done | with_reducible rfl)
      ((try simp only [List.getElem_toArray, List.getElem_cons_succ, List.getElem_cons_zero]); (try simp only [Act.put, List.setIfInBounds_toArray, List.set_cons_zero, List.set_cons_succ]))
      refine wpAnyH_ready (rs := [5]) (by kernel_rfl) (by simp) ?_
      refine AllReadyH.cons rfl (fun K hK => ?_) AllReadyH.nil
      refine step_store_row rfl 48 _ _ rfl g (recC rc0 ra0) rfl rfl 48 (recC rc0 ra0) hres.drew info_Rec rfl (recC_one _ _) ?_
      refine hK.out _ _ ((hge.drew.rowFar (fun e => (hres.ne_ hge (by decide)) e.symm)).cell 2) (fun hHeld2 => ?_)
      clear hK K hHeld
      have hHeld := hHeld2
      clear hHeld2
      ((try simp only [List.getElem_toArray, List.getElem_cons_succ, List.getElem_cons_zero]); (try simp only [Act.put, List.setIfInBounds_toArray, List.set_cons_zero, List.set_cons_succ]))
      refine wpAnyH_take (i := 6) (v := ?v6024) rfl (by kernel_rfl) (by kernel_rfl) (by kernel_rfl) (fun _ _ _ h => h) (Or.inl ⟨by rfl, ?y6024⟩) (by assumption) ?r6024
      case y6024 => (intro w hSw; (try dsimp only at hSw); (try go_simp); first | done | with_reducible rfl)
      ((try simp only [List.getElem_toArray, List.getElem_cons_succ, List.getElem_cons_zero]); (try simp only [Act.put, List.setIfInBounds_toArray, List.set_cons_zero, List.set_cons_succ]))
      refine wpAnyH_done (by kernel_rfl) ?_ _
      go_wp2_with fail
      (try simp only [Exit.inBlock, Exit.then])
      refine bodyPost_ret (results_cell rfl rfl (run_loadVar_row _ g 48 48 _ (0, 0) _ (Blk.row (cs := recC rc0 ra0) hres.drew) Try.underlying48 rfl info_Rec)) rfl ?_
      exact ⟨row_below hbel.drew (Nat.le_refl _) _, ra0, by have hv := HV2.out; subst hv; rfl, by have hv := HV2.out; subst hv; exact InR.zero _⟩
    have dk : decide ((k9 : Int) < (lb.length : Int)) = false := decide_eq_false (by omega)
    have qn : (e5 != 0) = false := by rw [e00]; rfl
    have HRC := Lib.hid (fun n : Nat => hrc0.drewN n)
    have CM := fun n : Nat => r13_May_any (Wx.drewN n) (Rc.mk 4 0 0 0 v5 en0 sh0) ra0 (HI.out.keep (below_drewN (Below.refl _ _) n)) HW.out
    have hrl := hrc0.lt
    have hgl := hres0.lt
    clear hrc0 hres0 hge0 hbel0
    by_cases hm : (Rc.mk 4 0 0 0 v5 en0 sh0).May
    · have HV2 : Hid (DD = (0, (Rc.mk 4 0 0 0 v5 en0 sh0))) := by
        show _ = _
        rw [HV.out, fin, if_neg h60, if_neg (by rw [e00]; simp), if_neg hk, if_pos hm]
      rw [decide_eq_true hm] at CM
      unfold recV at CM
      have CM := Lib.hid CM
      go_upto_region 22 with (fail)
      go_quiet (fail)
      go_upto_region 26 with (fail)
      go_wp2_with (refine wpList_load_row rfl 48 _ rfl gx rfl 48 (recC (Rc.mk 4 0 0 0 v5 en0 sh0) ra0) (HRC.out nq) _ Try.underlying48 rfl info_Rec ?_)
      refine (CM.out nq).mono ?_
      rintro y w8 ⟨rfl, hB8⟩
      have hres8 := (HRES.out nq).below hB8 hgl
      have hrc8 := (HRC.out nq).below hB8 hrl
      have hbel8 := (HBEL.out nq).trans (hB8.mono (Nat.le_of_lt hgl))
      have HI8 := Lib.hid ((HI.out.keep (below_drewN (Below.refl _ _) nq)).keep hB8)
      clear hB8
      go_wp2_with (first | (refine wpList_load_row rfl 48 _ rfl gx rfl 48 (recC (Rc.mk 4 0 0 0 v5 en0 sh0) ra0) hrc8 _ Try.underlying48 rfl info_Rec ?_) | refine wpList_store_row rfl 48 _ _ rfl g (recC (Rc.mk 4 0 0 0 v5 en0 sh0) ra0) rfl rfl 48 (recC rc0 ra0) hres8 info_Rec rfl (recC_one _ _) ?_)
      (try simp only [Exit.inBlock, Exit.then])
      refine bodyPost_ret (results_cell rfl rfl (run_loadVar_row _ g 48 48 _ (0, 0) _ (Blk.row (cs := recC (Rc.mk 4 0 0 0 v5 en0 sh0) ra0) hres8) Try.underlying48 rfl info_Rec)) rfl ?_
      exact ⟨row_below hbel8 (Nat.le_refl _) _, ra0, by have hv := HV2.out; subst hv; rfl, by have hv := HV2.out; subst hv; exact ⟨InN.nil, InSh.zero _⟩⟩
    · have HV2 : Hid (DD = (130, rc0)) := by
        show _ = _
        rw [HV.out, fin, if_neg h60, if_neg (by rw [e00]; simp), if_neg hk, if_neg hm]
      rw [decide_eq_false hm] at CM
      unfold recV at CM
      have CM := Lib.hid CM
      go_upto_region 22 with (fail)
      go_quiet (fail)
      go_upto_region 26 with (fail)
      go_wp2_with (refine wpList_load_row rfl 48 _ rfl gx rfl 48 (recC (Rc.mk 4 0 0 0 v5 en0 sh0) ra0) (HRC.out nq) _ Try.underlying48 rfl info_Rec ?_)
      refine (CM.out nq).mono ?_
      rintro y w8 ⟨rfl, hB8⟩
      have hres8 := (HRES.out nq).below hB8 hgl
      have hbel8 := (HBEL.out nq).trans (hB8.mono (Nat.le_of_lt hgl))
      clear hB8
      go_wp2_with (refine wpList_store_row rfl 48 _ _ rfl g (recC rc0 ra0) rfl rfl 48 (recC rc0 ra0) hres8 info_Rec rfl (recC_one _ _) ?_)
      (try simp only [Exit.inBlock, Exit.then])
      refine bodyPost_ret (results_cell rfl rfl (run_loadVar_row _ g 48 48 _ (0, 0) _ (Blk.row (cs := recC rc0 ra0) hres8) Try.underlying48 rfl info_Rec)) rfl ?_
      exact ⟨row_below hbel8 (Nat.le_refl _) _, ra0, by have hv := HV2.out; subst hv; rfl, by have hv := HV2.out; subst hv; exact InR.zero _⟩
  by_cases n5 : z = 5
  · subst n5
    have k1 : ((5 : Int) == 1) = false := by decide
    have k2 : ((5 : Int) == 2) = false := by decide
    have k3 : ((5 : Int) == 3) = false := by decide
    have k4 : ((5 : Int) == 4) = false := by decide
    have k5 : ((5 : Int) == 5) = true := by decide
    have hu : DD = fin lb (sE lb) lb.length ⟨5, 0, 0, 0, 0, en0, if sE lb = 0 then shD lb else sh0⟩ := HV.out
    have C := H0.out.shot HO.out
    unfold shtV at C
    have C := Lib.hid C
    have HU := Lib.hid hu
    clear hu HV
    have z0 : wc.cell? ⟨gx, 0, none⟩ = some (.int .i64 5) := H0.out.rc.cell 0
    have hwl := H0.out.rc.lt
    have hwg := H0.out.res.lt
    go_wp2_with fail
    refine C.out.mono ?_
    rintro x w9 ⟨sh, sa, k7, e7, rfl, hwf, hin, hown, h9, h60, hu⟩
    have HWF := Lib.hid hwf
    have HO1 := Lib.hid hown
    have HV3 : Hid (DD = fin lb e7 k7 ⟨5, 0, 0, 0, 0, en0, sh⟩) := HU.out.trans hu
    have h10 := h9.mid HO.out (shtC sh sa).toList 14
    have hg10 : w9.grownBy (w9.setCells gx 14 (shtC sh sa).toList) (some gx) := mid_grown gx _ 14
    have HR9 : Hid (HX w (w9.setCells gx 14 (shtC sh sa).toList) g gx gr b c lb (midL (recC (rcK 5) ra0).toList 14 (shtC sh sa).toList).toArray k7 e7 ∧ InSh (w9.setCells gx 14 (shtC sh sa).toList) sh sa) := ⟨h10, hin.grown hown hg10 hwl⟩
    have hth := h9.rc.there 14 7 (Nat.le_of_ble_eq_true rfl)
    clear h9 h10 hg10 hin hown hwf hu z0 H0 HU C
    go_upto_region 22 with (refine wpList_store_mid rfl 29 _ _ rfl gx 14 (shtC sh sa) rfl rfl hth info_Shot (by simp [shtC, Value.oneCell']) ?_; refine gen_world (R := fun W' => HX w W' g gx gr b c lb (midL (recC (rcK 5) ra0).toList 14 (shtC sh sa).toList).toArray k7 e7 ∧ InSh W' sh sa) (P := fun W' => wpList _ _ _ _ _ W') HR9.out (fun Wx h9 => ?_); have H9 := Lib.hid h9; clear h9)
    have H : Hid (HX w Wx g gx gr b c lb (recC (Rc.mk 5 0 0 0 0 en0 sh) ⟨none, 0, sa⟩) k7 e7) := H9.out.1
    have HI : Hid (InR Wx (Rc.mk 5 0 0 0 0 en0 sh) ⟨none, 0, sa⟩) := ⟨InN.nil, H9.out.2⟩
    have HW : Hid (Rc.Wf (Rc.mk 5 0 0 0 0 en0 sh)) := ⟨by show (Lit.int .i64 5).wf = true; decide, wf0, wfu0, wfu0, wfu0, en0_wf2, HWF.out⟩
    clear HR9 hth H9
    (try simp only [Act.put])
    have HV := HV3
    have hres0 := H.out.res
    have hrc0 : Blk Wx gx 48 (recC (Rc.mk 5 0 0 0 0 en0 sh) ⟨none, 0, sa⟩) := H.out.rc
    have hbel0 := H.out.bel
    obtain ⟨-, k9, hge0, hkl9, hk9⟩ := H.out.rd
    have c1 : Wx.cell? ⟨gr, 1, none⟩ = some (.int .i64 (k9 : Int)) := hge0.cell 1
    have c2 : Wx.cell? ⟨gr, 2, none⟩ = some (.int .i64 e7) := hge0.cell 2
    have c0 : Wx.cell? ⟨gr, 0, none⟩ = some (.slice (some ⟨b, 0, none⟩) lb.length c) := hge0.cell 0
    by_cases e00 : e7 = 0
    rotate_left
    · have qz : (e7 == 0) = false := beq_eq_false_iff_ne.2 e00
      have qn : (e7 != 0) = true := bne_iff_ne.2 e00
      have HV2 : Hid (DD = (e7, rc0)) := by
        show _ = _
        rw [HV.out, fin, if_neg h60, if_pos e00]
      have HRES := Lib.hid (fun n : Nat => hres0.drewN n)
      have HGE := Lib.hid (fun n : Nat => hge0.drewN n)
      have HBEL := Lib.hid (fun n : Nat => below_drewN hbel0 n)
      clear hrc0 hk9 hres0 hge0 hbel0
      go_upto_region 22 with (fail)
      go_quiet (fail)
      go_upto_region 25 with (fail)
      have hres := HRES.out nq
      have hge := HGE.out nq
      have hbel := HBEL.out nq
      have ce : (Wx.drewN nq).cell? ⟨gr, 2, none⟩ = some (.int .i64 e7) := hge.cell 2
      go_upto_region 25 with (fail)
      refine wp_region_held_drew (S := fun w' => w'.cell? ⟨gr, 2, none⟩ = some (.int .i64 (e7))) (by kernel_rfl) ce (fun hHeld => ?_)
      refine wpAnyH_take (i := 0) (v := ?v49) rfl (by kernel_rfl) (by kernel_rfl) (by kernel_rfl) (fun _ _ _ h => h) (Or.inl ⟨by rfl, ?y49⟩) (by assumption) ?r49
      case y49 => (intro w hSw; (try dsimp only at hSw); (try go_simp); first | done | with_reducible rfl)
      ((try simp only [List.getElem_toArray, List.getElem_cons_zero]); (try simp only [Act.put, List.setIfInBounds_toArray, List.set_cons_zero, List.set_cons_succ]))
      refine wpAnyH_take (i := 1) (v := ?v1050) rfl (by kernel_rfl) (by kernel_rfl) (by kernel_rfl) (fun _ _ _ h => h) (Or.inl ⟨by rfl, ?y1050⟩) (by assumption) ?r1050
      case y1050 => (intro w hSw; (try dsimp only at hSw); (try go_simp); first | done | with_reducible rfl)
      ((try simp only [List.getElem_toArray, List.getElem_cons_succ, List.getElem_cons_zero]); (try simp only [Act.put, List.setIfInBounds_toArray, List.set_cons_zero, List.set_cons_succ]))
      refine wpAnyH_take (i := 2) (v := ?v2051) rfl (by kernel_rfl) (by kernel_rfl) (by kernel_rfl) (fun _ _ _ h => h) (Or.inl ⟨by rfl, ?y2051⟩) (by assumption) ?r2051
      case y2051 => (intro w hSw; (try dsimp only at hSw); (try go_simp); first | done | with_reducible rfl)
      ((try simp only [List.getElem_toArray, List.getElem_cons_succ, List.getElem_cons_zero]); (try simp only [Act.put, List.setIfInBounds_toArray, List.set_cons_zero, List.set_cons_succ]))
      refine wpAnyH_take (i := 3) (v := ?v3052) rfl (by kernel_rfl) (by kernel_rfl) (by kernel_rfl) (fun _ _ _ h => h) (Or.inl ⟨by rfl, ?y3052⟩) (by assumption) ?r3052
      case y3052 => (intro w hSw; (try dsimp only at hSw); (try go_simp); first | done | with_reducible rfl)
      ((try simp only [List.getElem_toArray, List.getElem_cons_succ, List.getElem_cons_zero]); (try simp only [Act.put, List.setIfInBounds_toArray, List.set_cons_zero, List.set_cons_succ]))
      refine wpAnyH_take (i := 4) (v := ?v4053) rfl (by kernel_rfl) (by kernel_rfl) (by kernel_rfl) (fun _ _ _ h => h) (Or.inl ⟨by rfl, ?y4053⟩) (by assumption) ?r4053
      case y4053 => (intro w hSw; (try dsimp only at hSw); (try go_simp); first | done | with_reducible rfl)
      ((try simp only [List.getElem_toArray, List.getElem_cons_succ, List.getElem_cons_zero]); (try simp only [Act.put, List.setIfInBounds_toArray, List.set_cons_zero, List.set_cons_succ]))
      refine wpAnyH_ready (rs := [5]) (by kernel_rfl) (by simp) ?_
      refine AllReadyH.cons rfl (fun K hK => ?_) AllReadyH.nil
      refine step_store_row rfl 48 _ _ rfl g (recC rc0 ra0) rfl rfl 48 (recC rc0 ra0) hres.drew info_Rec rfl (recC_one _ _) ?_
      refine hK.out _ _ ((hge.drew.rowFar (fun e => (hres.ne_ hge (by decide)) e.symm)).cell 2) (fun hHeld2 => ?_)
      clear hK K hHeld
      have hHeld := hHeld2
      clear hHeld2
      ((try simp only [List.getElem_toArray, List.getElem_cons_succ, List.getElem_cons_zero]); (try simp only [Act.put, List.setIfInBounds_toArray, List.set_cons_zero, List.set_cons_succ]))
      refine wpAnyH_take (i := 6) (v := ?v6054) rfl (by kernel_rfl) (by kernel_rfl) (by kernel_rfl) (fun _ _ _ h => h) (Or.inl ⟨by rfl, ?y6054⟩) (by assumption) ?r6054
      case y6054 => (intro w hSw; (try dsimp only at hSw); (try go_simp); first | done | with_reducible rfl)
      ((try simp only [List.getElem_toArray, List.getElem_cons_succ, List.getElem_cons_zero]); (try simp only [Act.put, List.setIfInBounds_toArray, List.set_cons_zero, List.set_cons_succ]))
      refine wpAnyH_done (by kernel_rfl) ?_ _
      go_wp2_with fail
      (try simp only [Exit.inBlock, Exit.then])
      refine bodyPost_ret (results_cell rfl rfl (run_loadVar_row _ g 48 48 _ (0, 0) _ (Blk.row (cs := recC rc0 ra0) hres.drew) Try.underlying48 rfl info_Rec)) rfl ?_
      exact ⟨row_below hbel.drew (Nat.le_refl _) _, ra0, by have hv := HV2.out; subst hv; rfl, by have hv := HV2.out; subst hv; exact InR.zero _⟩
    have qz : (e7 == 0) = true := by rw [e00]; rfl
    obtain ⟨hk9a, hk9b⟩ := hk9 e00
    have hor := HO.out.o2
    have hox := HO.out.o1
    have HRES := Lib.hid (fun n : Nat => hres0.drewN n)
    have HBEL := Lib.hid (fun n : Nat => below_drewN hbel0 n)
    by_cases hk : k7 < lb.length
    · have dk : decide ((k9 : Int) < (lb.length : Int)) = true := decide_eq_true (by omega)
      have HV2 : Hid (DD = (11, rc0)) := by
        show _ = _
        rw [HV.out, fin, if_neg h60, if_neg (by rw [e00]; simp), if_pos hk]
      have CF := Lib.hid (fun n : Nat => ref_Fail_any (Wx.drewN n) gr (some ⟨b, 0, none⟩) lb.length c k9 e7 11 (hge0.drewN n))
      clear hrc0 hres0 hge0 hbel0
      go_upto_region 22 with (fail)
      go_quiet (fail)
      go_upto_region 23 with (fail)
      go_wp2_with fail
      refine (CF.out nq).mono ?_
      rintro x w6 ⟨rfl, hF, hG⟩
      rw [if_pos e00] at hF
      have hres := (HRES.out nq).grown hG (fun e => by injection e with e; omega)
      have hge := hF
      have hbel := (HBEL.out nq).grown hG (Nat.le_of_lt (HRES.out nq).lt) (fun i hi => by injection hi with hi; omega)
      have ce : w6.cell? ⟨gr, 2, none⟩ = some (.int .i64 11) := hge.cell 2
      clear hF hG c0 c1 c2 qz
      go_upto_region 25 with (fail)
      refine wp_region_held_drew (S := fun w' => w'.cell? ⟨gr, 2, none⟩ = some (.int .i64 (11))) (by kernel_rfl) ce (fun hHeld => ?_)
      refine wpAnyH_take (i := 0) (v := ?v55) rfl (by kernel_rfl) (by kernel_rfl) (by kernel_rfl) (fun _ _ _ h => h) (Or.inl ⟨by rfl, ?y55⟩) (by assumption) ?r55
      case y55 => (intro w hSw; (try dsimp only at hSw); (try go_simp); first | done | with_reducible rfl)
      ((try simp only [List.getElem_toArray, List.getElem_cons_zero]); (try simp only [Act.put, List.setIfInBounds_toArray, List.set_cons_zero, List.set_cons_succ]))
      refine wpAnyH_take (i := 1) (v := ?v1056) rfl (by kernel_rfl) (by kernel_rfl) (by kernel_rfl) (fun _ _ _ h => h) (Or.inl ⟨by rfl, ?y1056⟩) (by assumption) ?r1056
      case y1056 => (intro w hSw; (try dsimp only at hSw); (try go_simp); first | done | with_reducible rfl)
      ((try simp only [List.getElem_toArray, List.getElem_cons_succ, List.getElem_cons_zero]); (try simp only [Act.put, List.setIfInBounds_toArray, List.set_cons_zero, List.set_cons_succ]))
      refine wpAnyH_take (i := 2) (v := ?v2057) rfl (by kernel_rfl) (by kernel_rfl) (by kernel_rfl) (fun _ _ _ h => h) (Or.inl ⟨by rfl, ?y2057⟩) (by assumption) ?r2057
      case y2057 => (intro w hSw; (try dsimp only at hSw); (try go_simp); first | done | with_reducible rfl)
      ((try simp only [List.getElem_toArray, List.getElem_cons_succ, List.getElem_cons_zero]); (try simp only [Act.put, List.setIfInBounds_toArray, List.set_cons_zero, List.set_cons_succ]))
      refine wpAnyH_take (i := 3) (v := ?v3058) rfl (by kernel_rfl) (by kernel_rfl) (by kernel_rfl) (fun _ _ _ h => h) (Or.inl ⟨by rfl, ?y3058⟩) (by assumption) ?r3058
      case y3058 => (intro w hSw; (try dsimp only at hSw); (try go_simp); first | done | with_reducible rfl)
      ((try simp only [List.getElem_toArray, List.getElem_cons_succ, List.getElem_cons_zero]); (try simp only [Act.put, List.setIfInBounds_toArray, List.set_cons_zero, List.set_cons_succ]))
      refine wpAnyH_take (i := 4) (v := ?v4059) rfl (by kernel_rfl) (by kernel_rfl) (by kernel_rfl) (fun _ _ _ h => h) (Or.inl ⟨by rfl, ?y4059⟩) (by assumption) ?r4059
      case y4059 => (intro w hSw; (try dsimp only at hSw); (try go_simp); first | done | with_reducible rfl)
      ((try simp only [List.getElem_toArray, List.getElem_cons_succ, List.getElem_cons_zero]); (try simp only [Act.put, List.setIfInBounds_toArray, List.set_cons_zero, List.set_cons_succ]))
      refine wpAnyH_ready (rs := [5]) (by kernel_rfl) (by simp) ?_
      refine AllReadyH.cons rfl (fun K hK => ?_) AllReadyH.nil
      refine step_store_row rfl 48 _ _ rfl g (recC rc0 ra0) rfl rfl 48 (recC rc0 ra0) hres.drew info_Rec rfl (recC_one _ _) ?_
      refine hK.out _ _ ((hge.drew.rowFar (fun e => (hres.ne_ hge (by decide)) e.symm)).cell 2) (fun hHeld2 => ?_)
      clear hK K hHeld
      have hHeld := hHeld2
      clear hHeld2
      ((try simp only [List.getElem_toArray, List.getElem_cons_succ, List.getElem_cons_zero]); (try simp only [Act.put, List.setIfInBounds_toArray, List.set_cons_zero, List.set_cons_succ]))
      refine wpAnyH_take (i := 6) (v := ?v6060) rfl (by kernel_rfl) (by kernel_rfl) (by kernel_rfl) (fun _ _ _ h => h) (Or.inl ⟨by rfl, ?y6060⟩) (by assumption) ?r6060
      case y6060 => (intro w hSw; (try dsimp only at hSw); (try go_simp); first | done | with_reducible rfl)
      ((try simp only [List.getElem_toArray, List.getElem_cons_succ, List.getElem_cons_zero]); (try simp only [Act.put, List.setIfInBounds_toArray, List.set_cons_zero, List.set_cons_succ]))
      refine wpAnyH_done (by kernel_rfl) ?_ _
      go_wp2_with fail
      (try simp only [Exit.inBlock, Exit.then])
      refine bodyPost_ret (results_cell rfl rfl (run_loadVar_row _ g 48 48 _ (0, 0) _ (Blk.row (cs := recC rc0 ra0) hres.drew) Try.underlying48 rfl info_Rec)) rfl ?_
      exact ⟨row_below hbel.drew (Nat.le_refl _) _, ra0, by have hv := HV2.out; subst hv; rfl, by have hv := HV2.out; subst hv; exact InR.zero _⟩
    have dk : decide ((k9 : Int) < (lb.length : Int)) = false := decide_eq_false (by omega)
    have qn : (e7 != 0) = false := by rw [e00]; rfl
    have HRC := Lib.hid (fun n : Nat => hrc0.drewN n)
    have CM := fun n : Nat => r13_May_any (Wx.drewN n) (Rc.mk 5 0 0 0 0 en0 sh) ⟨none, 0, sa⟩ (HI.out.keep (below_drewN (Below.refl _ _) n)) HW.out
    have hrl := hrc0.lt
    have hgl := hres0.lt
    clear hrc0 hres0 hge0 hbel0
    by_cases hm : (Rc.mk 5 0 0 0 0 en0 sh).May
    · have HV2 : Hid (DD = (0, (Rc.mk 5 0 0 0 0 en0 sh))) := by
        show _ = _
        rw [HV.out, fin, if_neg h60, if_neg (by rw [e00]; simp), if_neg hk, if_pos hm]
      rw [decide_eq_true hm] at CM
      unfold recV at CM
      have CM := Lib.hid CM
      go_upto_region 22 with (fail)
      go_quiet (fail)
      go_upto_region 26 with (fail)
      go_wp2_with (refine wpList_load_row rfl 48 _ rfl gx rfl 48 (recC (Rc.mk 5 0 0 0 0 en0 sh) ⟨none, 0, sa⟩) (HRC.out nq) _ Try.underlying48 rfl info_Rec ?_)
      refine (CM.out nq).mono ?_
      rintro y w8 ⟨rfl, hB8⟩
      have hres8 := (HRES.out nq).below hB8 hgl
      have hrc8 := (HRC.out nq).below hB8 hrl
      have hbel8 := (HBEL.out nq).trans (hB8.mono (Nat.le_of_lt hgl))
      have HI8 := Lib.hid ((HI.out.keep (below_drewN (Below.refl _ _) nq)).keep hB8)
      clear hB8
      go_wp2_with (first | (refine wpList_load_row rfl 48 _ rfl gx rfl 48 (recC (Rc.mk 5 0 0 0 0 en0 sh) ⟨none, 0, sa⟩) hrc8 _ Try.underlying48 rfl info_Rec ?_) | refine wpList_store_row rfl 48 _ _ rfl g (recC (Rc.mk 5 0 0 0 0 en0 sh) ⟨none, 0, sa⟩) rfl rfl 48 (recC rc0 ra0) hres8 info_Rec rfl (recC_one _ _) ?_)
      (try simp only [Exit.inBlock, Exit.then])
      refine bodyPost_ret (results_cell rfl rfl (run_loadVar_row _ g 48 48 _ (0, 0) _ (Blk.row (cs := recC (Rc.mk 5 0 0 0 0 en0 sh) ⟨none, 0, sa⟩) hres8) Try.underlying48 rfl info_Rec)) rfl ?_
      exact ⟨row_below hbel8 (Nat.le_refl _) _, ⟨none, 0, sa⟩, by have hv := HV2.out; subst hv; rfl, by have hv := HV2.out; subst hv; exact ⟨InN.nil, HI8.out.sh.grown HO1.out (row_grown g _) hwg⟩⟩
    · have HV2 : Hid (DD = (130, rc0)) := by
        show _ = _
        rw [HV.out, fin, if_neg h60, if_neg (by rw [e00]; simp), if_neg hk, if_neg hm]
      rw [decide_eq_false hm] at CM
      unfold recV at CM
      have CM := Lib.hid CM
      go_upto_region 22 with (fail)
      go_quiet (fail)
      go_upto_region 26 with (fail)
      go_wp2_with (refine wpList_load_row rfl 48 _ rfl gx rfl 48 (recC (Rc.mk 5 0 0 0 0 en0 sh) ⟨none, 0, sa⟩) (HRC.out nq) _ Try.underlying48 rfl info_Rec ?_)
      refine (CM.out nq).mono ?_
      rintro y w8 ⟨rfl, hB8⟩
      have hres8 := (HRES.out nq).below hB8 hgl
      have hbel8 := (HBEL.out nq).trans (hB8.mono (Nat.le_of_lt hgl))
      clear hB8
      go_wp2_with (refine wpList_store_row rfl 48 _ _ rfl g (recC rc0 ra0) rfl rfl 48 (recC rc0 ra0) hres8 info_Rec rfl (recC_one _ _) ?_)
      (try simp only [Exit.inBlock, Exit.then])
      refine bodyPost_ret (results_cell rfl rfl (run_loadVar_row _ g 48 48 _ (0, 0) _ (Blk.row (cs := recC rc0 ra0) hres8) Try.underlying48 rfl info_Rec)) rfl ?_
      exact ⟨row_below hbel8 (Nat.le_refl _) _, ra0, by have hv := HV2.out; subst hv; rfl, by have hv := HV2.out; subst hv; exact InR.zero _⟩
  have k1 : (z == 1) = false := beq_eq_false_iff_ne.2 n1
  have k2 : (z == 2) = false := beq_eq_false_iff_ne.2 n2
  have k3 : (z == 3) = false := beq_eq_false_iff_ne.2 n3
  have k4 : (z == 4) = false := beq_eq_false_iff_ne.2 n4
  have k5 : (z == 5) = false := beq_eq_false_iff_ne.2 n5
  have HV2 : Hid (DD = (11, rc0)) := by
    show _ = _
    rw [HV.out, recD, if_neg n1, if_neg n2, if_neg n3, if_neg n4, if_neg n5]
  have z0 : wc.cell? ⟨gx, 0, none⟩ = some (.int .i64 z) := H0.out.rc.cell 0
  have hres := H0.out.res
  have hbel := H0.out.bel
  go_wp2_with (refine wpList_store_row rfl 48 _ _ rfl g (recC rc0 ra0) rfl rfl 48 (recC rc0 ra0) hres info_Rec rfl (recC_one _ _) ?_)
  (try simp only [Exit.inBlock, Exit.then])
  refine bodyPost_ret (results_cell rfl rfl (run_loadVar_row _ g 48 48 _ (0, 0) _ (Blk.row (cs := recC rc0 ra0) hres) Try.underlying48 rfl info_Rec)) rfl ?_
  exact ⟨row_below hbel (Nat.le_refl _) _, ra0, by have hv := HV2.out; subst hv; rfl, by have hv := HV2.out; subst hv; exact InR.zero _⟩
end Go.Proofs.Ytadkkhbbempaaaa
