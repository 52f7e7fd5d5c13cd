/- The pools' law: same. -/
import Derived.Test.YtidkhekekfennaaRpS
namespace Go.Proofs.Ytidkhekekfennaa
set_option maxRecDepth 100000
set_option linter.unusedVariables false
open Go.RowKit

/-- A cell of a row of the call's own, to be written. -/
theorem own_cell {w : World} {base s n c : Nat} {e : TypeId} {A : Option Addr} {xs : List Value} (h : w.ownsRow base e s (.slice A n c) n xs) {j : Nat} (hj : j < n * s) : ∃ gb x, A = some ⟨gb, 0, none⟩ ∧ w.cell? ⟨gb, j, none⟩ = some x ∧ w.frozen? ⟨gb, j, none⟩ = false ∧ base ≤ gb ∧ gb < w.heap.size ∧ (∃ cur, Blk w gb e cur) := by
  rcases h.2 with ⟨q, q2⟩ | ⟨g', cap', cur, q, hb, hh, h1, h2, h3, _⟩
  · subst q2
    rw [Nat.zero_mul] at hj
    exact absurd hj (Nat.not_lt_zero _)
  · injection q with q1 q2 q3
    have hB : Blk w g' e cur := hh
    have hlt : j < cur.size := by
      have := Nat.mul_le_mul_right s h1
      omega
    refine ⟨g', cur[j], q1, ?_, hB.frozen j, hb, hB.lt, cur, hB⟩
    rw [hB.cell, Array.getElem?_eq_getElem hlt]
/-- Between two rounds of the first loop, and of the second. -/
def SmL (w : World) (G n m : Nat) (V U : Value) (N : Nat) (s : Value) (wr : World) : Prop :=
  ∃ (k : Nat) (xs ys : List Value), s = .int .i64 k ∧ k ≤ N ∧ wr.ownsRow G 38 2 V n xs ∧ wr.ownsRow G 3 1 U m ys ∧ Below G w wr
theorem SmL.store1 {w wr : World} {G n m c : Nat} {U : Value} {N gb j : Nat} {xs ys : List Value} {k : Nat} (u : Value) (h1 : wr.ownsRow G 38 2 (.slice (some ⟨gb, 0, none⟩) n c) n xs) (h2 : wr.ownsRow G 3 1 U m ys) (hb : Below G w wr) (hG : G ≤ wr.heap.size) (hk : k + 1 ≤ N) (hB : ∃ cur, Blk wr gb 38 cur) :
    SmL w G n m (.slice (some ⟨gb, 0, none⟩) n c) U N (.int .i64 ((k + 1 : Nat) : Int)) (wr.setCell ⟨gb, j, none⟩ u) := by
  obtain ⟨cur, hB⟩ := hB
  have hst := h1.stored j u
  have hne : U.ownBlock ≠ some gb := own_blk_ne h2 hB (by decide)
  have hT : Tr wr (wr.setCell ⟨gb, j, none⟩ u) (fun i => i = gb) := (Tr.refl wr (fun i => i = gb)).setCell (a := ⟨gb, j, none⟩) (fun _ => rfl) u
  exact ⟨k + 1, _, ys, rfl, hk, hst.1, own_tr h2 hT (fun b e q => hne (q ▸ e)), hb.grown hst.2 hG (fun b e => by injection e with e; rw [← e]; exact own_base h1 gb rfl)⟩
theorem SmL.store2 {w wr : World} {G n m c : Nat} {V : Value} {N gb j : Nat} {xs ys : List Value} {k : Nat} (u : Value) (h1 : wr.ownsRow G 38 2 V n xs) (h2 : wr.ownsRow G 3 1 (.slice (some ⟨gb, 0, none⟩) m c) m ys) (hb : Below G w wr) (hG : G ≤ wr.heap.size) (hk : k + 1 ≤ N) (hB : ∃ cur, Blk wr gb 3 cur) :
    SmL w G n m V (.slice (some ⟨gb, 0, none⟩) m c) N (.int .i64 ((k + 1 : Nat) : Int)) (wr.setCell ⟨gb, j, none⟩ u) := by
  obtain ⟨cur, hB⟩ := hB
  have hst := h2.stored j u
  have hne : V.ownBlock ≠ some gb := own_blk_ne h1 hB (by decide)
  have hT : Tr wr (wr.setCell ⟨gb, j, none⟩ u) (fun i => i = gb) := (Tr.refl wr (fun i => i = gb)).setCell (a := ⟨gb, j, none⟩) (fun _ => rfl) u
  exact ⟨k + 1, xs, _, rfl, hk, own_tr h1 hT (fun b e q => hne (q ▸ e)), hst.1, hb.grown hst.2 hG (fun b e => by injection e with e; rw [← e]; exact own_base h2 gb rfl)⟩
set_option maxHeartbeats 8000000 in
theorem same18_any (w : World) (base base' g g' : Nat) (v v' u' : Value) (cs : List Cn) (ws : List Int) (h : PlAt w base g v cs ws) (h' : RpAt w base' g' v' u' cs ws) :
    Calls Try.prog 25 #[.pointer (some ⟨g, 0, none⟩), .pointer (some ⟨g', 0, none⟩)] w fun e w' => e = .returned (.bool true) ∧ Below w.heap.size w w' := by
  have C1 := conns_any w base g v cs ws h
  obtain ⟨G, hG⟩ : ∃ G, w.heap.size = G := ⟨_, rfl⟩
  rw [hG] at C1 ⊢
  have h8 := h.c8
  have h4 := h.w4
  obtain ⟨n, hn⟩ : ∃ n, cs.length = n := ⟨_, rfl⟩
  obtain ⟨m, hm⟩ : ∃ m, ws.length = m := ⟨_, rfl⟩
  have hn8 : n ≤ 8 := hn ▸ h8
  have hm4 : m ≤ 4 := hm ▸ h4
  have HG := Lib.hid hG
  have HN := Lib.hid hn
  have HM := Lib.hid hm
  have HH := Lib.hid h
  have HR := Lib.hid h'
  have C1 := Lib.hid C1
  have H8 := Lib.hid h8
  have H4 := Lib.hid h4
  clear h h' hG hn hm h8 h4
  go_enter Try.func25, Try.ntmps25
  go_wp2_with fail
  refine C1.out.mono ?_
  rintro e w1 ⟨V, rfl, hO1, hb1⟩
  have hb1' : Below w.heap.size w w1 := HG.out.symm ▸ hb1
  have C2 := waits_any w1 base g v cs ws (HH.out.keep hb1')
  obtain ⟨A, c, hV, hin1⟩ := InS.own hO1 (by have := H8.out; omega)
  have HO1 := Lib.hid hO1
  have HI1 := Lib.hid hin1
  have HB1 := Lib.hid hb1
  have C2 := Lib.hid C2
  rw [HN.out] at hV
  subst hV
  clear hO1 hin1 hb1 hb1' C1
  go_wp2_with fail
  refine C2.out.mono ?_
  rintro e w2 ⟨U, rfl, hO2, hb2⟩
  obtain ⟨A2, c2, hU, hin2⟩ := InN.own hO2 (HH.out.inn.wf) (by have := H4.out; omega)
  have HO2 := Lib.hid hO2
  have HI2 := Lib.hid hin2
  have hgs : G ≤ w1.heap.size := by have := HB1.out.size; have := HG.out; omega
  have hB2 : Below G w w2 := HB1.out.trans (hb2.mono hgs)
  have hI1 := HI1.out.keep hb2
  have hr2 := HR.out.keep (HG.out.symm ▸ hB2)
  have z0 := hr2.z0
  have z1 := hr2.z1
  obtain ⟨A3, c3, hv3, hin3⟩ := hr2.ins
  obtain ⟨A4, c4, hv4, hin4⟩ := hr2.inn
  rw [HM.out] at hU hv4
  rw [HN.out] at hv3
  rw [hv3] at z0
  rw [hv4] at z1
  subst hU
  have HB2 := Lib.hid hB2
  have HO1 := Lib.hid (own_below HO1.out hb2)
  have HO2 := Lib.hid (own_lower HO2.out hgs)
  have CO := own18_any w2.drew A c cs (hI1.keep (Below.refl _ _).drew) H8.out
  rw [HN.out] at CO
  have CO := Lib.hid CO
  have HI3 := Lib.hid hin3
  have HI4 := Lib.hid hin4
  have HR2 := Lib.hid hr2
  have HV3 := Lib.hid hv3
  have HV4 := Lib.hid hv4
  clear hO2 hin2 hb2 C2 hB2 hI1 hr2 hv3 hv4 hin3 hin4 hgs
  go_upto_region 3 with (fail)
  have z0d : w2.drew.cell? ⟨g', 0, none⟩ = some (.slice A3 n c3) := z0
  go_region_law (first
    | (go_simp; go_at_call 40; refine CO.out.mono ?_; rintro e w5 ⟨v5, rfl, ho5, hb5⟩; rw [← HN.out] at ho5; obtain ⟨A5, c5, e5, hin5⟩ := InS.own ho5 (by have := H8.out; omega); rw [HN.out] at e5; subst e5; have hb5' : Below w2.heap.size w2 w5 := (Below.refl _ _).drew.trans hb5; have z05 : w5.cell? ⟨g', 0, none⟩ = some (.slice A3 n c3) := ((HR2.out.keep hb5').z0).trans (congrArg some HV3.out); have HI5 := Lib.hid hin5; have HB5 := Lib.hid hb5'; clear ho5 hb5 hin5 hb5')
    | (go_simp; go_at_call 39; have CS := rsame_eq w5 A5 A3 c5 c3 cs HI5.out (HI3.out.keep HB5.out) H8.out; rw [HN.out] at CS; refine CS.mono ?_; clear CS; rintro e w6 ⟨rfl, hb6⟩; have hb6' : Below w2.heap.size w2 w6 := HB5.out.trans (hb6.mono HB5.out.size); have z16 : w6.cell? ⟨g', 1, none⟩ = some (.slice A4 m c4) := ((HR2.out.keep hb6').z1).trans (congrArg some HV4.out); have HB6 := Lib.hid hb6'; clear hb6 hb6')
    | (go_simp; go_at_call 11; have CS := r03_Same_any w6 A2 A4 c2 c4 ws ws (HI2.out.keep HB6.out) (HI4.out.keep HB6.out); rw [HM.out, decide_eq_true rfl] at CS; refine CS.mono ?_; clear CS; rintro e w7 ⟨rfl, mm, rfl⟩))
  all_goals (
    have hb7 : Below w2.heap.size w2 (w6.drewN mm) := ⟨HB6.out.os, HB6.out.tape, HB6.out.output, HB6.out.size, HB6.out.block⟩
    have L1 : Hid (SmL w G n m (.slice A n c) (.slice A2 m c2) n (.int .i64 0) (w6.drewN mm)) := Lib.hid ⟨0, _, _, rfl, Nat.zero_le _, HN.out ▸ own_below HO1.out hb7, HM.out ▸ own_below HO2.out hb7, HB2.out.trans (hb7.mono (by have := HB2.out.size; have := HG.out; omega))⟩
    clear hb7 z0 z1 z0d z05 z16 HB5 HB6 HI5 CO
    generalize w6.drewN mm = W7 at L1 ⊢
    go_wp2
    go_loopw [31] (fun s31 wr => SmL w G n m (.slice A n c) (.slice A2 m c2) n s31 wr) (fun s31 _ => n - (intOf s31).toNat)
    case atStart => exact L1.out
    case round =>
      clear L1
      obtain ⟨k, xs, ys, rfl, hk, ho1, ho2, hB⟩ := hrel
      have hgs : G ≤ wr.heap.size := by have h1 := hB.size; have h2 := HG.out; omega
      by_cases hkn : k < n
      · obtain ⟨gb, x, rfl, hc, hf, hgb, hlt, hblk⟩ := own_cell ho1 (j := k * 2 + 1) (by omega)
        have REL := Lib.hid (SmL.store1 (j := k * 2 + 1) (N := n) (k := k) (.int .i64 99) ho1 ho2 hB hgs (by omega) hblk)
        clear ho1 ho2 hblk hB hgb hgs hlt
        go_wp2
        go_roundw
        case rel => exact REL.out
        case measure => simp [intOf]; omega
      · obtain rfl : k = n := by omega
        have L2 : Hid (SmL w G k m (.slice A k c) (.slice A2 m c2) m (.int .i64 0) wr) := Lib.hid ⟨0, xs, ys, rfl, Nat.zero_le _, ho1, ho2, hB⟩
        clear ho1 ho2 hB hgs hkn
        go_wp2
        go_loopw [41] (fun s41 wr => SmL w G k m (.slice A k c) (.slice A2 m c2) m s41 wr) (fun s41 _ => m - (intOf s41).toNat)
        case atStart => exact L2.out
        case round =>
          clear L2
          obtain ⟨j, xs, ys, rfl, hj, ho1, ho2, hB⟩ := hrel
          by_cases hjm : j < m
          · have hgs : G ≤ wr.heap.size := by have h1 := hB.size; have h2 := HG.out; omega
            obtain ⟨gb, x, rfl, hc, hf, hgb, hlt, hblk⟩ := own_cell ho2 (j := j) (by omega)
            have REL := Lib.hid (SmL.store2 (j := j) (N := m) (k := j) (.int .i64 99) ho1 ho2 hB hgs (by omega) hblk)
            clear ho1 ho2 hblk hB hgb hgs hlt
            go_wp2
            go_roundw
            case rel => exact REL.out
            case measure => simp [intOf]; omega
          · obtain rfl : j = m := by omega
            have HB := Lib.hid hB
            clear ho1 ho2 hB hjm
            go_wp2
            go_ret
            exact ⟨rfl, HB.out⟩)
end Go.Proofs.Ytidkhekekfennaa
