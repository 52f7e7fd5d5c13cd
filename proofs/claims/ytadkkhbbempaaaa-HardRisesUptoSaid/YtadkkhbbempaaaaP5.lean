/- Texts drawn together (12 of them): words, plain laws and walks that the row leans on. -/
import Derived.Test.YtadkkhbbempaaaaP2
import Derived.Deep.QuietTactic
import Derived.BigQuiet
import Derived.Deep.Draws
import Derived.Test.YtadkkhbbempaaaaP3
import Derived.Test.YtadkkhbbempaaaaP1
import Derived.Deep.WholeRow
import Derived.Deep.RegionLaw
import Derived.Deep.RegionHeld3
/- Snapshots and ledgers that hold the same: the document's Same. -/
namespace Go.Proofs.Ytadkkhbbempaaaa
set_option maxRecDepth 100000
open Go.RowKit

set_option maxRecDepth 100000 in
set_option maxHeartbeats 4000000 in
theorem r05_Same_eq (w : World) (lim nxt : Int) (A1 : Option Addr) (c1 : Nat) (A2 : Option Addr) (c2 : Nat) (hs : List Hd) (A3 : Option Addr) (c3 : Nat) (A4 : Option Addr) (c4 : Nat) (ls : List Ls)
    (h1 : InS hdC 5 w A1 c1 hs) (h2 : InS hdC 5 w A2 c2 hs) (h3 : InS lsC 6 w A3 c3 ls) (h4 : InS lsC 6 w A4 c4 ls) :
    Calls Try.prog 75 #[ledV lim nxt (.slice A1 hs.length c1) (.slice A3 ls.length c3), ledV lim nxt (.slice A2 hs.length c2) (.slice A4 ls.length c4)] w fun e w' => e = .returned (.bool true) ∧ Below w.heap.size w w' := by
  have hs1 := h1.small
  have hs3 := h3.small
  have hc1 := h1.cap
  have hc2 := h2.cap
  have hc3 := h3.cap
  have hc4 := h4.cap
  obtain ⟨g, hg⟩ : ∃ g, w.heap.size = g := ⟨_, rfl⟩
  rw [hg]
  obtain ⟨gr, hgr⟩ : ∃ gr, g + 1 = gr := ⟨_, rfl⟩
  have hBx : Below g w ((w.alloc (.cells (ledC lim nxt (.slice A1 hs.length c1) (.slice A3 ls.length c3)) 27)).alloc (.cells (ledC lim nxt (.slice A2 hs.length c2) (.slice A4 ls.length c4)) 27)) := ((Below.refl _ _).alloc (by omega) _).alloc (by simp; omega) _
  have hsz : (w.alloc (.cells (ledC lim nxt (.slice A1 hs.length c1) (.slice A3 ls.length c3)) 27)).heap.size = gr := by simp [hg, hgr]
  have hb1 : Blk ((w.alloc (.cells (ledC lim nxt (.slice A1 hs.length c1) (.slice A3 ls.length c3)) 27)).alloc (.cells (ledC lim nxt (.slice A2 hs.length c2) (.slice A4 ls.length c4)) 27)) g 27 (ledC lim nxt (.slice A1 hs.length c1) (.slice A3 ls.length c3)) := (hg ▸ Blk.new w 27 (ledC lim nxt (.slice A1 hs.length c1) (.slice A3 ls.length c3)) : Blk (w.alloc (.cells (ledC lim nxt (.slice A1 hs.length c1) (.slice A3 ls.length c3)) 27)) g 27 (ledC lim nxt (.slice A1 hs.length c1) (.slice A3 ls.length c3))).alloc _
  have hr1 : Blk ((w.alloc (.cells (ledC lim nxt (.slice A1 hs.length c1) (.slice A3 ls.length c3)) 27)).alloc (.cells (ledC lim nxt (.slice A2 hs.length c2) (.slice A4 ls.length c4)) 27)) gr 27 (ledC lim nxt (.slice A2 hs.length c2) (.slice A4 ls.length c4)) := hsz ▸ Blk.new _ _ _
  have H1 := Lib.hid (h1.keep (hg ▸ hBx))
  have H2 := Lib.hid (h2.keep (hg ▸ hBx))
  have H3 := Lib.hid (h3.keep (hg ▸ hBx))
  have H4 := Lib.hid (h4.keep (hg ▸ hBx))
  clear hsz h1 h2 h3 h4
  unfold ledV
  go_enter Try.func75, Try.ntmps75
  go_upto_region 1 with (fail)
  change Code.wp _ _ _ _ ((w.alloc (.cells (ledC lim nxt (.slice A1 hs.length c1) (.slice A3 ls.length c3)) 27)).alloc (.cells (ledC lim nxt (.slice A2 hs.length c2) (.slice A4 ls.length c4)) 27))
  generalize ((w.alloc (.cells (ledC lim nxt (.slice A1 hs.length c1) (.slice A3 ls.length c3)) 27)).alloc (.cells (ledC lim nxt (.slice A2 hs.length c2) (.slice A4 ls.length c4)) 27)) = W at hb1 hr1 hBx H1 H2 H3 H4 ⊢
  try rw [hgr]
  have HB := Lib.hid hBx
  obtain ⟨q0, q1, q2, q3⟩ := hb1.led
  obtain ⟨r0, r1, r2, r3⟩ := hr1.led
  clear hBx hb1 hr1
  go_wp2_with fail
  go_loopw [5, 40] (fun _ i wr => ∃ (k m : Nat), i = .int .i64 (k : Int) ∧ k ≤ hs.length ∧ wr = W.drewN m) (fun _ i _ => hs.length - (intOf i).toNat)
  case atStart => exact ⟨0, 0, rfl, by omega, rfl⟩
  case round =>
    obtain ⟨k, m, rfl, hk, rfl⟩ := hrel
    by_cases hlt : k < hs.length
    · obtain ⟨b1, o1, rfl, _, hall1⟩ := H1.out.hd (by omega)
      obtain ⟨b2, o2, rfl, _, hall2⟩ := H2.out.hd (by omega)
      obtain ⟨x0, x1, x2, x3, x4⟩ := hall1 k hlt
      obtain ⟨y0, y1, y2, y3, y4⟩ := hall2 k hlt
      obtain ⟨x, hx⟩ : ∃ x, hs[k] = x := ⟨_, rfl⟩
      rw [hx] at x0 x1 x2 x3 x4 y0 y1 y2 y3 y4
      clear hall1 hall2 hx
      go_wp2_with fail
      go_quiet (fail)
      go_wp2
      go_roundw
      case rel => exact ⟨k + 1, _, by go_num, by omega, rfl⟩
      case measure => simp [intOf]; omega
    · obtain rfl : k = hs.length := by omega
      go_wp2_with fail
      go_loopw [6, 58] (fun _ i wr => ∃ (k m : Nat), i = .int .i64 (k : Int) ∧ k ≤ ls.length ∧ wr = W.drewN m) (fun _ i _ => ls.length - (intOf i).toNat)
      case atStart => exact ⟨0, m, rfl, by omega, rfl⟩
      case round =>
        obtain ⟨k, m, rfl, hk, rfl⟩ := hrel
        by_cases hlt : k < ls.length
        · obtain ⟨b1, o1, rfl, _, hall1⟩ := H3.out.ls (by omega)
          obtain ⟨b2, o2, rfl, _, hall2⟩ := H4.out.ls (by omega)
          obtain ⟨x0, x1, x2, x3, x4, x5⟩ := hall1 k hlt
          obtain ⟨y0, y1, y2, y3, y4, y5⟩ := hall2 k hlt
          obtain ⟨x, hx⟩ : ∃ x, ls[k] = x := ⟨_, rfl⟩
          rw [hx] at x0 x1 x2 x3 x4 x5 y0 y1 y2 y3 y4 y5
          clear hall1 hall2 hx
          go_wp2_with fail
          go_quiet (fail)
          go_wp2
          go_roundw
          case rel => exact ⟨k + 1, _, by go_num, by omega, rfl⟩
          case measure => simp [intOf]; omega
        · obtain rfl : k = ls.length := by omega
          go_wp2
          go_ret
          exact ⟨rfl, below_drewN HB.out _⟩

set_option maxRecDepth 100000 in
set_option maxHeartbeats 4000000 in
theorem r06_Same_eq (w : World) (i t : Int) (An1 : Option Addr) (cn1 : Nat) (An2 : Option Addr) (cn2 : Nat) (ns : List Int) (lim nxt : Int) (A1 : Option Addr) (c1 : Nat) (A2 : Option Addr) (c2 : Nat) (hs : List Hd) (A3 : Option Addr) (c3 : Nat) (A4 : Option Addr) (c4 : Nat) (ls : List Ls)
    (n1 : InN .i64 w An1 cn1 ns) (n2 : InN .i64 w An2 cn2 ns) (h1 : InS hdC 5 w A1 c1 hs) (h2 : InS hdC 5 w A2 c2 hs) (h3 : InS lsC 6 w A3 c3 ls) (h4 : InS lsC 6 w A4 c4 ls) :
    Calls Try.prog 38 #[shV i t (.slice An1 ns.length cn1) lim nxt (.slice A1 hs.length c1) (.slice A3 ls.length c3), shV i t (.slice An2 ns.length cn2) lim nxt (.slice A2 hs.length c2) (.slice A4 ls.length c4)] w fun e w' => e = .returned (.bool true) ∧ Below w.heap.size w w' := by
  obtain ⟨g, hg⟩ : ∃ g, w.heap.size = g := ⟨_, rfl⟩
  rw [hg]
  obtain ⟨gr, hgr⟩ : ∃ gr, g + 1 = gr := ⟨_, rfl⟩
  have hBx : Below g w ((w.alloc (.cells (shC i t (.slice An1 ns.length cn1) lim nxt (.slice A1 hs.length c1) (.slice A3 ls.length c3)) 29)).alloc (.cells (shC i t (.slice An2 ns.length cn2) lim nxt (.slice A2 hs.length c2) (.slice A4 ls.length c4)) 29)) := ((Below.refl _ _).alloc (by omega) _).alloc (by simp; omega) _
  have hsz : (w.alloc (.cells (shC i t (.slice An1 ns.length cn1) lim nxt (.slice A1 hs.length c1) (.slice A3 ls.length c3)) 29)).heap.size = gr := by simp [hg, hgr]
  have hb1 : Blk ((w.alloc (.cells (shC i t (.slice An1 ns.length cn1) lim nxt (.slice A1 hs.length c1) (.slice A3 ls.length c3)) 29)).alloc (.cells (shC i t (.slice An2 ns.length cn2) lim nxt (.slice A2 hs.length c2) (.slice A4 ls.length c4)) 29)) g 29 (shC i t (.slice An1 ns.length cn1) lim nxt (.slice A1 hs.length c1) (.slice A3 ls.length c3)) := (hg ▸ Blk.new w 29 (shC i t (.slice An1 ns.length cn1) lim nxt (.slice A1 hs.length c1) (.slice A3 ls.length c3)) : Blk (w.alloc (.cells (shC i t (.slice An1 ns.length cn1) lim nxt (.slice A1 hs.length c1) (.slice A3 ls.length c3)) 29)) g 29 (shC i t (.slice An1 ns.length cn1) lim nxt (.slice A1 hs.length c1) (.slice A3 ls.length c3))).alloc _
  have hr1 : Blk ((w.alloc (.cells (shC i t (.slice An1 ns.length cn1) lim nxt (.slice A1 hs.length c1) (.slice A3 ls.length c3)) 29)).alloc (.cells (shC i t (.slice An2 ns.length cn2) lim nxt (.slice A2 hs.length c2) (.slice A4 ls.length c4)) 29)) gr 29 (shC i t (.slice An2 ns.length cn2) lim nxt (.slice A2 hs.length c2) (.slice A4 ls.length c4)) := hsz ▸ Blk.new _ _ _
  have HN1 := Lib.hid (n1.keep (hg ▸ hBx))
  have HN2 := Lib.hid (n2.keep (hg ▸ hBx))
  have H1 := Lib.hid (h1.keep (hg ▸ hBx))
  have H2 := Lib.hid (h2.keep (hg ▸ hBx))
  have H3 := Lib.hid (h3.keep (hg ▸ hBx))
  have H4 := Lib.hid (h4.keep (hg ▸ hBx))
  clear hsz h1 h2 h3 h4 n1 n2
  unfold shV
  go_enter Try.func38, Try.ntmps38
  go_upto_region 1 with (fail)
  change Code.wp _ _ _ _ ((w.alloc (.cells (shC i t (.slice An1 ns.length cn1) lim nxt (.slice A1 hs.length c1) (.slice A3 ls.length c3)) 29)).alloc (.cells (shC i t (.slice An2 ns.length cn2) lim nxt (.slice A2 hs.length c2) (.slice A4 ls.length c4)) 29))
  generalize ((w.alloc (.cells (shC i t (.slice An1 ns.length cn1) lim nxt (.slice A1 hs.length c1) (.slice A3 ls.length c3)) 29)).alloc (.cells (shC i t (.slice An2 ns.length cn2) lim nxt (.slice A2 hs.length c2) (.slice A4 ls.length c4)) 29)) = W at hb1 hr1 hBx HN1 HN2 H1 H2 H3 H4 ⊢
  try rw [hgr]
  have HB := Lib.hid hBx
  obtain ⟨q0, q1, q2, q3, q4, q5, q6⟩ := hb1.sh
  obtain ⟨r0, r1, r2, r3, r4, r5, r6⟩ := hr1.sh
  have C1 := r03_Same_any W An1 An2 cn1 cn2 ns ns HN1.out HN2.out
  rw [decide_eq_true rfl] at C1
  have C1 := Lib.hid C1
  have C2 := fun m => r05_Same_eq (W.drewN m) lim nxt A1 c1 A2 c2 hs A3 c3 A4 c4 ls (H1.out.drewN m) (H2.out.drewN m) (H3.out.drewN m) (H4.out.drewN m)
  unfold ledV at C2
  have C2 := fun m => Lib.hid (C2 m)
  have hz : g ≤ W.heap.size := by have := hBx.size; omega
  clear hBx hb1 hr1
  go_wp2_with fail
  refine C1.out.mono ?_
  rintro e w1 ⟨rfl, m, rfl⟩
  go_wp2_with fail
  refine (C2 m).out.mono ?_
  rintro e w2 ⟨rfl, hB2⟩
  have HB2 := Lib.hid ((below_drewN HB.out m).trans (hB2.mono hz))
  clear hB2 q0 q1 q2 q3 q4 q5 q6 r0 r1 r2 r3 r4 r5 r6
  go_wp2
  go_ret
  exact ⟨rfl, HB2.out⟩
end Go.Proofs.Ytadkkhbbempaaaa

/- Records: the document's SameRec. -/
namespace Go.Proofs.Ytadkkhbbempaaaa
set_option maxRecDepth 100000
open Go.RowKit

set_option maxHeartbeats 4000000 in
theorem r05_Same_zero (w : World) (lim nxt : Int) (A1 : Option Addr) (c1 : Nat) (A2 : Option Addr) (hn c2 : Nat) (A3 : Option Addr) (c3 : Nat) (A4 : Option Addr) (ln c4 : Nat) :
    Calls Try.prog 75 #[ledV 0 0 (.slice A1 0 c1) (.slice A3 0 c3), ledV lim nxt (.slice A2 hn c2) (.slice A4 ln c4)] w fun e w' =>
      e = .returned (.bool (lim == 0 && nxt == 0 && ((hn : Int) == 0) && ((ln : Int) == 0))) ∧ Below w.heap.size w w' := by
  obtain ⟨V, hV⟩ : ∃ V, (lim == 0 && nxt == 0 && ((hn : Int) == 0) && ((ln : Int) == 0)) = V := ⟨_, rfl⟩
  have HX := Lib.hid hV
  rw [hV]
  clear hV
  obtain ⟨g, hg⟩ : ∃ g, w.heap.size = g := ⟨_, rfl⟩
  rw [hg]
  obtain ⟨gr, hgr⟩ : ∃ gr, g + 1 = gr := ⟨_, rfl⟩
  have hBx : Below g w ((w.alloc (.cells (ledC 0 0 (.slice A1 0 c1) (.slice A3 0 c3)) 27)).alloc (.cells (ledC lim nxt (.slice A2 hn c2) (.slice A4 ln c4)) 27)) := ((Below.refl _ _).alloc (by omega) _).alloc (by simp; omega) _
  have hsz : (w.alloc (.cells (ledC 0 0 (.slice A1 0 c1) (.slice A3 0 c3)) 27)).heap.size = gr := by simp [hg, hgr]
  have hb1 : Blk ((w.alloc (.cells (ledC 0 0 (.slice A1 0 c1) (.slice A3 0 c3)) 27)).alloc (.cells (ledC lim nxt (.slice A2 hn c2) (.slice A4 ln c4)) 27)) g 27 (ledC 0 0 (.slice A1 0 c1) (.slice A3 0 c3)) := (hg ▸ Blk.new w 27 (ledC 0 0 (.slice A1 0 c1) (.slice A3 0 c3)) : Blk (w.alloc (.cells (ledC 0 0 (.slice A1 0 c1) (.slice A3 0 c3)) 27)) g 27 (ledC 0 0 (.slice A1 0 c1) (.slice A3 0 c3))).alloc _
  have hr1 : Blk ((w.alloc (.cells (ledC 0 0 (.slice A1 0 c1) (.slice A3 0 c3)) 27)).alloc (.cells (ledC lim nxt (.slice A2 hn c2) (.slice A4 ln c4)) 27)) gr 27 (ledC lim nxt (.slice A2 hn c2) (.slice A4 ln c4)) := hsz ▸ Blk.new _ _ _
  clear hsz
  unfold ledV
  go_enter Try.func75, Try.ntmps75
  go_upto_region 1 with (fail)
  change Code.wp _ _ _ _ ((w.alloc (.cells (ledC 0 0 (.slice A1 0 c1) (.slice A3 0 c3)) 27)).alloc (.cells (ledC lim nxt (.slice A2 hn c2) (.slice A4 ln c4)) 27))
  generalize ((w.alloc (.cells (ledC 0 0 (.slice A1 0 c1) (.slice A3 0 c3)) 27)).alloc (.cells (ledC lim nxt (.slice A2 hn c2) (.slice A4 ln c4)) 27)) = W at hb1 hr1 hBx ⊢
  try rw [hgr]
  have HB := Lib.hid hBx
  have hgl : g ≤ W.heap.size := Nat.le_of_lt hb1.lt
  obtain ⟨q0, q1, q2, q3⟩ := hb1.led
  obtain ⟨r0, r1, r2, r3⟩ := hr1.led
  clear hb1 hr1 hBx
  cases h0 : ((0 : Int) != lim)
  rotate_left
  · have HV : Hid (false = V) := by
      show _ = _
      rw [← HX.out]
      have k : (lim == 0) = false := by
        have := bne_iff_ne.1 h0
        exact beq_eq_false_iff_ne.2 (fun e => this e.symm)
      simp [k]
    go_wp2_with fail
    go_ret
    exact ⟨by rw [HV.out]; rfl, HB.out⟩
  cases h1 : ((0 : Int) != nxt)
  rotate_left
  · have HV : Hid (false = V) := by
      show _ = _
      rw [← HX.out]
      have k : (nxt == 0) = false := by
        have := bne_iff_ne.1 h1
        exact beq_eq_false_iff_ne.2 (fun e => this e.symm)
      simp [k]
    go_wp2_with fail
    go_ret
    exact ⟨by rw [HV.out]; rfl, HB.out⟩
  cases h2 : ((0 : Int) != (hn : Int))
  rotate_left
  · have HV : Hid (false = V) := by
      show _ = _
      rw [← HX.out]
      have k : ((hn : Int) == 0) = false := by
        have := bne_iff_ne.1 h2
        exact beq_eq_false_iff_ne.2 (fun e => this e.symm)
      simp [k]
    go_wp2_with fail
    go_ret
    exact ⟨by rw [HV.out]; rfl, HB.out⟩
  cases h3 : ((0 : Int) != (ln : Int))
  rotate_left
  · have HV : Hid (false = V) := by
      show _ = _
      rw [← HX.out]
      have k : ((ln : Int) == 0) = false := by
        have := bne_iff_ne.1 h3
        exact beq_eq_false_iff_ne.2 (fun e => this e.symm)
      simp [k]
    go_wp2_with fail
    go_ret
    exact ⟨by rw [HV.out]; rfl, HB.out⟩
  have HV : Hid (true = V) := by
    show _ = _
    rw [← HX.out]
    have k0 : lim = 0 := (bne_eq_false_iff_eq.1 h0).symm
    have k1 : nxt = 0 := (bne_eq_false_iff_eq.1 h1).symm
    have k2 : (hn : Int) = 0 := (bne_eq_false_iff_eq.1 h2).symm
    have k3 : (ln : Int) = 0 := (bne_eq_false_iff_eq.1 h3).symm
    rw [k0, k1, k2, k3]
    rfl
  go_wp2_with fail
  go_loopw [5, 40] (fun _ i wr => i = .int .i64 0 ∧ ∃ m, wr = W.drewN m) (fun _ _ _ => 0)
  case atStart => exact ⟨rfl, 0, rfl⟩
  case round =>
    obtain ⟨rfl, m, rfl⟩ := hrel
    go_wp2_with fail
    go_loopw [6, 58] (fun _ i wr => i = .int .i64 0 ∧ ∃ m, wr = W.drewN m) (fun _ _ _ => 0)
    case atStart => exact ⟨rfl, m, rfl⟩
    case round =>
      obtain ⟨rfl, m, rfl⟩ := hrel
      go_wp2
      go_ret
      exact ⟨by rw [HV.out]; rfl, below_drewN HB.out _⟩

set_option maxHeartbeats 4000000 in
theorem r06_Same_zero (w : World) (An1 : Option Addr) (cn1 : Nat) (A1 : Option Addr) (c1 : Nat) (A3 : Option Addr) (c3 : Nat) (s : Sh) (a : Sa) (hin : InN .i64 w a.A0 a.c0 s.ns) (h0 : InN .i64 w An1 cn1 []) :
    Calls Try.prog 38 #[shV 0 0 (.slice An1 0 cn1) 0 0 (.slice A1 0 c1) (.slice A3 0 c3), shtV s a] w fun e w' => e = .returned (.bool (shz s)) ∧ Below w.heap.size w w' := by
  obtain ⟨V, hV⟩ : ∃ V, shz s = V := ⟨_, rfl⟩
  have HX := Lib.hid hV
  rw [hV]
  clear hV
  obtain ⟨g, hg⟩ : ∃ g, w.heap.size = g := ⟨_, rfl⟩
  rw [hg]
  obtain ⟨gr, hgr⟩ : ∃ gr, g + 1 = gr := ⟨_, rfl⟩
  have hBx : Below g w ((w.alloc (.cells (shC 0 0 (.slice An1 0 cn1) 0 0 (.slice A1 0 c1) (.slice A3 0 c3)) 29)).alloc (.cells (shC s.i s.t (.slice a.A0 s.ns.length a.c0) s.lim s.nxt (.slice a.A1 s.hs.length a.c1) (.slice a.A2 s.ls.length a.c2)) 29)) := ((Below.refl _ _).alloc (by omega) _).alloc (by simp; omega) _
  have hsz : (w.alloc (.cells (shC 0 0 (.slice An1 0 cn1) 0 0 (.slice A1 0 c1) (.slice A3 0 c3)) 29)).heap.size = gr := by simp [hg, hgr]
  have hb1 : Blk ((w.alloc (.cells (shC 0 0 (.slice An1 0 cn1) 0 0 (.slice A1 0 c1) (.slice A3 0 c3)) 29)).alloc (.cells (shC s.i s.t (.slice a.A0 s.ns.length a.c0) s.lim s.nxt (.slice a.A1 s.hs.length a.c1) (.slice a.A2 s.ls.length a.c2)) 29)) g 29 (shC 0 0 (.slice An1 0 cn1) 0 0 (.slice A1 0 c1) (.slice A3 0 c3)) := (hg ▸ Blk.new w 29 (shC 0 0 (.slice An1 0 cn1) 0 0 (.slice A1 0 c1) (.slice A3 0 c3)) : Blk (w.alloc (.cells (shC 0 0 (.slice An1 0 cn1) 0 0 (.slice A1 0 c1) (.slice A3 0 c3)) 29)) g 29 (shC 0 0 (.slice An1 0 cn1) 0 0 (.slice A1 0 c1) (.slice A3 0 c3))).alloc _
  have hr1 : Blk ((w.alloc (.cells (shC 0 0 (.slice An1 0 cn1) 0 0 (.slice A1 0 c1) (.slice A3 0 c3)) 29)).alloc (.cells (shC s.i s.t (.slice a.A0 s.ns.length a.c0) s.lim s.nxt (.slice a.A1 s.hs.length a.c1) (.slice a.A2 s.ls.length a.c2)) 29)) gr 29 (shC s.i s.t (.slice a.A0 s.ns.length a.c0) s.lim s.nxt (.slice a.A1 s.hs.length a.c1) (.slice a.A2 s.ls.length a.c2)) := hsz ▸ Blk.new _ _ _
  clear hsz
  have H1 := Lib.hid (hin.keep (hg ▸ hBx))
  have H0 := Lib.hid (h0.keep (hg ▸ hBx))
  clear hin h0
  unfold shV shtV
  go_enter Try.func38, Try.ntmps38
  go_upto_region 1 with (fail)
  change Code.wp _ _ _ _ ((w.alloc (.cells (shC 0 0 (.slice An1 0 cn1) 0 0 (.slice A1 0 c1) (.slice A3 0 c3)) 29)).alloc (.cells (shC s.i s.t (.slice a.A0 s.ns.length a.c0) s.lim s.nxt (.slice a.A1 s.hs.length a.c1) (.slice a.A2 s.ls.length a.c2)) 29))
  generalize ((w.alloc (.cells (shC 0 0 (.slice An1 0 cn1) 0 0 (.slice A1 0 c1) (.slice A3 0 c3)) 29)).alloc (.cells (shC s.i s.t (.slice a.A0 s.ns.length a.c0) s.lim s.nxt (.slice a.A1 s.hs.length a.c1) (.slice a.A2 s.ls.length a.c2)) 29)) = W at hb1 hr1 hBx H1 H0 ⊢
  try rw [hgr]
  have HB := Lib.hid hBx
  have hgl : g ≤ W.heap.size := Nat.le_of_lt hb1.lt
  obtain ⟨q0, q1, q2, q3, q4, q5, q6⟩ := hb1.sh
  obtain ⟨r0, r1, r2, r3, r4, r5, r6⟩ := hr1.sh
  have C1 := r03_Same_any W An1 a.A0 cn1 a.c0 [] s.ns H0.out H1.out
  have C2 := fun m => r05_Same_zero (W.drewN m) s.lim s.nxt A1 c1 a.A1 s.hs.length a.c1 A3 c3 a.A2 s.ls.length a.c2
  unfold ledV at C2
  clear hb1 hr1 hBx hg
  cases h0 : ((0 : Int) == s.i)
  · have HV : Hid (false = V) := by
      show _ = _
      rw [← HX.out]
      have k : (s.i == 0) = false := beq_eq_false_iff_ne.2 (fun e => beq_eq_false_iff_ne.1 h0 e.symm)
      simp [shz, k]
    go_wp2_with fail
    go_ret
    exact ⟨by rw [HV.out]; rfl, HB.out⟩
  cases h1 : ((0 : Int) == s.t)
  · have HV : Hid (false = V) := by
      show _ = _
      rw [← HX.out]
      have k : (s.t == 0) = false := beq_eq_false_iff_ne.2 (fun e => beq_eq_false_iff_ne.1 h1 e.symm)
      simp [shz, k]
    go_wp2_with fail
    go_ret
    exact ⟨by rw [HV.out]; rfl, HB.out⟩
  have k0 : s.i = 0 := (beq_iff_eq.1 h0).symm
  have k1 : s.t = 0 := (beq_iff_eq.1 h1).symm
  cases hn : decide ([] = s.ns)
  · have HV : Hid (false = V) := by
      show _ = _
      rw [← HX.out]
      have k : ((s.ns.length : Int) == 0) = false := beq_eq_false_iff_ne.2 (fun e => of_decide_eq_false hn ((len0 _).1 e).symm)
      simp [shz, k]
    rw [hn] at C1
    have C1 := Lib.hid C1
    clear hn k0 k1
    go_wp2_with fail
    refine C1.out.mono ?_
    rintro e w1 ⟨rfl, m, rfl⟩
    go_wp2_with fail
    go_ret
    exact ⟨by rw [HV.out]; rfl, below_drewN HB.out m⟩
  have k2 : s.ns = [] := (of_decide_eq_true hn).symm
  have HV : Hid ((s.lim == 0 && s.nxt == 0 && ((s.hs.length : Int) == 0) && ((s.ls.length : Int) == 0)) = V) := by
    show _ = _
    rw [← HX.out]
    simp [shz, k0, k1, k2]
  rw [hn] at C1
  simp only [HV.out] at C2
  have C1 := Lib.hid C1
  have C2 := Lib.hid C2
  clear hn k0 k1 k2 HV
  go_wp2_with fail
  refine C1.out.mono ?_
  rintro e w1 ⟨rfl, m, rfl⟩
  go_wp2_with fail
  refine (C2.out m).mono ?_
  rintro e w2 ⟨rfl, hB2⟩
  have HB2 := Lib.hid ((below_drewN HB.out m).trans (hB2.mono hgl))
  clear hB2
  go_wp2
  go_ret
  exact ⟨rfl, HB2.out⟩
theorem r06_Same_of (w : World) (s1 s2 : Sh) (a1 a2 : Sa) (h1 : InSh w s1 a1) (h2 : InSh w s2 a2) (hz : s1 = s2 ∨ s1 = sh0) :
    Calls Try.prog 38 #[shtV s1 a1, shtV s2 a2] w fun e w' => ∃ V, e = .returned (.bool V) ∧ (V = true ↔ s1 = s2) ∧ Below w.heap.size w w' := by
  by_cases hz0 : s1 = s2
  · subst hz0
    refine (r06_Same_eq w s1.i s1.t a1.A0 a1.c0 a2.A0 a2.c0 s1.ns s1.lim s1.nxt a1.A1 a1.c1 a2.A1 a2.c1 s1.hs a1.A2 a1.c2 a2.A2 a2.c2 s1.ls h1.n h2.n h1.h h2.h h1.l h2.l).mono ?_
    rintro e w' ⟨rfl, hB⟩
    exact ⟨true, rfl, by simp, hB⟩
  · rcases hz with hz | hz
    · exact absurd hz hz0
    · subst hz
      refine (r06_Same_zero w a1.A0 a1.c0 a1.A1 a1.c1 a1.A2 a1.c2 s2 a2 h2.n h1.n).mono ?_
      rintro e w' ⟨rfl, hB⟩
      exact ⟨shz s2, rfl, by rw [shz_iff]; exact ⟨fun h => h.symm, fun h => h.symm⟩, hB⟩
end Go.Proofs.Ytadkkhbbempaaaa

/- Records: the document's SameRec. -/
namespace Go.Proofs.Ytadkkhbbempaaaa
set_option maxRecDepth 100000
open Go.RowKit

set_option maxHeartbeats 8000000 in
theorem r13_SameRec_of (w : World) (r1 r2 : Rc) (a1 a2 : Ra) (h1 : InR w r1 a1) (h2 : InR w r2 a2) (hz : r1.sh = r2.sh ∨ r1.sh = sh0) :
    Calls Try.prog 24 #[recV r1 a1, recV r2 a2] w fun e w' => ∃ V, e = .returned (.bool V) ∧ (V = true ↔ r1 = r2) ∧ Below w.heap.size w w' := by
  obtain ⟨g, hg⟩ : ∃ g, w.heap.size = g := ⟨_, rfl⟩
  rw [hg]
  obtain ⟨gr, hgr⟩ : ∃ gr, g + 1 = gr := ⟨_, rfl⟩
  have hBx : Below g w ((w.alloc (.cells (recC r1 a1) 48)).alloc (.cells (recC r2 a2) 48)) := ((Below.refl _ _).alloc (by omega) _).alloc (by simp; omega) _
  have hsz : (w.alloc (.cells (recC r1 a1) 48)).heap.size = gr := by simp [hg, hgr]
  have hb1 : Blk ((w.alloc (.cells (recC r1 a1) 48)).alloc (.cells (recC r2 a2) 48)) g 48 (recC r1 a1) := (hg ▸ Blk.new w 48 (recC r1 a1) : Blk (w.alloc (.cells (recC r1 a1) 48)) g 48 (recC r1 a1)).alloc _
  have hr1 : Blk ((w.alloc (.cells (recC r1 a1) 48)).alloc (.cells (recC r2 a2) 48)) gr 48 (recC r2 a2) := hsz ▸ Blk.new _ _ _
  have H1 := Lib.hid (h1.keep (hg ▸ hBx))
  have H2 := Lib.hid (h2.keep (hg ▸ hBx))
  have HZ := Lib.hid hz
  clear hsz h1 h2 hz
  unfold recV
  go_enter Try.func24, Try.ntmps24
  go_upto_region 1 with (fail)
  change Code.wp _ _ _ _ ((w.alloc (.cells (recC r1 a1) 48)).alloc (.cells (recC r2 a2) 48))
  generalize ((w.alloc (.cells (recC r1 a1) 48)).alloc (.cells (recC r2 a2) 48)) = W at hb1 hr1 hBx H1 H2 ⊢
  try rw [hgr]
  have HB := Lib.hid hBx
  have hgl : g ≤ W.heap.size := Nat.le_of_lt hb1.lt
  obtain ⟨z0, z1, z2, z3, z4, z5, z6, z7, z8, z9, z10, z11, z12, z13, z14, z15, z16, z17, z18, z19, z20⟩ := hb1.rc
  obtain ⟨y0, y1, y2, y3, y4, y5, y6, y7, y8, y9, y10, y11, y12, y13, y14, y15, y16, y17, y18, y19, y20⟩ := hr1.rc
  have C1 := ref_Same_any W r1.en.k r1.en.n r1.en.t a1.A a1.c r1.en.l r1.en.b r1.en.q r1.en.s r1.en.m r2.en.k r2.en.n r2.en.t a2.A a2.c r2.en.l r2.en.b r2.en.q r2.en.s r2.en.m H1.out.l H2.out.l
  unfold cmdV at C1
  have HBL := Lib.hid (And.intro hb1 hr1)
  have hlg : g < W.heap.size := hb1.lt
  have hlr : gr < W.heap.size := hr1.lt
  clear hBx hb1 hr1 hg hgr
  cases h0 : (r1.k == r2.k)
  · have HN : Hid (¬ r1 = r2) := fun h => beq_eq_false_iff_ne.1 h0 (congrArg Rc.k h)
    go_wp2_with fail
    go_ret
    exact ⟨false, rfl, ⟨fun h => Bool.noConfusion h, fun h => absurd h HN.out⟩, HB.out⟩
  cases h1 : (r1.v == r2.v)
  · have HN : Hid (¬ r1 = r2) := fun h => beq_eq_false_iff_ne.1 h1 (congrArg Rc.v h)
    go_wp2_with fail
    go_ret
    exact ⟨false, rfl, ⟨fun h => Bool.noConfusion h, fun h => absurd h HN.out⟩, HB.out⟩
  cases h2 : (r1.bt == r2.bt)
  · have HN : Hid (¬ r1 = r2) := fun h => beq_eq_false_iff_ne.1 h2 (congrArg Rc.bt h)
    go_wp2_with fail
    go_ret
    exact ⟨false, rfl, ⟨fun h => Bool.noConfusion h, fun h => absurd h HN.out⟩, HB.out⟩
  cases h3 : (r1.tm == r2.tm)
  · have HN : Hid (¬ r1 = r2) := fun h => beq_eq_false_iff_ne.1 h3 (congrArg Rc.tm h)
    go_wp2_with fail
    go_ret
    exact ⟨false, rfl, ⟨fun h => Bool.noConfusion h, fun h => absurd h HN.out⟩, HB.out⟩
  cases h4 : (r1.ix == r2.ix)
  · have HN : Hid (¬ r1 = r2) := fun h => beq_eq_false_iff_ne.1 h4 (congrArg Rc.ix h)
    go_wp2_with fail
    go_ret
    exact ⟨false, rfl, ⟨fun h => Bool.noConfusion h, fun h => absurd h HN.out⟩, HB.out⟩
  cases h5 : (r1.en.tm == r2.en.tm)
  · have HN : Hid (¬ r1 = r2) := fun h => beq_eq_false_iff_ne.1 h5 (congrArg (fun r => r.en.tm) h)
    go_wp2_with fail
    go_ret
    exact ⟨false, rfl, ⟨fun h => Bool.noConfusion h, fun h => absurd h HN.out⟩, HB.out⟩
  have HH : Hid (r1.k = r2.k ∧ r1.v = r2.v ∧ r1.bt = r2.bt ∧ r1.tm = r2.tm ∧ r1.ix = r2.ix ∧ r1.en.tm = r2.en.tm) := ⟨beq_iff_eq.1 h0, beq_iff_eq.1 h1, beq_iff_eq.1 h2, beq_iff_eq.1 h3, beq_iff_eq.1 h4, beq_iff_eq.1 h5⟩
  cases h6 : sameB r1.en.k r1.en.n r1.en.t r1.en.l r1.en.b r1.en.q r1.en.s r1.en.m r2.en.k r2.en.n r2.en.t r2.en.l r2.en.b r2.en.q r2.en.s r2.en.m
  · have HN : Hid (¬ r1 = r2) := fun h => by
      have k : r1.en = r2.en := congrArg Rc.en h
      rw [k] at h6
      simp [sameB] at h6
    rw [h6] at C1
    have C1 := Lib.hid C1
    clear h6
    go_wp2_with fail
    refine C1.out.mono ?_
    rintro e w1 ⟨rfl, hB1⟩
    have HB1 := Lib.hid (HB.out.trans (hB1.mono hgl))
    clear hB1
    go_wp2_with fail
    go_ret
    exact ⟨false, rfl, ⟨fun h => Bool.noConfusion h, fun h => absurd h HN.out⟩, HB1.out⟩
  have HC : Hid (r1.en = r2.en) := by
    show _ = _
    have k := HH.out.2.2.2.2.2
    simp only [sameB, Bool.and_eq_true, beq_iff_eq, decide_eq_true_eq] at h6
    obtain ⟨⟨⟨⟨⟨⟨⟨c0, c1⟩, c2⟩, c3⟩, c4⟩, c5⟩, c6⟩, c7⟩ := h6
    generalize r1.en = x at *
    generalize r2.en = y at *
    cases x; cases y
    simp only at k c0 c1 c2 c3 c4 c5 c6 c7
    subst k c0 c1 c2 c3 c4 c5 c6 c7
    rfl
  rw [h6] at C1
  have C1 := Lib.hid C1
  clear h6
  go_wp2_with fail
  refine C1.out.mono ?_
  rintro e w1 ⟨rfl, hB1⟩
  have HB1 := Lib.hid (HB.out.trans (hB1.mono hgl))
  have hgl1 : g ≤ w1.heap.size := Nat.le_trans hgl hB1.size
  have C2 := r06_Same_of w1 r1.sh r2.sh a1.s a2.s (H1.out.keep hB1).sh (H2.out.keep hB1).sh HZ.out
  unfold shtV at C2
  have C2 := Lib.hid C2
  have hbb := HBL.out.1.below hB1 hlg
  have hrr := HBL.out.2.below hB1 hlr
  clear hB1 z0 z1 z2 z3 z4 z5 z6 z7 z8 z9 z10 z11 z12 z13 z14 z15 z16 z17 z18 z19 z20 y0 y1 y2 y3 y4 y5 y6 y7 y8 y9 y10 y11 y12 y13 y14 y15 y16 y17 y18 y19 y20 C1 HB HBL H1 H2
  obtain ⟨z0, z1, z2, z3, z4, z5, z6, z7, z8, z9, z10, z11, z12, z13, z14, z15, z16, z17, z18, z19, z20⟩ := hbb.rc
  obtain ⟨y0, y1, y2, y3, y4, y5, y6, y7, y8, y9, y10, y11, y12, y13, y14, y15, y16, y17, y18, y19, y20⟩ := hrr.rc
  clear hbb hrr
  go_wp2_with fail
  refine C2.out.mono ?_
  rintro e w2 ⟨V, rfl, hV, hB2⟩
  have HB2 := Lib.hid (HB1.out.trans (hB2.mono hgl1))
  have HV := Lib.hid hV
  clear hB2 hV
  go_wp2_with fail
  go_ret
  refine ⟨V, rfl, ⟨fun h => ?_, fun h => HV.out.2 (congrArg Rc.sh h)⟩, HB2.out⟩
  obtain ⟨c0, c1, c2, c3, c4, _⟩ := HH.out
  exact rc_ext c0 c1 c2 c3 c4 HC.out (HV.out.1 h)
end Go.Proofs.Ytadkkhbbempaaaa

/- Records: the document's only. -/
namespace Go.Proofs.Ytadkkhbbempaaaa
set_option maxRecDepth 100000
open Go.RowKit

set_option maxHeartbeats 8000000 in
theorem r13_only_1 (w : World) (r : Rc) (a : Ra) (hk : r.k = 1) :
    Calls Try.prog 82 #[recV r a] w fun e w' => e = .returned (recV ⟨r.k, 0, r.bt, 0, 0, en0, sh0⟩ ra0) ∧ Below w.heap.size w w' := by
  have k1 : (r.k == 1) = true := by rw [hk]; rfl
  have k2 : (r.k == 2) = false := by rw [hk]; rfl
  have k3 : (r.k == 3) = false := by rw [hk]; rfl
  have k4 : (r.k == 4) = false := by rw [hk]; rfl
  have k5 : (r.k == 5) = false := by rw [hk]; rfl
  clear hk
  obtain ⟨g, hg⟩ : ∃ g, w.heap.size = g := ⟨_, rfl⟩
  rw [hg]
  obtain ⟨gr, hgr⟩ : ∃ gr, g + 1 = gr := ⟨_, rfl⟩
  have hBx : Below g w ((w.alloc (.cells (recC r a) 48)).alloc (.cells (recC rc0 ra0) 48)) := ((Below.refl _ _).alloc (by omega) _).alloc (by simp; omega) _
  have hsz : (w.alloc (.cells (recC r a) 48)).heap.size = gr := by simp [hg, hgr]
  have hb1 : Blk ((w.alloc (.cells (recC r a) 48)).alloc (.cells (recC rc0 ra0) 48)) g 48 (recC r a) := (hg ▸ Blk.new w 48 (recC r a) : Blk (w.alloc (.cells (recC r a) 48)) g 48 (recC r a)).alloc _
  have hr1 : Blk ((w.alloc (.cells (recC r a) 48)).alloc (.cells (recC rc0 ra0) 48)) gr 48 (recC rc0 ra0) := hsz ▸ Blk.new _ _ _
  clear hsz
  unfold recV
  go_enter Try.func82, Try.ntmps82
  go_upto_region 1 with (fail)
  change Code.wp _ _ _ _ ((w.alloc (.cells (recC r a) 48)).alloc (.cells (recC rc0 ra0) 48))
  generalize ((w.alloc (.cells (recC r a) 48)).alloc (.cells (recC rc0 ra0) 48)) = W at hb1 hr1 hBx ⊢
  try rw [hgr]
  have HB := Lib.hid hBx
  have hgl : g < W.heap.size := hb1.lt
  have hgrl : gr < W.heap.size := hr1.lt
  have hx2 : Blk (W.alloc (.cells (recC ⟨r.k, 0, 0, 0, 0, en0, sh0⟩ ra0) 48)) W.heap.size 48 (recC ⟨r.k, 0, 0, 0, 0, en0, sh0⟩ ra0) := Blk.new _ _ _
  have hb2 := hb1.alloc (.cells (recC ⟨r.k, 0, 0, 0, 0, en0, sh0⟩ ra0) 48)
  have hr2 := hr1.alloc (.cells (recC ⟨r.k, 0, 0, 0, 0, en0, sh0⟩ ra0) 48)
  have HB2 := Lib.hid (HB.out.alloc (by omega) (.cells (recC ⟨r.k, 0, 0, 0, 0, en0, sh0⟩ ra0) 48))
  have z0 := hb1.rc.z0
  clear hb1 hr1 hBx HB
  go_upto_region 2 with (refine wpList_store_row rfl 48 _ _ rfl W.heap.size (recC ⟨r.k, 0, 0, 0, 0, en0, sh0⟩ ra0) rfl rfl 48 (recC rc0 ra0) (Blk.new W 48 _) info_Rec rfl (recC_one _ _) ?_; rw [World.setRow_alloc_new])
  change Code.wp _ _ _ _ (W.alloc (.cells (recC ⟨r.k, 0, 0, 0, 0, en0, sh0⟩ ra0) 48))
  obtain ⟨gx, hgx⟩ : ∃ gx, W.heap.size = gx := ⟨_, rfl⟩
  rw [hgx] at hx2 hgl hgrl
  have hnx : g ≠ gx := by omega
  have hnr : gr ≠ gx := by omega
  have hlx : g ≤ gx := by omega
  generalize (W.alloc (.cells (recC ⟨r.k, 0, 0, 0, 0, en0, sh0⟩ ra0) 48)) = W2 at hx2 hb2 hr2 HB2 ⊢
  try rw [hgx]
  clear z0 hgx
  obtain ⟨z0, z1, z2, z3, z4, z5, z6, z7, z8, z9, z10, z11, z12, z13, z14, z15, z16, z17, z18, z19, z20⟩ := hb2.rc
  have f2 := hx2.frozen 2
  have e2 : W2.cell? ⟨gx, 2, none⟩ = some (Value.int .u64 0) := (hx2.cell 2).trans rfl
  have hx3 : Blk (setsW W2 gx [(2, Value.int .u64 r.bt)]) gx 48 (List.toArray [Value.int .i64 r.k, .int .i64 0, .int .u64 r.bt, .int .u64 0, .int .u64 0, .int .u64 0, .int .i64 0, .int .i64 0, .int .i64 0, .slice none 0 0, .int .u64 0, .int .u64 0, .int .u64 0, .int .u64 0, .int .u64 0, .int .u64 0, .slice none 0 0, .int .i64 0, .int .u64 0, .slice none 0 0, .slice none 0 0]) := setsW_blk (l := [Value.int .i64 r.k, .int .i64 0, .int .u64 0, .int .u64 0, .int .u64 0, .int .u64 0, .int .i64 0, .int .i64 0, .int .i64 0, .slice none 0 0, .int .u64 0, .int .u64 0, .int .u64 0, .int .u64 0, .int .u64 0, .int .u64 0, .slice none 0 0, .int .i64 0, .int .u64 0, .slice none 0 0, .slice none 0 0]) hx2 [(2, Value.int .u64 r.bt)]
  have hb3 := setsW_far hb2 hnx [(2, Value.int .u64 r.bt)]
  have hr3 := setsW_far hr2 hnr [(2, Value.int .u64 r.bt)]
  have HB3 := Lib.hid (setsW_below HB2.out hlx [(2, Value.int .u64 r.bt)])
  go_upto_region 15 with (fail)
  change Code.wp _ _ _ _ (setsW W2 gx [(2, Value.int .u64 r.bt)])
  generalize (setsW W2 gx [(2, Value.int .u64 r.bt)]) = W3 at hx3 hb3 hr3 HB3 ⊢
  clear z0 z1 z2 z3 z4 z5 z6 z7 z8 z9 z10 z11 z12 z13 z14 z15 z16 z17 z18 z19 z20 f2 e2 hx2 hb2 hr2 HB2
  obtain ⟨z0, z1, z2, z3, z4, z5, z6, z7, z8, z9, z10, z11, z12, z13, z14, z15, z16, z17, z18, z19, z20⟩ := hb3.rc
  have hq : Blk W3 gx 48 (recC ⟨r.k, 0, r.bt, 0, 0, en0, sh0⟩ ra0) := hx3
  clear z0 z1 z2 z3 z4 z5 z6 z7 z8 z9 z10 z11 z12 z13 z14 z15 z16 z17 z18 z19 z20 hb3 hx3
  have HR := Lib.hid hr3
  clear hr3
  go_wp2_with (first | (refine wpList_load_row rfl 48 _ rfl gx rfl 48 (recC ⟨r.k, 0, r.bt, 0, 0, en0, sh0⟩ ra0) hq _ Try.underlying48 rfl info_Rec ?_) | refine wpList_store_row rfl 48 _ _ rfl gr (recC ⟨r.k, 0, r.bt, 0, 0, en0, sh0⟩ ra0) rfl rfl 48 (recC rc0 ra0) HR.out info_Rec rfl (recC_one _ _) ?_)
  (try simp only [Exit.inBlock, Exit.then])
  refine bodyPost_ret (results_cell1 rfl rfl (run_loadVar_row _ gr 48 48 _ (0, 0) _ (Blk.row (cs := recC ⟨r.k, 0, r.bt, 0, 0, en0, sh0⟩ ra0) HR.out) Try.underlying48 rfl info_Rec)) rfl ?_
  exact ⟨rfl, row_below HB3.out (by omega) _⟩
end Go.Proofs.Ytadkkhbbempaaaa

/- Records: the document's only. -/
namespace Go.Proofs.Ytadkkhbbempaaaa
set_option maxRecDepth 100000
open Go.RowKit

set_option maxHeartbeats 8000000 in
theorem r13_only_2 (w : World) (r : Rc) (a : Ra) (hk : r.k = 2) :
    Calls Try.prog 82 #[recV r a] w fun e w' => e = .returned (recV ⟨r.k, r.v, 0, r.tm, 0, en0, sh0⟩ ra0) ∧ Below w.heap.size w w' := by
  have k1 : (r.k == 1) = false := by rw [hk]; rfl
  have k2 : (r.k == 2) = true := by rw [hk]; rfl
  have k3 : (r.k == 3) = false := by rw [hk]; rfl
  have k4 : (r.k == 4) = false := by rw [hk]; rfl
  have k5 : (r.k == 5) = false := by rw [hk]; rfl
  clear hk
  obtain ⟨g, hg⟩ : ∃ g, w.heap.size = g := ⟨_, rfl⟩
  rw [hg]
  obtain ⟨gr, hgr⟩ : ∃ gr, g + 1 = gr := ⟨_, rfl⟩
  have hBx : Below g w ((w.alloc (.cells (recC r a) 48)).alloc (.cells (recC rc0 ra0) 48)) := ((Below.refl _ _).alloc (by omega) _).alloc (by simp; omega) _
  have hsz : (w.alloc (.cells (recC r a) 48)).heap.size = gr := by simp [hg, hgr]
  have hb1 : Blk ((w.alloc (.cells (recC r a) 48)).alloc (.cells (recC rc0 ra0) 48)) g 48 (recC r a) := (hg ▸ Blk.new w 48 (recC r a) : Blk (w.alloc (.cells (recC r a) 48)) g 48 (recC r a)).alloc _
  have hr1 : Blk ((w.alloc (.cells (recC r a) 48)).alloc (.cells (recC rc0 ra0) 48)) gr 48 (recC rc0 ra0) := hsz ▸ Blk.new _ _ _
  clear hsz
  unfold recV
  go_enter Try.func82, Try.ntmps82
  go_upto_region 1 with (fail)
  change Code.wp _ _ _ _ ((w.alloc (.cells (recC r a) 48)).alloc (.cells (recC rc0 ra0) 48))
  generalize ((w.alloc (.cells (recC r a) 48)).alloc (.cells (recC rc0 ra0) 48)) = W at hb1 hr1 hBx ⊢
  try rw [hgr]
  have HB := Lib.hid hBx
  have hgl : g < W.heap.size := hb1.lt
  have hgrl : gr < W.heap.size := hr1.lt
  have hx2 : Blk (W.alloc (.cells (recC ⟨r.k, 0, 0, 0, 0, en0, sh0⟩ ra0) 48)) W.heap.size 48 (recC ⟨r.k, 0, 0, 0, 0, en0, sh0⟩ ra0) := Blk.new _ _ _
  have hb2 := hb1.alloc (.cells (recC ⟨r.k, 0, 0, 0, 0, en0, sh0⟩ ra0) 48)
  have hr2 := hr1.alloc (.cells (recC ⟨r.k, 0, 0, 0, 0, en0, sh0⟩ ra0) 48)
  have HB2 := Lib.hid (HB.out.alloc (by omega) (.cells (recC ⟨r.k, 0, 0, 0, 0, en0, sh0⟩ ra0) 48))
  have z0 := hb1.rc.z0
  clear hb1 hr1 hBx HB
  go_upto_region 2 with (refine wpList_store_row rfl 48 _ _ rfl W.heap.size (recC ⟨r.k, 0, 0, 0, 0, en0, sh0⟩ ra0) rfl rfl 48 (recC rc0 ra0) (Blk.new W 48 _) info_Rec rfl (recC_one _ _) ?_; rw [World.setRow_alloc_new])
  change Code.wp _ _ _ _ (W.alloc (.cells (recC ⟨r.k, 0, 0, 0, 0, en0, sh0⟩ ra0) 48))
  obtain ⟨gx, hgx⟩ : ∃ gx, W.heap.size = gx := ⟨_, rfl⟩
  rw [hgx] at hx2 hgl hgrl
  have hnx : g ≠ gx := by omega
  have hnr : gr ≠ gx := by omega
  have hlx : g ≤ gx := by omega
  generalize (W.alloc (.cells (recC ⟨r.k, 0, 0, 0, 0, en0, sh0⟩ ra0) 48)) = W2 at hx2 hb2 hr2 HB2 ⊢
  try rw [hgx]
  clear z0 hgx
  obtain ⟨z0, z1, z2, z3, z4, z5, z6, z7, z8, z9, z10, z11, z12, z13, z14, z15, z16, z17, z18, z19, z20⟩ := hb2.rc
  have f3 := hx2.frozen 3
  have e3 : W2.cell? ⟨gx, 3, none⟩ = some (Value.int .u64 0) := (hx2.cell 3).trans rfl
  have hx3 : Blk (setsW W2 gx [(3, Value.int .u64 r.tm)]) gx 48 (List.toArray [Value.int .i64 r.k, .int .i64 0, .int .u64 0, .int .u64 r.tm, .int .u64 0, .int .u64 0, .int .i64 0, .int .i64 0, .int .i64 0, .slice none 0 0, .int .u64 0, .int .u64 0, .int .u64 0, .int .u64 0, .int .u64 0, .int .u64 0, .slice none 0 0, .int .i64 0, .int .u64 0, .slice none 0 0, .slice none 0 0]) := setsW_blk (l := [Value.int .i64 r.k, .int .i64 0, .int .u64 0, .int .u64 0, .int .u64 0, .int .u64 0, .int .i64 0, .int .i64 0, .int .i64 0, .slice none 0 0, .int .u64 0, .int .u64 0, .int .u64 0, .int .u64 0, .int .u64 0, .int .u64 0, .slice none 0 0, .int .i64 0, .int .u64 0, .slice none 0 0, .slice none 0 0]) hx2 [(3, Value.int .u64 r.tm)]
  have hb3 := setsW_far hb2 hnx [(3, Value.int .u64 r.tm)]
  have hr3 := setsW_far hr2 hnr [(3, Value.int .u64 r.tm)]
  have HB3 := Lib.hid (setsW_below HB2.out hlx [(3, Value.int .u64 r.tm)])
  go_upto_region 7 with (fail)
  change Code.wp _ _ _ _ (setsW W2 gx [(3, Value.int .u64 r.tm)])
  generalize (setsW W2 gx [(3, Value.int .u64 r.tm)]) = W3 at hx3 hb3 hr3 HB3 ⊢
  clear z0 z1 z2 z3 z4 z5 z6 z7 z8 z9 z10 z11 z12 z13 z14 z15 z16 z17 z18 z19 z20 f3 e3 hx2 hb2 hr2 HB2
  obtain ⟨z0, z1, z2, z3, z4, z5, z6, z7, z8, z9, z10, z11, z12, z13, z14, z15, z16, z17, z18, z19, z20⟩ := hb3.rc
  have f1 := hx3.frozen 1
  have e1 : W3.cell? ⟨gx, 1, none⟩ = some (Value.int .i64 0) := (hx3.cell 1).trans rfl
  have hx4 : Blk (setsW W3 gx [(1, Value.int .i64 r.v)]) gx 48 (List.toArray [Value.int .i64 r.k, .int .i64 r.v, .int .u64 0, .int .u64 r.tm, .int .u64 0, .int .u64 0, .int .i64 0, .int .i64 0, .int .i64 0, .slice none 0 0, .int .u64 0, .int .u64 0, .int .u64 0, .int .u64 0, .int .u64 0, .int .u64 0, .slice none 0 0, .int .i64 0, .int .u64 0, .slice none 0 0, .slice none 0 0]) := setsW_blk (l := [Value.int .i64 r.k, .int .i64 0, .int .u64 0, .int .u64 r.tm, .int .u64 0, .int .u64 0, .int .i64 0, .int .i64 0, .int .i64 0, .slice none 0 0, .int .u64 0, .int .u64 0, .int .u64 0, .int .u64 0, .int .u64 0, .int .u64 0, .slice none 0 0, .int .i64 0, .int .u64 0, .slice none 0 0, .slice none 0 0]) hx3 [(1, Value.int .i64 r.v)]
  have hb4 := setsW_far hb3 hnx [(1, Value.int .i64 r.v)]
  have hr4 := setsW_far hr3 hnr [(1, Value.int .i64 r.v)]
  have HB4 := Lib.hid (setsW_below HB3.out hlx [(1, Value.int .i64 r.v)])
  go_upto_region 15 with (fail)
  change Code.wp _ _ _ _ (setsW W3 gx [(1, Value.int .i64 r.v)])
  generalize (setsW W3 gx [(1, Value.int .i64 r.v)]) = W4 at hx4 hb4 hr4 HB4 ⊢
  clear z0 z1 z2 z3 z4 z5 z6 z7 z8 z9 z10 z11 z12 z13 z14 z15 z16 z17 z18 z19 z20 f1 e1 hx3 hb3 hr3 HB3
  obtain ⟨z0, z1, z2, z3, z4, z5, z6, z7, z8, z9, z10, z11, z12, z13, z14, z15, z16, z17, z18, z19, z20⟩ := hb4.rc
  have hq : Blk W4 gx 48 (recC ⟨r.k, r.v, 0, r.tm, 0, en0, sh0⟩ ra0) := hx4
  clear z0 z1 z2 z3 z4 z5 z6 z7 z8 z9 z10 z11 z12 z13 z14 z15 z16 z17 z18 z19 z20 hb4 hx4
  have HR := Lib.hid hr4
  clear hr4
  go_wp2_with (first | (refine wpList_load_row rfl 48 _ rfl gx rfl 48 (recC ⟨r.k, r.v, 0, r.tm, 0, en0, sh0⟩ ra0) hq _ Try.underlying48 rfl info_Rec ?_) | refine wpList_store_row rfl 48 _ _ rfl gr (recC ⟨r.k, r.v, 0, r.tm, 0, en0, sh0⟩ ra0) rfl rfl 48 (recC rc0 ra0) HR.out info_Rec rfl (recC_one _ _) ?_)
  (try simp only [Exit.inBlock, Exit.then])
  refine bodyPost_ret (results_cell1 rfl rfl (run_loadVar_row _ gr 48 48 _ (0, 0) _ (Blk.row (cs := recC ⟨r.k, r.v, 0, r.tm, 0, en0, sh0⟩ ra0) HR.out) Try.underlying48 rfl info_Rec)) rfl ?_
  exact ⟨rfl, row_below HB4.out (by omega) _⟩
end Go.Proofs.Ytadkkhbbempaaaa

/- Records: the document's only. -/
namespace Go.Proofs.Ytadkkhbbempaaaa
set_option maxRecDepth 100000
open Go.RowKit

set_option maxHeartbeats 8000000 in
theorem r13_only_3 (w : World) (r : Rc) (a : Ra) (hk : r.k = 3) :
    Calls Try.prog 82 #[recV r a] w fun e w' => e = .returned (recV ⟨r.k, 0, 0, 0, r.ix, r.en, sh0⟩ ⟨a.A, a.c, sa0⟩) ∧ Below w.heap.size w w' := by
  have k1 : (r.k == 1) = false := by rw [hk]; rfl
  have k2 : (r.k == 2) = false := by rw [hk]; rfl
  have k3 : (r.k == 3) = true := by rw [hk]; rfl
  have k4 : (r.k == 4) = false := by rw [hk]; rfl
  have k5 : (r.k == 5) = false := by rw [hk]; rfl
  clear hk
  obtain ⟨g, hg⟩ : ∃ g, w.heap.size = g := ⟨_, rfl⟩
  rw [hg]
  obtain ⟨gr, hgr⟩ : ∃ gr, g + 1 = gr := ⟨_, rfl⟩
  have hBx : Below g w ((w.alloc (.cells (recC r a) 48)).alloc (.cells (recC rc0 ra0) 48)) := ((Below.refl _ _).alloc (by omega) _).alloc (by simp; omega) _
  have hsz : (w.alloc (.cells (recC r a) 48)).heap.size = gr := by simp [hg, hgr]
  have hb1 : Blk ((w.alloc (.cells (recC r a) 48)).alloc (.cells (recC rc0 ra0) 48)) g 48 (recC r a) := (hg ▸ Blk.new w 48 (recC r a) : Blk (w.alloc (.cells (recC r a) 48)) g 48 (recC r a)).alloc _
  have hr1 : Blk ((w.alloc (.cells (recC r a) 48)).alloc (.cells (recC rc0 ra0) 48)) gr 48 (recC rc0 ra0) := hsz ▸ Blk.new _ _ _
  clear hsz
  unfold recV
  go_enter Try.func82, Try.ntmps82
  go_upto_region 1 with (fail)
  change Code.wp _ _ _ _ ((w.alloc (.cells (recC r a) 48)).alloc (.cells (recC rc0 ra0) 48))
  generalize ((w.alloc (.cells (recC r a) 48)).alloc (.cells (recC rc0 ra0) 48)) = W at hb1 hr1 hBx ⊢
  try rw [hgr]
  have HB := Lib.hid hBx
  have hgl : g < W.heap.size := hb1.lt
  have hgrl : gr < W.heap.size := hr1.lt
  have hx2 : Blk (W.alloc (.cells (recC ⟨r.k, 0, 0, 0, 0, en0, sh0⟩ ra0) 48)) W.heap.size 48 (recC ⟨r.k, 0, 0, 0, 0, en0, sh0⟩ ra0) := Blk.new _ _ _
  have hb2 := hb1.alloc (.cells (recC ⟨r.k, 0, 0, 0, 0, en0, sh0⟩ ra0) 48)
  have hr2 := hr1.alloc (.cells (recC ⟨r.k, 0, 0, 0, 0, en0, sh0⟩ ra0) 48)
  have HB2 := Lib.hid (HB.out.alloc (by omega) (.cells (recC ⟨r.k, 0, 0, 0, 0, en0, sh0⟩ ra0) 48))
  have z0 := hb1.rc.z0
  clear hb1 hr1 hBx HB
  go_upto_region 2 with (refine wpList_store_row rfl 48 _ _ rfl W.heap.size (recC ⟨r.k, 0, 0, 0, 0, en0, sh0⟩ ra0) rfl rfl 48 (recC rc0 ra0) (Blk.new W 48 _) info_Rec rfl (recC_one _ _) ?_; rw [World.setRow_alloc_new])
  change Code.wp _ _ _ _ (W.alloc (.cells (recC ⟨r.k, 0, 0, 0, 0, en0, sh0⟩ ra0) 48))
  obtain ⟨gx, hgx⟩ : ∃ gx, W.heap.size = gx := ⟨_, rfl⟩
  rw [hgx] at hx2 hgl hgrl
  have hnx : g ≠ gx := by omega
  have hnr : gr ≠ gx := by omega
  have hlx : g ≤ gx := by omega
  generalize (W.alloc (.cells (recC ⟨r.k, 0, 0, 0, 0, en0, sh0⟩ ra0) 48)) = W2 at hx2 hb2 hr2 HB2 ⊢
  try rw [hgx]
  clear z0 hgx
  obtain ⟨z0, z1, z2, z3, z4, z5, z6, z7, z8, z9, z10, z11, z12, z13, z14, z15, z16, z17, z18, z19, z20⟩ := hb2.rc
  have f4 := hx2.frozen 4
  have e4 : W2.cell? ⟨gx, 4, none⟩ = some (Value.int .u64 0) := (hx2.cell 4).trans rfl
  have hx3 : Blk (setsW W2 gx [(4, Value.int .u64 r.ix)]) gx 48 (List.toArray [Value.int .i64 r.k, .int .i64 0, .int .u64 0, .int .u64 0, .int .u64 r.ix, .int .u64 0, .int .i64 0, .int .i64 0, .int .i64 0, .slice none 0 0, .int .u64 0, .int .u64 0, .int .u64 0, .int .u64 0, .int .u64 0, .int .u64 0, .slice none 0 0, .int .i64 0, .int .u64 0, .slice none 0 0, .slice none 0 0]) := setsW_blk (l := [Value.int .i64 r.k, .int .i64 0, .int .u64 0, .int .u64 0, .int .u64 0, .int .u64 0, .int .i64 0, .int .i64 0, .int .i64 0, .slice none 0 0, .int .u64 0, .int .u64 0, .int .u64 0, .int .u64 0, .int .u64 0, .int .u64 0, .slice none 0 0, .int .i64 0, .int .u64 0, .slice none 0 0, .slice none 0 0]) hx2 [(4, Value.int .u64 r.ix)]
  have hb3 := setsW_far hb2 hnx [(4, Value.int .u64 r.ix)]
  have hr3 := setsW_far hr2 hnr [(4, Value.int .u64 r.ix)]
  have HB3 := Lib.hid (setsW_below HB2.out hlx [(4, Value.int .u64 r.ix)])
  go_upto_region 10 with (fail)
  change Code.wp _ _ _ _ (setsW W2 gx [(4, Value.int .u64 r.ix)])
  generalize (setsW W2 gx [(4, Value.int .u64 r.ix)]) = W3 at hx3 hb3 hr3 HB3 ⊢
  clear z0 z1 z2 z3 z4 z5 z6 z7 z8 z9 z10 z11 z12 z13 z14 z15 z16 z17 z18 z19 z20 f4 e4 hx2 hb2 hr2 HB2
  obtain ⟨z0, z1, z2, z3, z4, z5, z6, z7, z8, z9, z10, z11, z12, z13, z14, z15, z16, z17, z18, z19, z20⟩ := hb3.rc
  have f5 := hx3.frozen 5
  have e5 : W3.cell? ⟨gx, 5, none⟩ = some (Value.int .u64 0) := (hx3.cell 5).trans rfl
  have f6 := hx3.frozen 6
  have e6 : W3.cell? ⟨gx, 6, none⟩ = some (Value.int .i64 0) := (hx3.cell 6).trans rfl
  have f7 := hx3.frozen 7
  have e7 : W3.cell? ⟨gx, 7, none⟩ = some (Value.int .i64 0) := (hx3.cell 7).trans rfl
  have f8 := hx3.frozen 8
  have e8 : W3.cell? ⟨gx, 8, none⟩ = some (Value.int .i64 0) := (hx3.cell 8).trans rfl
  have f9 := hx3.frozen 9
  have e9 : W3.cell? ⟨gx, 9, none⟩ = some (Value.slice none 0 0) := (hx3.cell 9).trans rfl
  have f10 := hx3.frozen 10
  have e10 : W3.cell? ⟨gx, 10, none⟩ = some (Value.int .u64 0) := (hx3.cell 10).trans rfl
  have f11 := hx3.frozen 11
  have e11 : W3.cell? ⟨gx, 11, none⟩ = some (Value.int .u64 0) := (hx3.cell 11).trans rfl
  have f12 := hx3.frozen 12
  have e12 : W3.cell? ⟨gx, 12, none⟩ = some (Value.int .u64 0) := (hx3.cell 12).trans rfl
  have f13 := hx3.frozen 13
  have e13 : W3.cell? ⟨gx, 13, none⟩ = some (Value.int .u64 0) := (hx3.cell 13).trans rfl
  have hx4 : Blk (setsW W3 gx [(5, Value.int .u64 r.en.tm), (6, .int .i64 r.en.k), (7, .int .i64 r.en.n), (8, .int .i64 r.en.t), (9, .slice a.A r.en.l.length a.c), (10, .int .u64 r.en.b), (11, .int .u64 r.en.q), (12, .int .u64 r.en.s), (13, .int .u64 r.en.m)]) gx 48 (List.toArray [Value.int .i64 r.k, .int .i64 0, .int .u64 0, .int .u64 0, .int .u64 r.ix, .int .u64 r.en.tm, .int .i64 r.en.k, .int .i64 r.en.n, .int .i64 r.en.t, .slice a.A r.en.l.length a.c, .int .u64 r.en.b, .int .u64 r.en.q, .int .u64 r.en.s, .int .u64 r.en.m, .int .u64 0, .int .u64 0, .slice none 0 0, .int .i64 0, .int .u64 0, .slice none 0 0, .slice none 0 0]) := setsW_blk (l := [Value.int .i64 r.k, .int .i64 0, .int .u64 0, .int .u64 0, .int .u64 r.ix, .int .u64 0, .int .i64 0, .int .i64 0, .int .i64 0, .slice none 0 0, .int .u64 0, .int .u64 0, .int .u64 0, .int .u64 0, .int .u64 0, .int .u64 0, .slice none 0 0, .int .i64 0, .int .u64 0, .slice none 0 0, .slice none 0 0]) hx3 [(5, Value.int .u64 r.en.tm), (6, .int .i64 r.en.k), (7, .int .i64 r.en.n), (8, .int .i64 r.en.t), (9, .slice a.A r.en.l.length a.c), (10, .int .u64 r.en.b), (11, .int .u64 r.en.q), (12, .int .u64 r.en.s), (13, .int .u64 r.en.m)]
  have hb4 := setsW_far hb3 hnx [(5, Value.int .u64 r.en.tm), (6, .int .i64 r.en.k), (7, .int .i64 r.en.n), (8, .int .i64 r.en.t), (9, .slice a.A r.en.l.length a.c), (10, .int .u64 r.en.b), (11, .int .u64 r.en.q), (12, .int .u64 r.en.s), (13, .int .u64 r.en.m)]
  have hr4 := setsW_far hr3 hnr [(5, Value.int .u64 r.en.tm), (6, .int .i64 r.en.k), (7, .int .i64 r.en.n), (8, .int .i64 r.en.t), (9, .slice a.A r.en.l.length a.c), (10, .int .u64 r.en.b), (11, .int .u64 r.en.q), (12, .int .u64 r.en.s), (13, .int .u64 r.en.m)]
  have HB4 := Lib.hid (setsW_below HB3.out hlx [(5, Value.int .u64 r.en.tm), (6, .int .i64 r.en.k), (7, .int .i64 r.en.n), (8, .int .i64 r.en.t), (9, .slice a.A r.en.l.length a.c), (10, .int .u64 r.en.b), (11, .int .u64 r.en.q), (12, .int .u64 r.en.s), (13, .int .u64 r.en.m)])
  go_upto_region 15 with (fail)
  change Code.wp _ _ _ _ (setsW W3 gx [(5, Value.int .u64 r.en.tm), (6, .int .i64 r.en.k), (7, .int .i64 r.en.n), (8, .int .i64 r.en.t), (9, .slice a.A r.en.l.length a.c), (10, .int .u64 r.en.b), (11, .int .u64 r.en.q), (12, .int .u64 r.en.s), (13, .int .u64 r.en.m)])
  generalize (setsW W3 gx [(5, Value.int .u64 r.en.tm), (6, .int .i64 r.en.k), (7, .int .i64 r.en.n), (8, .int .i64 r.en.t), (9, .slice a.A r.en.l.length a.c), (10, .int .u64 r.en.b), (11, .int .u64 r.en.q), (12, .int .u64 r.en.s), (13, .int .u64 r.en.m)]) = W4 at hx4 hb4 hr4 HB4 ⊢
  clear z0 z1 z2 z3 z4 z5 z6 z7 z8 z9 z10 z11 z12 z13 z14 z15 z16 z17 z18 z19 z20 f5 e5 f6 e6 f7 e7 f8 e8 f9 e9 f10 e10 f11 e11 f12 e12 f13 e13 hx3 hb3 hr3 HB3
  obtain ⟨z0, z1, z2, z3, z4, z5, z6, z7, z8, z9, z10, z11, z12, z13, z14, z15, z16, z17, z18, z19, z20⟩ := hb4.rc
  have hq : Blk W4 gx 48 (recC ⟨r.k, 0, 0, 0, r.ix, r.en, sh0⟩ ⟨a.A, a.c, sa0⟩) := hx4
  clear z0 z1 z2 z3 z4 z5 z6 z7 z8 z9 z10 z11 z12 z13 z14 z15 z16 z17 z18 z19 z20 hb4 hx4
  have HR := Lib.hid hr4
  clear hr4
  go_wp2_with (first | (refine wpList_load_row rfl 48 _ rfl gx rfl 48 (recC ⟨r.k, 0, 0, 0, r.ix, r.en, sh0⟩ ⟨a.A, a.c, sa0⟩) hq _ Try.underlying48 rfl info_Rec ?_) | refine wpList_store_row rfl 48 _ _ rfl gr (recC ⟨r.k, 0, 0, 0, r.ix, r.en, sh0⟩ ⟨a.A, a.c, sa0⟩) rfl rfl 48 (recC rc0 ra0) HR.out info_Rec rfl (recC_one _ _) ?_)
  (try simp only [Exit.inBlock, Exit.then])
  refine bodyPost_ret (results_cell1 rfl rfl (run_loadVar_row _ gr 48 48 _ (0, 0) _ (Blk.row (cs := recC ⟨r.k, 0, 0, 0, r.ix, r.en, sh0⟩ ⟨a.A, a.c, sa0⟩) HR.out) Try.underlying48 rfl info_Rec)) rfl ?_
  exact ⟨rfl, row_below HB4.out (by omega) _⟩
end Go.Proofs.Ytadkkhbbempaaaa

/- Records: the document's only. -/
namespace Go.Proofs.Ytadkkhbbempaaaa
set_option maxRecDepth 100000
open Go.RowKit

set_option maxHeartbeats 8000000 in
theorem r13_only_4 (w : World) (r : Rc) (a : Ra) (hk : r.k = 4) :
    Calls Try.prog 82 #[recV r a] w fun e w' => e = .returned (recV ⟨r.k, 0, 0, 0, r.ix, en0, sh0⟩ ra0) ∧ Below w.heap.size w w' := by
  have k1 : (r.k == 1) = false := by rw [hk]; rfl
  have k2 : (r.k == 2) = false := by rw [hk]; rfl
  have k3 : (r.k == 3) = false := by rw [hk]; rfl
  have k4 : (r.k == 4) = true := by rw [hk]; rfl
  have k5 : (r.k == 5) = false := by rw [hk]; rfl
  clear hk
  obtain ⟨g, hg⟩ : ∃ g, w.heap.size = g := ⟨_, rfl⟩
  rw [hg]
  obtain ⟨gr, hgr⟩ : ∃ gr, g + 1 = gr := ⟨_, rfl⟩
  have hBx : Below g w ((w.alloc (.cells (recC r a) 48)).alloc (.cells (recC rc0 ra0) 48)) := ((Below.refl _ _).alloc (by omega) _).alloc (by simp; omega) _
  have hsz : (w.alloc (.cells (recC r a) 48)).heap.size = gr := by simp [hg, hgr]
  have hb1 : Blk ((w.alloc (.cells (recC r a) 48)).alloc (.cells (recC rc0 ra0) 48)) g 48 (recC r a) := (hg ▸ Blk.new w 48 (recC r a) : Blk (w.alloc (.cells (recC r a) 48)) g 48 (recC r a)).alloc _
  have hr1 : Blk ((w.alloc (.cells (recC r a) 48)).alloc (.cells (recC rc0 ra0) 48)) gr 48 (recC rc0 ra0) := hsz ▸ Blk.new _ _ _
  clear hsz
  unfold recV
  go_enter Try.func82, Try.ntmps82
  go_upto_region 1 with (fail)
  change Code.wp _ _ _ _ ((w.alloc (.cells (recC r a) 48)).alloc (.cells (recC rc0 ra0) 48))
  generalize ((w.alloc (.cells (recC r a) 48)).alloc (.cells (recC rc0 ra0) 48)) = W at hb1 hr1 hBx ⊢
  try rw [hgr]
  have HB := Lib.hid hBx
  have hgl : g < W.heap.size := hb1.lt
  have hgrl : gr < W.heap.size := hr1.lt
  have hx2 : Blk (W.alloc (.cells (recC ⟨r.k, 0, 0, 0, 0, en0, sh0⟩ ra0) 48)) W.heap.size 48 (recC ⟨r.k, 0, 0, 0, 0, en0, sh0⟩ ra0) := Blk.new _ _ _
  have hb2 := hb1.alloc (.cells (recC ⟨r.k, 0, 0, 0, 0, en0, sh0⟩ ra0) 48)
  have hr2 := hr1.alloc (.cells (recC ⟨r.k, 0, 0, 0, 0, en0, sh0⟩ ra0) 48)
  have HB2 := Lib.hid (HB.out.alloc (by omega) (.cells (recC ⟨r.k, 0, 0, 0, 0, en0, sh0⟩ ra0) 48))
  have z0 := hb1.rc.z0
  clear hb1 hr1 hBx HB
  go_upto_region 2 with (refine wpList_store_row rfl 48 _ _ rfl W.heap.size (recC ⟨r.k, 0, 0, 0, 0, en0, sh0⟩ ra0) rfl rfl 48 (recC rc0 ra0) (Blk.new W 48 _) info_Rec rfl (recC_one _ _) ?_; rw [World.setRow_alloc_new])
  change Code.wp _ _ _ _ (W.alloc (.cells (recC ⟨r.k, 0, 0, 0, 0, en0, sh0⟩ ra0) 48))
  obtain ⟨gx, hgx⟩ : ∃ gx, W.heap.size = gx := ⟨_, rfl⟩
  rw [hgx] at hx2 hgl hgrl
  have hnx : g ≠ gx := by omega
  have hnr : gr ≠ gx := by omega
  have hlx : g ≤ gx := by omega
  generalize (W.alloc (.cells (recC ⟨r.k, 0, 0, 0, 0, en0, sh0⟩ ra0) 48)) = W2 at hx2 hb2 hr2 HB2 ⊢
  try rw [hgx]
  clear z0 hgx
  obtain ⟨z0, z1, z2, z3, z4, z5, z6, z7, z8, z9, z10, z11, z12, z13, z14, z15, z16, z17, z18, z19, z20⟩ := hb2.rc
  have f4 := hx2.frozen 4
  have e4 : W2.cell? ⟨gx, 4, none⟩ = some (Value.int .u64 0) := (hx2.cell 4).trans rfl
  have hx3 : Blk (setsW W2 gx [(4, Value.int .u64 r.ix)]) gx 48 (List.toArray [Value.int .i64 r.k, .int .i64 0, .int .u64 0, .int .u64 0, .int .u64 r.ix, .int .u64 0, .int .i64 0, .int .i64 0, .int .i64 0, .slice none 0 0, .int .u64 0, .int .u64 0, .int .u64 0, .int .u64 0, .int .u64 0, .int .u64 0, .slice none 0 0, .int .i64 0, .int .u64 0, .slice none 0 0, .slice none 0 0]) := setsW_blk (l := [Value.int .i64 r.k, .int .i64 0, .int .u64 0, .int .u64 0, .int .u64 0, .int .u64 0, .int .i64 0, .int .i64 0, .int .i64 0, .slice none 0 0, .int .u64 0, .int .u64 0, .int .u64 0, .int .u64 0, .int .u64 0, .int .u64 0, .slice none 0 0, .int .i64 0, .int .u64 0, .slice none 0 0, .slice none 0 0]) hx2 [(4, Value.int .u64 r.ix)]
  have hb3 := setsW_far hb2 hnx [(4, Value.int .u64 r.ix)]
  have hr3 := setsW_far hr2 hnr [(4, Value.int .u64 r.ix)]
  have HB3 := Lib.hid (setsW_below HB2.out hlx [(4, Value.int .u64 r.ix)])
  go_upto_region 15 with (fail)
  change Code.wp _ _ _ _ (setsW W2 gx [(4, Value.int .u64 r.ix)])
  generalize (setsW W2 gx [(4, Value.int .u64 r.ix)]) = W3 at hx3 hb3 hr3 HB3 ⊢
  clear z0 z1 z2 z3 z4 z5 z6 z7 z8 z9 z10 z11 z12 z13 z14 z15 z16 z17 z18 z19 z20 f4 e4 hx2 hb2 hr2 HB2
  obtain ⟨z0, z1, z2, z3, z4, z5, z6, z7, z8, z9, z10, z11, z12, z13, z14, z15, z16, z17, z18, z19, z20⟩ := hb3.rc
  have hq : Blk W3 gx 48 (recC ⟨r.k, 0, 0, 0, r.ix, en0, sh0⟩ ra0) := hx3
  clear z0 z1 z2 z3 z4 z5 z6 z7 z8 z9 z10 z11 z12 z13 z14 z15 z16 z17 z18 z19 z20 hb3 hx3
  have HR := Lib.hid hr3
  clear hr3
  go_wp2_with (first | (refine wpList_load_row rfl 48 _ rfl gx rfl 48 (recC ⟨r.k, 0, 0, 0, r.ix, en0, sh0⟩ ra0) hq _ Try.underlying48 rfl info_Rec ?_) | refine wpList_store_row rfl 48 _ _ rfl gr (recC ⟨r.k, 0, 0, 0, r.ix, en0, sh0⟩ ra0) rfl rfl 48 (recC rc0 ra0) HR.out info_Rec rfl (recC_one _ _) ?_)
  (try simp only [Exit.inBlock, Exit.then])
  refine bodyPost_ret (results_cell1 rfl rfl (run_loadVar_row _ gr 48 48 _ (0, 0) _ (Blk.row (cs := recC ⟨r.k, 0, 0, 0, r.ix, en0, sh0⟩ ra0) HR.out) Try.underlying48 rfl info_Rec)) rfl ?_
  exact ⟨rfl, row_below HB3.out (by omega) _⟩
end Go.Proofs.Ytadkkhbbempaaaa

/- Records: the document's only. -/
namespace Go.Proofs.Ytadkkhbbempaaaa
set_option maxRecDepth 100000
open Go.RowKit

set_option maxHeartbeats 8000000 in
theorem r13_only_5 (w : World) (r : Rc) (a : Ra) (hk : r.k = 5) :
    Calls Try.prog 82 #[recV r a] w fun e w' => e = .returned (recV ⟨r.k, 0, 0, 0, 0, en0, r.sh⟩ ⟨none, 0, a.s⟩) ∧ Below w.heap.size w w' := by
  have k1 : (r.k == 1) = false := by rw [hk]; rfl
  have k2 : (r.k == 2) = false := by rw [hk]; rfl
  have k3 : (r.k == 3) = false := by rw [hk]; rfl
  have k4 : (r.k == 4) = false := by rw [hk]; rfl
  have k5 : (r.k == 5) = true := by rw [hk]; rfl
  clear hk
  obtain ⟨g, hg⟩ : ∃ g, w.heap.size = g := ⟨_, rfl⟩
  rw [hg]
  obtain ⟨gr, hgr⟩ : ∃ gr, g + 1 = gr := ⟨_, rfl⟩
  have hBx : Below g w ((w.alloc (.cells (recC r a) 48)).alloc (.cells (recC rc0 ra0) 48)) := ((Below.refl _ _).alloc (by omega) _).alloc (by simp; omega) _
  have hsz : (w.alloc (.cells (recC r a) 48)).heap.size = gr := by simp [hg, hgr]
  have hb1 : Blk ((w.alloc (.cells (recC r a) 48)).alloc (.cells (recC rc0 ra0) 48)) g 48 (recC r a) := (hg ▸ Blk.new w 48 (recC r a) : Blk (w.alloc (.cells (recC r a) 48)) g 48 (recC r a)).alloc _
  have hr1 : Blk ((w.alloc (.cells (recC r a) 48)).alloc (.cells (recC rc0 ra0) 48)) gr 48 (recC rc0 ra0) := hsz ▸ Blk.new _ _ _
  clear hsz
  unfold recV
  go_enter Try.func82, Try.ntmps82
  go_upto_region 1 with (fail)
  change Code.wp _ _ _ _ ((w.alloc (.cells (recC r a) 48)).alloc (.cells (recC rc0 ra0) 48))
  generalize ((w.alloc (.cells (recC r a) 48)).alloc (.cells (recC rc0 ra0) 48)) = W at hb1 hr1 hBx ⊢
  try rw [hgr]
  have HB := Lib.hid hBx
  have hgl : g < W.heap.size := hb1.lt
  have hgrl : gr < W.heap.size := hr1.lt
  have hx2 : Blk (W.alloc (.cells (recC ⟨r.k, 0, 0, 0, 0, en0, sh0⟩ ra0) 48)) W.heap.size 48 (recC ⟨r.k, 0, 0, 0, 0, en0, sh0⟩ ra0) := Blk.new _ _ _
  have hb2 := hb1.alloc (.cells (recC ⟨r.k, 0, 0, 0, 0, en0, sh0⟩ ra0) 48)
  have hr2 := hr1.alloc (.cells (recC ⟨r.k, 0, 0, 0, 0, en0, sh0⟩ ra0) 48)
  have HB2 := Lib.hid (HB.out.alloc (by omega) (.cells (recC ⟨r.k, 0, 0, 0, 0, en0, sh0⟩ ra0) 48))
  have z0 := hb1.rc.z0
  clear hb1 hr1 hBx HB
  go_upto_region 2 with (refine wpList_store_row rfl 48 _ _ rfl W.heap.size (recC ⟨r.k, 0, 0, 0, 0, en0, sh0⟩ ra0) rfl rfl 48 (recC rc0 ra0) (Blk.new W 48 _) info_Rec rfl (recC_one _ _) ?_; rw [World.setRow_alloc_new])
  change Code.wp _ _ _ _ (W.alloc (.cells (recC ⟨r.k, 0, 0, 0, 0, en0, sh0⟩ ra0) 48))
  obtain ⟨gx, hgx⟩ : ∃ gx, W.heap.size = gx := ⟨_, rfl⟩
  rw [hgx] at hx2 hgl hgrl
  have hnx : g ≠ gx := by omega
  have hnr : gr ≠ gx := by omega
  have hlx : g ≤ gx := by omega
  generalize (W.alloc (.cells (recC ⟨r.k, 0, 0, 0, 0, en0, sh0⟩ ra0) 48)) = W2 at hx2 hb2 hr2 HB2 ⊢
  try rw [hgx]
  clear z0 hgx
  obtain ⟨z0, z1, z2, z3, z4, z5, z6, z7, z8, z9, z10, z11, z12, z13, z14, z15, z16, z17, z18, z19, z20⟩ := hb2.rc
  have f14 := hx2.frozen 14
  have e14 : W2.cell? ⟨gx, 14, none⟩ = some (Value.int .u64 0) := (hx2.cell 14).trans rfl
  have f15 := hx2.frozen 15
  have e15 : W2.cell? ⟨gx, 15, none⟩ = some (Value.int .u64 0) := (hx2.cell 15).trans rfl
  have f16 := hx2.frozen 16
  have e16 : W2.cell? ⟨gx, 16, none⟩ = some (Value.slice none 0 0) := (hx2.cell 16).trans rfl
  have f17 := hx2.frozen 17
  have e17 : W2.cell? ⟨gx, 17, none⟩ = some (Value.int .i64 0) := (hx2.cell 17).trans rfl
  have f18 := hx2.frozen 18
  have e18 : W2.cell? ⟨gx, 18, none⟩ = some (Value.int .u64 0) := (hx2.cell 18).trans rfl
  have f19 := hx2.frozen 19
  have e19 : W2.cell? ⟨gx, 19, none⟩ = some (Value.slice none 0 0) := (hx2.cell 19).trans rfl
  have f20 := hx2.frozen 20
  have e20 : W2.cell? ⟨gx, 20, none⟩ = some (Value.slice none 0 0) := (hx2.cell 20).trans rfl
  have hx3 : Blk (setsW W2 gx [(14, Value.int .u64 r.sh.i), (15, .int .u64 r.sh.t), (16, .slice a.s.A0 r.sh.ns.length a.s.c0), (17, .int .i64 r.sh.lim), (18, .int .u64 r.sh.nxt), (19, .slice a.s.A1 r.sh.hs.length a.s.c1), (20, .slice a.s.A2 r.sh.ls.length a.s.c2)]) gx 48 (List.toArray [Value.int .i64 r.k, .int .i64 0, .int .u64 0, .int .u64 0, .int .u64 0, .int .u64 0, .int .i64 0, .int .i64 0, .int .i64 0, .slice none 0 0, .int .u64 0, .int .u64 0, .int .u64 0, .int .u64 0, .int .u64 r.sh.i, .int .u64 r.sh.t, .slice a.s.A0 r.sh.ns.length a.s.c0, .int .i64 r.sh.lim, .int .u64 r.sh.nxt, .slice a.s.A1 r.sh.hs.length a.s.c1, .slice a.s.A2 r.sh.ls.length a.s.c2]) := setsW_blk (l := [Value.int .i64 r.k, .int .i64 0, .int .u64 0, .int .u64 0, .int .u64 0, .int .u64 0, .int .i64 0, .int .i64 0, .int .i64 0, .slice none 0 0, .int .u64 0, .int .u64 0, .int .u64 0, .int .u64 0, .int .u64 0, .int .u64 0, .slice none 0 0, .int .i64 0, .int .u64 0, .slice none 0 0, .slice none 0 0]) hx2 [(14, Value.int .u64 r.sh.i), (15, .int .u64 r.sh.t), (16, .slice a.s.A0 r.sh.ns.length a.s.c0), (17, .int .i64 r.sh.lim), (18, .int .u64 r.sh.nxt), (19, .slice a.s.A1 r.sh.hs.length a.s.c1), (20, .slice a.s.A2 r.sh.ls.length a.s.c2)]
  have hb3 := setsW_far hb2 hnx [(14, Value.int .u64 r.sh.i), (15, .int .u64 r.sh.t), (16, .slice a.s.A0 r.sh.ns.length a.s.c0), (17, .int .i64 r.sh.lim), (18, .int .u64 r.sh.nxt), (19, .slice a.s.A1 r.sh.hs.length a.s.c1), (20, .slice a.s.A2 r.sh.ls.length a.s.c2)]
  have hr3 := setsW_far hr2 hnr [(14, Value.int .u64 r.sh.i), (15, .int .u64 r.sh.t), (16, .slice a.s.A0 r.sh.ns.length a.s.c0), (17, .int .i64 r.sh.lim), (18, .int .u64 r.sh.nxt), (19, .slice a.s.A1 r.sh.hs.length a.s.c1), (20, .slice a.s.A2 r.sh.ls.length a.s.c2)]
  have HB3 := Lib.hid (setsW_below HB2.out hlx [(14, Value.int .u64 r.sh.i), (15, .int .u64 r.sh.t), (16, .slice a.s.A0 r.sh.ns.length a.s.c0), (17, .int .i64 r.sh.lim), (18, .int .u64 r.sh.nxt), (19, .slice a.s.A1 r.sh.hs.length a.s.c1), (20, .slice a.s.A2 r.sh.ls.length a.s.c2)])
  go_upto_region 15 with (fail)
  change Code.wp _ _ _ _ (setsW W2 gx [(14, Value.int .u64 r.sh.i), (15, .int .u64 r.sh.t), (16, .slice a.s.A0 r.sh.ns.length a.s.c0), (17, .int .i64 r.sh.lim), (18, .int .u64 r.sh.nxt), (19, .slice a.s.A1 r.sh.hs.length a.s.c1), (20, .slice a.s.A2 r.sh.ls.length a.s.c2)])
  generalize (setsW W2 gx [(14, Value.int .u64 r.sh.i), (15, .int .u64 r.sh.t), (16, .slice a.s.A0 r.sh.ns.length a.s.c0), (17, .int .i64 r.sh.lim), (18, .int .u64 r.sh.nxt), (19, .slice a.s.A1 r.sh.hs.length a.s.c1), (20, .slice a.s.A2 r.sh.ls.length a.s.c2)]) = W3 at hx3 hb3 hr3 HB3 ⊢
  clear z0 z1 z2 z3 z4 z5 z6 z7 z8 z9 z10 z11 z12 z13 z14 z15 z16 z17 z18 z19 z20 f14 e14 f15 e15 f16 e16 f17 e17 f18 e18 f19 e19 f20 e20 hx2 hb2 hr2 HB2
  obtain ⟨z0, z1, z2, z3, z4, z5, z6, z7, z8, z9, z10, z11, z12, z13, z14, z15, z16, z17, z18, z19, z20⟩ := hb3.rc
  have hq : Blk W3 gx 48 (recC ⟨r.k, 0, 0, 0, 0, en0, r.sh⟩ ⟨none, 0, a.s⟩) := hx3
  clear z0 z1 z2 z3 z4 z5 z6 z7 z8 z9 z10 z11 z12 z13 z14 z15 z16 z17 z18 z19 z20 hb3 hx3
  have HR := Lib.hid hr3
  clear hr3
  go_wp2_with (first | (refine wpList_load_row rfl 48 _ rfl gx rfl 48 (recC ⟨r.k, 0, 0, 0, 0, en0, r.sh⟩ ⟨none, 0, a.s⟩) hq _ Try.underlying48 rfl info_Rec ?_) | refine wpList_store_row rfl 48 _ _ rfl gr (recC ⟨r.k, 0, 0, 0, 0, en0, r.sh⟩ ⟨none, 0, a.s⟩) rfl rfl 48 (recC rc0 ra0) HR.out info_Rec rfl (recC_one _ _) ?_)
  (try simp only [Exit.inBlock, Exit.then])
  refine bodyPost_ret (results_cell1 rfl rfl (run_loadVar_row _ gr 48 48 _ (0, 0) _ (Blk.row (cs := recC ⟨r.k, 0, 0, 0, 0, en0, r.sh⟩ ⟨none, 0, a.s⟩) HR.out) Try.underlying48 rfl info_Rec)) rfl ?_
  exact ⟨rfl, row_below HB3.out (by omega) _⟩
end Go.Proofs.Ytadkkhbbempaaaa

/- Records: the document's only. -/
namespace Go.Proofs.Ytadkkhbbempaaaa
set_option maxRecDepth 100000
open Go.RowKit

set_option maxHeartbeats 8000000 in
theorem r13_only_n (w : World) (r : Rc) (a : Ra) (n1 : r.k ≠ 1) (n2 : r.k ≠ 2) (n3 : r.k ≠ 3) (n4 : r.k ≠ 4) (n5 : r.k ≠ 5) :
    Calls Try.prog 82 #[recV r a] w fun e w' => e = .returned (recV ⟨r.k, 0, 0, 0, 0, en0, sh0⟩ ra0) ∧ Below w.heap.size w w' := by
  have k1 : (r.k == 1) = false := beq_eq_false_iff_ne.2 n1
  have k2 : (r.k == 2) = false := beq_eq_false_iff_ne.2 n2
  have k3 : (r.k == 3) = false := beq_eq_false_iff_ne.2 n3
  have k4 : (r.k == 4) = false := beq_eq_false_iff_ne.2 n4
  have k5 : (r.k == 5) = false := beq_eq_false_iff_ne.2 n5
  clear n1 n2 n3 n4 n5
  obtain ⟨g, hg⟩ : ∃ g, w.heap.size = g := ⟨_, rfl⟩
  rw [hg]
  obtain ⟨gr, hgr⟩ : ∃ gr, g + 1 = gr := ⟨_, rfl⟩
  have hBx : Below g w ((w.alloc (.cells (recC r a) 48)).alloc (.cells (recC rc0 ra0) 48)) := ((Below.refl _ _).alloc (by omega) _).alloc (by simp; omega) _
  have hsz : (w.alloc (.cells (recC r a) 48)).heap.size = gr := by simp [hg, hgr]
  have hb1 : Blk ((w.alloc (.cells (recC r a) 48)).alloc (.cells (recC rc0 ra0) 48)) g 48 (recC r a) := (hg ▸ Blk.new w 48 (recC r a) : Blk (w.alloc (.cells (recC r a) 48)) g 48 (recC r a)).alloc _
  have hr1 : Blk ((w.alloc (.cells (recC r a) 48)).alloc (.cells (recC rc0 ra0) 48)) gr 48 (recC rc0 ra0) := hsz ▸ Blk.new _ _ _
  clear hsz
  unfold recV
  go_enter Try.func82, Try.ntmps82
  go_upto_region 1 with (fail)
  change Code.wp _ _ _ _ ((w.alloc (.cells (recC r a) 48)).alloc (.cells (recC rc0 ra0) 48))
  generalize ((w.alloc (.cells (recC r a) 48)).alloc (.cells (recC rc0 ra0) 48)) = W at hb1 hr1 hBx ⊢
  try rw [hgr]
  have HB := Lib.hid hBx
  have hgl : g < W.heap.size := hb1.lt
  have hgrl : gr < W.heap.size := hr1.lt
  have hx2 : Blk (W.alloc (.cells (recC ⟨r.k, 0, 0, 0, 0, en0, sh0⟩ ra0) 48)) W.heap.size 48 (recC ⟨r.k, 0, 0, 0, 0, en0, sh0⟩ ra0) := Blk.new _ _ _
  have hb2 := hb1.alloc (.cells (recC ⟨r.k, 0, 0, 0, 0, en0, sh0⟩ ra0) 48)
  have hr2 := hr1.alloc (.cells (recC ⟨r.k, 0, 0, 0, 0, en0, sh0⟩ ra0) 48)
  have HB2 := Lib.hid (HB.out.alloc (by omega) (.cells (recC ⟨r.k, 0, 0, 0, 0, en0, sh0⟩ ra0) 48))
  have z0 := hb1.rc.z0
  clear hb1 hr1 hBx HB
  go_upto_region 2 with (refine wpList_store_row rfl 48 _ _ rfl W.heap.size (recC ⟨r.k, 0, 0, 0, 0, en0, sh0⟩ ra0) rfl rfl 48 (recC rc0 ra0) (Blk.new W 48 _) info_Rec rfl (recC_one _ _) ?_; rw [World.setRow_alloc_new])
  change Code.wp _ _ _ _ (W.alloc (.cells (recC ⟨r.k, 0, 0, 0, 0, en0, sh0⟩ ra0) 48))
  obtain ⟨gx, hgx⟩ : ∃ gx, W.heap.size = gx := ⟨_, rfl⟩
  rw [hgx] at hx2 hgl hgrl
  have hnx : g ≠ gx := by omega
  have hnr : gr ≠ gx := by omega
  have hlx : g ≤ gx := by omega
  generalize (W.alloc (.cells (recC ⟨r.k, 0, 0, 0, 0, en0, sh0⟩ ra0) 48)) = W2 at hx2 hb2 hr2 HB2 ⊢
  try rw [hgx]
  clear z0 hgx
  obtain ⟨z0, z1, z2, z3, z4, z5, z6, z7, z8, z9, z10, z11, z12, z13, z14, z15, z16, z17, z18, z19, z20⟩ := hb2.rc
  go_upto_region 15 with (fail)
  have hq : Blk W2 gx 48 (recC ⟨r.k, 0, 0, 0, 0, en0, sh0⟩ ra0) := hx2
  clear z0 z1 z2 z3 z4 z5 z6 z7 z8 z9 z10 z11 z12 z13 z14 z15 z16 z17 z18 z19 z20 hb2 hx2
  have HR := Lib.hid hr2
  clear hr2
  go_wp2_with (first | (refine wpList_load_row rfl 48 _ rfl gx rfl 48 (recC ⟨r.k, 0, 0, 0, 0, en0, sh0⟩ ra0) hq _ Try.underlying48 rfl info_Rec ?_) | refine wpList_store_row rfl 48 _ _ rfl gr (recC ⟨r.k, 0, 0, 0, 0, en0, sh0⟩ ra0) rfl rfl 48 (recC rc0 ra0) HR.out info_Rec rfl (recC_one _ _) ?_)
  (try simp only [Exit.inBlock, Exit.then])
  refine bodyPost_ret (results_cell1 rfl rfl (run_loadVar_row _ gr 48 48 _ (0, 0) _ (Blk.row (cs := recC ⟨r.k, 0, 0, 0, 0, en0, sh0⟩ ra0) HR.out) Try.underlying48 rfl info_Rec)) rfl ?_
  exact ⟨rfl, row_below HB2.out (by omega) _⟩
end Go.Proofs.Ytadkkhbbempaaaa

/- Records: the document's only. -/
namespace Go.Proofs.Ytadkkhbbempaaaa
set_option maxRecDepth 100000
open Go.RowKit


theorem r13_only_any (w : World) (r : Rc) (a : Ra) (hin : InR w r a) :
    Calls Try.prog 82 #[recV r a] w fun e w' => ∃ a', e = .returned (recV r.only a') ∧ InR w' r.only a' ∧ Below w.heap.size w w' := by
  by_cases k1 : r.k = 1
  · have ho : r.only = ⟨r.k, 0, r.bt, 0, 0, en0, sh0⟩ := by unfold Rc.only; simp [k1]
    rw [ho]
    refine (r13_only_1 w r a k1).mono ?_
    rintro e w' ⟨rfl, hB⟩
    exact ⟨ra0, rfl, ⟨InN.nil, InSh.zero w'⟩, hB⟩
  by_cases k2 : r.k = 2
  · have ho : r.only = ⟨r.k, r.v, 0, r.tm, 0, en0, sh0⟩ := by unfold Rc.only; simp [k2]
    rw [ho]
    refine (r13_only_2 w r a k2).mono ?_
    rintro e w' ⟨rfl, hB⟩
    exact ⟨ra0, rfl, ⟨InN.nil, InSh.zero w'⟩, hB⟩
  by_cases k3 : r.k = 3
  · have ho : r.only = ⟨r.k, 0, 0, 0, r.ix, r.en, sh0⟩ := by unfold Rc.only; simp [k3]
    rw [ho]
    refine (r13_only_3 w r a k3).mono ?_
    rintro e w' ⟨rfl, hB⟩
    exact ⟨⟨a.A, a.c, sa0⟩, rfl, ⟨(hin.keep hB).l, InSh.zero w'⟩, hB⟩
  by_cases k4 : r.k = 4
  · have ho : r.only = ⟨r.k, 0, 0, 0, r.ix, en0, sh0⟩ := by unfold Rc.only; simp [k4]
    rw [ho]
    refine (r13_only_4 w r a k4).mono ?_
    rintro e w' ⟨rfl, hB⟩
    exact ⟨ra0, rfl, ⟨InN.nil, InSh.zero w'⟩, hB⟩
  by_cases k5 : r.k = 5
  · have ho : r.only = ⟨r.k, 0, 0, 0, 0, en0, r.sh⟩ := by unfold Rc.only; simp [k5]
    rw [ho]
    refine (r13_only_5 w r a k5).mono ?_
    rintro e w' ⟨rfl, hB⟩
    exact ⟨⟨none, 0, a.s⟩, rfl, ⟨InN.nil, (hin.keep hB).sh⟩, hB⟩
  have ho : r.only = ⟨r.k, 0, 0, 0, 0, en0, sh0⟩ := by unfold Rc.only; simp [k1, k2, k3, k4, k5]
  rw [ho]
  refine (r13_only_n w r a k1 k2 k3 k4 k5).mono ?_
  rintro e w' ⟨rfl, hB⟩
  exact ⟨ra0, rfl, ⟨InN.nil, InSh.zero w'⟩, hB⟩
theorem only_sh (r : Rc) : r.only.sh = r.sh ∨ r.only.sh = sh0 := by
  unfold Rc.only
  by_cases k : r.k = 5
  · left; simp [k]
  · right; simp [k]
end Go.Proofs.Ytadkkhbbempaaaa

/- Records: the document's May. -/
namespace Go.Proofs.Ytadkkhbbempaaaa
set_option maxRecDepth 100000
open Go.RowKit

set_option maxHeartbeats 8000000 in
theorem r13_May_1 (w : World) (r : Rc) (a : Ra) (hin : InR w r a) (_ : r.Wf) (hk : r.k = 1) :
    Calls Try.prog 44 #[recV r a] w fun e w' => e = .returned (.bool (decide r.May)) ∧ Below w.heap.size w w' := by
  have k1 : (r.k == 1) = true := by rw [hk]; rfl
  have k2 : (r.k == 2) = false := by rw [hk]; rfl
  have k3 : (r.k == 3) = false := by rw [hk]; rfl
  have k4 : (r.k == 4) = false := by rw [hk]; rfl
  have k5 : (r.k == 5) = false := by rw [hk]; rfl
  obtain ⟨V, hV⟩ : ∃ V, decide r.May = V := ⟨_, rfl⟩
  have HX : Hid ((r.only = r ∧ (1 ≤ r.bt)) ↔ V = true) := by
    show _ ↔ _
    rw [← hV, decide_eq_true_iff]
    unfold Rc.May Rc.kind
    rw [hk]; simp
  rw [hV]
  clear hV hk
  have hoz := only_sh r
  have CO := fun W h => r13_only_any W r a h
  obtain ⟨o, ho⟩ : ∃ o, r.only = o := ⟨_, rfl⟩
  rw [ho] at HX hoz
  simp only [ho] at CO
  have CS := fun W a' h1 h2 => r13_SameRec_of W o r a' a h1 h2 hoz
  clear ho hoz
  unfold recV at CO CS
  have CO := Lib.hid CO
  have CS := Lib.hid CS
  obtain ⟨g, hg⟩ : ∃ g, w.heap.size = g := ⟨_, rfl⟩
  rw [hg]
  have hBx : Below g w (w.alloc (.cells (recC r a) 48)) := (Below.refl _ _).alloc (by omega) _
  have hb1 : Blk (w.alloc (.cells (recC r a) 48)) g 48 (recC r a) := hg ▸ Blk.new _ _ _
  have hI := hin.keep (hg ▸ hBx)
  clear hin
  unfold recV
  go_enter Try.func44, Try.ntmps44
  go_upto_region 1 with (fail)
  change Code.wp _ _ _ _ (w.alloc (.cells (recC r a) 48))
  generalize (w.alloc (.cells (recC r a) 48)) = W at hb1 hBx hI ⊢
  try rw [hg]
  have hgl : g < W.heap.size := hb1.lt
  have HI := Lib.hid (hI.keep ((Below.refl W.heap.size W).drew))
  have C1 := Lib.hid (CO.out W.drew HI.out)
  have HBK := Lib.hid hb1.drew
  have HB := Lib.hid hBx.drew
  clear hb1 hBx hI hg CO
  refine wp_region_held_drew (S := fun w' => Blk w' g 48 (recC r a)) (by kernel_rfl) HBK.out (fun hHeld => ?_)
  refine wpAnyH_take (i := 0) (v := .agg (recC r a)) rfl (by kernel_rfl) (by kernel_rfl) (by kernel_rfl) (fun _ _ _ h => h) (yields_row rfl 48 _ rfl g rfl 48 (recC r a) (fun _ h => h) _ Try.underlying48 rfl info_Rec) (by assumption) ?_
  ((try simp only [List.getElem_toArray, List.getElem_cons_zero]); (try simp only [Act.put, List.setIfInBounds_toArray, List.set_cons_zero, List.set_cons_succ]))
  refine wpAnyH_take (i := 2) (v := .agg (recC r a)) rfl (by kernel_rfl) (by kernel_rfl) (by kernel_rfl) (fun _ _ _ h => h) (yields_row rfl 48 _ rfl g rfl 48 (recC r a) (fun _ h => h) _ Try.underlying48 rfl info_Rec) (by assumption) ?_
  ((try simp only [List.getElem_toArray, List.getElem_cons_succ, List.getElem_cons_zero]); (try simp only [Act.put, List.setIfInBounds_toArray, List.set_cons_zero, List.set_cons_succ]))
  refine wpAnyH_ready (rs := [1]) (by kernel_rfl) (by simp) ?_
  refine AllReadyH.cons rfl (fun K hK => ?_) AllReadyH.nil
  go_simp
  refine C1.out.mono ?_
  rintro x w5 ⟨a5, rfl, h5, hB5⟩
  have H5 := Lib.hid h5
  have HI5 := Lib.hid (HI.out.keep hB5)
  have HBK5 := Lib.hid (HBK.out.below hB5 hgl)
  have HB5 := Lib.hid (HB.out.trans (hB5.mono (Nat.le_of_lt hgl)))
  clear h5 hB5
  go_simp
  refine hK.out _ _ (HBK5.out) (fun hHeld2 => ?_)
  clear hK K hHeld
  have hHeld := hHeld2
  clear hHeld2
  ((try simp only [List.getElem_toArray, List.getElem_cons_succ, List.getElem_cons_zero]); (try simp only [Act.put, List.setIfInBounds_toArray, List.set_cons_zero, List.set_cons_succ]))
  refine wpAnyH_ready (rs := [3]) (by kernel_rfl) (by simp) ?_
  refine AllReadyH.cons rfl (fun K hK => ?_) AllReadyH.nil
  go_simp
  refine (CS.out _ _ H5.out HI5.out).mono ?_
  rintro x w6 ⟨V6, rfl, hV6, hB6⟩
  have HB6 := Lib.hid (HB5.out.trans (hB6.mono (Nat.le_of_lt HBK5.out.lt)))
  have HV6 := Lib.hid hV6
  have hbk6 := HBK5.out.below hB6 HBK5.out.lt
  have HI6 := Lib.hid (HI5.out.keep hB6)
  clear hV6 hB6
  go_simp
  refine hK.out _ _ (hbk6) (fun hHeld2 => ?_)
  clear hK K hHeld
  have hHeld := hHeld2
  clear hHeld2
  ((try simp only [List.getElem_toArray, List.getElem_cons_succ, List.getElem_cons_zero]); (try simp only [Act.put, List.setIfInBounds_toArray, List.set_cons_zero, List.set_cons_succ]))
  refine wpAnyH_ready (rs := [4]) (by kernel_rfl) (by simp) ?_
  refine AllReadyH.cons rfl (fun K hK => ?_) AllReadyH.nil
  go_simp
  refine hK.out _ _ (hbk6) (fun hHeld2 => ?_)
  clear hK K hHeld
  have hHeld := hHeld2
  clear hHeld2
  ((try simp only [List.getElem_toArray, List.getElem_cons_succ, List.getElem_cons_zero]); (try simp only [Act.put, List.setIfInBounds_toArray, List.set_cons_zero, List.set_cons_succ]))
  refine wpAnyH_done (by kernel_rfl) ?_ _
  all_goals
    clear C1 CS HI HBK HB H5 HI5 HBK5 HB5 hHeld
    have hgl6 := hbk6.lt
    obtain ⟨z0, z1, z2, z3, z4, z5, z6, z7, z8, z9, z10, z11, z12, z13, z14, z15, z16, z17, z18, z19, z20⟩ := hbk6.rc
    clear hbk6
    cases V6
    · have HV : Hid (false = V) := by
        show _ = _
        cases V
        · rfl
        · exact absurd (HV6.out.2 (HX.out.2 rfl).1) (by decide)
      go_wp2
      go_ret
      exact ⟨by have hv := HV.out; subst hv; rfl, HB6.out⟩
    have HO : Hid (o = r) := HV6.out.1 rfl
    cases c0 : decide (r.bt ≥ 1)
    · have HV : Hid (false = V) := by
        show _ = _
        cases V
        · rfl
        · have q := (HX.out.2 rfl).2
          have c0' := of_decide_eq_false c0
          exact absurd q (by omega)
      go_wp2
      go_ret
      exact ⟨by have hv := HV.out; subst hv; rfl, HB6.out⟩
    have HV : Hid (true = V) := by
      have q := HX.out.1 ⟨HO.out, of_decide_eq_true c0⟩
      exact q.symm
    go_wp2
    go_ret
    exact ⟨by have hv := HV.out; subst hv; rfl, HB6.out⟩

set_option maxHeartbeats 8000000 in
theorem r13_May_2 (w : World) (r : Rc) (a : Ra) (hin : InR w r a) (_ : r.Wf) (hk : r.k = 2) :
    Calls Try.prog 44 #[recV r a] w fun e w' => e = .returned (.bool (decide r.May)) ∧ Below w.heap.size w w' := by
  have k1 : (r.k == 1) = false := by rw [hk]; rfl
  have k2 : (r.k == 2) = true := by rw [hk]; rfl
  have k3 : (r.k == 3) = false := by rw [hk]; rfl
  have k4 : (r.k == 4) = false := by rw [hk]; rfl
  have k5 : (r.k == 5) = false := by rw [hk]; rfl
  obtain ⟨V, hV⟩ : ∃ V, decide r.May = V := ⟨_, rfl⟩
  have HX : Hid ((r.only = r ∧ (1 ≤ r.tm ∧ 0 ≤ r.v ∧ r.v ≤ 7)) ↔ V = true) := by
    show _ ↔ _
    rw [← hV, decide_eq_true_iff]
    unfold Rc.May Rc.kind
    rw [hk]; simp
  rw [hV]
  clear hV hk
  have hoz := only_sh r
  have CO := fun W h => r13_only_any W r a h
  obtain ⟨o, ho⟩ : ∃ o, r.only = o := ⟨_, rfl⟩
  rw [ho] at HX hoz
  simp only [ho] at CO
  have CS := fun W a' h1 h2 => r13_SameRec_of W o r a' a h1 h2 hoz
  clear ho hoz
  unfold recV at CO CS
  have CO := Lib.hid CO
  have CS := Lib.hid CS
  obtain ⟨g, hg⟩ : ∃ g, w.heap.size = g := ⟨_, rfl⟩
  rw [hg]
  have hBx : Below g w (w.alloc (.cells (recC r a) 48)) := (Below.refl _ _).alloc (by omega) _
  have hb1 : Blk (w.alloc (.cells (recC r a) 48)) g 48 (recC r a) := hg ▸ Blk.new _ _ _
  have hI := hin.keep (hg ▸ hBx)
  clear hin
  unfold recV
  go_enter Try.func44, Try.ntmps44
  go_upto_region 1 with (fail)
  change Code.wp _ _ _ _ (w.alloc (.cells (recC r a) 48))
  generalize (w.alloc (.cells (recC r a) 48)) = W at hb1 hBx hI ⊢
  try rw [hg]
  have hgl : g < W.heap.size := hb1.lt
  have HI := Lib.hid (hI.keep ((Below.refl W.heap.size W).drew))
  have C1 := Lib.hid (CO.out W.drew HI.out)
  have HBK := Lib.hid hb1.drew
  have HB := Lib.hid hBx.drew
  clear hb1 hBx hI hg CO
  refine wp_region_held_drew (S := fun w' => Blk w' g 48 (recC r a)) (by kernel_rfl) HBK.out (fun hHeld => ?_)
  refine wpAnyH_take (i := 0) (v := .agg (recC r a)) rfl (by kernel_rfl) (by kernel_rfl) (by kernel_rfl) (fun _ _ _ h => h) (yields_row rfl 48 _ rfl g rfl 48 (recC r a) (fun _ h => h) _ Try.underlying48 rfl info_Rec) (by assumption) ?_
  ((try simp only [List.getElem_toArray, List.getElem_cons_zero]); (try simp only [Act.put, List.setIfInBounds_toArray, List.set_cons_zero, List.set_cons_succ]))
  refine wpAnyH_take (i := 2) (v := .agg (recC r a)) rfl (by kernel_rfl) (by kernel_rfl) (by kernel_rfl) (fun _ _ _ h => h) (yields_row rfl 48 _ rfl g rfl 48 (recC r a) (fun _ h => h) _ Try.underlying48 rfl info_Rec) (by assumption) ?_
  ((try simp only [List.getElem_toArray, List.getElem_cons_succ, List.getElem_cons_zero]); (try simp only [Act.put, List.setIfInBounds_toArray, List.set_cons_zero, List.set_cons_succ]))
  refine wpAnyH_ready (rs := [1]) (by kernel_rfl) (by simp) ?_
  refine AllReadyH.cons rfl (fun K hK => ?_) AllReadyH.nil
  go_simp
  refine C1.out.mono ?_
  rintro x w5 ⟨a5, rfl, h5, hB5⟩
  have H5 := Lib.hid h5
  have HI5 := Lib.hid (HI.out.keep hB5)
  have HBK5 := Lib.hid (HBK.out.below hB5 hgl)
  have HB5 := Lib.hid (HB.out.trans (hB5.mono (Nat.le_of_lt hgl)))
  clear h5 hB5
  go_simp
  refine hK.out _ _ (HBK5.out) (fun hHeld2 => ?_)
  clear hK K hHeld
  have hHeld := hHeld2
  clear hHeld2
  ((try simp only [List.getElem_toArray, List.getElem_cons_succ, List.getElem_cons_zero]); (try simp only [Act.put, List.setIfInBounds_toArray, List.set_cons_zero, List.set_cons_succ]))
  refine wpAnyH_ready (rs := [3]) (by kernel_rfl) (by simp) ?_
  refine AllReadyH.cons rfl (fun K hK => ?_) AllReadyH.nil
  go_simp
  refine (CS.out _ _ H5.out HI5.out).mono ?_
  rintro x w6 ⟨V6, rfl, hV6, hB6⟩
  have HB6 := Lib.hid (HB5.out.trans (hB6.mono (Nat.le_of_lt HBK5.out.lt)))
  have HV6 := Lib.hid hV6
  have hbk6 := HBK5.out.below hB6 HBK5.out.lt
  have HI6 := Lib.hid (HI5.out.keep hB6)
  clear hV6 hB6
  go_simp
  refine hK.out _ _ (hbk6) (fun hHeld2 => ?_)
  clear hK K hHeld
  have hHeld := hHeld2
  clear hHeld2
  ((try simp only [List.getElem_toArray, List.getElem_cons_succ, List.getElem_cons_zero]); (try simp only [Act.put, List.setIfInBounds_toArray, List.set_cons_zero, List.set_cons_succ]))
  refine wpAnyH_ready (rs := [4]) (by kernel_rfl) (by simp) ?_
  refine AllReadyH.cons rfl (fun K hK => ?_) AllReadyH.nil
  go_simp
  refine hK.out _ _ (hbk6) (fun hHeld2 => ?_)
  clear hK K hHeld
  have hHeld := hHeld2
  clear hHeld2
  ((try simp only [List.getElem_toArray, List.getElem_cons_succ, List.getElem_cons_zero]); (try simp only [Act.put, List.setIfInBounds_toArray, List.set_cons_zero, List.set_cons_succ]))
  refine wpAnyH_done (by kernel_rfl) ?_ _
  all_goals
    clear C1 CS HI HBK HB H5 HI5 HBK5 HB5 hHeld
    have hgl6 := hbk6.lt
    obtain ⟨z0, z1, z2, z3, z4, z5, z6, z7, z8, z9, z10, z11, z12, z13, z14, z15, z16, z17, z18, z19, z20⟩ := hbk6.rc
    clear hbk6
    cases V6
    · have HV : Hid (false = V) := by
        show _ = _
        cases V
        · rfl
        · exact absurd (HV6.out.2 (HX.out.2 rfl).1) (by decide)
      go_wp2
      go_ret
      exact ⟨by have hv := HV.out; subst hv; rfl, HB6.out⟩
    have HO : Hid (o = r) := HV6.out.1 rfl
    cases c0 : decide (r.tm ≥ 1)
    · have HV : Hid (false = V) := by
        show _ = _
        cases V
        · rfl
        · have q := (HX.out.2 rfl).2
          have c0' := of_decide_eq_false c0
          exact absurd q (by omega)
      go_wp2
      go_ret
      exact ⟨by have hv := HV.out; subst hv; rfl, HB6.out⟩
    cases c1 : decide (r.v ≥ 0)
    · have HV : Hid (false = V) := by
        show _ = _
        cases V
        · rfl
        · have q := (HX.out.2 rfl).2
          have c1' := of_decide_eq_false c1
          exact absurd q (by omega)
      go_wp2
      go_ret
      exact ⟨by have hv := HV.out; subst hv; rfl, HB6.out⟩
    cases c2 : decide (r.v ≤ 7)
    · have HV : Hid (false = V) := by
        show _ = _
        cases V
        · rfl
        · have q := (HX.out.2 rfl).2
          have c2' := of_decide_eq_false c2
          exact absurd q (by omega)
      go_wp2
      go_ret
      exact ⟨by have hv := HV.out; subst hv; rfl, HB6.out⟩
    have HV : Hid (true = V) := by
      have q := HX.out.1 ⟨HO.out, of_decide_eq_true c0, of_decide_eq_true c1, of_decide_eq_true c2⟩
      exact q.symm
    go_wp2
    go_ret
    exact ⟨by have hv := HV.out; subst hv; rfl, HB6.out⟩

set_option maxHeartbeats 8000000 in
theorem r13_May_3 (w : World) (r : Rc) (a : Ra) (hin : InR w r a) (wf : r.Wf) (hk : r.k = 3) :
    Calls Try.prog 44 #[recV r a] w fun e w' => e = .returned (.bool (decide r.May)) ∧ Below w.heap.size w w' := by
  have k1 : (r.k == 1) = false := by rw [hk]; rfl
  have k2 : (r.k == 2) = false := by rw [hk]; rfl
  have k3 : (r.k == 3) = true := by rw [hk]; rfl
  have k4 : (r.k == 4) = false := by rw [hk]; rfl
  have k5 : (r.k == 5) = false := by rw [hk]; rfl
  obtain ⟨V, hV⟩ : ∃ V, decide r.May = V := ⟨_, rfl⟩
  have HX : Hid ((r.only = r ∧ (1 ≤ r.ix ∧ 1 ≤ r.en.tm ∧ r.en.ok = true)) ↔ V = true) := by
    show _ ↔ _
    rw [← hV, decide_eq_true_iff]
    unfold Rc.May Rc.kind
    rw [hk]; simp
  rw [hV]
  clear hV hk
  have hoz := only_sh r
  have CO := fun W h => r13_only_any W r a h
  obtain ⟨o, ho⟩ : ∃ o, r.only = o := ⟨_, rfl⟩
  rw [ho] at HX hoz
  simp only [ho] at CO
  have CS := fun W a' h1 h2 => r13_SameRec_of W o r a' a h1 h2 hoz
  clear ho hoz
  have hce := codeOk_eq r.en.k r.en.n r.en.t r.en.l r.en.b r.en.q r.en.s r.en.m wf.en.b wf.en.q wf.en.s wf.en.m
  have CC := fun W h => ref_Check_any W r.en.k r.en.n r.en.t a.A a.c r.en.l r.en.b r.en.q r.en.s r.en.m h wf.en.n wf.en.t
  rw [← hce] at CC
  unfold cmdV at CC
  obtain ⟨ok, hok⟩ : ∃ ok, r.en.ok = ok := ⟨_, rfl⟩
  have hok2 : codeOk r.en.k r.en.n r.en.t r.en.l r.en.b r.en.q r.en.s r.en.m = ok := hok
  rw [hok2] at CC
  rw [hok] at HX
  have CC := Lib.hid CC
  clear hce hok hok2
  unfold recV at CO CS
  have CO := Lib.hid CO
  have CS := Lib.hid CS
  obtain ⟨g, hg⟩ : ∃ g, w.heap.size = g := ⟨_, rfl⟩
  rw [hg]
  have hBx : Below g w (w.alloc (.cells (recC r a) 48)) := (Below.refl _ _).alloc (by omega) _
  have hb1 : Blk (w.alloc (.cells (recC r a) 48)) g 48 (recC r a) := hg ▸ Blk.new _ _ _
  have hI := hin.keep (hg ▸ hBx)
  clear hin
  unfold recV
  go_enter Try.func44, Try.ntmps44
  go_upto_region 1 with (fail)
  change Code.wp _ _ _ _ (w.alloc (.cells (recC r a) 48))
  generalize (w.alloc (.cells (recC r a) 48)) = W at hb1 hBx hI ⊢
  try rw [hg]
  have hgl : g < W.heap.size := hb1.lt
  have HI := Lib.hid (hI.keep ((Below.refl W.heap.size W).drew))
  have C1 := Lib.hid (CO.out W.drew HI.out)
  have HBK := Lib.hid hb1.drew
  have HB := Lib.hid hBx.drew
  clear hb1 hBx hI hg CO
  refine wp_region_held_drew (S := fun w' => Blk w' g 48 (recC r a)) (by kernel_rfl) HBK.out (fun hHeld => ?_)
  refine wpAnyH_take (i := 0) (v := .agg (recC r a)) rfl (by kernel_rfl) (by kernel_rfl) (by kernel_rfl) (fun _ _ _ h => h) (yields_row rfl 48 _ rfl g rfl 48 (recC r a) (fun _ h => h) _ Try.underlying48 rfl info_Rec) (by assumption) ?_
  ((try simp only [List.getElem_toArray, List.getElem_cons_zero]); (try simp only [Act.put, List.setIfInBounds_toArray, List.set_cons_zero, List.set_cons_succ]))
  refine wpAnyH_take (i := 2) (v := .agg (recC r a)) rfl (by kernel_rfl) (by kernel_rfl) (by kernel_rfl) (fun _ _ _ h => h) (yields_row rfl 48 _ rfl g rfl 48 (recC r a) (fun _ h => h) _ Try.underlying48 rfl info_Rec) (by assumption) ?_
  ((try simp only [List.getElem_toArray, List.getElem_cons_succ, List.getElem_cons_zero]); (try simp only [Act.put, List.setIfInBounds_toArray, List.set_cons_zero, List.set_cons_succ]))
  refine wpAnyH_ready (rs := [1]) (by kernel_rfl) (by simp) ?_
  refine AllReadyH.cons rfl (fun K hK => ?_) AllReadyH.nil
  go_simp
  refine C1.out.mono ?_
  rintro x w5 ⟨a5, rfl, h5, hB5⟩
  have H5 := Lib.hid h5
  have HI5 := Lib.hid (HI.out.keep hB5)
  have HBK5 := Lib.hid (HBK.out.below hB5 hgl)
  have HB5 := Lib.hid (HB.out.trans (hB5.mono (Nat.le_of_lt hgl)))
  clear h5 hB5
  go_simp
  refine hK.out _ _ (HBK5.out) (fun hHeld2 => ?_)
  clear hK K hHeld
  have hHeld := hHeld2
  clear hHeld2
  ((try simp only [List.getElem_toArray, List.getElem_cons_succ, List.getElem_cons_zero]); (try simp only [Act.put, List.setIfInBounds_toArray, List.set_cons_zero, List.set_cons_succ]))
  refine wpAnyH_ready (rs := [3]) (by kernel_rfl) (by simp) ?_
  refine AllReadyH.cons rfl (fun K hK => ?_) AllReadyH.nil
  go_simp
  refine (CS.out _ _ H5.out HI5.out).mono ?_
  rintro x w6 ⟨V6, rfl, hV6, hB6⟩
  have HB6 := Lib.hid (HB5.out.trans (hB6.mono (Nat.le_of_lt HBK5.out.lt)))
  have HV6 := Lib.hid hV6
  have hbk6 := HBK5.out.below hB6 HBK5.out.lt
  have HI6 := Lib.hid (HI5.out.keep hB6)
  clear hV6 hB6
  go_simp
  refine hK.out _ _ (hbk6) (fun hHeld2 => ?_)
  clear hK K hHeld
  have hHeld := hHeld2
  clear hHeld2
  ((try simp only [List.getElem_toArray, List.getElem_cons_succ, List.getElem_cons_zero]); (try simp only [Act.put, List.setIfInBounds_toArray, List.set_cons_zero, List.set_cons_succ]))
  refine wpAnyH_ready (rs := [4]) (by kernel_rfl) (by simp) ?_
  refine AllReadyH.cons rfl (fun K hK => ?_) AllReadyH.nil
  go_simp
  refine hK.out _ _ (hbk6) (fun hHeld2 => ?_)
  clear hK K hHeld
  have hHeld := hHeld2
  clear hHeld2
  ((try simp only [List.getElem_toArray, List.getElem_cons_succ, List.getElem_cons_zero]); (try simp only [Act.put, List.setIfInBounds_toArray, List.set_cons_zero, List.set_cons_succ]))
  refine wpAnyH_done (by kernel_rfl) ?_ _
  all_goals
    clear C1 CS HI HBK HB H5 HI5 HBK5 HB5 hHeld
    have hgl6 := hbk6.lt
    obtain ⟨z0, z1, z2, z3, z4, z5, z6, z7, z8, z9, z10, z11, z12, z13, z14, z15, z16, z17, z18, z19, z20⟩ := hbk6.rc
    clear hbk6
    cases V6
    · have HV : Hid (false = V) := by
        show _ = _
        cases V
        · rfl
        · exact absurd (HV6.out.2 (HX.out.2 rfl).1) (by decide)
      go_wp2
      go_ret
      exact ⟨by have hv := HV.out; subst hv; rfl, HB6.out⟩
    have HO : Hid (o = r) := HV6.out.1 rfl
    cases c0 : decide (r.ix ≥ 1)
    · have HV : Hid (false = V) := by
        show _ = _
        cases V
        · rfl
        · have q := (HX.out.2 rfl).2
          have c0' := of_decide_eq_false c0
          exact absurd q (by omega)
      go_wp2
      go_ret
      exact ⟨by have hv := HV.out; subst hv; rfl, HB6.out⟩
    cases c1 : decide (r.en.tm ≥ 1)
    · have HV : Hid (false = V) := by
        show _ = _
        cases V
        · rfl
        · have q := (HX.out.2 rfl).2
          have c1' := of_decide_eq_false c1
          exact absurd q (by omega)
      go_wp2
      go_ret
      exact ⟨by have hv := HV.out; subst hv; rfl, HB6.out⟩
    have C5 := CC.out _ HI6.out.l
    cases ok
    · have HV : Hid (false = V) := by
        show _ = _
        cases V
        · rfl
        · exact absurd (HX.out.2 rfl).2 (by simp)
      rw [show errCmd false = 40 from rfl] at C5
      have C5 := Lib.hid C5
      go_wp2_with fail
      refine C5.out.mono ?_
      rintro e w7 ⟨rfl, hB7⟩
      have HB7 := Lib.hid (HB6.out.trans (hB7.mono (Nat.le_of_lt hgl6)))
      clear hB7 z0 z1 z2 z3 z4 z5 z6 z7 z8 z9 z10 z11 z12 z13 z14 z15 z16 z17 z18 z19 z20
      go_wp2
      go_ret
      exact ⟨by have hv := HV.out; subst hv; rfl, HB7.out⟩
    · have HV : Hid (true = V) := (HX.out.1 ⟨HO.out, of_decide_eq_true c0, of_decide_eq_true c1, rfl⟩).symm
      rw [show errCmd true = 0 from rfl] at C5
      have C5 := Lib.hid C5
      go_wp2_with fail
      refine C5.out.mono ?_
      rintro e w7 ⟨rfl, hB7⟩
      have HB7 := Lib.hid (HB6.out.trans (hB7.mono (Nat.le_of_lt hgl6)))
      clear hB7 z0 z1 z2 z3 z4 z5 z6 z7 z8 z9 z10 z11 z12 z13 z14 z15 z16 z17 z18 z19 z20
      go_wp2
      go_ret
      exact ⟨by have hv := HV.out; subst hv; rfl, HB7.out⟩

set_option maxHeartbeats 8000000 in
theorem r13_May_4 (w : World) (r : Rc) (a : Ra) (hin : InR w r a) (_ : r.Wf) (hk : r.k = 4) :
    Calls Try.prog 44 #[recV r a] w fun e w' => e = .returned (.bool (decide r.May)) ∧ Below w.heap.size w w' := by
  have k1 : (r.k == 1) = false := by rw [hk]; rfl
  have k2 : (r.k == 2) = false := by rw [hk]; rfl
  have k3 : (r.k == 3) = false := by rw [hk]; rfl
  have k4 : (r.k == 4) = true := by rw [hk]; rfl
  have k5 : (r.k == 5) = false := by rw [hk]; rfl
  obtain ⟨V, hV⟩ : ∃ V, decide r.May = V := ⟨_, rfl⟩
  have HX : Hid ((r.only = r ∧ (1 ≤ r.ix)) ↔ V = true) := by
    show _ ↔ _
    rw [← hV, decide_eq_true_iff]
    unfold Rc.May Rc.kind
    rw [hk]; simp
  rw [hV]
  clear hV hk
  have hoz := only_sh r
  have CO := fun W h => r13_only_any W r a h
  obtain ⟨o, ho⟩ : ∃ o, r.only = o := ⟨_, rfl⟩
  rw [ho] at HX hoz
  simp only [ho] at CO
  have CS := fun W a' h1 h2 => r13_SameRec_of W o r a' a h1 h2 hoz
  clear ho hoz
  unfold recV at CO CS
  have CO := Lib.hid CO
  have CS := Lib.hid CS
  obtain ⟨g, hg⟩ : ∃ g, w.heap.size = g := ⟨_, rfl⟩
  rw [hg]
  have hBx : Below g w (w.alloc (.cells (recC r a) 48)) := (Below.refl _ _).alloc (by omega) _
  have hb1 : Blk (w.alloc (.cells (recC r a) 48)) g 48 (recC r a) := hg ▸ Blk.new _ _ _
  have hI := hin.keep (hg ▸ hBx)
  clear hin
  unfold recV
  go_enter Try.func44, Try.ntmps44
  go_upto_region 1 with (fail)
  change Code.wp _ _ _ _ (w.alloc (.cells (recC r a) 48))
  generalize (w.alloc (.cells (recC r a) 48)) = W at hb1 hBx hI ⊢
  try rw [hg]
  have hgl : g < W.heap.size := hb1.lt
  have HI := Lib.hid (hI.keep ((Below.refl W.heap.size W).drew))
  have C1 := Lib.hid (CO.out W.drew HI.out)
  have HBK := Lib.hid hb1.drew
  have HB := Lib.hid hBx.drew
  clear hb1 hBx hI hg CO
  refine wp_region_held_drew (S := fun w' => Blk w' g 48 (recC r a)) (by kernel_rfl) HBK.out (fun hHeld => ?_)
  refine wpAnyH_take (i := 0) (v := .agg (recC r a)) rfl (by kernel_rfl) (by kernel_rfl) (by kernel_rfl) (fun _ _ _ h => h) (yields_row rfl 48 _ rfl g rfl 48 (recC r a) (fun _ h => h) _ Try.underlying48 rfl info_Rec) (by assumption) ?_
  ((try simp only [List.getElem_toArray, List.getElem_cons_zero]); (try simp only [Act.put, List.setIfInBounds_toArray, List.set_cons_zero, List.set_cons_succ]))
  refine wpAnyH_take (i := 2) (v := .agg (recC r a)) rfl (by kernel_rfl) (by kernel_rfl) (by kernel_rfl) (fun _ _ _ h => h) (yields_row rfl 48 _ rfl g rfl 48 (recC r a) (fun _ h => h) _ Try.underlying48 rfl info_Rec) (by assumption) ?_
  ((try simp only [List.getElem_toArray, List.getElem_cons_succ, List.getElem_cons_zero]); (try simp only [Act.put, List.setIfInBounds_toArray, List.set_cons_zero, List.set_cons_succ]))
  refine wpAnyH_ready (rs := [1]) (by kernel_rfl) (by simp) ?_
  refine AllReadyH.cons rfl (fun K hK => ?_) AllReadyH.nil
  go_simp
  refine C1.out.mono ?_
  rintro x w5 ⟨a5, rfl, h5, hB5⟩
  have H5 := Lib.hid h5
  have HI5 := Lib.hid (HI.out.keep hB5)
  have HBK5 := Lib.hid (HBK.out.below hB5 hgl)
  have HB5 := Lib.hid (HB.out.trans (hB5.mono (Nat.le_of_lt hgl)))
  clear h5 hB5
  go_simp
  refine hK.out _ _ (HBK5.out) (fun hHeld2 => ?_)
  clear hK K hHeld
  have hHeld := hHeld2
  clear hHeld2
  ((try simp only [List.getElem_toArray, List.getElem_cons_succ, List.getElem_cons_zero]); (try simp only [Act.put, List.setIfInBounds_toArray, List.set_cons_zero, List.set_cons_succ]))
  refine wpAnyH_ready (rs := [3]) (by kernel_rfl) (by simp) ?_
  refine AllReadyH.cons rfl (fun K hK => ?_) AllReadyH.nil
  go_simp
  refine (CS.out _ _ H5.out HI5.out).mono ?_
  rintro x w6 ⟨V6, rfl, hV6, hB6⟩
  have HB6 := Lib.hid (HB5.out.trans (hB6.mono (Nat.le_of_lt HBK5.out.lt)))
  have HV6 := Lib.hid hV6
  have hbk6 := HBK5.out.below hB6 HBK5.out.lt
  have HI6 := Lib.hid (HI5.out.keep hB6)
  clear hV6 hB6
  go_simp
  refine hK.out _ _ (hbk6) (fun hHeld2 => ?_)
  clear hK K hHeld
  have hHeld := hHeld2
  clear hHeld2
  ((try simp only [List.getElem_toArray, List.getElem_cons_succ, List.getElem_cons_zero]); (try simp only [Act.put, List.setIfInBounds_toArray, List.set_cons_zero, List.set_cons_succ]))
  refine wpAnyH_ready (rs := [4]) (by kernel_rfl) (by simp) ?_
  refine AllReadyH.cons rfl (fun K hK => ?_) AllReadyH.nil
  go_simp
  refine hK.out _ _ (hbk6) (fun hHeld2 => ?_)
  clear hK K hHeld
  have hHeld := hHeld2
  clear hHeld2
  ((try simp only [List.getElem_toArray, List.getElem_cons_succ, List.getElem_cons_zero]); (try simp only [Act.put, List.setIfInBounds_toArray, List.set_cons_zero, List.set_cons_succ]))
  refine wpAnyH_done (by kernel_rfl) ?_ _
  all_goals
    clear C1 CS HI HBK HB H5 HI5 HBK5 HB5 hHeld
    have hgl6 := hbk6.lt
    obtain ⟨z0, z1, z2, z3, z4, z5, z6, z7, z8, z9, z10, z11, z12, z13, z14, z15, z16, z17, z18, z19, z20⟩ := hbk6.rc
    clear hbk6
    cases V6
    · have HV : Hid (false = V) := by
        show _ = _
        cases V
        · rfl
        · exact absurd (HV6.out.2 (HX.out.2 rfl).1) (by decide)
      go_wp2
      go_ret
      exact ⟨by have hv := HV.out; subst hv; rfl, HB6.out⟩
    have HO : Hid (o = r) := HV6.out.1 rfl
    cases c0 : decide (r.ix ≥ 1)
    · have HV : Hid (false = V) := by
        show _ = _
        cases V
        · rfl
        · have q := (HX.out.2 rfl).2
          have c0' := of_decide_eq_false c0
          exact absurd q (by omega)
      go_wp2
      go_ret
      exact ⟨by have hv := HV.out; subst hv; rfl, HB6.out⟩
    have HV : Hid (true = V) := by
      have q := HX.out.1 ⟨HO.out, of_decide_eq_true c0⟩
      exact q.symm
    go_wp2
    go_ret
    exact ⟨by have hv := HV.out; subst hv; rfl, HB6.out⟩

set_option maxHeartbeats 8000000 in
theorem r13_May_5 (w : World) (r : Rc) (a : Ra) (hin : InR w r a) (_ : r.Wf) (hk : r.k = 5) :
    Calls Try.prog 44 #[recV r a] w fun e w' => e = .returned (.bool (decide r.May)) ∧ Below w.heap.size w w' := by
  have k1 : (r.k == 1) = false := by rw [hk]; rfl
  have k2 : (r.k == 2) = false := by rw [hk]; rfl
  have k3 : (r.k == 3) = false := by rw [hk]; rfl
  have k4 : (r.k == 4) = false := by rw [hk]; rfl
  have k5 : (r.k == 5) = true := by rw [hk]; rfl
  obtain ⟨V, hV⟩ : ∃ V, decide r.May = V := ⟨_, rfl⟩
  have HX : Hid ((r.only = r ∧ (r.sh.Ok)) ↔ V = true) := by
    show _ ↔ _
    rw [← hV, decide_eq_true_iff]
    unfold Rc.May Rc.kind
    rw [hk]; simp
  rw [hV]
  clear hV hk
  have hoz := only_sh r
  have CO := fun W h => r13_only_any W r a h
  obtain ⟨o, ho⟩ : ∃ o, r.only = o := ⟨_, rfl⟩
  rw [ho] at HX hoz
  simp only [ho] at CO
  have CS := fun W a' h1 h2 => r13_SameRec_of W o r a' a h1 h2 hoz
  clear ho hoz
  have CC := fun W (h : InSh W r.sh a.s) => r06_Check_any W r.sh.i r.sh.t a.s.A0 a.s.c0 r.sh.ns r.sh.lim r.sh.nxt a.s.A1 a.s.c1 r.sh.hs a.s.A2 a.s.c2 r.sh.ls h.n h.h h.l
  unfold shV at CC
  obtain ⟨ok, hok⟩ : ∃ ok, decide r.sh.Ok = ok := ⟨_, rfl⟩
  have hok2 : decide (ShotOk r.sh.i r.sh.t r.sh.ns r.sh.lim r.sh.nxt r.sh.hs r.sh.ls) = ok := hok
  simp only [hok2] at CC
  have hok3 : r.sh.Ok ↔ ok = true := by rw [← hok, decide_eq_true_iff]
  rw [hok3] at HX
  have CC := Lib.hid CC
  clear hok hok2 hok3
  unfold recV at CO CS
  have CO := Lib.hid CO
  have CS := Lib.hid CS
  obtain ⟨g, hg⟩ : ∃ g, w.heap.size = g := ⟨_, rfl⟩
  rw [hg]
  have hBx : Below g w (w.alloc (.cells (recC r a) 48)) := (Below.refl _ _).alloc (by omega) _
  have hb1 : Blk (w.alloc (.cells (recC r a) 48)) g 48 (recC r a) := hg ▸ Blk.new _ _ _
  have hI := hin.keep (hg ▸ hBx)
  clear hin
  unfold recV
  go_enter Try.func44, Try.ntmps44
  go_upto_region 1 with (fail)
  change Code.wp _ _ _ _ (w.alloc (.cells (recC r a) 48))
  generalize (w.alloc (.cells (recC r a) 48)) = W at hb1 hBx hI ⊢
  try rw [hg]
  have hgl : g < W.heap.size := hb1.lt
  have HI := Lib.hid (hI.keep ((Below.refl W.heap.size W).drew))
  have C1 := Lib.hid (CO.out W.drew HI.out)
  have HBK := Lib.hid hb1.drew
  have HB := Lib.hid hBx.drew
  clear hb1 hBx hI hg CO
  refine wp_region_held_drew (S := fun w' => Blk w' g 48 (recC r a)) (by kernel_rfl) HBK.out (fun hHeld => ?_)
  refine wpAnyH_take (i := 0) (v := .agg (recC r a)) rfl (by kernel_rfl) (by kernel_rfl) (by kernel_rfl) (fun _ _ _ h => h) (yields_row rfl 48 _ rfl g rfl 48 (recC r a) (fun _ h => h) _ Try.underlying48 rfl info_Rec) (by assumption) ?_
  ((try simp only [List.getElem_toArray, List.getElem_cons_zero]); (try simp only [Act.put, List.setIfInBounds_toArray, List.set_cons_zero, List.set_cons_succ]))
  refine wpAnyH_take (i := 2) (v := .agg (recC r a)) rfl (by kernel_rfl) (by kernel_rfl) (by kernel_rfl) (fun _ _ _ h => h) (yields_row rfl 48 _ rfl g rfl 48 (recC r a) (fun _ h => h) _ Try.underlying48 rfl info_Rec) (by assumption) ?_
  ((try simp only [List.getElem_toArray, List.getElem_cons_succ, List.getElem_cons_zero]); (try simp only [Act.put, List.setIfInBounds_toArray, List.set_cons_zero, List.set_cons_succ]))
  refine wpAnyH_ready (rs := [1]) (by kernel_rfl) (by simp) ?_
  refine AllReadyH.cons rfl (fun K hK => ?_) AllReadyH.nil
  go_simp
  refine C1.out.mono ?_
  rintro x w5 ⟨a5, rfl, h5, hB5⟩
  have H5 := Lib.hid h5
  have HI5 := Lib.hid (HI.out.keep hB5)
  have HBK5 := Lib.hid (HBK.out.below hB5 hgl)
  have HB5 := Lib.hid (HB.out.trans (hB5.mono (Nat.le_of_lt hgl)))
  clear h5 hB5
  go_simp
  refine hK.out _ _ (HBK5.out) (fun hHeld2 => ?_)
  clear hK K hHeld
  have hHeld := hHeld2
  clear hHeld2
  ((try simp only [List.getElem_toArray, List.getElem_cons_succ, List.getElem_cons_zero]); (try simp only [Act.put, List.setIfInBounds_toArray, List.set_cons_zero, List.set_cons_succ]))
  refine wpAnyH_ready (rs := [3]) (by kernel_rfl) (by simp) ?_
  refine AllReadyH.cons rfl (fun K hK => ?_) AllReadyH.nil
  go_simp
  refine (CS.out _ _ H5.out HI5.out).mono ?_
  rintro x w6 ⟨V6, rfl, hV6, hB6⟩
  have HB6 := Lib.hid (HB5.out.trans (hB6.mono (Nat.le_of_lt HBK5.out.lt)))
  have HV6 := Lib.hid hV6
  have hbk6 := HBK5.out.below hB6 HBK5.out.lt
  have HI6 := Lib.hid (HI5.out.keep hB6)
  clear hV6 hB6
  go_simp
  refine hK.out _ _ (hbk6) (fun hHeld2 => ?_)
  clear hK K hHeld
  have hHeld := hHeld2
  clear hHeld2
  ((try simp only [List.getElem_toArray, List.getElem_cons_succ, List.getElem_cons_zero]); (try simp only [Act.put, List.setIfInBounds_toArray, List.set_cons_zero, List.set_cons_succ]))
  refine wpAnyH_ready (rs := [4]) (by kernel_rfl) (by simp) ?_
  refine AllReadyH.cons rfl (fun K hK => ?_) AllReadyH.nil
  go_simp
  refine hK.out _ _ (hbk6) (fun hHeld2 => ?_)
  clear hK K hHeld
  have hHeld := hHeld2
  clear hHeld2
  ((try simp only [List.getElem_toArray, List.getElem_cons_succ, List.getElem_cons_zero]); (try simp only [Act.put, List.setIfInBounds_toArray, List.set_cons_zero, List.set_cons_succ]))
  refine wpAnyH_done (by kernel_rfl) ?_ _
  all_goals
    clear C1 CS HI HBK HB H5 HI5 HBK5 HB5 hHeld
    have hgl6 := hbk6.lt
    obtain ⟨z0, z1, z2, z3, z4, z5, z6, z7, z8, z9, z10, z11, z12, z13, z14, z15, z16, z17, z18, z19, z20⟩ := hbk6.rc
    clear hbk6
    cases V6
    · have HV : Hid (false = V) := by
        show _ = _
        cases V
        · rfl
        · exact absurd (HV6.out.2 (HX.out.2 rfl).1) (by decide)
      go_wp2
      go_ret
      exact ⟨by have hv := HV.out; subst hv; rfl, HB6.out⟩
    have HO : Hid (o = r) := HV6.out.1 rfl
    have C5 := CC.out _ HI6.out.sh
    cases ok
    · have HV : Hid (false = V) := by
        show _ = _
        cases V
        · rfl
        · exact absurd (HX.out.2 rfl).2 (by simp)
      rw [show errShot false = 60 from rfl] at C5
      have C5 := Lib.hid C5
      go_wp2_with fail
      refine C5.out.mono ?_
      rintro e w7 ⟨rfl, hB7⟩
      have HB7 := Lib.hid (HB6.out.trans (hB7.mono (Nat.le_of_lt hgl6)))
      clear hB7 z0 z1 z2 z3 z4 z5 z6 z7 z8 z9 z10 z11 z12 z13 z14 z15 z16 z17 z18 z19 z20
      go_wp2
      go_ret
      exact ⟨by have hv := HV.out; subst hv; rfl, HB7.out⟩
    · have HV : Hid (true = V) := (HX.out.1 ⟨HO.out, rfl⟩).symm
      rw [show errShot true = 0 from rfl] at C5
      have C5 := Lib.hid C5
      go_wp2_with fail
      refine C5.out.mono ?_
      rintro e w7 ⟨rfl, hB7⟩
      have HB7 := Lib.hid (HB6.out.trans (hB7.mono (Nat.le_of_lt hgl6)))
      clear hB7 z0 z1 z2 z3 z4 z5 z6 z7 z8 z9 z10 z11 z12 z13 z14 z15 z16 z17 z18 z19 z20
      go_wp2
      go_ret
      exact ⟨by have hv := HV.out; subst hv; rfl, HB7.out⟩

set_option maxHeartbeats 8000000 in
theorem r13_May_n (w : World) (r : Rc) (a : Ra) (hin : InR w r a) (_ : r.Wf) (h1 : r.k ≠ 1) (h2 : r.k ≠ 2) (h3 : r.k ≠ 3) (h4 : r.k ≠ 4) (h5 : r.k ≠ 5) :
    Calls Try.prog 44 #[recV r a] w fun e w' => e = .returned (.bool (decide r.May)) ∧ Below w.heap.size w w' := by
  have k1 : (r.k == 1) = false := beq_eq_false_iff_ne.2 h1
  have k2 : (r.k == 2) = false := beq_eq_false_iff_ne.2 h2
  have k3 : (r.k == 3) = false := beq_eq_false_iff_ne.2 h3
  have k4 : (r.k == 4) = false := beq_eq_false_iff_ne.2 h4
  have k5 : (r.k == 5) = false := beq_eq_false_iff_ne.2 h5
  obtain ⟨V, hV⟩ : ∃ V, decide r.May = V := ⟨_, rfl⟩
  have HX : Hid ((r.only = r ∧ (False)) ↔ V = true) := by
    show _ ↔ _
    rw [← hV, decide_eq_true_iff]
    unfold Rc.May Rc.kind
    simp [h1, h2, h3, h4, h5]
  rw [hV]
  clear hV h1 h2 h3 h4 h5
  have hoz := only_sh r
  have CO := fun W h => r13_only_any W r a h
  obtain ⟨o, ho⟩ : ∃ o, r.only = o := ⟨_, rfl⟩
  rw [ho] at HX hoz
  simp only [ho] at CO
  have CS := fun W a' h1 h2 => r13_SameRec_of W o r a' a h1 h2 hoz
  clear ho hoz
  unfold recV at CO CS
  have CO := Lib.hid CO
  have CS := Lib.hid CS
  obtain ⟨g, hg⟩ : ∃ g, w.heap.size = g := ⟨_, rfl⟩
  rw [hg]
  have hBx : Below g w (w.alloc (.cells (recC r a) 48)) := (Below.refl _ _).alloc (by omega) _
  have hb1 : Blk (w.alloc (.cells (recC r a) 48)) g 48 (recC r a) := hg ▸ Blk.new _ _ _
  have hI := hin.keep (hg ▸ hBx)
  clear hin
  unfold recV
  go_enter Try.func44, Try.ntmps44
  go_upto_region 1 with (fail)
  change Code.wp _ _ _ _ (w.alloc (.cells (recC r a) 48))
  generalize (w.alloc (.cells (recC r a) 48)) = W at hb1 hBx hI ⊢
  try rw [hg]
  have hgl : g < W.heap.size := hb1.lt
  have HI := Lib.hid (hI.keep ((Below.refl W.heap.size W).drew))
  have C1 := Lib.hid (CO.out W.drew HI.out)
  have HBK := Lib.hid hb1.drew
  have HB := Lib.hid hBx.drew
  clear hb1 hBx hI hg CO
  refine wp_region_held_drew (S := fun w' => Blk w' g 48 (recC r a)) (by kernel_rfl) HBK.out (fun hHeld => ?_)
  refine wpAnyH_take (i := 0) (v := .agg (recC r a)) rfl (by kernel_rfl) (by kernel_rfl) (by kernel_rfl) (fun _ _ _ h => h) (yields_row rfl 48 _ rfl g rfl 48 (recC r a) (fun _ h => h) _ Try.underlying48 rfl info_Rec) (by assumption) ?_
  ((try simp only [List.getElem_toArray, List.getElem_cons_zero]); (try simp only [Act.put, List.setIfInBounds_toArray, List.set_cons_zero, List.set_cons_succ]))
  refine wpAnyH_take (i := 2) (v := .agg (recC r a)) rfl (by kernel_rfl) (by kernel_rfl) (by kernel_rfl) (fun _ _ _ h => h) (yields_row rfl 48 _ rfl g rfl 48 (recC r a) (fun _ h => h) _ Try.underlying48 rfl info_Rec) (by assumption) ?_
  ((try simp only [List.getElem_toArray, List.getElem_cons_succ, List.getElem_cons_zero]); (try simp only [Act.put, List.setIfInBounds_toArray, List.set_cons_zero, List.set_cons_succ]))
  refine wpAnyH_ready (rs := [1]) (by kernel_rfl) (by simp) ?_
  refine AllReadyH.cons rfl (fun K hK => ?_) AllReadyH.nil
  go_simp
  refine C1.out.mono ?_
  rintro x w5 ⟨a5, rfl, h5, hB5⟩
  have H5 := Lib.hid h5
  have HI5 := Lib.hid (HI.out.keep hB5)
  have HBK5 := Lib.hid (HBK.out.below hB5 hgl)
  have HB5 := Lib.hid (HB.out.trans (hB5.mono (Nat.le_of_lt hgl)))
  clear h5 hB5
  go_simp
  refine hK.out _ _ (HBK5.out) (fun hHeld2 => ?_)
  clear hK K hHeld
  have hHeld := hHeld2
  clear hHeld2
  ((try simp only [List.getElem_toArray, List.getElem_cons_succ, List.getElem_cons_zero]); (try simp only [Act.put, List.setIfInBounds_toArray, List.set_cons_zero, List.set_cons_succ]))
  refine wpAnyH_ready (rs := [3]) (by kernel_rfl) (by simp) ?_
  refine AllReadyH.cons rfl (fun K hK => ?_) AllReadyH.nil
  go_simp
  refine (CS.out _ _ H5.out HI5.out).mono ?_
  rintro x w6 ⟨V6, rfl, hV6, hB6⟩
  have HB6 := Lib.hid (HB5.out.trans (hB6.mono (Nat.le_of_lt HBK5.out.lt)))
  have HV6 := Lib.hid hV6
  have hbk6 := HBK5.out.below hB6 HBK5.out.lt
  have HI6 := Lib.hid (HI5.out.keep hB6)
  clear hV6 hB6
  go_simp
  refine hK.out _ _ (hbk6) (fun hHeld2 => ?_)
  clear hK K hHeld
  have hHeld := hHeld2
  clear hHeld2
  ((try simp only [List.getElem_toArray, List.getElem_cons_succ, List.getElem_cons_zero]); (try simp only [Act.put, List.setIfInBounds_toArray, List.set_cons_zero, List.set_cons_succ]))
  refine wpAnyH_ready (rs := [4]) (by kernel_rfl) (by simp) ?_
  refine AllReadyH.cons rfl (fun K hK => ?_) AllReadyH.nil
  go_simp
  refine hK.out _ _ (hbk6) (fun hHeld2 => ?_)
  clear hK K hHeld
  have hHeld := hHeld2
  clear hHeld2
  ((try simp only [List.getElem_toArray, List.getElem_cons_succ, List.getElem_cons_zero]); (try simp only [Act.put, List.setIfInBounds_toArray, List.set_cons_zero, List.set_cons_succ]))
  refine wpAnyH_done (by kernel_rfl) ?_ _
  all_goals
    clear C1 CS HI HBK HB H5 HI5 HBK5 HB5 hHeld
    have hgl6 := hbk6.lt
    obtain ⟨z0, z1, z2, z3, z4, z5, z6, z7, z8, z9, z10, z11, z12, z13, z14, z15, z16, z17, z18, z19, z20⟩ := hbk6.rc
    clear hbk6
    cases V6
    · have HV : Hid (false = V) := by
        show _ = _
        cases V
        · rfl
        · exact absurd (HV6.out.2 (HX.out.2 rfl).1) (by decide)
      go_wp2
      go_ret
      exact ⟨by have hv := HV.out; subst hv; rfl, HB6.out⟩
    have HO : Hid (o = r) := HV6.out.1 rfl
    have HV : Hid (false = V) := by
      show _ = _
      cases V
      · rfl
      · exact absurd (HX.out.2 rfl).2 (by simp)
    go_wp2
    go_ret
    exact ⟨by have hv := HV.out; subst hv; rfl, HB6.out⟩

theorem r13_May_any (w : World) (r : Rc) (a : Ra) (hin : InR w r a) (wf : r.Wf) :
    Calls Try.prog 44 #[recV r a] w fun e w' => e = .returned (.bool (decide r.May)) ∧ Below w.heap.size w w' := by
  by_cases k1 : r.k = 1
  · exact r13_May_1 w r a hin wf k1
  by_cases k2 : r.k = 2
  · exact r13_May_2 w r a hin wf k2
  by_cases k3 : r.k = 3
  · exact r13_May_3 w r a hin wf k3
  by_cases k4 : r.k = 4
  · exact r13_May_4 w r a hin wf k4
  by_cases k5 : r.k = 5
  · exact r13_May_5 w r a hin wf k5
  exact r13_May_n w r a hin wf k1 k2 k3 k4 k5
end Go.Proofs.Ytadkkhbbempaaaa

/- A row of bytes that grows, beside others that are to be appended: the document's encoders. -/
namespace Go.Proofs.Ytadkkhbbempaaaa
set_option maxRecDepth 100000
open Go.RowKit

/-- The row vr holds lr; each of ps is a row of the call's own in another block. -/
structure Rws (W : World) (base : Nat) (vr : Value) (lr : List Int) (ps : List (Value × List Int)) : Prop where
  row : Own8 W base vr lr
  sz : base ≤ W.heap.size
  ps : ∀ p ∈ ps, Own8 W base p.1 p.2 ∧ (p.1.ownBlock = none ∨ p.1.ownBlock ≠ vr.ownBlock)
section
variable {W W1 : World} {base : Nat} {vr : Value} {lr : List Int} {ps : List (Value × List Int)}
theorem Rws.below (h : Rws W base vr lr ps) (hb : Below W.heap.size W W1) : Rws W1 base vr lr ps :=
  ⟨own_below h.row hb, Nat.le_trans h.sz hb.size, fun p hp => ⟨own_below (h.ps p hp).1 hb, (h.ps p hp).2⟩⟩
theorem Rws.drew (h : Rws W base vr lr ps) : Rws W.drew base vr lr ps := h.below (Below.refl _ _).drew
/-- A call has made one more. -/
theorem Rws.call (h : Rws W base vr lr ps) {v : Value} {l : List Int} (ho : Own8 W1 W.heap.size v l) (hb : Below W.heap.size W W1) : Rws W1 base vr lr ((v, l) :: ps) := by
  have k := h.below hb
  refine ⟨k.row, k.sz, fun p hp => ?_⟩
  rcases List.mem_cons.1 hp with rfl | hp
  · refine ⟨own_lower ho h.sz, ?_⟩
    rcases hv : v.ownBlock with _ | b
    · exact .inl rfl
    · refine .inr (fun e => ?_)
      have h1 := own_base ho b hv
      have h2 := (World.ownsRow.lt h.row b e.symm).2
      omega
  · exact k.ps p hp
theorem Rws.app (h : Rws W base vr lr ps) {v1 : Value} {l1 : List Int} (ho : Own8 W1 base v1 l1) (hg : W.grownBy W1 vr.ownBlock) (hat : v1.ownBlock = vr.ownBlock ∨ v1.ownBlock = some W.heap.size) : Rws W1 base v1 l1 ps := by
  refine ⟨ho, Nat.le_trans h.sz hg.size, fun p hp => ?_⟩
  obtain ⟨k1, k2⟩ := h.ps p hp
  have k3 : p.1.ownBlock = none ∨ some W.heap.size ≠ p.1.ownBlock := by
    rcases hv : p.1.ownBlock with _ | b
    · exact .inl rfl
    · refine .inr (fun e => ?_)
      have := (World.ownsRow.lt k1 b hv).2
      injection e with e
      omega
  refine ⟨?_, ?_⟩
  · rcases k2 with k2 | k2
    · exact k1.kept hg (.inl k2)
    · exact k1.kept hg (.inr k2)
  · rcases hat with e | e
    · rw [e]; exact k2
    · rw [e]
      rcases k3 with k3 | k3
      · exact .inl k3
      · exact .inr (fun q => k3 q.symm)
end
theorem run_rws {a : Act} {o : Oper} {W : World} {base : Nat} {vr : Value} {lr : List Int} {ps : List (Value × List Int)} {K : Act → World → Prop} {Q : Exit → Act → World → Prop} (s x : Operand)
    (ho : o.op = .call { callee := .builtin .append, args := #[s, x], argTypes := #[75, 75] })
    (lp : List Int) (vp : Value) (hs : a.eval s = vr) (hx : a.eval x = vp) (R : Rws W base vr lr ps) (hm : (vp, lp) ∈ ps) (hl : lr.length + lp.length ≤ 140737488355328)
    (h : ∀ v1 w1, Rws w1 base v1 (lr ++ lp) ps → Below base W w1 → K (a.put o.dst v1) w1) : o.wp Try.prog a W K Q := by
  obtain ⟨HX, -⟩ := R.ps _ hm
  obtain ⟨A2, c2, hv2⟩ := own_slice HX
  simp only at hv2
  subst hv2
  obtain ⟨i0, hi, hzz⟩ := Option.map_eq_some_iff.1 info_u8
  simp only [Prod.mk.injEq] at hzz
  obtain ⟨hz0, hz1, hz2⟩ := hzz
  refine wp_append_any W s x 75 ho base 5 i0 (.int .u8 0) 1 1 Try.underlying75 hi hz0 hz1 hz2 rfl (by omega) vr lr.length (u8s lr) hs R.row _ A2 _ c2 (u8s lp) hx (Reads.of_own HX) (u8s_one_cell lp) (by simp only [maxLen]; omega) (by omega) R.sz ?_
  intro v1 w1 ho1 hg hat
  have ho2 : Own8 w1 base v1 (lr ++ lp) := by
    unfold Own8
    rw [List.length_append, u8s_append]
    exact ho1
  exact h v1 w1 (R.app ho2 hg hat) ((Below.refl _ _).grown hg R.sz (own_base R.row))
theorem wpList_rws {ops : Array Oper} {rest : List Oper} {o : Oper} {a : Act} {Q : Exit → Act → World → Prop} {W : World} {base : Nat} {vr : Value} {lr : List Int} {ps : List (Value × List Int)} (hgd : o.guard = none) (s x : Operand)
    (ho : o.op = .call { callee := .builtin .append, args := #[s, x], argTypes := #[75, 75] })
    (lp : List Int) (vp : Value) (hs : a.eval s = vr) (hx : a.eval x = vp) (R : Rws W base vr lr ps) (hm : (vp, lp) ∈ ps) (hl : lr.length + lp.length ≤ 140737488355328)
    (h : ∀ v1 w1, Rws w1 base v1 (lr ++ lp) ps → Below base W w1 → wpList Try.prog ops Q rest (a.put o.dst v1) w1) : wpList Try.prog ops Q (o :: rest) a W :=
  wpList_plain hgd fun _ hK => run_rws s x ho lp vp hs hx R hm hl fun v1 w1 h1 h2 => hK _ _ (h v1 w1 h1 h2)
theorem step_rws {ops : Array Oper} {o : Oper} {a : Act} {K : Act → World → Prop} {Q : Exit → Act → World → Prop} {E : Prop} {W : World} {base : Nat} {vr : Value} {lr : List Int} {ps : List (Value × List Int)} (hgd : o.guard = none) (s x : Operand)
    (ho : o.op = .call { callee := .builtin .append, args := #[s, x], argTypes := #[75, 75] })
    (lp : List Int) (vp : Value) (hs : a.eval s = vr) (hx : a.eval x = vp) (R : Rws W base vr lr ps) (hm : (vp, lp) ∈ ps) (hl : lr.length + lp.length ≤ 140737488355328)
    (h : ∀ v1 w1, Rws w1 base v1 (lr ++ lp) ps → Below base W w1 → K (a.put o.dst v1) w1) :
    if Region.wanted o (yielded ops a.tmps) = true then Oper.wp Try.prog o a W K Q else E := by
  have hw : Region.wanted o (yielded ops a.tmps) = true := by simp [Region.wanted, hgd]
  rw [if_pos hw]
  exact run_rws s x ho lp vp hs hx R hm hl h
/-- A row of bytes made a string. -/
theorem conv_own {w : World} {base : Nat} {v : Value} {l : List Int} (h : Own8 w base v l) : (convert 75 9 v).run Try.prog w = .ok (.string (strOfNums l)) w := by
  obtain ⟨A, c, rfl⟩ := own_slice h
  exact conv_str _ _ A _ c _ (Reads.of_own h)
end Go.Proofs.Ytadkkhbbempaaaa
