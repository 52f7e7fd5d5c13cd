/- Snapshots and ledgers that hold the same: the document's Same. -/
import Derived.Test.YtadkkhbbempaaaaShCp
import Derived.Deep.QuietTactic
import Derived.BigQuiet
import Derived.Deep.Draws
namespace Go.Proofs.Ytadkkhbbempaaaa
set_option maxRecDepth 100000
open Go.RowKit

set_option maxRecDepth 100000 in
set_option maxHeartbeats 4000000 in
theorem r05_Same_eq (w : World) (lim nxt : Int) (A1 : Option Addr) (c1 : Nat) (A2 : Option Addr) (c2 : Nat) (hs : List Hd) (A3 : Option Addr) (c3 : Nat) (A4 : Option Addr) (c4 : Nat) (ls : List Ls)
    (h1 : InS hdC 5 w A1 c1 hs) (h2 : InS hdC 5 w A2 c2 hs) (h3 : InS lsC 6 w A3 c3 ls) (h4 : InS lsC 6 w A4 c4 ls) :
    Calls Try.prog 75 #[ledV lim nxt (.slice A1 hs.length c1) (.slice A3 ls.length c3), ledV lim nxt (.slice A2 hs.length c2) (.slice A4 ls.length c4)] w fun e w' => e = .returned (.bool true) ∧ Below w.heap.size w w' := by
  have hs1 := h1.small
  have hs3 := h3.small
  have hc1 := h1.cap
  have hc2 := h2.cap
  have hc3 := h3.cap
  have hc4 := h4.cap
  obtain ⟨g, hg⟩ : ∃ g, w.heap.size = g := ⟨_, rfl⟩
  rw [hg]
  obtain ⟨gr, hgr⟩ : ∃ gr, g + 1 = gr := ⟨_, rfl⟩
  have hBx : Below g w ((w.alloc (.cells (ledC lim nxt (.slice A1 hs.length c1) (.slice A3 ls.length c3)) 27)).alloc (.cells (ledC lim nxt (.slice A2 hs.length c2) (.slice A4 ls.length c4)) 27)) := ((Below.refl _ _).alloc (by omega) _).alloc (by simp; omega) _
  have hsz : (w.alloc (.cells (ledC lim nxt (.slice A1 hs.length c1) (.slice A3 ls.length c3)) 27)).heap.size = gr := by simp [hg, hgr]
  have hb1 : Blk ((w.alloc (.cells (ledC lim nxt (.slice A1 hs.length c1) (.slice A3 ls.length c3)) 27)).alloc (.cells (ledC lim nxt (.slice A2 hs.length c2) (.slice A4 ls.length c4)) 27)) g 27 (ledC lim nxt (.slice A1 hs.length c1) (.slice A3 ls.length c3)) := (hg ▸ Blk.new w 27 (ledC lim nxt (.slice A1 hs.length c1) (.slice A3 ls.length c3)) : Blk (w.alloc (.cells (ledC lim nxt (.slice A1 hs.length c1) (.slice A3 ls.length c3)) 27)) g 27 (ledC lim nxt (.slice A1 hs.length c1) (.slice A3 ls.length c3))).alloc _
  have hr1 : Blk ((w.alloc (.cells (ledC lim nxt (.slice A1 hs.length c1) (.slice A3 ls.length c3)) 27)).alloc (.cells (ledC lim nxt (.slice A2 hs.length c2) (.slice A4 ls.length c4)) 27)) gr 27 (ledC lim nxt (.slice A2 hs.length c2) (.slice A4 ls.length c4)) := hsz ▸ Blk.new _ _ _
  have H1 := Lib.hid (h1.keep (hg ▸ hBx))
  have H2 := Lib.hid (h2.keep (hg ▸ hBx))
  have H3 := Lib.hid (h3.keep (hg ▸ hBx))
  have H4 := Lib.hid (h4.keep (hg ▸ hBx))
  clear hsz h1 h2 h3 h4
  unfold ledV
  go_enter Try.func75, Try.ntmps75
  go_upto_region 1 with (fail)
  change Code.wp _ _ _ _ ((w.alloc (.cells (ledC lim nxt (.slice A1 hs.length c1) (.slice A3 ls.length c3)) 27)).alloc (.cells (ledC lim nxt (.slice A2 hs.length c2) (.slice A4 ls.length c4)) 27))
  generalize ((w.alloc (.cells (ledC lim nxt (.slice A1 hs.length c1) (.slice A3 ls.length c3)) 27)).alloc (.cells (ledC lim nxt (.slice A2 hs.length c2) (.slice A4 ls.length c4)) 27)) = W at hb1 hr1 hBx H1 H2 H3 H4 ⊢
  try rw [hgr]
  have HB := Lib.hid hBx
  obtain ⟨q0, q1, q2, q3⟩ := hb1.led
  obtain ⟨r0, r1, r2, r3⟩ := hr1.led
  clear hBx hb1 hr1
  go_wp2_with fail
  go_loopw [5, 40] (fun _ i wr => ∃ (k m : Nat), i = .int .i64 (k : Int) ∧ k ≤ hs.length ∧ wr = W.drewN m) (fun _ i _ => hs.length - (intOf i).toNat)
  case atStart => exact ⟨0, 0, rfl, by omega, rfl⟩
  case round =>
    obtain ⟨k, m, rfl, hk, rfl⟩ := hrel
    by_cases hlt : k < hs.length
    · obtain ⟨b1, o1, rfl, _, hall1⟩ := H1.out.hd (by omega)
      obtain ⟨b2, o2, rfl, _, hall2⟩ := H2.out.hd (by omega)
      obtain ⟨x0, x1, x2, x3, x4⟩ := hall1 k hlt
      obtain ⟨y0, y1, y2, y3, y4⟩ := hall2 k hlt
      obtain ⟨x, hx⟩ : ∃ x, hs[k] = x := ⟨_, rfl⟩
      rw [hx] at x0 x1 x2 x3 x4 y0 y1 y2 y3 y4
      clear hall1 hall2 hx
      go_wp2_with fail
      go_quiet (fail)
      go_wp2
      go_roundw
      case rel => exact ⟨k + 1, _, by go_num, by omega, rfl⟩
      case measure => simp [intOf]; omega
    · obtain rfl : k = hs.length := by omega
      go_wp2_with fail
      go_loopw [6, 58] (fun _ i wr => ∃ (k m : Nat), i = .int .i64 (k : Int) ∧ k ≤ ls.length ∧ wr = W.drewN m) (fun _ i _ => ls.length - (intOf i).toNat)
      case atStart => exact ⟨0, m, rfl, by omega, rfl⟩
      case round =>
        obtain ⟨k, m, rfl, hk, rfl⟩ := hrel
        by_cases hlt : k < ls.length
        · obtain ⟨b1, o1, rfl, _, hall1⟩ := H3.out.ls (by omega)
          obtain ⟨b2, o2, rfl, _, hall2⟩ := H4.out.ls (by omega)
          obtain ⟨x0, x1, x2, x3, x4, x5⟩ := hall1 k hlt
          obtain ⟨y0, y1, y2, y3, y4, y5⟩ := hall2 k hlt
          obtain ⟨x, hx⟩ : ∃ x, ls[k] = x := ⟨_, rfl⟩
          rw [hx] at x0 x1 x2 x3 x4 x5 y0 y1 y2 y3 y4 y5
          clear hall1 hall2 hx
          go_wp2_with fail
          go_quiet (fail)
          go_wp2
          go_roundw
          case rel => exact ⟨k + 1, _, by go_num, by omega, rfl⟩
          case measure => simp [intOf]; omega
        · obtain rfl : k = ls.length := by omega
          go_wp2
          go_ret
          exact ⟨rfl, below_drewN HB.out _⟩

set_option maxRecDepth 100000 in
set_option maxHeartbeats 4000000 in
theorem r06_Same_eq (w : World) (i t : Int) (An1 : Option Addr) (cn1 : Nat) (An2 : Option Addr) (cn2 : Nat) (ns : List Int) (lim nxt : Int) (A1 : Option Addr) (c1 : Nat) (A2 : Option Addr) (c2 : Nat) (hs : List Hd) (A3 : Option Addr) (c3 : Nat) (A4 : Option Addr) (c4 : Nat) (ls : List Ls)
    (n1 : InN .i64 w An1 cn1 ns) (n2 : InN .i64 w An2 cn2 ns) (h1 : InS hdC 5 w A1 c1 hs) (h2 : InS hdC 5 w A2 c2 hs) (h3 : InS lsC 6 w A3 c3 ls) (h4 : InS lsC 6 w A4 c4 ls) :
    Calls Try.prog 38 #[shV i t (.slice An1 ns.length cn1) lim nxt (.slice A1 hs.length c1) (.slice A3 ls.length c3), shV i t (.slice An2 ns.length cn2) lim nxt (.slice A2 hs.length c2) (.slice A4 ls.length c4)] w fun e w' => e = .returned (.bool true) ∧ Below w.heap.size w w' := by
  obtain ⟨g, hg⟩ : ∃ g, w.heap.size = g := ⟨_, rfl⟩
  rw [hg]
  obtain ⟨gr, hgr⟩ : ∃ gr, g + 1 = gr := ⟨_, rfl⟩
  have hBx : Below g w ((w.alloc (.cells (shC i t (.slice An1 ns.length cn1) lim nxt (.slice A1 hs.length c1) (.slice A3 ls.length c3)) 29)).alloc (.cells (shC i t (.slice An2 ns.length cn2) lim nxt (.slice A2 hs.length c2) (.slice A4 ls.length c4)) 29)) := ((Below.refl _ _).alloc (by omega) _).alloc (by simp; omega) _
  have hsz : (w.alloc (.cells (shC i t (.slice An1 ns.length cn1) lim nxt (.slice A1 hs.length c1) (.slice A3 ls.length c3)) 29)).heap.size = gr := by simp [hg, hgr]
  have hb1 : Blk ((w.alloc (.cells (shC i t (.slice An1 ns.length cn1) lim nxt (.slice A1 hs.length c1) (.slice A3 ls.length c3)) 29)).alloc (.cells (shC i t (.slice An2 ns.length cn2) lim nxt (.slice A2 hs.length c2) (.slice A4 ls.length c4)) 29)) g 29 (shC i t (.slice An1 ns.length cn1) lim nxt (.slice A1 hs.length c1) (.slice A3 ls.length c3)) := (hg ▸ Blk.new w 29 (shC i t (.slice An1 ns.length cn1) lim nxt (.slice A1 hs.length c1) (.slice A3 ls.length c3)) : Blk (w.alloc (.cells (shC i t (.slice An1 ns.length cn1) lim nxt (.slice A1 hs.length c1) (.slice A3 ls.length c3)) 29)) g 29 (shC i t (.slice An1 ns.length cn1) lim nxt (.slice A1 hs.length c1) (.slice A3 ls.length c3))).alloc _
  have hr1 : Blk ((w.alloc (.cells (shC i t (.slice An1 ns.length cn1) lim nxt (.slice A1 hs.length c1) (.slice A3 ls.length c3)) 29)).alloc (.cells (shC i t (.slice An2 ns.length cn2) lim nxt (.slice A2 hs.length c2) (.slice A4 ls.length c4)) 29)) gr 29 (shC i t (.slice An2 ns.length cn2) lim nxt (.slice A2 hs.length c2) (.slice A4 ls.length c4)) := hsz ▸ Blk.new _ _ _
  have HN1 := Lib.hid (n1.keep (hg ▸ hBx))
  have HN2 := Lib.hid (n2.keep (hg ▸ hBx))
  have H1 := Lib.hid (h1.keep (hg ▸ hBx))
  have H2 := Lib.hid (h2.keep (hg ▸ hBx))
  have H3 := Lib.hid (h3.keep (hg ▸ hBx))
  have H4 := Lib.hid (h4.keep (hg ▸ hBx))
  clear hsz h1 h2 h3 h4 n1 n2
  unfold shV
  go_enter Try.func38, Try.ntmps38
  go_upto_region 1 with (fail)
  change Code.wp _ _ _ _ ((w.alloc (.cells (shC i t (.slice An1 ns.length cn1) lim nxt (.slice A1 hs.length c1) (.slice A3 ls.length c3)) 29)).alloc (.cells (shC i t (.slice An2 ns.length cn2) lim nxt (.slice A2 hs.length c2) (.slice A4 ls.length c4)) 29))
  generalize ((w.alloc (.cells (shC i t (.slice An1 ns.length cn1) lim nxt (.slice A1 hs.length c1) (.slice A3 ls.length c3)) 29)).alloc (.cells (shC i t (.slice An2 ns.length cn2) lim nxt (.slice A2 hs.length c2) (.slice A4 ls.length c4)) 29)) = W at hb1 hr1 hBx HN1 HN2 H1 H2 H3 H4 ⊢
  try rw [hgr]
  have HB := Lib.hid hBx
  obtain ⟨q0, q1, q2, q3, q4, q5, q6⟩ := hb1.sh
  obtain ⟨r0, r1, r2, r3, r4, r5, r6⟩ := hr1.sh
  have C1 := r03_Same_any W An1 An2 cn1 cn2 ns ns HN1.out HN2.out
  rw [decide_eq_true rfl] at C1
  have C1 := Lib.hid C1
  have C2 := fun m => r05_Same_eq (W.drewN m) lim nxt A1 c1 A2 c2 hs A3 c3 A4 c4 ls (H1.out.drewN m) (H2.out.drewN m) (H3.out.drewN m) (H4.out.drewN m)
  unfold ledV at C2
  have C2 := fun m => Lib.hid (C2 m)
  have hz : g ≤ W.heap.size := by have := hBx.size; omega
  clear hBx hb1 hr1
  go_wp2_with fail
  refine C1.out.mono ?_
  rintro e w1 ⟨rfl, m, rfl⟩
  go_wp2_with fail
  refine (C2 m).out.mono ?_
  rintro e w2 ⟨rfl, hB2⟩
  have HB2 := Lib.hid ((below_drewN HB.out m).trans (hB2.mono hz))
  clear hB2 q0 q1 q2 q3 q4 q5 q6 r0 r1 r2 r3 r4 r5 r6
  go_wp2
  go_ret
  exact ⟨rfl, HB2.out⟩
end Go.Proofs.Ytadkkhbbempaaaa
