/- Snapshots and ledgers that hold the same: the document's Same. -/
import Derived.Test.YtfkaggdjhopjpaaShCp
import Derived.Deep.QuietTactic
import Derived.BigQuiet
import Derived.Deep.Draws
namespace Go.Proofs.Ytfkaggdjhopjpaa
set_option maxRecDepth 100000
open Go.RowKit

set_option maxRecDepth 100000 in
set_option maxHeartbeats 4000000 in
theorem r05_Same_eq (w : World) (lim nxt : Int) (A1 : Option Addr) (c1 : Nat) (A2 : Option Addr) (c2 : Nat) (hs : List Hd) (A3 : Option Addr) (c3 : Nat) (A4 : Option Addr) (c4 : Nat) (ls : List Ls)
    (h1 : InS hdC 5 w A1 c1 hs) (h2 : InS hdC 5 w A2 c2 hs) (h3 : InS lsC 6 w A3 c3 ls) (h4 : InS lsC 6 w A4 c4 ls) :
    Calls Try.prog 21 #[ledV lim nxt (.slice A1 hs.length c1) (.slice A3 ls.length c3), ledV lim nxt (.slice A2 hs.length c2) (.slice A4 ls.length c4)] w fun e w' => e = .returned (.bool true) ∧ Below w.heap.size w w' := by
  have hs1 := h1.small
  have hs3 := h3.small
  have hc1 := h1.cap
  have hc2 := h2.cap
  have hc3 := h3.cap
  have hc4 := h4.cap
  obtain ⟨g, hg⟩ : ∃ g, w.heap.size = g := ⟨_, rfl⟩
  rw [hg]
  obtain ⟨gr, hgr⟩ : ∃ gr, g + 1 = gr := ⟨_, rfl⟩
  have hBx : Below g w ((w.alloc (.cells (ledC lim nxt (.slice A1 hs.length c1) (.slice A3 ls.length c3)) 26)).alloc (.cells (ledC lim nxt (.slice A2 hs.length c2) (.slice A4 ls.length c4)) 26)) := ((Below.refl _ _).alloc (by omega) _).alloc (by simp; omega) _
  have hsz : (w.alloc (.cells (ledC lim nxt (.slice A1 hs.length c1) (.slice A3 ls.length c3)) 26)).heap.size = gr := by simp [hg, hgr]
  have hb1 : Blk ((w.alloc (.cells (ledC lim nxt (.slice A1 hs.length c1) (.slice A3 ls.length c3)) 26)).alloc (.cells (ledC lim nxt (.slice A2 hs.length c2) (.slice A4 ls.length c4)) 26)) g 26 (ledC lim nxt (.slice A1 hs.length c1) (.slice A3 ls.length c3)) := (hg ▸ Blk.new w 26 (ledC lim nxt (.slice A1 hs.length c1) (.slice A3 ls.length c3)) : Blk (w.alloc (.cells (ledC lim nxt (.slice A1 hs.length c1) (.slice A3 ls.length c3)) 26)) g 26 (ledC lim nxt (.slice A1 hs.length c1) (.slice A3 ls.length c3))).alloc _
  have hr1 : Blk ((w.alloc (.cells (ledC lim nxt (.slice A1 hs.length c1) (.slice A3 ls.length c3)) 26)).alloc (.cells (ledC lim nxt (.slice A2 hs.length c2) (.slice A4 ls.length c4)) 26)) gr 26 (ledC lim nxt (.slice A2 hs.length c2) (.slice A4 ls.length c4)) := hsz ▸ Blk.new _ _ _
  have H1 := Lib.hid (h1.keep (hg ▸ hBx))
  have H2 := Lib.hid (h2.keep (hg ▸ hBx))
  have H3 := Lib.hid (h3.keep (hg ▸ hBx))
  have H4 := Lib.hid (h4.keep (hg ▸ hBx))
  clear hsz h1 h2 h3 h4
  unfold ledV
  go_enter Try.func21, Try.ntmps21
  go_upto_region 1 with (fail)
  change Code.wp _ _ _ _ ((w.alloc (.cells (ledC lim nxt (.slice A1 hs.length c1) (.slice A3 ls.length c3)) 26)).alloc (.cells (ledC lim nxt (.slice A2 hs.length c2) (.slice A4 ls.length c4)) 26))
  generalize ((w.alloc (.cells (ledC lim nxt (.slice A1 hs.length c1) (.slice A3 ls.length c3)) 26)).alloc (.cells (ledC lim nxt (.slice A2 hs.length c2) (.slice A4 ls.length c4)) 26)) = W at hb1 hr1 hBx H1 H2 H3 H4 ⊢
  try rw [hgr]
  have HB := Lib.hid hBx
  obtain ⟨q0, q1, q2, q3⟩ := hb1.led
  obtain ⟨r0, r1, r2, r3⟩ := hr1.led
  clear hBx hb1 hr1
  go_wp2_with fail
  go_loopw [5, 40] (fun _ i wr => ∃ (k m : Nat), i = .int .i64 (k : Int) ∧ k ≤ hs.length ∧ wr = W.drewN m) (fun _ i _ => hs.length - (intOf i).toNat)
  case atStart => exact ⟨0, 0, rfl, by omega, rfl⟩
  case round =>
    obtain ⟨k, m, rfl, hk, rfl⟩ := hrel
    by_cases hlt : k < hs.length
    · obtain ⟨b1, o1, rfl, _, hall1⟩ := H1.out.hd (by omega)
      obtain ⟨b2, o2, rfl, _, hall2⟩ := H2.out.hd (by omega)
      obtain ⟨x0, x1, x2, x3, x4⟩ := hall1 k hlt
      obtain ⟨y0, y1, y2, y3, y4⟩ := hall2 k hlt
      obtain ⟨x, hx⟩ : ∃ x, hs[k] = x := ⟨_, rfl⟩
      rw [hx] at x0 x1 x2 x3 x4 y0 y1 y2 y3 y4
      clear hall1 hall2 hx
      go_wp2_with fail
      go_quiet (fail)
      go_wp2
      go_roundw
      case rel => exact ⟨k + 1, _, by go_num, by omega, rfl⟩
      case measure => simp [intOf]; omega
    · obtain rfl : k = hs.length := by omega
      go_wp2_with fail
      go_loopw [6, 58] (fun _ i wr => ∃ (k m : Nat), i = .int .i64 (k : Int) ∧ k ≤ ls.length ∧ wr = W.drewN m) (fun _ i _ => ls.length - (intOf i).toNat)
      case atStart => exact ⟨0, m, rfl, by omega, rfl⟩
      case round =>
        obtain ⟨k, m, rfl, hk, rfl⟩ := hrel
        by_cases hlt : k < ls.length
        · obtain ⟨b1, o1, rfl, _, hall1⟩ := H3.out.ls (by omega)
          obtain ⟨b2, o2, rfl, _, hall2⟩ := H4.out.ls (by omega)
          obtain ⟨x0, x1, x2, x3, x4, x5⟩ := hall1 k hlt
          obtain ⟨y0, y1, y2, y3, y4, y5⟩ := hall2 k hlt
          obtain ⟨x, hx⟩ : ∃ x, ls[k] = x := ⟨_, rfl⟩
          rw [hx] at x0 x1 x2 x3 x4 x5 y0 y1 y2 y3 y4 y5
          clear hall1 hall2 hx
          go_wp2_with fail
          go_quiet (fail)
          go_wp2
          go_roundw
          case rel => exact ⟨k + 1, _, by go_num, by omega, rfl⟩
          case measure => simp [intOf]; omega
        · obtain rfl : k = ls.length := by omega
          go_wp2
          go_ret
          exact ⟨rfl, below_drewN HB.out _⟩

end Go.Proofs.Ytfkaggdjhopjpaa
