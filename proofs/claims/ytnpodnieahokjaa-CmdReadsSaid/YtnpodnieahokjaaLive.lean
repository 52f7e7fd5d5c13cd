/- Walks over commands: the code's Encode refuses; the example's bytes. -/
import Derived.Test.YtnpodnieahokjaaEncC
import Derived.Test.YtnpodnieahokjaaCmdD
namespace Go.Proofs.Ytnpodnieahokjaa
open Go.RowKit

set_option maxRecDepth 100000 in
set_option maxHeartbeats 4000000 in
theorem cmd_Encode_bad (w : World) (k n t : Int) (A : Option Addr) (c : Nat) (l : List Int) (b q s m : Int) (h : InN .i64 w A c l)
    (C0 : ∀ W, InN .i64 W A c l → Calls Try.prog 10 #[cmdV k n t (.slice A l.length c) b q s m] W fun e w' => e = .returned (.int .i64 40) ∧ Below W.heap.size W w') :
    Calls Try.prog 13 #[cmdV k n t (.slice A l.length c) b q s m] w fun e w' => e = .returned (.tuple #[.slice none 0 0, .int .i64 40]) ∧ Below w.heap.size w w' := by
  have C0 := fun W hin => Lib.hid (C0 W hin)
  have HIN := Lib.hid h
  clear h
  obtain ⟨g, hg⟩ : ∃ g, w.heap.size = g := ⟨_, rfl⟩
  have hB0 : Below g w (w.alloc (.cells (cmdCells k n t (.slice A l.length c) b q s m) 25)) := (Below.refl _ _).alloc (by omega) _
  have hs0 : g ≤ (w.alloc (.cells (cmdCells k n t (.slice A l.length c) b q s m) 25)).heap.size := by simp; omega
  simp only [cmdV]
  go_enter Try.func13, Try.ntmps13
  go_wp2_with fail
  refine (C0 _ (HIN.out.keep (by rw [hg]; exact hB0))).out.mono ?_
  rintro e w1 ⟨rfl, hB1⟩
  have hBw1 := Lib.hid (hB0.trans (hB1.mono hs0))
  clear hB0 hs0 hB1
  go_wp2
  go_ret2
  exact ⟨rfl, by rw [hg]; exact hBw1.out⟩

theorem live_str : ((strOfNums [1, 2, 1, 2, 1, 1, 1, 3]).toList == [1, 2, 1, 2, 1, 1, 1, 3]) = true := by decide +kernel
theorem live_set : IsSet [1, 3] := by
  refine ⟨by decide, fun i hi _ => ?_⟩
  match i, hi with
  | 0, _ => exact ⟨show (1 : Int) ≤ 1 by decide, show (1 : Int) ≤ 7 by decide, fun h => absurd h (by omega)⟩
  | 1, _ => exact ⟨show (1 : Int) ≤ 3 by decide, show (3 : Int) ≤ 7 by decide, fun _ => show (1 : Int) < 3 by decide⟩
theorem live_ok : codeOk 2 0 0 [1, 3] 0 0 0 0 = true := by
  have h : decide (IsSet [1, 3]) = true := decide_eq_true live_set
  simp [codeOk, listB, kN, kI, kR, kT, kS, reqB, reqZ, tokB, tokZ, live_set]
theorem live_bytes : numsB (numsL 2 0 0 [1, 3] 0 0 0 0) = [1, 2, 1, 2, 1, 1, 1, 3] := by decide

set_option maxHeartbeats 1000000 in
theorem live_any (w : World) : Calls Try.prog 15 #[] w fun e w' => e = .returned (.bool true) ∧ Below w.heap.size w w' := by
  have hin : InN .i64 (w.alloc (.cells #[.int .i64 1, .int .i64 3] 3)) (some ⟨w.heap.size, 0, none⟩) 2 [1, 3] :=
    InN.lit w [1, 3] (by intro x hx; simp at hx; rcases hx with rfl | rfl <;> decide) (by simp) _ (0, 0) rfl
  have C0 : ∀ W, InN .i64 W (some ⟨w.heap.size, 0, none⟩) 2 [1, 3] → Calls Try.prog 10 #[cmdV 2 0 0 (.slice (some ⟨w.heap.size, 0, none⟩) [(1 : Int), 3].length 2) 0 0 0 0] W fun e w' => e = .returned (.int .i64 0) ∧ Below W.heap.size W w' := fun W hin => by
    have := cmd_Check_any W 2 0 0 (some ⟨w.heap.size, 0, none⟩) 2 [1, 3] 0 0 0 0 hin
    rw [live_ok] at this
    exact this
  have C1 := cmd_Encode_ok _ 2 0 0 (some ⟨w.heap.size, 0, none⟩) 2 [1, 3] 0 0 0 0 hin (by omega) (by omega) (by omega) (by omega) (by omega) (by omega) (by omega) (fun _ => live_set) C0
  rw [show ((2 : Nat) : Int) = 2 from rfl, show ((0 : Nat) : Int) = 0 from rfl, live_bytes] at C1
  obtain ⟨g, hg⟩ : ∃ g, w.heap.size = g := ⟨_, rfl⟩
  rw [hg] at C1
  have C1 := Lib.hid C1
  clear C0
  have LS := Lib.hid live_str
  have hB0 : Below g w (w.alloc (.cells #[.int .i64 1, .int .i64 3] 3)) := (Below.refl _ _).alloc (by omega) _
  have hs0 : g ≤ (w.alloc (.cells #[.int .i64 1, .int .i64 3] 3)).heap.size := by simp; omega
  clear hin
  go_enter Try.func15, Try.ntmps15
  go_wp2_with fail
  refine C1.out.mono ?_
  rintro e w1 ⟨v1, rfl, ho1, hB1⟩
  obtain ⟨A1, c1, rfl, hin1⟩ := In8.own ho1 (by unfold Byt; decide) (by simp)
  have hcv := conv_str w1 _ A1 8 c1 _ hin1.reads
  have hls := LS.out
  have hBw1 := Lib.hid (hB0.trans (hB1.mono hs0))
  clear hB0 hs0 hB1 ho1 hin1 LS
  go_wp2
  go_ret
  exact ⟨rfl, by rw [hg]; exact hBw1.out⟩
end Go.Proofs.Ytnpodnieahokjaa
