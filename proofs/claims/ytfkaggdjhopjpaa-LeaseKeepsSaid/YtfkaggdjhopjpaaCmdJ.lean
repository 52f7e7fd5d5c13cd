/- Walks over commands: the document's Check, all its ways. -/
import Derived.Test.YtfkaggdjhopjpaaCmdB
import Derived.Test.YtfkaggdjhopjpaaCmdC
namespace Go.Proofs.Ytfkaggdjhopjpaa
set_option maxRecDepth 100000
open Go.RowKit

theorem ref_Check_any (w : World) (k n t : Int) (A : Option Addr) (c : Nat) (l : List Int) (b q s m : Int) (h : InN .i64 w A c l)
    (hn : (Lit.int .i64 n).wf = true) (ht : (Lit.int .i64 t).wf = true) :
    Calls Try.prog 46 #[cmdV k n t (.slice A l.length c) b q s m] w fun e w' => e = .returned (.int .i64 (errCmd (numsOk k n t b q s m && listOk k l))) ∧ Below w.heap.size w w' := by
  by_cases bad : numsOk k n t b q s m = true
  · have g := bad
    simp only [numsOk, Bool.and_eq_true, decide_eq_true_eq] at g
    obtain ⟨⟨⟨⟨⟨⟨⟨⟨hI, h0n⟩, h0t⟩, r1⟩, r2⟩, r3⟩, r4⟩, r5⟩, r6⟩ := g
    exact ref_Check_good w k n t A c l b q s m h hn ht hI h0n h0t r1 r2 r3 r4 r5 r6
  · have bad : numsOk k n t b q s m = false := by simpa using bad
    rw [show errCmd (numsOk k n t b q s m && listOk k l) = 40 by simp [bad, errCmd]]
    exact ref_Check_bad w k n t _ b q s m hn ht bad
end Go.Proofs.Ytfkaggdjhopjpaa
