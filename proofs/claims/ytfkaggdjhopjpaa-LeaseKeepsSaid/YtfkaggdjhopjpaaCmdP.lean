/- Commands, plain: the code's test is the document's. -/
import Derived.Test.YtfkaggdjhopjpaaCmdJ
import Derived.Test.YtfkaggdjhopjpaaCmdE
import Derived.Test.YtfkaggdjhopjpaaCmdS
namespace Go.Proofs.Ytfkaggdjhopjpaa
set_option maxRecDepth 100000
open Go.RowKit

theorem fldN (k : Int) : hasB (fld k) 108 = kN k := by
  rcases kinds k with rfl | rfl | rfl | rfl | rfl | rfl | ⟨h1, h2, h3, h4, h5, h6⟩
  case inr.inr.inr.inr.inr.inr => simp [fld, kN, h2, h3, h4, h5, h6]; rfl
  all_goals rfl
theorem fldR (k : Int) : hasB (fld k) 110 = kR k ∧ hasB (fld k) 98 = kR k ∧ hasB (fld k) 113 = kR k := by
  rcases kinds k with rfl | rfl | rfl | rfl | rfl | rfl | ⟨h1, h2, h3, h4, h5, h6⟩
  case inr.inr.inr.inr.inr.inr => simp [fld, kR, h2, h3, h4, h5, h6]; exact ⟨rfl, rfl, rfl⟩
  all_goals exact ⟨rfl, rfl, rfl⟩
theorem fldT (k : Int) : hasB (fld k) 116 = kT k ∧ hasB (fld k) 115 = kT k := by
  rcases kinds k with rfl | rfl | rfl | rfl | rfl | rfl | ⟨h1, h2, h3, h4, h5, h6⟩
  case inr.inr.inr.inr.inr.inr => simp [fld, kT, h2, h3, h4, h5, h6]; exact ⟨rfl, rfl⟩
  all_goals exact ⟨rfl, rfl⟩
theorem fldS (k : Int) : hasB (fld k) 109 = kS k := by
  rcases kinds k with rfl | rfl | rfl | rfl | rfl | rfl | ⟨h1, h2, h3, h4, h5, h6⟩
  case inr.inr.inr.inr.inr.inr => simp [fld, kS, h2, h3, h4, h5, h6]; rfl
  all_goals rfl
/-- The code's test is the document's. -/
theorem codeOk_eq (k n t : Int) (l : List Int) (b q s m : Int) (hb : 0 ≤ b ∧ b < 18446744073709551616) (hq : 0 ≤ q ∧ q < 18446744073709551616) (hs : 0 ≤ s ∧ s < 18446744073709551616) (hm : 0 ≤ m ∧ m < 18446744073709551616) :
    codeOk k n t l b q s m = (numsOk k n t b q s m && listOk k l) := by
  obtain ⟨r1, r2, r3⟩ := fldR k
  obtain ⟨t1, t2⟩ := fldT k
  unfold codeOk numsOk listOk listB reqB reqZ tokB tokZ
  rw [fldN, r1, r2, r3, t1, t2, fldS]
  have hb2 : b ≤ 18446744073709551615 := by omega
  have hq2 : q ≤ 18446744073709551615 := by omega
  have hs2 : s ≤ 18446744073709551615 := by omega
  have hm2 : m ≤ 18446744073709551615 := by omega
  generalize (if kN k = true then decide (IsSet l) else decide (l.length = 0)) = L
  have e : ∀ x : Int, 0 ≤ x → (decide (x > 0) = !(x == 0)) := fun x hx => by
    apply Bool.eq_iff_iff.2
    simp
    omega
  have e1 : ∀ x : Int, 0 ≤ x → (decide (1 ≤ x) = !(x == 0)) := fun x hx => by
    apply Bool.eq_iff_iff.2
    simp
    omega
  apply Bool.eq_iff_iff.2
  cases kI k <;> cases kR k <;> cases kT k <;> cases kS k <;> cases L <;> simp [rightB] <;> omega
theorem sameB_refl (k n t : Int) (l : List Int) (b q s m : Int) : sameB k n t l b q s m k n t l b q s m = true := by simp [sameB]
theorem zero_bad : codeOk 0 0 0 [] 0 0 0 0 = false := by simp [codeOk, kI]
end Go.Proofs.Ytfkaggdjhopjpaa
