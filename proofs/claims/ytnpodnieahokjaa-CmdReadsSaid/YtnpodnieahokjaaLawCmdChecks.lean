/- The walk of the law CmdChecks. -/
import Derived.Test.YtnpodnieahokjaaCmdJ
import Derived.Test.YtnpodnieahokjaaCmdE
import Derived.Test.YtnpodnieahokjaaCmdS
import Derived.Test.YtnpodnieahokjaaOpenCmd
namespace Go.Proofs.Ytnpodnieahokjaa
open Go.RowKit

theorem fldN (k : Int) : hasB (fld k) 108 = kN k := by
  rcases kinds k with rfl | rfl | rfl | rfl | rfl | rfl | ⟨h1, h2, h3, h4, h5, h6⟩
  case inr.inr.inr.inr.inr.inr => simp [fld, kN, h2, h3, h4, h5, h6]; rfl
  all_goals rfl
theorem fldR (k : Int) : hasB (fld k) 110 = kR k ∧ hasB (fld k) 98 = kR k ∧ hasB (fld k) 113 = kR k := by
  rcases kinds k with rfl | rfl | rfl | rfl | rfl | rfl | ⟨h1, h2, h3, h4, h5, h6⟩
  case inr.inr.inr.inr.inr.inr => simp [fld, kR, h2, h3, h4, h5, h6]; exact ⟨rfl, rfl, rfl⟩
  all_goals exact ⟨rfl, rfl, rfl⟩
theorem fldT (k : Int) : hasB (fld k) 116 = kT k ∧ hasB (fld k) 115 = kT k := by
  rcases kinds k with rfl | rfl | rfl | rfl | rfl | rfl | ⟨h1, h2, h3, h4, h5, h6⟩
  case inr.inr.inr.inr.inr.inr => simp [fld, kT, h2, h3, h4, h5, h6]; exact ⟨rfl, rfl⟩
  all_goals exact ⟨rfl, rfl⟩
theorem fldS (k : Int) : hasB (fld k) 109 = kS k := by
  rcases kinds k with rfl | rfl | rfl | rfl | rfl | rfl | ⟨h1, h2, h3, h4, h5, h6⟩
  case inr.inr.inr.inr.inr.inr => simp [fld, kS, h2, h3, h4, h5, h6]; rfl
  all_goals rfl
/-- The code's test is the document's. -/
theorem codeOk_eq (k n t : Int) (l : List Int) (b q s m : Int) (hb : 0 ≤ b ∧ b < 18446744073709551616) (hq : 0 ≤ q ∧ q < 18446744073709551616) (hs : 0 ≤ s ∧ s < 18446744073709551616) (hm : 0 ≤ m ∧ m < 18446744073709551616) :
    codeOk k n t l b q s m = (numsOk k n t b q s m && listOk k l) := by
  obtain ⟨r1, r2, r3⟩ := fldR k
  obtain ⟨t1, t2⟩ := fldT k
  unfold codeOk numsOk listOk listB reqB reqZ tokB tokZ
  rw [fldN, r1, r2, r3, t1, t2, fldS]
  have hb2 : b ≤ 18446744073709551615 := by omega
  have hq2 : q ≤ 18446744073709551615 := by omega
  have hs2 : s ≤ 18446744073709551615 := by omega
  have hm2 : m ≤ 18446744073709551615 := by omega
  generalize (if kN k = true then decide (IsSet l) else decide (l.length = 0)) = L
  have e : ∀ x : Int, 0 ≤ x → (decide (x > 0) = !(x == 0)) := fun x hx => by
    apply Bool.eq_iff_iff.2
    simp
    omega
  have e1 : ∀ x : Int, 0 ≤ x → (decide (1 ≤ x) = !(x == 0)) := fun x hx => by
    apply Bool.eq_iff_iff.2
    simp
    omega
  apply Bool.eq_iff_iff.2
  cases kI k <;> cases kR k <;> cases kT k <;> cases kS k <;> cases L <;> simp [rightB] <;> omega
theorem sameB_refl (k n t : Int) (l : List Int) (b q s m : Int) : sameB k n t l b q s m k n t l b q s m = true := by simp [sameB]
theorem zero_bad : codeOk 0 0 0 [] 0 0 0 0 = false := by simp [codeOk, kI]

set_option maxRecDepth 100000 in
set_option maxHeartbeats 4000000 in
theorem cmdChecks_row (w : World) {v : Value} (z : OpenCmd w v) :
    Calls Try.prog 3 #[v] w fun e w' => e = .returned (.bool true) ∧ Below w.heap.size w w' := by
  obtain ⟨k, n, t, A, c, l, b, q, s, m, rfl, h, hl, hk, hn, ht, hb, hq, hs, hm⟩ := z
  have C1 := fun W hin => Lib.hid (ref_Copy_any W k n t A c l b q s m hin hl)
  have C2 := fun W A c hin => Lib.hid (cmd_Check_any W k n t A c l b q s m hin)
  have C3 := fun W => Lib.hid (cmd_Check_any W 0 0 0 none 0 [] 0 0 0 0 InN.nil)
  have C4 := fun W A c hin => Lib.hid (ref_Check_any W k n t A c l b q s m hin hn ht)
  have C5 := fun W A1 c1 A c h1 h2 => Lib.hid (ref_Same_any W k n t A1 c1 l b q s m k n t A c l b q s m h1 h2)
  rw [codeOk_eq k n t l b q s m (wf_u64 hb) (wf_u64 hq) (wf_u64 hs) (wf_u64 hm)] at C2
  rw [sameB_refl] at C5
  rw [zero_bad] at C3
  generalize errCmd (numsOk k n t b q s m && listOk k l) = E at C2 C4
  have HIN := Lib.hid h
  clear h hk hn ht hb hq hs hm hl
  obtain ⟨g, hg⟩ : ∃ g, w.heap.size = g := ⟨_, rfl⟩
  have hb0 : Blk (w.alloc (.cells (cmdCells k n t (.slice A l.length c) b q s m) 25)) g 25 (cmdCells k n t (.slice A l.length c) b q s m) := hg ▸ Blk.new _ _ _
  have hB0 : Below g w (w.alloc (.cells (cmdCells k n t (.slice A l.length c) b q s m) 25)) := (Below.refl _ _).alloc (by omega) _
  have e40 : errCmd false = 40 := rfl
  rw [e40] at C3
  clear e40
  simp only [cmdV]
  go_enter Try.func3, Try.ntmps3
  go_wp2_with fail
  refine (C1 _ (HIN.out.keep (by rw [hg]; exact hB0))).out.mono ?_
  rintro e w1 ⟨A1, c1, rfl, hin1, hB1⟩
  have hb1 := hb0.below hB1 hb0.lt
  have hBw1 : Below g w w1 := hB0.trans (hB1.mono (Nat.le_of_lt hb0.lt))
  obtain ⟨g1, hg1⟩ : ∃ g1, w1.heap.size = g1 := ⟨_, rfl⟩
  have hlt : g < g1 := hg1 ▸ hb1.lt
  have hb2 := hb1.alloc (.cells (cmdCells k n t (.slice A1 l.length c1) b q s m) 25)
  have ha2 : Blk (w1.alloc (.cells (cmdCells k n t (.slice A1 l.length c1) b q s m) 25)) g1 25 (cmdCells k n t (.slice A1 l.length c1) b q s m) := hg1 ▸ Blk.new _ _ _
  have hBw2 : Below g w (w1.alloc (.cells (cmdCells k n t (.slice A1 l.length c1) b q s m) 25)) := hBw1.alloc (by omega) _
  have HA := Lib.hid (hin1.keep (w1 := (w1.alloc (.cells (cmdCells k n t (.slice A1 l.length c1) b q s m) 25))) ((Below.refl _ _).alloc (Nat.le_refl _) _))
  clear hb0 hB0 hB1 hb1 hBw1 hin1
  simp only [cmdV]
  go_upto_region 2 with (fail)
  change Code.wp _ _ _ _ (w1.alloc (.cells (cmdCells k n t (.slice A1 l.length c1) b q s m) 25))
  generalize (w1.alloc (.cells (cmdCells k n t (.slice A1 l.length c1) b q s m) 25)) = W2 at hb2 ha2 hBw2 HA ⊢
  clear hg1
  obtain ⟨c0, c1', c2, c3, c4, c5, c6, c7⟩ := hb2.cmd
  obtain ⟨a0, a1, a2, a3, a4, a5, a6, a7⟩ := ha2.cmd
  go_wp2_with fail
  refine (C2 _ _ _ HA.out).out.mono ?_
  rintro e w3 ⟨rfl, hB3⟩
  clear c0 c1' c2 c3 c4 c5 c6 c7 a0 a1 a2 a3 a4 a5 a6 a7
  have hb3 := hb2.below hB3 hb2.lt
  have ha3 := ha2.below hB3 ha2.lt
  have hBw3 : Below g w w3 := hBw2.trans (hB3.mono (Nat.le_of_lt hb2.lt))
  have HA3 := Lib.hid (HA.out.keep hB3)
  clear hb2 ha2 hBw2 HA hB3
  obtain ⟨c0, c1', c2, c3, c4, c5, c6, c7⟩ := hb3.cmd
  obtain ⟨a0, a1, a2, a3, a4, a5, a6, a7⟩ := ha3.cmd
  go_wp2_with fail
  refine (C3 _).out.mono ?_
  rintro e w4 ⟨rfl, hB4⟩
  clear c0 c1' c2 c3 c4 c5 c6 c7 a0 a1 a2 a3 a4 a5 a6 a7
  have hb4 := hb3.below hB4 hb3.lt
  have ha4 := ha3.below hB4 ha3.lt
  have hBw4 : Below g w w4 := hBw3.trans (hB4.mono (Nat.le_of_lt hb3.lt))
  have HA4 := Lib.hid (HA3.out.keep hB4)
  clear hb3 ha3 hBw3 HA3 hB4
  obtain ⟨c0, c1', c2, c3, c4, c5, c6, c7⟩ := hb4.cmd
  obtain ⟨a0, a1, a2, a3, a4, a5, a6, a7⟩ := ha4.cmd
  go_wp2_with fail
  refine (C4 _ _ _ (HIN.out.keep (by rw [hg]; exact hBw4))).out.mono ?_
  rintro e w5 ⟨rfl, hB5⟩
  clear c0 c1' c2 c3 c4 c5 c6 c7 a0 a1 a2 a3 a4 a5 a6 a7
  have hb5 := hb4.below hB5 hb4.lt
  have ha5 := ha4.below hB5 ha4.lt
  have hBw5 : Below g w w5 := hBw4.trans (hB5.mono (Nat.le_of_lt hb4.lt))
  have HA5 := Lib.hid (HA4.out.keep hB5)
  clear hb4 ha4 hBw4 HA4 hB5
  obtain ⟨c0, c1', c2, c3, c4, c5, c6, c7⟩ := hb5.cmd
  obtain ⟨a0, a1, a2, a3, a4, a5, a6, a7⟩ := ha5.cmd
  go_wp2_with fail
  refine (C5 _ _ _ _ _ HA5.out (HIN.out.keep (by rw [hg]; exact hBw5))).out.mono ?_
  rintro e w6 ⟨rfl, hB6⟩
  have hBw6 : Below g w w6 := hBw5.trans (hB6.mono (Nat.le_of_lt hb5.lt))
  clear c0 c1' c2 c3 c4 c5 c6 c7 a0 a1 a2 a3 a4 a5 a6 a7
  go_wp2
  go_ret
  exact ⟨rfl, by rw [hg]; exact hBw6⟩
end Go.Proofs.Ytnpodnieahokjaa
