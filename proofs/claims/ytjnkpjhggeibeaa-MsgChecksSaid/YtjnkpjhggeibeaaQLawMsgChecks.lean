/- The walk of the law MsgChecks. -/
import Derived.Test.YtjnkpjhggeibeaaP5
import Derived.Test.YtjnkpjhggeibeaaP6
import Derived.Test.YtjnkpjhggeibeaaP7
import Derived.Test.YtjnkpjhggeibeaaP8
import Derived.Deep.WholeRow
namespace Go.Proofs.Ytjnkpjhggeibeaa
set_option maxRecDepth 100000
open Go.RowKit

theorem mg0_wf : mgZ.Wf := ⟨by decide, by decide, by decide, ⟨by decide, by decide⟩, ⟨by decide, by decide⟩, ⟨by decide, by decide⟩, ⟨by decide, by decide⟩, ⟨⟨by decide, by decide⟩, ⟨by decide, by decide⟩, by decide, by decide, ⟨by decide, by decide⟩, (fun _ h => by cases h), (fun _ h => by cases h)⟩⟩
theorem mg0_bad : errMsg (codeM mgZ []) = 80 := by
  have h : codeM mgZ [] = false := by
    rw [code_ref _ _ (by decide)]
    simp [refM, mgZ, mK, mT]
  rw [h]
  rfl
theorem mgV_eq (m : Mb) (p : Sa) (PA : Option Addr) (n PC : Nat) : mgV m p PA n PC = .agg (mgC m p PA n PC) := rfl
set_option maxHeartbeats 8000000 in
theorem msgChecks_row (w : World) {v : Value} (z : OpenMsg w v) :
    Calls Try.prog 3 #[v] w fun e w' => e = .returned (.bool true) ∧ Below w.heap.size w w' := by
  obtain ⟨m, p, PA, PC, xs, rfl, hin, hsh, wfx, wf, _⟩ := z
  obtain ⟨E, hE⟩ : ∃ E, errMsg (codeM m (xs.map (·.e))) = E := ⟨_, rfl⟩
  have HSH := Lib.hid hsh
  have HIN := Lib.hid hin
  have C1 := fun W h1 h2 => r08_Copy_any W m p PA PC xs h1 h2 wfx wf.sh
  have C2 : ∀ W q QA QC ys, ys.map (·.e) = xs.map (·.e) → InE W QA QC ys → InSh W m.sh q → Calls Try.prog 5 #[mgV m q QA ys.length QC] W fun e w' => e = .returned (.int .i64 E) ∧ Below W.heap.size W w' := by
    intro W q QA QC ys he h1 h2
    have := msg_Check_any W m q QA QC ys h1 (fun y hy => by
      have : y.e ∈ xs.map (·.e) := he ▸ List.mem_map_of_mem hy
      obtain ⟨x, hx, e⟩ := List.mem_map.1 this
      exact e ▸ wfx x hx) h2 wf.sh
    rw [he, hE] at this
    exact this
  have C3 := fun W => msg_Check_any W mgZ mgS none 0 [] InE.nil (fun _ h => by cases h) ⟨InN.nil, InS.nil, InS.nil⟩ mg0_wf.sh
  rw [List.map_nil, mg0_bad] at C3
  have C4 := fun W h1 h2 => r08_Check_any W m p PA PC xs h1 wfx h2
  rw [← code_ref m _ wf.tm.1, hE] at C4
  have C5 := fun W q QA QC ys (he : ys.map (·.e) = xs.map (·.e)) h1 s1 h2 s2 => r08_Same_eq W m q QA QC ys p PA PC xs h1 s1 h2 s2 he
  simp only [mgV_eq] at C1 C2 C4 C5 ⊢
  unfold mgV at C3
  simp only [mgZ, mgS, List.length_nil] at C3
  have C1 := Lib.hid C1
  have C2 := Lib.hid C2
  have C3 := Lib.hid C3
  have C4 := Lib.hid C4
  have C5 := Lib.hid C5
  clear hin wf hE hsh wfx
  obtain ⟨g, hg⟩ : ∃ g, w.heap.size = g := ⟨_, rfl⟩
  rw [hg]
  have hBx : Below g w (w.alloc (.cells (mgC m p PA xs.length PC) 32)) := (Below.refl _ _).alloc (by omega) _
  have hb1 : Blk (w.alloc (.cells (mgC m p PA xs.length PC) 32)) g 32 (mgC m p PA xs.length PC) := hg ▸ Blk.new _ _ _
  go_enter Try.func3, Try.ntmps3
  go_upto_region 1 with (fail)
  change Code.wp _ _ _ _ (w.alloc (.cells (mgC m p PA xs.length PC) 32))
  generalize (w.alloc (.cells (mgC m p PA xs.length PC) 32)) = W at hb1 hBx ⊢
  try rw [hg]
  have X1 := Lib.hid (C1.out W (HIN.out.keep (hg ▸ hBx)) (HSH.out.keep (hg ▸ hBx)))
  have HK := Lib.hid hb1
  have HB := Lib.hid hBx
  clear hb1 hBx
  go_wp2_with (refine wpList_load_row rfl 32 _ rfl g rfl 32 (mgC m p PA xs.length PC) HK.out _ Try.underlying32 rfl info_Msg ?_)
  refine X1.out.mono ?_
  rintro e w1 ⟨q, QA, QC, ys, rfl, he, hin1, hB1⟩
  have HE := Lib.hid he
  have HS := Lib.hid hin1.ins
  have HI := Lib.hid hin1.log.inn
  have HB := Lib.hid (HB.out.trans (hB1.mono (Nat.le_of_lt HK.out.lt)))
  have HK := Lib.hid (HK.out.below hB1 HK.out.lt)
  clear hB1 X1 C1 he hin1
  go_upto_region 2 with (refine wpList_store_row rfl 32 _ _ rfl w1.heap.size (mgC m q QA ys.length QC) rfl rfl 32 (mgC mgZ mgS none 0 0) (Blk.new w1 32 _) info_Msg rfl (mgC_one _ _ _ _ _) ?_; rw [World.setRow_alloc_new])
  have hal := (Below.refl w1.heap.size w1).alloc (Nat.le_refl _) (.cells (mgC m q QA ys.length QC) 32)
  have HK := Lib.hid (HK.out.alloc (.cells (mgC m q QA ys.length QC) 32))
  have HC : Hid (Blk (w1.alloc (.cells (mgC m q QA ys.length QC) 32)) w1.heap.size 32 (mgC m q QA ys.length QC)) := Blk.new _ _ _
  have HB := Lib.hid (HB.out.trans (hal.mono (by have := HB.out.size; omega)))
  have HI := Lib.hid (HI.out.keep hal)
  have HS := Lib.hid (HS.out.keep hal)
  clear hal
  generalize hgc : w1.heap.size = gc at HC ⊢
  generalize (w1.alloc (.cells (mgC m q QA ys.length QC) 32)) = W3 at HK HC HB HI HS ⊢
  clear hgc
  have X2 := Lib.hid (C2.out W3 q QA QC ys HE.out HI.out HS.out)
  go_wp2_with (refine wpList_load_row rfl 32 _ rfl gc rfl 32 (mgC m q QA ys.length QC) HC.out _ Try.underlying32 rfl info_Msg ?_)
  refine X2.out.mono ?_
  rintro e w4 ⟨rfl, hB4⟩
  have HI := Lib.hid (HI.out.keep hB4)
  have HS := Lib.hid (HS.out.keep hB4)
  have HB := Lib.hid (HB.out.trans (hB4.mono (Nat.le_of_lt HK.out.lt)))
  have HK := Lib.hid (HK.out.below hB4 HK.out.lt)
  have HC := Lib.hid (HC.out.below hB4 HC.out.lt)
  clear hB4 X2 C2
  go_wp2_with fail
  refine (C3.out _).mono ?_
  rintro e w5 ⟨rfl, hB5⟩
  have HI := Lib.hid (HI.out.keep hB5)
  have HS := Lib.hid (HS.out.keep hB5)
  have HB := Lib.hid (HB.out.trans (hB5.mono (Nat.le_of_lt HK.out.lt)))
  have HK := Lib.hid (HK.out.below hB5 HK.out.lt)
  have HC := Lib.hid (HC.out.below hB5 HC.out.lt)
  clear hB5 C3
  have X4 := Lib.hid (C4.out w5 (HIN.out.keep (hg ▸ HB.out)) (HSH.out.keep (hg ▸ HB.out)))
  go_wp2_with (refine wpList_load_want (by rfl) 32 _ rfl g rfl 32 (mgC m p PA xs.length PC) HK.out _ Try.underlying32 rfl info_Msg ?_)
  refine X4.out.mono ?_
  rintro e w6 ⟨rfl, hB6⟩
  have HI := Lib.hid (HI.out.keep hB6)
  have HS := Lib.hid (HS.out.keep hB6)
  have HB := Lib.hid (HB.out.trans (hB6.mono (Nat.le_of_lt HK.out.lt)))
  have HK := Lib.hid (HK.out.below hB6 HK.out.lt)
  have HC := Lib.hid (HC.out.below hB6 HC.out.lt)
  clear hB6 X4 C4
  have X5 := Lib.hid (C5.out w6 q QA QC ys HE.out HI.out HS.out (HIN.out.keep (hg ▸ HB.out)) (HSH.out.keep (hg ▸ HB.out)))
  go_wp2_with (first | (refine wpList_load_want (by rfl) 32 _ rfl g rfl 32 (mgC m p PA xs.length PC) HK.out _ Try.underlying32 rfl info_Msg ?_) | (refine wpList_load_want (by rfl) 32 _ rfl gc rfl 32 (mgC m q QA ys.length QC) HC.out _ Try.underlying32 rfl info_Msg ?_))
  refine X5.out.mono ?_
  rintro e w7 ⟨rfl, hB7⟩
  have HB := Lib.hid (HB.out.trans (hB7.mono (Nat.le_of_lt HK.out.lt)))
  clear hB7 X5
  go_wp2
  go_ret
  exact ⟨rfl, HB.out⟩
end Go.Proofs.Ytjnkpjhggeibeaa
