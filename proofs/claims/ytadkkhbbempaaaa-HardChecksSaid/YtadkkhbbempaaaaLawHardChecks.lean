/- The walk of the law HardChecks. -/
import Derived.Test.YtadkkhbbempaaaaOpenHrd
import Derived.Test.YtadkkhbbempaaaaHdK
import Derived.Test.YtadkkhbbempaaaaHdM
import Derived.Test.YtadkkhbbempaaaaHdY
import Derived.Test.YtadkkhbbempaaaaHdS
namespace Go.Proofs.Ytadkkhbbempaaaa
set_option maxRecDepth 100000
open Go.RowKit

def hrd0 : Hb := ⟨0, 0, 0, ⟨0, 0, [], 0, 0, [], []⟩⟩
def sa0 : Sa := ⟨none, 0, none, 0, none, 0⟩
theorem hrd0_in (w : World) : InH w hrd0 sa0 none 0 [] := ⟨⟨InN.nil, InS.nil, InS.nil⟩, InE.nil⟩
theorem hrd0_wf : (hrd0.hrd []).Wf := ⟨⟨by decide, by decide⟩, ⟨by decide, by decide⟩, by decide, ⟨⟨by decide, by decide⟩, ⟨by decide, by decide⟩, by decide, by decide, ⟨by decide, by decide⟩, (fun _ h => by cases h), (fun _ h => by cases h)⟩, (fun _ h => by cases h)⟩
theorem hrd0_no : ¬ (hrd0.hrd []).Ok := fun h => by
  have := h.sh.led.head.l1
  exact absurd this (by decide)

set_option maxHeartbeats 8000000 in
theorem hardChecks_row (w : World) {v : Value} (z : OpenHrd w v) :
    Calls Try.prog 3 #[v] w fun e w' => e = .returned (.bool true) ∧ Below w.heap.size w w' := by
  obtain ⟨h, p, PA, PC, xs, rfl, hin, wf, _⟩ := z
  obtain ⟨E, hE⟩ : ∃ E, errRec (decide (h.hrd xs).Ok) = E := ⟨_, rfl⟩
  have HIN := Lib.hid hin
  have C1 := fun W h1 => r13_Copy_any W h p PA PC xs h1 wf
  have C2 := fun W q QA QC ys (he : ys.map (·.e) = xs.map (·.e)) (h1 : InH W h q QA QC ys) => hard_Check_any W h q QA QC ys h1 (by rw [show h.hrd ys = h.hrd xs by unfold Hb.hrd; rw [he]]; exact wf)
  have C2 : ∀ W q QA QC ys, ys.map (·.e) = xs.map (·.e) → InH W h q QA QC ys → Calls Try.prog 13 #[hrdV h q QA QC ys] W fun e w' => e = .returned (.int .i64 E) ∧ Below W.heap.size W w' := by
    intro W q QA QC ys he h1
    have := C2 W q QA QC ys he h1
    rw [show h.hrd ys = h.hrd xs by unfold Hb.hrd; rw [he], hE] at this
    exact this
  have C3 := fun W => hard_Check_any W hrd0 sa0 none 0 [] (hrd0_in W) hrd0_wf
  rw [rec_bad hrd0_no] at C3
  have C4 := fun W h1 => r13_Check_any W h p PA PC xs h1 wf
  rw [hE] at C4
  have C5 := fun W q QA QC ys (he : ys.map (·.e) = xs.map (·.e)) h1 h2 => r13_Same_eq W h q QA QC ys p PA PC xs h1 h2 he
  unfold hrdV at C1 C2 C3 C4 C5 ⊢
  simp only [hrd0, sa0, List.length_nil] at C3
  have C1 := Lib.hid C1
  have C2 := Lib.hid C2
  have C3 := Lib.hid C3
  have C4 := Lib.hid C4
  have C5 := Lib.hid C5
  clear hin wf hE
  obtain ⟨g, hg⟩ : ∃ g, w.heap.size = g := ⟨_, rfl⟩
  rw [hg]
  have hBx : Below g w (w.alloc (.cells (hrdC h p PA PC xs) 32)) := (Below.refl _ _).alloc (by omega) _
  have hb1 : Blk (w.alloc (.cells (hrdC h p PA PC xs) 32)) g 32 (hrdC h p PA PC xs) := hg ▸ Blk.new _ _ _
  go_enter Try.func3, Try.ntmps3
  go_upto_region 1 with (fail)
  change Code.wp _ _ _ _ (w.alloc (.cells (hrdC h p PA PC xs) 32))
  generalize (w.alloc (.cells (hrdC h p PA PC xs) 32)) = W at hb1 hBx ⊢
  try rw [hg]
  have X1 := Lib.hid (C1.out W (HIN.out.keep (hg ▸ hBx)))
  obtain ⟨q0, q1, q2, q3, q4, q5, q6, q7, q8, q9, q10⟩ := hb1.hrd
  go_wp2_with fail
  refine X1.out.mono ?_
  rintro e w1 ⟨q, QA, QC, ys, rfl, he, hin1, hB1⟩
  have HE := Lib.hid he
  have hin1 := hin1.inh
  have hb2 := hb1.below hB1 hb1.lt
  have hB2 := hBx.trans (hB1.mono (Nat.le_of_lt hb1.lt))
  clear q0 q1 q2 q3 q4 q5 q6 q7 q8 q9 q10 hb1 hBx hB1 X1 C1 he
  obtain ⟨gc, hgc⟩ : ∃ gc, w1.heap.size = gc := ⟨_, rfl⟩
  have hltg : g < gc := hgc ▸ hb2.lt
  have hc3 : Blk (w1.alloc (.cells (hrdC h q QA QC ys) 32)) gc 32 (hrdC h q QA QC ys) := hgc ▸ Blk.new _ _ _
  have hb3 := hb2.alloc (.cells (hrdC h q QA QC ys) 32)
  have hB3 := hB2.alloc (by omega) (.cells (hrdC h q QA QC ys) 32)
  have hin3 := hin1.keep ((Below.refl w1.heap.size w1).alloc (Nat.le_refl _) (.cells (hrdC h q QA QC ys) 32))
  clear hb2 hB2 hin1
  go_upto_region 2 with (fail)
  change Code.wp _ _ _ _ (w1.alloc (.cells (hrdC h q QA QC ys) 32))
  generalize (w1.alloc (.cells (hrdC h q QA QC ys) 32)) = W3 at hc3 hb3 hB3 hin3 ⊢
  try rw [hgc]
  clear hgc
  have X2 := Lib.hid (C2.out W3 q QA QC ys HE.out hin3)
  have HI3 := Lib.hid hin3
  have HB3 := Lib.hid hB3
  have HC3 := Lib.hid hc3
  obtain ⟨x0, x1, x2, x3, x4, x5, x6, x7, x8, x9, x10⟩ := hc3.hrd
  clear hin3 hB3 hc3 C2
  go_wp2_with fail
  refine X2.out.mono ?_
  rintro e w4 ⟨rfl, hB4⟩
  have hltc := HC3.out.lt
  have hb4 := hb3.below hB4 hb3.lt
  have hc4 := HC3.out.below hB4 hltc
  have HI4 := Lib.hid (HI3.out.keep hB4)
  have HB4 := Lib.hid (HB3.out.trans (hB4.mono (Nat.le_of_lt hb3.lt)))
  clear hb3 hB4 x0 x1 x2 x3 x4 x5 x6 x7 x8 x9 x10 HI3 HB3 HC3 X2 hltc
  have HBB := Lib.hid hb4
  have HCC := Lib.hid hc4
  clear hb4 hc4
  go_wp2_with fail
  refine (C3.out _).mono ?_
  rintro e w5 ⟨rfl, hB5⟩
  have hb5 := HBB.out.below hB5 HBB.out.lt
  have hc5 := HCC.out.below hB5 HCC.out.lt
  have HI5 := Lib.hid (HI4.out.keep hB5)
  have hB5w := HB4.out.trans (hB5.mono (Nat.le_of_lt HBB.out.lt))
  clear hB5 HI4 HB4 HBB HCC C3
  have X4 := Lib.hid (C4.out w5 (HIN.out.keep (hg ▸ hB5w)))
  have HB5 := Lib.hid hB5w
  have HBB := Lib.hid hb5
  have HCC := Lib.hid hc5
  obtain ⟨q0, q1, q2, q3, q4, q5, q6, q7, q8, q9, q10⟩ := hb5.hrd
  clear hb5 hc5 hB5w
  go_wp2_with fail
  refine X4.out.mono ?_
  rintro e w6 ⟨rfl, hB6⟩
  have hb6 := HBB.out.below hB6 HBB.out.lt
  have hc6 := HCC.out.below hB6 HCC.out.lt
  have hin6 := HI5.out.keep hB6
  have hB6w := HB5.out.trans (hB6.mono (Nat.le_of_lt HBB.out.lt))
  clear hB6 HI5 HB5 HBB HCC X4 q0 q1 q2 q3 q4 q5 q6 q7 q8 q9 q10
  have X5 := Lib.hid (C5.out w6 q QA QC ys HE.out hin6 (HIN.out.keep (hg ▸ hB6w)))
  obtain ⟨q0, q1, q2, q3, q4, q5, q6, q7, q8, q9, q10⟩ := hb6.hrd
  obtain ⟨x0, x1, x2, x3, x4, x5, x6, x7, x8, x9, x10⟩ := hc6.hrd
  have HB6 := Lib.hid hB6w
  have hgl := hb6.lt
  clear hb6 hc6 hin6 hB6w
  go_wp2_with fail
  refine X5.out.mono ?_
  rintro e w7 ⟨rfl, hB7⟩
  have HB7 := Lib.hid (HB6.out.trans (hB7.mono (Nat.le_of_lt hgl)))
  clear hB7 q0 q1 q2 q3 q4 q5 q6 q7 q8 q9 q10 x0 x1 x2 x3 x4 x5 x6 x7 x8 x9 x10 X5
  go_wp2
  go_ret
  exact ⟨rfl, HB7.out⟩
end Go.Proofs.Ytadkkhbbempaaaa
