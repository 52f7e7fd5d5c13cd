/- The walk of the law ShotChecks. -/
import Derived.Test.YthdeappjankmmaaOpenShot
import Derived.Test.YthdeappjankmmaaShM
import Derived.Test.YthdeappjankmmaaShS2
namespace Go.Proofs.Ythdeappjankmmaa
open Go.RowKit

set_option maxRecDepth 100000 in
set_option maxHeartbeats 8000000 in
theorem shotChecks_row (w : World) {v : Value} (z : OpenShot w v) :
    Calls Try.prog 4 #[v] w fun e w' => e = .returned (.bool true) ∧ Below w.heap.size w w' := by
  obtain ⟨i, t, An, cn, ns, lim, nxt, Ah, ch, hs, Al, cl, ls, rfl, hn, hns, hh, hl, hw1, hw2, hi, ht, hlim, hnx⟩ := z
  have HN := Lib.hid hn
  have HH := Lib.hid hh
  have HL := Lib.hid hl
  have C1 := fun W h1 h2 h3 => r06_Copy_any W i t An cn ns lim nxt Ah ch hs Al cl ls h1 hns h2 h3
  have C2 := fun W A0 c0 A1 c1 A2 c2 h1 h2 h3 => shot_Check_any W i t A0 c0 ns lim nxt A1 c1 hs A2 c2 ls h1 h2 h3 hw1 hw2 hnx.2
  have C3 := fun W => shot_Check_any W 0 0 none 0 [] 0 0 none 0 [] none 0 [] InN.nil InS.nil InS.nil (fun _ h => by cases h) (fun _ h => by cases h) (by omega)
  have C4 := fun W h1 h2 h3 => r06_Check_any W i t An cn ns lim nxt Ah ch hs Al cl ls h1 h2 h3
  have C5 := fun W A0 c0 A1 c1 A2 c2 h1 h2 h3 h4 h5 h6 => r06_Same_eq W i t A0 c0 An cn ns lim nxt A1 c1 Ah ch hs A2 c2 Al cl ls h1 h2 h3 h4 h5 h6
  have hz : errShot (decide (ShotOk 0 0 [] 0 0 [] [])) = 60 := shot_bad (fun h => by have := h.led.head.l1; omega)
  rw [hz] at C3
  obtain ⟨E, hE⟩ : ∃ E, errShot (decide (ShotOk i t ns lim nxt hs ls)) = E := ⟨_, rfl⟩
  rw [hE] at C2 C4
  simp only [shV, List.length_nil] at C1 C2 C3 C4 C5 ⊢
  have C1 := Lib.hid C1
  have C2 := Lib.hid C2
  have C3 := Lib.hid C3
  have C4 := Lib.hid C4
  have C5 := Lib.hid C5
  clear hn hh hl hw1 hw2 hi ht hlim hnx hz hE
  obtain ⟨g, hg⟩ : ∃ g, w.heap.size = g := ⟨_, rfl⟩
  rw [hg]
  have hBx : Below g w (w.alloc (.cells (shC i t (.slice An ns.length cn) lim nxt (.slice Ah hs.length ch) (.slice Al ls.length cl)) 29)) := (Below.refl _ _).alloc (by omega) _
  have hb1 : Blk (w.alloc (.cells (shC i t (.slice An ns.length cn) lim nxt (.slice Ah hs.length ch) (.slice Al ls.length cl)) 29)) g 29 (shC i t (.slice An ns.length cn) lim nxt (.slice Ah hs.length ch) (.slice Al ls.length cl)) := hg ▸ Blk.new _ _ _
  go_enter Try.func4, Try.ntmps4
  go_upto_region 1 with (fail)
  change Code.wp _ _ _ _ (w.alloc (.cells (shC i t (.slice An ns.length cn) lim nxt (.slice Ah hs.length ch) (.slice Al ls.length cl)) 29))
  generalize (w.alloc (.cells (shC i t (.slice An ns.length cn) lim nxt (.slice Ah hs.length ch) (.slice Al ls.length cl)) 29)) = W at hb1 hBx ⊢
  try rw [hg]
  have X1 := Lib.hid (C1.out W (HN.out.keep (hg ▸ hBx)) (HH.out.keep (hg ▸ hBx)) (HL.out.keep (hg ▸ hBx)))
  obtain ⟨q0, q1, q2, q3, q4, q5, q6⟩ := hb1.sh
  go_wp2_with fail
  refine X1.out.mono ?_
  rintro e w1 ⟨A0, c0, A1, c1, A2, c2, rfl, hin1, hB1⟩
  have hb2 := hb1.below hB1 hb1.lt
  have hB2 := hBx.trans (hB1.mono (Nat.le_of_lt hb1.lt))
  clear q0 q1 q2 q3 q4 q5 q6 hb1 hBx hB1 X1 C1
  obtain ⟨gc, hgc⟩ : ∃ gc, w1.heap.size = gc := ⟨_, rfl⟩
  have hltg : g < gc := hgc ▸ hb2.lt
  have hc3 : Blk (w1.alloc (.cells (shC i t (.slice A0 ns.length c0) lim nxt (.slice A1 hs.length c1) (.slice A2 ls.length c2)) 29)) gc 29 (shC i t (.slice A0 ns.length c0) lim nxt (.slice A1 hs.length c1) (.slice A2 ls.length c2)) := hgc ▸ Blk.new _ _ _
  have hb3 := hb2.alloc (.cells (shC i t (.slice A0 ns.length c0) lim nxt (.slice A1 hs.length c1) (.slice A2 ls.length c2)) 29)
  have hB3 := hB2.alloc (by omega) (.cells (shC i t (.slice A0 ns.length c0) lim nxt (.slice A1 hs.length c1) (.slice A2 ls.length c2)) 29)
  have hin3 := hin1.keep ((Below.refl w1.heap.size w1).alloc (Nat.le_refl _) (.cells (shC i t (.slice A0 ns.length c0) lim nxt (.slice A1 hs.length c1) (.slice A2 ls.length c2)) 29))
  clear hb2 hB2 hin1
  go_upto_region 2 with (fail)
  change Code.wp _ _ _ _ (w1.alloc (.cells (shC i t (.slice A0 ns.length c0) lim nxt (.slice A1 hs.length c1) (.slice A2 ls.length c2)) 29))
  generalize (w1.alloc (.cells (shC i t (.slice A0 ns.length c0) lim nxt (.slice A1 hs.length c1) (.slice A2 ls.length c2)) 29)) = W3 at hc3 hb3 hB3 hin3 ⊢
  try rw [hgc]
  clear hgc
  have X2 := Lib.hid (C2.out W3 A0 c0 A1 c1 A2 c2 hin3.hn.inn hin3.led.hh.inn hin3.led.hl.inn)
  have HI3 := Lib.hid hin3
  have HB3 := Lib.hid hB3
  have HC3 := Lib.hid hc3
  obtain ⟨x0, x1, x2, x3, x4, x5, x6⟩ := hc3.sh
  clear hin3 hB3 hc3 C2
  go_wp2_with fail
  refine X2.out.mono ?_
  rintro e w4 ⟨rfl, hB4⟩
  have hltc := HC3.out.lt
  have hb4 := hb3.below hB4 hb3.lt
  have hc4 := HC3.out.below hB4 hltc
  have HI4 := Lib.hid (HI3.out.keep hB4)
  have HB4 := Lib.hid (HB3.out.trans (hB4.mono (Nat.le_of_lt hb3.lt)))
  clear hb3 hB4 x0 x1 x2 x3 x4 x5 x6 HI3 HB3 HC3 X2 hltc
  have HBB := Lib.hid hb4
  have HCC := Lib.hid hc4
  clear hb4 hc4
  go_wp2_with fail
  refine (C3.out _).mono ?_
  rintro e w5 ⟨rfl, hB5⟩
  have hb5 := HBB.out.below hB5 HBB.out.lt
  have hc5 := HCC.out.below hB5 HCC.out.lt
  have HI5 := Lib.hid (HI4.out.keep hB5)
  have hB5w := HB4.out.trans (hB5.mono (Nat.le_of_lt HBB.out.lt))
  clear hB5 HI4 HB4 HBB HCC C3
  have X4 := Lib.hid (C4.out w5 (HN.out.keep (hg ▸ hB5w)) (HH.out.keep (hg ▸ hB5w)) (HL.out.keep (hg ▸ hB5w)))
  have HB5 := Lib.hid hB5w
  have HBB := Lib.hid hb5
  have HCC := Lib.hid hc5
  obtain ⟨q0, q1, q2, q3, q4, q5, q6⟩ := hb5.sh
  clear hb5 hc5 hB5w
  go_wp2_with fail
  refine X4.out.mono ?_
  rintro e w6 ⟨rfl, hB6⟩
  have hb6 := HBB.out.below hB6 HBB.out.lt
  have hc6 := HCC.out.below hB6 HCC.out.lt
  have hin6 := HI5.out.keep hB6
  have hB6w := HB5.out.trans (hB6.mono (Nat.le_of_lt HBB.out.lt))
  clear hB6 HI5 HB5 HBB HCC X4 q0 q1 q2 q3 q4 q5 q6
  have X5 := Lib.hid (C5.out w6 A0 c0 A1 c1 A2 c2 hin6.hn.inn (HN.out.keep (hg ▸ hB6w)) hin6.led.hh.inn (HH.out.keep (hg ▸ hB6w)) hin6.led.hl.inn (HL.out.keep (hg ▸ hB6w)))
  obtain ⟨q0, q1, q2, q3, q4, q5, q6⟩ := hb6.sh
  obtain ⟨x0, x1, x2, x3, x4, x5, x6⟩ := hc6.sh
  have HB6 := Lib.hid hB6w
  have hgl := hb6.lt
  clear hb6 hc6 hin6 hB6w
  go_wp2_with fail
  refine X5.out.mono ?_
  rintro e w7 ⟨rfl, hB7⟩
  have HB7 := Lib.hid (HB6.out.trans (hB7.mono (Nat.le_of_lt hgl)))
  clear hB7 q0 q1 q2 q3 q4 q5 q6 x0 x1 x2 x3 x4 x5 x6 X5
  go_wp2
  go_ret
  exact ⟨rfl, HB7.out⟩
end Go.Proofs.Ythdeappjankmmaa
