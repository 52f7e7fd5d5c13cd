/- The walk of the law ShotBack. -/
import Derived.Test.YthdeappjankmmaaSdL
import Derived.Test.YthdeappjankmmaaShH
namespace Go.Proofs.Ythdeappjankmmaa
open Go.RowKit

set_option maxRecDepth 100000 in
set_option maxHeartbeats 8000000 in
theorem shotBack_row (w : World) {v : Value} (z : OpenShot w v) :
    Calls Try.prog 7 #[v] w fun e w' => e = .returned (.bool true) ∧ Below w.heap.size w w' := by
  obtain ⟨i, t, An, cn, ns, lim, nxt, Ah, ch, hs, Al, cl, ls, rfl, hn, hns, hh, hl, hw1, hw2, hi, ht, hlim, hnx⟩ := z
  have hIN : ShR w An cn ns Ah ch hs Al cl ls := ⟨hn, hh, hl⟩
  have HIN := Lib.hid hIN
  have C3 := fun W => Lib.hid (live_any W)
  have hec := shot_enc_cases i t An cn ns lim nxt Ah ch hs Al cl ls hw1 hw2 hi ht hnx
  have CK := fun W (k : ShR W An cn ns Ah ch hs Al cl ls) => shot_Check_any W i t An cn ns lim nxt Ah ch hs Al cl ls k.n k.h k.l hw1 hw2 hnx.2
  have C5 := fun W A0 c0 A1 c1 A2 c2 (k1 : ShR W An cn ns Ah ch hs Al cl ls) (k2 : ShR W A0 c0 ns A1 c1 hs A2 c2 ls) => r06_Same_eq W i t An cn A0 c0 ns lim nxt Ah ch A1 c1 hs Al cl A2 c2 ls k1.n k2.n k1.h k2.h k1.l k2.l
  clear hn hh hl hw1 hw2 hi ht hlim hnx hIN hns
  obtain ⟨g, hg⟩ : ∃ g, w.heap.size = g := ⟨_, rfl⟩
  rw [hg]
  have hBx : Below g w (w.alloc (.cells (shC i t (.slice An ns.length cn) lim nxt (.slice Ah hs.length ch) (.slice Al ls.length cl)) 29)) := (Below.refl _ _).alloc (by omega) _
  have hb1 : Blk (w.alloc (.cells (shC i t (.slice An ns.length cn) lim nxt (.slice Ah hs.length ch) (.slice Al ls.length cl)) 29)) g 29 (shC i t (.slice An ns.length cn) lim nxt (.slice Ah hs.length ch) (.slice Al ls.length cl)) := hg ▸ Blk.new _ _ _
  rcases hec with ⟨hbad, C1⟩ | ⟨ok, nu, C1⟩
  · rw [shot_bad hbad] at CK
    unfold shV at C1 CK ⊢
    have CK := Lib.hid CK
    have C1 := Lib.hid C1
    clear hbad C5
    go_enter Try.func7, Try.ntmps7
    go_upto_region 1 with (fail)
    change Code.wp _ _ _ _ (w.alloc (.cells (shC i t (.slice An ns.length cn) lim nxt (.slice Ah hs.length ch) (.slice Al ls.length cl)) 29))
    generalize (w.alloc (.cells (shC i t (.slice An ns.length cn) lim nxt (.slice Ah hs.length ch) (.slice Al ls.length cl)) 29)) = W at hb1 hBx ⊢
    try rw [hg]
    go_wp2_with fail
    refine (C3 _).out.mono ?_
    rintro e w1 ⟨rfl, hB1⟩
    have hb2 := hb1.below hB1 hb1.lt
    have hB2 := hBx.trans (hB1.mono (Nat.le_of_lt hb1.lt))
    have X1 := Lib.hid (C1.out w1 (HIN.out.keep (hg ▸ hB2)))
    clear hb1 hBx hB1 C3
    obtain ⟨q0, q1, q2, q3, q4, q5, q6⟩ := hb2.sh
    go_wp2_with fail
    refine X1.out.mono ?_
    rintro e w2 ⟨rfl, hB3⟩
    have hb3 := hb2.below hB3 hb2.lt
    have hB4 := hB2.trans (hB3.mono (Nat.le_of_lt hb2.lt))
    have X2 := Lib.hid (CK.out w2 (HIN.out.keep (hg ▸ hB4)))
    have HB4 := Lib.hid hB4
    clear hb2 hB2 hB3 q0 q1 q2 q3 q4 q5 q6 X1 hB4
    obtain ⟨q0, q1, q2, q3, q4, q5, q6⟩ := hb3.sh
    have hgl := hb3.lt
    clear hb3
    go_wp2_with fail
    refine X2.out.mono ?_
    rintro e w3 ⟨rfl, hB5⟩
    have HB5 := Lib.hid (HB4.out.trans (hB5.mono (Nat.le_of_lt hgl)))
    clear hB5 q0 q1 q2 q3 q4 q5 q6 X2
    go_wp2
    go_ret
    exact ⟨rfl, HB5.out⟩
  · have hlen := shotB_len nu
    have hbyt := shotB_byt i t ns lim nxt hs ls
    obtain ⟨bs, hbs⟩ : ∃ bs, shotB i t ns lim nxt hs ls = bs := ⟨_, rfl⟩
    obtain ⟨s1, s2, s3⟩ := shot_back (lb := bs) nu ok hbs.symm (by rw [← hbs]; omega)
    have CD := fun W A c (k : In8 W A c bs) => shot_Decode_of W A c bs k s1 s2 s3
    rw [hbs] at hlen hbyt
    rw [hbs] at C1
    unfold shV at C1 C5 CD ⊢
    have C1 := Lib.hid C1
    have C5 := Lib.hid C5
    have CD := Lib.hid CD
    have HBY := Lib.hid hbyt
    clear hbs s1 s2 s3 hbyt CK ok nu
    go_enter Try.func7, Try.ntmps7
    go_upto_region 1 with (fail)
    change Code.wp _ _ _ _ (w.alloc (.cells (shC i t (.slice An ns.length cn) lim nxt (.slice Ah hs.length ch) (.slice Al ls.length cl)) 29))
    generalize (w.alloc (.cells (shC i t (.slice An ns.length cn) lim nxt (.slice Ah hs.length ch) (.slice Al ls.length cl)) 29)) = W at hb1 hBx ⊢
    try rw [hg]
    go_wp2_with fail
    refine (C3 _).out.mono ?_
    rintro e w1 ⟨rfl, hB1⟩
    have hb2 := hb1.below hB1 hb1.lt
    have hB2 := hBx.trans (hB1.mono (Nat.le_of_lt hb1.lt))
    have X1 := Lib.hid (C1.out w1 (HIN.out.keep (hg ▸ hB2)))
    clear hb1 hBx hB1 C3
    obtain ⟨q0, q1, q2, q3, q4, q5, q6⟩ := hb2.sh
    go_wp2_with fail
    refine X1.out.mono ?_
    rintro e w2 ⟨v1, rfl, ho1, hB3⟩
    have hb3 := hb2.below hB3 hb2.lt
    have hB4 := hB2.trans (hB3.mono (Nat.le_of_lt hb2.lt))
    obtain ⟨A1, c1, rfl, hin1⟩ := In8.own ho1 HBY.out (by omega)
    have X2 := Lib.hid (CD.out w2 A1 c1 hin1)
    have HB4 := Lib.hid hB4
    have HBB := Lib.hid hb3
    have hgl := hb3.lt
    clear hb2 hB2 hB3 q0 q1 q2 q3 q4 q5 q6 X1 hB4 ho1 hin1 hb3
    go_wp2_with fail
    refine X2.out.mono ?_
    rintro e w3 ⟨A0, c0, A2, c2, A3, c3, rfl, hin3, hB5⟩
    have hb4 := HBB.out.below hB5 hgl
    have hB6 := HB4.out.trans (hB5.mono (Nat.le_of_lt hgl))
    obtain ⟨gc, hgc⟩ : ∃ gc, w3.heap.size = gc := ⟨_, rfl⟩
    have hltg : g < gc := hgc ▸ hb4.lt
    have hc5 : Blk (w3.alloc (.cells (shC i t (.slice A0 ns.length c0) lim nxt (.slice A2 hs.length c2) (.slice A3 ls.length c3)) 29)) gc 29 (shC i t (.slice A0 ns.length c0) lim nxt (.slice A2 hs.length c2) (.slice A3 ls.length c3)) := hgc ▸ Blk.new _ _ _
    have hb5 := hb4.alloc (.cells (shC i t (.slice A0 ns.length c0) lim nxt (.slice A2 hs.length c2) (.slice A3 ls.length c3)) 29)
    have hB7 := hB6.alloc (by omega) (.cells (shC i t (.slice A0 ns.length c0) lim nxt (.slice A2 hs.length c2) (.slice A3 ls.length c3)) 29)
    have hin4 := hin3.keep ((Below.refl w3.heap.size w3).alloc (Nat.le_refl _) (.cells (shC i t (.slice A0 ns.length c0) lim nxt (.slice A2 hs.length c2) (.slice A3 ls.length c3)) 29))
    clear hb4 hB6 hB5 hin3 X2 HBB HB4
    go_upto_region 6 with (fail)
    change Code.wp _ _ _ _ (w3.alloc (.cells (shC i t (.slice A0 ns.length c0) lim nxt (.slice A2 hs.length c2) (.slice A3 ls.length c3)) 29))
    generalize (w3.alloc (.cells (shC i t (.slice A0 ns.length c0) lim nxt (.slice A2 hs.length c2) (.slice A3 ls.length c3)) 29)) = W5 at hc5 hb5 hB7 hin4 ⊢
    try rw [hgc]
    clear hgc
    have X5 := Lib.hid (C5.out W5 A0 c0 A2 c2 A3 c3 (HIN.out.keep (hg ▸ hB7)) hin4)
    obtain ⟨q0, q1, q2, q3, q4, q5, q6⟩ := hb5.sh
    obtain ⟨x0, x1, x2, x3, x4, x5, x6⟩ := hc5.sh
    have HB7 := Lib.hid hB7
    have hgl5 := hb5.lt
    clear hb5 hc5 hin4 hB7
    go_wp2_with fail
    refine X5.out.mono ?_
    rintro e w7 ⟨rfl, hB8⟩
    have HB8 := Lib.hid (HB7.out.trans (hB8.mono (Nat.le_of_lt hgl5)))
    clear hB8 q0 q1 q2 q3 q4 q5 q6 x0 x1 x2 x3 x4 x5 x6 X5
    go_wp2
    go_ret
    exact ⟨rfl, HB8.out⟩
end Go.Proofs.Ythdeappjankmmaa
