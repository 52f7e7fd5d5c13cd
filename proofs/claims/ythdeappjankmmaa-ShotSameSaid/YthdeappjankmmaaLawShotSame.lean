/- The walk of the law ShotSame. -/
import Derived.Test.YthdeappjankmmaaSdL
import Derived.Test.YthdeappjankmmaaShH
namespace Go.Proofs.Ythdeappjankmmaa
open Go.RowKit

set_option maxRecDepth 100000 in
set_option maxHeartbeats 8000000 in
theorem shotSame_row (w : World) {vb : Value} (zb : OpenB w vb) :
    Calls Try.prog 8 #[vb] w fun e w' => e = .returned (.bool true) ∧ Below w.heap.size w w' := by
  obtain ⟨A, c, lb, rfl, hin, hlb⟩ := zb
  have C3 := fun W => Lib.hid (live_any W)
  have HIN := Lib.hid hin
  have hbyt := hin.byt
  obtain ⟨g, hg⟩ : ∃ g, w.heap.size = g := ⟨_, rfl⟩
  rw [hg]
  by_cases hE : sE lb = 0
  rotate_left
  · obtain ⟨E, hEE⟩ : ∃ E, sE lb = E := ⟨_, rfl⟩
    rw [hEE] at hE
    have CD := fun W (k : In8 W A c lb) => shot_Decode_err W A c lb k hEE hE
    unfold shV at CD
    have CD := Lib.hid CD
    have hEn : (E != 0) = true := bne_iff_ne.2 hE
    clear hEE hE hin hbyt
    go_enter Try.func8, Try.ntmps8
    go_wp2_with fail
    refine (C3 _).out.mono ?_
    rintro e w1 ⟨rfl, hB1⟩
    have CD1 := Lib.hid (CD.out w1 (HIN.out.keep hB1))
    have HB1 := Lib.hid (show Below g w w1 from hg ▸ hB1)
    have hs1 : g ≤ w1.heap.size := by have := hB1.size; omega
    clear hB1 CD
    go_wp2_with fail
    refine CD1.out.mono ?_
    rintro e w2 ⟨rfl, hB2⟩
    have hs2 : g ≤ w2.heap.size := Nat.le_trans hs1 hB2.size
    have HB2 := Lib.hid (HB1.out.trans (hB2.mono hs1))
    clear hB2 CD1
    go_wp2
    go_ret
    exact ⟨rfl, HB2.out.alloc hs2 _⟩
  · obtain ⟨ok, hsame⟩ := shot_same hbyt hE
    have hl1 : 1 ≤ lb.length := by
      rcases Nat.eq_zero_or_pos lb.length with h0 | h0
      · rw [List.eq_nil_of_length_eq_zero h0, sE, if_neg (by simp), if_pos List.length_nil] at hE
        exact absurd hE (by decide)
      · exact h0
    obtain ⟨wi, wt, wn, w1, w2, n1, n2, n3⟩ := shot_wf hbyt hl1
    obtain ⟨i, ei⟩ : ∃ i, (sI lb).1 = i := ⟨_, rfl⟩
    obtain ⟨t, et⟩ : ∃ t, (sT lb).1 = t := ⟨_, rfl⟩
    obtain ⟨ns, en⟩ : ∃ ns, (sNs lb).1 = ns := ⟨_, rfl⟩
    obtain ⟨lim, el⟩ : ∃ lim, (sLim lb).1 = lim := ⟨_, rfl⟩
    obtain ⟨nxt, ex⟩ : ∃ nxt, (sNxt lb).1 = nxt := ⟨_, rfl⟩
    obtain ⟨hs, eh⟩ : ∃ hs, (sHs lb).1 = hs := ⟨_, rfl⟩
    obtain ⟨ls, es⟩ : ∃ ls, (sLs lb).1 = ls := ⟨_, rfl⟩
    have F : Front lb i t ns lim nxt hs := ⟨ei, et, en, el, ex, eh⟩
    rw [ei, et, en, el, ex, eh, es] at ok hsame
    rw [ei] at wi
    rw [et] at wt
    rw [ex] at wn
    rw [eh] at w1 n2
    rw [es] at w2 n3
    have CD := fun W (k : In8 W A c lb) => shot_Decode_of W A c lb k hE F es
    have CE : ∀ An cn Ah ch Al cl, ∀ W, ShR W An cn ns Ah ch hs Al cl ls → Calls Try.prog 16 #[shV i t (.slice An ns.length cn) lim nxt (.slice Ah hs.length ch) (.slice Al ls.length cl)] W fun e w' => ∃ v, e = .returned (.tuple #[v, .int .i64 0]) ∧ Own8 w' W.heap.size v lb ∧ Below W.heap.size W w' := fun An cn Ah ch Al cl W z => by
      rcases shot_enc_cases i t An cn ns lim nxt Ah ch hs Al cl ls w1 w2 wi wt wn with ⟨hb, _⟩ | ⟨_, _, hC⟩
      · exact absurd ok hb
      · rw [hsame] at hC
        exact hC W z
    unfold shV at CD CE
    have CD := Lib.hid CD
    have CE := Lib.hid CE
    have HBY := Lib.hid hbyt
    clear ok hsame F ei et en el ex eh es wi wt wn w1 w2 n1 n2 n3 hE hin hbyt
    go_enter Try.func8, Try.ntmps8
    go_wp2_with fail
    refine (C3 _).out.mono ?_
    rintro e w1 ⟨rfl, hB1⟩
    have CD1 := Lib.hid (CD.out w1 (HIN.out.keep hB1))
    have HB1 := Lib.hid (show Below g w w1 from hg ▸ hB1)
    have hs1 : g ≤ w1.heap.size := by have := hB1.size; omega
    clear hB1 CD
    go_wp2_with fail
    refine CD1.out.mono ?_
    rintro e w2 ⟨A0, c0, A2, c2, A3, c3, rfl, hin3, hB2⟩
    have hB2' := HB1.out.trans (hB2.mono hs1)
    have hs2 : g ≤ w2.heap.size := Nat.le_trans hs1 hB2.size
    obtain ⟨gc, hgc⟩ : ∃ gc, w2.heap.size = gc := ⟨_, rfl⟩
    have hc5 : Blk (w2.alloc (.cells (shC i t (.slice A0 ns.length c0) lim nxt (.slice A2 hs.length c2) (.slice A3 ls.length c3)) 29)) gc 29 (shC i t (.slice A0 ns.length c0) lim nxt (.slice A2 hs.length c2) (.slice A3 ls.length c3)) := hgc ▸ Blk.new _ _ _
    have hB7 := hB2'.alloc (by omega) (.cells (shC i t (.slice A0 ns.length c0) lim nxt (.slice A2 hs.length c2) (.slice A3 ls.length c3)) 29)
    have hin4 := hin3.keep ((Below.refl w2.heap.size w2).alloc (Nat.le_refl _) (.cells (shC i t (.slice A0 ns.length c0) lim nxt (.slice A2 hs.length c2) (.slice A3 ls.length c3)) 29))
    have hs3 : g ≤ (w2.alloc (.cells (shC i t (.slice A0 ns.length c0) lim nxt (.slice A2 hs.length c2) (.slice A3 ls.length c3)) 29)).heap.size := by simp; omega
    clear hB2 hB2' hin3 CD1 HB1 hs2
    go_upto_region 3 with (fail)
    change Code.wp _ _ _ _ (w2.alloc (.cells (shC i t (.slice A0 ns.length c0) lim nxt (.slice A2 hs.length c2) (.slice A3 ls.length c3)) 29))
    generalize (w2.alloc (.cells (shC i t (.slice A0 ns.length c0) lim nxt (.slice A2 hs.length c2) (.slice A3 ls.length c3)) 29)) = W5 at hc5 hB7 hin4 hs3 ⊢
    try rw [hgc]
    clear hgc
    have X5 := Lib.hid (CE.out A0 c0 A2 c2 A3 c3 W5 hin4)
    obtain ⟨x0, x1, x2, x3, x4, x5, x6⟩ := hc5.sh
    have HB7 := Lib.hid hB7
    clear hc5 hin4 hB7 CE
    go_wp2_with fail
    refine X5.out.mono ?_
    rintro e w7 ⟨v7, rfl, ho7, hB8⟩
    obtain ⟨A7, c7, rfl, hin7⟩ := In8.own ho7 HBY.out (by omega)
    have hB9 := HB7.out.trans (hB8.mono hs3)
    have hcv1 := conv_str w7 _ A7 _ c7 _ hin7.reads
    have hcv2 := conv_str w7 _ A _ c _ (HIN.out.keep (hg ▸ hB9)).reads
    have HB9 := Lib.hid hB9
    clear hB8 hB9 ho7 hin7 x0 x1 x2 x3 x4 x5 x6 X5
    go_wp2
    go_ret
    exact ⟨rfl, HB9.out⟩
end Go.Proofs.Ythdeappjankmmaa
