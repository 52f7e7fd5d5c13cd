/- The walk of the law ShotCuts. -/
import Derived.Test.YthdeappjankmmaaSdL
import Derived.Test.YthdeappjankmmaaShH
namespace Go.Proofs.Ythdeappjankmmaa
open Go.RowKit

set_option maxRecDepth 100000 in
set_option maxHeartbeats 8000000 in
theorem shotCuts_row (w : World) {v : Value} (z : OpenShot w v) (x : Int) (hx : (Lit.int .u8 x).wf = true) :
    Calls Try.prog 9 #[v, .int .u8 x] w fun e w' => e = .returned (.bool true) ∧ Below w.heap.size w w' := by
  obtain ⟨i, t, An, cn, ns, lim, nxt, Ah, ch, hs, Al, cl, ls, rfl, hn, hns, hh, hl, hw1, hw2, hi, ht, hlim, hnx⟩ := z
  have hx8 : 0 ≤ x ∧ x ≤ 255 := by
    simp [Lit.wf, IntKind.min, IntKind.max, IntKind.bits, IntKind.signed] at hx
    omega
  have hIN : ShR w An cn ns Ah ch hs Al cl ls := ⟨hn, hh, hl⟩
  have HIN := Lib.hid hIN
  have C3 := fun W => Lib.hid (live_any W)
  have hec := shot_enc_cases i t An cn ns lim nxt Ah ch hs Al cl ls hw1 hw2 hi ht hnx
  clear hn hh hl hw1 hw2 hi ht hlim hnx hIN hns hx
  obtain ⟨g, hg⟩ : ∃ g, w.heap.size = g := ⟨_, rfl⟩
  rw [hg]
  have hBx : Below g w (w.alloc (.cells (shC i t (.slice An ns.length cn) lim nxt (.slice Ah hs.length ch) (.slice Al ls.length cl)) 29)) := (Below.refl _ _).alloc (by omega) _
  have hb1 : Blk (w.alloc (.cells (shC i t (.slice An ns.length cn) lim nxt (.slice Ah hs.length ch) (.slice Al ls.length cl)) 29)) g 29 (shC i t (.slice An ns.length cn) lim nxt (.slice Ah hs.length ch) (.slice Al ls.length cl)) := hg ▸ Blk.new _ _ _
  rcases hec with ⟨hbad, C1⟩ | ⟨ok, nu, C1⟩
  · unfold shV at C1 ⊢
    have C1 := Lib.hid C1
    clear hbad
    go_enter Try.func9, Try.ntmps9
    go_upto_region 1 with (fail)
    change Code.wp _ _ _ _ (w.alloc (.cells (shC i t (.slice An ns.length cn) lim nxt (.slice Ah hs.length ch) (.slice Al ls.length cl)) 29))
    generalize (w.alloc (.cells (shC i t (.slice An ns.length cn) lim nxt (.slice Ah hs.length ch) (.slice Al ls.length cl)) 29)) = W at hb1 hBx ⊢
    try rw [hg]
    go_wp2_with fail
    refine (C3 _).out.mono ?_
    rintro e w1 ⟨rfl, hB1⟩
    have hb2 := hb1.below hB1 hb1.lt
    have hB2 := hBx.trans (hB1.mono (Nat.le_of_lt hb1.lt))
    have X1 := Lib.hid (C1.out w1 (HIN.out.keep (hg ▸ hB2)))
    clear hb1 hBx hB1 C3
    obtain ⟨q0, q1, q2, q3, q4, q5, q6⟩ := hb2.sh
    go_wp2_with fail
    refine X1.out.mono ?_
    rintro e w2 ⟨rfl, hB3⟩
    have HB4 := Lib.hid (hB2.trans (hB3.mono (Nat.le_of_lt hb2.lt)))
    clear hb2 hB2 hB3 q0 q1 q2 q3 q4 q5 q6 X1
    go_wp2
    go_ret
    exact ⟨rfl, HB4.out⟩
  · have hlen := shotB_len nu
    have hbyt := shotB_byt i t ns lim nxt hs ls
    have hpos : 1 ≤ (shotB i t ns lim nxt hs ls).length := by simp [shotB]
    obtain ⟨bs, hbs⟩ : ∃ bs, shotB i t ns lim nxt hs ls = bs := ⟨_, rfl⟩
    have s1 := shot_cut (lb := bs.take (bs.length - 1)) nu (by rw [hbs]) (by rw [List.length_take, ← hbs]; omega)
    have s2 := shot_more (lb := bs ++ [x]) (c := x) nu (by rw [hbs]) (by rw [List.length_append, ← hbs, List.length_singleton]; omega)
    rw [hbs] at C1 hlen hbyt hpos
    have CD1 := fun W A c (k : In8 W A c (bs.take (bs.length - 1))) => shot_Decode_err W A c _ k s1 (by decide)
    have CD2 := fun W A c (k : In8 W A c (bs ++ [x])) => shot_Decode_err W A c _ k s2 (by decide)
    have hl1 : (bs.take (bs.length - 1)).length = bs.length - 1 := by rw [List.length_take]; omega
    rw [hl1] at CD1
    obtain ⟨LB, hLB⟩ : ∃ LB, bs ++ [x] = LB := ⟨_, rfl⟩
    rw [hLB] at CD2
    have HLB := Lib.hid hLB
    unfold shV at C1 CD1 CD2 ⊢
    have C1 := Lib.hid C1
    have CD1 := Lib.hid CD1
    have CD2 := Lib.hid CD2
    have HBY := Lib.hid hbyt
    have HBX := Lib.hid (hbyt.append (show Byt [x] from fun y hy => by rw [List.mem_singleton] at hy; subst hy; exact hx8))
    rw [hLB] at HBX
    clear hbs s1 s2 hbyt ok nu hl1 hLB hx8
    go_enter Try.func9, Try.ntmps9
    go_upto_region 1 with (fail)
    change Code.wp _ _ _ _ (w.alloc (.cells (shC i t (.slice An ns.length cn) lim nxt (.slice Ah hs.length ch) (.slice Al ls.length cl)) 29))
    generalize (w.alloc (.cells (shC i t (.slice An ns.length cn) lim nxt (.slice Ah hs.length ch) (.slice Al ls.length cl)) 29)) = W at hb1 hBx ⊢
    try rw [hg]
    go_wp2_with fail
    refine (C3 _).out.mono ?_
    rintro e w1 ⟨rfl, hB1⟩
    have hb2 := hb1.below hB1 hb1.lt
    have hB2 := hBx.trans (hB1.mono (Nat.le_of_lt hb1.lt))
    have X1 := Lib.hid (C1.out w1 (HIN.out.keep (hg ▸ hB2)))
    clear hb1 hBx hB1 C3
    obtain ⟨q0, q1, q2, q3, q4, q5, q6⟩ := hb2.sh
    go_wp2_with fail
    refine X1.out.mono ?_
    rintro e w2 ⟨v1, rfl, ho1, hB3⟩
    have hB4 := hB2.trans (hB3.mono (Nat.le_of_lt hb2.lt))
    obtain ⟨A1, c1, rfl, hin1⟩ := In8.own ho1 HBY.out (by omega)
    have hcap := hin1.cap
    have hin2 : In8 w2 A1 c1 (bs.take (bs.length - 1)) := hin1.take (by omega)
    have X2 := Lib.hid (CD1.out w2 A1 c1 hin2)
    have HB4 := Lib.hid hB4
    have HI1 := Lib.hid hin1
    have hgl : g ≤ w2.heap.size := by have := hb2.lt; have := hB3.size; omega
    clear hb2 hB2 hB3 q0 q1 q2 q3 q4 q5 q6 X1 hB4 ho1 hin1 hin2 CD1
    go_wp2_with fail
    refine X2.out.mono ?_
    rintro e w3 ⟨rfl, hB5⟩
    have hB6 := HB4.out.trans (hB5.mono hgl)
    have hgl3 : g ≤ w3.heap.size := Nat.le_trans hgl hB5.size
    have hB7 := hB6.alloc hgl3 (.cells (shC 0 0 (.slice none 0 0) 0 0 (.slice none 0 0) (.slice none 0 0)) 29)
    have hin3 := (HI1.out.keep hB5).keep ((Below.refl w3.heap.size w3).alloc (Nat.le_refl _) (.cells (shC 0 0 (.slice none 0 0) 0 0 (.slice none 0 0) (.slice none 0 0)) 29))
    have hs3 : g ≤ (w3.alloc (.cells (shC 0 0 (.slice none 0 0) 0 0 (.slice none 0 0) (.slice none 0 0)) 29)).heap.size := by simp; omega
    clear hB5 hB6 X2 HI1 HB4 hgl hgl3
    go_upto_region 6 with (fail)
    change Code.wp _ _ _ _ (w3.alloc (.cells (shC 0 0 (.slice none 0 0) 0 0 (.slice none 0 0) (.slice none 0 0)) 29))
    generalize (w3.alloc (.cells (shC 0 0 (.slice none 0 0) 0 0 (.slice none 0 0) (.slice none 0 0)) 29)) = W5 at hB7 hin3 hs3 ⊢
    have HB7 := Lib.hid hB7
    have HI5 := Lib.hid hin3
    clear hB7 hin3
    go_wp2_with (first
      | (at_builtin; refine app_own (w0 := W5) W5.heap.size rfl _ _ 38 5 (.int .u8 0) 1 rfl Try.underlying38 1 info_u8 rfl (by omega) (by omega) (.slice none 0 0) [] 0 rfl _ _ _ _ (u8s bs) rfl (own_nil _ _ _ _) HI5.out.reads (u8s_one_cell bs) (Below.refl _ _) (Nat.le_refl _) (by omega) ?_; intro v3 w6 ho3 hB6 _ _; have hO3 : Own8 w6 W5.heap.size v3 bs := (by simpa [Own8] using ho3); have HO3 := Lib.hid hO3; clear hO3; have HB6 := Lib.hid hB6; clear ho3 hB6)
      | (at_builtin; refine push_own (w0 := W5) (W := w6) W5.heap.size rfl _ _ 38 5 (.int .u8 0) 1 rfl Try.underlying38 info_u8 rfl (by omega) v3 (u8s bs) (.int .u8 x) bs.length (u8s_length bs).symm rfl rfl rfl HO3.out HB6.out HB6.out.size (by omega) ?_; intro v4 w7 ho4 hB8 _ _; have hO4 : Own8 w7 W5.heap.size v4 LB := (by rw [← HLB.out]; unfold Own8; rw [List.length_append, u8s_append]; exact ho4); have HO4 := Lib.hid hO4; clear hO4; have HB8 := Lib.hid hB8; clear ho4 hB8; obtain ⟨A4, c4, rfl, hin4⟩ := In8.own HO4.out HBX.out (by rw [← HLB.out, List.length_append, List.length_singleton]; omega); have CD4 := Lib.hid (CD2.out w7 A4 c4 hin4); clear hin4))
    refine CD4.out.mono ?_
    rintro e w8 ⟨rfl, hB9⟩
    have HBF := Lib.hid ((HB7.out.trans (HB8.out.mono hs3)).trans (hB9.mono (Nat.le_trans hs3 HB8.out.size)))
    have hsF : g ≤ w8.heap.size := Nat.le_trans (Nat.le_trans hs3 HB8.out.size) hB9.size
    clear hB9 CD4
    go_wp2
    go_ret
    exact ⟨rfl, HBF.out.alloc hsF _⟩
end Go.Proofs.Ythdeappjankmmaa
