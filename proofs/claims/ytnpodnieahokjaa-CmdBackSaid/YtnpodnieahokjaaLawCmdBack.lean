/- The walk of the law CmdBack. -/
import Derived.Test.YtnpodnieahokjaaDecL
import Derived.Test.YtnpodnieahokjaaCmdS
namespace Go.Proofs.Ytnpodnieahokjaa
open Go.RowKit

set_option maxRecDepth 100000 in
set_option maxHeartbeats 8000000 in
theorem cmdBack_row (w : World) {v vb : Value} (z : OpenCmd w v) (zb : OpenB w vb) :
    Calls Try.prog 6 #[v, vb] w fun e w' => e = .returned (.bool true) ∧ Below w.heap.size w w' := by
  obtain ⟨k, n, t, A, c, l, b, q, s, m, rfl, h, hl, hk, hn, ht, hb, hq, hs, hm⟩ := z
  obtain ⟨Ab, cb, lb, rfl, hinb, hlb⟩ := zb
  have C3 := fun W => Lib.hid (live_any W)
  have HIN := Lib.hid h
  have HINB := Lib.hid hinb
  have hec := enc_cases k n t A c l b q s m (wf_u64 hb) (wf_u64 hq) (wf_u64 hs) (wf_u64 hm)
  have CK := fun W hin => cmd_Check_any W k n t A c l b q s m hin
  clear h hk hn ht hb hq hs hm hl hinb
  obtain ⟨g, hg⟩ : ∃ g, w.heap.size = g := ⟨_, rfl⟩
  have hb0 : Blk (w.alloc (.cells (cmdCells k n t (.slice A l.length c) b q s m) 25)) g 25 (cmdCells k n t (.slice A l.length c) b q s m) := hg ▸ Blk.new _ _ _
  have hB0 : Below g w (w.alloc (.cells (cmdCells k n t (.slice A l.length c) b q s m) 25)) := (Below.refl _ _).alloc (by omega) _
  rcases hec with ⟨hbad, C1⟩ | ⟨k', n', t', b', q', s', m', rfl, rfl, rfl, rfl, rfl, rfl, rfl, hcmd, C1⟩
  · rw [hbad, show errCmd false = 40 from rfl] at CK
    have CK := fun W hin => Lib.hid (CK W hin)
    have C1 := fun W hin => Lib.hid (C1 W hin)
    clear hbad
    simp only [cmdV] at *
    go_enter Try.func6, Try.ntmps6
    go_wp2_with fail
    refine (C3 _).out.mono ?_
    rintro e w1 ⟨rfl, hB1⟩
    have hb1 := hb0.below hB1 hb0.lt
    have hBw1 : Below g w w1 := hB0.trans (hB1.mono (Nat.le_of_lt hb0.lt))
    clear hb0 hB0 hB1
    obtain ⟨c0, c1, c2, c3, c4, c5, c6, c7⟩ := hb1.cmd
    go_wp2_with fail
    refine (C1 _ (HIN.out.keep (by rw [hg]; exact hBw1))).out.mono ?_
    rintro e w2 ⟨rfl, hB2⟩
    have hb2 := hb1.below hB2 hb1.lt
    have hBw2 := hBw1.trans (hB2.mono (Nat.le_of_lt hb1.lt))
    clear c0 c1 c2 c3 c4 c5 c6 c7 hb1 hBw1 hB2
    obtain ⟨c0, c1, c2, c3, c4, c5, c6, c7⟩ := hb2.cmd
    go_wp2_with fail
    refine (CK _ (HIN.out.keep (by rw [hg]; exact hBw2))).out.mono ?_
    rintro e w3 ⟨rfl, hB3⟩
    have HB3 := Lib.hid (hBw2.trans (hB3.mono (Nat.le_of_lt hb2.lt)))
    clear c0 c1 c2 c3 c4 c5 c6 c7 hb2 hBw2 hB3
    go_wp2
    go_ret
    exact ⟨rfl, by rw [hg]; exact HB3.out⟩
  · have hlen := numsL_len hcmd
    have hback := back hcmd lb
    obtain ⟨bs, hbs⟩ : ∃ bs, numsB (numsL (k' : Int) n' t' l b' q' s' m') = bs := ⟨_, rfl⟩
    have hbyt := numsB_byt (numsL (k' : Int) n' t' l b' q' s' m')
    rw [hbs] at C1 hlen hbyt hback
    obtain ⟨x0, x1, x2, x3, x4, x5, x6, x7, x8⟩ := hback (bs ++ lb) rfl
    have y1 : (dK (bs ++ lb)).1 = (k' : Int) := by rw [x1]
    have y2 : (dL (bs ++ lb)).1 = l := by rw [x2]
    have y3 : (dn (bs ++ lb)).1 = (n' : Int) := by rw [x3]
    have y4 : (db (bs ++ lb)).1 = (b' : Int) := by rw [x4]
    have y5 : (dq (bs ++ lb)).1 = (q' : Int) := by rw [x5]
    have y6 : (dt (bs ++ lb)).1 = (t' : Int) := by rw [x6]
    have y7 : (ds (bs ++ lb)).1 = (s' : Int) := by rw [x7]
    have y8 : (dm (bs ++ lb)).1 = (m' : Int) ∧ (dm (bs ++ lb)).2.1 = bs.length := by rw [x8]; exact ⟨rfl, rfl⟩
    have CD := fun W A c hin => cmd_Decode_walk W A c (bs ++ lb) hin
    simp only [x0, y1, y2, y3, y4, y5, y6, y7, y8.1, y8.2] at CD
    obtain ⟨LB, hLB⟩ : ∃ LB, bs ++ lb = LB := ⟨_, rfl⟩
    rw [hLB] at CD
    have HLB := Lib.hid hLB
    clear hLB
    have CD := fun W A c hin => Lib.hid (CD W A c hin)
    have C1 := fun W hin => Lib.hid (C1 W hin)
    have CS := fun W A1 c1 A2 c2 h1 h2 => ref_Same_any W (k' : Int) n' t' A1 c1 l b' q' s' m' (k' : Int) n' t' A2 c2 l b' q' s' m' h1 h2
    have es : sameB (k' : Int) n' t' l b' q' s' m' (k' : Int) n' t' l b' q' s' m' = true := by simp [sameB]
    rw [es] at CS
    have CS := fun W A1 c1 A2 c2 h1 h2 => Lib.hid (CS W A1 c1 A2 c2 h1 h2)
    have HBY := Lib.hid hbyt
    have hbl : bs.length ≤ 900 := hlen.2.2
    clear hbs hlen hbyt hback x0 x1 x2 x3 x4 x5 x6 x7 x8 y1 y2 y3 y4 y5 y6 y7 y8 hcmd es CK
    simp only [cmdV] at *
    go_enter Try.func6, Try.ntmps6
    go_wp2_with fail
    refine (C3 _).out.mono ?_
    rintro e w1 ⟨rfl, hB1⟩
    have hb1 := hb0.below hB1 hb0.lt
    have hBw1 : Below g w w1 := hB0.trans (hB1.mono (Nat.le_of_lt hb0.lt))
    clear hb0 hB0 hB1
    obtain ⟨c0, c1, c2, c3, c4, c5, c6, c7⟩ := hb1.cmd
    go_wp2_with fail
    refine (C1 _ (HIN.out.keep (by rw [hg]; exact hBw1))).out.mono ?_
    rintro e w2 ⟨v1, rfl, ho1, hB2⟩
    have hb2 := hb1.below hB2 hb1.lt
    have hBw2 := hBw1.trans (hB2.mono (Nat.le_of_lt hb1.lt))
    obtain ⟨A1, cc, rfl, hin1⟩ := In8.own ho1 HBY.out (by omega)
    have HI1 := Lib.hid hin1
    have HB2 := Lib.hid hBw2
    have hlt2 := hb2.lt
    have HIB := Lib.hid (HINB.out.keep (by rw [hg]; exact hBw2))
    clear c0 c1 c2 c3 c4 c5 c6 c7 hb1 hBw1 hB2 ho1 hin1 hBw2
    go_wp2_with (first
      | (at_builtin; refine app_own (w0 := w2) w2.heap.size rfl _ _ 31 5 (.int .u8 0) 1 rfl Try.underlying31 1 info_u8 rfl (by omega) (by omega) (.slice none 0 0) [] 0 rfl _ _ _ _ (u8s bs) rfl (own_nil _ _ _ _) HI1.out.reads (u8s_one_cell bs) (Below.refl _ _) (Nat.le_refl _) (by omega) ?_; intro v3 w3 ho3 hB3 _ _; have hO3 : Own8 w3 w2.heap.size v3 bs := (by simpa [Own8] using ho3); have HO3 := Lib.hid hO3; clear hO3; have HB3 := Lib.hid hB3; clear ho3 hB3)
      | (at_builtin; refine app_own (w0 := w2) w2.heap.size rfl _ _ 31 5 (.int .u8 0) 1 rfl Try.underlying31 1 info_u8 rfl (by omega) (by omega) v3 (u8s bs) bs.length rfl w2.heap.size Ab _ cb (u8s lb) rfl HO3.out (HIB.out.reads.below HB3.out) (u8s_one_cell lb) HB3.out HB3.out.size (by omega) ?_; intro v4 w4 ho4 hB4 _ _; have hO4 : Own8 w4 w2.heap.size v4 LB := (by rw [← HLB.out]; unfold Own8; rw [List.length_append, u8s_append]; exact ho4); have HO4 := Lib.hid hO4; clear hO4; have HB4 := Lib.hid hB4; clear ho4 hB4; obtain ⟨A4, c4, rfl, hin4⟩ := In8.own HO4.out (by rw [← HLB.out]; exact HBY.out.append HINB.out.byt) (by rw [← HLB.out, List.length_append]; omega); have CD4 := CD w4 A4 c4 hin4; clear hin4))
    refine CD4.out.mono ?_
    rintro e w5 ⟨hB5, hr⟩
    rcases hr with ⟨_, A', c', rfl, hin5⟩ | ⟨h0, _⟩
    rotate_left
    · exact absurd rfl h0
    have hb4 := hb2.below HB4.out hlt2
    have hb5 := hb4.below hB5 hb4.lt
    have hBw5 := (HB2.out.trans (HB4.out.mono (Nat.le_of_lt hlt2))).trans (hB5.mono (Nat.le_of_lt hb4.lt))
    obtain ⟨g5, hg5⟩ : ∃ g5, w5.heap.size = g5 := ⟨_, rfl⟩
    have hlt5 : g < g5 := hg5 ▸ hb5.lt
    have hd6 : Blk (w5.alloc (.cells (cmdCells k' n' t' (.slice A' l.length c') b' q' s' m') 25)) g5 25 (cmdCells k' n' t' (.slice A' l.length c') b' q' s' m') := hg5 ▸ Blk.new _ _ _
    have hb6 := hb5.alloc (.cells (cmdCells k' n' t' (.slice A' l.length c') b' q' s' m') 25)
    have hB6 : Below g w (w5.alloc (.cells (cmdCells k' n' t' (.slice A' l.length c') b' q' s' m') 25)) := hBw5.alloc (by omega) _
    have HI6 := Lib.hid (hin5.keep (w1 := w5.alloc (.cells (cmdCells k' n' t' (.slice A' l.length c') b' q' s' m') 25)) ((Below.refl _ _).alloc (Nat.le_refl _) _))
    clear hb4 hb5 hBw5 hB5 hin5 CD CD4 hb2
    go_upto_region 6 with (fail)
    change Code.wp _ _ _ _ (w5.alloc (.cells (cmdCells k' n' t' (.slice A' l.length c') b' q' s' m') 25))
    generalize w5.alloc (.cells (cmdCells k' n' t' (.slice A' l.length c') b' q' s' m') 25) = W6 at hd6 hb6 hB6 HI6 ⊢
    obtain ⟨c0, c1, c2, c3, c4, c5, c6, c7⟩ := hb6.cmd
    obtain ⟨a0, a1, a2, a3, a4, a5, a6, a7⟩ := hd6.cmd
    have CS6 := CS W6 A c A' c' (HIN.out.keep (by rw [hg]; exact hB6)) HI6.out
    have HB6 := Lib.hid hB6
    have hlt6 := hb6.lt
    clear hB6 hd6 hb6 hg5 CS
    go_wp2_with fail
    refine CS6.out.mono ?_
    rintro e w7 ⟨rfl, hB7⟩
    have HB7 := Lib.hid (HB6.out.trans (hB7.mono (Nat.le_of_lt hlt6)))
    clear c0 c1 c2 c3 c4 c5 c6 c7 a0 a1 a2 a3 a4 a5 a6 a7 hB7 CS6
    go_wp2
    go_ret
    exact ⟨rfl, by rw [hg]; exact HB7.out⟩
end Go.Proofs.Ytnpodnieahokjaa
