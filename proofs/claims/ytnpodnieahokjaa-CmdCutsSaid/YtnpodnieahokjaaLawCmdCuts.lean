/- The walk of the law CmdCuts. -/
import Derived.Test.YtnpodnieahokjaaDecL
namespace Go.Proofs.Ytnpodnieahokjaa
open Go.RowKit

set_option maxRecDepth 100000 in
set_option maxHeartbeats 4000000 in
theorem cmdCuts_row (w : World) {v : Value} (z : OpenCmd w v) :
    Calls Try.prog 8 #[v] w fun e w' => e = .returned (.bool true) ∧ Below w.heap.size w w' := by
  obtain ⟨k, n, t, A, c, l, b, q, s, m, rfl, h, hl, hk, hn, ht, hb, hq, hs, hm⟩ := z
  have C3 := fun W => Lib.hid (live_any W)
  have HIN := Lib.hid h
  have hec := enc_cases k n t A c l b q s m (wf_u64 hb) (wf_u64 hq) (wf_u64 hs) (wf_u64 hm)
  clear h hk hn ht hb hq hs hm hl
  obtain ⟨g, hg⟩ : ∃ g, w.heap.size = g := ⟨_, rfl⟩
  have hb0 : Blk (w.alloc (.cells (cmdCells k n t (.slice A l.length c) b q s m) 25)) g 25 (cmdCells k n t (.slice A l.length c) b q s m) := hg ▸ Blk.new _ _ _
  have hB0 : Below g w (w.alloc (.cells (cmdCells k n t (.slice A l.length c) b q s m) 25)) := (Below.refl _ _).alloc (by omega) _
  simp only [cmdV] at *
  rcases hec with ⟨hbad, C1⟩ | ⟨k', n', t', b', q', s', m', rfl, rfl, rfl, rfl, rfl, rfl, rfl, hcmd, C1⟩
  · have C1 := fun W hin => Lib.hid (C1 W hin)
    clear hbad
    go_enter Try.func8, Try.ntmps8
    go_wp2_with fail
    refine (C3 _).out.mono ?_
    rintro e w1 ⟨rfl, hB1⟩
    have hb1 := hb0.below hB1 hb0.lt
    have hBw1 : Below g w w1 := hB0.trans (hB1.mono (Nat.le_of_lt hb0.lt))
    clear hb0 hB0 hB1
    obtain ⟨c0, c1, c2, c3, c4, c5, c6, c7⟩ := hb1.cmd
    go_wp2_with fail
    refine (C1 _ (HIN.out.keep (by rw [hg]; exact hBw1))).out.mono ?_
    rintro e w2 ⟨rfl, hB2⟩
    have HB2 := Lib.hid (hBw1.trans (hB2.mono (Nat.le_of_lt hb1.lt)))
    clear c0 c1 c2 c3 c4 c5 c6 c7 hb1 hBw1 hB2
    go_wp2
    go_ret
    exact ⟨rfl, by rw [hg]; exact HB2.out⟩
  · have hlen := numsL_len hcmd
    have hcuts := fun lb hlb => cuts hcmd lb hlb
    obtain ⟨bs, hbs⟩ : ∃ bs, numsB (numsL (k' : Int) n' t' l b' q' s' m') = bs := ⟨_, rfl⟩
    have hbyt := numsB_byt (numsL (k' : Int) n' t' l b' q' s' m')
    rw [hbs] at C1 hlen hbyt
    simp only [hbs] at hcuts
    obtain ⟨N, hN⟩ : ∃ N, bs.length = N + 1 := ⟨bs.length - 1, by omega⟩
    have hE : dE (bs.take N) = 10 := hcuts _ (by rw [hN]; rfl)
    have hN9 : N ≤ 900 := by omega
    have hlt : (bs.take N).length = N := by rw [List.length_take]; omega
    have CD := fun W A c hin => cmd_Decode_walk W A c (bs.take N) hin
    simp only [hE, hlt] at CD
    have CD := fun W A c hin => Lib.hid (CD W A c hin)
    have C1 := fun W hin => Lib.hid (C1 W hin)
    have HBY := Lib.hid hbyt
    have HN := Lib.hid hN
    clear hbs hlen hbyt hcuts hE hlt hcmd hN
    go_enter Try.func8, Try.ntmps8
    go_wp2_with fail
    refine (C3 _).out.mono ?_
    rintro e w1 ⟨rfl, hB1⟩
    have hb1 := hb0.below hB1 hb0.lt
    have hBw1 : Below g w w1 := hB0.trans (hB1.mono (Nat.le_of_lt hb0.lt))
    clear hb0 hB0 hB1
    obtain ⟨c0, c1, c2, c3, c4, c5, c6, c7⟩ := hb1.cmd
    go_wp2_with fail
    refine (C1 _ (HIN.out.keep (by rw [hg]; exact hBw1))).out.mono ?_
    rintro e w2 ⟨v1, rfl, ho1, hB2⟩
    have hBw2 := hBw1.trans (hB2.mono (Nat.le_of_lt hb1.lt))
    obtain ⟨A1, cc, rfl, hin1⟩ := In8.own ho1 HBY.out (by have := HN.out; omega)
    rw [HN.out]
    obtain ⟨b1, off1, rfl, _⟩ := hin1.all (by have := HN.out; omega)
    have hin2 := hin1.take (N := N) (by have := HN.out; omega)
    have hcc : N + 1 ≤ cc := by have := hin1.cap; have := HN.out; omega
    have hcc0 : ¬ cc = 0 := by omega
    have CD2 := CD w2 _ cc hin2
    have hw2 : g ≤ w2.heap.size := by have := hBw2.size; omega
    have HB2 := Lib.hid hBw2
    clear c0 c1 c2 c3 c4 c5 c6 c7 hb1 hBw1 hB2 ho1 hin1 hin2 CD hBw2
    go_wp2_with fail
    refine CD2.out.mono ?_
    rintro e w3 ⟨hB3, hr⟩
    rcases hr with ⟨h0, _⟩ | ⟨_, rfl⟩
    · exact absurd h0 (by decide)
    have HB3 := Lib.hid (HB2.out.trans (hB3.mono hw2))
    have hw3 : g ≤ w3.heap.size := Nat.le_trans hw2 hB3.size
    clear hB3 CD2 hw2
    simp only [cmdV]
    go_wp2
    go_ret
    exact ⟨rfl, by rw [hg]; exact HB3.out.alloc hw3 _⟩
end Go.Proofs.Ytnpodnieahokjaa
