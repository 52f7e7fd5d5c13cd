/- The walk of the law CmdSame. -/
import Derived.Test.YtnpodnieahokjaaDecL
namespace Go.Proofs.Ytnpodnieahokjaa
open Go.RowKit

set_option maxRecDepth 100000 in
set_option maxHeartbeats 8000000 in
theorem cmdSame_row (w : World) {vb : Value} (zb : OpenB w vb) :
    Calls Try.prog 7 #[vb] w fun e w' => e = .returned (.bool true) ∧ Below w.heap.size w w' := by
  obtain ⟨A, c, lb, rfl, hin, hlb⟩ := zb
  have C3 := fun W => Lib.hid (live_any W)
  have CD := fun W hin => Lib.hid (cmd_Decode_walk W A c lb hin)
  have HIN := Lib.hid hin
  have hbyt := hin.byt
  obtain ⟨g, hg⟩ : ∃ g, w.heap.size = g := ⟨_, rfl⟩
  rw [hg]
  by_cases hE : dE lb = 0
  rotate_left
  · clear hin hbyt
    obtain ⟨E, hEE⟩ : ∃ E, dE lb = E := ⟨_, rfl⟩
    rw [hEE] at hE
    simp only [hEE] at CD
    have hEn : (E != 0) = true := bne_iff_ne.2 hE
    have HE := Lib.hid hE
    clear hEE hE
    go_enter Try.func7, Try.ntmps7
    go_wp2_with fail
    refine (C3 _).out.mono ?_
    rintro e w1 ⟨rfl, hB1⟩
    have hB1' : Below g w w1 := hg ▸ hB1
    have CD1 := CD w1 (HIN.out.keep hB1)
    have HB1 := Lib.hid hB1'
    have hs1 : g ≤ w1.heap.size := by have := hB1.size; omega
    clear hB1 hB1' CD
    go_wp2_with fail
    refine CD1.out.mono ?_
    rintro e w2 ⟨hB2, hr⟩
    rcases hr with ⟨h0, _⟩ | ⟨_, rfl⟩
    · exact absurd h0 HE.out
    have hs2 : g ≤ w2.heap.size := Nat.le_trans hs1 hB2.size
    have HB2 := Lib.hid (HB1.out.trans (hB2.mono hs1))
    clear hB2 CD1
    simp only [cmdV]
    go_wp2
    go_ret
    exact ⟨rfl, HB2.out.alloc hs2 _⟩
  · obtain ⟨hok, htk⟩ := same hbyt hE
    have hr := ranges hbyt
    have hec := fun A' c' => enc_cases (dK lb).1 (dn lb).1 (dt lb).1 A' c' (dL lb).1 (db lb).1 (dq lb).1 (ds lb).1 (dm lb).1 (by have := hr.b; omega) (by have := hr.q; omega) (by have := hr.s; omega) (by have := hr.m; omega)
    have hkl := hr.m.2.2
    have hk1 : 1 ≤ (dm lb).2.1 := by
      have h1 : 1 ≤ (lb.take (dm lb).2.1).length := by
        rw [htk, numsB_parts2]
        simp only [List.length_append]
        have := numB_pos (dK lb).1.toNat
        omega
      rw [List.length_take] at h1
      omega
    rw [hok] at hec
    simp only [hE] at CD
    clear hr hok hE hbyt
    generalize (dK lb).1 = k at *
    generalize (dn lb).1 = n at *
    generalize (dt lb).1 = t at *
    generalize (dL lb).1 = l at *
    generalize (db lb).1 = b at *
    generalize (dq lb).1 = q at *
    generalize (ds lb).1 = s at *
    generalize (dm lb).1 = m at *
    generalize (dm lb).2.1 = kk at *
    have hen : ∀ A' c' W, InN .i64 W A' c' l → Calls Try.prog 13 #[cmdV k n t (.slice A' l.length c') b q s m] W fun e w' => ∃ v, e = .returned (.tuple #[v, .int .i64 0]) ∧ Own8 w' W.heap.size v (numsB (numsL k n t l b q s m)) ∧ Below W.heap.size W w' := by
      intro A' c' W hW
      rcases hec A' c' with ⟨h0, _⟩ | ⟨_, _, _, _, _, _, _, _, _, _, _, _, _, _, _, hC⟩
      · exact absurd h0 (by decide)
      · exact hC W hW
    rw [← htk] at hen
    have CE := fun A' c' W hW => Lib.hid (hen A' c' W hW)
    obtain ⟨b0, off, rfl, _⟩ := hin.all (by omega)
    have hcap := hin.cap
    have hc0 : ¬ c = 0 := by omega
    have hlen : (lb.take kk).length = kk := by rw [List.length_take]; omega
    have HTK := Lib.hid (hin.take hkl)
    have HLE := Lib.hid hlen
    clear hec hen htk hin hlen
    go_enter Try.func7, Try.ntmps7
    go_wp2_with fail
    refine (C3 _).out.mono ?_
    rintro e w1 ⟨rfl, hB1⟩
    have hB1' : Below g w w1 := hg ▸ hB1
    have CD1 := CD w1 (HIN.out.keep hB1)
    have HB1 := Lib.hid hB1'
    have hs1 : g ≤ w1.heap.size := by have := hB1.size; omega
    clear hB1 hB1' CD
    go_wp2_with fail
    refine CD1.out.mono ?_
    rintro e w2 ⟨hB2, hr⟩
    rcases hr with ⟨_, A', c', rfl, hin2⟩ | ⟨h0, _⟩
    rotate_left
    · exact absurd rfl h0
    have hB2' := HB1.out.trans (hB2.mono hs1)
    have hs2 : g ≤ w2.heap.size := Nat.le_trans hs1 hB2.size
    obtain ⟨g2, hg2⟩ : ∃ g2, w2.heap.size = g2 := ⟨_, rfl⟩
    have hd3 : Blk (w2.alloc (.cells (cmdCells k n t (.slice A' l.length c') b q s m) 25)) g2 25 (cmdCells k n t (.slice A' l.length c') b q s m) := hg2 ▸ Blk.new _ _ _
    have hB3 : Below g w (w2.alloc (.cells (cmdCells k n t (.slice A' l.length c') b q s m) 25)) := hB2'.alloc (by omega) _
    have HI3 := Lib.hid (hin2.keep (w1 := w2.alloc (.cells (cmdCells k n t (.slice A' l.length c') b q s m) 25)) ((Below.refl _ _).alloc (Nat.le_refl _) _))
    clear hB2 hB2' hin2 CD1
    simp only [cmdV]
    go_wp2_with fail
    refine (CE A' c' _ HI3.out).out.mono ?_
    rintro e w4 ⟨v4, rfl, ho4, hB4⟩
    obtain ⟨A4, c4, rfl, hin4⟩ := In8.own ho4 HTK.out.byt (by rw [HLE.out]; omega)
    have hB4' : Below g w w4 := hB3.trans (hB4.mono (by have := hd3.lt; omega))
    have hr4 := hin4.reads
    have hr5 := (HTK.out.keep (by rw [hg]; exact hB4')).reads
    rw [HLE.out] at hr4 hr5 ⊢
    have hcv1 := fun j => conv_str (w4.drewN j) _ A4 kk c4 _ (hr4.drewN j)
    have hcv2 := fun j => conv_str (w4.drewN j) _ (some ⟨b0, off, none⟩) kk c _ (hr5.drewN j)
    have hle : decide ((kk : Int) ≤ (lb.length : Int)) = true := decide_eq_true (by omega)
    have hle2 : (kk : Int) ≤ (c : Int) := by omega
    have HB4 := Lib.hid hB4'
    clear hr4 hr5 hB4' hB4 ho4 hin4 hd3 hB3 HI3 CE
    go_wp2_with fail
    go_quiet (fail)
    go_wp2
    go_ret
    exact ⟨rfl, below_drewN HB4.out _⟩
end Go.Proofs.Ytnpodnieahokjaa
