/- Pools: the library's search among connections. -/
import Derived.Test.YtidkhekekfennaaPlM
import Derived.Deep.LoopGhost
namespace Go.Proofs.Ytidkhekekfennaa
set_option maxRecDepth 100000
open Go.RowKit

theorem getD_list {α : Type} (l : List α) (d : α) {j : Nat} (hj : j < l.length) : l.getD j d = l[j] := by simp [List.getD_eq_getElem?_getD, hj]
set_option maxHeartbeats 4000000 in
theorem bsf_any (w : World) (A : Option Addr) (c : Nat) (l : List Cn) (t : Int) (h : InS cnC 2 w A c l) (hs : Srt l) (hn : l.length ≤ 1000000) :
    Calls Try.prog 43 #[.slice A l.length c, .int .i64 t, .func (.func 44) #[] #[]] w fun e w' => e = .returned (.tuple #[.int .i64 (lbT l t : Nat), .bool (hasT l t)]) ∧ Below w.heap.size w w' := by
  obtain ⟨g, hg⟩ : ∃ g, w.heap.size = g := ⟨_, rfl⟩
  obtain ⟨n, hln⟩ : ∃ n, l.length = n := ⟨_, rfl⟩
  obtain ⟨F, hF⟩ : ∃ F, hasT l t = F := ⟨_, rfl⟩
  obtain ⟨M, hM⟩ : ∃ M, lbT l t = M := ⟨_, rfl⟩
  rw [hg, hF, hM]
  have HIN := Lib.hid h
  have HSR := Lib.hid hs
  have HF := Lib.hid hF
  have HM := Lib.hid hM
  have HL := Lib.hid hln
  have HG := Lib.hid hg
  rw [hln] at hn ⊢
  have CA := Lib.hid (fun W c => at1_any W c t)
  have hB0 : Below g w w := Below.refl _ _
  have HB0 := Lib.hid hB0
  clear h hs hF hM hln hg hB0
  go_enter Try.func43, Try.ntmps43
  go_wp2
  go_loopw [9, 10] (fun s9 s10 wr => ∃ lo hi : Nat, s9 = .int .i64 lo ∧ s10 = .int .i64 hi ∧ lo ≤ hi ∧ hi ≤ n ∧ Below g w wr ∧
    Hid ((∀ j (hj : j < l.length), j < lo → l[j].t < t) ∧ (∀ j (hj : j < l.length), hi ≤ j → t ≤ l[j].t))) (fun s9 s10 _ => (intOf s10).toNat - (intOf s9).toNat)
  case atStart => exact ⟨0, n, rfl, rfl, Nat.zero_le _, Nat.le_refl _, HB0.out, (show _ ∧ _ from ⟨fun j hj h => absurd h (Nat.not_lt_zero _), fun j hj h => absurd hj (by rw [HL.out]; omega)⟩)⟩
  case round =>
    clear HB0
    obtain ⟨lo, hi, rfl, rfl, hlh, hin, hB, I⟩ := hrel
    have HB := Lib.hid hB
    have hgs : g ≤ wr.heap.size := by have h1 := hB.size; have h2 := HG.out; omega
    by_cases hlt : lo < hi
    · obtain ⟨m, hm⟩ : ∃ m, (lo + hi) / 2 = m := ⟨_, rfl⟩
      have hml : m < l.length := by rw [HL.out]; omega
      obtain ⟨b, off, rfl, hbb, hat⟩ := (HIN.out.keep (HG.out ▸ hB)).cn (by omega)
      have hc := hat m hml
      obtain ⟨y, hy⟩ : ∃ y, l[m] = y := ⟨_, rfl⟩
      rw [hy, ← hm] at hc
      obtain ⟨c0, c1⟩ := hc
      have HY := Lib.hid hy
      have HM2 := Lib.hid hm
      clear hat hy hm hB
      by_cases hyx : y.t < t
      · have X := CA.out wr y
        have e1 : cmpI y.t t = -1 := by unfold cmpI; rw [if_pos hyx]
        rw [e1] at X
        have HYX := Lib.hid hyx
        have X := Lib.hid X
        clear hyx e1
        go_wp2_with fail
        refine X.out.mono ?_
        rintro e w1 ⟨rfl, hB1⟩
        have HB1 := Lib.hid (HB.out.trans (hB1.mono hgs))
        clear hB1 X
        go_wp2
        go_roundw
        case rel =>
          have I2 : Hid ((∀ j (hj : j < l.length), j < (lo + hi) / 2 + 1 → l[j].t < t) ∧ (∀ j (hj : j < l.length), hi ≤ j → t ≤ l[j].t)) := by
            refine (show _ ∧ _ from ⟨fun j hj hjm => ?_, I.out.2⟩)
            rcases Nat.lt_or_ge j m with h1 | h1
            · have h2 := HSR.out.lt hj hml h1
              have h3 := HYX.out
              rw [HY.out] at h2
              omega
            · have : j = m := by have := HM2.out; omega
              subst this
              rw [HY.out]
              have := HYX.out
              omega
          exact ⟨(lo + hi) / 2 + 1, hi, by rw [show ((lo : Int) + (hi : Int)) / 2 + 1 = (((lo + hi) / 2 + 1 : Nat) : Int) by omega], rfl, by omega, hin, HB1.out, I2⟩
        case measure => simp [intOf]; omega
      · have X := CA.out wr y
        have e1 : decide (cmpI y.t t < 0) = false := decide_eq_false (fun h => hyx (cmpI_lt.1 h))
        obtain ⟨Z, hZ⟩ : ∃ Z, cmpI y.t t = Z := ⟨_, rfl⟩
        rw [hZ] at X e1
        have e2 : ¬ Z < 0 := of_decide_eq_false e1
        have HYX := Lib.hid hyx
        have X := Lib.hid X
        clear hyx hZ
        go_wp2_with fail
        refine X.out.mono ?_
        rintro e w1 ⟨rfl, hB1⟩
        have HB1 := Lib.hid (HB.out.trans (hB1.mono hgs))
        clear hB1 X
        go_wp2
        go_roundw
        case rel =>
          have I2 : Hid ((∀ j (hj : j < l.length), j < lo → l[j].t < t) ∧ (∀ j (hj : j < l.length), (lo + hi) / 2 ≤ j → t ≤ l[j].t)) := by
            refine (show _ ∧ _ from ⟨I.out.1, fun j hj hjm => ?_⟩)
            rcases Nat.lt_or_ge m j with h1 | h1
            · have h2 := HSR.out.lt hml hj h1
              have h3 := HYX.out
              rw [HY.out] at h2
              omega
            · have : j = m := by have := HM2.out; omega
              subst this
              rw [HY.out]
              have := HYX.out
              omega
          exact ⟨lo, (lo + hi) / 2, rfl, by rw [show ((lo : Int) + (hi : Int)) / 2 = (((lo + hi) / 2 : Nat) : Int) by omega], by omega, by omega, HB1.out, I2⟩
        case measure => simp [intOf]; omega
    · obtain rfl : hi = lo := by omega
      have hMh : M = hi := by
        rw [← HM.out]
        exact lb_eq l t hi (by rw [HL.out]; exact hin) I.out.1 (fun j hj h => Int.not_lt.2 (I.out.2 j hj h))
      subst hMh
      by_cases hn2 : M < n
      · have hml : M < l.length := by rw [HL.out]; omega
        obtain ⟨b, off, rfl, hbb, hat⟩ := (HIN.out.keep (HG.out ▸ hB)).cn (by omega)
        have hc := hat M hml
        obtain ⟨y, hy⟩ : ∃ y, l[M] = y := ⟨_, rfl⟩
        rw [hy] at hc
        obtain ⟨c0, c1⟩ := hc
        have hFy : Hid (F = (y.t == t)) := by
          show _ = _
          rw [← HF.out]
          unfold hasT
          rw [HM.out, List.getElem?_eq_getElem hml, hy]
        have X := CA.out wr y
        clear hat hy hml hB I hlh
        by_cases hyx : y.t = t
        · have e1 : cmpI y.t t = 0 := cmpI_eq.2 hyx
          rw [e1] at X
          have X := Lib.hid X
          have HYX := Lib.hid hyx
          clear hyx e1
          go_wp2_with fail
          refine X.out.mono ?_
          rintro e w1 ⟨rfl, hB1⟩
          have HB1 := Lib.hid (HB.out.trans (hB1.mono hgs))
          clear hB1 X
          go_wp2
          go_ret2
          exact ⟨by rw [hFy.out, HYX.out, beq_self_eq_true]; rfl, HB1.out⟩
        · obtain ⟨Z, hZ⟩ : ∃ Z, cmpI y.t t = Z := ⟨_, rfl⟩
          have e1 : (Z == 0) = false := by rw [← hZ]; simpa using fun h => hyx (cmpI_eq.1 h)
          rw [hZ] at X
          have X := Lib.hid X
          have HYX := Lib.hid hyx
          clear hyx hZ
          go_wp2_with fail
          refine X.out.mono ?_
          rintro e w1 ⟨rfl, hB1⟩
          have HB1 := Lib.hid (HB.out.trans (hB1.mono hgs))
          clear hB1 X
          go_wp2
          go_ret2
          exact ⟨by rw [hFy.out, show (y.t == t) = false by simpa using HYX.out]; rfl, HB1.out⟩
      · have hFy : Hid (F = false) := by
          show _ = _
          rw [← HF.out]
          unfold hasT
          rw [HM.out, List.getElem?_eq_none (by rw [HL.out]; omega)]
        clear hB I
        go_wp2
        go_ret2
        exact ⟨by rw [hFy.out]; rfl, HB.out⟩
end Go.Proofs.Ytidkhekekfennaa
