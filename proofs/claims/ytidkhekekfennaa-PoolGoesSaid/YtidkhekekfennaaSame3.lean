/- Two lists of numbers are the same (the document's). -/
import Derived.Test.YtidkhekekfennaaCom
import Derived.Test.YtidkhekekfennaaNodesB
import Derived.Deep.QuietTactic
import Derived.BigQuiet
import Derived.Deep.Draws
namespace Go.Proofs.Ytidkhekekfennaa
set_option maxRecDepth 100000
open Go.RowKit

set_option maxHeartbeats 1000000 in
theorem r03_Same_any (w : World) (A1 A2 : Option Addr) (c1 c2 : Nat) (l1 l2 : List Int) (h1 : InN .i64 w A1 c1 l1) (h2 : InN .i64 w A2 c2 l2) :
    Calls Try.prog 11 #[.slice A1 l1.length c1, .slice A2 l2.length c2] w fun e w' => e = .returned (.bool (decide (l1 = l2))) ∧ ∃ m, w' = w.drewN m := by
  have hs1 := h1.small
  have hs2 := h2.small
  have hc1 := h1.cap
  have hc2 := h2.cap
  have H1 := Lib.hid h1
  have H2 := Lib.hid h2
  clear h1 h2
  obtain ⟨V, hV⟩ : ∃ V, decide (l1 = l2) = V := ⟨_, rfl⟩
  have HV := Lib.hid hV
  rw [hV]
  clear hV
  by_cases hl : l1.length = l2.length
  case neg =>
    have HF : Hid (V = false) := by
      show _ = _
      rw [← HV.out]
      exact decide_eq_false (fun e => hl (by rw [e]))
    have hne : ((l1.length : Int) != (l2.length : Int)) = true := by simp; omega
    go_enter Try.func11, Try.ntmps11
    go_wp2
    go_ret
    exact ⟨by rw [HF.out]; rfl, 0, rfl⟩
  case pos =>
    have HL := Lib.hid hl
    rw [← hl] at hs2 hc2
    have ea : (Value.slice A2 l2.length c2) = .slice A2 l1.length c2 := by rw [hl]
    rw [ea]
    clear ea hl
    go_enter Try.func11, Try.ntmps11
    go_wp2
    go_loopw [4, 5, 13] (fun v x i wr => ∃ (k m : Nat), k ≤ l1.length ∧ v = .bool false ∧ i = .int .i64 k ∧ wr = w.drewN m ∧ ∀ j (h1 : j < l1.length) (h2 : j < l2.length), j < k → l1[j] = l2[j]) (fun _ _ i _ => l1.length - (intOf i).toNat)
    case atStart => exact ⟨0, 0, by omega, rfl, rfl, rfl, fun j _ _ h => by omega⟩
    case round =>
      obtain ⟨k, m, hk, rfl, rfl, rfl, hag⟩ := hrel
      have HAG := Lib.hid hag
      clear hag
      by_cases hlt : k < l1.length
      · obtain ⟨b1, off1, rfl, hcell1⟩ := H1.out.all (by omega)
        obtain ⟨b2, off2, rfl, hcell2⟩ := H2.out.all (by have := HL.out; omega)
        have hlt2 : k < l2.length := by have := HL.out; omega
        have hk1 := hcell1 k hlt
        have hk2 := hcell2 k hlt2
        obtain ⟨x, hx⟩ : ∃ x, l1[k] = x := ⟨_, rfl⟩
        obtain ⟨y, hy⟩ : ∃ y, l2[k] = y := ⟨_, rfl⟩
        rw [hx] at hk1
        rw [hy] at hk2
        have HX := Lib.hid hx
        have HY := Lib.hid hy
        clear hcell1 hcell2 hx hy
        by_cases hxy : x = y
        · have hnf : (x != y) = false := by simp [hxy]
          have HXY := Lib.hid hxy
          clear hxy
          go_wp2_with fail
          go_quiet (fail)
          go_wp2
          go_roundw
          case rel =>
            refine ⟨k + 1, _, by omega, rfl, by go_num, rfl, fun j g1 g2 hjk => ?_⟩
            rcases Nat.lt_or_ge j k with h | h
            · exact HAG.out j g1 g2 h
            · obtain rfl : j = k := by omega
              rw [HX.out, HY.out, HXY.out]
          case measure => simp [intOf]; omega
        · have hnt : (x != y) = true := by simpa using hxy
          have HF : Hid (V = false) := by
            show _ = _
            rw [← HV.out]
            refine decide_eq_false (fun e => hxy ?_)
            rw [← HX.out, ← HY.out]
            simp [e]
          clear hxy
          go_wp2_with fail
          go_quiet (fail)
          go_wp2
          go_ret
          exact ⟨by rw [HF.out]; rfl, m + nq, World.drewN_drewN _ _ _⟩
      · obtain rfl : k = l1.length := by omega
        have HT : Hid (V = true) := by
          show _ = _
          rw [← HV.out]
          exact decide_eq_true (List.ext_getElem HL.out (fun j g1 g2 => HAG.out j g1 g2 g1))
        go_wp2
        go_ret
        exact ⟨by rw [HT.out]; rfl, _, rfl⟩

end Go.Proofs.Ytidkhekekfennaa
