/- Walks over sets of nodes, second part: nodes.Check and the document's Check. -/
import Derived.Test.YtfkaggdjhopjpaaNodes
namespace Go.Proofs.Ytfkaggdjhopjpaa
set_option maxRecDepth 100000
open Go.RowKit

/-- The two answers of a check. -/
def errArg (b : Bool) : Int := if b then 0 else 1

set_option maxHeartbeats 1000000 in
theorem nodes_Check_any (w : World) (A : Option Addr) (c : Nat) (l : List Int) (h : InN .i64 w A c l) :
    Calls Try.prog 76 #[.slice A l.length c] w fun e w' => e = .returned (.int .i64 (errArg (decide (IsSet l)))) ∧ Below w.heap.size w w' := by
  have C1 := Lib.hid (nodes_of_any w A c l h)
  obtain ⟨B, hB⟩ : ∃ B, decide (IsSet l) = B := ⟨_, rfl⟩
  rw [hB] at C1 ⊢
  clear h hB
  cases B
  all_goals
    go_enter Try.func76, Try.ntmps76
    go_wp2_with fail
    refine C1.out.mono ?_
    rintro e w1 ⟨r, ⟨b0, b1, b2, b3, b4, b5, b6, b7, rfl⟩, rfl, hB1⟩
    go_wp2
    go_ret
    exact ⟨rfl, hB1.alloc hB1.size _⟩

set_option maxHeartbeats 1000000 in
theorem ref_setCheck_any (w : World) (A : Option Addr) (c : Nat) (l : List Int) (h : InN .i64 w A c l) :
    Calls Try.prog 70 #[.slice A l.length c] w fun e w' => e = .returned (.int .i64 (errArg (decide (IsSet l)))) ∧ w' = w := by
  have hs := h.small
  have hcap := h.cap
  have HIN := Lib.hid h
  clear h
  by_cases h0 : l.length = 0
  · have HE : Hid (errArg (decide (IsSet l)) = 1) := by
      show _ = _
      rw [decide_eq_false (fun hh => by have := hh.1; omega)]
      rfl
    rw [HE.out, h0]
    go_enter Try.func70, Try.ntmps70
    go_wp2
    go_ret
    exact ⟨rfl, rfl⟩
  have e0 : ((l.length : Int) == 0) = false := by rw [beq_eq_false_iff_ne]; omega
  obtain ⟨E, hE⟩ : ∃ E, errArg (decide (IsSet l)) = E := ⟨_, rfl⟩
  have HE := Lib.hid hE
  rw [hE]
  clear hE
  obtain ⟨b, off, rfl, hcell⟩ := HIN.out.all (by omega)
  have HC := Lib.hid hcell
  clear hcell
  go_enter Try.func70, Try.ntmps70
  go_wp2
  go_loop [3, 4, 10] (fun x y i => ∃ k : Nat, k ≤ l.length ∧ i = .int .i64 k ∧ Good l k) (fun _ _ i => l.length - (intOf i).toNat)
  case atStart => exact ⟨0, by omega, rfl, Good.zero l⟩
  case round =>
    obtain ⟨k, hk, rfl, hgd⟩ := hrel
    by_cases hlt : k < l.length
    · have hck := HC.out k hlt
      have hck1 : 0 < k → w.cell? ⟨b, off + (k - 1), none⟩ = some (.int .i64 (l[k - 1])) := fun _ => HC.out (k - 1) (by omega)
      obtain ⟨z, hz⟩ : ∃ z, l[k] = z := ⟨_, rfl⟩
      rw [hz] at hck
      have HZ := Lib.hid hz
      have NOT : (z < 1 ∨ 7 < z ∨ (0 < k ∧ z ≤ l[k - 1])) → Hid (E = 1) := fun h => by
        show _ = _
        rw [← HE.out]
        have := not_set hlt (by rw [HZ.out]; exact h)
        rw [decide_eq_false this]
        rfl
      by_cases h1 : z < 1
      · have NB := NOT (.inl h1)
        go_wp2
        go_ret
        rw [NB.out]
        exact ⟨rfl, rfl⟩
      by_cases h7 : 7 < z
      · have NB := NOT (.inr (.inl h7))
        go_wp2
        go_ret
        rw [NB.out]
        exact ⟨rfl, rfl⟩
      by_cases h0 : 0 < k
      · have hckk := hck1 h0
        obtain ⟨y, hy⟩ : ∃ y, l[k - 1] = y := ⟨_, rfl⟩
        rw [hy] at hckk NOT
        have HY := Lib.hid hy
        clear hck1 hy
        obtain ⟨j, rfl⟩ : ∃ j, k = j + 1 := ⟨k - 1, by omega⟩
        simp only [Nat.add_sub_cancel] at hckk HY
        by_cases hge : z ≤ y
        · have NB := NOT (.inr (.inr ⟨h0, hge⟩))
          go_wp2
          go_ret
          rw [NB.out]
          exact ⟨rfl, rfl⟩
        · go_wp2
          go_round
          case rel => exact ⟨j + 1 + 1, by omega, by go_num, hgd.step hlt (by rw [HZ.out]; omega) (by rw [HZ.out]; omega) (fun _ => by show l[j] < l[j + 1]; rw [HZ.out, HY.out]; omega)⟩
          case measure => simp [intOf]; omega
      · obtain rfl : k = 0 := by omega
        clear hck1
        rw [Nat.add_zero] at hck
        go_wp2
        go_round
        case rel => exact ⟨0 + 1, by omega, by go_num, hgd.step hlt (by rw [HZ.out]; omega) (by rw [HZ.out]; omega) (fun hh => absurd hh (by omega))⟩
        case measure => simp [intOf]; omega
    · obtain rfl : k = l.length := by omega
      have NE : Hid (E = 0) := by
        show _ = _
        have hset : IsSet l := ⟨by omega, hgd⟩
        rw [← HE.out, decide_eq_true hset]
        rfl
      go_wp2
      go_ret
      rw [NE.out]
      exact ⟨rfl, rfl⟩
end Go.Proofs.Ytfkaggdjhopjpaa
