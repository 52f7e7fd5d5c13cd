/- Ledgers: which answers may stand in a Last, by the code and by the document. -/
import Derived.Test.YtfkaggdjhopjpaaLedP
namespace Go.Proofs.Ytfkaggdjhopjpaa
set_option maxRecDepth 100000
open Go.RowKit

theorem wrap_pred {x : Int} (h1 : 1 ≤ x) (h2 : x < 18446744073709551616) : IntKind.u64.wrap (x - 1) = x - 1 := by
  rw [IntKind.wrap_u64]
  omega
theorem wrap_pred0 : IntKind.u64.wrap (-1) = 18446744073709551615 := by
  rw [IntKind.wrap_u64]
  rfl

set_option maxRecDepth 100000 in
set_option maxHeartbeats 4000000 in
theorem r05_answer_any (w : World) (lim nxt : Int) (hl ll : Value) (cod tok ser : Int) :
    Calls Try.prog 44 #[ledV lim nxt hl ll, .agg #[.int .i64 cod, .int .i64 tok, .int .u64 ser]] w fun e w' => e = .returned (.bool (ansOk lim nxt cod tok ser)) ∧ Below w.heap.size w w' := by
  have hB : Below w.heap.size w ((w.alloc (.cells #[.int .i64 lim, .int .u64 nxt, hl, ll] 26)).alloc (.cells #[.int .i64 cod, .int .i64 tok, .int .u64 ser] 41)) := ((Below.refl _ _).alloc (Nat.le_refl _) _).alloc (by simp) _
  have HB := Lib.hid hB
  unfold ledV
  clear hB
  by_cases hc : cod = 1
  · subst hc
    have hgen : ansOk lim nxt 1 tok ser = (decide (1 ≤ tok) && (decide (tok ≤ lim) && (decide (1 ≤ ser) && decide (ser < nxt)))) := by
      simp only [ansOk, if_pos]
      rw [← Bool.decide_and, ← Bool.decide_and, ← Bool.decide_and]
    rw [hgen]
    clear hgen
    by_cases h1 : 1 ≤ tok
    rotate_left
    · rw [decide_eq_false h1, Bool.false_and]
      go_enter Try.func44, Try.ntmps44
      go_wp2
      go_ret
      exact ⟨rfl, HB.out⟩
    rw [decide_eq_true h1, Bool.true_and]
    by_cases h2 : tok ≤ lim
    rotate_left
    · rw [decide_eq_false h2, Bool.false_and]
      go_enter Try.func44, Try.ntmps44
      go_wp2
      go_ret
      exact ⟨rfl, HB.out⟩
    rw [decide_eq_true h2, Bool.true_and]
    by_cases h3 : 1 ≤ ser
    rotate_left
    · rw [decide_eq_false h3, Bool.false_and]
      go_enter Try.func44, Try.ntmps44
      go_wp2
      go_ret
      exact ⟨rfl, HB.out⟩
    rw [decide_eq_true h3, Bool.true_and]
    go_enter Try.func44, Try.ntmps44
    go_wp2
    go_ret
    exact ⟨rfl, HB.out⟩
  · by_cases h2 : 2 ≤ cod ∧ cod ≤ 5
    · have hgen : ansOk lim nxt cod tok ser = (decide (tok = 0) && decide (ser = 0)) := by
        simp only [ansOk, if_neg hc]
        rw [← Bool.decide_and]
        exact decide_eq_decide.2 (by omega)
      rw [hgen]
      clear hgen
      have hcs : cod = 2 ∨ cod = 3 ∨ cod = 4 ∨ cod = 5 := by omega
      clear hc h2
      rcases hcs with rfl | rfl | rfl | rfl
      all_goals
        by_cases h3 : tok = 0
        · subst h3
          rw [decide_eq_true rfl, Bool.true_and]
          go_enter Try.func44, Try.ntmps44
          go_wp2
          go_ret
          exact ⟨rfl, HB.out⟩
        · rw [decide_eq_false h3, Bool.false_and]
          go_enter Try.func44, Try.ntmps44
          go_wp2
          go_ret
          exact ⟨rfl, HB.out⟩
    · have hgen : ansOk lim nxt cod tok ser = false := by
        simp only [ansOk, if_neg hc]
        exact decide_eq_false (by omega)
      rw [hgen]
      have n2 : ¬ cod = 2 := by omega
      have n3 : ¬ cod = 3 := by omega
      have n4 : ¬ cod = 4 := by omega
      have n5 : ¬ cod = 5 := by omega
      clear hgen h2
      go_enter Try.func44, Try.ntmps44
      go_wp2
      go_ret
      exact ⟨rfl, HB.out⟩
end Go.Proofs.Ytfkaggdjhopjpaa
