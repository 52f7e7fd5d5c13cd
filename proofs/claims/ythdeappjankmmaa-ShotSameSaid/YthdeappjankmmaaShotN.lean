/- Walks over snapshots: new ledgers, by the code and by the document. -/
import Derived.Test.YthdeappjankmmaaSame3
namespace Go.Proofs.Ythdeappjankmmaa
open Go.RowKit

theorem results_cell2 {fn : Func} {t u : Tmp} {ty : TypeId} (h : fn.results = #[.cell t ty, .tmp u]) {tmps : Array Value} {P : Program} {w : World} {a : Addr} {v : Value} (ha : tmps.getD t undef = .pointer (some a)) (hl : (loadVar ty a).run P w = .ok v w) :
    (results fn tmps).run P w = .ok (.tuple #[v, tmps.getD u undef]) w := results_cell h ha hl
theorem info_Ledger : (Try.prog.info? 27).map (·.size) = some 4 := by kernel_rfl
theorem info_Shot : (Try.prog.info? 29).map (·.size) = some 7 := by kernel_rfl
def ledgerV (lim nxt : Int) : Value := .agg #[.int .i64 lim, .int .u64 nxt, .slice none 0 0, .slice none 0 0]
def limOk (lim : Int) : Bool := decide (1 ≤ lim) && decide (lim ≤ 65535)
def newLedger (lim : Int) : Value := if limOk lim then ledgerV lim 1 else ledgerV 0 0
def newErr (lim : Int) : Int := if limOk lim then 0 else 1

set_option maxHeartbeats 1000000 in
theorem ledger_New_any (w : World) (lim : Int) :
    Calls Try.prog 21 #[.int .i64 lim] w fun e w' => e = .returned (.tuple #[newLedger lim, .int .i64 (newErr lim)]) ∧ Below w.heap.size w w' := by
  by_cases h1 : lim < 1
  · have hd : decide (lim < 1) = true := decide_eq_true h1
    have e1 : newLedger lim = ledgerV 0 0 := by unfold newLedger limOk; rw [if_neg]; simp; omega
    have e2 : newErr lim = 1 := by unfold newErr limOk; rw [if_neg]; simp; omega
    rw [e1, e2]
    clear e1 e2
    go_enter Try.func21, Try.ntmps21
    go_wp2
    refine bodyPost_ret (results_cell2 rfl rfl (run_loadVar_row _ _ _ _ _ (0, 0) _ (Blk.new _ _ _) Try.underlying27 rfl info_Ledger)) rfl ?_
    exact ⟨rfl, (Below.refl _ _).alloc (Nat.le_refl _) _⟩
  · have hd : decide (lim < 1) = false := decide_eq_false h1
    by_cases h2 : lim > 65535
    · have hd2 : decide (lim > 65535) = true := decide_eq_true h2
      have e1 : newLedger lim = ledgerV 0 0 := by unfold newLedger limOk; rw [if_neg]; simp; omega
      have e2 : newErr lim = 1 := by unfold newErr limOk; rw [if_neg]; simp; omega
      rw [e1, e2]
      clear e1 e2
      go_enter Try.func21, Try.ntmps21
      go_wp2
      refine bodyPost_ret (results_cell2 rfl rfl (run_loadVar_row _ _ _ _ _ (0, 0) _ (Blk.new _ _ _) Try.underlying27 rfl info_Ledger)) rfl ?_
      exact ⟨rfl, (Below.refl _ _).alloc (Nat.le_refl _) _⟩
    · have hd2 : decide (lim > 65535) = false := decide_eq_false h2
      have e1 : newLedger lim = ledgerV lim 1 := by unfold newLedger limOk; rw [if_pos]; simp; omega
      have e2 : newErr lim = 0 := by unfold newErr limOk; rw [if_pos]; simp; omega
      rw [e1, e2]
      clear e1 e2
      go_enter Try.func21, Try.ntmps21
      go_wp2
      refine bodyPost_ret (results_cell2 rfl rfl (run_loadVar_row _ _ _ _ _ (0, 0) _ (Blk.new _ _ _) Try.underlying27 rfl info_Ledger)) rfl ?_
      exact ⟨rfl, (Below.refl _ _).alloc (Nat.le_refl _) _⟩

set_option maxHeartbeats 1000000 in
theorem r05_New_any (w : World) (lim : Int) :
    Calls Try.prog 24 #[.int .i64 lim] w fun e w' => e = .returned (.tuple #[newLedger lim, .int .i64 (newErr lim)]) ∧ Below w.heap.size w w' := by
  by_cases h1 : lim < 1
  · have hd : decide (lim < 1) = true := decide_eq_true h1
    have e1 : newLedger lim = ledgerV 0 0 := by unfold newLedger limOk; rw [if_neg]; simp; omega
    have e2 : newErr lim = 1 := by unfold newErr limOk; rw [if_neg]; simp; omega
    rw [e1, e2]
    clear e1 e2
    go_enter Try.func24, Try.ntmps24
    go_wp2
    refine bodyPost_ret (results_cell2 rfl rfl (run_loadVar_row _ _ _ _ _ (0, 0) _ (Blk.new _ _ _) Try.underlying27 rfl info_Ledger)) rfl ?_
    exact ⟨rfl, (Below.refl _ _).alloc (Nat.le_refl _) _⟩
  · have hd : decide (lim < 1) = false := decide_eq_false h1
    by_cases h2 : lim > 65535
    · have hd2 : decide (lim > 65535) = true := decide_eq_true h2
      have e1 : newLedger lim = ledgerV 0 0 := by unfold newLedger limOk; rw [if_neg]; simp; omega
      have e2 : newErr lim = 1 := by unfold newErr limOk; rw [if_neg]; simp; omega
      rw [e1, e2]
      clear e1 e2
      go_enter Try.func24, Try.ntmps24
      go_wp2
      refine bodyPost_ret (results_cell2 rfl rfl (run_loadVar_row _ _ _ _ _ (0, 0) _ (Blk.new _ _ _) Try.underlying27 rfl info_Ledger)) rfl ?_
      exact ⟨rfl, (Below.refl _ _).alloc (Nat.le_refl _) _⟩
    · have hd2 : decide (lim > 65535) = false := decide_eq_false h2
      have e1 : newLedger lim = ledgerV lim 1 := by unfold newLedger limOk; rw [if_pos]; simp; omega
      have e2 : newErr lim = 0 := by unfold newErr limOk; rw [if_pos]; simp; omega
      rw [e1, e2]
      clear e1 e2
      go_enter Try.func24, Try.ntmps24
      go_wp2
      refine bodyPost_ret (results_cell2 rfl rfl (run_loadVar_row _ _ _ _ _ (0, 0) _ (Blk.new _ _ _) Try.underlying27 rfl info_Ledger)) rfl ?_
      exact ⟨rfl, (Below.refl _ _).alloc (Nat.le_refl _) _⟩
end Go.Proofs.Ythdeappjankmmaa
