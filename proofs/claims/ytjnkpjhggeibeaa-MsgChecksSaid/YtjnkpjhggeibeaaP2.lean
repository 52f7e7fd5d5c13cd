/- Texts drawn together (12 of them): words, plain laws and walks that the row leans on. -/
import Derived.Test.YtjnkpjhggeibeaaP1
import Derived.Deep.DeepCutAuto
import Derived.Deep.QuietTactic
import Derived.BigQuiet
import Derived.Deep.Draws
import Derived.Maps.Own
import Derived.Maps.OwnOps
import Derived.Maps.OwnSet
import Derived.Maps.Views
import Derived.Maps.Keyed
import Derived.Carry
/- Walks over commands: the document's Check where a number is not as it must be. -/
namespace Go.Proofs.Ytjnkpjhggeibeaa
set_option maxRecDepth 100000
open Go.RowKit

set_option maxRecDepth 100000 in
set_option maxHeartbeats 2000000 in
theorem ref_Check_hI (w : World) (k n t : Int) (sl : Value) (b q s m : Int) (hn : (Lit.int .i64 n).wf = true) (ht : (Lit.int .i64 t).wf = true)  (hI : kI k = false) :
    Calls Try.prog 31 #[cmdV k n t sl b q s m] w fun e w' => e = .returned (.int .i64 40) ∧ Below w.heap.size w w' := by
  have hnb := wf_i64 hn
  have htb := wf_i64 ht
  clear hnb htb hn ht
  have C1 := fun W => Lib.hid (ref_fields_any W k)
  unfold cmdV
  go_enter Try.func31, Try.ntmps31
  go_wp2_with fail
  refine (C1 _).out.mono ?_
  rintro e w1 ⟨rfl, rfl⟩
  go_wp2_with fail
  simp only [List.append_eq, List.cons_append, List.nil_append]
  go_quiet (fail)
  go_wp2
  go_ret
  exact ⟨rfl, below_drewN ((Below.refl _ _).alloc (Nat.le_refl _) _) _⟩

set_option maxRecDepth 100000 in
set_option maxHeartbeats 2000000 in
theorem ref_Check_h0n (w : World) (k n t : Int) (sl : Value) (b q s m : Int) (hn : (Lit.int .i64 n).wf = true) (ht : (Lit.int .i64 t).wf = true) (hI : kI k = true) (h0n : decide (n < 0) = true) :
    Calls Try.prog 31 #[cmdV k n t sl b q s m] w fun e w' => e = .returned (.int .i64 40) ∧ Below w.heap.size w w' := by
  have hnb := wf_i64 hn
  have htb := wf_i64 ht
  clear hnb htb hn ht
  have C1 := fun W => Lib.hid (ref_fields_any W k)
  unfold cmdV
  go_enter Try.func31, Try.ntmps31
  go_wp2_with fail
  refine (C1 _).out.mono ?_
  rintro e w1 ⟨rfl, rfl⟩
  go_wp2_with fail
  simp only [List.append_eq, List.cons_append, List.nil_append]
  go_quiet (fail)
  go_wp2
  go_ret
  exact ⟨rfl, below_drewN ((Below.refl _ _).alloc (Nat.le_refl _) _) _⟩

set_option maxRecDepth 100000 in
set_option maxHeartbeats 2000000 in
theorem ref_Check_h0t (w : World) (k n t : Int) (sl : Value) (b q s m : Int) (hn : (Lit.int .i64 n).wf = true) (ht : (Lit.int .i64 t).wf = true) (hI : kI k = true) (h0n : 0 ≤ n) (h0t : decide (t < 0) = true) :
    Calls Try.prog 31 #[cmdV k n t sl b q s m] w fun e w' => e = .returned (.int .i64 40) ∧ Below w.heap.size w w' := by
  have hnb := wf_i64 hn
  have htb := wf_i64 ht
  have wn : IntKind.u64.wrap n = n := by simp [IntKind.wrap_u64]; omega
  have hnn : decide (n < 0) = false := decide_eq_false (by omega)
  clear hnb htb hn ht h0n
  have C1 := fun W => Lib.hid (ref_fields_any W k)
  unfold cmdV
  go_enter Try.func31, Try.ntmps31
  go_wp2_with fail
  refine (C1 _).out.mono ?_
  rintro e w1 ⟨rfl, rfl⟩
  go_wp2_with fail
  simp only [List.append_eq, List.cons_append, List.nil_append]
  go_quiet (fail)
  go_wp2
  go_ret
  exact ⟨rfl, below_drewN ((Below.refl _ _).alloc (Nat.le_refl _) _) _⟩

set_option maxRecDepth 100000 in
set_option maxHeartbeats 2000000 in
theorem ref_Check_r1 (w : World) (k n t : Int) (sl : Value) (b q s m : Int) (hn : (Lit.int .i64 n).wf = true) (ht : (Lit.int .i64 t).wf = true) (hI : kI k = true) (h0n : 0 ≤ n) (h0t : 0 ≤ t) (r1 : rightB (hasB (fld k) 110) n 7 = false) :
    Calls Try.prog 31 #[cmdV k n t sl b q s m] w fun e w' => e = .returned (.int .i64 40) ∧ Below w.heap.size w w' := by
  have hnb := wf_i64 hn
  have htb := wf_i64 ht
  have wn : IntKind.u64.wrap n = n := by simp [IntKind.wrap_u64]; omega
  have hnn : decide (n < 0) = false := decide_eq_false (by omega)
  have wt : IntKind.u64.wrap t = t := by simp [IntKind.wrap_u64]; omega
  have htn : decide (t < 0) = false := decide_eq_false (by omega)
  clear hnb htb hn ht h0n h0t
  have C1 := fun W => Lib.hid (ref_fields_any W k)
  have C2 := fun W c => Lib.hid (ref_has_any W (fld k) c (fld_small k))
  have C3 := fun W b n hi => Lib.hid (ref_right_any W b n hi)
  unfold cmdV
  go_enter Try.func31, Try.ntmps31
  go_wp2_with fail
  refine (C1 _).out.mono ?_
  rintro e w1 ⟨rfl, rfl⟩
  go_wp2_with fail
  simp only [List.append_eq, List.cons_append, List.nil_append]
  go_quiet ((first | (go_at_call 44; exact Calls.quiet_of_same (C2 _ _).out) | (go_at_call 43; exact Calls.quiet_of_same (C3 _ _ _ _).out)))
  go_wp2
  go_ret
  exact ⟨rfl, below_drewN ((Below.refl _ _).alloc (Nat.le_refl _) _) _⟩

set_option maxRecDepth 100000 in
set_option maxHeartbeats 2000000 in
theorem ref_Check_r2 (w : World) (k n t : Int) (sl : Value) (b q s m : Int) (hn : (Lit.int .i64 n).wf = true) (ht : (Lit.int .i64 t).wf = true) (hI : kI k = true) (h0n : 0 ≤ n) (h0t : 0 ≤ t) (r1 : rightB (hasB (fld k) 110) n 7 = true) (r2 : rightB (hasB (fld k) 116) t 65535 = false) :
    Calls Try.prog 31 #[cmdV k n t sl b q s m] w fun e w' => e = .returned (.int .i64 40) ∧ Below w.heap.size w w' := by
  have hnb := wf_i64 hn
  have htb := wf_i64 ht
  have wn : IntKind.u64.wrap n = n := by simp [IntKind.wrap_u64]; omega
  have hnn : decide (n < 0) = false := decide_eq_false (by omega)
  have wt : IntKind.u64.wrap t = t := by simp [IntKind.wrap_u64]; omega
  have htn : decide (t < 0) = false := decide_eq_false (by omega)
  clear hnb htb hn ht h0n h0t
  have C1 := fun W => Lib.hid (ref_fields_any W k)
  have C2 := fun W c => Lib.hid (ref_has_any W (fld k) c (fld_small k))
  have C3 := fun W b n hi => Lib.hid (ref_right_any W b n hi)
  unfold cmdV
  go_enter Try.func31, Try.ntmps31
  go_wp2_with fail
  refine (C1 _).out.mono ?_
  rintro e w1 ⟨rfl, rfl⟩
  go_wp2_with fail
  simp only [List.append_eq, List.cons_append, List.nil_append]
  go_quiet ((first | (go_at_call 44; exact Calls.quiet_of_same (C2 _ _).out) | (go_at_call 43; exact Calls.quiet_of_same (C3 _ _ _ _).out)))
  go_wp2
  go_ret
  exact ⟨rfl, below_drewN ((Below.refl _ _).alloc (Nat.le_refl _) _) _⟩

set_option maxRecDepth 100000 in
set_option maxHeartbeats 2000000 in
theorem ref_Check_r3 (w : World) (k n t : Int) (sl : Value) (b q s m : Int) (hn : (Lit.int .i64 n).wf = true) (ht : (Lit.int .i64 t).wf = true) (hI : kI k = true) (h0n : 0 ≤ n) (h0t : 0 ≤ t) (r1 : rightB (hasB (fld k) 110) n 7 = true) (r2 : rightB (hasB (fld k) 116) t 65535 = true) (r3 : rightB (hasB (fld k) 98) b 18446744073709551615 = false) :
    Calls Try.prog 31 #[cmdV k n t sl b q s m] w fun e w' => e = .returned (.int .i64 40) ∧ Below w.heap.size w w' := by
  have hnb := wf_i64 hn
  have htb := wf_i64 ht
  have wn : IntKind.u64.wrap n = n := by simp [IntKind.wrap_u64]; omega
  have hnn : decide (n < 0) = false := decide_eq_false (by omega)
  have wt : IntKind.u64.wrap t = t := by simp [IntKind.wrap_u64]; omega
  have htn : decide (t < 0) = false := decide_eq_false (by omega)
  clear hnb htb hn ht h0n h0t
  have C1 := fun W => Lib.hid (ref_fields_any W k)
  have C2 := fun W c => Lib.hid (ref_has_any W (fld k) c (fld_small k))
  have C3 := fun W b n hi => Lib.hid (ref_right_any W b n hi)
  unfold cmdV
  go_enter Try.func31, Try.ntmps31
  go_wp2_with fail
  refine (C1 _).out.mono ?_
  rintro e w1 ⟨rfl, rfl⟩
  go_wp2_with fail
  simp only [List.append_eq, List.cons_append, List.nil_append]
  go_quiet ((first | (go_at_call 44; exact Calls.quiet_of_same (C2 _ _).out) | (go_at_call 43; exact Calls.quiet_of_same (C3 _ _ _ _).out)))
  go_wp2
  go_ret
  exact ⟨rfl, below_drewN ((Below.refl _ _).alloc (Nat.le_refl _) _) _⟩

set_option maxRecDepth 100000 in
set_option maxHeartbeats 2000000 in
theorem ref_Check_r4 (w : World) (k n t : Int) (sl : Value) (b q s m : Int) (hn : (Lit.int .i64 n).wf = true) (ht : (Lit.int .i64 t).wf = true) (hI : kI k = true) (h0n : 0 ≤ n) (h0t : 0 ≤ t) (r1 : rightB (hasB (fld k) 110) n 7 = true) (r2 : rightB (hasB (fld k) 116) t 65535 = true) (r3 : rightB (hasB (fld k) 98) b 18446744073709551615 = true) (r4 : rightB (hasB (fld k) 113) q 18446744073709551615 = false) :
    Calls Try.prog 31 #[cmdV k n t sl b q s m] w fun e w' => e = .returned (.int .i64 40) ∧ Below w.heap.size w w' := by
  have hnb := wf_i64 hn
  have htb := wf_i64 ht
  have wn : IntKind.u64.wrap n = n := by simp [IntKind.wrap_u64]; omega
  have hnn : decide (n < 0) = false := decide_eq_false (by omega)
  have wt : IntKind.u64.wrap t = t := by simp [IntKind.wrap_u64]; omega
  have htn : decide (t < 0) = false := decide_eq_false (by omega)
  clear hnb htb hn ht h0n h0t
  have C1 := fun W => Lib.hid (ref_fields_any W k)
  have C2 := fun W c => Lib.hid (ref_has_any W (fld k) c (fld_small k))
  have C3 := fun W b n hi => Lib.hid (ref_right_any W b n hi)
  unfold cmdV
  go_enter Try.func31, Try.ntmps31
  go_wp2_with fail
  refine (C1 _).out.mono ?_
  rintro e w1 ⟨rfl, rfl⟩
  go_wp2_with fail
  simp only [List.append_eq, List.cons_append, List.nil_append]
  go_quiet ((first | (go_at_call 44; exact Calls.quiet_of_same (C2 _ _).out) | (go_at_call 43; exact Calls.quiet_of_same (C3 _ _ _ _).out)))
  go_wp2
  go_ret
  exact ⟨rfl, below_drewN ((Below.refl _ _).alloc (Nat.le_refl _) _) _⟩

set_option maxRecDepth 100000 in
set_option maxHeartbeats 2000000 in
theorem ref_Check_r5 (w : World) (k n t : Int) (sl : Value) (b q s m : Int) (hn : (Lit.int .i64 n).wf = true) (ht : (Lit.int .i64 t).wf = true) (hI : kI k = true) (h0n : 0 ≤ n) (h0t : 0 ≤ t) (r1 : rightB (hasB (fld k) 110) n 7 = true) (r2 : rightB (hasB (fld k) 116) t 65535 = true) (r3 : rightB (hasB (fld k) 98) b 18446744073709551615 = true) (r4 : rightB (hasB (fld k) 113) q 18446744073709551615 = true) (r5 : rightB (hasB (fld k) 115) s 18446744073709551615 = false) :
    Calls Try.prog 31 #[cmdV k n t sl b q s m] w fun e w' => e = .returned (.int .i64 40) ∧ Below w.heap.size w w' := by
  have hnb := wf_i64 hn
  have htb := wf_i64 ht
  have wn : IntKind.u64.wrap n = n := by simp [IntKind.wrap_u64]; omega
  have hnn : decide (n < 0) = false := decide_eq_false (by omega)
  have wt : IntKind.u64.wrap t = t := by simp [IntKind.wrap_u64]; omega
  have htn : decide (t < 0) = false := decide_eq_false (by omega)
  clear hnb htb hn ht h0n h0t
  have C1 := fun W => Lib.hid (ref_fields_any W k)
  have C2 := fun W c => Lib.hid (ref_has_any W (fld k) c (fld_small k))
  have C3 := fun W b n hi => Lib.hid (ref_right_any W b n hi)
  unfold cmdV
  go_enter Try.func31, Try.ntmps31
  go_wp2_with fail
  refine (C1 _).out.mono ?_
  rintro e w1 ⟨rfl, rfl⟩
  go_wp2_with fail
  simp only [List.append_eq, List.cons_append, List.nil_append]
  go_quiet ((first | (go_at_call 44; exact Calls.quiet_of_same (C2 _ _).out) | (go_at_call 43; exact Calls.quiet_of_same (C3 _ _ _ _).out)))
  go_wp2
  go_ret
  exact ⟨rfl, below_drewN ((Below.refl _ _).alloc (Nat.le_refl _) _) _⟩

set_option maxRecDepth 100000 in
set_option maxHeartbeats 2000000 in
theorem ref_Check_r6 (w : World) (k n t : Int) (sl : Value) (b q s m : Int) (hn : (Lit.int .i64 n).wf = true) (ht : (Lit.int .i64 t).wf = true) (hI : kI k = true) (h0n : 0 ≤ n) (h0t : 0 ≤ t) (r1 : rightB (hasB (fld k) 110) n 7 = true) (r2 : rightB (hasB (fld k) 116) t 65535 = true) (r3 : rightB (hasB (fld k) 98) b 18446744073709551615 = true) (r4 : rightB (hasB (fld k) 113) q 18446744073709551615 = true) (r5 : rightB (hasB (fld k) 115) s 18446744073709551615 = true) (r6 : rightB (hasB (fld k) 109) m 18446744073709551615 = false) :
    Calls Try.prog 31 #[cmdV k n t sl b q s m] w fun e w' => e = .returned (.int .i64 40) ∧ Below w.heap.size w w' := by
  have hnb := wf_i64 hn
  have htb := wf_i64 ht
  have wn : IntKind.u64.wrap n = n := by simp [IntKind.wrap_u64]; omega
  have hnn : decide (n < 0) = false := decide_eq_false (by omega)
  have wt : IntKind.u64.wrap t = t := by simp [IntKind.wrap_u64]; omega
  have htn : decide (t < 0) = false := decide_eq_false (by omega)
  clear hnb htb hn ht h0n h0t
  have C1 := fun W => Lib.hid (ref_fields_any W k)
  have C2 := fun W c => Lib.hid (ref_has_any W (fld k) c (fld_small k))
  have C3 := fun W b n hi => Lib.hid (ref_right_any W b n hi)
  unfold cmdV
  go_enter Try.func31, Try.ntmps31
  go_wp2_with fail
  refine (C1 _).out.mono ?_
  rintro e w1 ⟨rfl, rfl⟩
  go_wp2_with fail
  simp only [List.append_eq, List.cons_append, List.nil_append]
  go_quiet ((first | (go_at_call 44; exact Calls.quiet_of_same (C2 _ _).out) | (go_at_call 43; exact Calls.quiet_of_same (C3 _ _ _ _).out)))
  go_wp2
  go_ret
  exact ⟨rfl, below_drewN ((Below.refl _ _).alloc (Nat.le_refl _) _) _⟩

theorem ref_Check_bad (w : World) (k n t : Int) (sl : Value) (b q s m : Int) (hn : (Lit.int .i64 n).wf = true) (ht : (Lit.int .i64 t).wf = true) (bad : numsOk k n t b q s m = false) :
    Calls Try.prog 31 #[cmdV k n t sl b q s m] w fun e w' => e = .returned (.int .i64 40) ∧ Below w.heap.size w w' := by
  by_cases hI : kI k = true
  case neg => exact ref_Check_hI w k n t sl b q s m hn ht  (by simpa using hI)
  by_cases h0n : 0 ≤ n
  case neg => exact ref_Check_h0n w k n t sl b q s m hn ht hI (by simpa using h0n)
  by_cases h0t : 0 ≤ t
  case neg => exact ref_Check_h0t w k n t sl b q s m hn ht hI h0n (by simpa using h0t)
  by_cases r1 : rightB (hasB (fld k) 110) n 7 = true
  case neg => exact ref_Check_r1 w k n t sl b q s m hn ht hI h0n h0t (by simpa using r1)
  by_cases r2 : rightB (hasB (fld k) 116) t 65535 = true
  case neg => exact ref_Check_r2 w k n t sl b q s m hn ht hI h0n h0t r1 (by simpa using r2)
  by_cases r3 : rightB (hasB (fld k) 98) b 18446744073709551615 = true
  case neg => exact ref_Check_r3 w k n t sl b q s m hn ht hI h0n h0t r1 r2 (by simpa using r3)
  by_cases r4 : rightB (hasB (fld k) 113) q 18446744073709551615 = true
  case neg => exact ref_Check_r4 w k n t sl b q s m hn ht hI h0n h0t r1 r2 r3 (by simpa using r4)
  by_cases r5 : rightB (hasB (fld k) 115) s 18446744073709551615 = true
  case neg => exact ref_Check_r5 w k n t sl b q s m hn ht hI h0n h0t r1 r2 r3 r4 (by simpa using r5)
  by_cases r6 : rightB (hasB (fld k) 109) m 18446744073709551615 = true
  case neg => exact ref_Check_r6 w k n t sl b q s m hn ht hI h0n h0t r1 r2 r3 r4 r5 (by simpa using r6)
  exact absurd bad (by simp [numsOk, hI, h0n, h0t, r1, r2, r3, r4, r5, r6])
end Go.Proofs.Ytjnkpjhggeibeaa

/- Walks over commands: the document's Check  where the numbers are as they must be. -/
namespace Go.Proofs.Ytjnkpjhggeibeaa
set_option maxRecDepth 100000
open Go.RowKit

set_option maxHeartbeats 20000000 in
theorem ref_Check_good (w : World) (k n t : Int) (A : Option Addr) (c : Nat) (l : List Int) (b q s m : Int) (h : InN .i64 w A c l)
    (hn : (Lit.int .i64 n).wf = true) (ht : (Lit.int .i64 t).wf = true) (hI : kI k = true) (h0n : 0 ≤ n) (h0t : 0 ≤ t)
    (r1 : rightB (hasB (fld k) 110) n 7 = true) (r2 : rightB (hasB (fld k) 116) t 65535 = true) (r3 : rightB (hasB (fld k) 98) b 18446744073709551615 = true) (r4 : rightB (hasB (fld k) 113) q 18446744073709551615 = true) (r5 : rightB (hasB (fld k) 115) s 18446744073709551615 = true) (r6 : rightB (hasB (fld k) 109) m 18446744073709551615 = true) :
    Calls Try.prog 31 #[cmdV k n t (.slice A l.length c) b q s m] w fun e w' => e = .returned (.int .i64 (errCmd (numsOk k n t b q s m && listOk k l))) ∧ Below w.heap.size w w' := by
  have hnb := wf_i64 hn
  have htb := wf_i64 ht
  have wn : 0 ≤ n → IntKind.u64.wrap n = n := fun h0 => by simp [IntKind.wrap_u64]; omega
  have wt : 0 ≤ t → IntKind.u64.wrap t = t := fun h0 => by simp [IntKind.wrap_u64]; omega
  have C1 := fun W => Lib.hid (ref_fields_any W k)
  have C2 := fun W c => Lib.hid (ref_has_any W (fld k) c (fld_small k))
  have C3 := fun W b n hi => Lib.hid (ref_right_any W b n hi)
  have HIN := Lib.hid h
  have hs := h.small
  have hcap := h.cap
  clear h
  have ok : numsOk k n t b q s m = true := by simp [numsOk, hI, h0n, h0t, r1, r2, r3, r4, r5, r6]
  have OK := Lib.hid ok
  clear ok
  have wn := wn h0n
  have hnn : decide (n < 0) = false := by simp; omega
  have h0n := Lib.hid h0n
  have wt := wt h0t
  have htn : decide (t < 0) = false := by simp; omega
  have h0t := Lib.hid h0t
  generalize hE : errCmd (numsOk k n t b q s m && listOk k l) = E
  have HE := Lib.hid hE
  clear hE
  unfold cmdV
  go_enter Try.func31, Try.ntmps31
  go_wp2_with fail
  refine (C1 _).out.mono ?_
  rintro e w1 ⟨rfl, rfl⟩
  go_wp2_with fail
  simp only [List.append_eq, List.cons_append, List.nil_append]
  go_quiet ((first | (go_at_call 44; exact Calls.quiet_of_same (C2 _ _).out) | (go_at_call 43; exact Calls.quiet_of_same (C3 _ _ _ _).out)))
  by_cases hL : hasB (fld k) 108 = true
  · by_cases hS : IsSet l
    · have HB : Hid (0 = E) := by
        show _ = _
        rw [← HE.out]
        simp [OK.out, errCmd, listOk, hL, hS]
      have HV : Hid (errArg (decide (IsSet l)) = 0) := by
        show _ = _
        simp [errArg, hS]
      have C4 : ∀ j : Nat, Hid (Calls Try.prog 32 #[.slice A l.length c] ((w.alloc (.cells #[.int .i64 k, .int .i64 n, .int .i64 t, .slice A l.length c, .int .u64 b, .int .u64 q, .int .u64 s, .int .u64 m] 52)).drewN j) fun e w' => e = .returned (.int .i64 0) ∧ w' = (w.alloc (.cells #[.int .i64 k, .int .i64 n, .int .i64 t, .slice A l.length c, .int .u64 b, .int .u64 q, .int .u64 s, .int .u64 m] 52)).drewN j) := fun j => by
        have hbw : Below w.heap.size w ((w.alloc (.cells #[.int .i64 k, .int .i64 n, .int .i64 t, .slice A l.length c, .int .u64 b, .int .u64 q, .int .u64 s, .int .u64 m] 52)).drewN j) := below_drewN ((Below.refl _ _).alloc (Nat.le_refl _) _) j
        have := ref_setCheck_any _ A c l (HIN.out.keep hbw)
        rw [HV.out] at this
        exact this
      clear hS
      go_wp2_with fail
      refine (C2 _ _).out.mono ?_
      rintro e w2 ⟨rfl, rfl⟩
      go_wp2_with fail
      refine (C4 _).out.mono ?_
      rintro e w2 ⟨rfl, rfl⟩
      go_wp2_with fail
      refine (C2 _ _).out.mono ?_
      rintro e w2 ⟨rfl, rfl⟩
      go_wp2_with fail
      go_ret
      exact ⟨by rw [← HB.out]; rfl, below_drewN ((Below.refl _ _).alloc (Nat.le_refl _) _) _⟩
    · have HB : Hid (40 = E) := by
        show _ = _
        rw [← HE.out]
        simp [OK.out, errCmd, listOk, hL, hS]
      have HV : Hid (errArg (decide (IsSet l)) = 1) := by
        show _ = _
        simp [errArg, hS]
      have C4 : ∀ j : Nat, Hid (Calls Try.prog 32 #[.slice A l.length c] ((w.alloc (.cells #[.int .i64 k, .int .i64 n, .int .i64 t, .slice A l.length c, .int .u64 b, .int .u64 q, .int .u64 s, .int .u64 m] 52)).drewN j) fun e w' => e = .returned (.int .i64 1) ∧ w' = (w.alloc (.cells #[.int .i64 k, .int .i64 n, .int .i64 t, .slice A l.length c, .int .u64 b, .int .u64 q, .int .u64 s, .int .u64 m] 52)).drewN j) := fun j => by
        have hbw : Below w.heap.size w ((w.alloc (.cells #[.int .i64 k, .int .i64 n, .int .i64 t, .slice A l.length c, .int .u64 b, .int .u64 q, .int .u64 s, .int .u64 m] 52)).drewN j) := below_drewN ((Below.refl _ _).alloc (Nat.le_refl _) _) j
        have := ref_setCheck_any _ A c l (HIN.out.keep hbw)
        rw [HV.out] at this
        exact this
      clear hS
      go_wp2_with fail
      refine (C2 _ _).out.mono ?_
      rintro e w2 ⟨rfl, rfl⟩
      go_wp2_with fail
      refine (C4 _).out.mono ?_
      rintro e w2 ⟨rfl, rfl⟩
      go_wp2_with fail
      go_ret
      exact ⟨by rw [← HB.out]; rfl, below_drewN ((Below.refl _ _).alloc (Nat.le_refl _) _) _⟩
  · have hL : hasB (fld k) 108 = false := by simpa using hL
    by_cases h0 : l.length = 0
    · have HB : Hid (0 = E) := by
        show _ = _
        rw [← HE.out]
        simp [OK.out, errCmd, listOk, hL, h0]
      have hgt : decide ((l.length : Int) > 0) = false := decide_eq_false (by omega)
      have hgn : ¬ 0 < l.length := by omega
      clear h0
      go_wp2_with fail
      refine (C2 _ _).out.mono ?_
      rintro e w2 ⟨rfl, rfl⟩
      go_wp2_with fail
      refine (C2 _ _).out.mono ?_
      rintro e w2 ⟨rfl, rfl⟩
      go_wp2_with fail
      go_ret
      exact ⟨by rw [← HB.out]; rfl, below_drewN ((Below.refl _ _).alloc (Nat.le_refl _) _) _⟩
    · have HB : Hid (40 = E) := by
        show _ = _
        rw [← HE.out]
        simp [OK.out, errCmd, listOk, hL, h0]
      have hgt : decide ((l.length : Int) > 0) = true := decide_eq_true (by omega)
      have hgn : 0 < l.length := by omega
      clear h0
      go_wp2_with fail
      refine (C2 _ _).out.mono ?_
      rintro e w2 ⟨rfl, rfl⟩
      go_wp2_with fail
      refine (C2 _ _).out.mono ?_
      rintro e w2 ⟨rfl, rfl⟩
      go_wp2_with fail
      go_ret
      exact ⟨by rw [← HB.out]; rfl, below_drewN ((Below.refl _ _).alloc (Nat.le_refl _) _) _⟩

end Go.Proofs.Ytjnkpjhggeibeaa

/- Walks over commands: the document's Check, all its ways. -/
namespace Go.Proofs.Ytjnkpjhggeibeaa
set_option maxRecDepth 100000
open Go.RowKit

theorem ref_Check_any (w : World) (k n t : Int) (A : Option Addr) (c : Nat) (l : List Int) (b q s m : Int) (h : InN .i64 w A c l)
    (hn : (Lit.int .i64 n).wf = true) (ht : (Lit.int .i64 t).wf = true) :
    Calls Try.prog 31 #[cmdV k n t (.slice A l.length c) b q s m] w fun e w' => e = .returned (.int .i64 (errCmd (numsOk k n t b q s m && listOk k l))) ∧ Below w.heap.size w w' := by
  by_cases bad : numsOk k n t b q s m = true
  · have g := bad
    simp only [numsOk, Bool.and_eq_true, decide_eq_true_eq] at g
    obtain ⟨⟨⟨⟨⟨⟨⟨⟨hI, h0n⟩, h0t⟩, r1⟩, r2⟩, r3⟩, r4⟩, r5⟩, r6⟩ := g
    exact ref_Check_good w k n t A c l b q s m h hn ht hI h0n h0t r1 r2 r3 r4 r5 r6
  · have bad : numsOk k n t b q s m = false := by simpa using bad
    rw [show errCmd (numsOk k n t b q s m && listOk k l) = 40 by simp [bad, errCmd]]
    exact ref_Check_bad w k n t _ b q s m hn ht bad
end Go.Proofs.Ytjnkpjhggeibeaa

/- Walks over commands: the code's Check. -/
namespace Go.Proofs.Ytjnkpjhggeibeaa
set_option maxRecDepth 100000
open Go.RowKit

/-- A command's cells. -/
structure CmdAt (w : World) (g : Nat) (k n t : Int) (sl : Value) (b q s m : Int) : Prop where
  c0 : w.cell? ⟨g, 0, none⟩ = some (.int .i64 k)
  c1 : w.cell? ⟨g, 1, none⟩ = some (.int .i64 n)
  c2 : w.cell? ⟨g, 2, none⟩ = some (.int .i64 t)
  c3 : w.cell? ⟨g, 3, none⟩ = some sl
  c4 : w.cell? ⟨g, 4, none⟩ = some (.int .u64 b)
  c5 : w.cell? ⟨g, 5, none⟩ = some (.int .u64 q)
  c6 : w.cell? ⟨g, 6, none⟩ = some (.int .u64 s)
  c7 : w.cell? ⟨g, 7, none⟩ = some (.int .u64 m)
structure WhichAt (w : World) (g : Nat) (k : Int) : Prop where
  d0 : w.cell? ⟨g, 0, none⟩ = some (.bool (kN k))
  d1 : w.cell? ⟨g, 1, none⟩ = some (.bool (kR k))
  d2 : w.cell? ⟨g, 2, none⟩ = some (.bool (kT k))
  d3 : w.cell? ⟨g, 3, none⟩ = some (.bool (kS k))
  d4 : w.cell? ⟨g, 4, none⟩ = some (.bool (kI k))
def cmdCells (k n t : Int) (sl : Value) (b q s m : Int) : Array Value := #[.int .i64 k, .int .i64 n, .int .i64 t, sl, .int .u64 b, .int .u64 q, .int .u64 s, .int .u64 m]
theorem Blk.cmd {w : World} {g : Nat} {T : TypeId} {k n t : Int} {sl : Value} {b q s m : Int} (h : Blk w g T (cmdCells k n t sl b q s m)) : CmdAt w g k n t sl b q s m := by
  constructor <;> (rw [h.cell]; rfl)
theorem Blk.which {w : World} {g : Nat} {T : TypeId} {k : Int} (h : Blk w g T #[.bool (kN k), .bool (kR k), .bool (kT k), .bool (kS k), .bool (kI k)]) : WhichAt w g k := by
  constructor <;> (rw [h.cell]; rfl)

/-- The list is as its kind asks. -/
noncomputable def listB (k : Int) (l : List Int) : Bool := if kN k then decide (IsSet l) else decide (l.length = 0)
def reqZ (n b q : Int) : Bool := n == 0 && b == 0 && q == 0
def reqB (k n b q : Int) : Bool := if kR k then decide (n ≥ 1) && decide (n ≤ 7) && decide (b > 0) && decide (q > 0) else reqZ n b q
def tokZ (t s : Int) : Bool := t == 0 && s == 0
def tokB (k t s : Int) : Bool := if kT k then decide (t ≥ 1) && decide (t ≤ 65535) && decide (s > 0) else tokZ t s
noncomputable def codeOk (k n t : Int) (l : List Int) (b q s m : Int) : Bool := kI k && listB k l && reqB k n b q && tokB k t s && (decide (m > 0) == kS k)
set_option maxRecDepth 100000 in
set_option maxHeartbeats 4000000 in
theorem cmd_Check_any (w : World) (k n t : Int) (A : Option Addr) (c : Nat) (l : List Int) (b q s m : Int) (h : InN .i64 w A c l) :
    Calls Try.prog 30 #[cmdV k n t (.slice A l.length c) b q s m] w fun e w' => e = .returned (.int .i64 (errCmd (codeOk k n t l b q s m))) ∧ Below w.heap.size w w' := by
  have C1 := fun W => Lib.hid (cmd_of_any W k)
  have HIN := Lib.hid h
  have hs := h.small
  have hcap := h.cap
  clear h
  obtain ⟨g, hg⟩ : ∃ g, w.heap.size = g := ⟨_, rfl⟩
  generalize hE : errCmd (codeOk k n t l b q s m) = E
  have HE := Lib.hid hE
  clear hE
  unfold cmdV
  have hb0 : Blk (w.alloc (.cells (cmdCells k n t (.slice A l.length c) b q s m) 52)) g 52 (cmdCells k n t (.slice A l.length c) b q s m) := hg ▸ Blk.new _ _ _
  have hB0 : Below g w (w.alloc (.cells (cmdCells k n t (.slice A l.length c) b q s m) 52)) := (Below.refl _ _).alloc (by omega) _
  go_enter Try.func30, Try.ntmps30
  go_wp2_with fail
  refine (C1 _).out.mono ?_
  rintro e w1 ⟨rfl, hB1⟩
  unfold which
  have hb1 := hb0.below hB1 hb0.lt
  have hBw1 : Below g w w1 := hB0.trans (hB1.mono (Nat.le_of_lt hb0.lt))
  obtain ⟨g1, hg1⟩ : ∃ g1, w1.heap.size = g1 := ⟨_, rfl⟩
  have hlt : g < g1 := hg1 ▸ hb1.lt
  have hb2 := hb1.alloc (.cells #[.bool (kN k), .bool (kR k), .bool (kT k), .bool (kS k), .bool (kI k)] 79)
  have hw2 : Blk (w1.alloc (.cells #[.bool (kN k), .bool (kR k), .bool (kT k), .bool (kS k), .bool (kI k)] 79)) g1 79 _ := hg1 ▸ Blk.new _ _ _
  have hB2 : Below g w (w1.alloc (.cells #[.bool (kN k), .bool (kR k), .bool (kT k), .bool (kS k), .bool (kI k)] 79)) := hBw1.alloc (by omega) _
  clear hb0 hB0 hb1 hBw1 hB1
  go_upto_region 2 with (fail)
  generalize w1.alloc (.cells #[.bool (kN k), .bool (kR k), .bool (kT k), .bool (kS k), .bool (kI k)] 79) = W2 at hb2 hw2 hB2 ⊢
  clear hg1
  obtain ⟨c0, c1, c2, c3, c4, c5, c6, c7⟩ := hb2.cmd
  obtain ⟨d0, d1, d2, d3, d4⟩ := hw2.which
  go_upto_if 15 with (fail)
  go_cut [4] (fun x wx => x = .bool (listB k l) ∧ Below g w wx ∧ Blk wx g 52 (cmdCells k n t (.slice A l.length c) b q s m) ∧ Blk wx g1 79 #[.bool (kN k), .bool (kR k), .bool (kT k), .bool (kS k), .bool (kI k)])
  case first =>
    have HBW : Hid (Below w.heap.size w W2) := by
      rw [hg]
      exact hB2
    cases hN : kN k
    · have HLB : Hid (((l.length : Int) == 0) = listB k l) := by
        show _ = _
        simp only [listB, hN]
        apply Bool.eq_iff_iff.2
        simp
      go_wp2
      go_meet
      case rel => exact ⟨by rw [HLB.out], hB2, hb2, hw2⟩
    · have C2 := Lib.hid (nodes_Check_any _ A c l (HIN.out.keep HBW.out))
      have HLB : Hid (listB k l = decide (IsSet l)) := by
        show _ = _
        simp [listB, hN]
      obtain ⟨B, hB⟩ : ∃ B, decide (IsSet l) = B := ⟨_, rfl⟩
      rw [hB] at C2 HLB
      clear hB
      go_wp2_with fail
      refine C2.out.mono ?_
      rintro e w2 ⟨rfl, hB3⟩
      have hb3 := hb2.below hB3 hb2.lt
      have hw3 := hw2.below hB3 hw2.lt
      have hB4 : Below g w w2 := hB2.trans (hB3.mono (Nat.le_of_lt hb2.lt))
      cases B
      all_goals
        go_wp2
        go_meet
        case rel => exact ⟨by rw [HLB.out]; rfl, hB4, hb3, hw3⟩
  case rest =>
    clear c0 c1 c2 c3 c4 c5 c6 c7 d0 d1 d2 d3 d4 hb2 hw2 hB2
    obtain ⟨rfl, hBc, hbc, hwc⟩ := hcut
    obtain ⟨c0, c1, c2, c3, c4, c5, c6, c7⟩ := hbc.cmd
    obtain ⟨d0, d1, d2, d3, d4⟩ := hwc.which
    go_upto_region 5 with (fail)
    go_cut [5] (fun x wx => x = .bool (reqZ n b q) ∧ wx = wc)
    case first =>
      cases h1 : (n == 0)
      · have HV : Hid (reqZ n b q = false) := by
          show _ = _
          simp only [reqZ, h1]
          simp
        go_wp2
        go_meet
        case rel => exact ⟨by rw [HV.out], rfl⟩
      · skip
        cases h2 : (b == 0)
        · have HV : Hid (reqZ n b q = false) := by
            show _ = _
            simp only [reqZ, h1, h2]
            simp
          go_wp2
          go_meet
          case rel => exact ⟨by rw [HV.out], rfl⟩
        · skip
          cases h3 : (q == 0)
          · have HV : Hid (reqZ n b q = false) := by
              show _ = _
              simp only [reqZ, h1, h2, h3]
              simp
            go_wp2
            go_meet
            case rel => exact ⟨by rw [HV.out], rfl⟩
          · have HV : Hid (reqZ n b q = true) := by
              show _ = _
              simp only [reqZ, h1, h2, h3]
              simp
            go_wp2
            go_meet
            case rel => exact ⟨by rw [HV.out], rfl⟩
    case rest =>
      obtain ⟨rfl, rfl⟩ := hcut
      go_upto_if 34 with (fail)
      go_cut [5] (fun x wx => x = .bool (reqB k n b q) ∧ wx = wc)
      case first =>
        cases hR : kR k
        · have HV : Hid (reqB k n b q = reqZ n b q) := by
            show _ = _
            simp [reqB, hR]
          go_wp2
          go_meet
          case rel => exact ⟨by rw [HV.out], rfl⟩
        · have HR := Lib.hid hR
          clear hR
          cases h1 : decide (n ≥ 1)
          · have HV : Hid (reqB k n b q = false) := by
              show _ = _
              simp only [reqB, HR.out, h1]
              simp
            go_wp2
            go_meet
            case rel => exact ⟨by rw [HV.out], rfl⟩
          · skip
            cases h2 : decide (n ≤ 7)
            · have HV : Hid (reqB k n b q = false) := by
                show _ = _
                simp only [reqB, HR.out, h1, h2]
                simp
              go_wp2
              go_meet
              case rel => exact ⟨by rw [HV.out], rfl⟩
            · skip
              cases h3 : decide (b > 0)
              · have HV : Hid (reqB k n b q = false) := by
                  show _ = _
                  simp only [reqB, HR.out, h1, h2, h3]
                  simp
                go_wp2
                go_meet
                case rel => exact ⟨by rw [HV.out], rfl⟩
              · skip
                cases h4 : decide (q > 0)
                · have HV : Hid (reqB k n b q = false) := by
                    show _ = _
                    simp only [reqB, HR.out, h1, h2, h3, h4]
                    simp
                  go_wp2
                  go_meet
                  case rel => exact ⟨by rw [HV.out], rfl⟩
                · have HV : Hid (reqB k n b q = true) := by
                    show _ = _
                    simp only [reqB, HR.out, h1, h2, h3, h4]
                    simp
                  go_wp2
                  go_meet
                  case rel => exact ⟨by rw [HV.out], rfl⟩
      case rest =>
        obtain ⟨rfl, rfl⟩ := hcut
        go_upto_region 8 with (fail)
        go_cut [6] (fun x wx => x = .bool (tokZ t s) ∧ wx = wc)
        case first =>
          cases h1 : (t == 0)
          · have HV : Hid (tokZ t s = false) := by
              show _ = _
              simp only [tokZ, h1]
              simp
            go_wp2
            go_meet
            case rel => exact ⟨by rw [HV.out], rfl⟩
          · skip
            cases h2 : (s == 0)
            · have HV : Hid (tokZ t s = false) := by
                show _ = _
                simp only [tokZ, h1, h2]
                simp
              go_wp2
              go_meet
              case rel => exact ⟨by rw [HV.out], rfl⟩
            · have HV : Hid (tokZ t s = true) := by
                show _ = _
                simp only [tokZ, h1, h2]
                simp
              go_wp2
              go_meet
              case rel => exact ⟨by rw [HV.out], rfl⟩
        case rest =>
          obtain ⟨rfl, rfl⟩ := hcut
          go_upto_if 62 with (fail)
          go_cut [6] (fun x wx => x = .bool (tokB k t s) ∧ wx = wc)
          case first =>
            cases hR : kT k
            · have HV : Hid (tokB k t s = tokZ t s) := by
                show _ = _
                simp [tokB, hR]
              go_wp2
              go_meet
              case rel => exact ⟨by rw [HV.out], rfl⟩
            · have HR := Lib.hid hR
              clear hR
              cases h1 : decide (t ≥ 1)
              · have HV : Hid (tokB k t s = false) := by
                  show _ = _
                  simp only [tokB, HR.out, h1]
                  simp
                go_wp2
                go_meet
                case rel => exact ⟨by rw [HV.out], rfl⟩
              · skip
                cases h2 : decide (t ≤ 65535)
                · have HV : Hid (tokB k t s = false) := by
                    show _ = _
                    simp only [tokB, HR.out, h1, h2]
                    simp
                  go_wp2
                  go_meet
                  case rel => exact ⟨by rw [HV.out], rfl⟩
                · skip
                  cases h3 : decide (s > 0)
                  · have HV : Hid (tokB k t s = false) := by
                      show _ = _
                      simp only [tokB, HR.out, h1, h2, h3]
                      simp
                    go_wp2
                    go_meet
                    case rel => exact ⟨by rw [HV.out], rfl⟩
                  · have HV : Hid (tokB k t s = true) := by
                      show _ = _
                      simp only [tokB, HR.out, h1, h2, h3]
                      simp
                    go_wp2
                    go_meet
                    case rel => exact ⟨by rw [HV.out], rfl⟩
          case rest =>
            obtain ⟨rfl, rfl⟩ := hcut
            cases h1 : kI k
            · have HV : Hid (E = 40) := by
                show _ = _
                rw [← HE.out]
                simp only [codeOk, h1]
                rfl
              go_wp2
              go_ret
              exact ⟨by rw [HV.out]; rfl, by rw [hg]; exact hBc⟩
            · skip
              cases h2 : listB k l
              · have HV : Hid (E = 40) := by
                  show _ = _
                  rw [← HE.out]
                  simp only [codeOk, h1, h2]
                  rfl
                go_wp2
                go_ret
                exact ⟨by rw [HV.out]; rfl, by rw [hg]; exact hBc⟩
              · skip
                cases h3 : reqB k n b q
                · have HV : Hid (E = 40) := by
                    show _ = _
                    rw [← HE.out]
                    simp only [codeOk, h1, h2, h3]
                    rfl
                  go_wp2
                  go_ret
                  exact ⟨by rw [HV.out]; rfl, by rw [hg]; exact hBc⟩
                · skip
                  cases h4 : tokB k t s
                  · have HV : Hid (E = 40) := by
                      show _ = _
                      rw [← HE.out]
                      simp only [codeOk, h1, h2, h3, h4]
                      rfl
                    go_wp2
                    go_ret
                    exact ⟨by rw [HV.out]; rfl, by rw [hg]; exact hBc⟩
                  · skip
                    cases h5 : decide (m > 0)
                    · cases h6 : kS k
                      · have HV : Hid (E = 0) := by
                          show _ = _
                          rw [← HE.out]
                          simp only [codeOk, h1, h2, h3, h4, h5, h6]
                          rfl
                        go_wp2
                        go_ret
                        exact ⟨by rw [HV.out]; rfl, by rw [hg]; exact hBc⟩
                      · have HV : Hid (E = 40) := by
                          show _ = _
                          rw [← HE.out]
                          simp only [codeOk, h1, h2, h3, h4, h5, h6]
                          rfl
                        go_wp2
                        go_ret
                        exact ⟨by rw [HV.out]; rfl, by rw [hg]; exact hBc⟩
                    · cases h6 : kS k
                      · have HV : Hid (E = 40) := by
                          show _ = _
                          rw [← HE.out]
                          simp only [codeOk, h1, h2, h3, h4, h5, h6]
                          rfl
                        go_wp2
                        go_ret
                        exact ⟨by rw [HV.out]; rfl, by rw [hg]; exact hBc⟩
                      · have HV : Hid (E = 0) := by
                          show _ = _
                          rw [← HE.out]
                          simp only [codeOk, h1, h2, h3, h4, h5, h6]
                          rfl
                        go_wp2
                        go_ret
                        exact ⟨by rw [HV.out]; rfl, by rw [hg]; exact hBc⟩
end Go.Proofs.Ytjnkpjhggeibeaa

/- Walks over commands: the document's Copy and Same. -/
namespace Go.Proofs.Ytjnkpjhggeibeaa
set_option maxRecDepth 100000
open Go.RowKit

theorem info_Cmd : (Try.prog.info? 52).map (·.size) = some 8 := by kernel_rfl

theorem Blk.set8 {w : World} {g : Nat} {T : TypeId} {v0 v1 v2 v3 v4 v5 v6 v7 : Value} (h : Blk w g T #[v0, v1, v2, v3, v4, v5, v6, v7]) (u0 u1 u2 u3 u4 u5 u6 u7 : Value) :
    Blk ((((((((w.setCell ⟨g, 0, none⟩ u0).setCell ⟨g, 1, none⟩ u1).setCell ⟨g, 2, none⟩ u2).setCell ⟨g, 3, none⟩ u3).setCell ⟨g, 4, none⟩ u4).setCell ⟨g, 5, none⟩ u5).setCell ⟨g, 6, none⟩ u6).setCell ⟨g, 7, none⟩ u7) g T #[u0, u1, u2, u3, u4, u5, u6, u7] :=
  ((((((((h.setL 0 u0).setL 1 u1).setL 2 u2).setL 3 u3).setL 4 u4).setL 5 u5).setL 6 u6).setL 7 u7)
set_option maxRecDepth 100000 in
set_option maxHeartbeats 4000000 in
theorem ref_Copy_own (w : World) (k n t : Int) (A : Option Addr) (c : Nat) (l : List Int) (b q s m : Int) (h : InN .i64 w A c l) (hs : l.length ≤ 17592186043904) :
    Calls Try.prog 24 #[cmdV k n t (.slice A l.length c) b q s m] w fun e w' => ∃ A' c', e = .returned (cmdV k n t (.slice A' l.length c') b q s m) ∧ InN .i64 w' A' c' l ∧ (∀ a, A' = some a → w.heap.size ≤ a.block ∧ a.block < w'.heap.size) ∧ Below w.heap.size w w' := by
  have HIN := Lib.hid h
  have hcap := h.cap
  clear h
  obtain ⟨g, hg⟩ : ∃ g, w.heap.size = g := ⟨_, rfl⟩
  have hb0 : Blk (w.alloc (.cells (cmdCells k n t (.slice A l.length c) b q s m) 52)) g 52 (cmdCells k n t (.slice A l.length c) b q s m) := hg ▸ Blk.new _ _ _
  have hB0 : Below g w (w.alloc (.cells (cmdCells k n t (.slice A l.length c) b q s m) 52)) := (Below.refl _ _).alloc (by omega) _
  have hs1 : (w.alloc (.cells (cmdCells k n t (.slice A l.length c) b q s m) 52)).heap.size = g + 1 := by simp [hg]
  have hb1 := hb0.alloc (.cells (cmdCells 0 0 0 (.slice none 0 0) 0 0 0 0) 52)
  have hr1 : Blk ((w.alloc (.cells (cmdCells k n t (.slice A l.length c) b q s m) 52)).alloc (.cells (cmdCells 0 0 0 (.slice none 0 0) 0 0 0 0) 52)) (g + 1) 52 (cmdCells 0 0 0 (.slice none 0 0) 0 0 0 0) := hs1 ▸ Blk.new _ _ _
  have hB1 := hB0.alloc (by omega) (.cells (cmdCells 0 0 0 (.slice none 0 0) 0 0 0 0) 52)
  have hs2 : ((w.alloc (.cells (cmdCells k n t (.slice A l.length c) b q s m) 52)).alloc (.cells (cmdCells 0 0 0 (.slice none 0 0) 0 0 0 0) 52)).heap.size = g + 2 := by simp [hg]
  clear hb0 hB0 hs1
  unfold cmdV
  go_enter Try.func24, Try.ntmps24
  go_upto_region 1 with (fail)
  change Code.wp _ _ _ _ ((w.alloc (.cells (cmdCells k n t (.slice A l.length c) b q s m) 52)).alloc (.cells (cmdCells 0 0 0 (.slice none 0 0) 0 0 0 0) 52))
  generalize ((w.alloc (.cells (cmdCells k n t (.slice A l.length c) b q s m) 52)).alloc (.cells (cmdCells 0 0 0 (.slice none 0 0) 0 0 0 0) 52)) = W0 at hb1 hr1 hB1 hs2 ⊢
  have HIN0 := Lib.hid (HIN.out.keep (hg ▸ hB1))
  obtain ⟨c0, c1, c2, c3, c4, c5, c6, c7⟩ := hb1.cmd
  go_wp2_with (at_builtin; refine app_own (w0 := W0) W0.heap.size rfl _ _ 24 3 (.int .i64 0) 8 rfl Try.underlying24 1 info_int rfl (by omega) (by omega) (.slice none 0 0) [] 0 rfl _ _ _ _ (nums .i64 l) rfl (own_nil _ _ _ _) HIN0.out.reads (nums_one_cell .i64 l) (Below.refl _ _) (Nat.le_refl _) (by omega) ?_; intro v1 w1 ho1 hBw1 _ _; obtain ⟨A1, c9, rfl, hin1⟩ := InN.own (k := .i64) (l := l) (by simpa [OwnN] using ho1) HIN.out.wf (by omega); have hlt9 : ∀ a, A1 = some a → a.block < w1.heap.size := (fun a e => (World.ownsRow.lt ho1 a.block (by rw [e]; rfl)).2); have hb2 := hb1.below hBw1 (by omega); have hr2 := hr1.below hBw1 (by omega); have HIN1 := Lib.hid hin1; have hBB := Lib.hid (hB1.trans (hBw1.mono (by omega))); have hsz1 := hBw1.size; clear c0 c1 c2 c3 c4 c5 c6 c7 hB1 hBw1 ho1 hin1 hb1 hr1 HIN0; obtain ⟨c0, c1, c2, c3, c4, c5, c6, c7⟩ := hb2.cmd; have f3 := hb2.frozen 3; obtain ⟨r0, r1, r2, r3, r4, r5, r6, r7⟩ := hr2.cmd; have e0 := hr2.frozen 0; have e1 := hr2.frozen 1; have e2 := hr2.frozen 2; have e3 := hr2.frozen 3; have e4 := hr2.frozen 4; have e5 := hr2.frozen 5; have e6 := hr2.frozen 6; have e7 := hr2.frozen 7)
  rename_i hog how
  have hrS := hr2.far (p := ⟨g, 3, none⟩) (by show g + 1 ≠ g; omega) (.slice A1 l.length c9)
  have hrF := Blk.set8 hrS (.int .i64 k) (.int .i64 n) (.int .i64 t) (.slice A1 l.length c9) (.int .u64 b) (.int .u64 q) (.int .u64 s) (.int .u64 m)
  refine bodyPost_ret (results_cell1 rfl rfl (run_loadVar_row _ _ _ _ _ (0, 0) _ hrF Try.underlying52 rfl info_Cmd)) rfl ?_
  refine ⟨A1, c9, rfl, ?_, fun a ha => ?_, ?_⟩
  rotate_left
  · rw [hg]
    rcases how with h | ⟨b', h, hge⟩
    · rw [ha] at h
      cases h
    · refine ⟨?_, by simpa [World.setCell] using hlt9 a ha⟩
      rw [ha] at h
      simp only [Value.ownBlock, Option.some.injEq] at h
      omega
  rotate_left
  · have hn : ∀ p : Addr, p.block < g + 2 → ∀ bb, (Value.slice A1 l.length c9).ownBlock = some bb → p.block ≠ bb := by
      intro p hp bb hbb
      rcases how with h | ⟨b', h, hge⟩
      · rw [h] at hbb
        cases hbb
      · rw [h] at hbb
        cases hbb
        omega
    have f := fun (p : Addr) (hp : p.block < g + 2) (W : World) (u : Value) (h : InN .i64 W A1 c9 l) => InN.far h (hn p hp) u
    exact f _ (by show g + 1 < g + 2; omega) _ _ (f _ (by show g + 1 < g + 2; omega) _ _ (f _ (by show g + 1 < g + 2; omega) _ _ (f _ (by show g + 1 < g + 2; omega) _ _ (f _ (by show g + 1 < g + 2; omega) _ _ (f _ (by show g + 1 < g + 2; omega) _ _ (f _ (by show g + 1 < g + 2; omega) _ _ (f _ (by show g + 1 < g + 2; omega) _ _ (f _ (by show g < g + 2; omega) _ _ HIN1.out))))))))
  · rw [hg]
    have hset : ∀ (j i : Nat) (W : World) (u : Value), g ≤ j → Below g w W → Below g w (W.setCell ⟨j, i, none⟩ u) := fun j i W u hj h => h.setCell hj u
    exact hset _ _ _ _ (by omega) (hset _ _ _ _ (by omega) (hset _ _ _ _ (by omega) (hset _ _ _ _ (by omega) (hset _ _ _ _ (by omega) (hset _ _ _ _ (by omega) (hset _ _ _ _ (by omega) (hset _ _ _ _ (by omega) (hset _ _ _ _ (by omega) hBB.out))))))))
theorem ref_Copy_any (w : World) (k n t : Int) (A : Option Addr) (c : Nat) (l : List Int) (b q s m : Int) (h : InN .i64 w A c l) (hs : l.length ≤ 17592186043904) :
    Calls Try.prog 24 #[cmdV k n t (.slice A l.length c) b q s m] w fun e w' => ∃ A' c', e = .returned (cmdV k n t (.slice A' l.length c') b q s m) ∧ InN .i64 w' A' c' l ∧ Below w.heap.size w w' :=
  (ref_Copy_own w k n t A c l b q s m h hs).mono fun _ _ ⟨A', c', h1, h2, _, h3⟩ => ⟨A', c', h1, h2, h3⟩
end Go.Proofs.Ytjnkpjhggeibeaa

/- Two lists of numbers are the same (the document's). -/
namespace Go.Proofs.Ytjnkpjhggeibeaa
set_option maxRecDepth 100000
open Go.RowKit

set_option maxHeartbeats 1000000 in
theorem r03_Same_any (w : World) (A1 A2 : Option Addr) (c1 c2 : Nat) (l1 l2 : List Int) (h1 : InN .i64 w A1 c1 l1) (h2 : InN .i64 w A2 c2 l2) :
    Calls Try.prog 35 #[.slice A1 l1.length c1, .slice A2 l2.length c2] w fun e w' => e = .returned (.bool (decide (l1 = l2))) ∧ ∃ m, w' = w.drewN m := by
  have hs1 := h1.small
  have hs2 := h2.small
  have hc1 := h1.cap
  have hc2 := h2.cap
  have H1 := Lib.hid h1
  have H2 := Lib.hid h2
  clear h1 h2
  obtain ⟨V, hV⟩ : ∃ V, decide (l1 = l2) = V := ⟨_, rfl⟩
  have HV := Lib.hid hV
  rw [hV]
  clear hV
  by_cases hl : l1.length = l2.length
  case neg =>
    have HF : Hid (V = false) := by
      show _ = _
      rw [← HV.out]
      exact decide_eq_false (fun e => hl (by rw [e]))
    have hne : ((l1.length : Int) != (l2.length : Int)) = true := by simp; omega
    go_enter Try.func35, Try.ntmps35
    go_wp2
    go_ret
    exact ⟨by rw [HF.out]; rfl, 0, rfl⟩
  case pos =>
    have HL := Lib.hid hl
    rw [← hl] at hs2 hc2
    have ea : (Value.slice A2 l2.length c2) = .slice A2 l1.length c2 := by rw [hl]
    rw [ea]
    clear ea hl
    go_enter Try.func35, Try.ntmps35
    go_wp2
    go_loopw [4, 5, 13] (fun v x i wr => ∃ (k m : Nat), k ≤ l1.length ∧ v = .bool false ∧ i = .int .i64 k ∧ wr = w.drewN m ∧ ∀ j (h1 : j < l1.length) (h2 : j < l2.length), j < k → l1[j] = l2[j]) (fun _ _ i _ => l1.length - (intOf i).toNat)
    case atStart => exact ⟨0, 0, by omega, rfl, rfl, rfl, fun j _ _ h => by omega⟩
    case round =>
      obtain ⟨k, m, hk, rfl, rfl, rfl, hag⟩ := hrel
      have HAG := Lib.hid hag
      clear hag
      by_cases hlt : k < l1.length
      · obtain ⟨b1, off1, rfl, hcell1⟩ := H1.out.all (by omega)
        obtain ⟨b2, off2, rfl, hcell2⟩ := H2.out.all (by have := HL.out; omega)
        have hlt2 : k < l2.length := by have := HL.out; omega
        have hk1 := hcell1 k hlt
        have hk2 := hcell2 k hlt2
        obtain ⟨x, hx⟩ : ∃ x, l1[k] = x := ⟨_, rfl⟩
        obtain ⟨y, hy⟩ : ∃ y, l2[k] = y := ⟨_, rfl⟩
        rw [hx] at hk1
        rw [hy] at hk2
        have HX := Lib.hid hx
        have HY := Lib.hid hy
        clear hcell1 hcell2 hx hy
        by_cases hxy : x = y
        · have hnf : (x != y) = false := by simp [hxy]
          have HXY := Lib.hid hxy
          clear hxy
          go_wp2_with fail
          go_quiet (fail)
          go_wp2
          go_roundw
          case rel =>
            refine ⟨k + 1, _, by omega, rfl, by go_num, rfl, fun j g1 g2 hjk => ?_⟩
            rcases Nat.lt_or_ge j k with h | h
            · exact HAG.out j g1 g2 h
            · obtain rfl : j = k := by omega
              rw [HX.out, HY.out, HXY.out]
          case measure => simp [intOf]; omega
        · have hnt : (x != y) = true := by simpa using hxy
          have HF : Hid (V = false) := by
            show _ = _
            rw [← HV.out]
            refine decide_eq_false (fun e => hxy ?_)
            rw [← HX.out, ← HY.out]
            simp [e]
          clear hxy
          go_wp2_with fail
          go_quiet (fail)
          go_wp2
          go_ret
          exact ⟨by rw [HF.out]; rfl, m + nq, World.drewN_drewN _ _ _⟩
      · obtain rfl : k = l1.length := by omega
        have HT : Hid (V = true) := by
          show _ = _
          rw [← HV.out]
          exact decide_eq_true (List.ext_getElem HL.out (fun j g1 g2 => HAG.out j g1 g2 g1))
        go_wp2
        go_ret
        exact ⟨by rw [HT.out]; rfl, _, rfl⟩

end Go.Proofs.Ytjnkpjhggeibeaa

/- Walks over commands: the document's Same. -/
namespace Go.Proofs.Ytjnkpjhggeibeaa
set_option maxRecDepth 100000
open Go.RowKit

/-- Two commands are the same. -/
def sameB (k1 n1 t1 : Int) (l1 : List Int) (b1 q1 s1 m1 k2 n2 t2 : Int) (l2 : List Int) (b2 q2 s2 m2 : Int) : Bool :=
  k1 == k2 && n1 == n2 && t1 == t2 && b1 == b2 && q1 == q2 && s1 == s2 && m1 == m2 && decide (l1 = l2)

set_option maxRecDepth 100000 in
set_option maxHeartbeats 8000000 in
theorem ref_Same_any (w : World) (k1 n1 t1 : Int) (A1 : Option Addr) (c1 : Nat) (l1 : List Int) (b1 q1 s1 m1 k2 n2 t2 : Int) (A2 : Option Addr) (c2 : Nat) (l2 : List Int) (b2 q2 s2 m2 : Int)
    (h1 : InN .i64 w A1 c1 l1) (h2 : InN .i64 w A2 c2 l2) :
    Calls Try.prog 34 #[cmdV k1 n1 t1 (.slice A1 l1.length c1) b1 q1 s1 m1, cmdV k2 n2 t2 (.slice A2 l2.length c2) b2 q2 s2 m2] w fun e w' =>
      e = .returned (.bool (sameB k1 n1 t1 l1 b1 q1 s1 m1 k2 n2 t2 l2 b2 q2 s2 m2)) ∧ Below w.heap.size w w' := by
  have H1 := Lib.hid h1
  have H2 := Lib.hid h2
  clear h1 h2
  obtain ⟨V, hV⟩ : ∃ V, sameB k1 n1 t1 l1 b1 q1 s1 m1 k2 n2 t2 l2 b2 q2 s2 m2 = V := ⟨_, rfl⟩
  have HX := Lib.hid hV
  rw [hV]
  clear hV
  unfold cmdV
  cases h0 : (k1 == k2)
  · have HV : Hid (false = V) := by
      show _ = _
      rw [← HX.out]
      simp only [sameB, h0]
      simp
    go_enter Try.func34, Try.ntmps34
    go_wp2_with fail
    go_ret
    exact ⟨by rw [← HV.out]; rfl, ((Below.refl _ _).alloc (Nat.le_refl _) _).alloc (by simp) _⟩
  · skip
    cases h1 : (n1 == n2)
    · have HV : Hid (false = V) := by
        show _ = _
        rw [← HX.out]
        simp only [sameB, h0, h1]
        simp
      go_enter Try.func34, Try.ntmps34
      go_wp2_with fail
      go_ret
      exact ⟨by rw [← HV.out]; rfl, ((Below.refl _ _).alloc (Nat.le_refl _) _).alloc (by simp) _⟩
    · skip
      cases h2 : (t1 == t2)
      · have HV : Hid (false = V) := by
          show _ = _
          rw [← HX.out]
          simp only [sameB, h0, h1, h2]
          simp
        go_enter Try.func34, Try.ntmps34
        go_wp2_with fail
        go_ret
        exact ⟨by rw [← HV.out]; rfl, ((Below.refl _ _).alloc (Nat.le_refl _) _).alloc (by simp) _⟩
      · skip
        cases h3 : (b1 == b2)
        · have HV : Hid (false = V) := by
            show _ = _
            rw [← HX.out]
            simp only [sameB, h0, h1, h2, h3]
            simp
          go_enter Try.func34, Try.ntmps34
          go_wp2_with fail
          go_ret
          exact ⟨by rw [← HV.out]; rfl, ((Below.refl _ _).alloc (Nat.le_refl _) _).alloc (by simp) _⟩
        · skip
          cases h4 : (q1 == q2)
          · have HV : Hid (false = V) := by
              show _ = _
              rw [← HX.out]
              simp only [sameB, h0, h1, h2, h3, h4]
              simp
            go_enter Try.func34, Try.ntmps34
            go_wp2_with fail
            go_ret
            exact ⟨by rw [← HV.out]; rfl, ((Below.refl _ _).alloc (Nat.le_refl _) _).alloc (by simp) _⟩
          · skip
            cases h5 : (s1 == s2)
            · have HV : Hid (false = V) := by
                show _ = _
                rw [← HX.out]
                simp only [sameB, h0, h1, h2, h3, h4, h5]
                simp
              go_enter Try.func34, Try.ntmps34
              go_wp2_with fail
              go_ret
              exact ⟨by rw [← HV.out]; rfl, ((Below.refl _ _).alloc (Nat.le_refl _) _).alloc (by simp) _⟩
            · skip
              cases h6 : (m1 == m2)
              · have HV : Hid (false = V) := by
                  show _ = _
                  rw [← HX.out]
                  simp only [sameB, h0, h1, h2, h3, h4, h5, h6]
                  simp
                go_enter Try.func34, Try.ntmps34
                go_wp2_with fail
                go_ret
                exact ⟨by rw [← HV.out]; rfl, ((Below.refl _ _).alloc (Nat.le_refl _) _).alloc (by simp) _⟩
              · have HV : Hid (decide (l1 = l2) = V) := by
                  show _ = _
                  rw [← HX.out]
                  simp only [sameB, h0, h1, h2, h3, h4, h5, h6]
                  simp
                have hbw : Below w.heap.size w ((w.alloc (.cells #[.int .i64 k1, .int .i64 n1, .int .i64 t1, .slice A1 l1.length c1, .int .u64 b1, .int .u64 q1, .int .u64 s1, .int .u64 m1] 52)).alloc (.cells #[.int .i64 k2, .int .i64 n2, .int .i64 t2, .slice A2 l2.length c2, .int .u64 b2, .int .u64 q2, .int .u64 s2, .int .u64 m2] 52)) := (((Below.refl _ _).alloc (Nat.le_refl _) _).alloc (by simp) _)
                have C := Lib.hid (r03_Same_any _ A1 A2 c1 c2 l1 l2 (H1.out.keep hbw) (H2.out.keep hbw))
                clear hbw
                go_enter Try.func34, Try.ntmps34
                go_wp2_with fail
                refine C.out.mono ?_
                rintro e w2 ⟨rfl, j, rfl⟩
                go_wp2
                go_ret
                exact ⟨by rw [← HV.out]; rfl, below_drewN (((Below.refl _ _).alloc (Nat.le_refl _) _).alloc (by simp) _) _⟩
end Go.Proofs.Ytjnkpjhggeibeaa

/- Commands, plain: the code's test is the document's. -/
namespace Go.Proofs.Ytjnkpjhggeibeaa
set_option maxRecDepth 100000
open Go.RowKit

theorem fldN (k : Int) : hasB (fld k) 108 = kN k := by
  rcases kinds k with rfl | rfl | rfl | rfl | rfl | rfl | ⟨h1, h2, h3, h4, h5, h6⟩
  case inr.inr.inr.inr.inr.inr => simp [fld, kN, h2, h3, h4, h5, h6]; rfl
  all_goals rfl
theorem fldR (k : Int) : hasB (fld k) 110 = kR k ∧ hasB (fld k) 98 = kR k ∧ hasB (fld k) 113 = kR k := by
  rcases kinds k with rfl | rfl | rfl | rfl | rfl | rfl | ⟨h1, h2, h3, h4, h5, h6⟩
  case inr.inr.inr.inr.inr.inr => simp [fld, kR, h2, h3, h4, h5, h6]; exact ⟨rfl, rfl, rfl⟩
  all_goals exact ⟨rfl, rfl, rfl⟩
theorem fldT (k : Int) : hasB (fld k) 116 = kT k ∧ hasB (fld k) 115 = kT k := by
  rcases kinds k with rfl | rfl | rfl | rfl | rfl | rfl | ⟨h1, h2, h3, h4, h5, h6⟩
  case inr.inr.inr.inr.inr.inr => simp [fld, kT, h2, h3, h4, h5, h6]; exact ⟨rfl, rfl⟩
  all_goals exact ⟨rfl, rfl⟩
theorem fldS (k : Int) : hasB (fld k) 109 = kS k := by
  rcases kinds k with rfl | rfl | rfl | rfl | rfl | rfl | ⟨h1, h2, h3, h4, h5, h6⟩
  case inr.inr.inr.inr.inr.inr => simp [fld, kS, h2, h3, h4, h5, h6]; rfl
  all_goals rfl
/-- The code's test is the document's. -/
theorem codeOk_eq (k n t : Int) (l : List Int) (b q s m : Int) (hb : 0 ≤ b ∧ b < 18446744073709551616) (hq : 0 ≤ q ∧ q < 18446744073709551616) (hs : 0 ≤ s ∧ s < 18446744073709551616) (hm : 0 ≤ m ∧ m < 18446744073709551616) :
    codeOk k n t l b q s m = (numsOk k n t b q s m && listOk k l) := by
  obtain ⟨r1, r2, r3⟩ := fldR k
  obtain ⟨t1, t2⟩ := fldT k
  unfold codeOk numsOk listOk listB reqB reqZ tokB tokZ
  rw [fldN, r1, r2, r3, t1, t2, fldS]
  have hb2 : b ≤ 18446744073709551615 := by omega
  have hq2 : q ≤ 18446744073709551615 := by omega
  have hs2 : s ≤ 18446744073709551615 := by omega
  have hm2 : m ≤ 18446744073709551615 := by omega
  generalize (if kN k = true then decide (IsSet l) else decide (l.length = 0)) = L
  have e : ∀ x : Int, 0 ≤ x → (decide (x > 0) = !(x == 0)) := fun x hx => by
    apply Bool.eq_iff_iff.2
    simp
    omega
  have e1 : ∀ x : Int, 0 ≤ x → (decide (1 ≤ x) = !(x == 0)) := fun x hx => by
    apply Bool.eq_iff_iff.2
    simp
    omega
  apply Bool.eq_iff_iff.2
  cases kI k <;> cases kR k <;> cases kT k <;> cases kS k <;> cases L <;> simp [rightB] <;> omega
theorem sameB_refl (k n t : Int) (l : List Int) (b q s m : Int) : sameB k n t l b q s m k n t l b q s m = true := by simp [sameB]
theorem zero_bad : codeOk 0 0 0 [] 0 0 0 0 = false := by simp [codeOk, kI]
end Go.Proofs.Ytjnkpjhggeibeaa

/- Rows of structs in memory: slices of structs that are read (InS), or are the call's own. -/
namespace Go.Proofs.Ytjnkpjhggeibeaa
open Go.RowKit

theorem flat_len {α : Type} {f : α → List Value} {s : Nat} (hf : ∀ x, (f x).length = s) : ∀ l : List α, (l.flatMap f).length = l.length * s := by
  intro l
  induction l with
  | nil => simp
  | cons x l ih => rw [List.flatMap_cons, List.length_append, ih, hf, List.length_cons, Nat.add_mul, Nat.one_mul, Nat.add_comm]
theorem flat_get {α : Type} {f : α → List Value} {s : Nat} (hf : ∀ x, (f x).length = s) : ∀ (l : List α) (j : Nat) (hj : j < l.length) (i : Nat), i < s → (l.flatMap f)[j * s + i]? = (f l[j])[i]? := by
  intro l
  induction l with
  | nil => intro j hj; simp at hj
  | cons x l ih =>
    intro j hj i hi
    rw [List.flatMap_cons]
    cases j with
    | zero =>
      rw [Nat.zero_mul, Nat.zero_add, List.getElem?_append_left (by rw [hf]; exact hi)]
      rfl
    | succ j =>
      have hl : (f x).length ≤ (j + 1) * s + i := by rw [hf, Nat.add_mul]; omega
      rw [List.getElem?_append_right hl, hf, show (j + 1) * s + i - s = j * s + i by rw [Nat.add_mul]; omega]
      exact ih j (by simpa using hj) i hi
/-- A slice of structs that is read: each element's cells are f's, s of them. -/
structure InS {α : Type} (f : α → List Value) (s : Nat) (w : World) (A : Option Addr) (c : Nat) (l : List α) : Prop where
  reads : Reads w w.heap.size s A l.length (l.flatMap f)
  cap : l.length ≤ c
  small : l.length * (8 * s) ≤ 140737488355328
section
variable {α : Type} {f : α → List Value} {s : Nat} {w w1 : World} {A : Option Addr} {c : Nat} {l : List α}
theorem InS.all (h : InS f s w A c l) (hf : ∀ x, (f x).length = s) (h0 : 0 < l.length) : ∃ b off, A = some ⟨b, off, none⟩ ∧ b < w.heap.size ∧ ∀ (j : Nat) (hj : j < l.length) (i : Nat) (u : Value), i < s → (f l[j])[i]? = some u → w.cell? ⟨b, off + (j * s + i), none⟩ = some u := by
  obtain ⟨b, off, e, hb, hc⟩ := h.reads.2 h0
  exact ⟨b, off, e, hb, fun j hj i u hi hu => hc _ _ ((flat_get hf l j hj i hi).trans hu)⟩
theorem InS.keep (h : InS f s w A c l) (hb : Below w.heap.size w w1) : InS f s w1 A c l := ⟨(h.reads.below hb).more hb.size, h.cap, h.small⟩
theorem InS.drewN (h : InS f s w A c l) (k : Nat) : InS f s (w.drewN k) A c l := ⟨h.reads.drewN k, h.cap, h.small⟩
theorem InS.nil : InS f s w none 0 [] := ⟨Reads.none_, Nat.le_refl _, by simp⟩
theorem InS.own {e : TypeId} {base : Nat} {v : Value} (h : w.ownsRow base e s v l.length (l.flatMap f)) (hs : l.length * (8 * s) ≤ 140737488355328) : ∃ A c, v = .slice A l.length c ∧ InS f s w A c l := by
  obtain ⟨A, c, rfl, h1, _, hr⟩ := own_open h
  exact ⟨A, c, rfl, hr, h1, hs⟩
theorem InS.own_at {e : TypeId} {base : Nat} (h : w.ownsRow base e s (.slice A l.length c) l.length (l.flatMap f)) (hs : l.length * (8 * s) ≤ 140737488355328) : InS f s w A c l := by
  obtain ⟨_, _, q, h2⟩ := InS.own h hs
  injection q with q1 _ q3
  subst q1 q3
  exact h2
theorem InS.far (h : InS f s w A c l) {p : Addr} (hp : ∀ b off, A = some ⟨b, off, none⟩ → p.block ≠ b) (u : Value) : InS f s (w.setCell p u) A c l := by
  refine ⟨⟨h.reads.1, fun h0 => ?_⟩, h.cap, h.small⟩
  obtain ⟨b, off, e, hb, hc⟩ := h.reads.2 h0
  refine ⟨b, off, e, by simpa [World.setCell] using hb, fun j u' hu => ?_⟩
  rw [World.cell?_setCell_other w p _ u (fun hh => hp b off e (by rw [hh]))]
  exact hc j u' hu
end
/-- A row of a ledger's Held. -/
structure Hd where
  tok : Int
  nod : Int
  bt : Int
  ser : Int
  stp : Int
/-- A row of a ledger's Last. -/
structure Ls where
  nod : Int
  bt : Int
  sq : Int
  cod : Int
  tok : Int
  ser : Int
def hdC (h : Hd) : List Value := [.int .i64 h.tok, .int .i64 h.nod, .int .u64 h.bt, .int .u64 h.ser, .int .u64 h.stp]
def lsC (x : Ls) : List Value := [.int .i64 x.nod, .int .u64 x.bt, .int .u64 x.sq, .int .i64 x.cod, .int .i64 x.tok, .int .u64 x.ser]
theorem hdC_len (h : Hd) : (hdC h).length = 5 := rfl
theorem lsC_len (x : Ls) : (lsC x).length = 6 := rfl
structure Hd.Wf (h : Hd) : Prop where
  tok : (Lit.int .i64 h.tok).wf = true
  nod : (Lit.int .i64 h.nod).wf = true
  bt : 0 ≤ h.bt ∧ h.bt < 18446744073709551616
  ser : 0 ≤ h.ser ∧ h.ser < 18446744073709551616
  stp : 0 ≤ h.stp ∧ h.stp < 18446744073709551616
structure Ls.Wf (x : Ls) : Prop where
  nod : (Lit.int .i64 x.nod).wf = true
  bt : 0 ≤ x.bt ∧ x.bt < 18446744073709551616
  sq : 0 ≤ x.sq ∧ x.sq < 18446744073709551616
  cod : (Lit.int .i64 x.cod).wf = true
  tok : (Lit.int .i64 x.tok).wf = true
  ser : 0 ≤ x.ser ∧ x.ser < 18446744073709551616
structure HdAt (w : World) (b o : Nat) (h : Hd) : Prop where
  c0 : w.cell? ⟨b, o, none⟩ = some (.int .i64 h.tok)
  c1 : w.cell? ⟨b, o + 1, none⟩ = some (.int .i64 h.nod)
  c2 : w.cell? ⟨b, o + 2, none⟩ = some (.int .u64 h.bt)
  c3 : w.cell? ⟨b, o + 3, none⟩ = some (.int .u64 h.ser)
  c4 : w.cell? ⟨b, o + 4, none⟩ = some (.int .u64 h.stp)
structure LsAt (w : World) (b o : Nat) (x : Ls) : Prop where
  c0 : w.cell? ⟨b, o, none⟩ = some (.int .i64 x.nod)
  c1 : w.cell? ⟨b, o + 1, none⟩ = some (.int .u64 x.bt)
  c2 : w.cell? ⟨b, o + 2, none⟩ = some (.int .u64 x.sq)
  c3 : w.cell? ⟨b, o + 3, none⟩ = some (.int .i64 x.cod)
  c4 : w.cell? ⟨b, o + 4, none⟩ = some (.int .i64 x.tok)
  c5 : w.cell? ⟨b, o + 5, none⟩ = some (.int .u64 x.ser)
theorem InS.hd {w : World} {A : Option Addr} {c : Nat} {l : List Hd} (h : InS hdC 5 w A c l) (h0 : 0 < l.length) : ∃ b off, A = some ⟨b, off, none⟩ ∧ b < w.heap.size ∧ ∀ (j : Nat) (hj : j < l.length), HdAt w b (off + j * 5) l[j] := by
  obtain ⟨b, off, e, hb, hc⟩ := h.all hdC_len h0
  refine ⟨b, off, e, hb, fun j hj => ⟨?_, ?_, ?_, ?_, ?_⟩⟩
  · exact hc j hj 0 _ (by omega) rfl
  · rw [Nat.add_assoc]; exact hc j hj 1 _ (by omega) rfl
  · rw [Nat.add_assoc]; exact hc j hj 2 _ (by omega) rfl
  · rw [Nat.add_assoc]; exact hc j hj 3 _ (by omega) rfl
  · rw [Nat.add_assoc]; exact hc j hj 4 _ (by omega) rfl
theorem InS.ls {w : World} {A : Option Addr} {c : Nat} {l : List Ls} (h : InS lsC 6 w A c l) (h0 : 0 < l.length) : ∃ b off, A = some ⟨b, off, none⟩ ∧ b < w.heap.size ∧ ∀ (j : Nat) (hj : j < l.length), LsAt w b (off + j * 6) l[j] := by
  obtain ⟨b, off, e, hb, hc⟩ := h.all lsC_len h0
  refine ⟨b, off, e, hb, fun j hj => ⟨?_, ?_, ?_, ?_, ?_, ?_⟩⟩
  · exact hc j hj 0 _ (by omega) rfl
  · rw [Nat.add_assoc]; exact hc j hj 1 _ (by omega) rfl
  · rw [Nat.add_assoc]; exact hc j hj 2 _ (by omega) rfl
  · rw [Nat.add_assoc]; exact hc j hj 3 _ (by omega) rfl
  · rw [Nat.add_assoc]; exact hc j hj 4 _ (by omega) rfl
  · rw [Nat.add_assoc]; exact hc j hj 5 _ (by omega) rfl
theorem flat_one {α : Type} {f : α → List Value} (hf : ∀ x, ∀ u ∈ f x, u.oneCell' = true) (l : List α) : ∀ u ∈ l.flatMap f, u.oneCell' = true := by
  intro u hu
  obtain ⟨x, _, hx⟩ := List.mem_flatMap.1 hu
  exact hf x u hx
theorem hdC_one (h : Hd) : ∀ u ∈ hdC h, u.oneCell' = true := by
  intro u hu
  simp only [hdC, List.mem_cons, List.not_mem_nil, or_false] at hu
  rcases hu with rfl | rfl | rfl | rfl | rfl <;> rfl
theorem lsC_one (x : Ls) : ∀ u ∈ lsC x, u.oneCell' = true := by
  intro u hu
  simp only [lsC, List.mem_cons, List.not_mem_nil, or_false] at hu
  rcases hu with rfl | rfl | rfl | rfl | rfl | rfl <;> rfl
end Go.Proofs.Ytjnkpjhggeibeaa

/- Ledgers: which may be (plain), and the small functions: node, answer. -/
namespace Go.Proofs.Ytjnkpjhggeibeaa
set_option maxRecDepth 100000
open Go.RowKit

/-! ### Plain -/
/-- Which answers may stand in a Last. -/
def ansOk (lim nxt cod tok ser : Int) : Bool := if cod = 1 then decide (1 ≤ tok ∧ tok ≤ lim ∧ 1 ≤ ser ∧ ser < nxt) else decide (2 ≤ cod ∧ cod ≤ 5 ∧ tok = 0 ∧ ser = 0)
/-- Row i of Held may be, behind those ahead of it. -/
structure HdOk (lim nxt : Int) (l : List Hd) (i : Nat) (h : Hd) : Prop where
  rise : 0 < i → ∀ (hl : i - 1 < l.length), l[i - 1].tok < h.tok
  tok1 : 1 ≤ h.tok
  tok2 : h.tok ≤ lim
  nod1 : 1 ≤ h.nod
  nod2 : h.nod ≤ 7
  bt : 1 ≤ h.bt
  stp : 1 ≤ h.stp
  ser1 : 1 ≤ h.ser
  ser2 : h.ser < nxt
  once : ∀ j (hj : j < l.length), j < i → l[j].ser ≠ h.ser
structure LsOk (lim nxt : Int) (l : List Ls) (i : Nat) (x : Ls) : Prop where
  rise : 0 < i → ∀ (hl : i - 1 < l.length), l[i - 1].nod < x.nod
  nod1 : 1 ≤ x.nod
  nod2 : x.nod ≤ 7
  bt : 1 ≤ x.bt
  sq : 1 ≤ x.sq
  ans : ansOk lim nxt x.cod x.tok x.ser = true
def HdsOk (lim nxt : Int) (l : List Hd) (k : Nat) : Prop := ∀ i (hi : i < l.length), i < k → HdOk lim nxt l i l[i]
def LssOk (lim nxt : Int) (l : List Ls) (k : Nat) : Prop := ∀ i (hi : i < l.length), i < k → LsOk lim nxt l i l[i]
structure HeadOk (lim nxt : Int) (n : Nat) : Prop where
  l1 : 1 ≤ lim
  l2 : lim ≤ 65535
  n1 : 1 ≤ nxt
  len : n ≤ 64
/-- A ledger that may be. -/
structure LedOk (lim nxt : Int) (hs : List Hd) (ls : List Ls) : Prop where
  head : HeadOk lim nxt hs.length
  hds : HdsOk lim nxt hs hs.length
  lss : LssOk lim nxt ls ls.length
noncomputable instance (lim nxt : Int) (hs : List Hd) (ls : List Ls) : Decidable (LedOk lim nxt hs ls) := Classical.propDecidable _
def errLed (b : Bool) : Int := if b then 0 else 50
theorem HdsOk.zero {lim nxt : Int} {l : List Hd} : HdsOk lim nxt l 0 := fun _ _ h => by omega
theorem LssOk.zero {lim nxt : Int} {l : List Ls} : LssOk lim nxt l 0 := fun _ _ h => by omega
theorem HdsOk.step {lim nxt : Int} {l : List Hd} {k : Nat} (h : HdsOk lim nxt l k) (hk : k < l.length) (h1 : HdOk lim nxt l k l[k]) : HdsOk lim nxt l (k + 1) := by
  intro i hi hik
  rcases Nat.lt_or_ge i k with hlt | hge
  · exact h i hi hlt
  · obtain rfl : i = k := by omega
    exact h1
theorem LssOk.step {lim nxt : Int} {l : List Ls} {k : Nat} (h : LssOk lim nxt l k) (hk : k < l.length) (h1 : LsOk lim nxt l k l[k]) : LssOk lim nxt l (k + 1) := by
  intro i hi hik
  rcases Nat.lt_or_ge i k with hlt | hge
  · exact h i hi hlt
  · obtain rfl : i = k := by omega
    exact h1
theorem not_hds {lim nxt : Int} {hs : List Hd} {ls : List Ls} {k : Nat} (hk : k < hs.length) (h : ¬ HdOk lim nxt hs k hs[k]) : ¬ LedOk lim nxt hs ls := fun hl => h (hl.hds k hk hk)
theorem not_lss {lim nxt : Int} {hs : List Hd} {ls : List Ls} {k : Nat} (hk : k < ls.length) (h : ¬ LsOk lim nxt ls k ls[k]) : ¬ LedOk lim nxt hs ls := fun hl => h (hl.lss k hk hk)

/-! ### In memory -/
def ledV (lim nxt : Int) (hl ll : Value) : Value := .agg #[.int .i64 lim, .int .u64 nxt, hl, ll]
def ledC (lim nxt : Int) (hl ll : Value) : Array Value := #[.int .i64 lim, .int .u64 nxt, hl, ll]
structure LedAt (w : World) (g : Nat) (lim nxt : Int) (hl ll : Value) : Prop where
  q0 : w.cell? ⟨g, 0, none⟩ = some (.int .i64 lim)
  q1 : w.cell? ⟨g, 1, none⟩ = some (.int .u64 nxt)
  q2 : w.cell? ⟨g, 2, none⟩ = some hl
  q3 : w.cell? ⟨g, 3, none⟩ = some ll
theorem Blk.led {w : World} {g : Nat} {T : TypeId} {lim nxt : Int} {hl ll : Value} (h : Blk w g T (ledC lim nxt hl ll)) : LedAt w g lim nxt hl ll := by
  constructor <;> (rw [h.cell]; rfl)
def hdA (h : Hd) : Array Value := #[.int .i64 h.tok, .int .i64 h.nod, .int .u64 h.bt, .int .u64 h.ser, .int .u64 h.stp]
def lsA (x : Ls) : Array Value := #[.int .i64 x.nod, .int .u64 x.bt, .int .u64 x.sq, .int .i64 x.cod, .int .i64 x.tok, .int .u64 x.ser]
theorem Blk.hd {w : World} {g : Nat} {T : TypeId} {h : Hd} (hb : Blk w g T (hdA h)) : HdAt w g 0 h := by
  constructor <;> (rw [hb.cell]; rfl)
theorem Blk.ls {w : World} {g : Nat} {T : TypeId} {x : Ls} (hb : Blk w g T (lsA x)) : LsAt w g 0 x := by
  constructor <;> (rw [hb.cell]; rfl)

theorem ledger_node_any (w : World) (n : Int) :
    Calls Try.prog 39 #[.int .i64 n] w fun e w' => e = .returned (.bool (decide (1 ≤ n ∧ n ≤ 7))) ∧ w' = w := by
  by_cases h1 : 1 ≤ n
  · have d1 : decide (1 ≤ n ∧ n ≤ 7) = decide (n ≤ 7) := by simp [h1]
    rw [d1]
    clear d1
    go_enter Try.func39, Try.ntmps39
    go_wp2
    go_ret
    exact ⟨rfl, rfl⟩
  · have d1 : decide (1 ≤ n ∧ n ≤ 7) = false := by simp [h1]
    rw [d1]
    clear d1
    go_enter Try.func39, Try.ntmps39
    go_wp2
    go_ret
    exact ⟨rfl, rfl⟩
end Go.Proofs.Ytjnkpjhggeibeaa

/- Ledgers: which answers may stand in a Last, by the code and by the document. -/
namespace Go.Proofs.Ytjnkpjhggeibeaa
set_option maxRecDepth 100000
open Go.RowKit

theorem wrap_pred {x : Int} (h1 : 1 ≤ x) (h2 : x < 18446744073709551616) : IntKind.u64.wrap (x - 1) = x - 1 := by
  rw [IntKind.wrap_u64]
  omega
theorem wrap_pred0 : IntKind.u64.wrap (-1) = 18446744073709551615 := by
  rw [IntKind.wrap_u64]
  rfl

set_option maxRecDepth 100000 in
set_option maxHeartbeats 4000000 in
theorem ledger_answer_any (w : World) (lim nxt : Int) (hl ll : Value) (cod tok ser : Int) (hn : 1 ≤ nxt ∧ nxt < 18446744073709551616) (hs : 0 ≤ ser ∧ ser < 18446744073709551616) :
    Calls Try.prog 40 #[ledV lim nxt hl ll, .agg #[.int .i64 cod, .int .i64 tok, .int .u64 ser]] w fun e w' => e = .returned (.bool (ansOk lim nxt cod tok ser)) ∧ Below w.heap.size w w' := by
  have hB : Below w.heap.size w ((w.alloc (.cells #[.int .i64 lim, .int .u64 nxt, hl, ll] 28)).alloc (.cells #[.int .i64 cod, .int .i64 tok, .int .u64 ser] 74)) := ((Below.refl _ _).alloc (Nat.le_refl _) _).alloc (by simp) _
  have HB := Lib.hid hB
  have en := wrap_pred hn.1 hn.2
  unfold ledV
  clear hB
  by_cases hc : cod = 1
  · subst hc
    have hgen : ansOk lim nxt 1 tok ser = decide (1 ≤ tok ∧ tok ≤ lim ∧ 1 ≤ ser ∧ ser < nxt) := by simp [ansOk]
    rw [hgen]
    clear hgen
    by_cases h1 : 1 ≤ tok
    rotate_left
    · rw [decide_eq_false (by omega)]
      go_enter Try.func40, Try.ntmps40
      go_wp2
      go_ret
      exact ⟨rfl, HB.out⟩
    by_cases h2 : tok ≤ lim
    rotate_left
    · rw [decide_eq_false (by omega)]
      go_enter Try.func40, Try.ntmps40
      go_wp2
      go_ret
      exact ⟨rfl, HB.out⟩
    by_cases h3 : ser = 0
    · subst h3
      have e0 := wrap_pred0
      rw [decide_eq_false (by omega)]
      have hd : decide ((18446744073709551615 : Int) < nxt - 1) = false := decide_eq_false (by omega)
      go_enter Try.func40, Try.ntmps40
      go_wp2
      go_ret
      exact ⟨rfl, HB.out⟩
    · have e0 := wrap_pred (x := ser) (by omega) hs.2
      have hd : decide (1 ≤ tok ∧ tok ≤ lim ∧ 1 ≤ ser ∧ ser < nxt) = decide (IntKind.u64.wrap (ser - 1) < IntKind.u64.wrap (nxt - 1)) := by
        rw [e0, en]
        exact decide_eq_decide.2 (by omega)
      rw [hd]
      clear hd h3 hs hn e0 en
      go_enter Try.func40, Try.ntmps40
      go_wp2
      go_ret
      exact ⟨rfl, HB.out⟩
  · have hgen : ansOk lim nxt cod tok ser = decide (2 ≤ cod ∧ cod ≤ 5 ∧ tok = 0 ∧ ser = 0) := by simp [ansOk, hc]
    rw [hgen]
    clear hgen en
    by_cases h1 : 1 < cod
    rotate_left
    · rw [decide_eq_false (by omega)]
      go_enter Try.func40, Try.ntmps40
      go_wp2
      go_ret
      exact ⟨rfl, HB.out⟩
    by_cases h2 : cod < 6
    rotate_left
    · rw [decide_eq_false (by omega)]
      go_enter Try.func40, Try.ntmps40
      go_wp2
      go_ret
      exact ⟨rfl, HB.out⟩
    by_cases h3 : tok = 0
    rotate_left
    · rw [decide_eq_false (by omega)]
      go_enter Try.func40, Try.ntmps40
      go_wp2
      go_ret
      exact ⟨rfl, HB.out⟩
    subst h3
    by_cases h4 : ser = 0
    rotate_left
    · rw [decide_eq_false (by omega)]
      go_enter Try.func40, Try.ntmps40
      go_wp2
      go_ret
      exact ⟨rfl, HB.out⟩
    subst h4
    rw [decide_eq_true (by omega)]
    go_enter Try.func40, Try.ntmps40
    go_wp2
    go_ret
    exact ⟨rfl, HB.out⟩

set_option maxRecDepth 100000 in
set_option maxHeartbeats 4000000 in
theorem r05_answer_any (w : World) (lim nxt : Int) (hl ll : Value) (cod tok ser : Int) :
    Calls Try.prog 45 #[ledV lim nxt hl ll, .agg #[.int .i64 cod, .int .i64 tok, .int .u64 ser]] w fun e w' => e = .returned (.bool (ansOk lim nxt cod tok ser)) ∧ Below w.heap.size w w' := by
  have hB : Below w.heap.size w ((w.alloc (.cells #[.int .i64 lim, .int .u64 nxt, hl, ll] 28)).alloc (.cells #[.int .i64 cod, .int .i64 tok, .int .u64 ser] 74)) := ((Below.refl _ _).alloc (Nat.le_refl _) _).alloc (by simp) _
  have HB := Lib.hid hB
  unfold ledV
  clear hB
  by_cases hc : cod = 1
  · subst hc
    have hgen : ansOk lim nxt 1 tok ser = (decide (1 ≤ tok) && (decide (tok ≤ lim) && (decide (1 ≤ ser) && decide (ser < nxt)))) := by
      simp only [ansOk, if_pos]
      rw [← Bool.decide_and, ← Bool.decide_and, ← Bool.decide_and]
    rw [hgen]
    clear hgen
    by_cases h1 : 1 ≤ tok
    rotate_left
    · rw [decide_eq_false h1, Bool.false_and]
      go_enter Try.func45, Try.ntmps45
      go_wp2
      go_ret
      exact ⟨rfl, HB.out⟩
    rw [decide_eq_true h1, Bool.true_and]
    by_cases h2 : tok ≤ lim
    rotate_left
    · rw [decide_eq_false h2, Bool.false_and]
      go_enter Try.func45, Try.ntmps45
      go_wp2
      go_ret
      exact ⟨rfl, HB.out⟩
    rw [decide_eq_true h2, Bool.true_and]
    by_cases h3 : 1 ≤ ser
    rotate_left
    · rw [decide_eq_false h3, Bool.false_and]
      go_enter Try.func45, Try.ntmps45
      go_wp2
      go_ret
      exact ⟨rfl, HB.out⟩
    rw [decide_eq_true h3, Bool.true_and]
    go_enter Try.func45, Try.ntmps45
    go_wp2
    go_ret
    exact ⟨rfl, HB.out⟩
  · by_cases h2 : 2 ≤ cod ∧ cod ≤ 5
    · have hgen : ansOk lim nxt cod tok ser = (decide (tok = 0) && decide (ser = 0)) := by
        simp only [ansOk, if_neg hc]
        rw [← Bool.decide_and]
        exact decide_eq_decide.2 (by omega)
      rw [hgen]
      clear hgen
      have hcs : cod = 2 ∨ cod = 3 ∨ cod = 4 ∨ cod = 5 := by omega
      clear hc h2
      rcases hcs with rfl | rfl | rfl | rfl
      all_goals
        by_cases h3 : tok = 0
        · subst h3
          rw [decide_eq_true rfl, Bool.true_and]
          go_enter Try.func45, Try.ntmps45
          go_wp2
          go_ret
          exact ⟨rfl, HB.out⟩
        · rw [decide_eq_false h3, Bool.false_and]
          go_enter Try.func45, Try.ntmps45
          go_wp2
          go_ret
          exact ⟨rfl, HB.out⟩
    · have hgen : ansOk lim nxt cod tok ser = false := by
        simp only [ansOk, if_neg hc]
        exact decide_eq_false (by omega)
      rw [hgen]
      have n2 : ¬ cod = 2 := by omega
      have n3 : ¬ cod = 3 := by omega
      have n4 : ¬ cod = 4 := by omega
      have n5 : ¬ cod = 5 := by omega
      clear hgen h2
      go_enter Try.func45, Try.ntmps45
      go_wp2
      go_ret
      exact ⟨rfl, HB.out⟩
end Go.Proofs.Ytjnkpjhggeibeaa

/- Ledgers: a map that counts serials, in memory and plain. -/
namespace Go.Proofs.Ytjnkpjhggeibeaa
set_option maxRecDepth 100000
open Go.RowKit Go.Maps

theorem lawU : Keyed Try.prog 22 := int_keyed Try.underlying22
/-- Block M is a map of at most n entries that counts f. -/
def Cnt (w : World) (M n : Nat) (f : Int → Nat) : Prop :=
  ∃ D : DataW Unit, w.ownsMap Try.prog 22 (plainElem Try.prog 3) M n D ∧ ∀ s, D.atKey (.int .u64 s) (.lit (.int .i64 0)) = .lit (.int .i64 (f s : Int))
theorem Cnt.made (w : World) : Cnt (w.alloc (.map #[] 0)) w.heap.size 0 (fun _ => 0) := ⟨_, World.ownsMap_made _ _ _ _, fun _ => rfl⟩
theorem Cnt.kept {w w' : World} {M n : Nat} {f : Int → Nat} {row : Option Nat} (h : Cnt w M n f) (hg : w.grownBy w' row) (hne : some M ≠ row) : Cnt w' M n f := by
  obtain ⟨D, h1, h2⟩ := h
  exact ⟨D, h1.kept hg hne, h2⟩
theorem Cnt.alloc {w : World} {M n : Nat} {f : Int → Nat} (h : Cnt w M n f) (o : Obj) : Cnt (w.alloc o) M n f := by
  obtain ⟨D, h1, h2⟩ := h
  exact ⟨D, h1.alloc o, h2⟩
theorem Cnt.lt {w : World} {M n : Nat} {f : Int → Nat} (h : Cnt w M n f) : M < w.heap.size := by
  obtain ⟨D, h1, _⟩ := h
  exact h1.lt
theorem Cnt.look {w : World} {M n : Nat} {f : Int → Nat} (h : Cnt w M n f) {s : Int} (hs : (Lit.int .u64 s).wf = true) :
    (Instr.lookup 72 (.map (some M)) (.int .u64 s) false).run Try.prog w = .ok (.int .i64 (f s : Int)) w := by
  obtain ⟨D, h1, h2⟩ := h
  obtain ⟨c, hrun, hat, _⟩ := h1.lookup_int lawU Try.underlying72 Try.underlying3 (by kernel_rfl) (keyOf_int_mk Try.underlying22 hs)
  rw [h2] at hat
  injection hat with hat
  injection hat with _ hat
  rw [hat]
  exact hrun
theorem Cnt.upd {w : World} {M n : Nat} {f : Int → Nat} (h : Cnt w M n f) {s : Int} (hs : (Lit.int .u64 s).wf = true) (hn : n < maxLen) (hf : f s < 1000000000000000) :
    ∃ w', (Instr.mapUpdate 72 (.map (some M)) (.int .u64 s) (.int .i64 ((f s : Int) + 1))).run Try.prog w = .ok () w' ∧ Cnt w' M (n + 1) (fun x => if x = s then f s + 1 else f x) ∧ w.grownBy w' (some M) := by
  obtain ⟨D, h1, h2⟩ := h
  have hv : (Lit.int .i64 ((f s : Int) + 1)).wf = true := by
    simp [Lit.wf, IntKind.min, IntKind.max, IntKind.bits, IntKind.signed]
    omega
  obtain ⟨w', hrun, h3, h4⟩ := h1.update lawU Try.underlying72 hn (keyOf_int_mk Try.underlying22 hs) (plainElem_int Try.underlying3 hv)
  refine ⟨w', hrun, ⟨_, h3, fun x => ?_⟩, h4⟩
  show DataW.atKey _ _ _ = DataW.lit (Lit.int .i64 ((if x = s then f s + 1 else f x : Nat) : Int))
  by_cases hx : x = s
  · subst hx
    rw [if_pos rfl, atKey_put_same h1.isMap (show Go.WideAt.IsKeyLit (.int .u64 x) from trivial)]
    rfl
  · rw [if_neg hx, atKey_put_other (fun e => hx (by injection e)), h2]

/-! ### Plain: how often a serial stands among the first k -/
def cntS (l : List Hd) (k : Nat) (s : Int) : Nat := ((l.take k).filter fun h => h.ser == s).length
theorem cntS_zero (l : List Hd) : cntS l 0 = fun _ => 0 := rfl
theorem cntS_le (l : List Hd) (k : Nat) (s : Int) : cntS l k s ≤ k := by
  have h1 := List.length_filter_le (fun h : Hd => h.ser == s) (l.take k)
  have h2 : (l.take k).length ≤ k := by rw [List.length_take]; omega
  unfold cntS
  omega
theorem cntS_succ {l : List Hd} {k : Nat} (hk : k < l.length) : cntS l (k + 1) = fun x => if x = l[k].ser then cntS l k l[k].ser + 1 else cntS l k x := by
  funext x
  unfold cntS
  rw [← List.take_append_getElem hk, List.filter_append, List.length_append]
  by_cases hx : x = l[k].ser
  · subst hx
    simp
  · have : (l[k].ser == x) = false := beq_eq_false_iff_ne.2 (fun e => hx e.symm)
    simp [this, hx]
theorem cntS_none {l : List Hd} {k : Nat} {s : Int} : cntS l k s = 0 ↔ ∀ j (hj : j < l.length), j < k → l[j].ser ≠ s := by
  unfold cntS
  rw [List.length_eq_zero_iff, List.filter_eq_nil_iff]
  constructor
  · intro h j hj hjk
    have hm : l[j] ∈ l.take k := by
      rw [List.mem_take_iff_getElem]
      exact ⟨j, by omega, rfl⟩
    have := h _ hm
    simpa using this
  · intro h x hx
    rw [List.mem_take_iff_getElem] at hx
    obtain ⟨j, hj, rfl⟩ := hx
    have := h j (by omega) (by omega)
    simpa using this
/-- The token of the row ahead of k. -/
def prevT (l : List Hd) : Nat → Int
  | 0 => 0
  | k + 1 => ((l[k]?).map Hd.tok).getD 0
theorem prevT_succ {l : List Hd} {k : Nat} (hk : k < l.length) : prevT l (k + 1) = l[k].tok := by simp [prevT, hk]
def prevN (l : List Ls) : Nat → Int
  | 0 => 0
  | k + 1 => ((l[k]?).map Ls.nod).getD 0
theorem prevN_succ {l : List Ls} {k : Nat} (hk : k < l.length) : prevN l (k + 1) = l[k].nod := by simp [prevN, hk]
/-- As the code asks. -/
def hdB (lim nxt T : Int) (cnt : Nat) (h : Hd) : Bool := decide (T < h.tok) && (decide (h.tok ≤ lim) && (decide (1 ≤ h.nod ∧ h.nod ≤ 7) && (decide (1 ≤ h.bt) && (decide (1 ≤ h.stp) && (decide (1 ≤ h.ser) && (decide (h.ser < nxt) && decide ((cnt : Int) = 0)))))))
theorem hdB_iff {lim nxt : Int} {l : List Hd} {k : Nat} (hp : HdsOk lim nxt l k) (hk : k < l.length) : hdB lim nxt (prevT l k) (cntS l k l[k].ser) l[k] = true ↔ HdOk lim nxt l k l[k] := by
  have hT : 0 ≤ prevT l k := by
    cases k with
    | zero => exact Int.le_refl _
    | succ k =>
      rw [prevT_succ (by omega)]
      have := (hp k (by omega) (by omega)).tok1
      omega
  simp only [hdB, Bool.and_eq_true, decide_eq_true_eq]
  constructor
  · rintro ⟨h1, h2, ⟨h3, h4⟩, h5, h6, h7, h8, h9⟩
    refine ⟨fun h0 hl => ?_, by omega, h2, h3, h4, h5, h6, h7, h8, cntS_none.1 (by omega)⟩
    obtain ⟨k, rfl⟩ : ∃ m, k = m + 1 := ⟨k - 1, by omega⟩
    rw [prevT_succ (by omega)] at h1
    exact h1
  · intro h
    have h9 := cntS_none.2 h.once
    refine ⟨?_, h.tok2, ⟨h.nod1, h.nod2⟩, h.bt, h.stp, h.ser1, h.ser2, by omega⟩
    cases k with
    | zero =>
      have := h.tok1
      show (0 : Int) < _
      omega
    | succ k =>
      rw [prevT_succ (by omega)]
      exact h.rise (by omega) (by omega)
def lsB (lim nxt T : Int) (x : Ls) : Bool := decide (T < x.nod) && (decide (1 ≤ x.nod ∧ x.nod ≤ 7) && (decide (1 ≤ x.bt) && (decide (1 ≤ x.sq) && ansOk lim nxt x.cod x.tok x.ser)))
theorem lsB_iff {lim nxt : Int} {l : List Ls} {k : Nat} (hk : k < l.length) : lsB lim nxt (prevN l k) l[k] = true ↔ LsOk lim nxt l k l[k] := by
  simp only [lsB, Bool.and_eq_true, decide_eq_true_eq]
  constructor
  · rintro ⟨h1, ⟨h3, h4⟩, h5, h6, h7⟩
    refine ⟨fun h0 hl => ?_, h3, h4, h5, h6, h7⟩
    obtain ⟨k, rfl⟩ : ∃ m, k = m + 1 := ⟨k - 1, by omega⟩
    rw [prevN_succ (by omega)] at h1
    exact h1
  · intro h
    refine ⟨?_, ⟨h.nod1, h.nod2⟩, h.bt, h.sq, h.ans⟩
    cases k with
    | zero =>
      have := h.nod1
      show (0 : Int) < _
      omega
    | succ k =>
      rw [prevN_succ (by omega)]
      exact h.rise (by omega) (by omega)
def headB (lim nxt : Int) (n : Nat) : Bool := decide (1 ≤ lim) && (decide (lim ≤ 65535) && (decide (1 ≤ nxt) && decide ((n : Int) ≤ 64)))
theorem headB_iff {lim nxt : Int} {n : Nat} : headB lim nxt n = true ↔ HeadOk lim nxt n := by
  simp only [headB, Bool.and_eq_true, decide_eq_true_eq]
  exact ⟨fun ⟨h1, h2, h3, h4⟩ => ⟨h1, h2, h3, by omega⟩, fun ⟨h1, h2, h3, h4⟩ => ⟨h1, h2, h3, by omega⟩⟩
end Go.Proofs.Ytjnkpjhggeibeaa
