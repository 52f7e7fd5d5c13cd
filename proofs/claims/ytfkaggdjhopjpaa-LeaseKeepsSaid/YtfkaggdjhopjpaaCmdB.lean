/- Walks over commands: the document's Check where a number is not as it must be. -/
import Derived.Test.YtfkaggdjhopjpaaCmdA
namespace Go.Proofs.Ytfkaggdjhopjpaa
set_option maxRecDepth 100000
open Go.RowKit

set_option maxRecDepth 100000 in
set_option maxHeartbeats 2000000 in
theorem ref_Check_hI (w : World) (k n t : Int) (sl : Value) (b q s m : Int) (hn : (Lit.int .i64 n).wf = true) (ht : (Lit.int .i64 t).wf = true)  (hI : kI k = false) :
    Calls Try.prog 46 #[cmdV k n t sl b q s m] w fun e w' => e = .returned (.int .i64 40) ∧ Below w.heap.size w w' := by
  have hnb := wf_i64 hn
  have htb := wf_i64 ht
  clear hnb htb hn ht
  have C1 := fun W => Lib.hid (ref_fields_any W k)
  unfold cmdV
  go_enter Try.func46, Try.ntmps46
  go_wp2_with fail
  refine (C1 _).out.mono ?_
  rintro e w1 ⟨rfl, rfl⟩
  go_wp2_with fail
  simp only [List.append_eq, List.cons_append, List.nil_append]
  go_quiet (fail)
  go_wp2
  go_ret
  exact ⟨rfl, below_drewN ((Below.refl _ _).alloc (Nat.le_refl _) _) _⟩

set_option maxRecDepth 100000 in
set_option maxHeartbeats 2000000 in
theorem ref_Check_h0n (w : World) (k n t : Int) (sl : Value) (b q s m : Int) (hn : (Lit.int .i64 n).wf = true) (ht : (Lit.int .i64 t).wf = true) (hI : kI k = true) (h0n : decide (n < 0) = true) :
    Calls Try.prog 46 #[cmdV k n t sl b q s m] w fun e w' => e = .returned (.int .i64 40) ∧ Below w.heap.size w w' := by
  have hnb := wf_i64 hn
  have htb := wf_i64 ht
  clear hnb htb hn ht
  have C1 := fun W => Lib.hid (ref_fields_any W k)
  unfold cmdV
  go_enter Try.func46, Try.ntmps46
  go_wp2_with fail
  refine (C1 _).out.mono ?_
  rintro e w1 ⟨rfl, rfl⟩
  go_wp2_with fail
  simp only [List.append_eq, List.cons_append, List.nil_append]
  go_quiet (fail)
  go_wp2
  go_ret
  exact ⟨rfl, below_drewN ((Below.refl _ _).alloc (Nat.le_refl _) _) _⟩

set_option maxRecDepth 100000 in
set_option maxHeartbeats 2000000 in
theorem ref_Check_h0t (w : World) (k n t : Int) (sl : Value) (b q s m : Int) (hn : (Lit.int .i64 n).wf = true) (ht : (Lit.int .i64 t).wf = true) (hI : kI k = true) (h0n : 0 ≤ n) (h0t : decide (t < 0) = true) :
    Calls Try.prog 46 #[cmdV k n t sl b q s m] w fun e w' => e = .returned (.int .i64 40) ∧ Below w.heap.size w w' := by
  have hnb := wf_i64 hn
  have htb := wf_i64 ht
  have wn : IntKind.u64.wrap n = n := by simp [IntKind.wrap_u64]; omega
  have hnn : decide (n < 0) = false := decide_eq_false (by omega)
  clear hnb htb hn ht h0n
  have C1 := fun W => Lib.hid (ref_fields_any W k)
  unfold cmdV
  go_enter Try.func46, Try.ntmps46
  go_wp2_with fail
  refine (C1 _).out.mono ?_
  rintro e w1 ⟨rfl, rfl⟩
  go_wp2_with fail
  simp only [List.append_eq, List.cons_append, List.nil_append]
  go_quiet (fail)
  go_wp2
  go_ret
  exact ⟨rfl, below_drewN ((Below.refl _ _).alloc (Nat.le_refl _) _) _⟩

set_option maxRecDepth 100000 in
set_option maxHeartbeats 2000000 in
theorem ref_Check_r1 (w : World) (k n t : Int) (sl : Value) (b q s m : Int) (hn : (Lit.int .i64 n).wf = true) (ht : (Lit.int .i64 t).wf = true) (hI : kI k = true) (h0n : 0 ≤ n) (h0t : 0 ≤ t) (r1 : rightB (hasB (fld k) 110) n 7 = false) :
    Calls Try.prog 46 #[cmdV k n t sl b q s m] w fun e w' => e = .returned (.int .i64 40) ∧ Below w.heap.size w w' := by
  have hnb := wf_i64 hn
  have htb := wf_i64 ht
  have wn : IntKind.u64.wrap n = n := by simp [IntKind.wrap_u64]; omega
  have hnn : decide (n < 0) = false := decide_eq_false (by omega)
  have wt : IntKind.u64.wrap t = t := by simp [IntKind.wrap_u64]; omega
  have htn : decide (t < 0) = false := decide_eq_false (by omega)
  clear hnb htb hn ht h0n h0t
  have C1 := fun W => Lib.hid (ref_fields_any W k)
  have C2 := fun W c => Lib.hid (ref_has_any W (fld k) c (fld_small k))
  have C3 := fun W b n hi => Lib.hid (ref_right_any W b n hi)
  unfold cmdV
  go_enter Try.func46, Try.ntmps46
  go_wp2_with fail
  refine (C1 _).out.mono ?_
  rintro e w1 ⟨rfl, rfl⟩
  go_wp2_with fail
  simp only [List.append_eq, List.cons_append, List.nil_append]
  go_quiet ((first | (go_at_call 69; exact Calls.quiet_of_same (C2 _ _).out) | (go_at_call 68; exact Calls.quiet_of_same (C3 _ _ _ _).out)))
  go_wp2
  go_ret
  exact ⟨rfl, below_drewN ((Below.refl _ _).alloc (Nat.le_refl _) _) _⟩

set_option maxRecDepth 100000 in
set_option maxHeartbeats 2000000 in
theorem ref_Check_r2 (w : World) (k n t : Int) (sl : Value) (b q s m : Int) (hn : (Lit.int .i64 n).wf = true) (ht : (Lit.int .i64 t).wf = true) (hI : kI k = true) (h0n : 0 ≤ n) (h0t : 0 ≤ t) (r1 : rightB (hasB (fld k) 110) n 7 = true) (r2 : rightB (hasB (fld k) 116) t 65535 = false) :
    Calls Try.prog 46 #[cmdV k n t sl b q s m] w fun e w' => e = .returned (.int .i64 40) ∧ Below w.heap.size w w' := by
  have hnb := wf_i64 hn
  have htb := wf_i64 ht
  have wn : IntKind.u64.wrap n = n := by simp [IntKind.wrap_u64]; omega
  have hnn : decide (n < 0) = false := decide_eq_false (by omega)
  have wt : IntKind.u64.wrap t = t := by simp [IntKind.wrap_u64]; omega
  have htn : decide (t < 0) = false := decide_eq_false (by omega)
  clear hnb htb hn ht h0n h0t
  have C1 := fun W => Lib.hid (ref_fields_any W k)
  have C2 := fun W c => Lib.hid (ref_has_any W (fld k) c (fld_small k))
  have C3 := fun W b n hi => Lib.hid (ref_right_any W b n hi)
  unfold cmdV
  go_enter Try.func46, Try.ntmps46
  go_wp2_with fail
  refine (C1 _).out.mono ?_
  rintro e w1 ⟨rfl, rfl⟩
  go_wp2_with fail
  simp only [List.append_eq, List.cons_append, List.nil_append]
  go_quiet ((first | (go_at_call 69; exact Calls.quiet_of_same (C2 _ _).out) | (go_at_call 68; exact Calls.quiet_of_same (C3 _ _ _ _).out)))
  go_wp2
  go_ret
  exact ⟨rfl, below_drewN ((Below.refl _ _).alloc (Nat.le_refl _) _) _⟩

set_option maxRecDepth 100000 in
set_option maxHeartbeats 2000000 in
theorem ref_Check_r3 (w : World) (k n t : Int) (sl : Value) (b q s m : Int) (hn : (Lit.int .i64 n).wf = true) (ht : (Lit.int .i64 t).wf = true) (hI : kI k = true) (h0n : 0 ≤ n) (h0t : 0 ≤ t) (r1 : rightB (hasB (fld k) 110) n 7 = true) (r2 : rightB (hasB (fld k) 116) t 65535 = true) (r3 : rightB (hasB (fld k) 98) b 18446744073709551615 = false) :
    Calls Try.prog 46 #[cmdV k n t sl b q s m] w fun e w' => e = .returned (.int .i64 40) ∧ Below w.heap.size w w' := by
  have hnb := wf_i64 hn
  have htb := wf_i64 ht
  have wn : IntKind.u64.wrap n = n := by simp [IntKind.wrap_u64]; omega
  have hnn : decide (n < 0) = false := decide_eq_false (by omega)
  have wt : IntKind.u64.wrap t = t := by simp [IntKind.wrap_u64]; omega
  have htn : decide (t < 0) = false := decide_eq_false (by omega)
  clear hnb htb hn ht h0n h0t
  have C1 := fun W => Lib.hid (ref_fields_any W k)
  have C2 := fun W c => Lib.hid (ref_has_any W (fld k) c (fld_small k))
  have C3 := fun W b n hi => Lib.hid (ref_right_any W b n hi)
  unfold cmdV
  go_enter Try.func46, Try.ntmps46
  go_wp2_with fail
  refine (C1 _).out.mono ?_
  rintro e w1 ⟨rfl, rfl⟩
  go_wp2_with fail
  simp only [List.append_eq, List.cons_append, List.nil_append]
  go_quiet ((first | (go_at_call 69; exact Calls.quiet_of_same (C2 _ _).out) | (go_at_call 68; exact Calls.quiet_of_same (C3 _ _ _ _).out)))
  go_wp2
  go_ret
  exact ⟨rfl, below_drewN ((Below.refl _ _).alloc (Nat.le_refl _) _) _⟩

set_option maxRecDepth 100000 in
set_option maxHeartbeats 2000000 in
theorem ref_Check_r4 (w : World) (k n t : Int) (sl : Value) (b q s m : Int) (hn : (Lit.int .i64 n).wf = true) (ht : (Lit.int .i64 t).wf = true) (hI : kI k = true) (h0n : 0 ≤ n) (h0t : 0 ≤ t) (r1 : rightB (hasB (fld k) 110) n 7 = true) (r2 : rightB (hasB (fld k) 116) t 65535 = true) (r3 : rightB (hasB (fld k) 98) b 18446744073709551615 = true) (r4 : rightB (hasB (fld k) 113) q 18446744073709551615 = false) :
    Calls Try.prog 46 #[cmdV k n t sl b q s m] w fun e w' => e = .returned (.int .i64 40) ∧ Below w.heap.size w w' := by
  have hnb := wf_i64 hn
  have htb := wf_i64 ht
  have wn : IntKind.u64.wrap n = n := by simp [IntKind.wrap_u64]; omega
  have hnn : decide (n < 0) = false := decide_eq_false (by omega)
  have wt : IntKind.u64.wrap t = t := by simp [IntKind.wrap_u64]; omega
  have htn : decide (t < 0) = false := decide_eq_false (by omega)
  clear hnb htb hn ht h0n h0t
  have C1 := fun W => Lib.hid (ref_fields_any W k)
  have C2 := fun W c => Lib.hid (ref_has_any W (fld k) c (fld_small k))
  have C3 := fun W b n hi => Lib.hid (ref_right_any W b n hi)
  unfold cmdV
  go_enter Try.func46, Try.ntmps46
  go_wp2_with fail
  refine (C1 _).out.mono ?_
  rintro e w1 ⟨rfl, rfl⟩
  go_wp2_with fail
  simp only [List.append_eq, List.cons_append, List.nil_append]
  go_quiet ((first | (go_at_call 69; exact Calls.quiet_of_same (C2 _ _).out) | (go_at_call 68; exact Calls.quiet_of_same (C3 _ _ _ _).out)))
  go_wp2
  go_ret
  exact ⟨rfl, below_drewN ((Below.refl _ _).alloc (Nat.le_refl _) _) _⟩

set_option maxRecDepth 100000 in
set_option maxHeartbeats 2000000 in
theorem ref_Check_r5 (w : World) (k n t : Int) (sl : Value) (b q s m : Int) (hn : (Lit.int .i64 n).wf = true) (ht : (Lit.int .i64 t).wf = true) (hI : kI k = true) (h0n : 0 ≤ n) (h0t : 0 ≤ t) (r1 : rightB (hasB (fld k) 110) n 7 = true) (r2 : rightB (hasB (fld k) 116) t 65535 = true) (r3 : rightB (hasB (fld k) 98) b 18446744073709551615 = true) (r4 : rightB (hasB (fld k) 113) q 18446744073709551615 = true) (r5 : rightB (hasB (fld k) 115) s 18446744073709551615 = false) :
    Calls Try.prog 46 #[cmdV k n t sl b q s m] w fun e w' => e = .returned (.int .i64 40) ∧ Below w.heap.size w w' := by
  have hnb := wf_i64 hn
  have htb := wf_i64 ht
  have wn : IntKind.u64.wrap n = n := by simp [IntKind.wrap_u64]; omega
  have hnn : decide (n < 0) = false := decide_eq_false (by omega)
  have wt : IntKind.u64.wrap t = t := by simp [IntKind.wrap_u64]; omega
  have htn : decide (t < 0) = false := decide_eq_false (by omega)
  clear hnb htb hn ht h0n h0t
  have C1 := fun W => Lib.hid (ref_fields_any W k)
  have C2 := fun W c => Lib.hid (ref_has_any W (fld k) c (fld_small k))
  have C3 := fun W b n hi => Lib.hid (ref_right_any W b n hi)
  unfold cmdV
  go_enter Try.func46, Try.ntmps46
  go_wp2_with fail
  refine (C1 _).out.mono ?_
  rintro e w1 ⟨rfl, rfl⟩
  go_wp2_with fail
  simp only [List.append_eq, List.cons_append, List.nil_append]
  go_quiet ((first | (go_at_call 69; exact Calls.quiet_of_same (C2 _ _).out) | (go_at_call 68; exact Calls.quiet_of_same (C3 _ _ _ _).out)))
  go_wp2
  go_ret
  exact ⟨rfl, below_drewN ((Below.refl _ _).alloc (Nat.le_refl _) _) _⟩

set_option maxRecDepth 100000 in
set_option maxHeartbeats 2000000 in
theorem ref_Check_r6 (w : World) (k n t : Int) (sl : Value) (b q s m : Int) (hn : (Lit.int .i64 n).wf = true) (ht : (Lit.int .i64 t).wf = true) (hI : kI k = true) (h0n : 0 ≤ n) (h0t : 0 ≤ t) (r1 : rightB (hasB (fld k) 110) n 7 = true) (r2 : rightB (hasB (fld k) 116) t 65535 = true) (r3 : rightB (hasB (fld k) 98) b 18446744073709551615 = true) (r4 : rightB (hasB (fld k) 113) q 18446744073709551615 = true) (r5 : rightB (hasB (fld k) 115) s 18446744073709551615 = true) (r6 : rightB (hasB (fld k) 109) m 18446744073709551615 = false) :
    Calls Try.prog 46 #[cmdV k n t sl b q s m] w fun e w' => e = .returned (.int .i64 40) ∧ Below w.heap.size w w' := by
  have hnb := wf_i64 hn
  have htb := wf_i64 ht
  have wn : IntKind.u64.wrap n = n := by simp [IntKind.wrap_u64]; omega
  have hnn : decide (n < 0) = false := decide_eq_false (by omega)
  have wt : IntKind.u64.wrap t = t := by simp [IntKind.wrap_u64]; omega
  have htn : decide (t < 0) = false := decide_eq_false (by omega)
  clear hnb htb hn ht h0n h0t
  have C1 := fun W => Lib.hid (ref_fields_any W k)
  have C2 := fun W c => Lib.hid (ref_has_any W (fld k) c (fld_small k))
  have C3 := fun W b n hi => Lib.hid (ref_right_any W b n hi)
  unfold cmdV
  go_enter Try.func46, Try.ntmps46
  go_wp2_with fail
  refine (C1 _).out.mono ?_
  rintro e w1 ⟨rfl, rfl⟩
  go_wp2_with fail
  simp only [List.append_eq, List.cons_append, List.nil_append]
  go_quiet ((first | (go_at_call 69; exact Calls.quiet_of_same (C2 _ _).out) | (go_at_call 68; exact Calls.quiet_of_same (C3 _ _ _ _).out)))
  go_wp2
  go_ret
  exact ⟨rfl, below_drewN ((Below.refl _ _).alloc (Nat.le_refl _) _) _⟩

theorem ref_Check_bad (w : World) (k n t : Int) (sl : Value) (b q s m : Int) (hn : (Lit.int .i64 n).wf = true) (ht : (Lit.int .i64 t).wf = true) (bad : numsOk k n t b q s m = false) :
    Calls Try.prog 46 #[cmdV k n t sl b q s m] w fun e w' => e = .returned (.int .i64 40) ∧ Below w.heap.size w w' := by
  by_cases hI : kI k = true
  case neg => exact ref_Check_hI w k n t sl b q s m hn ht  (by simpa using hI)
  by_cases h0n : 0 ≤ n
  case neg => exact ref_Check_h0n w k n t sl b q s m hn ht hI (by simpa using h0n)
  by_cases h0t : 0 ≤ t
  case neg => exact ref_Check_h0t w k n t sl b q s m hn ht hI h0n (by simpa using h0t)
  by_cases r1 : rightB (hasB (fld k) 110) n 7 = true
  case neg => exact ref_Check_r1 w k n t sl b q s m hn ht hI h0n h0t (by simpa using r1)
  by_cases r2 : rightB (hasB (fld k) 116) t 65535 = true
  case neg => exact ref_Check_r2 w k n t sl b q s m hn ht hI h0n h0t r1 (by simpa using r2)
  by_cases r3 : rightB (hasB (fld k) 98) b 18446744073709551615 = true
  case neg => exact ref_Check_r3 w k n t sl b q s m hn ht hI h0n h0t r1 r2 (by simpa using r3)
  by_cases r4 : rightB (hasB (fld k) 113) q 18446744073709551615 = true
  case neg => exact ref_Check_r4 w k n t sl b q s m hn ht hI h0n h0t r1 r2 r3 (by simpa using r4)
  by_cases r5 : rightB (hasB (fld k) 115) s 18446744073709551615 = true
  case neg => exact ref_Check_r5 w k n t sl b q s m hn ht hI h0n h0t r1 r2 r3 r4 (by simpa using r5)
  by_cases r6 : rightB (hasB (fld k) 109) m 18446744073709551615 = true
  case neg => exact ref_Check_r6 w k n t sl b q s m hn ht hI h0n h0t r1 r2 r3 r4 r5 (by simpa using r6)
  exact absurd bad (by simp [numsOk, hI, h0n, h0t, r1, r2, r3, r4, r5, r6])
end Go.Proofs.Ytfkaggdjhopjpaa
