/- Walks over commands: the document's Check  where the numbers are as they must be. -/
import Derived.Test.YtfkaggdjhopjpaaCmdA
namespace Go.Proofs.Ytfkaggdjhopjpaa
set_option maxRecDepth 100000
open Go.RowKit

set_option maxHeartbeats 20000000 in
theorem ref_Check_good (w : World) (k n t : Int) (A : Option Addr) (c : Nat) (l : List Int) (b q s m : Int) (h : InN .i64 w A c l)
    (hn : (Lit.int .i64 n).wf = true) (ht : (Lit.int .i64 t).wf = true) (hI : kI k = true) (h0n : 0 ≤ n) (h0t : 0 ≤ t)
    (r1 : rightB (hasB (fld k) 110) n 7 = true) (r2 : rightB (hasB (fld k) 116) t 65535 = true) (r3 : rightB (hasB (fld k) 98) b 18446744073709551615 = true) (r4 : rightB (hasB (fld k) 113) q 18446744073709551615 = true) (r5 : rightB (hasB (fld k) 115) s 18446744073709551615 = true) (r6 : rightB (hasB (fld k) 109) m 18446744073709551615 = true) :
    Calls Try.prog 46 #[cmdV k n t (.slice A l.length c) b q s m] w fun e w' => e = .returned (.int .i64 (errCmd (numsOk k n t b q s m && listOk k l))) ∧ Below w.heap.size w w' := by
  have hnb := wf_i64 hn
  have htb := wf_i64 ht
  have wn : 0 ≤ n → IntKind.u64.wrap n = n := fun h0 => by simp [IntKind.wrap_u64]; omega
  have wt : 0 ≤ t → IntKind.u64.wrap t = t := fun h0 => by simp [IntKind.wrap_u64]; omega
  have C1 := fun W => Lib.hid (ref_fields_any W k)
  have C2 := fun W c => Lib.hid (ref_has_any W (fld k) c (fld_small k))
  have C3 := fun W b n hi => Lib.hid (ref_right_any W b n hi)
  have HIN := Lib.hid h
  have hs := h.small
  have hcap := h.cap
  clear h
  have ok : numsOk k n t b q s m = true := by simp [numsOk, hI, h0n, h0t, r1, r2, r3, r4, r5, r6]
  have OK := Lib.hid ok
  clear ok
  have wn := wn h0n
  have hnn : decide (n < 0) = false := by simp; omega
  have h0n := Lib.hid h0n
  have wt := wt h0t
  have htn : decide (t < 0) = false := by simp; omega
  have h0t := Lib.hid h0t
  generalize hE : errCmd (numsOk k n t b q s m && listOk k l) = E
  have HE := Lib.hid hE
  clear hE
  unfold cmdV
  go_enter Try.func46, Try.ntmps46
  go_wp2_with fail
  refine (C1 _).out.mono ?_
  rintro e w1 ⟨rfl, rfl⟩
  go_wp2_with fail
  simp only [List.append_eq, List.cons_append, List.nil_append]
  go_quiet ((first | (go_at_call 69; exact Calls.quiet_of_same (C2 _ _).out) | (go_at_call 68; exact Calls.quiet_of_same (C3 _ _ _ _).out)))
  by_cases hL : hasB (fld k) 108 = true
  · by_cases hS : IsSet l
    · have HB : Hid (0 = E) := by
        show _ = _
        rw [← HE.out]
        simp [OK.out, errCmd, listOk, hL, hS]
      have HV : Hid (errArg (decide (IsSet l)) = 0) := by
        show _ = _
        simp [errArg, hS]
      have C4 : ∀ j : Nat, Hid (Calls Try.prog 70 #[.slice A l.length c] ((w.alloc (.cells #[.int .i64 k, .int .i64 n, .int .i64 t, .slice A l.length c, .int .u64 b, .int .u64 q, .int .u64 s, .int .u64 m] 39)).drewN j) fun e w' => e = .returned (.int .i64 0) ∧ w' = (w.alloc (.cells #[.int .i64 k, .int .i64 n, .int .i64 t, .slice A l.length c, .int .u64 b, .int .u64 q, .int .u64 s, .int .u64 m] 39)).drewN j) := fun j => by
        have hbw : Below w.heap.size w ((w.alloc (.cells #[.int .i64 k, .int .i64 n, .int .i64 t, .slice A l.length c, .int .u64 b, .int .u64 q, .int .u64 s, .int .u64 m] 39)).drewN j) := below_drewN ((Below.refl _ _).alloc (Nat.le_refl _) _) j
        have := ref_setCheck_any _ A c l (HIN.out.keep hbw)
        rw [HV.out] at this
        exact this
      clear hS
      go_wp2_with fail
      refine (C2 _ _).out.mono ?_
      rintro e w2 ⟨rfl, rfl⟩
      go_wp2_with fail
      refine (C4 _).out.mono ?_
      rintro e w2 ⟨rfl, rfl⟩
      go_wp2_with fail
      refine (C2 _ _).out.mono ?_
      rintro e w2 ⟨rfl, rfl⟩
      go_wp2_with fail
      go_ret
      exact ⟨by rw [← HB.out]; rfl, below_drewN ((Below.refl _ _).alloc (Nat.le_refl _) _) _⟩
    · have HB : Hid (40 = E) := by
        show _ = _
        rw [← HE.out]
        simp [OK.out, errCmd, listOk, hL, hS]
      have HV : Hid (errArg (decide (IsSet l)) = 1) := by
        show _ = _
        simp [errArg, hS]
      have C4 : ∀ j : Nat, Hid (Calls Try.prog 70 #[.slice A l.length c] ((w.alloc (.cells #[.int .i64 k, .int .i64 n, .int .i64 t, .slice A l.length c, .int .u64 b, .int .u64 q, .int .u64 s, .int .u64 m] 39)).drewN j) fun e w' => e = .returned (.int .i64 1) ∧ w' = (w.alloc (.cells #[.int .i64 k, .int .i64 n, .int .i64 t, .slice A l.length c, .int .u64 b, .int .u64 q, .int .u64 s, .int .u64 m] 39)).drewN j) := fun j => by
        have hbw : Below w.heap.size w ((w.alloc (.cells #[.int .i64 k, .int .i64 n, .int .i64 t, .slice A l.length c, .int .u64 b, .int .u64 q, .int .u64 s, .int .u64 m] 39)).drewN j) := below_drewN ((Below.refl _ _).alloc (Nat.le_refl _) _) j
        have := ref_setCheck_any _ A c l (HIN.out.keep hbw)
        rw [HV.out] at this
        exact this
      clear hS
      go_wp2_with fail
      refine (C2 _ _).out.mono ?_
      rintro e w2 ⟨rfl, rfl⟩
      go_wp2_with fail
      refine (C4 _).out.mono ?_
      rintro e w2 ⟨rfl, rfl⟩
      go_wp2_with fail
      go_ret
      exact ⟨by rw [← HB.out]; rfl, below_drewN ((Below.refl _ _).alloc (Nat.le_refl _) _) _⟩
  · have hL : hasB (fld k) 108 = false := by simpa using hL
    by_cases h0 : l.length = 0
    · have HB : Hid (0 = E) := by
        show _ = _
        rw [← HE.out]
        simp [OK.out, errCmd, listOk, hL, h0]
      have hgt : decide ((l.length : Int) > 0) = false := decide_eq_false (by omega)
      have hgn : ¬ 0 < l.length := by omega
      clear h0
      go_wp2_with fail
      refine (C2 _ _).out.mono ?_
      rintro e w2 ⟨rfl, rfl⟩
      go_wp2_with fail
      refine (C2 _ _).out.mono ?_
      rintro e w2 ⟨rfl, rfl⟩
      go_wp2_with fail
      go_ret
      exact ⟨by rw [← HB.out]; rfl, below_drewN ((Below.refl _ _).alloc (Nat.le_refl _) _) _⟩
    · have HB : Hid (40 = E) := by
        show _ = _
        rw [← HE.out]
        simp [OK.out, errCmd, listOk, hL, h0]
      have hgt : decide ((l.length : Int) > 0) = true := decide_eq_true (by omega)
      have hgn : 0 < l.length := by omega
      clear h0
      go_wp2_with fail
      refine (C2 _ _).out.mono ?_
      rintro e w2 ⟨rfl, rfl⟩
      go_wp2_with fail
      refine (C2 _ _).out.mono ?_
      rintro e w2 ⟨rfl, rfl⟩
      go_wp2_with fail
      go_ret
      exact ⟨by rw [← HB.out]; rfl, below_drewN ((Below.refl _ _).alloc (Nat.le_refl _) _) _⟩

end Go.Proofs.Ytfkaggdjhopjpaa
