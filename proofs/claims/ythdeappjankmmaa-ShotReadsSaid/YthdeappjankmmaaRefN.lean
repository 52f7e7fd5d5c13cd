/- Walks over commands: the document's reader: Fail, Num, Small. -/
import Derived.Test.YthdeappjankmmaaRdc
import Derived.Test.YthdeappjankmmaaRef1
namespace Go.Proofs.Ythdeappjankmmaa
set_option maxRecDepth 100000
open Go.RowKit

theorem ref_Fail_any (w : World) (gr : Nat) (A : Option Addr) (n c k : Nat) (e e' : Int) (hb : Blk w gr 71 (rdCells A n c k e)) :
    Calls Try.prog 39 #[.pointer (some ⟨gr, 0, none⟩), .int .i64 e'] w fun x w' => x = .returned (.tuple #[]) ∧
      Blk w' gr 71 (rdCells A n c k (if e = 0 then e' else e)) ∧ w.grownBy w' (some gr) := by
  have hb3 : Blk w gr 71 [Value.slice A n c, .int .i64 (k : Int), .int .i64 e].toArray := hb
  have hc2 : w.cell? ⟨gr, 2, none⟩ = some (.int .i64 e) := by rw [hb3.cell]; rfl
  have f2 := hb3.frozen 2
  have HB := Lib.hid hb
  by_cases he : e = 0
  · rw [if_pos he]
    have hE : (e == 0) = true := by simp [he]
    clear he hb
    go_enter Try.func39, Try.ntmps39
    go_wp2
    go_end0
    exact ⟨rfl, hb3.setL 2 _, only_setCell (p := ⟨gr, 2, none⟩) (World.grownBy.refl w (some gr)) (.inl rfl) _⟩
  · rw [if_neg he]
    have hE : (e == 0) = false := beq_eq_false_iff_ne.2 he
    clear he hb
    go_enter Try.func39, Try.ntmps39
    go_wp2
    go_end0
    exact ⟨rfl, HB.out, World.grownBy.refl _ _⟩

set_option maxRecDepth 100000 in
set_option maxHeartbeats 4000000 in
theorem refR_Num (w : World) (gr : Nat) (A : Option Addr) (c : Nat) (lb : List Int) (k : Nat) (e : Int) (h : In8 w A c lb) (hk : k ≤ lb.length) (hb : Blk w gr 71 (rdCells A lb.length c k e)) :
    Calls Try.prog 49 #[.pointer (some ⟨gr, 0, none⟩)] w fun x w' => x = .returned (.int .u64 (rnum lb k e 18446744073709551615).1) ∧
      Blk w' gr 71 (rdCells A lb.length c (rnum lb k e 18446744073709551615).2.1 (rnum lb k e 18446744073709551615).2.2) ∧ w.grownBy w' (some gr) := by
  have hs := h.small
  have hcap := h.cap
  unfold rdCells
  unfold rdCells at hb
  obtain ⟨A', c', hcut, hin⟩ := cut8 (A := A) (c := c) hk hcap
  obtain ⟨S, hS⟩ : ∃ S, Value.slice A lb.length c = S := ⟨_, rfl⟩
  rw [hS] at hb hcut ⊢
  have HS := Lib.hid hS
  have hb3 : Blk w gr 71 [S, .int .i64 (k : Int), .int .i64 e].toArray := hb
  have hc0 : w.cell? ⟨gr, 0, none⟩ = some S := by rw [hb3.cell]; rfl
  have hc1 : w.cell? ⟨gr, 1, none⟩ = some (.int .i64 (k : Int)) := by rw [hb3.cell]; rfl
  have hc2 : w.cell? ⟨gr, 2, none⟩ = some (.int .i64 e) := by rw [hb3.cell]; rfl
  have f1 := hb3.frozen 1
  have f2 := hb3.frozen 2
  by_cases he : e = 0
  rotate_left
  · have hne : (e != 0) = true := bne_iff_ne.2 he
    have hr0 : rnum lb k e 18446744073709551615 = (0, k, e) := by
      unfold rnum
      rw [if_pos he]
    have HR := Lib.hid hr0
    clear hr0
    clear he h hS hcut hin
    go_enter Try.func49, Try.ntmps49
    go_wp2
    go_ret
    rw [HR.out]
    exact ⟨rfl, hb, World.grownBy.refl _ _⟩
  subst he
  have C1 := fun j => refReadNum_any A' c' (lb.drop k) (w.drewN j) (hin _ (h.keep (below_drewN (Below.refl _ _) j)))
  have hrok := readN_ok (lb.drop k) (h.byt.drop k)
  have hrn : rnum lb k 0 18446744073709551615 = rnum lb k 0 18446744073709551615 := rfl
  conv at hrn => rhs; unfold rnum
  rw [if_neg (by simp)] at hrn
  simp only [List.length_drop] at hcut
  simp only [List.length_drop] at C1
  obtain ⟨⟨n, kk, x⟩, hr⟩ : ∃ r, readN (lb.drop k) = r := ⟨_, rfl⟩
  rw [hr] at hrok hrn
  simp only [hr] at C1
  simp only at C1 hrok hrn
  have C1 := fun j => Lib.hid (C1 j)
  clear hr hin h hS
  by_cases hx : x = 0
  rotate_left
  · rw [if_pos hx] at hrn
    have HR := Lib.hid hrn
    have hxe : (x == 0) = false := beq_eq_false_iff_ne.2 hx
    have hxn : (x != 0) = true := bne_iff_ne.2 hx
    clear hrn hrok hx
    go_enter Try.func49, Try.ntmps49
    go_wp2_with fail
    go_quiet ((go_at_call 54; exact Calls.quiet_of_same (C1 _).out))
    have CF := ref_Fail_any (w.drewN nq) gr A lb.length c k 0 x (by rw [← HS.out] at hb; exact hb)
    rw [if_pos rfl] at CF
    have CF := Lib.hid CF
    go_wp2_with fail
    refine CF.out.mono ?_
    rintro z w5 ⟨rfl, hb5, hg5⟩
    have hb6 : Blk w5 gr 71 #[S, .int .i64 (k : Int), .int .i64 x] := by
      unfold rdCells at hb5
      rw [HS.out] at hb5
      exact hb5
    have H6 := Lib.hid hb6
    have G6 : Hid (w.grownBy w5 (some gr)) := ⟨hg5.os, hg5.tape, hg5.output, hg5.size, hg5.block⟩
    clear hb5 hg5 hb6 CF
    go_wp2
    go_ret
    rw [HR.out]
    exact ⟨rfl, H6.out, G6.out⟩
  subst hx
  obtain ⟨hk1, hk2, hk3, hn1, hn2⟩ := hrok rfl
  rw [if_neg (by simp)] at hrn
  clear hrok
  have hm : ¬ n > 18446744073709551615 := by omega
  · rw [if_neg hm] at hrn
    obtain ⟨j, rfl⟩ := Int.eq_ofNat_of_zero_le (show 0 ≤ kk by omega)
    rw [Int.toNat_natCast] at hrn
    have HR := Lib.hid hrn
    rw [List.length_drop] at hk2
    have HSUM : Hid ((k : Int) + (j : Int) = ((k + j : Nat) : Int)) := by
      show _ = _
      omega
    have hkj : (k : Int) + (j : Int) ≤ 140737488355328 := by omega
    clear hk2 hk1 hk3
    clear hrn hn1 hn2 hm
    go_enter Try.func49, Try.ntmps49
    go_wp2_with fail
    go_quiet ((go_at_call 54; exact Calls.quiet_of_same (C1 _).out))
    go_wp2
    go_ret
    rw [HR.out]
    refine ⟨rfl, ?_, only_setCell (p := ⟨gr, 1, none⟩) (only_drewN (World.grownBy.refl w (some gr)) nq) (.inl rfl) _⟩
    have := Blk.setL (hb3.drewN nq) 1 (.int .i64 ((k : Int) + (j : Int)))
    rw [HSUM.out] at this ⊢
    exact this

theorem refR_Num_err (w : World) (gr : Nat) (A : Option Addr) (n c k : Nat) (e : Int) (hb : Blk w gr 71 (rdCells A n c k e)) (he : e ≠ 0) :
    Calls Try.prog 49 #[.pointer (some ⟨gr, 0, none⟩)] w fun x w' => x = .returned (.int .u64 0) ∧ w' = w := by
  have hc2 : w.cell? ⟨gr, 2, none⟩ = some (.int .i64 e) := by rw [hb.cell]; rfl
  have hne : (e != 0) = true := bne_iff_ne.2 he
  clear he hb
  go_enter Try.func49, Try.ntmps49
  go_wp2
  go_ret
  exact ⟨rfl, rfl⟩
end Go.Proofs.Ythdeappjankmmaa
