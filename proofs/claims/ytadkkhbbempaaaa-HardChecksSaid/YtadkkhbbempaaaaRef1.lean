/- The walks of the document's answer for layer 1: Num (by rest), ReadNum. -/
import Derived.Test.YtadkkhbbempaaaaRead
namespace Go.Proofs.Ytadkkhbbempaaaa
set_option maxRecDepth 100000
open Go.RowKit

set_option maxHeartbeats 1000000 in
theorem rest_any (f : Nat) : ∀ (n : Nat) (w : World), n < 18446744073709551616 → n < 256 ^ f → f ≤ 8 →
    Calls Try.prog 86 #[.int .u64 n] w fun e w' => ∃ v, e = .returned v ∧ Own8 w' w.heap.size v (beF f n) ∧ Below w.heap.size w w' := by
  induction f with
  | zero =>
    intro n w _ hn _
    obtain rfl : n = 0 := by simpa using hn
    have HR := Lib.hid (beF_zero 0)
    go_enter Try.func86, Try.ntmps86
    go_wp2_with fail
    go_ret
    rw [HR.out]
    exact ⟨_, rfl, own_nil _ _ _ _, Below.refl _ _⟩
  | succ f ih =>
    intro n w hN hn hf
    by_cases h0 : n = 0
    · subst h0
      have HR := Lib.hid (beF_zero (f + 1))
      clear ih
      go_enter Try.func86, Try.ntmps86
      go_wp2_with fail
      go_ret
      rw [HR.out]
      exact ⟨_, rfl, own_nil _ _ _ _, Below.refl _ _⟩
    · have HR := Lib.hid (beF_succ f n h0)
      have HL := Lib.hid (beF_length f (n / 256))
      have hz : ((n : Int) == 0) = false := by rw [beq_eq_false_iff_ne]; omega
      have HI := Lib.hid (ih (n / 256) w (by omega) (by rw [Nat.pow_succ] at hn; omega) (by omega))
      clear ih hn h0
      go_enter Try.func86, Try.ntmps86
      go_wp2_with fail
      refine HI.out.mono ?_
      rintro e w1 ⟨v, rfl, ho, hB⟩
      clear HI
      go_wp2_with (at_builtin; refine push_own (w0 := w) w.heap.size rfl (.tmp 7) (.tmp 11) 75 5 (.int .u8 0) 1 rfl Try.underlying75 info_u8 rfl (by omega) _ (u8s (beF f (n / 256))) _ (beF f (n / 256)).length (by rw [u8s_length]) rfl rfl rfl ho hB hB.size (by have := HL.out; omega) ?_; intro v1 w2 ho1 hB1 _ _; clear ho hB)
      go_ret
      refine ⟨v1, rfl, ?_, hB1⟩
      rw [HR.out]
      unfold Own8
      simpa [u8s] using ho1

theorem beF_be (n : Nat) : beF 8 n = be n := rfl
set_option maxHeartbeats 1000000 in
theorem refNum_any (n : Nat) (hn : n < 18446744073709551616) (w : World) :
    Calls Try.prog 51 #[.int .u64 n] w fun e w' => ∃ v, e = .returned v ∧ Own8 w' w.heap.size v (numB n) ∧ Below w.heap.size w w' := by
  have HI := Lib.hid (rest_any 8 n w hn (by simpa using hn) (Nat.le_refl _))
  have hl := beF_length 8 n
  have HN : Hid (numB n = ((beF 8 n).length : Int) :: beF 8 n) := by unfold numB; rw [beF_be, ← be_length]; exact rfl
  go_enter Try.func51, Try.ntmps51
  go_wp2_with fail
  refine HI.out.mono ?_
  rintro e w1 ⟨v, rfl, ho, hB⟩
  clear HI
  obtain ⟨A, c, rfl, hc1, hc2, hr⟩ := own_open ho
  obtain ⟨x, hx⟩ : ∃ x, beF 8 n = x := ⟨_, rfl⟩
  rw [hx] at HN hl ho hr hc1
  rw [hx]
  clear hx
  go_wp2_with (at_builtin; refine app_own (w0 := w) w.heap.size rfl (.tmp 9) (.tmp 10) 75 5 (.int .u8 0) 1 rfl Try.underlying75 1 info_u8 rfl (by omega) (by omega) _ [.int .u8 x.length] 1 rfl _ _ _ _ (u8s x) rfl (own_lit1 w1 _ _ _ hB.size) (hr.alloc (Nat.le_refl _) _) (u8s_one_cell x) (hB.alloc hB.size _) (by simp; have := hB.size; omega) (by omega) ?_; intro v1 w2 ho1 hB1 _ _)
  go_ret
  refine ⟨v1, rfl, ?_, hB1⟩
  rw [HN.out]
  unfold Own8
  rw [List.length_cons, Nat.add_comm]
  simpa [u8s] using ho1

theorem mul_byte (F : Nat) (z : Int) (hF : F < 72057594037927936) (hz : 0 ≤ z ∧ z ≤ 255) : IntKind.u64.wrap (IntKind.u64.wrap ((F : Int) * 256) + z) = ((F * 256 + z.toNat : Nat) : Int) := by
  rw [IntKind.wrap_u64, IntKind.wrap_u64]
  omega

set_option maxHeartbeats 1000000 in
theorem refReadNum_any (A : Option Addr) (c : Nat) (l : List Int) (w : World) (h : In8 w A c l) :
    Calls Try.prog 93 #[.slice A l.length c] w fun e w' => e = .returned (.tuple #[.int .u64 (readN l).1, .int .i64 (readN l).2.1, .int .i64 (readN l).2.2]) ∧ w' = w := by
  have hs := h.small
  have hcap := h.cap
  by_cases h0 : l.length = 0
  · have HR : Hid (readN l = (0, 0, 10)) := by show _ = _; simp [readN, h0]
    go_enter Try.func93, Try.ntmps93
    go_wp2
    go_ret3
    rw [HR.out]
    exact ⟨by first | rfl | (simp; done) | (simp; omega), rfl⟩
  obtain ⟨b, off, rfl, hcell⟩ := h.all (by omega)
  have hc0 := hcell 0 (by omega)
  rw [Nat.add_zero] at hc0
  have hb0 := h.byt.get (j := 0) (by omega)
  obtain ⟨x, hx⟩ : ∃ x, l.getD 0 0 = x := ⟨_, rfl⟩
  have hd0 : l[0] = x := by rw [← hx]; simp [List.getD_eq_getElem?_getD, show 0 < l.length by omega]
  rw [hd0] at hc0 hb0
  clear hd0
  by_cases h8 : 8 < x
  · have HR : Hid (readN l = (0, 0, 11)) := by unfold readN; rw [hx, if_neg h0, if_pos h8]; exact rfl
    clear hcell hx
    go_enter Try.func93, Try.ntmps93
    go_wp2
    go_ret3
    rw [HR.out]
    exact ⟨by first | rfl | (simp; done) | (simp; omega), rfl⟩
  by_cases hl : (l.length : Int) < 1 + x
  · have HR : Hid (readN l = (0, 0, 10)) := by unfold readN; rw [hx, if_neg h0, if_neg h8, if_pos hl]; exact rfl
    clear hcell hx
    go_enter Try.func93, Try.ntmps93
    go_wp2
    go_ret3
    rw [HR.out]
    exact ⟨by first | rfl | (simp; done) | (simp; omega), rfl⟩
  obtain ⟨m, rfl⟩ := Int.eq_ofNat_of_zero_le hb0.1
  by_cases hm : m = 0
  · subst hm
    have HR : Hid (readN l = (0, 1, 0)) := by unfold readN; rw [hx, if_neg h0, if_neg h8, if_neg hl, if_neg (by omega)]; exact rfl
    clear hcell hx
    go_enter Try.func93, Try.ntmps93
    go_wp2
    all_goals
      refine wp_loop_once ?_
      go_wp2
      go_ret3
      rw [HR.out]
      exact ⟨rfl, rfl⟩
  have hc1 := hcell 1 (by omega)
  have hb1 := h.byt.get (j := 1) (by omega)
  obtain ⟨y, hy⟩ : ∃ y, l.getD 1 0 = y := ⟨_, rfl⟩
  have hd1 : l[1] = y := by rw [← hy]; simp [List.getD_eq_getElem?_getD, show 1 < l.length by omega]
  rw [hd1] at hc1 hb1
  clear hd1
  by_cases hy0 : y = 0
  · subst hy0
    have HR : Hid (readN l = (0, 0, 11)) := by unfold readN; rw [hx, hy, if_neg h0, if_neg h8, if_neg hl, if_pos ⟨by omega, rfl⟩]; exact rfl
    clear hcell hx hy
    go_enter Try.func93, Try.ntmps93
    go_wp2
    go_ret3
    rw [HR.out]
    exact ⟨by first | rfl | (simp; done) | (simp; omega), rfl⟩
  have HR : Hid (readN l = ((fold (l.tail.take m) : Int), 1 + (m : Int), 0)) := by
    unfold readN; rw [hx, hy, if_neg h0, if_neg h8, if_neg hl, if_neg (fun hh => hy0 hh.2), Int.toNat_natCast]; exact rfl
  have HC := Lib.hid hcell
  have hyb : (y == 0) = false := beq_eq_false_iff_ne.2 hy0
  clear hcell hx hy hy0
  go_enter Try.func93, Try.ntmps93
  go_wp2
  go_loop [6, 8, 36] (fun a x i => ∃ j : Nat, j ≤ m ∧ i = .int .i64 j ∧ a = .int .u64 (fold (l.tail.take j))) (fun _ _ i => m - (intOf i).toNat)
  case atStart => exact ⟨0, by omega, rfl, rfl⟩
  case round =>
    obtain ⟨j, hj, rfl, rfl⟩ := hrel
    by_cases hlt : j < m
    · have hcj := HC.out (1 + j) (by omega)
      have hbj := h.byt.get (j := 1 + j) (by omega)
      obtain ⟨z, hz⟩ : ∃ z, l[1 + j] = z := ⟨_, rfl⟩
      rw [hz] at hcj hbj
      have HZ := Lib.hid hz
      clear hz
      rw [← Nat.add_assoc] at hcj
      have HS := Lib.hid (fold_step l j z (by omega) HZ.out)
      have HF := Lib.hid (fold_small l.tail h.byt.tail j (by omega))
      clear HZ
      go_wp2
      go_round
      case rel =>
        refine ⟨j + 1, by omega, by go_num, ?_⟩
        rw [HS.out, ← mul_byte _ z HF.out hbj]
      case measure => simp [intOf]; omega
    · obtain rfl : j = m := by omega
      go_wp2
      go_ret3
      rw [HR.out, Int.add_comm 1]
      exact ⟨rfl, rfl⟩
end Go.Proofs.Ytadkkhbbempaaaa
