/- The walk of octet.ReadNum: any bytes are read as a number, or refused (readN). -/
import Derived.Test.YtadkkhbbempaaaaNum
namespace Go.Proofs.Ytadkkhbbempaaaa
set_option maxRecDepth 100000
open Go.RowKit

theorem or_byte (F : Nat) (z : Int) (hF : F < 72057594037927936) (hz : 0 ≤ z ∧ z ≤ 255) : bits .or .u64 (IntKind.u64.wrap ((F : Int) * 256)) z = ((F * 256 + z.toNat : Nat) : Int) := by
  obtain ⟨n, rfl⟩ := Int.eq_ofNat_of_zero_le hz.1
  rw [IntKind.wrap_u64]
  have e : (F : Int) * 256 % 18446744073709551616 = ((F * 256 : Nat) : Int) := by omega
  rw [e, u64_or_nat _ _ (by omega) (by omega), nat_join 8 (F * 256) n (by omega) (by omega)]
  rfl
theorem fold_small (l : List Int) (hl : Byt l) (j : Nat) (hj : j ≤ 7) : fold (l.take j) < 72057594037927936 := by
  have h1 := fold_lt (l.take j) (hl.take j)
  have h2 : (l.take j).length ≤ 7 := by simp; omega
  have h3 : 256 ^ (l.take j).length ≤ 256 ^ 7 := Nat.pow_le_pow_right (by omega) h2
  omega
theorem fold_step (l : List Int) (j : Nat) (z : Int) (h : 1 + j < l.length) (hz : l[1 + j] = z) : fold (l.tail.take (j + 1)) = fold (l.tail.take j) * 256 + z.toNat := by
  rw [List.take_succ_eq_append_getElem (by simp; omega), fold_snoc]
  simp [← hz, Nat.add_comm]

set_option maxHeartbeats 1000000 in
theorem readNum_any (A : Option Addr) (c : Nat) (l : List Int) (w : World) (h : In8 w A c l) :
    Calls Try.prog 55 #[.slice A l.length c] w fun e w' => e = .returned (.tuple #[.int .u64 (readN l).1, .int .i64 (readN l).2.1, .int .i64 (readN l).2.2]) ∧ w' = w := by
  have hs := h.small
  have hcap := h.cap
  by_cases h0 : l.length = 0
  · have HR : Hid (readN l = (0, 0, 10)) := by show _ = _; simp [readN, h0]
    go_enter Try.func55, Try.ntmps55
    go_wp2
    go_ret3
    rw [HR.out]
    exact ⟨rfl, rfl⟩
  obtain ⟨b, off, rfl, hcell⟩ := h.all (by omega)
  have hc0 := hcell 0 (by omega)
  rw [Nat.add_zero] at hc0
  have hb0 := h.byt.get (j := 0) (by omega)
  obtain ⟨x, hx⟩ : ∃ x, l.getD 0 0 = x := ⟨_, rfl⟩
  have hd0 : l[0] = x := by rw [← hx]; simp [List.getD_eq_getElem?_getD, show 0 < l.length by omega]
  rw [hd0] at hc0 hb0
  clear hd0
  by_cases h8 : 8 < x
  · have HR : Hid (readN l = (0, 0, 11)) := by unfold readN; rw [hx, if_neg h0, if_pos h8]; exact rfl
    clear hcell hx
    go_enter Try.func55, Try.ntmps55
    go_wp2
    go_ret3
    rw [HR.out]
    exact ⟨rfl, rfl⟩
  by_cases hl : (l.length : Int) < 1 + x
  · have HR : Hid (readN l = (0, 0, 10)) := by unfold readN; rw [hx, if_neg h0, if_neg h8, if_pos hl]; exact rfl
    clear hcell hx
    go_enter Try.func55, Try.ntmps55
    go_wp2
    go_ret3
    rw [HR.out]
    exact ⟨rfl, rfl⟩
  obtain ⟨m, rfl⟩ := Int.eq_ofNat_of_zero_le hb0.1
  by_cases hm : m = 0
  · subst hm
    have HR : Hid (readN l = (0, 1, 0)) := by unfold readN; rw [hx, if_neg h0, if_neg h8, if_neg hl, if_neg (by omega)]; exact rfl
    clear hcell hx
    go_enter Try.func55, Try.ntmps55
    go_wp2
    all_goals
      refine wp_loop_once ?_
      go_wp2
      go_ret3
      rw [HR.out]
      exact ⟨rfl, rfl⟩
  have hc1 := hcell 1 (by omega)
  have hb1 := h.byt.get (j := 1) (by omega)
  obtain ⟨y, hy⟩ : ∃ y, l.getD 1 0 = y := ⟨_, rfl⟩
  have hd1 : l[1] = y := by rw [← hy]; simp [List.getD_eq_getElem?_getD, show 1 < l.length by omega]
  rw [hd1] at hc1 hb1
  clear hd1
  by_cases hy0 : y = 0
  · subst hy0
    have HR : Hid (readN l = (0, 0, 11)) := by unfold readN; rw [hx, hy, if_neg h0, if_neg h8, if_neg hl, if_pos ⟨by omega, rfl⟩]; exact rfl
    clear hcell hx hy
    go_enter Try.func55, Try.ntmps55
    go_wp2
    go_ret3
    rw [HR.out]
    exact ⟨rfl, rfl⟩
  have HR : Hid (readN l = ((fold (l.tail.take m) : Int), 1 + (m : Int), 0)) := by
    unfold readN; rw [hx, hy, if_neg h0, if_neg h8, if_neg hl, if_neg (fun hh => hy0 hh.2), Int.toNat_natCast]; exact rfl
  have HC := Lib.hid hcell
  have hyb : (y == 0) = false := beq_eq_false_iff_ne.2 hy0
  clear hcell hx hy hy0
  go_enter Try.func55, Try.ntmps55
  go_wp2
  go_loop [6, 8, 41] (fun a x i => ∃ j : Nat, j ≤ m ∧ i = .int .i64 j ∧ a = .int .u64 (fold (l.tail.take j))) (fun _ _ i => m - (intOf i).toNat)
  case atStart => exact ⟨0, by omega, rfl, rfl⟩
  case round =>
    obtain ⟨j, hj, rfl, rfl⟩ := hrel
    by_cases hlt : j < m
    · have hcj := HC.out (1 + j) (by omega)
      have hbj := h.byt.get (j := 1 + j) (by omega)
      obtain ⟨z, hz⟩ : ∃ z, l[1 + j] = z := ⟨_, rfl⟩
      rw [hz] at hcj hbj
      have HZ := Lib.hid hz
      clear hz
      rw [← Nat.add_assoc] at hcj
      have HS := Lib.hid (fold_step l j z (by omega) HZ.out)
      have HF := Lib.hid (fold_small l.tail h.byt.tail j (by omega))
      clear HZ
      go_wp2
      go_round
      case rel =>
        refine ⟨j + 1, by omega, by go_num, ?_⟩
        rw [HS.out, ← or_byte _ z HF.out hbj]
      case measure => simp [intOf]; omega
    · obtain rfl : j = m := by omega
      go_wp2
      go_ret3
      rw [HR.out]
      exact ⟨rfl, rfl⟩
end Go.Proofs.Ytadkkhbbempaaaa
