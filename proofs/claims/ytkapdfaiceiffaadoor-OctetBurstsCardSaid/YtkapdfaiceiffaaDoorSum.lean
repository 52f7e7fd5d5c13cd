/- The walks of the sum, the program's (by the table of 16) and the document's (bit by bit). -/
import Derived.Test.YtkapdfaiceiffaaDoorSumPlain
import Derived.Test.YtkapdfaiceiffaaDoorMem
namespace Go.Proofs.YtkapdfaiceiffaaDoor
open Go.RowKit

/-- The table lies there. -/
def Tab (w : World) : Prop := ∀ i, i < 16 → w.cell? ⟨0, i, none⟩ = some (.int .u32 (tab.getD i 0))

theorem tab_le : ∀ i : Fin 16, 0 ≤ tab.getD i.val 0 ∧ tab.getD i.val 0 < 4294967296 := by decide +kernel
theorem top8_nat (n : Nat) (hn : n ≤ 255) : (top8 (n : Int)).toNat = n * 16777216 := by
  unfold top8
  rw [Int.toNat_natCast, BitVec.toNat_shiftLeft, BitVec.toNat_ofNat, Nat.shiftLeft_eq]
  omega
theorem x_top (r : BitVec 32) (s : Nat) (hs : r.toNat = s) (z : Int) (hz : 0 ≤ z ∧ z ≤ 255) : bits .xor .u32 (s : Int) (z * 16777216) = ((r ^^^ top8 z).toNat : Int) := by
  obtain ⟨n, rfl⟩ := Int.eq_ofNat_of_zero_le hz.1
  have hn : n ≤ 255 := by omega
  have hr := r.isLt
  have e : (n : Int) * 16777216 = ((n * 16777216 : Nat) : Int) := by omega
  rw [e, u32_xor_nat s (n * 16777216) (by omega) (by omega), BitVec.toNat_xor, hs, top8_nat n hn]
theorem four (r : BitVec 32) (s : Nat) (hs : r.toNat = s) : bits .xor .u32 ((s : Int) * 16 % 4294967296) (tab.getD (s / 268435456) 0) = ((stpN 4 r).toNat : Int) := by
  have hr := r.isLt
  have hk : s / 268435456 < 16 := by omega
  have ht := tab_le ⟨_, hk⟩
  simp only at ht
  obtain ⟨t, ht2⟩ := Int.eq_ofNat_of_zero_le ht.1
  rw [stpN_four, BitVec.toNat_xor, ht2, show (s : Int) * 16 % 4294967296 = ((s * 16 % 4294967296 : Nat) : Int) by omega, u32_xor_nat _ _ (by omega) (by omega)]
  congr 2
  · rw [BitVec.toNat_shiftLeft, Nat.shiftLeft_eq, hs]
  · have : (r >>> 28).toNat = s / 268435456 := by rw [BitVec.toNat_ushiftRight, Nat.shiftRight_eq_div_pow, hs]
    rw [this, ht2, Int.toNat_natCast, BitVec.toNat_ofNat]
    omega
theorem x_not (r : BitVec 32) (s : Nat) (hs : r.toNat = s) : bits .xor .u32 IntKind.u32.max (s : Int) = ((~~~ r).toNat : Int) := by
  have hr := r.isLt
  have e : IntKind.u32.max = ((4294967295 : Nat) : Int) := by decide
  rw [e, u32_xor_nat 4294967295 s (by omega) (by omega)]
  have : ~~~ r = BitVec.allOnes 32 ^^^ r := BitVec.allOnes_xor.symm
  rw [this, BitVec.toNat_xor, BitVec.toNat_allOnes, hs]
theorem x_not2 (r : BitVec 32) (s : Nat) (hs : r.toNat = s) : bits .xor .u32 (s : Int) 4294967295 = ((~~~ r).toNat : Int) := by
  have hr := r.isLt
  have e : (4294967295 : Int) = ((4294967295 : Nat) : Int) := rfl
  rw [e, u32_xor_nat s 4294967295 (by omega) (by omega)]
  have : ~~~ r = r ^^^ BitVec.allOnes 32 := BitVec.xor_allOnes.symm
  rw [this, BitVec.toNat_xor, BitVec.toNat_allOnes, hs]

set_option maxHeartbeats 1000000 in
theorem sum_any (A : Option Addr) (c : Nat) (l : List Int) (w : World) (h : In8 w A c l) (ht : Tab w) :
    Calls Tryd.prog 5 #[.slice A l.length c] w fun e w' => e = .returned (.int .u32 ((sumB l).toNat : Int)) ∧ w' = w := by
  have hs := h.small
  have hcap := h.cap
  have HIN := Lib.hid h
  have HT := Lib.hid ht
  clear h ht
  go_enter Tryd.func5, Tryd.ntmps5
  go_wp2
  go_loop [3, 5, 8] (fun r x i => ∃ k : Nat, k ≤ l.length ∧ i = .int .i64 k ∧ r = .int .u32 ((crc (BitVec.allOnes 32) (l.take k)).toNat : Int)) (fun _ _ i => l.length - (intOf i).toNat)
  case atStart => exact ⟨0, by omega, rfl, rfl⟩
  case round =>
    obtain ⟨k, hk, rfl, rfl⟩ := hrel
    by_cases hlt : k < l.length
    · obtain ⟨b, off, rfl, hcell⟩ := HIN.out.all (by omega)
      have hcj := hcell k hlt
      have hbj := HIN.out.byt.get hlt
      obtain ⟨z, hz⟩ : ∃ z, l[k] = z := ⟨_, rfl⟩
      rw [hz] at hcj hbj
      have HZ := Lib.hid hz
      clear hz hcell
      obtain ⟨r, hr⟩ : ∃ r, crc (BitVec.allOnes 32) (l.take k) = r := ⟨_, rfl⟩
      have HR := Lib.hid hr
      rw [hr]
      clear hr
      obtain ⟨rn, hrn⟩ : ∃ rn, r.toNat = rn := ⟨_, rfl⟩
      have HRN := Lib.hid hrn
      rw [hrn]
      clear hrn
      have hr32 : rn < 4294967296 := by rw [← HRN.out]; exact r.isLt
      have e1 := x_top r rn HRN.out z hbj
      obtain ⟨s1, hs1⟩ : ∃ s, (r ^^^ top8 z).toNat = s := ⟨_, rfl⟩
      have hl1 : s1 < 4294967296 := by rw [← hs1]; exact (r ^^^ top8 z).isLt
      have e2 := four _ s1 hs1
      have HX2 := Lib.hid (show stpN 8 (r ^^^ top8 z) = stpN 4 (stpN 4 (r ^^^ top8 z)) from stpN_add 4 4 _)
      obtain ⟨q, hq⟩ : ∃ q, stpN 4 (r ^^^ top8 z) = q := ⟨_, rfl⟩
      rw [hq] at e2
      obtain ⟨s2, hs2⟩ : ∃ s, q.toNat = s := ⟨_, rfl⟩
      have hl2 : s2 < 4294967296 := by rw [← hs2]; exact q.isLt
      have e3 := four _ s2 hs2
      obtain ⟨s3, hs3⟩ : ∃ s, (stpN 4 q).toNat = s := ⟨_, rfl⟩
      have hl3 : s3 < 4294967296 := by rw [← hs3]; exact (stpN 4 q).isLt
      have hc1 := HT.out (s1 / 268435456) (by omega)
      have hc2 := HT.out (s2 / 268435456) (by omega)
      have ht1 := tab_le ⟨s1 / 268435456, by omega⟩
      have ht2 := tab_le ⟨s2 / 268435456, by omega⟩
      simp only at ht1 ht2
      rw [hs1] at e1
      rw [hs2] at e2
      rw [hs3] at e3
      obtain ⟨t1, h1⟩ : ∃ t, tab.getD (s1 / 268435456) 0 = t := ⟨_, rfl⟩
      obtain ⟨t2, h2⟩ : ∃ t, tab.getD (s2 / 268435456) 0 = t := ⟨_, rfl⟩
      rw [h1] at e2 hc1 ht1
      rw [h2] at e3 hc2 ht2
      have HQ := Lib.hid (And.intro hq hs3)
      clear h1 h2 hs1 hs2 hs3 hq
      go_wp2
      go_round
      case rel =>
        refine ⟨k + 1, by omega, by go_num, ?_⟩
        rw [List.take_succ_eq_append_getElem hlt, crc_snoc, HR.out, HZ.out, HX2.out, HQ.out.1, HQ.out.2]
      case measure => simp [intOf]; omega
    · obtain rfl : k = l.length := by omega
      have e : l.take l.length = l := List.take_of_length_le (Nat.le_refl _)
      rw [e]
      obtain ⟨r, hr⟩ : ∃ r, crc (BitVec.allOnes 32) l = r := ⟨_, rfl⟩
      obtain ⟨m, hm⟩ : ∃ m, (~~~ r).toNat = m := ⟨_, rfl⟩
      have HR : Hid ((sumB l).toNat = m) := by unfold sumB; rw [hr]; exact hm
      rw [hr]
      clear hr e
      obtain ⟨s, hs⟩ : ∃ s, r.toNat = s := ⟨_, rfl⟩
      have e1 := x_not r s hs
      rw [hs]
      rw [hm] at e1
      clear hs hm
      go_wp2
      go_ret
      rw [HR.out]
      exact ⟨rfl, rfl⟩

theorem x_poly (r : BitVec 32) (s : Nat) (hs : r.toNat = s) : bits .xor .u32 (s : Int) 79764919 = ((r ^^^ 79764919#32).toNat : Int) := by
  have hr := r.isLt
  have e : (79764919 : Int) = ((79764919 : Nat) : Int) := rfl
  rw [e, u32_xor_nat s 79764919 (by omega) (by omega), BitVec.toNat_xor, hs]
  rfl
theorem stp_hi (r : BitVec 32) (s : Nat) (hs : r.toNat = s) (h : s / 2147483648 = 1) : stp r = (r <<< 1) ^^^ 79764919#32 := by
  unfold stp
  have : r.msb = true := by rw [BitVec.msb_eq_true_iff_two_mul_ge]; omega
  rw [this]; rfl
theorem stp_lo (r : BitVec 32) (s : Nat) (hs : r.toNat = s) (h : ¬ s / 2147483648 = 1) : stp r = r <<< 1 := by
  unfold stp
  have hr := r.isLt
  have : r.msb = false := by rw [BitVec.msb_eq_false_iff_two_mul_lt]; omega
  rw [this]; simp
theorem shl_one (r : BitVec 32) (s : Nat) (hs : r.toNat = s) : ((r <<< 1).toNat : Int) = (s : Int) * 2 % 4294967296 := by
  rw [BitVec.toNat_shiftLeft, Nat.shiftLeft_eq, hs]
  omega
theorem stpN_snoc (n : Nat) (r : BitVec 32) : stpN (n + 1) r = stp (stpN n r) := by rw [stpN_add]; rfl

set_option maxHeartbeats 1000000 in
theorem refSum_any (A : Option Addr) (c : Nat) (l : List Int) (w : World) (h : In8 w A c l) :
    Calls Tryd.prog 6 #[.slice A l.length c] w fun e w' => e = .returned (.int .u32 ((sumB l).toNat : Int)) ∧ w' = w := by
  have hs := h.small
  have hcap := h.cap
  have HIN := Lib.hid h
  clear h
  go_enter Tryd.func6, Tryd.ntmps6
  go_wp2
  go_loop [3, 5, 6, 9, 18] (fun r x o i j => ∃ k : Nat, k ≤ l.length ∧ i = .int .i64 k ∧ r = .int .u32 ((crc (BitVec.allOnes 32) (l.take k)).toNat : Int)) (fun _ _ _ i _ => l.length - (intOf i).toNat)
  case atStart => exact ⟨0, by omega, rfl, rfl⟩
  case round =>
    obtain ⟨k, hk, rfl, rfl⟩ := hrel
    by_cases hlt : k < l.length
    · obtain ⟨b, off, rfl, hcell⟩ := HIN.out.all (by omega)
      have hcj := hcell k hlt
      have hbj := HIN.out.byt.get hlt
      obtain ⟨z, hz⟩ : ∃ z, l[k] = z := ⟨_, rfl⟩
      rw [hz] at hcj hbj
      have HZ := Lib.hid hz
      clear hz hcell
      obtain ⟨r, hr⟩ : ∃ r, crc (BitVec.allOnes 32) (l.take k) = r := ⟨_, rfl⟩
      have HR := Lib.hid hr
      rw [hr]
      clear hr
      obtain ⟨rn, hrn⟩ : ∃ rn, r.toNat = rn := ⟨_, rfl⟩
      have e1 := x_top r rn hrn z hbj
      rw [hrn]
      clear hrn
      obtain ⟨q, hq⟩ : ∃ q, r ^^^ top8 z = q := ⟨_, rfl⟩
      rw [hq] at e1
      have HQ := Lib.hid hq
      obtain ⟨s1, hs1⟩ : ∃ s, q.toNat = s := ⟨_, rfl⟩
      rw [hs1] at e1
      have HS1 := Lib.hid hs1
      clear hq hs1
      go_wp2_with fail
      go_loop [3, 6, 18] (fun r o i => ∃ j : Nat, j ≤ 8 ∧ i = .int .i64 j ∧ r = .int .u32 ((stpN j q).toNat : Int)) (fun _ _ i => 8 - (intOf i).toNat)
      case atStart => exact ⟨0, by omega, rfl, by rw [← HS1.out]; rfl⟩
      case round =>
        obtain ⟨j, hj, rfl, rfl⟩ := hrel
        by_cases hlt8 : j < 8
        · have HN := Lib.hid (stpN_snoc j q)
          obtain ⟨p, hp⟩ : ∃ p, stpN j q = p := ⟨_, rfl⟩
          rw [hp] at HN ⊢
          clear hp
          obtain ⟨s, hs⟩ : ∃ s, p.toNat = s := ⟨_, rfl⟩
          have hs32 : s < 4294967296 := by rw [← hs]; exact p.isLt
          rw [hs]
          by_cases hb : s / 2147483648 = 1
          · have hbb : ((s : Int) / 2147483648 == 1) = true := by rw [beq_iff_eq]; omega
            have e3 := x_poly (p <<< 1) _ rfl
            rw [shl_one p s hs] at e3
            have HM := Lib.hid (stp_hi p s hs hb)
            rw [← HM.out, ← HN.out] at e3
            obtain ⟨m, hm⟩ : ∃ m, (stpN (j + 1) q).toNat = m := ⟨_, rfl⟩
            rw [hm] at e3
            have HMM := Lib.hid hm
            clear hm hs hb HN HM
            go_wp2
            go_round
            case rel => exact ⟨j + 1, by omega, by go_num, by rw [HMM.out]⟩
            case measure => simp [intOf]; omega
          · have hbb : ((s : Int) / 2147483648 == 1) = false := by rw [beq_eq_false_iff_ne]; omega
            have HM := Lib.hid (stp_lo p s hs hb)
            have HSH := Lib.hid (shl_one p s hs)
            clear hs hb
            go_wp2
            go_round
            case rel => exact ⟨j + 1, by omega, by go_num, by rw [HN.out, HM.out, HSH.out]⟩
            case measure => simp [intOf]; omega
        · obtain rfl : j = 8 := by omega
          have hcr : Hid (crc (BitVec.allOnes 32) (l.take (k + 1)) = stpN 8 q) := by
            show _ = _
            rw [List.take_succ_eq_append_getElem hlt, crc_snoc, HR.out, HZ.out, HQ.out]
          obtain ⟨m, hm⟩ : ∃ m, (stpN 8 q).toNat = m := ⟨_, rfl⟩
          have HMM := Lib.hid hm
          rw [hm]
          clear hm
          go_wp2
          go_round
          case rel => exact ⟨k + 1, by omega, by go_num, by rw [hcr.out, HMM.out]⟩
          case measure => simp [intOf]; omega
    · obtain rfl : k = l.length := by omega
      have e : l.take l.length = l := List.take_of_length_le (Nat.le_refl _)
      rw [e]
      obtain ⟨r, hr⟩ : ∃ r, crc (BitVec.allOnes 32) l = r := ⟨_, rfl⟩
      obtain ⟨m, hm⟩ : ∃ m, (~~~ r).toNat = m := ⟨_, rfl⟩
      have HR : Hid ((sumB l).toNat = m) := by unfold sumB; rw [hr]; exact hm
      rw [hr]
      clear hr e
      obtain ⟨s, hs⟩ : ∃ s, r.toNat = s := ⟨_, rfl⟩
      have e1 := x_not2 r s hs
      rw [hs]
      rw [hm] at e1
      clear hs hm
      go_wp2
      go_ret
      rw [HR.out]
      exact ⟨rfl, rfl⟩
end Go.Proofs.YtkapdfaiceiffaaDoor
