/- The walk of the law OctetBursts. -/
import Derived.Test.YtkapdfaiceiffaaDoorLawSums
namespace Go.Proofs.YtkapdfaiceiffaaDoor
open Go.RowKit

theorem own_at {w : World} {base : Nat} {v : Value} {l : List Int} (h0 : 0 < l.length) (h : w.ownsRow base 5 1 v (0 + l.length) ([] ++ u8s l)) :
    ∃ g cap, v = .slice (some ⟨g, 0, none⟩) l.length cap ∧ base ≤ g ∧ g < w.heap.size ∧ l.length ≤ cap ∧ Own8 w base (.slice (some ⟨g, 0, none⟩) l.length cap) l := by
  have hown : Own8 w base v l := by simpa [Own8] using h
  obtain ⟨g, cap, rfl, hgb, hgl⟩ := World.ownsRow.form hown h0
  obtain ⟨_, _, e, q1, q2, _⟩ := own_open hown
  injection e with _ _ e
  subst e
  exact ⟨g, cap, rfl, hgb, hgl, q1, hown⟩

/-- The bits of b from the highest on, j of them, are turned in l from bit p on: m. -/
structure BurstIs (l m : List Int) (p : Nat) (b : BitVec 32) (j : Nat) : Prop where
  len : m.length = l.length
  byt : Byt m
  sum : crc (BitVec.allOnes 32) m = crc (BitVec.allOnes 32) l ^^^ stpN (8 * l.length - p) (tops b j)
theorem BurstIs.start {l : List Int} {p : Nat} {b : BitVec 32} (h : Byt l) : BurstIs l l p b 0 := ⟨rfl, h, by simp [tops, stpN_zero]⟩
theorem BurstIs.keep {l m : List Int} {p : Nat} {b : BitVec 32} {j : Nat} (h : BurstIs l m p b j) (hb : b.getLsbD (31 - j) = false) : BurstIs l m p b (j + 1) :=
  ⟨h.len, h.byt, by rw [tops_keep b j hb]; exact h.sum⟩
theorem BurstIs.turn {l m : List Int} {p : Nat} {b : BitVec 32} {j : Nat} (h : BurstIs l m p b j) (hj : j < 32) (hp : p + j < 8 * l.length) (hb : b.getLsbD (31 - j) = true) : BurstIs l (flip m (p + j)) p b (j + 1) := by
  refine ⟨by rw [flip_length]; exact h.len, flip_byt m h.byt _, ?_⟩
  rw [crc_flip m h.byt _ _ (by rw [h.len]; exact hp), h.sum, h.len]
  have e : tops b (j + 1) = tops b j ^^^ BitVec.ofNat 32 (2 ^ (31 - j)) := by simp [tops, hb]
  rw [e, stpN_xor, ← stp_pow _ j hj (by omega), BitVec.xor_assoc]
  congr 3
  omega

theorem burst_sums {l m : List Int} {p : Nat} {b : BitVec 32} {j : Nat} (h : BurstIs l m p b j) : decide ((sumB l).toNat = (sumB m).toNat) = decide (tops b j = 0#32) := by
  rw [decide_eq_decide]
  constructor
  · intro e
    have e2 : sumB l = sumB m := BitVec.eq_of_toNat_eq e
    unfold sumB at e2
    have e3 := congrArg (fun x => ~~~ x) e2
    simp only [BitVec.not_not] at e3
    rw [h.sum] at e3
    have e4 := congrArg (fun x => crc (BitVec.allOnes 32) l ^^^ x) e3
    simp only [← BitVec.xor_assoc, BitVec.xor_self, BitVec.zero_xor] at e4
    exact stpN_ne _ _ e4.symm
  · intro e
    unfold sumB
    rw [h.sum, e, stpN_zero, BitVec.xor_zero]
theorem nat_u32 {n : Int} (h : (Lit.int .u32 n).wf = true) : ∃ m : Nat, n = m ∧ m < 4294967296 := by
  have := bounds_u32 h
  exact ⟨n.toNat, by omega, by omega⟩
theorem bit_is (n j : Nat) (hn : n < 4294967296) (b : BitVec 32) (hb : b = BitVec.ofNat 32 n) (hj : j < 32) : (bits .and .u32 ((n : Int) / 2 ^ (31 - j)) 1 == 1) = b.getLsbD (31 - j) := by
  subst hb
  have e : (n : Int) / 2 ^ (31 - j) = ((n / 2 ^ (31 - j) : Nat) : Int) := by
    rw [Int.natCast_ediv, Int.natCast_pow]; rfl
  have hlt : n / 2 ^ (31 - j) < 4294967296 := Nat.lt_of_le_of_lt (Nat.div_le_self _ _) hn
  have e1 : (1 : Int) = ((1 : Nat) : Int) := rfl
  rw [e]
  conv => lhs; arg 1; rw [e1]
  rw [u32_and_nat _ 1 hlt (by omega), BitVec.getLsbD_ofNat, Nat.and_one_is_mod, Nat.testBit_eq_decide_div_mod_eq]
  rw [Bool.eq_iff_iff]
  simp only [beq_iff_eq, Bool.and_eq_true, decide_eq_true_eq]
  omega
theorem x_bit (z : Nat) (s : Nat) (hz : z < 256) : bits .xor .u8 (z : Int) (128 / 2 ^ s) = ((z ^^^ bit8 s : Nat) : Int) := by
  have e : (128 : Int) / 2 ^ s = ((bit8 s : Nat) : Int) := by
    unfold bit8
    rw [Int.natCast_ediv, Int.natCast_pow]; rfl
  have : bit8 s ≤ 128 := Nat.div_le_self _ _
  rw [e, u8_xor_nat _ _ hz (by omega)]

theorem place (a0 : Int) (L : Nat) (h0 : 0 < L) (h1 : L ≤ 100000) : ∃ p : Nat, (wrap64 (a0.tmod (8 * (L : Int)) + 8 * (L : Int))).tmod (8 * (L : Int)) = (p : Int) ∧ p < 8 * L := by
  have q1 := Int.tmod_lt_of_pos a0 (show (0 : Int) < 8 * (L : Int) by omega)
  have q2 := Int.lt_tmod_of_pos a0 (show (0 : Int) < 8 * (L : Int) by omega)
  have e : wrap64 (a0.tmod (8 * (L : Int)) + 8 * (L : Int)) = a0.tmod (8 * (L : Int)) + 8 * (L : Int) := by unfold wrap64; omega
  rw [e]
  have q3 := Int.tmod_nonneg (8 * (L : Int)) (show 0 ≤ a0.tmod (8 * (L : Int)) + 8 * (L : Int) by omega)
  have q4 := Int.tmod_lt_of_pos (a0.tmod (8 * (L : Int)) + 8 * (L : Int)) (show (0 : Int) < 8 * (L : Int) by omega)
  exact ⟨((a0.tmod (8 * (L : Int)) + 8 * (L : Int)).tmod (8 * (L : Int))).toNat, by omega, by omega⟩

set_option maxHeartbeats 1000000 in
theorem octetBursts_row (w : World) {v : Value} (z : OpenB w v) (a0 : Int) (_ : (Lit.int .i64 a0).wf = true) (b0 : Int) (hb : (Lit.int .u32 b0).wf = true) (ht : Tab w) :
    Calls Tryd.prog 4 #[v, .int .i64 a0, .int .u32 b0] w fun e w' => e = .returned (.bool true) ∧ Below w.heap.size w w' := by
  obtain ⟨A, c, l, rfl, h, hs⟩ := z
  have kc := fun (w : World) (C : Array Value) (n c : Nat) => Lib.run_convert_bytes_const (P := Tryd.prog) w 22 5 C n c Tryd.underlying22 Tryd.underlying5
  have HT := Lib.hid ht
  have H := Lib.hid h
  have HR := Lib.hid h.reads
  have hl := h.byt
  clear h ht
  by_cases hlong : l.length = 0 ∨ 100000 < l.length
  · go_enter Tryd.func4, Tryd.ntmps4
    rcases hlong with hlong | hlong
    · rw [hlong]
      go_wp2_with fail
      refine (digits_any _ HT.out).mono ?_
      rintro e w1 ⟨rfl, rfl⟩
      go_wp2
      go_ret
      exact ⟨rfl, (Below.refl _ _).alloc (Nat.le_refl _) _⟩
    · have e0 : ((l.length : Int) == 0) = false := by rw [beq_eq_false_iff_ne]; omega
      go_wp2_with fail
      refine (digits_any _ HT.out).mono ?_
      rintro e w1 ⟨rfl, rfl⟩
      go_wp2
      go_ret
      exact ⟨rfl, (Below.refl _ _).alloc (Nat.le_refl _) _⟩
  have hl0 : 0 < l.length := by omega
  have e0 : ((l.length : Int) == 0) = false := by rw [beq_eq_false_iff_ne]; omega
  have hl1 : l.length ≤ 100000 := by omega
  clear hlong
  have e1 : ((8 * (l.length : Int)) == 0) = false := by rw [beq_eq_false_iff_ne]; omega
  have HL0 := Lib.hid hl0
  obtain ⟨p, hp, hp8⟩ := place a0 l.length hl0 hl1
  have HP := Lib.hid hp
  clear hp
  obtain ⟨bn, rfl, hbn⟩ := nat_u32 hb
  clear hb
  obtain ⟨b, hbb⟩ : ∃ b, b = BitVec.ofNat 32 bn := ⟨_, rfl⟩
  have HBB := Lib.hid hbb
  clear hbb
  go_enter Tryd.func4, Tryd.ntmps4
  go_wp2_with (at_builtin; refine app_own (w0 := w) w.heap.size rfl _ _ 22 5 (.int .u8 0) 1 rfl Tryd.underlying22 1 info_u8 rfl (by omega) (by omega) (.slice none 0 0) [] 0 rfl _ _ _ _ (u8s l) rfl (own_nil _ _ _ _) HR.out (u8s_one_cell l) (Below.refl _ _) (Nat.le_refl _) (by omega) ?_; intro v1 w1 ho1 hB1 _ _; obtain ⟨g, cap, rfl, hgb, hgl, hcap1, hown⟩ := own_at HL0.out ho1; clear ho1 HR)
  rw [HP.out]
  clear HP
  go_loopw [9, 10] (fun t k wr => ∃ (j : Nat) (m : List Int), j ≤ 32 ∧ p + j ≤ 8 * l.length ∧ k = .int .i64 j ∧ BurstIs l m p b j ∧ t = .bool (decide (tops b j ≠ 0#32)) ∧ Own8 wr w.heap.size (.slice (some ⟨g, 0, none⟩) l.length cap) m ∧ Below w.heap.size w wr) (fun _ k _ => (32 - intOf k).toNat)
  case atStart => exact ⟨0, l, by omega, by omega, rfl, .start hl, rfl, hown, hB1⟩
  case round =>
    clear hown hB1
    obtain ⟨j, m, hj, hpj, rfl, hbi, rfl, hown, hB⟩ := hrel
    by_cases hlt : j < 32 ∧ p + j < 8 * l.length
    · obtain ⟨hj32, hpj2⟩ := hlt
      have hbit := bit_is bn j hbn b HBB.out hj32
      cases hbl : b.getLsbD (31 - j)
      · rw [hbl] at hbit
        go_wp2
        go_roundw
        case rel => exact ⟨j + 1, m, by omega, by omega, by go_num, hbi.keep hbl, by rw [tops_keep b j hbl]; simp, hown, hB⟩
        case measure => simp [intOf]; omega
      · rw [hbl] at hbit
        have hlen := hbi.len
        have hq : (p + j) / 8 < m.length := by omega
        obtain ⟨z, hz⟩ : ∃ z : Nat, m[(p + j) / 8] = (z : Int) ∧ z < 256 := by
          have := hbi.byt.get hq
          exact ⟨(m[(p + j) / 8]).toNat, by omega, by omega⟩
        obtain ⟨hz, hz256⟩ := hz
        have hown2 : wr.ownsRow w.heap.size 5 1 (.slice (some ⟨g, 0, none⟩) l.length cap) l.length (u8s m) := by
          have := hown
          unfold Own8 at this
          rw [hlen] at this
          exact this
        have hc := hown2.cellAt ((p + j) / 8) (by omega)
        rw [u8s_get hq, hz] at hc
        have hf := hown2.frozenAt ((p + j) / 8)
        have HW := Lib.hid (hown2.stored ((p + j) / 8))
        have hx := x_bit z ((p + j) % 8) hz256
        have HZ := Lib.hid hz
        clear hz hown2
        go_wp2
        go_region
        have hbi2 := hbi.turn hj32 hpj2 hbl
        have hm2 : flip m (p + j) = m.set ((p + j) / 8) ((z ^^^ bit8 ((p + j) % 8) : Nat) : Int) := by
          unfold flip
          rw [List.getD_eq_getElem?_getD, List.getElem?_eq_getElem hq, Option.getD_some, HZ.out, Int.toNat_natCast]
        have hown3 : Own8 (wr.setCell ⟨g, (p + j) / 8, none⟩ (.int .u8 ((z ^^^ bit8 ((p + j) % 8) : Nat) : Int))).drew w.heap.size (.slice (some ⟨g, 0, none⟩) l.length cap) (flip m (p + j)) := by
          have := (HW.out (.int .u8 ((z ^^^ bit8 ((p + j) % 8) : Nat) : Int))).1
          unfold Own8
          rw [hbi2.len, hm2]
          unfold u8s
          rw [List.map_set]
          exact this.drew
        have hB3 : Below w.heap.size w (wr.setCell ⟨g, (p + j) / 8, none⟩ (.int .u8 ((z ^^^ bit8 ((p + j) % 8) : Nat) : Int))).drew := (hB.setCell (p := ⟨g, (p + j) / 8, none⟩) hgb _).drew
        have htp := tops_ne b j hj32 hbl
        generalize (wr.setCell ⟨g, (p + j) / 8, none⟩ (.int .u8 ((z ^^^ bit8 ((p + j) % 8) : Nat) : Int))).drew = w3 at hown3 hB3 ⊢
        clear hown hB HW HZ hc hf hx
        go_wp2
        go_roundw
        case rel => exact ⟨j + 1, _, by omega, by omega, by go_num, hbi2, by simp [htp], hown3, hB3⟩
        case measure => simp [intOf]; omega
    · have hcr := burst_sums hbi
      obtain ⟨s1, hs1⟩ : ∃ s, (sumB l).toNat = s := ⟨_, rfl⟩
      obtain ⟨t1, ht1⟩ : ∃ s, (sumB m).toNat = s := ⟨_, rfl⟩
      have C1 := Lib.hid (fun A c w h ht => hs1 ▸ sum_any A c l w h ht)
      have C2 := Lib.hid (fun A c w h ht => hbi.len ▸ ht1 ▸ sum_any A c m w h ht)
      rw [hs1, ht1] at hcr
      have hlen := hbi.len
      have HI : Hid (In8 wr (some ⟨g, 0, none⟩) cap m) := by
        obtain ⟨_, _, e, hh⟩ := In8.own hown hbi.byt (by omega)
        injection e with e1 e2 e3
        subst e1 e3
        exact hh
      have HTr := Lib.hid (HT.out.keep hB)
      have HIl := Lib.hid (H.out.keep hB)
      have HB := Lib.hid hB
      obtain ⟨q, hq⟩ : ∃ q, decide (tops b j = 0#32) = q := ⟨_, rfl⟩
      have hcr2 : ((s1 : Int) == (t1 : Int)) = q := by
        rw [← hq, ← hcr]
        rw [Bool.eq_iff_iff, beq_iff_eq, decide_eq_true_iff]
        omega
      have hdq : decide (tops b j ≠ 0#32) = !q := by rw [← hq]; simp
      rw [hdq]
      clear hbi hs1 ht1 hown hB hcr hdq hq
      have hcond : ¬ (j < 32) ∨ (j < 32 ∧ ¬ (p + j < 8 * l.length)) := by omega
      rcases hcond with hcond | ⟨hcond, hcond2⟩
      all_goals
        go_wp2_with fail
        refine (C1.out _ _ _ HIl.out HTr.out).mono ?_
        rintro e w2 ⟨rfl, rfl⟩
        go_wp2_with fail
        refine (C2.out _ _ _ HI.out HTr.out).mono ?_
        rintro e w2 ⟨rfl, rfl⟩
        go_wp2_with fail
        refine (digits_any _ HTr.out).mono ?_
        rintro e w2 ⟨rfl, rfl⟩
        go_wp2
        go_ret
        exact ⟨by cases q <;> simp at hcr2 <;> simp [hcr2], below_then HB.out HB.out.size ((Below.refl _ _).alloc (Nat.le_refl _) _)⟩
end Go.Proofs.YtkapdfaiceiffaaDoor
