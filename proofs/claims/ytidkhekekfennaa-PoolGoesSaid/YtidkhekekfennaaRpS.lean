/- The pools' law: Same, own, same. -/
import Derived.Test.YtidkhekekfennaaRpP
import Derived.BigQuiet
namespace Go.Proofs.Ytidkhekekfennaa
set_option maxRecDepth 100000
set_option linter.unusedVariables false
open Go.RowKit

/-! ### Same -/
set_option maxHeartbeats 4000000 in
theorem rsame_eq (w : World) (A1 A2 : Option Addr) (c1 c2 : Nat) (cs : List Cn) (h1 : InS cnC 2 w A1 c1 cs) (h2 : InS cnC 2 w A2 c2 cs) (h8 : cs.length ≤ 8) :
    Calls Try.prog 39 #[.slice A1 cs.length c1, .slice A2 cs.length c2] w fun e w' => e = .returned (.bool true) ∧ Below w.heap.size w w' := by
  obtain ⟨n, hn⟩ : ∃ n, cs.length = n := ⟨_, rfl⟩
  obtain ⟨G, hG⟩ : ∃ G, w.heap.size = G := ⟨_, rfl⟩
  rw [hn, hG]
  have hn8 : n ≤ 8 := hn ▸ h8
  have HN := Lib.hid hn
  have HG := Lib.hid hG
  have H1 := Lib.hid h1
  have H2 := Lib.hid h2
  clear h1 h2 hn hG h8
  go_enter Try.func39, Try.ntmps39
  go_wp2
  go_loopw [13] (fun s13 wr => ∃ k : Nat, s13 = .int .i64 k ∧ k ≤ n ∧ Below G w wr) (fun s13 _ => n - (intOf s13).toNat)
  case atStart => exact ⟨0, rfl, Nat.zero_le _, Below.refl _ _⟩
  case round =>
    obtain ⟨k, rfl, hk, hB⟩ := hrel
    by_cases hkn : k < n
    · have hkl : k < cs.length := by rw [HN.out]; exact hkn
      obtain ⟨b1, o1, rfl, hb1, hat1⟩ := (H1.out.keep (HG.out.symm ▸ hB)).cn (by omega)
      obtain ⟨b2, o2, rfl, hb2, hat2⟩ := (H2.out.keep (HG.out.symm ▸ hB)).cn (by omega)
      have hc1 := hat1 k hkl
      have hc2 := hat2 k hkl
      obtain ⟨y, hy⟩ : ∃ y, cs[k] = y := ⟨_, rfl⟩
      rw [hy] at hc1 hc2
      obtain ⟨p, hp⟩ : ∃ p, y.t = p := ⟨_, rfl⟩
      obtain ⟨q, hq⟩ : ∃ q, y.s = q := ⟨_, rfl⟩
      obtain ⟨a0, a1⟩ := hc1
      obtain ⟨d0, d1⟩ := hc2
      rw [hp] at a0 d0
      rw [hq] at a1 d1
      have HB := Lib.hid hB
      clear hy hp hq hB hat1 hat2 hkl
      go_wp2
      go_quiet (fail)
      go_wp2
      go_roundw
      case rel => exact ⟨k + 1, by go_num, by omega, by first | exact HB.out.drew | exact HB.out | exact HB.out.drewN _ | (refine Below.trans HB.out ?_; exact ⟨rfl, rfl, rfl, Nat.le_refl _, fun _ _ => rfl⟩)⟩
      case measure => simp [intOf]; omega
    · obtain rfl : k = n := by omega
      have HB := Lib.hid hB
      clear hB hkn
      go_wp2
      go_ret
      exact ⟨rfl, HB.out⟩
/-! ### own -/
set_option maxHeartbeats 4000000 in
theorem own18_any (w : World) (A : Option Addr) (c : Nat) (cs : List Cn) (h1 : InS cnC 2 w A c cs) (h8 : cs.length ≤ 8) :
    Calls Try.prog 40 #[.slice A cs.length c] w fun e w' => ∃ v', e = .returned v' ∧ w'.ownsRow w.heap.size 56 2 v' cs.length (cs.flatMap cnC) ∧ Below w.heap.size w w' := by
  obtain ⟨n, hn⟩ : ∃ n, cs.length = n := ⟨_, rfl⟩
  obtain ⟨G, hG⟩ : ∃ G, w.heap.size = G := ⟨_, rfl⟩
  rw [hn, hG]
  have hn8 : n ≤ 8 := hn ▸ h8
  have HN := Lib.hid hn
  have HG := Lib.hid hG
  have H1 := Lib.hid h1
  clear h1 hn hG h8
  go_enter Try.func40, Try.ntmps40
  go_wp2
  go_loopw [3, 8] (fun o s8 wr => ∃ k : Nat, s8 = .int .i64 k ∧ k ≤ n ∧ wr.ownsRow G 56 2 o (cs.take k).length ((cs.take k).flatMap cnC) ∧ Below G w wr) (fun _ s8 _ => n - (intOf s8).toNat)
  case atStart => exact ⟨0, rfl, Nat.zero_le _, own_nil _ _ _ _, Below.refl _ _⟩
  case round =>
    obtain ⟨k, rfl, hk, ho, hB⟩ := hrel
    by_cases hkn : k < n
    · have hkl : k < cs.length := by rw [HN.out]; exact hkn
      obtain ⟨b1, o1, rfl, hb1, hat1⟩ := (H1.out.keep (HG.out.symm ▸ hB)).cn (by omega)
      have hc1 := hat1 k hkl
      have hsu : cs.take (k + 1) = cs.take k ++ [cs[k]] := List.take_succ_eq_append_getElem hkl
      have hlk : (cs.take k).length = k := by rw [List.length_take]; omega
      obtain ⟨y, hy⟩ : ∃ y, cs[k] = y := ⟨_, rfl⟩
      rw [hy] at hc1 hsu
      obtain ⟨p, q⟩ := y
      obtain ⟨a0, a1⟩ := hc1
      dsimp only at a0 a1
      have hgz : G ≤ wr.heap.size := by have := hB.size; have := HG.out; omega
      have hB5 := hB.alloc hgz (.cells #[.int .i64 p, .int .i64 q] 38)
      have hx5 := Blk.new wr 38 #[.int .i64 p, .int .i64 q]
      have hO5 := World.ownsRow.alloc ho (.cells #[.int .i64 p, .int .i64 q] 38)
      have hZ5 : G ≤ (wr.alloc (.cells #[.int .i64 p, .int .i64 q] 38)).heap.size := by simp; omega
      have HSU := Lib.hid hsu
      have HLK := Lib.hid hlk
      clear hy hB hat1 hkl hsu ho hlk
      go_upto_region 5 with (fail)
      change Code.wp _ _ _ _ (wr.alloc (.cells #[.int .i64 p, .int .i64 q] 38))
      generalize wr.heap.size = gx at hx5 hgz ⊢
      generalize (wr.alloc (.cells #[.int .i64 p, .int .i64 q] 38)) = W5 at hx5 hB5 hO5 hZ5 ⊢
      clear a0 a1 hgz hb1
      have d0 : W5.cell? ⟨gx, 0, none⟩ = some (.int .i64 p) := by rw [hx5.cell]; rfl
      have d1 : W5.cell? ⟨gx, 1, none⟩ = some (.int .i64 q) := by rw [hx5.cell]; rfl
      have HB5 := Lib.hid hB5
      have HO5 := Lib.hid hO5
      have HZ5 := Lib.hid hZ5
      obtain ⟨Ao, co, rfl⟩ := own_slice hO5
      clear hB5 hx5 hO5 hZ5
      go_wp2_with (at_builtin; refine wpList_oneH (f := cnC) (W := W5) Try.underlying40 info_RConn rfl (by omega) cnC_len cnC_one G rfl _ _ rfl _ (cs.take k) ⟨p, q⟩ rfl rfl rfl HO5.out HZ5.out (by rw [HLK.out]; omega) (by omega) ?_; intro v1 w1 ho1 hg1 hb1; have HO1 := Lib.hid ho1; have HB1 := Lib.hid (HB5.out.grown hg1 HZ5.out (fun b e => own_base HO5.out b e)); clear ho1 hg1 hb1)
      go_roundw
      case rel => exact ⟨k + 1, by go_num, by omega, by rw [HSU.out]; exact HO1.out, HB1.out⟩
      case measure => simp [intOf]; omega
    · obtain rfl : k = n := by omega
      have ho2 := ho
      rw [← HN.out, List.take_length, HN.out] at ho2
      obtain ⟨Ao, co, e⟩ := own_slice ho
      have HO := Lib.hid ho2
      have HB := Lib.hid hB
      clear ho ho2 hB hkn
      subst e
      go_wp2
      go_ret
      exact ⟨_, rfl, HO.out, HB.out⟩
end Go.Proofs.Ytidkhekekfennaa
