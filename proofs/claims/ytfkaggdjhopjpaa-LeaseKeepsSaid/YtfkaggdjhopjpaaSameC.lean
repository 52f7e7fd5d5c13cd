/- The law's sameCmds: of two lists that are the same. -/
import Derived.Test.YtfkaggdjhopjpaaKdue
import Derived.Test.YtfkaggdjhopjpaaCmdS
import Derived.Test.YtfkaggdjhopjpaaCmdP
import Derived.Test.YtfkaggdjhopjpaaClass
import Derived.BigQuiet
namespace Go.Proofs.Ytfkaggdjhopjpaa
set_option maxRecDepth 100000
open Go.RowKit

structure CdAt (w : World) (b o : Nat) (x : Rw) : Prop where
  c0 : w.cell? ⟨b, o, none⟩ = some (.int .i64 6)
  c1 : w.cell? ⟨b, o + 1, none⟩ = some (.int .i64 0)
  c2 : w.cell? ⟨b, o + 2, none⟩ = some (.int .i64 x.tok)
  c3 : w.cell? ⟨b, o + 3, none⟩ = some (.slice none 0 0)
  c4 : w.cell? ⟨b, o + 4, none⟩ = some (.int .u64 0)
  c5 : w.cell? ⟨b, o + 5, none⟩ = some (.int .u64 0)
  c6 : w.cell? ⟨b, o + 6, none⟩ = some (.int .u64 x.ser)
  c7 : w.cell? ⟨b, o + 7, none⟩ = some (.int .u64 x.stp)
theorem InS.cd {w : World} {A : Option Addr} {c : Nat} {l : List Rw} (h : InS cdC 8 w A c l) (h0 : 0 < l.length) : ∃ b off, A = some ⟨b, off, none⟩ ∧ b < w.heap.size ∧ ∀ (j : Nat) (hj : j < l.length), CdAt w b (off + j * 8) l[j] := by
  obtain ⟨b, off, e, hb, hc⟩ := h.all cdC_len h0
  refine ⟨b, off, e, hb, fun j hj => ⟨?_, ?_, ?_, ?_, ?_, ?_, ?_, ?_⟩⟩
  · exact hc j hj 0 _ (by omega) rfl
  · rw [Nat.add_assoc]; exact hc j hj 1 _ (by omega) rfl
  · rw [Nat.add_assoc]; exact hc j hj 2 _ (by omega) rfl
  · rw [Nat.add_assoc]; exact hc j hj 3 _ (by omega) rfl
  · rw [Nat.add_assoc]; exact hc j hj 4 _ (by omega) rfl
  · rw [Nat.add_assoc]; exact hc j hj 5 _ (by omega) rfl
  · rw [Nat.add_assoc]; exact hc j hj 6 _ (by omega) rfl
  · rw [Nat.add_assoc]; exact hc j hj 7 _ (by omega) rfl
set_option maxHeartbeats 8000000 in
theorem sameCmds_eq (w : World) (A : Option Addr) (c : Nat) (A2 : Option Addr) (c2 : Nat) (os : List Rw) (h1 : InS cdC 8 w A c os) (h2 : InS cdC 8 w A2 c2 os) (hl : os.length ≤ 64) :
    Calls Try.prog 18 #[.slice A os.length c, .slice A2 os.length c2] w fun e w' => e = .returned (.bool true) ∧ Below w.heap.size w w' := by
  obtain ⟨g, hg⟩ : ∃ g, w.heap.size = g := ⟨_, rfl⟩
  rw [hg]
  have hcap := h1.cap
  have hcap2 := h2.cap
  have H1 := Lib.hid h1
  have H2 := Lib.hid h2
  clear h1 h2
  go_enter Try.func18, Try.ntmps18
  go_wp2_with fail
  go_loopw [5, 13] (fun _ iv wr => ∃ (k : Nat), iv = .int .i64 (k : Int) ∧ k ≤ os.length ∧ Below g w wr) (fun _ iv _ => os.length - (intOf iv).toNat)
  case atStart => exact ⟨0, rfl, by omega, Below.refl _ _⟩
  case round =>
    obtain ⟨k, rfl, hk, hB⟩ := hrel
    have HB := Lib.hid hB
    by_cases hkl : k < os.length
    · obtain ⟨b, off, rfl, hbl, hat1⟩ := H1.out.cd (by omega)
      obtain ⟨b2, off2, rfl, hbl2, hat2⟩ := H2.out.cd (by omega)
      rw [hg] at hbl hbl2
      have a1 := hat1 k hkl
      have a2 := hat2 k hkl
      obtain ⟨x, hx⟩ : ∃ x, os[k] = x := ⟨_, rfl⟩
      rw [hx] at a1 a2
      obtain ⟨KW, hKW⟩ : ∃ KW : World → Prop, KW = fun w1 => Below g w w1 := ⟨_, rfl⟩
      have KF : Hid (∀ w1, KW w1 → Below g w w1) := fun w1 k1 => by rw [hKW] at k1; exact k1
      have KC : Hid (∀ w1 w2, KW w1 → Below w1.heap.size w1 w2 → KW w2) := fun w1 w2 k1 k2 => by
        rw [hKW] at k1 ⊢
        exact k1.trans (k2.mono (by have := k1.size; omega))
      have HX : Hid (∀ w1, KW w1 → CdAt w1 b (off + k * 8) x) := fun w1 k1 => by
        have kb := KF.out _ k1
        have hc : ∀ o, w1.cell? ⟨b, o, none⟩ = w.cell? ⟨b, o, none⟩ := fun o => kb.cell (p := ⟨b, o, none⟩) (by show b < g; omega)
        exact ⟨(hc _).trans a1.c0, (hc _).trans a1.c1, (hc _).trans a1.c2, (hc _).trans a1.c3, (hc _).trans a1.c4, (hc _).trans a1.c5, (hc _).trans a1.c6, (hc _).trans a1.c7⟩
      have HY : Hid (∀ w1, KW w1 → CdAt w1 b2 (off2 + k * 8) x) := fun w1 k1 => by
        have kb := KF.out _ k1
        have hc : ∀ o, w1.cell? ⟨b2, o, none⟩ = w.cell? ⟨b2, o, none⟩ := fun o => kb.cell (p := ⟨b2, o, none⟩) (by show b2 < g; omega)
        exact ⟨(hc _).trans a2.c0, (hc _).trans a2.c1, (hc _).trans a2.c2, (hc _).trans a2.c3, (hc _).trans a2.c4, (hc _).trans a2.c5, (hc _).trans a2.c6, (hc _).trans a2.c7⟩
      have F0 : ∀ p : InClass KW, p.w.cell? ⟨b, off + k * 8, none⟩ = some (.int .i64 6) := fun p => (HX.out _ p.ok).c0
      have F1 : ∀ p : InClass KW, p.w.cell? ⟨b, off + k * 8 + 1, none⟩ = some (.int .i64 0) := fun p => (HX.out _ p.ok).c1
      have F2 : ∀ p : InClass KW, p.w.cell? ⟨b, off + k * 8 + 2, none⟩ = some (.int .i64 x.tok) := fun p => (HX.out _ p.ok).c2
      have F3 : ∀ p : InClass KW, p.w.cell? ⟨b, off + k * 8 + 3, none⟩ = some (.slice none 0 0) := fun p => (HX.out _ p.ok).c3
      have F4 : ∀ p : InClass KW, p.w.cell? ⟨b, off + k * 8 + 4, none⟩ = some (.int .u64 0) := fun p => (HX.out _ p.ok).c4
      have F5 : ∀ p : InClass KW, p.w.cell? ⟨b, off + k * 8 + 5, none⟩ = some (.int .u64 0) := fun p => (HX.out _ p.ok).c5
      have F6 : ∀ p : InClass KW, p.w.cell? ⟨b, off + k * 8 + 6, none⟩ = some (.int .u64 x.ser) := fun p => (HX.out _ p.ok).c6
      have F7 : ∀ p : InClass KW, p.w.cell? ⟨b, off + k * 8 + 7, none⟩ = some (.int .u64 x.stp) := fun p => (HX.out _ p.ok).c7
      have G0 : ∀ p : InClass KW, p.w.cell? ⟨b2, off2 + k * 8, none⟩ = some (.int .i64 6) := fun p => (HY.out _ p.ok).c0
      have G1 : ∀ p : InClass KW, p.w.cell? ⟨b2, off2 + k * 8 + 1, none⟩ = some (.int .i64 0) := fun p => (HY.out _ p.ok).c1
      have G2 : ∀ p : InClass KW, p.w.cell? ⟨b2, off2 + k * 8 + 2, none⟩ = some (.int .i64 x.tok) := fun p => (HY.out _ p.ok).c2
      have G3 : ∀ p : InClass KW, p.w.cell? ⟨b2, off2 + k * 8 + 3, none⟩ = some (.slice none 0 0) := fun p => (HY.out _ p.ok).c3
      have G4 : ∀ p : InClass KW, p.w.cell? ⟨b2, off2 + k * 8 + 4, none⟩ = some (.int .u64 0) := fun p => (HY.out _ p.ok).c4
      have G5 : ∀ p : InClass KW, p.w.cell? ⟨b2, off2 + k * 8 + 5, none⟩ = some (.int .u64 0) := fun p => (HY.out _ p.ok).c5
      have G6 : ∀ p : InClass KW, p.w.cell? ⟨b2, off2 + k * 8 + 6, none⟩ = some (.int .u64 x.ser) := fun p => (HY.out _ p.ok).c6
      have G7 : ∀ p : InClass KW, p.w.cell? ⟨b2, off2 + k * 8 + 7, none⟩ = some (.int .u64 x.stp) := fun p => (HY.out _ p.ok).c7
      have CX : Hid (∀ p : InClass KW, Calls Try.prog 43 #[.agg #[.int .i64 6, .int .i64 0, .int .i64 x.tok, .slice none 0 0, .int .u64 0, .int .u64 0, .int .u64 x.ser, .int .u64 x.stp], .agg #[.int .i64 6, .int .i64 0, .int .i64 x.tok, .slice none 0 0, .int .u64 0, .int .u64 0, .int .u64 x.ser, .int .u64 x.stp]] p.w fun e w' => e = .returned (.bool true) ∧ Below p.w.heap.size p.w w') := fun p => by
        have := ref_Same_any p.w 6 0 x.tok none 0 [] 0 0 x.ser x.stp 6 0 x.tok none 0 [] 0 0 x.ser x.stp InN.nil InN.nil
        rw [sameB_refl] at this
        exact this
      have K1 : KW wr.drew := by rw [hKW]; exact HB.out.drew
      haveI NE : Nonempty (InClass KW) := ⟨⟨wr.drew, K1⟩⟩
      clear a1 a2 hx hat1 hat2 hKW hB
      go_wp2_with fail
      refine wp_region_class_lit KW (by kernel_rfl) (by kernel_rfl) K1 ?_
      repeat (go_big_quiet_step ((go_at_call 43; refine (CX.out _).mono ?_; rintro e8 w8 ⟨he, hB8⟩; exact ⟨he, ⟨w8, KC.out _ w8 (InClass.ok _) hB8⟩, rfl⟩)))
      refine wpQuiet_nil ?_
      intro _ hw9
      obtain ⟨p9, hw9⟩ := hw9
      subst hw9
      have HB9 := Lib.hid (KF.out _ p9.ok)
      clear F0 F1 F2 F3 F4 F5 F6 F7 G0 G1 G2 G3 G4 G5 G6 G7
      go_wp2
      go_roundw
      case rel => exact ⟨k + 1, by go_num, by omega, HB9.out⟩
      case measure => simp [intOf]; omega
    · obtain rfl : k = os.length := by omega
      clear hB
      go_wp2
      go_ret
      exact ⟨rfl, HB.out⟩
end Go.Proofs.Ytfkaggdjhopjpaa
