/- The walk of the law CmdReads. -/
import Derived.Test.YtnpodnieahokjaaRefE
import Derived.Test.YtnpodnieahokjaaCmdS
namespace Go.Proofs.Ytnpodnieahokjaa
open Go.RowKit

theorem numB_one : numB 1 = [1, 1] := by decide +kernel
theorem ok_one : CmdOk 1 0 0 [] 0 0 0 0 := by
  refine ⟨?_, by omega, by omega, by omega, by omega⟩
  rw [codeOk_eq _ _ _ _ _ _ _ _ (by omega) (by omega) (by omega) (by omega)]
  rfl
/-- Both read the same. -/
theorem both_read (lb : List Int) : ∃ (k n t : Int) (l : List Int) (b q s m K E : Int),
    (∀ W A c, In8 W A c lb → Calls Try.prog 16 #[.slice A lb.length c] W fun x w' => Below W.heap.size W w' ∧ ∃ A' c', x = .returned (.tuple #[cmdV k n t (.slice A' l.length c') b q s m, .int .i64 K, .int .i64 E]) ∧ InN .i64 w' A' c' l) ∧
    (∀ W A c, In8 W A c lb → Calls Try.prog 17 #[.slice A lb.length c] W fun x w' => Below W.heap.size W w' ∧ ∃ A' c', x = .returned (.tuple #[cmdV k n t (.slice A' l.length c') b q s m, .int .i64 K, .int .i64 E]) ∧ InN .i64 w' A' c' l) := by
  have hnil : ∀ W, InN .i64 W none 0 [] := fun W => by
    obtain ⟨A, c, e, h⟩ := InN.own (k := .i64) (show OwnN .i64 3 W 0 (.slice none 0 0) [] from own_nil W 0 3 1) (Wfs.nil _) (by simp)
    injection e with e1 e2 e3
    subst e1 e3
    exact h
  by_cases h0 : dE lb = 0
  · refine ⟨(dK lb).1, (dn lb).1, (dt lb).1, (dL lb).1, (db lb).1, (dq lb).1, (ds lb).1, (dm lb).1, ((dm lb).2.1 : Int), 0, fun W A c hin => ?_, fun W A c hin => ?_⟩
    · refine (cmd_Decode_walk W A c lb hin).mono fun x w' ⟨hB, h⟩ => ⟨hB, ?_⟩
      rcases h with ⟨_, h⟩ | ⟨h1, _⟩
      · exact h
      · exact absurd h0 h1
    · refine (ref_Decode_walk W A c lb hin).mono fun x w' ⟨hB, h⟩ => ⟨hB, ?_⟩
      rcases h with ⟨_, h⟩ | ⟨h1, _⟩
      · exact h
      · exact absurd h0 h1
  · refine ⟨0, 0, 0, [], 0, 0, 0, 0, 0, dE lb, fun W A c hin => ?_, fun W A c hin => ?_⟩
    · refine (cmd_Decode_walk W A c lb hin).mono fun x w' ⟨hB, h⟩ => ⟨hB, ?_⟩
      rcases h with ⟨h1, _⟩ | ⟨_, h⟩
      · exact absurd h1 h0
      · exact ⟨none, 0, h, hnil w'⟩
    · refine (ref_Decode_walk W A c lb hin).mono fun x w' ⟨hB, h⟩ => ⟨hB, ?_⟩
      rcases h with ⟨h1, _⟩ | ⟨_, h⟩
      · exact absurd h1 h0
      · exact ⟨none, 0, h, hnil w'⟩
/-- What lies in two bytes, each a one. -/
theorem one_read (W : World) (A : Option Addr) (c : Nat) (hin : In8 W A c [1, 1]) : Calls Try.prog 16 #[.slice A 2 c] W fun x w' => Below W.heap.size W w' ∧ ∃ A' c', x = .returned (.tuple #[cmdV 1 0 0 (.slice A' 0 c') 0 0 0 0, .int .i64 2, .int .i64 0]) := by
  obtain ⟨x0, x1, x2, x3, x4, x5, x6, x7, x8⟩ := back ok_one [] [1, 1] (by rw [List.append_nil]; simp [numsL, numsB, kN, kR, kT, kS, numB_one])
  refine (cmd_Decode_walk W A c [1, 1] hin).mono fun x w' ⟨hB, h⟩ => ⟨hB, ?_⟩
  rcases h with ⟨_, A', c', h, _⟩ | ⟨h1, _⟩
  · refine ⟨A', c', h.trans ?_⟩
    rw [x1, x2, x3, x4, x5, x6, x7, x8]
    have e : (numsB (numsL ((1 : Nat) : Int) ((0 : Nat) : Int) ((0 : Nat) : Int) [] ((0 : Nat) : Int) ((0 : Nat) : Int) ((0 : Nat) : Int) ((0 : Nat) : Int))).length = 2 := by simp [numsL, numsB, kN, kR, kT, kS, numB_one]
    rw [e]
    rfl
  · exact absurd x0 h1

set_option maxRecDepth 100000 in
set_option maxHeartbeats 8000000 in
theorem cmdReads_row (w : World) {vb : Value} (zb : OpenB w vb) :
    Calls Try.prog 5 #[vb] w fun e w' => e = .returned (.bool true) ∧ Below w.heap.size w w' := by
  obtain ⟨Ab, cb, lb, rfl, hinb, hlb⟩ := zb
  have hbyt := hinb.byt
  obtain ⟨k, n, t, l, b, q, s, m, K, E, C1, C2⟩ := both_read lb
  have CS := fun W A1 c1 A2 c2 h1 h2 => ref_Same_any W k n t A1 c1 l b q s m k n t A2 c2 l b q s m h1 h2
  have es : sameB k n t l b q s m k n t l b q s m = true := by simp [sameB]
  rw [es] at CS
  have C3 := one_read
  simp only [cmdV] at C1 C2 C3 CS
  have C1 := fun W A c hin => Lib.hid (C1 W A c hin)
  have C2 := fun W A c hin => Lib.hid (C2 W A c hin)
  have C3 := fun W A c hin => Lib.hid (C3 W A c hin)
  have CS := fun W A1 c1 A2 c2 h1 h2 => Lib.hid (CS W A1 c1 A2 c2 h1 h2)
  have HINB := Lib.hid hinb
  have HR := Lib.hid hinb.reads
  obtain ⟨g, hg⟩ : ∃ g, w.heap.size = g := ⟨_, rfl⟩
  clear hinb es
  go_enter Try.func5, Try.ntmps5
  go_wp2_with (at_builtin; refine app_own (w0 := w) w.heap.size rfl _ _ 31 5 (.int .u8 0) 1 rfl Try.underlying31 1 info_u8 rfl (by omega) (by omega) (.slice none 0 0) [] 0 rfl _ _ _ _ (u8s lb) rfl (own_nil _ _ _ _) HR.out (u8s_one_cell lb) (Below.refl _ _) (Nat.le_refl _) (by omega) ?_; intro v1 w1 ho1 hB1 _ _)
  have hown : Own8 w1 w.heap.size v1 lb := by simpa [Own8] using ho1
  clear ho1 HR
  obtain ⟨A1, c1, rfl, hin1⟩ := In8.own hown hbyt (by omega)
  have HN := Lib.hid hin1
  rw [hg] at hB1
  have HB1 := Lib.hid hB1
  have hz1 : g ≤ w1.heap.size := by have := hB1.size; omega
  have X1 := C1 w1 A1 c1 hin1
  clear hin1 hown hB1 C1 hbyt
  go_wp2_with fail
  refine X1.out.mono ?_
  rintro x w2 ⟨hB2, A2, c2, rfl, hin2⟩
  obtain ⟨gc, hgc⟩ : ∃ gc, w2.heap.size = gc := ⟨_, rfl⟩
  have hz2 : w1.heap.size ≤ gc := by have := hB2.size; omega
  have hB3 := hB2.alloc hB2.size (.cells (cmdCells k n t (.slice A2 l.length c2) b q s m) 25)
  have hc3 : Blk (w2.alloc (.cells (cmdCells k n t (.slice A2 l.length c2) b q s m) 25)) gc 25 (cmdCells k n t (.slice A2 l.length c2) b q s m) := hgc ▸ Blk.new _ _ _
  have hin3 := hin2.keep ((Below.refl w2.heap.size w2).alloc (Nat.le_refl _) (.cells (cmdCells k n t (.slice A2 l.length c2) b q s m) 25))
  clear X1 hB2 hin2
  go_upto_region 3 with (fail)
  change Code.wp _ _ _ _ (w2.alloc (.cells (cmdCells k n t (.slice A2 l.length c2) b q s m) 25))
  generalize w2.alloc (.cells (cmdCells k n t (.slice A2 l.length c2) b q s m) 25) = W3 at hB3 hc3 hin3 ⊢
  have X2 := C2 W3 Ab cb (HINB.out.keep (by rw [hg]; exact below_then HB1.out hz1 hB3))
  have HB3 := Lib.hid hB3
  have HC3 := Lib.hid hc3
  have HI3 := Lib.hid hin3
  clear hB3 hc3 hin3 hgc C2
  go_wp2_with fail
  refine X2.out.mono ?_
  rintro x w4 ⟨hB4, A4, c4, rfl, hin4⟩
  obtain ⟨gd, hgd⟩ : ∃ gd, w4.heap.size = gd := ⟨_, rfl⟩
  have hz4 : gc < gd := by have := hB4.size; have := HC3.out.lt; omega
  have hB5 := (HB3.out.trans (hB4.mono HB3.out.size)).alloc (by have := hB4.size; have := HB3.out.size; omega) (.cells (cmdCells k n t (.slice A4 l.length c4) b q s m) 25)
  have hc5 := (HC3.out.below hB4 HC3.out.lt).alloc (.cells (cmdCells k n t (.slice A4 l.length c4) b q s m) 25)
  have hd5 : Blk (w4.alloc (.cells (cmdCells k n t (.slice A4 l.length c4) b q s m) 25)) gd 25 (cmdCells k n t (.slice A4 l.length c4) b q s m) := hgd ▸ Blk.new _ _ _
  have hiA := (HI3.out.keep hB4).keep ((Below.refl w4.heap.size w4).alloc (Nat.le_refl _) (.cells (cmdCells k n t (.slice A4 l.length c4) b q s m) 25))
  have hiB := hin4.keep ((Below.refl w4.heap.size w4).alloc (Nat.le_refl _) (.cells (cmdCells k n t (.slice A4 l.length c4) b q s m) 25))
  clear X2 hB4 hin4 HB3 HC3 HI3
  go_upto_region 4 with (fail)
  change Code.wp _ _ _ _ (w4.alloc (.cells (cmdCells k n t (.slice A4 l.length c4) b q s m) 25))
  generalize w4.alloc (.cells (cmdCells k n t (.slice A4 l.length c4) b q s m) 25) = W5 at hB5 hc5 hd5 hiA hiB ⊢
  have HL := C3 _ _ _ (In8.lit W5 [1, 1] (by unfold Byt; decide) (by simp) #[.int .u8 1, .int .u8 1] (2, 3) rfl)
  have hBL : Below W5.heap.size W5 (W5.alloc (.cells #[.int .u8 1, .int .u8 1] 5 (2, 3))) := (Below.refl _ _).alloc (Nat.le_refl _) _
  have hc6 := hc5.below hBL hc5.lt
  have hd6 := hd5.below hBL hd5.lt
  have hB6 := hB5.trans (hBL.mono hB5.size)
  have hiA6 := hiA.keep hBL
  have hiB6 := hiB.keep hBL
  have HC6 := Lib.hid hc6
  have HD6 := Lib.hid hd6
  have HB6 := Lib.hid hB6
  have HA6 := Lib.hid hiA6
  have HBI6 := Lib.hid hiB6
  have kc := fun (w : World) (C : Array Value) (n c : Nat) => Lib.run_convert_bytes_const (P := Try.prog) w 31 5 C n c Try.underlying31 Try.underlying5
  clear hBL hc5 hd5 hB5 hiA hiB hc6 hd6 hB6 hiA6 hiB6 hgd C3
  go_wp2_with fail
  refine HL.out.mono ?_
  rintro x w7 ⟨hB7, A7, c7, rfl⟩
  obtain ⟨ge, hge⟩ : ∃ ge, w7.heap.size = ge := ⟨_, rfl⟩
  have hz7 : gd < ge := by have := hB7.size; have := HD6.out.lt; omega
  have hBa := (Below.refl w7.heap.size w7).alloc (Nat.le_refl _) (.cells (cmdCells 1 0 0 (.slice A7 0 c7) 0 0 0 0) 25)
  have hB8 := (HB6.out.trans (hB7.mono HB6.out.size)).trans (hBa.mono (by have := hB7.size; have := HB6.out.size; omega))
  have hc8 := (HC6.out.below hB7 HC6.out.lt).alloc (.cells (cmdCells 1 0 0 (.slice A7 0 c7) 0 0 0 0) 25)
  have hd8 := (HD6.out.below hB7 HD6.out.lt).alloc (.cells (cmdCells 1 0 0 (.slice A7 0 c7) 0 0 0 0) 25)
  have he8 : Blk (w7.alloc (.cells (cmdCells 1 0 0 (.slice A7 0 c7) 0 0 0 0) 25)) ge 25 (cmdCells 1 0 0 (.slice A7 0 c7) 0 0 0 0) := hge ▸ Blk.new _ _ _
  have hiA8 := (HA6.out.keep hB7).keep hBa
  have hiB8 := (HBI6.out.keep hB7).keep hBa
  clear hB7 hBa HC6 HD6 HB6 HA6 HBI6 HL kc
  go_upto_region 5 with (fail)
  change Code.wp _ _ _ _ (w7.alloc (.cells (cmdCells 1 0 0 (.slice A7 0 c7) 0 0 0 0) 25))
  generalize w7.alloc (.cells (cmdCells 1 0 0 (.slice A7 0 c7) 0 0 0 0) 25) = W8 at hB8 hc8 hd8 he8 hiA8 hiB8 ⊢
  have CS8 := CS W8 A2 c2 A4 c4 hiA8 hiB8
  have HBF := Lib.hid (below_then HB1.out hz1 hB8)
  have HN8 := Lib.hid (HN.out.keep hB8)
  have HO8 := Lib.hid (HINB.out.keep (by rw [hg]; exact below_then HB1.out hz1 hB8))
  have hgl : g ≤ W8.heap.size := by have := HBF.out.size; omega
  obtain ⟨a0, a1, a2, a3, a4, a5, a6, a7⟩ := hc8.cmd
  obtain ⟨b0, b1, b2, b3, b4, b5, b6, b7⟩ := hd8.cmd
  have e0 := he8.cmd.c0
  clear hB8 hc8 hd8 he8 hiA8 hiB8 hge CS HB1 HN HINB
  go_wp2_with fail
  refine CS8.out.mono ?_
  rintro e w9 ⟨rfl, hB9⟩
  have hcv1 := conv_str _ _ A1 _ c1 _ (HN8.out.keep hB9).reads
  have hcv2 := conv_str _ _ Ab _ cb _ (HO8.out.keep hB9).reads
  have HBE := Lib.hid (HBF.out.trans (hB9.mono hgl))
  clear a0 a1 a2 a3 a4 a5 a6 a7 b0 b1 b2 b3 b4 b5 b6 b7 e0 hB9 CS8
  go_wp2
  go_ret
  exact ⟨rfl, by rw [hg]; exact HBE.out⟩
end Go.Proofs.Ytnpodnieahokjaa
