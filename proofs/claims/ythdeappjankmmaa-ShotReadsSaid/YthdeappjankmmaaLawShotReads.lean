/- The walk of the law ShotReads. -/
import Derived.Test.YthdeappjankmmaaRd6D
import Derived.Test.YthdeappjankmmaaSdL
import Derived.Test.YthdeappjankmmaaShH
namespace Go.Proofs.Ythdeappjankmmaa
set_option maxRecDepth 100000
open Go.RowKit

theorem r06_Decode_of (w : World) (A : Option Addr) (c : Nat) (lb : List Int) (h : In8 w A c lb) {i t : Int} {ns : List Int} {lim nxt : Int} {hs : List Hd} {ls : List Ls} (h0 : sE lb = 0) (F : Front lb i t ns lim nxt hs) (hl : (sLs lb).1 = ls) :
    Calls Try.prog 20 #[.slice A lb.length c] w fun x w' => ∃ A0 c0 A1 c1 A2 c2, x = .returned (.tuple #[shV i t (.slice A0 ns.length c0) lim nxt (.slice A1 hs.length c1) (.slice A2 ls.length c2), .int .i64 0]) ∧ ShR w' A0 c0 ns A1 c1 hs A2 c2 ls ∧ Below w.heap.size w w' := by
  refine (r06_Decode_walk w A c lb h).mono fun x w' ⟨hB, hx⟩ => ?_
  rcases hx with ⟨_, A0, c0, A1, c1, A2, c2, hx, k1, k2, k3⟩ | ⟨he, _⟩
  · rw [F.i, F.t, F.ns, F.lim, F.nxt, F.hs, hl] at hx
    rw [F.ns] at k1
    rw [F.hs] at k2
    rw [hl] at k3
    exact ⟨A0, c0, A1, c1, A2, c2, hx, ⟨k1, k2, k3⟩, hB⟩
  · exact absurd h0 he
theorem r06_Decode_err (w : World) (A : Option Addr) (c : Nat) (lb : List Int) (h : In8 w A c lb) {E : Int} (h0 : sE lb = E) (he : E ≠ 0) :
    Calls Try.prog 20 #[.slice A lb.length c] w fun x w' => x = .returned (.tuple #[shV 0 0 (.slice none 0 0) 0 0 (.slice none 0 0) (.slice none 0 0), .int .i64 E]) ∧ Below w.heap.size w w' := by
  refine (r06_Decode_walk w A c lb h).mono fun x w' ⟨hB, hx⟩ => ?_
  rw [h0] at hx
  rcases hx with ⟨he', _⟩ | ⟨_, hx⟩
  · exact absurd he' he
  · exact ⟨hx, hB⟩
/-- Both read the same. -/
theorem shot_both_read (lb : List Int) : ∃ (i t : Int) (ns : List Int) (lim nxt : Int) (hs : List Hd) (ls : List Ls) (E : Int),
    (∀ W A c, In8 W A c lb → Calls Try.prog 19 #[.slice A lb.length c] W fun x w' => ∃ A0 c0 A1 c1 A2 c2, x = .returned (.tuple #[shV i t (.slice A0 ns.length c0) lim nxt (.slice A1 hs.length c1) (.slice A2 ls.length c2), .int .i64 E]) ∧ ShR w' A0 c0 ns A1 c1 hs A2 c2 ls ∧ Below W.heap.size W w') ∧
    (∀ W A c, In8 W A c lb → Calls Try.prog 20 #[.slice A lb.length c] W fun x w' => ∃ A0 c0 A1 c1 A2 c2, x = .returned (.tuple #[shV i t (.slice A0 ns.length c0) lim nxt (.slice A1 hs.length c1) (.slice A2 ls.length c2), .int .i64 E]) ∧ ShR w' A0 c0 ns A1 c1 hs A2 c2 ls ∧ Below W.heap.size W w') := by
  by_cases h0 : sE lb = 0
  · have F : Front lb (sI lb).1 (sT lb).1 (sNs lb).1 (sLim lb).1 (sNxt lb).1 (sHs lb).1 := ⟨rfl, rfl, rfl, rfl, rfl, rfl⟩
    exact ⟨_, _, _, _, _, _, _, 0, fun W A c k => shot_Decode_of W A c lb k h0 F rfl, fun W A c k => r06_Decode_of W A c lb k h0 F rfl⟩
  · refine ⟨0, 0, [], 0, 0, [], [], sE lb, fun W A c k => ?_, fun W A c k => ?_⟩
    · exact (shot_Decode_err W A c lb k rfl h0).mono fun x w' ⟨hx, hB⟩ => ⟨none, 0, none, 0, none, 0, hx, ⟨InN.nil, InS.nil, InS.nil⟩, hB⟩
    · exact (r06_Decode_err W A c lb k rfl h0).mono fun x w' ⟨hx, hB⟩ => ⟨none, 0, none, 0, none, 0, hx, ⟨InN.nil, InS.nil, InS.nil⟩, hB⟩
theorem read13 (W : World) (A : Option Addr) (c : Nat) (h : In8 W A c [83, 0, 0, 1, 2, 1, 1, 1, 3, 1, 2, 1, 1, 0, 0]) :
    Calls Try.prog 19 #[.slice A 15 c] W fun x w' => ∃ A0 c0 A1 c1 A2 c2, x = .returned (.tuple #[shV 0 0 (.slice A0 2 c0) 2 1 (.slice A1 0 c1) (.slice A2 0 c2), .int .i64 0]) ∧ Below W.heap.size W w' := by
  obtain ⟨s1, s2, s3⟩ := shot_back (lb := [83, 0, 0, 1, 2, 1, 1, 1, 3, 1, 2, 1, 1, 0, 0]) nums13 ok13 bytes13.symm (by simp)
  exact (shot_Decode_of W A c _ h s1 s2 s3).mono fun x w' ⟨A0, c0, A1, c1, A2, c2, hx, _, hB⟩ => ⟨A0, c0, A1, c1, A2, c2, hx, hB⟩

set_option maxHeartbeats 8000000 in
theorem shotReads_row (w : World) {vb : Value} (zb : OpenB w vb) :
    Calls Try.prog 6 #[vb] w fun e w' => e = .returned (.bool true) ∧ Below w.heap.size w w' := by
  obtain ⟨Ab, cb, lb, rfl, hinb, hlb⟩ := zb
  have hbyt := hinb.byt
  obtain ⟨i, t, ns, lim, nxt, hs, ls, E, C1, C2⟩ := shot_both_read lb
  have CS := fun W A0 c0 A1 c1 A2 c2 B0 d0 B1 d1 B2 d2 (k1 : ShR W A0 c0 ns A1 c1 hs A2 c2 ls) (k2 : ShR W B0 d0 ns B1 d1 hs B2 d2 ls) => r06_Same_eq W i t A0 c0 B0 d0 ns lim nxt A1 c1 B1 d1 hs A2 c2 B2 d2 ls k1.n k2.n k1.h k2.h k1.l k2.l
  have C3 := read13
  unfold shV at C1 C2 C3 CS
  have C1 := Lib.hid C1
  have C2 := Lib.hid C2
  have C3 := Lib.hid C3
  have CS := Lib.hid CS
  have HINB := Lib.hid hinb
  have HR := Lib.hid hinb.reads
  obtain ⟨g, hg⟩ : ∃ g, w.heap.size = g := ⟨_, rfl⟩
  rw [hg]
  clear hinb
  go_enter Try.func6, Try.ntmps6
  go_wp2_with (at_builtin; refine app_own (w0 := w) w.heap.size rfl _ _ 38 5 (.int .u8 0) 1 rfl Try.underlying38 1 info_u8 rfl (by omega) (by omega) (.slice none 0 0) [] 0 rfl _ _ _ _ (u8s lb) rfl (own_nil _ _ _ _) HR.out (u8s_one_cell lb) (Below.refl _ _) (Nat.le_refl _) (by omega) ?_; intro v1 w1 ho1 hB1 _ _)
  have hown : Own8 w1 w.heap.size v1 lb := by simpa [Own8] using ho1
  clear ho1 HR
  obtain ⟨A1, c1, rfl, hin1⟩ := In8.own hown hbyt (by omega)
  have HN := Lib.hid hin1
  rw [hg] at hB1
  have HB1 := Lib.hid hB1
  have hz1 : g ≤ w1.heap.size := by have := hB1.size; omega
  have X1 := Lib.hid (C1.out w1 A1 c1 hin1)
  clear hin1 hown hB1 C1 hbyt
  go_wp2_with fail
  refine X1.out.mono ?_
  rintro x w2 ⟨A20, c20, A21, c21, A22, c22, rfl, hin2, hB2⟩
  obtain ⟨gc, hgc⟩ : ∃ gc, w2.heap.size = gc := ⟨_, rfl⟩
  have hz2 : w1.heap.size ≤ gc := by have := hB2.size; omega
  have hB3 := hB2.alloc hB2.size (.cells (shC i t (.slice A20 ns.length c20) lim nxt (.slice A21 hs.length c21) (.slice A22 ls.length c22)) 29)
  have hc3 : Blk (w2.alloc (.cells (shC i t (.slice A20 ns.length c20) lim nxt (.slice A21 hs.length c21) (.slice A22 ls.length c22)) 29)) gc 29 (shC i t (.slice A20 ns.length c20) lim nxt (.slice A21 hs.length c21) (.slice A22 ls.length c22)) := hgc ▸ Blk.new _ _ _
  have hin3 := hin2.keep ((Below.refl w2.heap.size w2).alloc (Nat.le_refl _) (.cells (shC i t (.slice A20 ns.length c20) lim nxt (.slice A21 hs.length c21) (.slice A22 ls.length c22)) 29))
  clear X1 hB2 hin2
  go_upto_region 3 with (fail)
  change Code.wp _ _ _ _ (w2.alloc (.cells (shC i t (.slice A20 ns.length c20) lim nxt (.slice A21 hs.length c21) (.slice A22 ls.length c22)) 29))
  generalize w2.alloc (.cells (shC i t (.slice A20 ns.length c20) lim nxt (.slice A21 hs.length c21) (.slice A22 ls.length c22)) 29) = W3 at hB3 hc3 hin3 ⊢
  have X2 := Lib.hid (C2.out W3 Ab cb (HINB.out.keep (by rw [hg]; exact below_then HB1.out hz1 hB3)))
  have HB3 := Lib.hid hB3
  have HC3 := Lib.hid hc3
  have HI3 := Lib.hid hin3
  clear hB3 hc3 hin3 hgc C2
  go_wp2_with fail
  refine X2.out.mono ?_
  rintro x w4 ⟨A40, c40, A41, c41, A42, c42, rfl, hin4, hB4⟩
  obtain ⟨gd, hgd⟩ : ∃ gd, w4.heap.size = gd := ⟨_, rfl⟩
  have hz4 : gc < gd := by have := hB4.size; have := HC3.out.lt; omega
  have hB5 := (HB3.out.trans (hB4.mono HB3.out.size)).alloc (by have := hB4.size; have := HB3.out.size; omega) (.cells (shC i t (.slice A40 ns.length c40) lim nxt (.slice A41 hs.length c41) (.slice A42 ls.length c42)) 29)
  have hc5 := (HC3.out.below hB4 HC3.out.lt).alloc (.cells (shC i t (.slice A40 ns.length c40) lim nxt (.slice A41 hs.length c41) (.slice A42 ls.length c42)) 29)
  have hd5 : Blk (w4.alloc (.cells (shC i t (.slice A40 ns.length c40) lim nxt (.slice A41 hs.length c41) (.slice A42 ls.length c42)) 29)) gd 29 (shC i t (.slice A40 ns.length c40) lim nxt (.slice A41 hs.length c41) (.slice A42 ls.length c42)) := hgd ▸ Blk.new _ _ _
  have hiA := (HI3.out.keep hB4).keep ((Below.refl w4.heap.size w4).alloc (Nat.le_refl _) (.cells (shC i t (.slice A40 ns.length c40) lim nxt (.slice A41 hs.length c41) (.slice A42 ls.length c42)) 29))
  have hiB := hin4.keep ((Below.refl w4.heap.size w4).alloc (Nat.le_refl _) (.cells (shC i t (.slice A40 ns.length c40) lim nxt (.slice A41 hs.length c41) (.slice A42 ls.length c42)) 29))
  clear X2 hB4 hin4 HB3 HC3 HI3
  go_upto_region 4 with (fail)
  change Code.wp _ _ _ _ (w4.alloc (.cells (shC i t (.slice A40 ns.length c40) lim nxt (.slice A41 hs.length c41) (.slice A42 ls.length c42)) 29))
  generalize w4.alloc (.cells (shC i t (.slice A40 ns.length c40) lim nxt (.slice A41 hs.length c41) (.slice A42 ls.length c42)) 29) = W5 at hB5 hc5 hd5 hiA hiB ⊢
  have HL := Lib.hid (C3.out _ _ _ (In8.lit W5 [83, 0, 0, 1, 2, 1, 1, 1, 3, 1, 2, 1, 1, 0, 0] (by unfold Byt; decide) (by simp) #[.int .u8 83, .int .u8 0, .int .u8 0, .int .u8 1, .int .u8 2, .int .u8 1, .int .u8 1, .int .u8 1, .int .u8 3, .int .u8 1, .int .u8 2, .int .u8 1, .int .u8 1, .int .u8 0, .int .u8 0] (15, 16) rfl))
  have hBL : Below W5.heap.size W5 (W5.alloc (.cells #[.int .u8 83, .int .u8 0, .int .u8 0, .int .u8 1, .int .u8 2, .int .u8 1, .int .u8 1, .int .u8 1, .int .u8 3, .int .u8 1, .int .u8 2, .int .u8 1, .int .u8 1, .int .u8 0, .int .u8 0] 5 (15, 16))) := (Below.refl _ _).alloc (Nat.le_refl _) _
  have hc6 := hc5.below hBL hc5.lt
  have hd6 := hd5.below hBL hd5.lt
  have hB6 := hB5.trans (hBL.mono hB5.size)
  have hiA6 := hiA.keep hBL
  have hiB6 := hiB.keep hBL
  have HC6 := Lib.hid hc6
  have HD6 := Lib.hid hd6
  have HB6 := Lib.hid hB6
  have HA6 := Lib.hid hiA6
  have HBI6 := Lib.hid hiB6
  have kc := fun (w : World) (C : Array Value) (n c : Nat) => Lib.run_convert_bytes_const (P := Try.prog) w 38 5 C n c Try.underlying38 Try.underlying5
  clear hBL hc5 hd5 hB5 hiA hiB hc6 hd6 hB6 hiA6 hiB6 hgd C3
  go_wp2_with fail
  refine HL.out.mono ?_
  rintro x w7 ⟨A70, c70, A71, c71, A72, c72, rfl, hB7⟩
  obtain ⟨ge, hge⟩ : ∃ ge, w7.heap.size = ge := ⟨_, rfl⟩
  have hz7 : gd < ge := by have := hB7.size; have := HD6.out.lt; omega
  have hBa := (Below.refl w7.heap.size w7).alloc (Nat.le_refl _) (.cells (shC 0 0 (.slice A70 2 c70) 2 1 (.slice A71 0 c71) (.slice A72 0 c72)) 29)
  have hB8 := (HB6.out.trans (hB7.mono HB6.out.size)).trans (hBa.mono (by have := hB7.size; have := HB6.out.size; omega))
  have hc8 := (HC6.out.below hB7 HC6.out.lt).alloc (.cells (shC 0 0 (.slice A70 2 c70) 2 1 (.slice A71 0 c71) (.slice A72 0 c72)) 29)
  have hd8 := (HD6.out.below hB7 HD6.out.lt).alloc (.cells (shC 0 0 (.slice A70 2 c70) 2 1 (.slice A71 0 c71) (.slice A72 0 c72)) 29)
  have he8 : Blk (w7.alloc (.cells (shC 0 0 (.slice A70 2 c70) 2 1 (.slice A71 0 c71) (.slice A72 0 c72)) 29)) ge 29 (shC 0 0 (.slice A70 2 c70) 2 1 (.slice A71 0 c71) (.slice A72 0 c72)) := hge ▸ Blk.new _ _ _
  have hiA8 := (HA6.out.keep hB7).keep hBa
  have hiB8 := (HBI6.out.keep hB7).keep hBa
  clear hB7 hBa HC6 HD6 HB6 HA6 HBI6 HL kc
  go_upto_region 5 with (fail)
  change Code.wp _ _ _ _ (w7.alloc (.cells (shC 0 0 (.slice A70 2 c70) 2 1 (.slice A71 0 c71) (.slice A72 0 c72)) 29))
  generalize w7.alloc (.cells (shC 0 0 (.slice A70 2 c70) 2 1 (.slice A71 0 c71) (.slice A72 0 c72)) 29) = W8 at hB8 hc8 hd8 he8 hiA8 hiB8 ⊢
  have CS8 := Lib.hid (CS.out W8 A20 c20 A21 c21 A22 c22 A40 c40 A41 c41 A42 c42 hiA8 hiB8)
  have HBF := Lib.hid (below_then HB1.out hz1 hB8)
  have HN8 := Lib.hid (HN.out.keep hB8)
  have HO8 := Lib.hid (HINB.out.keep (by rw [hg]; exact below_then HB1.out hz1 hB8))
  have hgl : g ≤ W8.heap.size := by have := HBF.out.size; omega
  obtain ⟨a0, a1, a2, a3, a4, a5, a6⟩ := hc8.sh
  obtain ⟨b0, b1, b2, b3, b4, b5, b6⟩ := hd8.sh
  have e3 := he8.sh.z3
  clear hB8 hc8 hd8 he8 hiA8 hiB8 hge CS HB1 HN HINB
  go_wp2_with fail
  refine CS8.out.mono ?_
  rintro e w9 ⟨rfl, hB9⟩
  have hcv1 := conv_str _ _ A1 _ c1 _ (HN8.out.keep hB9).reads
  have hcv2 := conv_str _ _ Ab _ cb _ (HO8.out.keep hB9).reads
  have HBE := Lib.hid (HBF.out.trans (hB9.mono hgl))
  clear a0 a1 a2 a3 a4 a5 a6 b0 b1 b2 b3 b4 b5 b6 e3 hB9 CS8
  go_wp2
  go_ret
  exact ⟨rfl, HBE.out⟩
end Go.Proofs.Ythdeappjankmmaa
