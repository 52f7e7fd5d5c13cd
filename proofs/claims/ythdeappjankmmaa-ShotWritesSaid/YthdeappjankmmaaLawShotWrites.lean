/- The walk of the law ShotWrites. -/
import Derived.Test.YthdeappjankmmaaOpenShot
import Derived.Test.YthdeappjankmmaaShH
namespace Go.Proofs.Ythdeappjankmmaa
open Go.RowKit

theorem shotB_len {i t : Int} {ns : List Int} {lim nxt : Int} {hs : List Hd} {ls : List Ls} (n : ShNums i t ns lim nxt hs ls) : (shotB i t ns lim nxt hs ls).length ≤ 8000 := by
  have h1 := numsB_le (shotL i t ns lim nxt hs ls)
  have h2 := flatI_len (f := hdL) (s := 5) (fun _ => rfl) hs
  have h3 := flatI_len (f := lsL) (s := 6) (fun _ => rfl) ls
  have n1 := n.nsl
  have n2 := n.hsl
  have n3 := n.lsl
  have h4 : (shotL i t ns lim nxt hs ls).length ≤ 3 + 7 + 3 + 320 + 1 + 42 := by
    unfold shotL
    simp only [List.length_append, List.length_cons, List.length_nil, h2, h3]
    omega
  unfold shotB
  rw [List.length_cons]
  omega
theorem shotB_byt (i t : Int) (ns : List Int) (lim nxt : Int) (hs : List Hd) (ls : List Ls) : Byt (shotB i t ns lim nxt hs ls) := by
  have h := (show Byt [83] by unfold Byt; decide).append (numsB_byt (shotL i t ns lim nxt hs ls))
  exact h
/-- Both write the same. -/
theorem both_write (i t : Int) (An : Option Addr) (cn : Nat) (ns : List Int) (lim nxt : Int) (Ah : Option Addr) (ch : Nat) (hs : List Hd) (Al : Option Addr) (cl : Nat) (ls : List Ls) (hw1 : ∀ h ∈ hs, h.Wf) (hw2 : ∀ x ∈ ls, x.Wf) (hi : 0 ≤ i ∧ i < 18446744073709551616) (ht : 0 ≤ t ∧ t < 18446744073709551616) (hnx : 0 ≤ nxt ∧ nxt < 18446744073709551616) :
    ∃ (bs : List Int) (E : Int), Byt bs ∧ bs.length ≤ 8000 ∧
      (∀ W, InN .i64 W An cn ns → InS hdC 5 W Ah ch hs → InS lsC 6 W Al cl ls → Calls Try.prog 16 #[shV i t (.slice An ns.length cn) lim nxt (.slice Ah hs.length ch) (.slice Al ls.length cl)] W fun e w' => ∃ v, e = .returned (.tuple #[v, .int .i64 E]) ∧ Own8 w' W.heap.size v bs ∧ Below W.heap.size W w') ∧
      (∀ W, InN .i64 W An cn ns → InS hdC 5 W Ah ch hs → InS lsC 6 W Al cl ls → Calls Try.prog 17 #[shV i t (.slice An ns.length cn) lim nxt (.slice Ah hs.length ch) (.slice Al ls.length cl)] W fun e w' => ∃ v, e = .returned (.tuple #[v, .int .i64 E]) ∧ Own8 w' W.heap.size v bs ∧ Below W.heap.size W w') := by
  by_cases ok : ShotOk i t ns lim nxt hs ls
  · have nu := ok.nums hi ht hnx hw1 hw2
    exact ⟨shotB i t ns lim nxt hs ls, 0, shotB_byt _ _ _ _ _ _ _, shotB_len nu, fun W h1 h2 h3 => shot_Encode_ok W i t An cn ns lim nxt Ah ch hs Al cl ls h1 h2 h3 hw1 hw2 hnx.2 ok nu, fun W h1 h2 h3 => r06_Encode_ok W i t An cn ns lim nxt Ah ch hs Al cl ls h1 h2 h3 ok nu⟩
  · refine ⟨[], 60, Byt.nil, by simp, fun W h1 h2 h3 => ?_, fun W h1 h2 h3 => ?_⟩
    · exact (shot_Encode_bad W i t An cn ns lim nxt Ah ch hs Al cl ls h1 h2 h3 hw1 hw2 hnx.2 ok).mono fun e w' ⟨he, hB⟩ => ⟨_, he, own_nil _ _ _ _, hB⟩
    · exact (r06_Encode_bad W i t An cn ns lim nxt Ah ch hs Al cl ls h1 h2 h3 ok).mono fun e w' ⟨he, hB⟩ => ⟨_, he, own_nil _ _ _ _, hB⟩

set_option maxRecDepth 100000 in
set_option maxHeartbeats 8000000 in
theorem shotWrites_row (w : World) {v : Value} (z : OpenShot w v) :
    Calls Try.prog 5 #[v] w fun e w' => e = .returned (.bool true) ∧ Below w.heap.size w w' := by
  obtain ⟨i, t, An, cn, ns, lim, nxt, Ah, ch, hs, Al, cl, ls, rfl, hn, hns, hh, hl, hw1, hw2, hi, ht, hlim, hnx⟩ := z
  have HN := Lib.hid hn
  have HH := Lib.hid hh
  have HL := Lib.hid hl
  obtain ⟨bs, E, hbyt, hbl, C1, C2⟩ := both_write i t An cn ns lim nxt Ah ch hs Al cl ls hw1 hw2 hi ht hnx
  unfold shV at C1 C2 ⊢
  have C1 := Lib.hid C1
  have C2 := Lib.hid C2
  have C3 := fun W => Lib.hid (live_any W)
  have HBY := Lib.hid hbyt
  clear hn hh hl hw1 hw2 hi ht hlim hnx hns hbyt
  obtain ⟨g, hg⟩ : ∃ g, w.heap.size = g := ⟨_, rfl⟩
  rw [hg]
  have hBx : Below g w (w.alloc (.cells (shC i t (.slice An ns.length cn) lim nxt (.slice Ah hs.length ch) (.slice Al ls.length cl)) 29)) := (Below.refl _ _).alloc (by omega) _
  have hb1 : Blk (w.alloc (.cells (shC i t (.slice An ns.length cn) lim nxt (.slice Ah hs.length ch) (.slice Al ls.length cl)) 29)) g 29 (shC i t (.slice An ns.length cn) lim nxt (.slice Ah hs.length ch) (.slice Al ls.length cl)) := hg ▸ Blk.new _ _ _
  go_enter Try.func5, Try.ntmps5
  go_upto_region 1 with (fail)
  change Code.wp _ _ _ _ (w.alloc (.cells (shC i t (.slice An ns.length cn) lim nxt (.slice Ah hs.length ch) (.slice Al ls.length cl)) 29))
  generalize (w.alloc (.cells (shC i t (.slice An ns.length cn) lim nxt (.slice Ah hs.length ch) (.slice Al ls.length cl)) 29)) = W at hb1 hBx ⊢
  try rw [hg]
  have X1 := Lib.hid (C1.out W (HN.out.keep (hg ▸ hBx)) (HH.out.keep (hg ▸ hBx)) (HL.out.keep (hg ▸ hBx)))
  obtain ⟨q0, q1, q2, q3, q4, q5, q6⟩ := hb1.sh
  go_wp2_with fail
  refine X1.out.mono ?_
  rintro e w1 ⟨v1, rfl, ho1, hB1⟩
  have hb2 := hb1.below hB1 hb1.lt
  have hB2 := hBx.trans (hB1.mono (Nat.le_of_lt hb1.lt))
  obtain ⟨A1, c1, rfl, hin1⟩ := In8.own ho1 HBY.out (by omega)
  have H1 := Lib.hid hin1
  have X2 := Lib.hid (C2.out w1 (HN.out.keep (hg ▸ hB2)) (HH.out.keep (hg ▸ hB2)) (HL.out.keep (hg ▸ hB2)))
  have HB2 := Lib.hid hB2
  have hgl := hb2.lt
  clear q0 q1 q2 q3 q4 q5 q6 hb1 hBx hB1 X1 hB2 ho1 hin1
  obtain ⟨q0, q1, q2, q3, q4, q5, q6⟩ := hb2.sh
  clear hb2
  go_wp2_with fail
  refine X2.out.mono ?_
  rintro e w2 ⟨v2, rfl, ho2, hB3⟩
  have hB3w := HB2.out.trans (hB3.mono (Nat.le_of_lt hgl))
  obtain ⟨A2, c2, rfl, hin2⟩ := In8.own ho2 HBY.out (by omega)
  have H2 := Lib.hid hin2
  have H12 := Lib.hid (H1.out.keep hB3)
  have HB3 := Lib.hid hB3w
  have hgl2 : g ≤ w2.heap.size := by have := hB3.size; omega
  clear q0 q1 q2 q3 q4 q5 q6 X2 hB3 hB3w ho2 hin2
  go_wp2_with fail
  refine (C3 _).out.mono ?_
  rintro e w3 ⟨rfl, hB4⟩
  have hcv1 := conv_str _ _ A1 _ c1 _ (H12.out.keep hB4).reads
  have hcv2 := conv_str _ _ A2 _ c2 _ (H2.out.keep hB4).reads
  have HBF := Lib.hid (HB3.out.trans (hB4.mono hgl2))
  have hd : decide ((bs.length : Int) ≤ 8092) = true := decide_eq_true (by omega)
  clear hB4
  go_wp2
  go_ret
  exact ⟨rfl, HBF.out⟩
end Go.Proofs.Ythdeappjankmmaa
