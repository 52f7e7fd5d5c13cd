/- Snapshots' bytes: the document's Encode; the law's own example. -/
import Derived.Test.YthdeappjankmmaaShG
namespace Go.Proofs.Ythdeappjankmmaa
set_option maxRecDepth 100000
open Go.RowKit

set_option maxRecDepth 100000 in
set_option maxHeartbeats 4000000 in
theorem r06_Encode_bad (w : World) (i t : Int) (An : Option Addr) (cn : Nat) (ns : List Int) (lim nxt : Int) (Ah : Option Addr) (ch : Nat) (hs : List Hd) (Al : Option Addr) (cl : Nat) (ls : List Ls) (hn : InN .i64 w An cn ns) (hh : InS hdC 5 w Ah ch hs) (hl : InS lsC 6 w Al cl ls)
    (bad : ¬ ShotOk i t ns lim nxt hs ls) :
    Calls Try.prog 17 #[shV i t (.slice An ns.length cn) lim nxt (.slice Ah hs.length ch) (.slice Al ls.length cl)] w fun e w' => e = .returned (.tuple #[.slice none 0 0, .int .i64 60]) ∧ Below w.heap.size w w' := by
  obtain ⟨g, hg⟩ : ∃ g, w.heap.size = g := ⟨_, rfl⟩
  rw [hg]
  have hBx : Below g w (w.alloc (.cells (shC i t (.slice An ns.length cn) lim nxt (.slice Ah hs.length ch) (.slice Al ls.length cl)) 29)) := (Below.refl _ _).alloc (by omega) _
  have hb1 : Blk (w.alloc (.cells (shC i t (.slice An ns.length cn) lim nxt (.slice Ah hs.length ch) (.slice Al ls.length cl)) 29)) g 29 (shC i t (.slice An ns.length cn) lim nxt (.slice Ah hs.length ch) (.slice Al ls.length cl)) := hg ▸ Blk.new _ _ _
  have HN := Lib.hid hn
  have HH := Lib.hid hh
  have HL := Lib.hid hl
  have CK := fun W h1 h2 h3 => r06_Check_any W i t An cn ns lim nxt Ah ch hs Al cl ls h1 h2 h3
  rw [shot_bad bad] at CK
  unfold shV at CK ⊢
  have CK := Lib.hid CK
  clear hn hh hl bad
  go_enter Try.func17, Try.ntmps17
  go_upto_region 1 with (fail)
  change Code.wp _ _ _ _ (w.alloc (.cells (shC i t (.slice An ns.length cn) lim nxt (.slice Ah hs.length ch) (.slice Al ls.length cl)) 29))
  generalize (w.alloc (.cells (shC i t (.slice An ns.length cn) lim nxt (.slice Ah hs.length ch) (.slice Al ls.length cl)) 29)) = W at hb1 hBx ⊢
  try rw [hg]
  have X := Lib.hid (CK.out W (HN.out.keep (hg ▸ hBx)) (HH.out.keep (hg ▸ hBx)) (HL.out.keep (hg ▸ hBx)))
  obtain ⟨q0, q1, q2, q3, q4, q5, q6⟩ := hb1.sh
  go_wp2_with fail
  refine X.out.mono ?_
  rintro e w1 ⟨rfl, hB1⟩
  have HB1 := Lib.hid (hBx.trans (hB1.mono (Nat.le_of_lt hb1.lt)))
  clear q0 q1 q2 q3 q4 q5 q6 hb1 hBx hB1 X
  go_wp2
  go_ret2
  exact ⟨rfl, HB1.out⟩

set_option maxRecDepth 100000 in
set_option maxHeartbeats 4000000 in
theorem r06_Encode_ok (w : World) (i t : Int) (An : Option Addr) (cn : Nat) (ns : List Int) (lim nxt : Int) (Ah : Option Addr) (ch : Nat) (hs : List Hd) (Al : Option Addr) (cl : Nat) (ls : List Ls) (hn : InN .i64 w An cn ns) (hh : InS hdC 5 w Ah ch hs) (hl : InS lsC 6 w Al cl ls)
    (ok : ShotOk i t ns lim nxt hs ls) (nu : ShNums i t ns lim nxt hs ls) :
    Calls Try.prog 17 #[shV i t (.slice An ns.length cn) lim nxt (.slice Ah hs.length ch) (.slice Al ls.length cl)] w fun e w' => ∃ v, e = .returned (.tuple #[v, .int .i64 0]) ∧ Own8 w' w.heap.size v (shotB i t ns lim nxt hs ls) ∧ Below w.heap.size w w' := by
  obtain ⟨g, hg⟩ : ∃ g, w.heap.size = g := ⟨_, rfl⟩
  rw [hg]
  have hBx : Below g w (w.alloc (.cells (shC i t (.slice An ns.length cn) lim nxt (.slice Ah hs.length ch) (.slice Al ls.length cl)) 29)) := (Below.refl _ _).alloc (by omega) _
  have hb1 : Blk (w.alloc (.cells (shC i t (.slice An ns.length cn) lim nxt (.slice Ah hs.length ch) (.slice Al ls.length cl)) 29)) g 29 (shC i t (.slice An ns.length cn) lim nxt (.slice Ah hs.length ch) (.slice Al ls.length cl)) := hg ▸ Blk.new _ _ _
  have HN := Lib.hid hn
  have HH := Lib.hid hh
  have HL := Lib.hid hl
  have CK := fun W h1 h2 h3 => r06_Check_any W i t An cn ns lim nxt Ah ch hs Al cl ls h1 h2 h3
  have CB := fun W h1 h2 h3 => r06_Bytes_any W i t An cn ns lim nxt Ah ch hs Al cl ls h1 h2 h3 ok.set nu
  rw [decide_eq_true ok, show errShot true = 0 from rfl] at CK
  obtain ⟨SB, hSB⟩ : ∃ SB, shotB i t ns lim nxt hs ls = SB := ⟨_, rfl⟩
  rw [hSB] at CB ⊢
  unfold shV at CK CB ⊢
  have CK := Lib.hid CK
  have CB := Lib.hid CB
  clear hn hh hl ok nu hSB
  go_enter Try.func17, Try.ntmps17
  go_upto_region 1 with (fail)
  change Code.wp _ _ _ _ (w.alloc (.cells (shC i t (.slice An ns.length cn) lim nxt (.slice Ah hs.length ch) (.slice Al ls.length cl)) 29))
  generalize (w.alloc (.cells (shC i t (.slice An ns.length cn) lim nxt (.slice Ah hs.length ch) (.slice Al ls.length cl)) 29)) = W at hb1 hBx ⊢
  try rw [hg]
  have X := Lib.hid (CK.out W (HN.out.keep (hg ▸ hBx)) (HH.out.keep (hg ▸ hBx)) (HL.out.keep (hg ▸ hBx)))
  obtain ⟨q0, q1, q2, q3, q4, q5, q6⟩ := hb1.sh
  go_wp2_with fail
  refine X.out.mono ?_
  rintro e w1 ⟨rfl, hB1⟩
  have hb2 := hb1.below hB1 hb1.lt
  have hB2 := hBx.trans (hB1.mono (Nat.le_of_lt hb1.lt))
  have X2 := Lib.hid (CB.out w1 (HN.out.keep (hg ▸ hB2)) (HH.out.keep (hg ▸ hB2)) (HL.out.keep (hg ▸ hB2)))
  have HB2 := Lib.hid hB2
  have hgl := hb2.lt
  clear q0 q1 q2 q3 q4 q5 q6 hb1 hBx hB1 X hB2
  obtain ⟨q0, q1, q2, q3, q4, q5, q6⟩ := hb2.sh
  clear hb2
  go_wp2_with fail
  refine X2.out.mono ?_
  rintro e w2 ⟨v, rfl, ho, hB3⟩
  have HO := Lib.hid (own_lower ho (Nat.le_of_lt hgl))
  have HB3 := Lib.hid (HB2.out.trans (hB3.mono (Nat.le_of_lt hgl)))
  clear ho hB3 q0 q1 q2 q3 q4 q5 q6 X2
  go_wp2
  go_ret2
  exact ⟨v, rfl, HO.out, HB3.out⟩

/-! ### The law's own example -/
theorem set13 : IsSet [1, 3] := by
  refine ⟨by simp, fun i hi _ => ?_⟩
  match i, hi with
  | 0, _ => exact ⟨show (1 : Int) ≤ 1 by omega, show (1 : Int) ≤ 7 by omega, fun h => absurd h (by omega)⟩
  | 1, _ => exact ⟨show (1 : Int) ≤ 3 by omega, show (3 : Int) ≤ 7 by omega, fun _ => show (1 : Int) < 3 by omega⟩
theorem ok13 : ShotOk 0 0 [1, 3] 2 1 [] [] :=
  ⟨(fun _ h => by cases h), set13, ⟨⟨by omega, by omega, by omega, by simp⟩, (fun _ h => by simp at h), (fun _ h => by simp at h)⟩, ⟨fun _ => rfl, fun _ => rfl⟩⟩
theorem nums13 : ShNums 0 0 [1, 3] 2 1 [] [] := ok13.nums (by omega) (by omega) (by omega) (fun _ h => by cases h) (fun _ h => by cases h)
theorem bytes13 : shotB 0 0 [1, 3] 2 1 [] [] = [83, 0, 0, 1, 2, 1, 1, 1, 3, 1, 2, 1, 1, 0, 0] := by decide +kernel

theorem live_str : ((strOfNums [83, 0, 0, 1, 2, 1, 1, 1, 3, 1, 2, 1, 1, 0, 0]).toList == [83, 0, 0, 1, 2, 1, 1, 1, 3, 1, 2, 1, 1, 0, 0]) = true := by decide +kernel
set_option maxRecDepth 100000 in
set_option maxHeartbeats 4000000 in
theorem live_any (w : World) : Calls Try.prog 18 #[] w fun e w' => e = .returned (.bool true) ∧ Below w.heap.size w w' := by
  obtain ⟨g, hg⟩ : ∃ g, w.heap.size = g := ⟨_, rfl⟩
  rw [hg]
  have hB : Below g w (w.alloc (.cells #[.int .i64 1, .int .i64 3] 3)) := (Below.refl _ _).alloc (by omega) _
  have hin : InN .i64 (w.alloc (.cells #[.int .i64 1, .int .i64 3] 3)) (some ⟨g, 0, none⟩) 2 [1, 3] := by
    have h := InN.lit (k := .i64) (e := 3) w [1, 3] (fun x hx => by simp only [List.mem_cons, List.not_mem_nil, or_false] at hx; rcases hx with rfl | rfl <;> rfl) (by simp) #[.int .i64 1, .int .i64 3] (0, 0) rfl
    rw [hg] at h
    exact h
  have C := shot_Encode_ok _ 0 0 (some ⟨g, 0, none⟩) 2 [1, 3] 2 1 none 0 [] none 0 [] hin InS.nil InS.nil (fun _ h => by cases h) (fun _ h => by cases h) (by omega) ok13 nums13
  rw [bytes13] at C
  simp only [shV, List.length_cons, List.length_nil] at C
  have C := Lib.hid C
  have HB := Lib.hid hB
  have hz : g ≤ (w.alloc (.cells #[.int .i64 1, .int .i64 3] 3)).heap.size := by simp; omega
  clear hin hB
  go_enter Try.func18, Try.ntmps18
  go_wp2_with fail
  refine C.out.mono ?_
  rintro e w2 ⟨v, rfl, ho, hB2⟩
  have HB2 := Lib.hid (HB.out.trans (hB2.mono hz))
  obtain ⟨A, c, rfl, _, _, hr⟩ := own_open ho
  have hcv := conv_str w2 _ A 15 c _ hr
  have hls := live_str
  clear ho hB2 hr hz
  go_wp2
  go_ret
  exact ⟨rfl, HB2.out⟩
end Go.Proofs.Ythdeappjankmmaa
