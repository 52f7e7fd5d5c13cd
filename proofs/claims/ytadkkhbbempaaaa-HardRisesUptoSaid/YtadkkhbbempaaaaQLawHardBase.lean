/- The walk of the law HardBase (of logs of at most 1048576 entries). -/
import Derived.Test.YtadkkhbbempaaaaP3
import Derived.Test.YtadkkhbbempaaaaP13
import Derived.Deep.WholeRow
namespace Go.Proofs.Ytadkkhbbempaaaa
set_option maxRecDepth 100000
open Go.RowKit

/-- The snapshot of the node 1 and two tokens. -/
def sh1 : Sh := ⟨0, 0, [1], 2, 1, [], []⟩
def sa1 (b : Nat) : Sa := ⟨some ⟨b, 0, none⟩, 1, none, 0, none, 0⟩
theorem sh1_wf : sh1.Wf := ⟨⟨by decide, by decide⟩, ⟨by decide, by decide⟩, by decide, by decide, ⟨by decide, by decide⟩, (fun _ h => by cases h), (fun _ h => by cases h)⟩
theorem sh1_ok : sh1.Ok := by
  refine ⟨(fun _ h => by cases h), ⟨by decide, fun i hi h => ?_⟩, ⟨⟨by decide, by decide, by decide, by decide⟩, HdsOk.zero, LssOk.zero⟩, ⟨fun _ => rfl, fun _ => rfl⟩⟩
  have : i = 0 := by simpa [sh1] using h
  subst this
  exact ⟨(by show (1 : Int) ≤ 1; decide), (by show (1 : Int) ≤ 7; decide), fun h => by omega⟩
theorem sh1_in {w : World} {b : Nat} {T : TypeId} (h : Blk w b T #[.int .i64 1]) : InSh w sh1 (sa1 b) := by
  refine ⟨⟨⟨rfl, fun _ => ⟨b, 0, rfl, h.lt, fun j u hu => ?_⟩⟩, (fun x hx => ?_), (by show 1 ≤ 1; decide), (by show 1 ≤ _; decide)⟩, InS.nil, InS.nil⟩
  · rw [Nat.zero_add, h.cell]
    simpa [nums, sh1] using hu
  · simp only [sh1, List.mem_singleton] at hx
    subst hx
    decide
def hb1 : Hb := ⟨0, 0, 0, sh1⟩
def hb3 : Hb := ⟨3, 0, 0, sh1⟩
theorem hb3_wf : (hb3.hrd []).Wf := ⟨⟨by decide, by decide⟩, ⟨by decide, by decide⟩, by decide, sh1_wf, (fun _ h => by cases h)⟩
theorem hb3_ok : (hb3.hrd []).Ok := ⟨by decide, sh1_ok, by decide, by decide, by decide, by decide, fun _ => rfl, rfl, by decide⟩
theorem hb3_base : baseD (hb3.hrd []) = [⟨1, 0, 3, 0, 0, en0, sh0⟩] := by
  unfold baseD
  rw [if_pos hb3_ok]
  rfl

set_option maxHeartbeats 4000000 in
theorem zero_any (w : World) : Calls Try.prog 18 #[] w fun e w' => ∃ b, e = .returned (hrdV hb1 (sa1 b) none 0 []) ∧ Blk w' b 3 #[.int .i64 1] ∧ Below w.heap.size w w' := by
  obtain ⟨g, hg⟩ : ∃ g, w.heap.size = g := ⟨_, rfl⟩
  rw [hg]
  go_enter Try.func18, Try.ntmps18
  go_wp2
  have hsz : (w.alloc (.cells (hrdC hb1 (sa1 (g + 1)) none 0 []) 32)).heap.size = g + 1 := by simp [hg]
  have hb : Blk ((w.alloc (.cells (hrdC hb1 (sa1 (g + 1)) none 0 []) 32)).alloc (.cells #[.int .i64 1] 3)) g 32 (hrdC hb1 (sa1 (g + 1)) none 0 []) := (hg ▸ Blk.new w 32 (hrdC hb1 (sa1 (g + 1)) none 0 []) : Blk (w.alloc (.cells (hrdC hb1 (sa1 (g + 1)) none 0 []) 32)) g 32 (hrdC hb1 (sa1 (g + 1)) none 0 [])).alloc _
  have hn : Blk ((w.alloc (.cells (hrdC hb1 (sa1 (g + 1)) none 0 []) 32)).alloc (.cells #[.int .i64 1] 3)) (g + 1) 3 #[.int .i64 1] := by
    have hn0 := Blk.new (w.alloc (.cells (hrdC hb1 (sa1 (g + 1)) none 0 []) 32)) 3 #[.int .i64 1]
    rw [hsz] at hn0
    exact hn0
  refine bodyPost_ret (results_cell1 rfl rfl (run_loadVar_row _ g 32 32 _ (0, 0) _ hb Try.underlying32 rfl info_Hard)) rfl ?_
  exact ⟨g + 1, rfl, hn, ((Below.refl _ _).alloc (by omega) _).alloc (by simp; omega) _⟩

set_option maxHeartbeats 8000000 in
theorem hardBase_row (w : World) {v : Value} (z : OpenHrd w v) (hbound : ∀ hb q PA PC ls, v = hrdV hb q PA PC ls → ls.length ≤ 1048576) :
    Calls Try.prog 4 #[v] w fun e w' => e = .returned (.bool true) ∧ Below w.heap.size w w' := by
  obtain ⟨h, p, PA, PC, xs, rfl, hin, wf, _⟩ := z
  have hn := hbound h p PA PC xs rfl
  obtain ⟨E, hE⟩ : ∃ E, errRec (decide (h.hrd xs).Ok) = E := ⟨_, rfl⟩
  have HIN := Lib.hid hin
  have C1 := fun W h1 => hard_Base_any W h p PA PC xs h1 wf hn
  have C2 := fun W h1 => r13_Base_any W h p PA PC xs h1 wf hn
  have C3 := fun W b h1 => hard_Base_any W hb3 (sa1 b) none 0 [] h1 hb3_wf (by decide)
  rw [rec_good hb3_ok, hb3_base] at C3
  rw [hE] at C1 C2
  have hbl : (baseD (h.hrd xs)).length ≤ 2000000 := by
    unfold baseD
    split
    · unfold Hrd.base
      have := base2_length (h.hrd xs)
      rw [List.length_append, addL_length]
      simp only [Hb.hrd, List.length_map] at *
      omega
    · simp
  have HBL := Lib.hid hbl
  unfold hrdV at C1 C2 C3 ⊢
  simp only [hb3, sh1, sa1, List.length_nil, List.length_singleton] at C3
  have D1 := Lib.hid C1
  have D2 := Lib.hid C2
  have D3 := Lib.hid C3
  have qe : (E == E) = true := beq_self_eq_true E
  clear hin wf hE C1 C2 C3 hbound hn hbl
  obtain ⟨g, hg⟩ : ∃ g, w.heap.size = g := ⟨_, rfl⟩
  rw [hg]
  have hBx : Below g w (w.alloc (.cells (hrdC h p PA PC xs) 32)) := (Below.refl _ _).alloc (by omega) _
  have hb1 : Blk (w.alloc (.cells (hrdC h p PA PC xs) 32)) g 32 (hrdC h p PA PC xs) := hg ▸ Blk.new _ _ _
  go_enter Try.func4, Try.ntmps4
  go_upto_region 1 with (fail)
  change Code.wp _ _ _ _ (w.alloc (.cells (hrdC h p PA PC xs) 32))
  generalize (w.alloc (.cells (hrdC h p PA PC xs) 32)) = W at hb1 hBx ⊢
  try rw [hg]
  have X1 := Lib.hid (D1.out W (HIN.out.keep (hg ▸ hBx)))
  have HB := Lib.hid hBx
  have HK := Lib.hid hb1
  obtain ⟨q0, q1, q2, q3, q4, q5, q6, q7, q8, q9, q10⟩ := hb1.hrd
  clear hb1 hBx D1
  go_wp2_with fail
  refine X1.out.mono ?_
  rintro e w1 ⟨A1, c1, rs1, rfl, hm1, hi1, hB1⟩
  have hb2 := HK.out.below hB1 HK.out.lt
  have hB2 := HB.out.trans (hB1.mono (Nat.le_of_lt HK.out.lt))
  have X2 := Lib.hid (D2.out w1 (HIN.out.keep (hg ▸ hB2)))
  have HM1 := Lib.hid hm1
  have HI1 := Lib.hid hi1
  clear q0 q1 q2 q3 q4 q5 q6 q7 q8 q9 q10 HB HK X1 D2 hm1 hi1 hB1
  have HB := Lib.hid hB2
  have HK := Lib.hid hb2
  obtain ⟨q0, q1, q2, q3, q4, q5, q6, q7, q8, q9, q10⟩ := hb2.hrd
  clear hb2 hB2
  go_wp2_with fail
  refine X2.out.mono ?_
  rintro e w2 ⟨A2, c2, rs2, rfl, hm2, hi2, hB3⟩
  have hB4 := HB.out.trans (hB3.mono (Nat.le_of_lt HK.out.lt))
  have hgs : g ≤ w2.heap.size := Nat.le_trans (Nat.le_of_lt HK.out.lt) hB3.size
  have HI1 := Lib.hid (HI1.out.keep hB3)
  have HM2 := Lib.hid hm2
  have HI2 := Lib.hid hi2
  clear q0 q1 q2 q3 q4 q5 q6 q7 q8 q9 q10 HB HK X2 hm2 hi2 hB3
  have HB := Lib.hid hB4
  have X3' := zero_any w2
  unfold hrdV at X3'
  simp only [hb1, sh1, sa1, List.length_nil, List.length_singleton] at X3'
  have X3 := Lib.hid X3'
  clear hB4 X3'
  go_wp2_with fail
  refine X3.out.mono ?_
  rintro e w3 ⟨b, rfl, hn3, hB5⟩
  have hfd : ∀ W : World, (Instr.field 32 (.agg #[.int .u64 0, .int .u64 0, .int .i64 0, .int .u64 0, .int .u64 0, .slice (some ⟨b, 0, none⟩) 1 1, .int .i64 2, .int .u64 1, .slice none 0 0, .slice none 0 0, .slice none 0 0]) 3).run Try.prog W = .ok (.agg #[.int .u64 0, .int .u64 0, .slice (some ⟨b, 0, none⟩) 1 1, .int .i64 2, .int .u64 1, .slice none 0 0, .slice none 0 0]) W := fun _ => by kernel_rfl
  have X4 := Lib.hid (D3.out w3 b ⟨sh1_in hn3, InE.nil⟩)
  have HB6 := Lib.hid (HB.out.trans (hB5.mono hgs))
  have hgs3 : g ≤ w3.heap.size := Nat.le_trans hgs hB5.size
  have HI1 := Lib.hid (HI1.out.keep hB5)
  have HI2 := Lib.hid (HI2.out.keep hB5)
  clear hn3 hB5 X3 D3 HB hgs
  go_wp2_with fail
  refine X4.out.mono ?_
  rintro e w4 ⟨A4, c4, rs4, rfl, hm4, _, hB7⟩
  have hl4 : rs4.length = 1 := by
    have := congrArg List.length hm4
    rwa [List.length_map] at this
  rw [hl4]
  clear hl4
  have HB8 := Lib.hid (HB6.out.trans (hB7.mono hgs3))
  have hgs4 : g ≤ w4.heap.size := Nat.le_trans hgs3 hB7.size
  have hl1 : rs1.length ≤ 100000000 := by
    have := congrArg List.length HM1.out
    rw [List.length_map] at this
    have := HBL.out
    omega
  have X5 := Lib.hid (r13_SameRecs_eq w4 A1 c1 rs1 A2 c2 rs2 (HI1.out.keep hB7) (HI2.out.keep hB7) (HM1.out.trans HM2.out.symm) hl1)
  clear hm4 hB7 X4 hfd HB6 hgs3 hl1 HI1 HI2 HM1 HM2
  go_wp2_with fail
  refine X5.out.mono ?_
  rintro e w5 ⟨rfl, hB9⟩
  have HB9 := Lib.hid (HB8.out.trans (hB9.mono hgs4))
  clear hB9 X5
  go_wp2
  go_ret
  exact ⟨rfl, HB9.out⟩
end Go.Proofs.Ytadkkhbbempaaaa
