/- Pools: who waits goes. -/
import Derived.Test.YtidkhekekfennaaPlM
import Derived.StillTailTactics
import Derived.Deep.RegionLaw
import Derived.Deep.DeepCutAuto
namespace Go.Proofs.Ytidkhekekfennaa
set_option maxRecDepth 100000
set_option linter.unusedVariables false
open Go.RowKit

def plC (v : Value) (a b c d n : Int) : Array Value := #[v, .int .i64 a, .int .i64 b, .int .i64 c, .int .i64 d, .int .i64 n]
structure PlCells (w : World) (g : Nat) (v : Value) (a b c d n : Int) : Prop where
  z0 : w.cell? ⟨g, 0, none⟩ = some v
  z1 : w.cell? ⟨g, 1, none⟩ = some (.int .i64 a)
  z2 : w.cell? ⟨g, 2, none⟩ = some (.int .i64 b)
  z3 : w.cell? ⟨g, 3, none⟩ = some (.int .i64 c)
  z4 : w.cell? ⟨g, 4, none⟩ = some (.int .i64 d)
  z5 : w.cell? ⟨g, 5, none⟩ = some (.int .i64 n)
theorem Blk.pl {w : World} {g : Nat} {T : TypeId} {v : Value} {a b c d n : Int} (h : Blk w g T (plC v a b c d n)) : PlCells w g v a b c d n := by
  constructor <;> (rw [h.cell]; rfl)
theorem size_int : (Try.prog.info? 3).map (·.size) = some 1 := by kernel_rfl
set_option maxHeartbeats 2000000 in
theorem leave_1_0 (w : World) (g : Nat) (v : Value) (a : Int) (hb : Blk w g 49 (plC v a 0 0 0 1)) :
    Calls Try.prog 38 #[.pointer (some ⟨g, 0, none⟩), .int .i64 0] w fun e w' => e = .returned (.tuple #[]) ∧ Blk w' g 49 (plC v 0 0 0 0 0) ∧ w.grownBy w' (some g) := by
  have hcp : ∀ ty, (Builtin.copy_ #[28, 28] ty #[.slice (some ⟨g, 1, none⟩) 4 4, .slice (some ⟨g, 2, none⟩) 3 3]).run Try.prog w.drew = .ok (goInt (Nat.min 3 4)) (w.drew.setCells g 1 [Value.int .i64 0, Value.int .i64 0, Value.int .i64 0]) := fun ty =>
    run_copy_rows w.drew _ _ ty 3 1 g 1 4 4 ⟨g, 2, none⟩ 3 3 _ Try.underlying28 size_int rfl
      (fun j u hj => by
        rw [add_plain, hb.drew.cell]
        match j, hj with
        | 0, hj => exact hj
        | 1, hj => exact hj
        | 2, hj => exact hj) (fun j hj => by
        rw [hb.drew.cell]
        have hj2 : j < 3 := hj
        match j, hj2 with
        | 0, _ => rfl
        | 1, _ => rfl
        | 2, _ => rfl) (fun j _ => hb.drew.frozen _) (by simp [Value.oneCell'])
  obtain ⟨W1, hW1⟩ : ∃ W1, W1 = (w.drew.setCells g 1 [Value.int .i64 0, Value.int .i64 0, Value.int .i64 0]) := ⟨_, rfl⟩
  have hb1 : Blk W1 g 49 (plC v 0 0 0 0 1) := by
    rw [hW1]
    exact hb.drew.mid (l := [v, .int .i64 a, .int .i64 0, .int .i64 0, .int .i64 0, .int .i64 1]) [Value.int .i64 0, Value.int .i64 0, Value.int .i64 0] 1
  have hg1 : w.grownBy W1 (some g) := by
    rw [hW1]
    exact World.grownBy.trans (only_drew (World.grownBy.refl w (some g))) (mid_grown g _ _)
  rw [← hW1] at hcp
  have HW1 := Lib.hid hW1
  clear hb hW1
  have hw : IntKind.i64.wrap 1 = 1 := by decide
  go_enter Try.func38, Try.ntmps38
  go_wp2
  go_region_law (refine step_copy_eq rfl _ _ 28 28 rfl _ _ (by simp [Act.eval, Act.put]) (by simp [Act.eval, Act.put]) (hcp _) ?_)
  
  have z5 := hb1.pl.z5
  have f5 := hb1.frozen 5
  have hb2 : Blk (W1.setCell ⟨g, 5, none⟩ (.int .i64 0)) g 49 (plC v 0 0 0 0 0) := Blk.setL (l := [v, .int .i64 0, .int .i64 0, .int .i64 0, .int .i64 0, .int .i64 1]) hb1 5 _
  have hg2 := Lib.hid (only_setCell hg1 (p := ⟨g, 5, none⟩) (.inl rfl) (.int .i64 0))
  clear hg1
  go_upto_region 2 with (fail)
  change Code.wp _ _ _ _ (W1.setCell ⟨g, 5, none⟩ (.int .i64 0))
  generalize W1.setCell ⟨g, 5, none⟩ (.int .i64 0) = W2 at hb2 hg2 ⊢
  clear hb1 z5 f5
  have z5 := hb2.pl.z5
  have z4 := hb2.drew.pl.z1
  have f4 := hb2.drew.frozen 1
  have hb3 : Blk (W2.drew.setCell ⟨g, 1, none⟩ (.int .i64 0)) g 49 (plC v 0 0 0 0 0) := Blk.setL (l := [v, .int .i64 0, .int .i64 0, .int .i64 0, .int .i64 0, .int .i64 0]) hb2.drew 1 _
  have HB3 := Lib.hid hb3
  have HG3 := Lib.hid (only_setCell (only_drew hg2.out) (p := ⟨g, 1, none⟩) (.inl rfl) (.int .i64 0))
  clear hb2 hb3 hg2
  go_still_tail 8, (by kernel_rfl)
  change wpList _ _ _ _ _ W2.drew
  go_wp2
  refine bodyPost_end (results_none rfl _ _ _) rfl ?_
  exact ⟨rfl, HB3.out, HG3.out⟩
set_option maxHeartbeats 2000000 in
theorem leave_2_0 (w : World) (g : Nat) (v : Value) (a b : Int) (hb : Blk w g 49 (plC v a b 0 0 2)) :
    Calls Try.prog 38 #[.pointer (some ⟨g, 0, none⟩), .int .i64 0] w fun e w' => e = .returned (.tuple #[]) ∧ Blk w' g 49 (plC v b 0 0 0 1) ∧ w.grownBy w' (some g) := by
  have hcp : ∀ ty, (Builtin.copy_ #[28, 28] ty #[.slice (some ⟨g, 1, none⟩) 4 4, .slice (some ⟨g, 2, none⟩) 3 3]).run Try.prog w.drew = .ok (goInt (Nat.min 3 4)) (w.drew.setCells g 1 [Value.int .i64 b, Value.int .i64 0, Value.int .i64 0]) := fun ty =>
    run_copy_rows w.drew _ _ ty 3 1 g 1 4 4 ⟨g, 2, none⟩ 3 3 _ Try.underlying28 size_int rfl
      (fun j u hj => by
        rw [add_plain, hb.drew.cell]
        match j, hj with
        | 0, hj => exact hj
        | 1, hj => exact hj
        | 2, hj => exact hj) (fun j hj => by
        rw [hb.drew.cell]
        have hj2 : j < 3 := hj
        match j, hj2 with
        | 0, _ => rfl
        | 1, _ => rfl
        | 2, _ => rfl) (fun j _ => hb.drew.frozen _) (by simp [Value.oneCell'])
  obtain ⟨W1, hW1⟩ : ∃ W1, W1 = (w.drew.setCells g 1 [Value.int .i64 b, Value.int .i64 0, Value.int .i64 0]) := ⟨_, rfl⟩
  have hb1 : Blk W1 g 49 (plC v b 0 0 0 2) := by
    rw [hW1]
    exact hb.drew.mid (l := [v, .int .i64 a, .int .i64 b, .int .i64 0, .int .i64 0, .int .i64 2]) [Value.int .i64 b, Value.int .i64 0, Value.int .i64 0] 1
  have hg1 : w.grownBy W1 (some g) := by
    rw [hW1]
    exact World.grownBy.trans (only_drew (World.grownBy.refl w (some g))) (mid_grown g _ _)
  rw [← hW1] at hcp
  have HW1 := Lib.hid hW1
  clear hb hW1
  have hw : IntKind.i64.wrap 1 = 1 := by decide
  go_enter Try.func38, Try.ntmps38
  go_wp2
  go_region_law (refine step_copy_eq rfl _ _ 28 28 rfl _ _ (by simp [Act.eval, Act.put]) (by simp [Act.eval, Act.put]) (hcp _) ?_)
  
  have z5 := hb1.pl.z5
  have f5 := hb1.frozen 5
  have hb2 : Blk (W1.setCell ⟨g, 5, none⟩ (.int .i64 1)) g 49 (plC v b 0 0 0 1) := Blk.setL (l := [v, .int .i64 b, .int .i64 0, .int .i64 0, .int .i64 0, .int .i64 2]) hb1 5 _
  have hg2 := Lib.hid (only_setCell hg1 (p := ⟨g, 5, none⟩) (.inl rfl) (.int .i64 1))
  clear hg1
  go_upto_region 2 with (fail)
  change Code.wp _ _ _ _ (W1.setCell ⟨g, 5, none⟩ (.int .i64 1))
  generalize W1.setCell ⟨g, 5, none⟩ (.int .i64 1) = W2 at hb2 hg2 ⊢
  clear hb1 z5 f5
  have z5 := hb2.pl.z5
  have z4 := hb2.drew.pl.z2
  have f4 := hb2.drew.frozen 2
  have hb3 : Blk (W2.drew.setCell ⟨g, 2, none⟩ (.int .i64 0)) g 49 (plC v b 0 0 0 1) := Blk.setL (l := [v, .int .i64 b, .int .i64 0, .int .i64 0, .int .i64 0, .int .i64 1]) hb2.drew 2 _
  have HB3 := Lib.hid hb3
  have HG3 := Lib.hid (only_setCell (only_drew hg2.out) (p := ⟨g, 2, none⟩) (.inl rfl) (.int .i64 0))
  clear hb2 hb3 hg2
  go_still_tail 8, (by kernel_rfl)
  change wpList _ _ _ _ _ W2.drew
  go_wp2
  refine bodyPost_end (results_none rfl _ _ _) rfl ?_
  exact ⟨rfl, HB3.out, HG3.out⟩
set_option maxHeartbeats 2000000 in
theorem leave_2_1 (w : World) (g : Nat) (v : Value) (a b : Int) (hb : Blk w g 49 (plC v a b 0 0 2)) :
    Calls Try.prog 38 #[.pointer (some ⟨g, 0, none⟩), .int .i64 1] w fun e w' => e = .returned (.tuple #[]) ∧ Blk w' g 49 (plC v a 0 0 0 1) ∧ w.grownBy w' (some g) := by
  have hcp : ∀ ty, (Builtin.copy_ #[28, 28] ty #[.slice (some ⟨g, 2, none⟩) 3 3, .slice (some ⟨g, 3, none⟩) 2 2]).run Try.prog w.drew = .ok (goInt (Nat.min 2 3)) (w.drew.setCells g 2 [Value.int .i64 0, Value.int .i64 0]) := fun ty =>
    run_copy_rows w.drew _ _ ty 3 1 g 2 3 3 ⟨g, 3, none⟩ 2 2 _ Try.underlying28 size_int rfl
      (fun j u hj => by
        rw [add_plain, hb.drew.cell]
        match j, hj with
        | 0, hj => exact hj
        | 1, hj => exact hj) (fun j hj => by
        rw [hb.drew.cell]
        have hj2 : j < 2 := hj
        match j, hj2 with
        | 0, _ => rfl
        | 1, _ => rfl) (fun j _ => hb.drew.frozen _) (by simp [Value.oneCell'])
  obtain ⟨W1, hW1⟩ : ∃ W1, W1 = (w.drew.setCells g 2 [Value.int .i64 0, Value.int .i64 0]) := ⟨_, rfl⟩
  have hb1 : Blk W1 g 49 (plC v a 0 0 0 2) := by
    rw [hW1]
    exact hb.drew.mid (l := [v, .int .i64 a, .int .i64 b, .int .i64 0, .int .i64 0, .int .i64 2]) [Value.int .i64 0, Value.int .i64 0] 2
  have hg1 : w.grownBy W1 (some g) := by
    rw [hW1]
    exact World.grownBy.trans (only_drew (World.grownBy.refl w (some g))) (mid_grown g _ _)
  rw [← hW1] at hcp
  have HW1 := Lib.hid hW1
  clear hb hW1
  have hw : IntKind.i64.wrap 2 = 2 := by decide
  go_enter Try.func38, Try.ntmps38
  go_wp2
  go_region_law (refine step_copy_eq rfl _ _ 28 28 rfl _ _ (by simp [Act.eval, Act.put]) (by simp [Act.eval, Act.put]) (hcp _) ?_)
  
  have z5 := hb1.pl.z5
  have f5 := hb1.frozen 5
  have hb2 : Blk (W1.setCell ⟨g, 5, none⟩ (.int .i64 1)) g 49 (plC v a 0 0 0 1) := Blk.setL (l := [v, .int .i64 a, .int .i64 0, .int .i64 0, .int .i64 0, .int .i64 2]) hb1 5 _
  have hg2 := Lib.hid (only_setCell hg1 (p := ⟨g, 5, none⟩) (.inl rfl) (.int .i64 1))
  clear hg1
  go_upto_region 2 with (fail)
  change Code.wp _ _ _ _ (W1.setCell ⟨g, 5, none⟩ (.int .i64 1))
  generalize W1.setCell ⟨g, 5, none⟩ (.int .i64 1) = W2 at hb2 hg2 ⊢
  clear hb1 z5 f5
  have z5 := hb2.pl.z5
  have z4 := hb2.drew.pl.z2
  have f4 := hb2.drew.frozen 2
  have hb3 : Blk (W2.drew.setCell ⟨g, 2, none⟩ (.int .i64 0)) g 49 (plC v a 0 0 0 1) := Blk.setL (l := [v, .int .i64 a, .int .i64 0, .int .i64 0, .int .i64 0, .int .i64 1]) hb2.drew 2 _
  have HB3 := Lib.hid hb3
  have HG3 := Lib.hid (only_setCell (only_drew hg2.out) (p := ⟨g, 2, none⟩) (.inl rfl) (.int .i64 0))
  clear hb2 hb3 hg2
  go_still_tail 8, (by kernel_rfl)
  change wpList _ _ _ _ _ W2.drew
  go_wp2
  refine bodyPost_end (results_none rfl _ _ _) rfl ?_
  exact ⟨rfl, HB3.out, HG3.out⟩
set_option maxHeartbeats 2000000 in
theorem leave_3_0 (w : World) (g : Nat) (v : Value) (a b c : Int) (hb : Blk w g 49 (plC v a b c 0 3)) :
    Calls Try.prog 38 #[.pointer (some ⟨g, 0, none⟩), .int .i64 0] w fun e w' => e = .returned (.tuple #[]) ∧ Blk w' g 49 (plC v b c 0 0 2) ∧ w.grownBy w' (some g) := by
  have hcp : ∀ ty, (Builtin.copy_ #[28, 28] ty #[.slice (some ⟨g, 1, none⟩) 4 4, .slice (some ⟨g, 2, none⟩) 3 3]).run Try.prog w.drew = .ok (goInt (Nat.min 3 4)) (w.drew.setCells g 1 [Value.int .i64 b, Value.int .i64 c, Value.int .i64 0]) := fun ty =>
    run_copy_rows w.drew _ _ ty 3 1 g 1 4 4 ⟨g, 2, none⟩ 3 3 _ Try.underlying28 size_int rfl
      (fun j u hj => by
        rw [add_plain, hb.drew.cell]
        match j, hj with
        | 0, hj => exact hj
        | 1, hj => exact hj
        | 2, hj => exact hj) (fun j hj => by
        rw [hb.drew.cell]
        have hj2 : j < 3 := hj
        match j, hj2 with
        | 0, _ => rfl
        | 1, _ => rfl
        | 2, _ => rfl) (fun j _ => hb.drew.frozen _) (by simp [Value.oneCell'])
  obtain ⟨W1, hW1⟩ : ∃ W1, W1 = (w.drew.setCells g 1 [Value.int .i64 b, Value.int .i64 c, Value.int .i64 0]) := ⟨_, rfl⟩
  have hb1 : Blk W1 g 49 (plC v b c 0 0 3) := by
    rw [hW1]
    exact hb.drew.mid (l := [v, .int .i64 a, .int .i64 b, .int .i64 c, .int .i64 0, .int .i64 3]) [Value.int .i64 b, Value.int .i64 c, Value.int .i64 0] 1
  have hg1 : w.grownBy W1 (some g) := by
    rw [hW1]
    exact World.grownBy.trans (only_drew (World.grownBy.refl w (some g))) (mid_grown g _ _)
  rw [← hW1] at hcp
  have HW1 := Lib.hid hW1
  clear hb hW1
  have hw : IntKind.i64.wrap 1 = 1 := by decide
  go_enter Try.func38, Try.ntmps38
  go_wp2
  go_region_law (refine step_copy_eq rfl _ _ 28 28 rfl _ _ (by simp [Act.eval, Act.put]) (by simp [Act.eval, Act.put]) (hcp _) ?_)
  
  have z5 := hb1.pl.z5
  have f5 := hb1.frozen 5
  have hb2 : Blk (W1.setCell ⟨g, 5, none⟩ (.int .i64 2)) g 49 (plC v b c 0 0 2) := Blk.setL (l := [v, .int .i64 b, .int .i64 c, .int .i64 0, .int .i64 0, .int .i64 3]) hb1 5 _
  have hg2 := Lib.hid (only_setCell hg1 (p := ⟨g, 5, none⟩) (.inl rfl) (.int .i64 2))
  clear hg1
  go_upto_region 2 with (fail)
  change Code.wp _ _ _ _ (W1.setCell ⟨g, 5, none⟩ (.int .i64 2))
  generalize W1.setCell ⟨g, 5, none⟩ (.int .i64 2) = W2 at hb2 hg2 ⊢
  clear hb1 z5 f5
  have z5 := hb2.pl.z5
  have z4 := hb2.drew.pl.z3
  have f4 := hb2.drew.frozen 3
  have hb3 : Blk (W2.drew.setCell ⟨g, 3, none⟩ (.int .i64 0)) g 49 (plC v b c 0 0 2) := Blk.setL (l := [v, .int .i64 b, .int .i64 c, .int .i64 0, .int .i64 0, .int .i64 2]) hb2.drew 3 _
  have HB3 := Lib.hid hb3
  have HG3 := Lib.hid (only_setCell (only_drew hg2.out) (p := ⟨g, 3, none⟩) (.inl rfl) (.int .i64 0))
  clear hb2 hb3 hg2
  go_still_tail 8, (by kernel_rfl)
  change wpList _ _ _ _ _ W2.drew
  go_wp2
  refine bodyPost_end (results_none rfl _ _ _) rfl ?_
  exact ⟨rfl, HB3.out, HG3.out⟩
set_option maxHeartbeats 2000000 in
theorem leave_3_1 (w : World) (g : Nat) (v : Value) (a b c : Int) (hb : Blk w g 49 (plC v a b c 0 3)) :
    Calls Try.prog 38 #[.pointer (some ⟨g, 0, none⟩), .int .i64 1] w fun e w' => e = .returned (.tuple #[]) ∧ Blk w' g 49 (plC v a c 0 0 2) ∧ w.grownBy w' (some g) := by
  have hcp : ∀ ty, (Builtin.copy_ #[28, 28] ty #[.slice (some ⟨g, 2, none⟩) 3 3, .slice (some ⟨g, 3, none⟩) 2 2]).run Try.prog w.drew = .ok (goInt (Nat.min 2 3)) (w.drew.setCells g 2 [Value.int .i64 c, Value.int .i64 0]) := fun ty =>
    run_copy_rows w.drew _ _ ty 3 1 g 2 3 3 ⟨g, 3, none⟩ 2 2 _ Try.underlying28 size_int rfl
      (fun j u hj => by
        rw [add_plain, hb.drew.cell]
        match j, hj with
        | 0, hj => exact hj
        | 1, hj => exact hj) (fun j hj => by
        rw [hb.drew.cell]
        have hj2 : j < 2 := hj
        match j, hj2 with
        | 0, _ => rfl
        | 1, _ => rfl) (fun j _ => hb.drew.frozen _) (by simp [Value.oneCell'])
  obtain ⟨W1, hW1⟩ : ∃ W1, W1 = (w.drew.setCells g 2 [Value.int .i64 c, Value.int .i64 0]) := ⟨_, rfl⟩
  have hb1 : Blk W1 g 49 (plC v a c 0 0 3) := by
    rw [hW1]
    exact hb.drew.mid (l := [v, .int .i64 a, .int .i64 b, .int .i64 c, .int .i64 0, .int .i64 3]) [Value.int .i64 c, Value.int .i64 0] 2
  have hg1 : w.grownBy W1 (some g) := by
    rw [hW1]
    exact World.grownBy.trans (only_drew (World.grownBy.refl w (some g))) (mid_grown g _ _)
  rw [← hW1] at hcp
  have HW1 := Lib.hid hW1
  clear hb hW1
  have hw : IntKind.i64.wrap 2 = 2 := by decide
  go_enter Try.func38, Try.ntmps38
  go_wp2
  go_region_law (refine step_copy_eq rfl _ _ 28 28 rfl _ _ (by simp [Act.eval, Act.put]) (by simp [Act.eval, Act.put]) (hcp _) ?_)
  
  have z5 := hb1.pl.z5
  have f5 := hb1.frozen 5
  have hb2 : Blk (W1.setCell ⟨g, 5, none⟩ (.int .i64 2)) g 49 (plC v a c 0 0 2) := Blk.setL (l := [v, .int .i64 a, .int .i64 c, .int .i64 0, .int .i64 0, .int .i64 3]) hb1 5 _
  have hg2 := Lib.hid (only_setCell hg1 (p := ⟨g, 5, none⟩) (.inl rfl) (.int .i64 2))
  clear hg1
  go_upto_region 2 with (fail)
  change Code.wp _ _ _ _ (W1.setCell ⟨g, 5, none⟩ (.int .i64 2))
  generalize W1.setCell ⟨g, 5, none⟩ (.int .i64 2) = W2 at hb2 hg2 ⊢
  clear hb1 z5 f5
  have z5 := hb2.pl.z5
  have z4 := hb2.drew.pl.z3
  have f4 := hb2.drew.frozen 3
  have hb3 : Blk (W2.drew.setCell ⟨g, 3, none⟩ (.int .i64 0)) g 49 (plC v a c 0 0 2) := Blk.setL (l := [v, .int .i64 a, .int .i64 c, .int .i64 0, .int .i64 0, .int .i64 2]) hb2.drew 3 _
  have HB3 := Lib.hid hb3
  have HG3 := Lib.hid (only_setCell (only_drew hg2.out) (p := ⟨g, 3, none⟩) (.inl rfl) (.int .i64 0))
  clear hb2 hb3 hg2
  go_still_tail 8, (by kernel_rfl)
  change wpList _ _ _ _ _ W2.drew
  go_wp2
  refine bodyPost_end (results_none rfl _ _ _) rfl ?_
  exact ⟨rfl, HB3.out, HG3.out⟩
set_option maxHeartbeats 2000000 in
theorem leave_3_2 (w : World) (g : Nat) (v : Value) (a b c : Int) (hb : Blk w g 49 (plC v a b c 0 3)) :
    Calls Try.prog 38 #[.pointer (some ⟨g, 0, none⟩), .int .i64 2] w fun e w' => e = .returned (.tuple #[]) ∧ Blk w' g 49 (plC v a b 0 0 2) ∧ w.grownBy w' (some g) := by
  have hcp : ∀ ty, (Builtin.copy_ #[28, 28] ty #[.slice (some ⟨g, 3, none⟩) 2 2, .slice (some ⟨g, 4, none⟩) 1 1]).run Try.prog w.drew = .ok (goInt (Nat.min 1 2)) (w.drew.setCells g 3 [Value.int .i64 0]) := fun ty =>
    run_copy_rows w.drew _ _ ty 3 1 g 3 2 2 ⟨g, 4, none⟩ 1 1 _ Try.underlying28 size_int rfl
      (fun j u hj => by
        rw [add_plain, hb.drew.cell]
        match j, hj with
        | 0, hj => exact hj) (fun j hj => by
        rw [hb.drew.cell]
        have hj2 : j < 1 := hj
        match j, hj2 with
        | 0, _ => rfl) (fun j _ => hb.drew.frozen _) (by simp [Value.oneCell'])
  obtain ⟨W1, hW1⟩ : ∃ W1, W1 = (w.drew.setCells g 3 [Value.int .i64 0]) := ⟨_, rfl⟩
  have hb1 : Blk W1 g 49 (plC v a b 0 0 3) := by
    rw [hW1]
    exact hb.drew.mid (l := [v, .int .i64 a, .int .i64 b, .int .i64 c, .int .i64 0, .int .i64 3]) [Value.int .i64 0] 3
  have hg1 : w.grownBy W1 (some g) := by
    rw [hW1]
    exact World.grownBy.trans (only_drew (World.grownBy.refl w (some g))) (mid_grown g _ _)
  rw [← hW1] at hcp
  have HW1 := Lib.hid hW1
  clear hb hW1
  have hw : IntKind.i64.wrap 3 = 3 := by decide
  go_enter Try.func38, Try.ntmps38
  go_wp2
  go_region_law (refine step_copy_eq rfl _ _ 28 28 rfl _ _ (by simp [Act.eval, Act.put]) (by simp [Act.eval, Act.put]) (hcp _) ?_)
  
  have z5 := hb1.pl.z5
  have f5 := hb1.frozen 5
  have hb2 : Blk (W1.setCell ⟨g, 5, none⟩ (.int .i64 2)) g 49 (plC v a b 0 0 2) := Blk.setL (l := [v, .int .i64 a, .int .i64 b, .int .i64 0, .int .i64 0, .int .i64 3]) hb1 5 _
  have hg2 := Lib.hid (only_setCell hg1 (p := ⟨g, 5, none⟩) (.inl rfl) (.int .i64 2))
  clear hg1
  go_upto_region 2 with (fail)
  change Code.wp _ _ _ _ (W1.setCell ⟨g, 5, none⟩ (.int .i64 2))
  generalize W1.setCell ⟨g, 5, none⟩ (.int .i64 2) = W2 at hb2 hg2 ⊢
  clear hb1 z5 f5
  have z5 := hb2.pl.z5
  have z4 := hb2.drew.pl.z3
  have f4 := hb2.drew.frozen 3
  have hb3 : Blk (W2.drew.setCell ⟨g, 3, none⟩ (.int .i64 0)) g 49 (plC v a b 0 0 2) := Blk.setL (l := [v, .int .i64 a, .int .i64 b, .int .i64 0, .int .i64 0, .int .i64 2]) hb2.drew 3 _
  have HB3 := Lib.hid hb3
  have HG3 := Lib.hid (only_setCell (only_drew hg2.out) (p := ⟨g, 3, none⟩) (.inl rfl) (.int .i64 0))
  clear hb2 hb3 hg2
  go_still_tail 8, (by kernel_rfl)
  change wpList _ _ _ _ _ W2.drew
  go_wp2
  refine bodyPost_end (results_none rfl _ _ _) rfl ?_
  exact ⟨rfl, HB3.out, HG3.out⟩
set_option maxHeartbeats 2000000 in
theorem leave_4_0 (w : World) (g : Nat) (v : Value) (a b c d : Int) (hb : Blk w g 49 (plC v a b c d 4)) :
    Calls Try.prog 38 #[.pointer (some ⟨g, 0, none⟩), .int .i64 0] w fun e w' => e = .returned (.tuple #[]) ∧ Blk w' g 49 (plC v b c d 0 3) ∧ w.grownBy w' (some g) := by
  have hcp : ∀ ty, (Builtin.copy_ #[28, 28] ty #[.slice (some ⟨g, 1, none⟩) 4 4, .slice (some ⟨g, 2, none⟩) 3 3]).run Try.prog w.drew = .ok (goInt (Nat.min 3 4)) (w.drew.setCells g 1 [Value.int .i64 b, Value.int .i64 c, Value.int .i64 d]) := fun ty =>
    run_copy_rows w.drew _ _ ty 3 1 g 1 4 4 ⟨g, 2, none⟩ 3 3 _ Try.underlying28 size_int rfl
      (fun j u hj => by
        rw [add_plain, hb.drew.cell]
        match j, hj with
        | 0, hj => exact hj
        | 1, hj => exact hj
        | 2, hj => exact hj) (fun j hj => by
        rw [hb.drew.cell]
        have hj2 : j < 3 := hj
        match j, hj2 with
        | 0, _ => rfl
        | 1, _ => rfl
        | 2, _ => rfl) (fun j _ => hb.drew.frozen _) (by simp [Value.oneCell'])
  obtain ⟨W1, hW1⟩ : ∃ W1, W1 = (w.drew.setCells g 1 [Value.int .i64 b, Value.int .i64 c, Value.int .i64 d]) := ⟨_, rfl⟩
  have hb1 : Blk W1 g 49 (plC v b c d d 4) := by
    rw [hW1]
    exact hb.drew.mid (l := [v, .int .i64 a, .int .i64 b, .int .i64 c, .int .i64 d, .int .i64 4]) [Value.int .i64 b, Value.int .i64 c, Value.int .i64 d] 1
  have hg1 : w.grownBy W1 (some g) := by
    rw [hW1]
    exact World.grownBy.trans (only_drew (World.grownBy.refl w (some g))) (mid_grown g _ _)
  rw [← hW1] at hcp
  have HW1 := Lib.hid hW1
  clear hb hW1
  have hw : IntKind.i64.wrap 1 = 1 := by decide
  go_enter Try.func38, Try.ntmps38
  go_wp2
  go_region_law (refine step_copy_eq rfl _ _ 28 28 rfl _ _ (by simp [Act.eval, Act.put]) (by simp [Act.eval, Act.put]) (hcp _) ?_)
  
  have z5 := hb1.pl.z5
  have f5 := hb1.frozen 5
  have hb2 : Blk (W1.setCell ⟨g, 5, none⟩ (.int .i64 3)) g 49 (plC v b c d d 3) := Blk.setL (l := [v, .int .i64 b, .int .i64 c, .int .i64 d, .int .i64 d, .int .i64 4]) hb1 5 _
  have hg2 := Lib.hid (only_setCell hg1 (p := ⟨g, 5, none⟩) (.inl rfl) (.int .i64 3))
  clear hg1
  go_upto_region 2 with (fail)
  change Code.wp _ _ _ _ (W1.setCell ⟨g, 5, none⟩ (.int .i64 3))
  generalize W1.setCell ⟨g, 5, none⟩ (.int .i64 3) = W2 at hb2 hg2 ⊢
  clear hb1 z5 f5
  have z5 := hb2.pl.z5
  have z4 := hb2.drew.pl.z4
  have f4 := hb2.drew.frozen 4
  have hb3 : Blk (W2.drew.setCell ⟨g, 4, none⟩ (.int .i64 0)) g 49 (plC v b c d 0 3) := Blk.setL (l := [v, .int .i64 b, .int .i64 c, .int .i64 d, .int .i64 d, .int .i64 3]) hb2.drew 4 _
  have HB3 := Lib.hid hb3
  have HG3 := Lib.hid (only_setCell (only_drew hg2.out) (p := ⟨g, 4, none⟩) (.inl rfl) (.int .i64 0))
  clear hb2 hb3 hg2
  go_still_tail 8, (by kernel_rfl)
  change wpList _ _ _ _ _ W2.drew
  go_wp2
  refine bodyPost_end (results_none rfl _ _ _) rfl ?_
  exact ⟨rfl, HB3.out, HG3.out⟩
set_option maxHeartbeats 2000000 in
theorem leave_4_1 (w : World) (g : Nat) (v : Value) (a b c d : Int) (hb : Blk w g 49 (plC v a b c d 4)) :
    Calls Try.prog 38 #[.pointer (some ⟨g, 0, none⟩), .int .i64 1] w fun e w' => e = .returned (.tuple #[]) ∧ Blk w' g 49 (plC v a c d 0 3) ∧ w.grownBy w' (some g) := by
  have hcp : ∀ ty, (Builtin.copy_ #[28, 28] ty #[.slice (some ⟨g, 2, none⟩) 3 3, .slice (some ⟨g, 3, none⟩) 2 2]).run Try.prog w.drew = .ok (goInt (Nat.min 2 3)) (w.drew.setCells g 2 [Value.int .i64 c, Value.int .i64 d]) := fun ty =>
    run_copy_rows w.drew _ _ ty 3 1 g 2 3 3 ⟨g, 3, none⟩ 2 2 _ Try.underlying28 size_int rfl
      (fun j u hj => by
        rw [add_plain, hb.drew.cell]
        match j, hj with
        | 0, hj => exact hj
        | 1, hj => exact hj) (fun j hj => by
        rw [hb.drew.cell]
        have hj2 : j < 2 := hj
        match j, hj2 with
        | 0, _ => rfl
        | 1, _ => rfl) (fun j _ => hb.drew.frozen _) (by simp [Value.oneCell'])
  obtain ⟨W1, hW1⟩ : ∃ W1, W1 = (w.drew.setCells g 2 [Value.int .i64 c, Value.int .i64 d]) := ⟨_, rfl⟩
  have hb1 : Blk W1 g 49 (plC v a c d d 4) := by
    rw [hW1]
    exact hb.drew.mid (l := [v, .int .i64 a, .int .i64 b, .int .i64 c, .int .i64 d, .int .i64 4]) [Value.int .i64 c, Value.int .i64 d] 2
  have hg1 : w.grownBy W1 (some g) := by
    rw [hW1]
    exact World.grownBy.trans (only_drew (World.grownBy.refl w (some g))) (mid_grown g _ _)
  rw [← hW1] at hcp
  have HW1 := Lib.hid hW1
  clear hb hW1
  have hw : IntKind.i64.wrap 2 = 2 := by decide
  go_enter Try.func38, Try.ntmps38
  go_wp2
  go_region_law (refine step_copy_eq rfl _ _ 28 28 rfl _ _ (by simp [Act.eval, Act.put]) (by simp [Act.eval, Act.put]) (hcp _) ?_)
  
  have z5 := hb1.pl.z5
  have f5 := hb1.frozen 5
  have hb2 : Blk (W1.setCell ⟨g, 5, none⟩ (.int .i64 3)) g 49 (plC v a c d d 3) := Blk.setL (l := [v, .int .i64 a, .int .i64 c, .int .i64 d, .int .i64 d, .int .i64 4]) hb1 5 _
  have hg2 := Lib.hid (only_setCell hg1 (p := ⟨g, 5, none⟩) (.inl rfl) (.int .i64 3))
  clear hg1
  go_upto_region 2 with (fail)
  change Code.wp _ _ _ _ (W1.setCell ⟨g, 5, none⟩ (.int .i64 3))
  generalize W1.setCell ⟨g, 5, none⟩ (.int .i64 3) = W2 at hb2 hg2 ⊢
  clear hb1 z5 f5
  have z5 := hb2.pl.z5
  have z4 := hb2.drew.pl.z4
  have f4 := hb2.drew.frozen 4
  have hb3 : Blk (W2.drew.setCell ⟨g, 4, none⟩ (.int .i64 0)) g 49 (plC v a c d 0 3) := Blk.setL (l := [v, .int .i64 a, .int .i64 c, .int .i64 d, .int .i64 d, .int .i64 3]) hb2.drew 4 _
  have HB3 := Lib.hid hb3
  have HG3 := Lib.hid (only_setCell (only_drew hg2.out) (p := ⟨g, 4, none⟩) (.inl rfl) (.int .i64 0))
  clear hb2 hb3 hg2
  go_still_tail 8, (by kernel_rfl)
  change wpList _ _ _ _ _ W2.drew
  go_wp2
  refine bodyPost_end (results_none rfl _ _ _) rfl ?_
  exact ⟨rfl, HB3.out, HG3.out⟩
set_option maxHeartbeats 2000000 in
theorem leave_4_2 (w : World) (g : Nat) (v : Value) (a b c d : Int) (hb : Blk w g 49 (plC v a b c d 4)) :
    Calls Try.prog 38 #[.pointer (some ⟨g, 0, none⟩), .int .i64 2] w fun e w' => e = .returned (.tuple #[]) ∧ Blk w' g 49 (plC v a b d 0 3) ∧ w.grownBy w' (some g) := by
  have hcp : ∀ ty, (Builtin.copy_ #[28, 28] ty #[.slice (some ⟨g, 3, none⟩) 2 2, .slice (some ⟨g, 4, none⟩) 1 1]).run Try.prog w.drew = .ok (goInt (Nat.min 1 2)) (w.drew.setCells g 3 [Value.int .i64 d]) := fun ty =>
    run_copy_rows w.drew _ _ ty 3 1 g 3 2 2 ⟨g, 4, none⟩ 1 1 _ Try.underlying28 size_int rfl
      (fun j u hj => by
        rw [add_plain, hb.drew.cell]
        match j, hj with
        | 0, hj => exact hj) (fun j hj => by
        rw [hb.drew.cell]
        have hj2 : j < 1 := hj
        match j, hj2 with
        | 0, _ => rfl) (fun j _ => hb.drew.frozen _) (by simp [Value.oneCell'])
  obtain ⟨W1, hW1⟩ : ∃ W1, W1 = (w.drew.setCells g 3 [Value.int .i64 d]) := ⟨_, rfl⟩
  have hb1 : Blk W1 g 49 (plC v a b d d 4) := by
    rw [hW1]
    exact hb.drew.mid (l := [v, .int .i64 a, .int .i64 b, .int .i64 c, .int .i64 d, .int .i64 4]) [Value.int .i64 d] 3
  have hg1 : w.grownBy W1 (some g) := by
    rw [hW1]
    exact World.grownBy.trans (only_drew (World.grownBy.refl w (some g))) (mid_grown g _ _)
  rw [← hW1] at hcp
  have HW1 := Lib.hid hW1
  clear hb hW1
  have hw : IntKind.i64.wrap 3 = 3 := by decide
  go_enter Try.func38, Try.ntmps38
  go_wp2
  go_region_law (refine step_copy_eq rfl _ _ 28 28 rfl _ _ (by simp [Act.eval, Act.put]) (by simp [Act.eval, Act.put]) (hcp _) ?_)
  
  have z5 := hb1.pl.z5
  have f5 := hb1.frozen 5
  have hb2 : Blk (W1.setCell ⟨g, 5, none⟩ (.int .i64 3)) g 49 (plC v a b d d 3) := Blk.setL (l := [v, .int .i64 a, .int .i64 b, .int .i64 d, .int .i64 d, .int .i64 4]) hb1 5 _
  have hg2 := Lib.hid (only_setCell hg1 (p := ⟨g, 5, none⟩) (.inl rfl) (.int .i64 3))
  clear hg1
  go_upto_region 2 with (fail)
  change Code.wp _ _ _ _ (W1.setCell ⟨g, 5, none⟩ (.int .i64 3))
  generalize W1.setCell ⟨g, 5, none⟩ (.int .i64 3) = W2 at hb2 hg2 ⊢
  clear hb1 z5 f5
  have z5 := hb2.pl.z5
  have z4 := hb2.drew.pl.z4
  have f4 := hb2.drew.frozen 4
  have hb3 : Blk (W2.drew.setCell ⟨g, 4, none⟩ (.int .i64 0)) g 49 (plC v a b d 0 3) := Blk.setL (l := [v, .int .i64 a, .int .i64 b, .int .i64 d, .int .i64 d, .int .i64 3]) hb2.drew 4 _
  have HB3 := Lib.hid hb3
  have HG3 := Lib.hid (only_setCell (only_drew hg2.out) (p := ⟨g, 4, none⟩) (.inl rfl) (.int .i64 0))
  clear hb2 hb3 hg2
  go_still_tail 8, (by kernel_rfl)
  change wpList _ _ _ _ _ W2.drew
  go_wp2
  refine bodyPost_end (results_none rfl _ _ _) rfl ?_
  exact ⟨rfl, HB3.out, HG3.out⟩
set_option maxHeartbeats 2000000 in
theorem leave_4_3 (w : World) (g : Nat) (v : Value) (a b c d : Int) (hb : Blk w g 49 (plC v a b c d 4)) :
    Calls Try.prog 38 #[.pointer (some ⟨g, 0, none⟩), .int .i64 3] w fun e w' => e = .returned (.tuple #[]) ∧ Blk w' g 49 (plC v a b c 0 3) ∧ w.grownBy w' (some g) := by
  have hcp : ∀ ty, (Builtin.copy_ #[28, 28] ty #[.slice (some ⟨g, 4, none⟩) 1 1, .slice (some ⟨g, 1, none⟩) 0 0]).run Try.prog w.drew = .ok (goInt 0) w.drew := fun ty =>
    run_copy_zero w.drew _ _ ty 3 1 _ _ _ _ _ _ Try.underlying28 size_int rfl
  obtain ⟨W1, hW1⟩ : ∃ W1, W1 = w.drew := ⟨_, rfl⟩
  have hb1 : Blk W1 g 49 (plC v a b c d 4) := by
    rw [hW1]
    exact hb.drew
  have hg1 : w.grownBy W1 (some g) := by
    rw [hW1]
    exact only_drew (World.grownBy.refl w (some g))
  have hcp : ∀ ty, _ = Result.ok (goInt 0) W1 := fun ty => hW1 ▸ hcp ty
  have HW1 := Lib.hid hW1
  clear hb hW1
  have hw : IntKind.i64.wrap 4 = 4 := by decide
  go_enter Try.func38, Try.ntmps38
  go_wp2
  go_region_law (refine step_copy_eq rfl _ _ 28 28 rfl _ _ (by simp [Act.eval, Act.put]) (by simp [Act.eval, Act.put]) (hcp _) ?_)
  try rw [← HW1.out]
  have z5 := hb1.pl.z5
  have f5 := hb1.frozen 5
  have hb2 : Blk (W1.setCell ⟨g, 5, none⟩ (.int .i64 3)) g 49 (plC v a b c d 3) := Blk.setL (l := [v, .int .i64 a, .int .i64 b, .int .i64 c, .int .i64 d, .int .i64 4]) hb1 5 _
  have hg2 := Lib.hid (only_setCell hg1 (p := ⟨g, 5, none⟩) (.inl rfl) (.int .i64 3))
  clear hg1
  go_upto_region 2 with (fail)
  change Code.wp _ _ _ _ (W1.setCell ⟨g, 5, none⟩ (.int .i64 3))
  generalize W1.setCell ⟨g, 5, none⟩ (.int .i64 3) = W2 at hb2 hg2 ⊢
  clear hb1 z5 f5
  have z5 := hb2.pl.z5
  have z4 := hb2.drew.pl.z4
  have f4 := hb2.drew.frozen 4
  have hb3 : Blk (W2.drew.setCell ⟨g, 4, none⟩ (.int .i64 0)) g 49 (plC v a b c 0 3) := Blk.setL (l := [v, .int .i64 a, .int .i64 b, .int .i64 c, .int .i64 d, .int .i64 3]) hb2.drew 4 _
  have HB3 := Lib.hid hb3
  have HG3 := Lib.hid (only_setCell (only_drew hg2.out) (p := ⟨g, 4, none⟩) (.inl rfl) (.int .i64 0))
  clear hb2 hb3 hg2
  go_still_tail 8, (by kernel_rfl)
  change wpList _ _ _ _ _ W2.drew
  go_wp2
  refine bodyPost_end (results_none rfl _ _ _) rfl ?_
  exact ⟨rfl, HB3.out, HG3.out⟩
end Go.Proofs.Ytidkhekekfennaa
