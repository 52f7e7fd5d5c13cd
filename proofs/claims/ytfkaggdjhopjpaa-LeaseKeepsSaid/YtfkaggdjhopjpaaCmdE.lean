/- Walks over commands: the document's Copy and Same. -/
import Derived.Test.YtfkaggdjhopjpaaCom
import Derived.Test.YtfkaggdjhopjpaaCmdD
namespace Go.Proofs.Ytfkaggdjhopjpaa
set_option maxRecDepth 100000
open Go.RowKit

theorem info_Cmd : (Try.prog.info? 39).map (·.size) = some 8 := by kernel_rfl

theorem Blk.set8 {w : World} {g : Nat} {T : TypeId} {v0 v1 v2 v3 v4 v5 v6 v7 : Value} (h : Blk w g T #[v0, v1, v2, v3, v4, v5, v6, v7]) (u0 u1 u2 u3 u4 u5 u6 u7 : Value) :
    Blk ((((((((w.setCell ⟨g, 0, none⟩ u0).setCell ⟨g, 1, none⟩ u1).setCell ⟨g, 2, none⟩ u2).setCell ⟨g, 3, none⟩ u3).setCell ⟨g, 4, none⟩ u4).setCell ⟨g, 5, none⟩ u5).setCell ⟨g, 6, none⟩ u6).setCell ⟨g, 7, none⟩ u7) g T #[u0, u1, u2, u3, u4, u5, u6, u7] :=
  ((((((((h.setL 0 u0).setL 1 u1).setL 2 u2).setL 3 u3).setL 4 u4).setL 5 u5).setL 6 u6).setL 7 u7)
set_option maxRecDepth 100000 in
set_option maxHeartbeats 4000000 in
theorem ref_Copy_own (w : World) (k n t : Int) (A : Option Addr) (c : Nat) (l : List Int) (b q s m : Int) (h : InN .i64 w A c l) (hs : l.length ≤ 17592186043904) :
    Calls Try.prog 58 #[cmdV k n t (.slice A l.length c) b q s m] w fun e w' => ∃ A' c', e = .returned (cmdV k n t (.slice A' l.length c') b q s m) ∧ InN .i64 w' A' c' l ∧ (∀ a, A' = some a → w.heap.size ≤ a.block ∧ a.block < w'.heap.size) ∧ Below w.heap.size w w' := by
  have HIN := Lib.hid h
  have hcap := h.cap
  clear h
  obtain ⟨g, hg⟩ : ∃ g, w.heap.size = g := ⟨_, rfl⟩
  have hb0 : Blk (w.alloc (.cells (cmdCells k n t (.slice A l.length c) b q s m) 39)) g 39 (cmdCells k n t (.slice A l.length c) b q s m) := hg ▸ Blk.new _ _ _
  have hB0 : Below g w (w.alloc (.cells (cmdCells k n t (.slice A l.length c) b q s m) 39)) := (Below.refl _ _).alloc (by omega) _
  have hs1 : (w.alloc (.cells (cmdCells k n t (.slice A l.length c) b q s m) 39)).heap.size = g + 1 := by simp [hg]
  have hb1 := hb0.alloc (.cells (cmdCells 0 0 0 (.slice none 0 0) 0 0 0 0) 39)
  have hr1 : Blk ((w.alloc (.cells (cmdCells k n t (.slice A l.length c) b q s m) 39)).alloc (.cells (cmdCells 0 0 0 (.slice none 0 0) 0 0 0 0) 39)) (g + 1) 39 (cmdCells 0 0 0 (.slice none 0 0) 0 0 0 0) := hs1 ▸ Blk.new _ _ _
  have hB1 := hB0.alloc (by omega) (.cells (cmdCells 0 0 0 (.slice none 0 0) 0 0 0 0) 39)
  have hs2 : ((w.alloc (.cells (cmdCells k n t (.slice A l.length c) b q s m) 39)).alloc (.cells (cmdCells 0 0 0 (.slice none 0 0) 0 0 0 0) 39)).heap.size = g + 2 := by simp [hg]
  clear hb0 hB0 hs1
  unfold cmdV
  go_enter Try.func58, Try.ntmps58
  go_upto_region 1 with (fail)
  change Code.wp _ _ _ _ ((w.alloc (.cells (cmdCells k n t (.slice A l.length c) b q s m) 39)).alloc (.cells (cmdCells 0 0 0 (.slice none 0 0) 0 0 0 0) 39))
  generalize ((w.alloc (.cells (cmdCells k n t (.slice A l.length c) b q s m) 39)).alloc (.cells (cmdCells 0 0 0 (.slice none 0 0) 0 0 0 0) 39)) = W0 at hb1 hr1 hB1 hs2 ⊢
  have HIN0 := Lib.hid (HIN.out.keep (hg ▸ hB1))
  obtain ⟨c0, c1, c2, c3, c4, c5, c6, c7⟩ := hb1.cmd
  go_wp2_with (at_builtin; refine app_own (w0 := W0) W0.heap.size rfl _ _ 37 3 (.int .i64 0) 8 rfl Try.underlying37 1 info_int rfl (by omega) (by omega) (.slice none 0 0) [] 0 rfl _ _ _ _ (nums .i64 l) rfl (own_nil _ _ _ _) HIN0.out.reads (nums_one_cell .i64 l) (Below.refl _ _) (Nat.le_refl _) (by omega) ?_; intro v1 w1 ho1 hBw1 _ _; obtain ⟨A1, c9, rfl, hin1⟩ := InN.own (k := .i64) (l := l) (by simpa [OwnN] using ho1) HIN.out.wf (by omega); have hlt9 : ∀ a, A1 = some a → a.block < w1.heap.size := (fun a e => (World.ownsRow.lt ho1 a.block (by rw [e]; rfl)).2); have hb2 := hb1.below hBw1 (by omega); have hr2 := hr1.below hBw1 (by omega); have HIN1 := Lib.hid hin1; have hBB := Lib.hid (hB1.trans (hBw1.mono (by omega))); have hsz1 := hBw1.size; clear c0 c1 c2 c3 c4 c5 c6 c7 hB1 hBw1 ho1 hin1 hb1 hr1 HIN0; obtain ⟨c0, c1, c2, c3, c4, c5, c6, c7⟩ := hb2.cmd; have f3 := hb2.frozen 3; obtain ⟨r0, r1, r2, r3, r4, r5, r6, r7⟩ := hr2.cmd; have e0 := hr2.frozen 0; have e1 := hr2.frozen 1; have e2 := hr2.frozen 2; have e3 := hr2.frozen 3; have e4 := hr2.frozen 4; have e5 := hr2.frozen 5; have e6 := hr2.frozen 6; have e7 := hr2.frozen 7)
  rename_i hog how
  have hrS := hr2.far (p := ⟨g, 3, none⟩) (by show g + 1 ≠ g; omega) (.slice A1 l.length c9)
  have hrF := Blk.set8 hrS (.int .i64 k) (.int .i64 n) (.int .i64 t) (.slice A1 l.length c9) (.int .u64 b) (.int .u64 q) (.int .u64 s) (.int .u64 m)
  refine bodyPost_ret (results_cell1 rfl rfl (run_loadVar_row _ _ _ _ _ (0, 0) _ hrF Try.underlying39 rfl info_Cmd)) rfl ?_
  refine ⟨A1, c9, rfl, ?_, fun a ha => ?_, ?_⟩
  rotate_left
  · rw [hg]
    rcases how with h | ⟨b', h, hge⟩
    · rw [ha] at h
      cases h
    · refine ⟨?_, by simpa [World.setCell] using hlt9 a ha⟩
      rw [ha] at h
      simp only [Value.ownBlock, Option.some.injEq] at h
      omega
  rotate_left
  · have hn : ∀ p : Addr, p.block < g + 2 → ∀ bb, (Value.slice A1 l.length c9).ownBlock = some bb → p.block ≠ bb := by
      intro p hp bb hbb
      rcases how with h | ⟨b', h, hge⟩
      · rw [h] at hbb
        cases hbb
      · rw [h] at hbb
        cases hbb
        omega
    have f := fun (p : Addr) (hp : p.block < g + 2) (W : World) (u : Value) (h : InN .i64 W A1 c9 l) => InN.far h (hn p hp) u
    exact f _ (by show g + 1 < g + 2; omega) _ _ (f _ (by show g + 1 < g + 2; omega) _ _ (f _ (by show g + 1 < g + 2; omega) _ _ (f _ (by show g + 1 < g + 2; omega) _ _ (f _ (by show g + 1 < g + 2; omega) _ _ (f _ (by show g + 1 < g + 2; omega) _ _ (f _ (by show g + 1 < g + 2; omega) _ _ (f _ (by show g + 1 < g + 2; omega) _ _ (f _ (by show g < g + 2; omega) _ _ HIN1.out))))))))
  · rw [hg]
    have hset : ∀ (j i : Nat) (W : World) (u : Value), g ≤ j → Below g w W → Below g w (W.setCell ⟨j, i, none⟩ u) := fun j i W u hj h => h.setCell hj u
    exact hset _ _ _ _ (by omega) (hset _ _ _ _ (by omega) (hset _ _ _ _ (by omega) (hset _ _ _ _ (by omega) (hset _ _ _ _ (by omega) (hset _ _ _ _ (by omega) (hset _ _ _ _ (by omega) (hset _ _ _ _ (by omega) (hset _ _ _ _ (by omega) hBB.out))))))))
theorem ref_Copy_any (w : World) (k n t : Int) (A : Option Addr) (c : Nat) (l : List Int) (b q s m : Int) (h : InN .i64 w A c l) (hs : l.length ≤ 17592186043904) :
    Calls Try.prog 58 #[cmdV k n t (.slice A l.length c) b q s m] w fun e w' => ∃ A' c', e = .returned (cmdV k n t (.slice A' l.length c') b q s m) ∧ InN .i64 w' A' c' l ∧ Below w.heap.size w w' :=
  (ref_Copy_own w k n t A c l b q s m h hs).mono fun _ _ ⟨A', c', h1, h2, _, h3⟩ => ⟨A', c', h1, h2, h3⟩
end Go.Proofs.Ytfkaggdjhopjpaa
