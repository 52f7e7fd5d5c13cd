/- Walks over snapshots: the code's New. -/
import Derived.Test.YthdeappjankmmaaShotW
import Derived.Deep.DeepCutAuto
namespace Go.Proofs.Ythdeappjankmmaa
open Go.RowKit

noncomputable def newOk (lim : Int) (l : List Int) : Bool := limOk lim && decide (IsSet l)
theorem newLedger_cells (lim : Int) : ∃ a b, newLedger lim = ledgerV a b ∧ (limOk lim = true → a = lim ∧ b = 1) := by
  unfold newLedger
  split
  · exact ⟨lim, 1, rfl, fun _ => ⟨rfl, rfl⟩⟩
  · rename_i h
    exact ⟨0, 0, rfl, fun e => absurd e h⟩

set_option maxRecDepth 100000 in
set_option maxHeartbeats 4000000 in
theorem shot_New_any (w : World) (lim : Int) (A : Option Addr) (c : Nat) (l : List Int) (h : InN .i64 w A c l) (hs : l.length ≤ 17592186043904) :
    Calls Try.prog 10 #[.int .i64 lim, .slice A l.length c] w fun e w' => Below w.heap.size w w' ∧
      ((newOk lim l = true ∧ ∃ A' c', e = .returned (.tuple #[shotV 0 0 (.slice A' l.length c') lim 1, .int .i64 0]) ∧ Cop w w' A' c' l) ∨
       (newOk lim l = false ∧ e = .returned (.tuple #[shotV 0 0 (.slice none 0 0) 0 0, .int .i64 1]))) := by
  have HIN := Lib.hid h
  clear h
  obtain ⟨g, hg⟩ : ∃ g, w.heap.size = g := ⟨_, rfl⟩
  rw [hg]
  have CL := fun W => Lib.hid (ledger_New_any W lim)
  have CK := fun W hin => Lib.hid (nodes_Check_any W A c l hin)
  have CC := fun W hin => Lib.hid (clone_any W A c l hin hs)
  obtain ⟨a, b, hnl, hab⟩ := newLedger_cells lim
  rw [hnl] at CL
  have hb0 : Blk (w.alloc (.cells (shotCells 0 0 (.slice none 0 0) 0 0) 29)) g 29 (shotCells 0 0 (.slice none 0 0) 0 0) := hg ▸ Blk.new _ _ _
  have hB0 : Below g w (w.alloc (.cells (shotCells 0 0 (.slice none 0 0) 0 0) 29)) := (Below.refl _ _).alloc (by omega) _
  have HSET : Hid (∀ (i : Nat) (W : World) (u : Value), Below g w W → Below g w (W.setCell ⟨g, i, none⟩ u)) := fun i W u hW => hW.setCell (p := ⟨g, i, none⟩) (Nat.le_refl _) u
  have HAB := Lib.hid hab
  clear hnl hab
  obtain ⟨LO, hLO⟩ : ∃ LO, limOk lim = LO := ⟨_, rfl⟩
  obtain ⟨SO, hSO⟩ : ∃ SO, decide (IsSet l) = SO := ⟨_, rfl⟩
  have HOK : Hid (newOk lim l = (LO && SO)) := by
    show _ = _
    unfold newOk
    rw [hLO, hSO]
  unfold newErr at CL
  rw [hLO] at CL HAB
  rw [hSO] at CK
  clear hLO hSO
  go_enter Try.func10, Try.ntmps10
  go_wp2_with fail
  refine (CL _).out.mono ?_
  rintro e w1 ⟨rfl, hB1⟩
  have hb1 := hb0.below hB1 hb0.lt
  have hBw1 : Below g w w1 := hB0.trans (hB1.mono (Nat.le_of_lt hb0.lt))
  obtain ⟨g1, hg1⟩ : ∃ g1, w1.heap.size = g1 := ⟨_, rfl⟩
  have hlt : g < g1 := hg1 ▸ hb1.lt
  have hb2 := hb1.alloc (.cells (ledgerCells a b) 27)
  have hl2 : Blk (w1.alloc (.cells (ledgerCells a b) 27)) g1 27 (ledgerCells a b) := hg1 ▸ Blk.new _ _ _
  have hB2 : Below g w (w1.alloc (.cells (ledgerCells a b) 27)) := hBw1.alloc (by omega) _
  clear hb0 hB0 hB1 hb1 hBw1 CL
  simp only [ledgerV]
  go_upto_region 2 with (fail)
  change Code.wp _ _ _ _ (w1.alloc (.cells (ledgerCells a b) 27))
  generalize w1.alloc (.cells (ledgerCells a b) 27) = W2 at hb2 hl2 hB2 ⊢
  clear hg1
  cases LO
  · obtain ⟨z0, z1, z2, z3, z4, z5, z6⟩ := hb2.shot
    have y0 := hb2.frozen 0
    have y1 := hb2.frozen 1
    have y2 := hb2.frozen 2
    have y3 := hb2.frozen 3
    have y4 := hb2.frozen 4
    have y5 := hb2.frozen 5
    have y6 := hb2.frozen 6
    go_wp2
    have hrF := Blk.set7 hb2 (.int .u64 0) (.int .u64 0) (.slice none 0 0) (.int .i64 0) (.int .u64 0) (.slice none 0 0) (.slice none 0 0)
    refine bodyPost_ret (results_cell2 rfl rfl (run_loadVar_row _ _ _ _ _ (0, 0) _ hrF Try.underlying29 rfl info_Shot)) rfl ?_
    exact ⟨HSET.out _ _ _ (HSET.out _ _ _ (HSET.out _ _ _ (HSET.out _ _ _ (HSET.out _ _ _ (HSET.out _ _ _ (HSET.out _ _ _ hB2)))))), .inr ⟨by rw [HOK.out]; rfl, rfl⟩⟩
  · obtain ⟨rfl, rfl⟩ := HAB.out rfl
    have HBW := Lib.hid hB2
    go_wp2_with fail
    refine (CK _ (HIN.out.keep (by rw [hg]; exact hB2))).out.mono ?_
    rintro e w3 ⟨rfl, hB3⟩
    have hb3 := hb2.below hB3 hb2.lt
    have hl3 := hl2.below hB3 hl2.lt
    have hB3w : Below g w w3 := hB2.trans (hB3.mono (Nat.le_of_lt hb2.lt))
    clear hb2 hl2 hB2 hB3 HBW
    cases SO
    · obtain ⟨z0, z1, z2, z3, z4, z5, z6⟩ := hb3.shot
      have y0 := hb3.frozen 0
      have y1 := hb3.frozen 1
      have y2 := hb3.frozen 2
      have y3 := hb3.frozen 3
      have y4 := hb3.frozen 4
      have y5 := hb3.frozen 5
      have y6 := hb3.frozen 6
      have e1 : errArg false = 1 := rfl
      rw [e1]
      go_wp2
      have hrF := Blk.set7 hb3 (.int .u64 0) (.int .u64 0) (.slice none 0 0) (.int .i64 0) (.int .u64 0) (.slice none 0 0) (.slice none 0 0)
      refine bodyPost_ret (results_cell2 rfl rfl (run_loadVar_row _ _ _ _ _ (0, 0) _ hrF Try.underlying29 rfl info_Shot)) rfl ?_
      exact ⟨HSET.out _ _ _ (HSET.out _ _ _ (HSET.out _ _ _ (HSET.out _ _ _ (HSET.out _ _ _ (HSET.out _ _ _ (HSET.out _ _ _ hB3w)))))), .inr ⟨by rw [HOK.out]; rfl, rfl⟩⟩
    · have e1 : errArg true = 0 := rfl
      rw [e1]
      clear e1
      have CC3 := CC w3.drew (HIN.out.keep (by rw [hg]; exact hB3w.drew))
      obtain ⟨q0, q1, q2, q3⟩ := hl3.ledger
      have HB3 := Lib.hid hB3w
      have hlt3 := hb3.lt
      have hlt4 := hl3.lt
      clear hB3w CC CK
      go_wp2_with fail
      go_region_law (go_simp; go_at_call 23; refine CC3.out.mono ?_; rintro x w5 ⟨A5, c5, rfl, hcop, hB5⟩; have HC5 := Lib.hid hcop; have hb5 := hb3.drew.below hB5 hlt3; have hl5 := hl3.drew.below hB5 hlt4; have HB5 := Lib.hid (HB3.out.drew.trans (hB5.mono (Nat.le_of_lt hlt3))); clear hcop hB5; obtain ⟨p0, p1, p2, p3⟩ := hl5.ledger; obtain ⟨z0, z1, z2, z3, z4, z5, z6⟩ := hb5.shot; have y0 := hb5.frozen 0; have y1 := hb5.frozen 1; have y2 := hb5.frozen 2; have y3 := hb5.frozen 3; have y4 := hb5.frozen 4; have y5 := hb5.frozen 5; have y6 := hb5.frozen 6)
      all_goals go_wp2
      all_goals
        have hrF := Blk.set7 hb5 (.int .u64 0) (.int .u64 0) (.slice A5 l.length c5) (.int .i64 a) (.int .u64 1) (.slice none 0 0) (.slice none 0 0)
        refine bodyPost_ret (results_cell2 rfl rfl (run_loadVar_row _ _ _ _ _ (0, 0) _ hrF Try.underlying29 rfl info_Shot)) rfl ?_
        refine ⟨HSET.out _ _ _ (HSET.out _ _ _ (HSET.out _ _ _ (HSET.out _ _ _ (HSET.out _ _ _ (HSET.out _ _ _ (HSET.out _ _ _ HB5.out)))))), .inl ⟨by rw [HOK.out]; rfl, A5, c5, rfl, ?_⟩⟩
        have f := fun (W : World) (i : Nat) (u : Value) (hc : Cop w3.drew W A5 c5 l) => hc.far hlt3 i u
        exact (f _ _ _ (f _ _ _ (f _ _ _ (f _ _ _ (f _ _ _ (f _ _ _ (f _ _ _ HC5.out))))))).mono (by rw [hg]; exact Nat.le_of_lt hlt3)
end Go.Proofs.Ythdeappjankmmaa
