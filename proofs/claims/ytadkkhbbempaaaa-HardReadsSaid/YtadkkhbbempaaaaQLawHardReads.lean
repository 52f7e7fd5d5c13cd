/- The walk of the law HardReads. -/
import Derived.Test.YtadkkhbbempaaaaP12
import Derived.Test.YtadkkhbbempaaaaP5
import Derived.Deep.WholeRow
namespace Go.Proofs.Ytadkkhbbempaaaa
set_option maxRecDepth 100000
open Go.RowKit

theorem hD_113 : hD (bytes ⟨#[1, 1, 3]⟩) = (0, ⟨1, 0, 3, 0, 0, en0, sh0⟩) := by
  have m : Rc.May ⟨1, 0, 3, 0, 0, en0, sh0⟩ := ⟨rfl, .inl ⟨rfl, by decide⟩⟩
  have wf : Rc.Wf ⟨1, 0, 3, 0, 0, en0, sh0⟩ := ⟨by decide, by decide, by decide, by decide, by decide, en0_wf2, sh0_wf2⟩
  have hB : Rc.B ⟨1, 0, 3, 0, 0, en0, sh0⟩ = bytes ⟨#[1, 1, 3]⟩ := by
    decide +kernel
  rw [← hB]
  exact rec_back _ wf m (by rw [hB]; decide)

set_option maxHeartbeats 8000000 in
theorem hardReads_row (w : World) (s : ByteArray) (_ : s.size ≤ 140737488351232) :
    Calls Try.prog 9 #[.string s] w fun e w' => e = .returned (.bool true) ∧ Below w.heap.size w w' := by
  have C1 := fun W => hard_Decode_any W s
  have C2 := fun W => r13_Decode_any W s
  have C3 := fun W => hard_Decode_any W ⟨#[1, 1, 3]⟩
  rw [hD_113] at C3
  obtain ⟨g, hg⟩ : ∃ g, w.heap.size = g := ⟨_, rfl⟩
  rw [hg]
  obtain ⟨⟨E, R⟩, hER⟩ : ∃ q, hD (bytes s) = q := ⟨_, rfl⟩
  rw [hER] at C1 C2
  simp only at C1 C2 C3
  obtain ⟨R3, hR3⟩ : ∃ r : Rc, ⟨1, 0, 3, 0, 0, en0, sh0⟩ = r := ⟨_, rfl⟩
  rw [hR3] at C3
  have h33 : Hid (R3.bt = 3) := by show _ = _; rw [← hR3]
  have qe : (E == E) = true := beq_self_eq_true E
  have C4 := fun W a a' (h1 : InR W R a) (h2 : InR W R a') => r13_SameRec_of W R R a a' h1 h2 (.inl rfl)
  unfold recV at C1 C2 C3 C4
  have C1 := Lib.hid C1
  have C2 := Lib.hid C2
  have C3 := Lib.hid C3
  have C4 := Lib.hid C4
  clear hER hR3
  go_enter Try.func9, Try.ntmps9
  go_wp2_with fail
  refine (C1.out _).mono ?_
  rintro e w1 ⟨hB1, a1, rfl, hi1⟩
  have hN1 : Blk (w1.alloc (.cells (recC R a1) 48)) w1.heap.size 48 (recC R a1) := Blk.new _ _ _
  have hb01 := (Below.refl w1.heap.size w1).alloc (Nat.le_refl _) (.cells (recC R a1) 48)
  have hj1 := hi1.keep hb01
  have hB01 := (show Below g w w1 from hg ▸ hB1).alloc (hg ▸ hB1.size) (.cells (recC R a1) 48)
  have hgn1 : g ≤ (w1.alloc (.cells (recC R a1) 48)).heap.size := Nat.le_trans (hg ▸ hB1.size) (by simp)
  clear hB1 hi1 hb01
  go_upto_region 2 with (refine wpList_store_row rfl 48 _ _ rfl w1.heap.size (recC R a1) rfl rfl 48 (recC rc0 ra0) (Blk.new w1 48 _) info_Rec rfl (recC_one _ _) ?_; rw [World.setRow_alloc_new])
  change Code.wp _ _ _ _ (w1.alloc (.cells (recC R a1) 48))
  obtain ⟨g1, hg1⟩ : ∃ g1, w1.heap.size = g1 := ⟨_, rfl⟩
  rw [hg1] at hN1
  generalize (w1.alloc (.cells (recC R a1) 48)) = W1 at hN1 hj1 hB01 hgn1 ⊢
  try rw [hg1]
  clear hg1
  have HBW := Lib.hid hB01
  have hgW := hgn1
  have hj1 := Lib.hid hj1
  clear hB01 hgn1
  go_wp2_with fail
  refine (C2.out _).mono ?_
  rintro e w2 ⟨hB2, a2, rfl, hi2⟩
  have hN2 : Blk (w2.alloc (.cells (recC R a2) 48)) w2.heap.size 48 (recC R a2) := Blk.new _ _ _
  have hb02 := (Below.refl w2.heap.size w2).alloc (Nat.le_refl _) (.cells (recC R a2) 48)
  have hj2 := hi2.keep hb02
  have hx12 := (hN1.below hB2 hN1.lt).alloc (.cells (recC R a2) 48)
  have hk12 := (hj1.out.keep hB2).keep hb02
  have hB02 := (HBW.out.trans (hB2.mono hgW)).alloc (Nat.le_trans hgW hB2.size) (.cells (recC R a2) 48)
  have hgn2 : g ≤ (w2.alloc (.cells (recC R a2) 48)).heap.size := Nat.le_trans (Nat.le_trans hgW hB2.size) (by simp)
  clear hB2 hi2 hb02 hN1 hj1 HBW hgW
  go_upto_region 3 with (refine wpList_store_row rfl 48 _ _ rfl w2.heap.size (recC R a2) rfl rfl 48 (recC rc0 ra0) (Blk.new w2 48 _) info_Rec rfl (recC_one _ _) ?_; rw [World.setRow_alloc_new])
  change Code.wp _ _ _ _ (w2.alloc (.cells (recC R a2) 48))
  obtain ⟨g2, hg2⟩ : ∃ g2, w2.heap.size = g2 := ⟨_, rfl⟩
  rw [hg2] at hN2
  generalize (w2.alloc (.cells (recC R a2) 48)) = W2 at hN2 hj2 hB02 hgn2 hx12 hk12 ⊢
  try rw [hg2]
  clear hg2
  have HBW := Lib.hid hB02
  have hgW := hgn2
  have hj2 := Lib.hid hj2
  have hj1 := Lib.hid hk12
  clear hB02 hgn2 hk12
  have hN1 := hx12
  go_wp2_with fail
  refine (C3.out _).mono ?_
  rintro e w3 ⟨hB3, a3, rfl, hi3⟩
  have hN3 : Blk (w3.alloc (.cells (recC R3 a3) 48)) w3.heap.size 48 (recC R3 a3) := Blk.new _ _ _
  have hb03 := (Below.refl w3.heap.size w3).alloc (Nat.le_refl _) (.cells (recC R3 a3) 48)
  have hj3 := hi3.keep hb03
  have hx13 := (hN1.below hB3 hN1.lt).alloc (.cells (recC R3 a3) 48)
  have hk13 := (hj1.out.keep hB3).keep hb03
  have hx23 := (hN2.below hB3 hN2.lt).alloc (.cells (recC R3 a3) 48)
  have hk23 := (hj2.out.keep hB3).keep hb03
  have hB03 := (HBW.out.trans (hB3.mono hgW)).alloc (Nat.le_trans hgW hB3.size) (.cells (recC R3 a3) 48)
  have hgn3 : g ≤ (w3.alloc (.cells (recC R3 a3) 48)).heap.size := Nat.le_trans (Nat.le_trans hgW hB3.size) (by simp)
  clear hB3 hi3 hb03 hN1 hj1 hN2 hj2 HBW hgW
  go_upto_region 4 with (refine wpList_store_row rfl 48 _ _ rfl w3.heap.size (recC R3 a3) rfl rfl 48 (recC rc0 ra0) (Blk.new w3 48 _) info_Rec rfl (recC_one _ _) ?_; rw [World.setRow_alloc_new])
  change Code.wp _ _ _ _ (w3.alloc (.cells (recC R3 a3) 48))
  obtain ⟨g3, hg3⟩ : ∃ g3, w3.heap.size = g3 := ⟨_, rfl⟩
  rw [hg3] at hN3
  generalize (w3.alloc (.cells (recC R3 a3) 48)) = W3 at hN3 hj3 hB03 hgn3 hx13 hk13 hx23 hk23 ⊢
  try rw [hg3]
  clear hg3
  have HBW := Lib.hid hB03
  have hgW := hgn3
  have hj3 := Lib.hid hj3
  have hj1 := Lib.hid hk13
  have hj2 := Lib.hid hk23
  clear hB03 hgn3 hk13 hk23
  have z2 : W3.cell? ⟨g3, 2, none⟩ = some (.int .u64 R3.bt) := hN3.cell 2
  rw [h33.out] at z2
  have X4 := Lib.hid (C4.out W3 a1 a2 hj1.out hj2.out)
  clear hN3 hj3 h33
  go_wp2_with (first | (refine wpList_load_want (by rfl) 48 _ rfl g1 rfl 48 (recC R a1) hx13 _ Try.underlying48 rfl info_Rec ?_) | (refine wpList_load_want (by rfl) 48 _ rfl g2 rfl 48 (recC R a2) hx23 _ Try.underlying48 rfl info_Rec ?_))
  refine X4.out.mono ?_
  rintro e w9 ⟨V, rfl, hV, hB9⟩
  obtain rfl : V = true := hV.2 (by first | rfl | trivial)
  have HB9 := Lib.hid (HBW.out.trans (hB9.mono hgW))
  clear X4 hB9 hx13 hx23 hV z2
  go_wp2
  go_ret
  exact ⟨rfl, HB9.out⟩
end Go.Proofs.Ytadkkhbbempaaaa
