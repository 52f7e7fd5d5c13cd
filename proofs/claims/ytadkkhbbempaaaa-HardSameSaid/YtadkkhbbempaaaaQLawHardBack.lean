/- The walks of the laws HardBack, HardSame. -/
import Derived.Test.YtadkkhbbempaaaaQLawHardWrites
import Derived.Test.YtadkkhbbempaaaaP10
import Derived.Test.YtadkkhbbempaaaaP5
import Derived.Deep.WholeRow
namespace Go.Proofs.Ytadkkhbbempaaaa
set_option maxRecDepth 100000
open Go.RowKit

theorem rcB_byt {r : Rc} (wf : r.Wf) (m : r.May) : Byt r.B := by
  unfold Rc.B
  have hk : Byt [r.k] := fun x hx => by
    rw [List.mem_singleton] at hx
    subst hx
    rcases m.2 with h | h | h | h | h <;> omega
  refine hk.append ?_
  rcases m.2 with h | h | h | h | h
  · rw [if_pos h.1]; exact numB_byt _
  · rw [if_neg (by omega), if_pos h.1]; exact (numB_byt _).append (numB_byt _)
  · rw [if_neg (by omega), if_neg (by omega), if_pos h.1]; exact ((numB_byt _).append (numB_byt _)).append (cmd_both r.en wf.en h.2.2.2 none 0).1
  · rw [if_neg (by omega), if_neg (by omega), if_neg (by omega), if_pos h.1]; exact numB_byt _
  · rw [if_neg (by omega), if_neg (by omega), if_neg (by omega), if_neg (by omega)]; exact (sh_both r.sh wf.sh h.2 sa0).1

set_option maxHeartbeats 8000000 in
theorem hardBack_row (w : World) {v : Value} (z : OpenRec w v) :
    Calls Try.prog 10 #[v] w fun e w' => e = .returned (.bool true) ∧ Below w.heap.size w w' := by
  obtain ⟨r, a, rfl, hin, wf⟩ := z
  have C3 := fun W => Lib.hid (writes_any W)
  obtain ⟨g, hg⟩ : ∃ g, w.heap.size = g := ⟨_, rfl⟩
  rw [hg]
  have hBx : Below g w (w.alloc (.cells (recC r a) 48)) := (Below.refl _ _).alloc (by omega) _
  have hb1 : Blk (w.alloc (.cells (recC r a) 48)) g 48 (recC r a) := hg ▸ Blk.new _ _ _
  have HIN := Lib.hid hin
  clear hin
  by_cases m : r.May
  rotate_left
  · have C1 := fun W h => hard_Encode_bad W r a h wf m
    unfold recV at C1 ⊢
    have C1 := Lib.hid C1
    clear m wf
    go_enter Try.func10, Try.ntmps10
    go_upto_region 1 with (fail)
    change Code.wp _ _ _ _ (w.alloc (.cells (recC r a) 48))
    generalize (w.alloc (.cells (recC r a) 48)) = W at hb1 hBx ⊢
    try rw [hg]
    go_wp2_with fail
    refine (C3 _).out.mono ?_
    rintro e w1 ⟨rfl, hB1⟩
    have hb2 := hb1.below hB1 hb1.lt
    have hB2 := hBx.trans (hB1.mono (Nat.le_of_lt hb1.lt))
    have X1 := Lib.hid (C1.out w1 (HIN.out.keep (hg ▸ hB2)))
    have HB2 := Lib.hid hB2
    have hgl := hb2.lt
    clear hb1 hBx hB1 hB2
    go_wp2_with (refine wpList_load_row rfl 48 _ rfl g rfl 48 (recC r a) hb2 _ Try.underlying48 rfl info_Rec ?_)
    refine X1.out.mono ?_
    rintro e w2 ⟨rfl, hB3⟩
    have HB3 := Lib.hid (HB2.out.trans (hB3.mono (Nat.le_of_lt hgl)))
    clear X1 hB3 hb2
    go_wp2
    go_ret
    exact ⟨rfl, HB3.out⟩
  have C1 := fun W h => hard_Encode_ok W r a h wf m
  have hback : hD (bytes (strOfNums r.B)) = (0, r) := by
    rw [bytes_str r.B (rcB_byt wf m)]
    exact rec_back r wf m (by have := rcB_len wf m; omega)
  have C2 := fun W => hard_Decode_any W (strOfNums r.B)
  rw [hback] at C2
  obtain ⟨S, hS⟩ : ∃ S, strOfNums r.B = S := ⟨_, rfl⟩
  rw [hS] at C1 C2
  have C4 := fun W a' (h1 : InR W r a') (h2 : InR W r a) => r13_SameRec_of W r r a' a h1 h2 (.inl rfl)
  unfold recV at C1 C2 C4 ⊢
  have C1 := Lib.hid C1
  have C2 := Lib.hid C2
  have C4 := Lib.hid C4
  clear m wf hback hS
  go_enter Try.func10, Try.ntmps10
  go_upto_region 1 with (fail)
  change Code.wp _ _ _ _ (w.alloc (.cells (recC r a) 48))
  generalize (w.alloc (.cells (recC r a) 48)) = W at hb1 hBx ⊢
  try rw [hg]
  go_wp2_with fail
  refine (C3 _).out.mono ?_
  rintro e w1 ⟨rfl, hB1⟩
  have hb2 := hb1.below hB1 hb1.lt
  have hB2 := hBx.trans (hB1.mono (Nat.le_of_lt hb1.lt))
  have X1 := Lib.hid (C1.out w1 (HIN.out.keep (hg ▸ hB2)))
  clear hb1 hBx hB1
  go_wp2_with (refine wpList_load_row rfl 48 _ rfl g rfl 48 (recC r a) hb2 _ Try.underlying48 rfl info_Rec ?_)
  refine X1.out.mono ?_
  rintro e w2 ⟨rfl, hB3⟩
  have hb3 := hb2.below hB3 hb2.lt
  have hB4 := hB2.trans (hB3.mono (Nat.le_of_lt hb2.lt))
  have X2 := Lib.hid (C2.out w2)
  clear X1 hB3 hb2 hB2
  go_wp2_with fail
  refine X2.out.mono ?_
  rintro e w3 ⟨hB5, a', rfl, hi5⟩
  have hb5 := hb3.below hB5 hb3.lt
  have hB6 := hB4.trans (hB5.mono (Nat.le_of_lt hb3.lt))
  clear X2 hB5 hb3 hB4
  have hx7 : Blk (w3.alloc (.cells (recC r a') 48)) w3.heap.size 48 (recC r a') := Blk.new _ _ _
  have hb7 := hb5.alloc (.cells (recC r a') 48)
  have hB7 := hB6.alloc (Nat.le_of_lt hb5.lt) (.cells (recC r a') 48)
  have hi7 := hi5.keep ((Below.refl w3.heap.size w3).alloc (Nat.le_refl _) (.cells (recC r a') 48))
  clear hb5 hB6 hi5
  go_upto_region 6 with (refine wpList_store_row rfl 48 _ _ rfl w3.heap.size (recC r a') rfl rfl 48 (recC rc0 ra0) (Blk.new w3 48 _) info_Rec rfl (recC_one _ _) ?_; rw [World.setRow_alloc_new])
  change Code.wp _ _ _ _ (w3.alloc (.cells (recC r a') 48))
  obtain ⟨gx, hgx⟩ : ∃ gx, w3.heap.size = gx := ⟨_, rfl⟩
  rw [hgx] at hx7
  generalize (w3.alloc (.cells (recC r a') 48)) = W8 at hx7 hb7 hB7 hi7 ⊢
  try rw [hgx]
  clear hgx
  have X4 := Lib.hid (C4.out W8 a' hi7 (HIN.out.keep (hg ▸ hB7)))
  have HB7 := Lib.hid hB7
  have hgl := hb7.lt
  clear hi7 hB7
  go_wp2_with (first | (refine wpList_load_want (by rfl) 48 _ rfl gx rfl 48 (recC r a') hx7 _ Try.underlying48 rfl info_Rec ?_) | (refine wpList_load_want (by rfl) 48 _ rfl g rfl 48 (recC r a) hb7 _ Try.underlying48 rfl info_Rec ?_))
  refine X4.out.mono ?_
  rintro e w9 ⟨V, rfl, hV, hB9⟩
  obtain rfl : V = true := hV.2 (by first | rfl | trivial)
  have HB9 := Lib.hid (HB7.out.trans (hB9.mono (Nat.le_of_lt hgl)))
  clear X4 hB9 hx7 hb7 hV
  go_wp2
  go_ret
  exact ⟨rfl, HB9.out⟩

set_option maxHeartbeats 8000000 in
theorem hardSame_row (w : World) (s : ByteArray) (_ : s.size ≤ 140737488351232) :
    Calls Try.prog 11 #[.string s] w fun e w' => e = .returned (.bool true) ∧ Below w.heap.size w w' := by
  have C3 := fun W => Lib.hid (writes_any W)
  have C2 := fun W => hard_Decode_any W s
  obtain ⟨g, hg⟩ : ∃ g, w.heap.size = g := ⟨_, rfl⟩
  rw [hg]
  obtain ⟨⟨E, R⟩, hER⟩ : ∃ q, hD (bytes s) = q := ⟨_, rfl⟩
  rw [hER] at C2
  simp only at C2
  by_cases hE : E = 0
  rotate_left
  · have qn : (E != 0) = true := bne_iff_ne.2 hE
    unfold recV at C2
    have C2 := Lib.hid C2
    clear hE hER
    go_enter Try.func11, Try.ntmps11
    go_wp2_with fail
    refine (C3 _).out.mono ?_
    rintro e w1 ⟨rfl, hB1⟩
    have HB1 := Lib.hid (show Below g w w1 from hg ▸ hB1)
    have hg1 : g ≤ w1.heap.size := hg ▸ hB1.size
    clear hB1
    go_wp2_with fail
    refine (C2.out _).mono ?_
    rintro e w3 ⟨hB5, a', rfl, hi5⟩
    have HB5 := Lib.hid (HB1.out.trans (hB5.mono hg1))
    have HB6 := Lib.hid (HB5.out.alloc (Nat.le_trans hg1 hB5.size) (.cells (recC R a') 48))
    clear hB5 hi5
    go_wp2_with (refine wpList_store_row rfl 48 _ _ rfl w3.heap.size (recC R a') rfl rfl 48 (recC rc0 ra0) (Blk.new w3 48 _) info_Rec rfl (recC_one _ _) ?_; rw [World.setRow_alloc_new])
    go_ret
    exact ⟨rfl, HB6.out⟩
  subst hE
  obtain ⟨m, wf, hB⟩ := rec_same (bytes_byt s) hER
  have C1 := fun W a h => hard_Encode_ok W R a h wf m
  rw [hB, str_bytes] at C1
  unfold recV at C1 C2
  have C1 := Lib.hid C1
  have C2 := Lib.hid C2
  clear m wf hB hER
  go_enter Try.func11, Try.ntmps11
  go_wp2_with fail
  refine (C3 _).out.mono ?_
  rintro e w1 ⟨rfl, hB1⟩
  have HB1 := Lib.hid (show Below g w w1 from hg ▸ hB1)
  have hg1 : g ≤ w1.heap.size := hg ▸ hB1.size
  clear hB1
  go_wp2_with fail
  refine (C2.out _).mono ?_
  rintro e w3 ⟨hB5, a', rfl, hi5⟩
  have hB5w := HB1.out.trans (hB5.mono hg1)
  have hx7 : Blk (w3.alloc (.cells (recC R a') 48)) w3.heap.size 48 (recC R a') := Blk.new _ _ _
  have hB7 := hB5w.alloc (Nat.le_trans hg1 hB5.size) (.cells (recC R a') 48)
  have hi7 := hi5.keep ((Below.refl w3.heap.size w3).alloc (Nat.le_refl _) (.cells (recC R a') 48))
  have hg3 : g ≤ (w3.alloc (.cells (recC R a') 48)).heap.size := Nat.le_trans (Nat.le_trans hg1 hB5.size) (by simp)
  clear hB5 hi5 hB5w
  go_upto_region 3 with (refine wpList_store_row rfl 48 _ _ rfl w3.heap.size (recC R a') rfl rfl 48 (recC rc0 ra0) (Blk.new w3 48 _) info_Rec rfl (recC_one _ _) ?_; rw [World.setRow_alloc_new])
  change Code.wp _ _ _ _ (w3.alloc (.cells (recC R a') 48))
  obtain ⟨gx, hgx⟩ : ∃ gx, w3.heap.size = gx := ⟨_, rfl⟩
  rw [hgx] at hx7
  generalize (w3.alloc (.cells (recC R a') 48)) = W8 at hx7 hB7 hi7 hg3 ⊢
  try rw [hgx]
  clear hgx
  have X4 := Lib.hid (C1.out W8 a' hi7)
  have HB7 := Lib.hid hB7
  clear hi7 hB7
  go_wp2_with (refine wpList_load_row rfl 48 _ rfl gx rfl 48 (recC R a') hx7 _ Try.underlying48 rfl info_Rec ?_)
  refine X4.out.mono ?_
  rintro e w9 ⟨rfl, hB9⟩
  have HB9 := Lib.hid (HB7.out.trans (hB9.mono hg3))
  clear X4 hB9 hx7
  go_wp2
  go_ret
  exact ⟨rfl, HB9.out⟩
end Go.Proofs.Ytadkkhbbempaaaa
