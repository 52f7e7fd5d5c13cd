/- The walk of the law HardWrites. -/
import Derived.Test.YtadkkhbbempaaaaP3
import Derived.Test.YtadkkhbbempaaaaP4
import Derived.Test.YtadkkhbbempaaaaP6
namespace Go.Proofs.Ytadkkhbbempaaaa
set_option maxRecDepth 100000
open Go.RowKit

theorem hard_Encode_ok (w : World) (r : Rc) (a : Ra) (hin : InR w r a) (wf : r.Wf) (m : r.May) :
    Calls Try.prog 25 #[recV r a] w fun e w' => e = .returned (.tuple #[.string (strOfNums r.B), .int .i64 0]) ∧ Below w.heap.size w w' := by
  rcases m.2 with h | h | h | h | h
  · exact hard_Encode_1 w r a hin wf h.1 m
  · exact hard_Encode_2 w r a hin wf h.1 m
  · exact hard_Encode_3 w r a hin wf h.1 m
  · exact hard_Encode_4 w r a hin wf h.1 m
  · exact hard_Encode_5 w r a hin wf h.1 m
theorem r13_Encode_ok (w : World) (r : Rc) (a : Ra) (hin : InR w r a) (wf : r.Wf) (m : r.May) :
    Calls Try.prog 26 #[recV r a] w fun e w' => e = .returned (.tuple #[.string (strOfNums r.B), .int .i64 0]) ∧ Below w.heap.size w w' := by
  rcases m.2 with h | h | h | h | h
  · exact r13_Encode_1 w r a hin wf h.1 m
  · exact r13_Encode_2 w r a hin wf h.1 m
  · exact r13_Encode_3 w r a hin wf h.1 m
  · exact r13_Encode_4 w r a hin wf h.1 m
  · exact r13_Encode_5 w r a hin wf h.1 m
theorem rcB_len {r : Rc} (wf : r.Wf) (m : r.May) : r.B.length ≤ 7999 := by
  unfold Rc.B
  have n1 := numB_le r.bt.toNat
  have n2 := numB_le r.tm.toNat
  have n3 := numB_le r.v.toNat
  have n4 := numB_le r.ix.toNat
  have n5 := numB_le r.en.tm.toNat
  rw [List.length_append, List.length_cons, List.length_nil]
  rcases m.2 with h | h | h | h | h
  · rw [if_pos h.1]; omega
  · rw [if_neg (by omega), if_pos h.1, List.length_append]; omega
  · have := (cmd_both r.en wf.en h.2.2.2 none 0).2.1
    rw [if_neg (by omega), if_neg (by omega), if_pos h.1, List.length_append, List.length_append]; omega
  · rw [if_neg (by omega), if_neg (by omega), if_neg (by omega), if_pos h.1]; omega
  · have := (sh_both r.sh wf.sh h.2 sa0).2.1
    rw [if_neg (by omega), if_neg (by omega), if_neg (by omega), if_neg (by omega)]; omega
/-- What both Encodes answer. -/
theorem rec_encs (r : Rc) (a : Ra) (wf : r.Wf) : ∃ (S : ByteArray) (E : Int), S.size ≤ 7999 ∧
    (∀ W, InR W r a → Calls Try.prog 25 #[recV r a] W fun e w' => e = .returned (.tuple #[.string S, .int .i64 E]) ∧ Below W.heap.size W w') ∧
    (∀ W, InR W r a → Calls Try.prog 26 #[recV r a] W fun e w' => e = .returned (.tuple #[.string S, .int .i64 E]) ∧ Below W.heap.size W w') := by
  by_cases m : r.May
  · exact ⟨strOfNums r.B, 0, by have := rcB_len wf m; show (strOfNums r.B).data.size ≤ 7999; simpa [strOfNums] using this, fun W h => hard_Encode_ok W r a h wf m, fun W h => r13_Encode_ok W r a h wf m⟩
  · exact ⟨⟨#[]⟩, 130, by decide, fun W h => hard_Encode_bad W r a h wf m, fun W h => r13_Encode_bad W r a h wf m⟩

/-! ### The law's own example -/
def rcW : Rc := ⟨1, 0, 3, 0, 0, en0, sh0⟩
theorem sh0_wf : sh0.Wf := ⟨⟨by decide, by decide⟩, ⟨by decide, by decide⟩, by decide, by decide, ⟨by decide, by decide⟩, (fun _ h => by cases h), (fun _ h => by cases h)⟩
theorem en0_wf : en0.Wf := ⟨⟨by decide, by decide⟩, by decide, by decide, by decide, by decide, ⟨by decide, by decide⟩, ⟨by decide, by decide⟩, ⟨by decide, by decide⟩, ⟨by decide, by decide⟩⟩
theorem rcW_wf : rcW.Wf := ⟨by decide, by decide, ⟨by decide, by decide⟩, ⟨by decide, by decide⟩, ⟨by decide, by decide⟩, en0_wf, sh0_wf⟩
theorem rcW_may : rcW.May := ⟨by simp [Rc.only, rcW], .inl ⟨rfl, by decide⟩⟩
theorem rcW_B : rcW.B = [1, 1, 3] := by decide +kernel
theorem writes_str : ((strOfNums [1, 1, 3]).toList == [1, 1, 3]) = true := by decide +kernel
set_option maxHeartbeats 4000000 in
theorem writes_any (w : World) : Calls Try.prog 27 #[] w fun e w' => e = .returned (.bool true) ∧ Below w.heap.size w w' := by
  have C := hard_Encode_1 w rcW ra0 ⟨InN.nil, InSh.zero w⟩ rcW_wf rfl rcW_may
  rw [rcW_B] at C
  have C := Lib.hid C
  have hls := writes_str
  go_enter Try.func27, Try.ntmps27
  go_wp2_with fail
  refine C.out.mono ?_
  rintro e w2 ⟨rfl, hB2⟩
  have HB2 := Lib.hid hB2
  clear hB2
  go_wp2
  go_ret
  exact ⟨rfl, HB2.out⟩

set_option maxHeartbeats 8000000 in
theorem hardWrites_row (w : World) {v : Value} (z : OpenRec w v) :
    Calls Try.prog 7 #[v] w fun e w' => e = .returned (.bool true) ∧ Below w.heap.size w w' := by
  obtain ⟨r, a, rfl, hin, wf⟩ := z
  obtain ⟨S, E, hs, C1, C2⟩ := rec_encs r a wf
  unfold recV at C1 C2 ⊢
  have HIN := Lib.hid hin
  have C1 := Lib.hid C1
  have C2 := Lib.hid C2
  have C3 := fun W => Lib.hid (writes_any W)
  clear hin wf
  obtain ⟨g, hg⟩ : ∃ g, w.heap.size = g := ⟨_, rfl⟩
  rw [hg]
  have hBx : Below g w (w.alloc (.cells (recC r a) 48)) := (Below.refl _ _).alloc (by omega) _
  have hb1 : Blk (w.alloc (.cells (recC r a) 48)) g 48 (recC r a) := hg ▸ Blk.new _ _ _
  go_enter Try.func7, Try.ntmps7
  go_upto_region 1 with (fail)
  change Code.wp _ _ _ _ (w.alloc (.cells (recC r a) 48))
  generalize (w.alloc (.cells (recC r a) 48)) = W at hb1 hBx ⊢
  try rw [hg]
  have X1 := Lib.hid (C1.out W (HIN.out.keep (hg ▸ hBx)))
  go_wp2_with (refine wpList_load_row rfl 48 _ rfl g rfl 48 (recC r a) hb1 _ Try.underlying48 rfl info_Rec ?_)
  refine X1.out.mono ?_
  rintro e w1 ⟨rfl, hB1⟩
  have hb2 := hb1.below hB1 hb1.lt
  have hB2 := hBx.trans (hB1.mono (Nat.le_of_lt hb1.lt))
  have X2 := Lib.hid (C2.out w1 (HIN.out.keep (hg ▸ hB2)))
  have HB2 := Lib.hid hB2
  have hgl := hb2.lt
  clear hb1 hBx hB1 X1 hB2
  go_wp2_with (refine wpList_load_row rfl 48 _ rfl g rfl 48 (recC r a) hb2 _ Try.underlying48 rfl info_Rec ?_)
  refine X2.out.mono ?_
  rintro e w2 ⟨rfl, hB3⟩
  have hgl2 : g ≤ w2.heap.size := by have := hB3.size; omega
  have HB3 := Lib.hid (HB2.out.trans (hB3.mono (Nat.le_of_lt hgl)))
  clear X2 hB3 hb2
  go_wp2_with fail
  refine (C3 _).out.mono ?_
  rintro e w3 ⟨rfl, hB4⟩
  have HBF := Lib.hid (HB3.out.trans (hB4.mono hgl2))
  have hd : decide ((S.size : Int) ≤ 8000) = true := decide_eq_true (by omega)
  clear hB4
  go_wp2
  go_ret
  exact ⟨rfl, HBF.out⟩
end Go.Proofs.Ytadkkhbbempaaaa
