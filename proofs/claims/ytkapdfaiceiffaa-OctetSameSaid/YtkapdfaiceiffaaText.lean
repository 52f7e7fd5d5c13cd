/- The walks of Text and ReadText, the program's and the document's. -/
import Derived.Test.YtkapdfaiceiffaaRef1
import Derived.Lib.AppendStr
namespace Go.Proofs.Ytkapdfaiceiffaa
open Go.RowKit

/-- A string's bytes. -/
def bytes (s : ByteArray) : List Int := s.data.toList.map fun b => (b.toNat : Int)
theorem bytes_length (s : ByteArray) : (bytes s).length = s.size := by simp [bytes]
theorem bytes_byt (s : ByteArray) : Byt (bytes s) := by
  intro x hx
  simp only [bytes, List.mem_map] at hx
  obtain ⟨b, _, rfl⟩ := hx
  have := b.toNat_lt
  omega
theorem strCells_u8s (s : ByteArray) : Lib.strCells s = u8s (bytes s) := by
  simp [Lib.strCells, u8s, bytes]
theorem str_bytes (s : ByteArray) : strOfNums (bytes s) = s := by
  have : ∀ l : List UInt8, (l.map fun b => (b.toNat : Int)).map (fun n => UInt8.ofNat n.toNat) = l := by
    intro l
    rw [List.map_map]
    conv => rhs; rw [← List.map_id l]
    apply List.map_congr_left
    intro a _
    simp
  obtain ⟨⟨l⟩⟩ := s
  simp [strOfNums, bytes, this l]
theorem bytes_str (l : List Int) (h : Byt l) : bytes (strOfNums l) = l := by
  simp only [bytes, strOfNums, List.map_map]
  conv => rhs; rw [← List.map_id l]
  apply List.map_congr_left
  intro a ha
  have := h a ha
  simp
  omega
theorem str_inj {l m : List Int} (hl : Byt l) (hm : Byt m) (h : strOfNums l = strOfNums m) : l = m := by
  rw [← bytes_str l hl, ← bytes_str m hm, h]

/-- A slice of bytes made a string, whatever its address. -/
theorem conv_str (w : World) (B : Nat) (A : Option Addr) (n c : Nat) (l : List Int) (h : Reads w B 1 A n (u8s l)) :
    (convert 22 9 (.slice A n c)).run Try.prog w = .ok (.string (strOfNums l)) w := by
  have hl : l.length = n := by have := h.1; rw [u8s_length] at this; omega
  rcases Nat.eq_zero_or_pos n with h0 | h0
  · subst h0
    have : l = [] := List.eq_nil_of_length_eq_zero hl
    subst this
    have e0 : strOfNums [] = ByteArray.empty := rfl
    cases A with
    | none => rw [e0]; exact run_convert_bytes_nil w _ _ Try.underlying22 Try.underlying5 0 c _ Try.underlying9
    | some a =>
      rw [run_convert_bytes_string w _ _ _ _ 0 c Try.underlying22 Try.underlying5 Try.underlying9, e0]
      have hl0 := run_loadCells_list (P := Try.prog) w a [] (fun j v hj => by simp at hj)
      rw [run_bytesToString w a 0 c [] (by simpa using hl0)]
      rfl
  · obtain ⟨b, off, rfl, _, hc⟩ := h.2 h0
    refine run_convert_bytes_arg w _ _ Try.underlying22 Try.underlying5 b off n c l hl (fun i hi => ?_) _ Try.underlying9
    have := hc i _ (u8s_get (by omega))
    rw [this]
    simp [List.getD_eq_getElem?_getD, show i < l.length by omega]

/-- append(b, s...), b a row of the call's own, s a string. -/
theorem app_str {ops : Array Oper} {rest : List Oper} {o : Oper} {a : Act} {Q : Exit → Act → World → Prop} {w0 W : World} (base : Nat) (hgd : o.guard = none) (s x : Operand)
    (ho : o.op = .call { callee := .builtin .append, args := #[s, x], argTypes := #[22, 9] })
    (v : Value) (l : List Int) (hs : a.eval s = v) (r : ByteArray) (hx : a.eval x = .string r) (HO : Own8 W base v l) (HB : Below base w0 W) (hbase : base ≤ W.heap.size) (hl : l.length + r.size ≤ 140737488355328)
    (h : ∀ v1 w1, Own8 w1 base v1 (l ++ bytes r) → Below base w0 w1 → wpList Try.prog ops Q rest (a.put o.dst v1) w1) : wpList Try.prog ops Q (o :: rest) a W := by
  obtain ⟨i0, hi, hz0, hz1, hz2⟩ := info_parts info_u8
  refine Lib.wpList_append_own_string W hgd s x 22 9 ho base 5 i0 Try.underlying22 Try.underlying9 hi hz0 hz1 hz2 v l.length (u8s l) hs HO r hx (by unfold maxLen; omega) hl hbase ?_
  intro v1 w1 ho1 hg _
  refine h v1 w1 ?_ (HB.grown hg hbase (own_base HO))
  unfold Own8
  rw [List.length_append, bytes_length, u8s_append, ← strCells_u8s]
  exact ho1

set_option maxHeartbeats 1000000 in
theorem text_any (s : ByteArray) (hs : s.size ≤ 140737488351232) (w : World) :
    Calls Try.prog 17 #[.string s] w fun e w' => ∃ v, e = .returned v ∧ Own8 w' w.heap.size v (numB s.size ++ bytes s) ∧ Below w.heap.size w w' := by
  have hI := num_any s.size (by omega) w
  have hl := numB_le s.size
  obtain ⟨x, hx⟩ : ∃ x, numB s.size = x := ⟨_, rfl⟩
  rw [hx] at hI hl ⊢
  have HI := Lib.hid hI
  clear hI hx
  go_enter Try.func17, Try.ntmps17
  go_wp2_with fail
  refine HI.out.mono ?_
  rintro e w1 ⟨v, rfl, ho, hB⟩
  clear HI
  go_wp2_with (at_builtin; refine app_str (w0 := w) w.heap.size rfl (.tmp 6) (.tmp 7) rfl _ x rfl s rfl ho hB hB.size (by omega) ?_; intro v1 w2 ho1 hB1)
  go_ret
  exact ⟨v1, rfl, ho1, hB1⟩

set_option maxHeartbeats 1000000 in
theorem refText_any (s : ByteArray) (hs : s.size ≤ 140737488351232) (w : World) :
    Calls Try.prog 18 #[.string s] w fun e w' => ∃ v, e = .returned v ∧ Own8 w' w.heap.size v (numB s.size ++ bytes s) ∧ Below w.heap.size w w' := by
  have hI := refNum_any s.size (by omega) w
  have hl := numB_le s.size
  obtain ⟨x, hx⟩ : ∃ x, numB s.size = x := ⟨_, rfl⟩
  rw [hx] at hI hl ⊢
  have HI := Lib.hid hI
  clear hI hx
  go_enter Try.func18, Try.ntmps18
  go_wp2_with fail
  refine HI.out.mono ?_
  rintro e w1 ⟨v, rfl, ho, hB⟩
  clear HI
  go_wp2_with (at_builtin; refine app_str (w0 := w) w.heap.size rfl (.tmp 6) (.tmp 7) rfl _ x rfl s rfl ho hB hB.size (by omega) ?_; intro v1 w2 ho1 hB1)
  go_ret
  exact ⟨v1, rfl, ho1, hB1⟩

set_option maxHeartbeats 1000000 in
theorem readText_any (A : Option Addr) (c : Nat) (l : List Int) (most : Int) (hm0 : -9223372036854775808 ≤ most) (hm1 : most ≤ 9223372036854775807) (w : World) (h : In8 w A c l) :
    Calls Try.prog 19 #[.slice A l.length c, .int .i64 most] w fun e w' => e = .returned (.tuple #[.string (readT l most).1, .int .i64 (readT l most).2.1, .int .i64 (readT l most).2.2]) ∧ w' = w := by
  have hs := h.small
  have hcap := h.cap
  have hI := readNum_any A c l w h
  have hok := readN_ok l h.byt
  have hT : readT l most = readT l most := rfl
  conv at hT => rhs; unfold readT
  obtain ⟨⟨n, k, x⟩, hr⟩ : ∃ r, readN l = r := ⟨_, rfl⟩
  rw [hr] at hI hok hT
  simp only at hI hok hT
  have HI := Lib.hid hI
  clear hI hr
  by_cases hx : x = 0
  rotate_left
  · rw [if_pos hx] at hT
    have HT := Lib.hid hT
    have hxb : (x != 0) = true := by rw [bne_iff_ne]; exact hx
    clear hT hok
    go_enter Try.func19, Try.ntmps19
    go_wp2_with fail
    refine HI.out.mono ?_
    rintro e w1 ⟨rfl, hw⟩
    obtain rfl := hw.symm
    go_wp2
    go_ret3
    rw [HT.out]
    exact ⟨rfl, rfl⟩
  subst hx
  rw [if_neg (by simp)] at hT
  obtain ⟨hk1, hk2, hk3, hn1, hn2⟩ := hok rfl
  clear hok
  obtain ⟨n, rfl⟩ := Int.eq_ofNat_of_zero_le hn1
  obtain ⟨k, rfl⟩ := Int.eq_ofNat_of_zero_le (show 0 ≤ k by omega)
  by_cases hm : most < 0
  · rw [if_pos hm] at hT
    have HT := Lib.hid hT
    clear hT
    go_enter Try.func19, Try.ntmps19
    go_wp2_with fail
    refine HI.out.mono ?_
    rintro e w1 ⟨rfl, hw⟩
    obtain rfl := hw.symm
    go_wp2
    go_ret3
    rw [HT.out]
    exact ⟨rfl, rfl⟩
  rw [if_neg hm] at hT
  by_cases hmm : (n : Int) > most
  · rw [if_pos hmm] at hT
    have HT := Lib.hid hT
    clear hT
    go_enter Try.func19, Try.ntmps19
    go_wp2_with fail
    refine HI.out.mono ?_
    rintro e w1 ⟨rfl, hw⟩
    obtain rfl := hw.symm
    go_wp2
    go_ret3
    rw [HT.out]
    exact ⟨rfl, rfl⟩
  rw [if_neg hmm] at hT
  clear hn1 hn2
  by_cases hl : (n : Int) > l.length - (k : Int)
  · rw [if_pos hl] at hT
    have HT := Lib.hid hT
    have hl2 : (l.length : Int) - k < n := hl
    clear hT hl
    go_enter Try.func19, Try.ntmps19
    go_wp2_with fail
    refine HI.out.mono ?_
    rintro e w1 ⟨rfl, hw⟩
    obtain rfl := hw.symm
    go_wp2
    go_ret3
    rw [HT.out]
    exact ⟨rfl, rfl⟩
  rw [if_neg hl, Int.toNat_natCast, Int.toNat_natCast] at hT
  have HT := Lib.hid hT
  clear hT
  obtain ⟨b, off, rfl, hcell⟩ := h.all (by omega)
  clear hcell
  by_cases hck : c = k
  · subst hck
    go_enter Try.func19, Try.ntmps19
    go_wp2_with fail
    refine HI.out.mono ?_
    rintro e w1 ⟨rfl, hw⟩
    obtain rfl := hw.symm
    have hn0 : n = 0 := by omega
    subst hn0
    have hcv := conv_str w w.heap.size (some ⟨b, off, none⟩) 0 0 [] Reads.none_
    go_wp2
    go_ret3
    rw [HT.out]
    exact ⟨by simp, rfl⟩
  · have hrd := (h.reads.cut (k := k) (cap := c) (by omega) hcap).take (k := n) (by omega)
    rw [if_neg hck, Nat.mul_one, Nat.mul_one] at hrd
    simp only [Option.map_some, add_plain] at hrd
    have hcv := conv_str w w.heap.size (some ⟨b, off + k, none⟩) n (c - k) ((l.drop k).take n) (by rw [u8s, List.map_take, List.map_drop]; exact hrd)
    clear hrd
    go_enter Try.func19, Try.ntmps19
    go_wp2_with fail
    refine HI.out.mono ?_
    rintro e w1 ⟨rfl, hw⟩
    obtain rfl := hw.symm
    go_wp2
    go_ret3
    rw [HT.out]
    exact ⟨rfl, rfl⟩
set_option maxHeartbeats 1000000 in
theorem refReadText_any (A : Option Addr) (c : Nat) (l : List Int) (most : Int) (hm0 : -9223372036854775808 ≤ most) (hm1 : most ≤ 9223372036854775807) (w : World) (h : In8 w A c l) :
    Calls Try.prog 20 #[.slice A l.length c, .int .i64 most] w fun e w' => e = .returned (.tuple #[.string (readT l most).1, .int .i64 (readT l most).2.1, .int .i64 (readT l most).2.2]) ∧ w' = w := by
  have hs := h.small
  have hcap := h.cap
  have hI := refReadNum_any A c l w h
  have hok := readN_ok l h.byt
  have hT : readT l most = readT l most := rfl
  conv at hT => rhs; unfold readT
  obtain ⟨⟨n, k, x⟩, hr⟩ : ∃ r, readN l = r := ⟨_, rfl⟩
  rw [hr] at hI hok hT
  simp only at hI hok hT
  have HI := Lib.hid hI
  clear hI hr
  by_cases hx : x = 0
  rotate_left
  · rw [if_pos hx] at hT
    have HT := Lib.hid hT
    have hxb : (x != 0) = true := by rw [bne_iff_ne]; exact hx
    clear hT hok
    go_enter Try.func20, Try.ntmps20
    go_wp2_with fail
    refine HI.out.mono ?_
    rintro e w1 ⟨rfl, hw⟩
    obtain rfl := hw.symm
    go_wp2
    go_ret3
    rw [HT.out]
    exact ⟨rfl, rfl⟩
  subst hx
  rw [if_neg (by simp)] at hT
  obtain ⟨hk1, hk2, hk3, hn1, hn2⟩ := hok rfl
  clear hok
  obtain ⟨n, rfl⟩ := Int.eq_ofNat_of_zero_le hn1
  obtain ⟨k, rfl⟩ := Int.eq_ofNat_of_zero_le (show 0 ≤ k by omega)
  by_cases hm : most < 0
  · rw [if_pos hm] at hT
    have HT := Lib.hid hT
    clear hT
    go_enter Try.func20, Try.ntmps20
    go_wp2_with fail
    refine HI.out.mono ?_
    rintro e w1 ⟨rfl, hw⟩
    obtain rfl := hw.symm
    go_wp2
    go_ret3
    rw [HT.out]
    exact ⟨rfl, rfl⟩
  rw [if_neg hm] at hT
  by_cases hmm : (n : Int) > most
  · rw [if_pos hmm] at hT
    have HT := Lib.hid hT
    clear hT
    go_enter Try.func20, Try.ntmps20
    go_wp2_with fail
    refine HI.out.mono ?_
    rintro e w1 ⟨rfl, hw⟩
    obtain rfl := hw.symm
    go_wp2
    go_ret3
    rw [HT.out]
    exact ⟨rfl, rfl⟩
  rw [if_neg hmm] at hT
  clear hn1 hn2
  by_cases hl : (n : Int) > l.length - (k : Int)
  · rw [if_pos hl] at hT
    have HT := Lib.hid hT
    have hl2 : (l.length : Int) - k < n := hl
    clear hT hl
    go_enter Try.func20, Try.ntmps20
    go_wp2_with fail
    refine HI.out.mono ?_
    rintro e w1 ⟨rfl, hw⟩
    obtain rfl := hw.symm
    go_wp2
    go_ret3
    rw [HT.out]
    exact ⟨rfl, rfl⟩
  rw [if_neg hl, Int.toNat_natCast, Int.toNat_natCast] at hT
  have HT := Lib.hid hT
  clear hT
  obtain ⟨b, off, rfl, hcell⟩ := h.all (by omega)
  clear hcell
  by_cases hck : c = k
  · subst hck
    go_enter Try.func20, Try.ntmps20
    go_wp2_with fail
    refine HI.out.mono ?_
    rintro e w1 ⟨rfl, hw⟩
    obtain rfl := hw.symm
    have hn0 : n = 0 := by omega
    subst hn0
    have hcv := conv_str w w.heap.size (some ⟨b, off, none⟩) 0 0 [] Reads.none_
    go_wp2
    go_ret3
    rw [HT.out]
    exact ⟨by simp, rfl⟩
  · have hrd := (h.reads.cut (k := k) (cap := c) (by omega) hcap).take (k := n) (by omega)
    rw [if_neg hck, Nat.mul_one, Nat.mul_one] at hrd
    simp only [Option.map_some, add_plain] at hrd
    have hcv := conv_str w w.heap.size (some ⟨b, off + k, none⟩) n (c - k) ((l.drop k).take n) (by rw [u8s, List.map_take, List.map_drop]; exact hrd)
    clear hrd
    go_enter Try.func20, Try.ntmps20
    go_wp2_with fail
    refine HI.out.mono ?_
    rintro e w1 ⟨rfl, hw⟩
    obtain rfl := hw.symm
    go_wp2
    go_ret3
    rw [HT.out]
    exact ⟨rfl, rfl⟩
end Go.Proofs.Ytkapdfaiceiffaa
