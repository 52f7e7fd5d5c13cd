/- Walks over commands: the document's Encode. -/
import Derived.Test.YtnpodnieahokjaaEnc
import Derived.Test.YtnpodnieahokjaaCmdE
import Derived.Test.YtnpodnieahokjaaCmdJ
import Derived.Lib.ConvBytes
import Derived.Lib.AtoiErrMem
namespace Go.Proofs.Ytnpodnieahokjaa
open Go.RowKit

theorem wf_of_i64 {z : Int} (h1 : -9223372036854775808 ≤ z) (h2 : z ≤ 9223372036854775807) : (Lit.int .i64 z).wf = true := by
  simp [Lit.wf, IntKind.min, IntKind.max, IntKind.bits, IntKind.signed]
  omega
theorem Grow.then_ {W wr w1 : World} {r : Option Nat} {v v1 : Value} (h : Grow W r wr v) (k : Grow wr v.ownBlock w1 v1) : Grow W r w1 v1 := h.app k.grown k.at_
/-- A field's bytes, by its letter. -/
def encL (n t : Nat) (l : List Int) (b q s m : Nat) (x : Int) : List Int :=
  if x = 108 then numB l.length ++ numsB l else if x = 110 then numB n else if x = 116 then numB t else if x = 98 then numB b else if x = 113 then numB q else if x = 115 then numB s else numB m
/-- A command's bytes, by the document. -/
def encB (k n t : Nat) (l : List Int) (b q s m : Nat) : List Int := numB k ++ (bytes (fld k)).flatMap (encL n t l b q s m)
theorem letters (k : Int) : ∀ x ∈ bytes (fld k), x = 108 ∨ x = 110 ∨ x = 116 ∨ x = 98 ∨ x = 113 ∨ x = 115 ∨ x = 109 := by
  intro x hx
  rcases kinds k with rfl | rfl | rfl | rfl | rfl | rfl | ⟨h1, h2, h3, h4, h5, h6⟩
  case inr.inr.inr.inr.inr.inr =>
    have e : fld k = ⟨#[]⟩ := by simp [fld, h2, h3, h4, h5, h6]
    rw [e] at hx
    simp [bytes] at hx
  all_goals
    simp [bytes, fld] at hx
    try omega
theorem fld_len (k : Int) : (fld k).size ≤ 5 := by
  unfold fld
  split
  · decide
  split
  · decide
  split
  · decide
  split <;> decide
theorem encL_le (n t : Nat) (l : List Int) (b q s m : Nat) (x : Int) (hl : l.length ≤ 7) : (encL n t l b q s m x).length ≤ 72 := by
  have h1 := numB_le l.length
  have h2 := numsB_le l
  have h3 := numB_le n
  have h4 := numB_le t
  have h5 := numB_le b
  have h6 := numB_le q
  have h7 := numB_le s
  have h8 := numB_le m
  unfold encL
  repeat (split; (first | (rw [List.length_append]; omega) | omega))
  omega
theorem flat_le (f : Int → List Int) (hf : ∀ x, (f x).length ≤ 72) (l : List Int) : (l.flatMap f).length ≤ 72 * l.length := by
  induction l with
  | nil => simp
  | cons z l ih =>
    rw [List.flatMap_cons, List.length_append, List.length_cons]
    have := hf z
    omega

set_option maxRecDepth 100000 in
set_option maxHeartbeats 4000000 in
theorem ref_Encode_ok (w : World) (k n t : Nat) (A : Option Addr) (c : Nat) (l : List Int) (b q s m : Nat) (h : InN .i64 w A c l) (hk : k < 9223372036854775808) (hn : n < 9223372036854775808) (ht : t < 9223372036854775808)
    (hb : b < 18446744073709551616) (hq : q < 18446744073709551616) (hs : s < 18446744073709551616) (hm : m < 18446744073709551616) (ok : (numsOk k n t b q s m && listOk k l) = true) :
    Calls Try.prog 14 #[cmdV k n t (.slice A l.length c) b q s m] w fun e w' => ∃ v, e = .returned (.tuple #[v, .int .i64 0]) ∧ Own8 w' w.heap.size v (encB k n t l b q s m) ∧ Below w.heap.size w w' := by
  have ok1 : numsOk k n t b q s m = true := by rw [Bool.and_eq_true] at ok; exact ok.1
  have ok2 : listOk k l = true := by rw [Bool.and_eq_true] at ok; exact ok.2
  have hset : hasB (fld k) 108 = true → IsSet l := fun h1 => by simpa [listOk, h1] using ok2
  have h7 : l.length ≤ 7 := by
    cases h1 : hasB (fld k) 108
    · have : l.length = 0 := by simpa [listOk, h1] using ok2
      omega
    · exact set_len (hset h1)
  have C0 := fun W hin => Lib.hid (ref_Check_any W k n t A c l b q s m hin (wf_of_i64 (by omega) (by omega)) (wf_of_i64 (by omega) (by omega)))
  rw [ok, show errCmd true = 0 from rfl] at C0
  have wk : IntKind.u64.wrap (k : Int) = (k : Int) := by simp [IntKind.wrap_u64]; omega
  have wn : IntKind.u64.wrap (n : Int) = (n : Int) := by simp [IntKind.wrap_u64]; omega
  have wt : IntKind.u64.wrap (t : Int) = (t : Int) := by simp [IntKind.wrap_u64]; omega
  have CN := fun x hx w => Lib.hid (refNum_any x hx w)
  have CF := fun W => Lib.hid (ref_fields_any W k)
  have HIN := Lib.hid h
  have HST := Lib.hid hset
  have H7 := Lib.hid h7
  have HK := Lib.hid (show k < 18446744073709551616 by omega)
  have HN := Lib.hid (show n < 18446744073709551616 by omega)
  have HT := Lib.hid (show t < 18446744073709551616 by omega)
  have HBB := Lib.hid hb
  have HQ := Lib.hid hq
  have HS := Lib.hid hs
  have HM := Lib.hid hm
  obtain ⟨enc, henc⟩ : ∃ enc, encB k n t l b q s m = enc := ⟨_, rfl⟩
  have HENC := Lib.hid henc
  rw [henc]
  clear henc ok ok1 ok2 hset h7 h hk hn ht hb hq hs hm
  obtain ⟨g, hg⟩ : ∃ g, w.heap.size = g := ⟨_, rfl⟩
  have hb0 : Blk (w.alloc (.cells (cmdCells k n t (.slice A l.length c) b q s m) 25)) g 25 (cmdCells k n t (.slice A l.length c) b q s m) := hg ▸ Blk.new _ _ _
  have hB0 : Below g w (w.alloc (.cells (cmdCells k n t (.slice A l.length c) b q s m) 25)) := (Below.refl _ _).alloc (by omega) _
  simp only [cmdV]
  go_enter Try.func14, Try.ntmps14
  go_wp2_with fail
  refine (C0 _ (HIN.out.keep (by rw [hg]; exact hB0))).out.mono ?_
  rintro e w1 ⟨rfl, hB1⟩
  have hb1 := hb0.below hB1 hb0.lt
  have hBw1 : Below g w w1 := hB0.trans (hB1.mono (Nat.le_of_lt hb0.lt))
  clear hb0 hB0 hB1
  obtain ⟨c0, c1, c2, c3, c4, c5, c6, c7⟩ := hb1.cmd
  go_wp2_with fail
  refine (CN k HK.out _).out.mono ?_
  rintro e w2 ⟨v1, rfl, ho1, hB2⟩
  clear c0 c1 c2 c3 c4 c5 c6 c7
  have hb2 := hb1.below hB2 hb1.lt
  have hBw2 : Below g w w2 := hBw1.trans (hB2.mono (Nat.le_of_lt hb1.lt))
  have hlt1 := hb1.lt
  have HO1 := Lib.hid ho1
  clear hb1 hBw1 hB2 ho1
  obtain ⟨c0, c1, c2, c3, c4, c5, c6, c7⟩ := hb2.cmd
  go_wp2_with fail
  refine (CF _).out.mono ?_
  rintro e w3 ⟨rfl, rfl⟩
  have kc := fun (s : ByteArray) => Lib.run_convert_string_bytes (P := Try.prog) w3 9 31 5 s Try.underlying9 Try.underlying31 Try.underlying5
  obtain ⟨gb, hgb⟩ : ∃ gb, w3.heap.size = gb := ⟨_, rfl⟩
  have hgg : g < gb := hgb ▸ hb2.lt
  have hB3 := Lib.bytesWorld_below w3 5 (fld k)
  have hb3 := hb2.below hB3 hb2.lt
  have hBw3 : Below g w (Lib.bytesWorld w3 5 (fld k)) := hBw2.trans (hB3.mono (Nat.le_of_lt hb2.lt))
  have HO3 := Lib.hid (own_below HO1.out hB3)
  have hlet : ∀ j (hj : j < (fld k).size), (Lib.bytesWorld w3 5 (fld k)).cell? ⟨gb, j, none⟩ = some (.int .u8 ((bytes (fld k))[j]'(by rw [bytes_length]; exact hj))) := fun j hj => by
    rw [← hgb, Lib.bytesWorld_cell w3 _ _ j hj]
    simp [bytes, List.getD_eq_getElem?_getD, Array.getElem?_eq_getElem (show j < (fld k).data.size from hj)]
  have hgl : gb < (Lib.bytesWorld w3 5 (fld k)).heap.size := by rw [Lib.bytesWorld_size]; omega
  have hown : v1.ownBlock ≠ some gb := fun e => by
    have := (World.ownsRow.lt HO1.out gb e).2
    omega
  have hown2 : some g ≠ v1.ownBlock := fun e => by
    have := (World.ownsRow.lt HO1.out g e.symm).1
    omega
  have hbase := World.ownsRow.lt HO1.out
  go_wp2_with fail
  generalize Lib.bytesWorld w3 5 (fld k) = W3 at hb3 hBw3 HO3 hlet hgl ⊢
  have HBX : Hid (∀ wr x, Grow W3 v1.ownBlock wr x → Blk wr g 25 (cmdCells k n t (.slice A l.length c) b q s m)) := fun wr x hG => (hG.grown.block g hb3.lt hown2).trans hb3
  have HLT : Hid (∀ wr x, Grow W3 v1.ownBlock wr x → ∀ j (hj : j < (fld k).size), wr.cell? ⟨gb, j, none⟩ = some (.int .u8 ((bytes (fld k))[j]'(by rw [bytes_length]; exact hj)))) :=
    fun wr x hG j hj => (World.cell?_of_block (hG.grown.block gb hgl (fun e => hown e.symm))).trans (hlet j hj)
  have HBW : Hid (∀ wr x, Grow W3 v1.ownBlock wr x → Below g w wr) := fun wr x hG => hBw3.trans (hG.below (by have := hb3.lt; omega) (fun i e => by have := (hbase i e).1; omega))
  have HSZ : Hid (∀ wr x, Grow W3 v1.ownBlock wr x → g ≤ wr.heap.size) := fun wr x hG => by have := hG.grown.size; have := hb3.lt; omega
  have hf5 := fld_len k
  have HOG : Hid (Own8 W3 g v1 (numB k)) := own_lower HO3.out (by omega)
  have HFL : Hid (∀ j, (((bytes (fld k)).take j).flatMap (encL n t l b q s m)).length ≤ 360) := by
    intro j
    have h1 := flat_le (encL n t l b q s m) (fun x => encL_le n t l b q s m x H7.out) ((bytes (fld k)).take j)
    have h2 : ((bytes (fld k)).take j).length ≤ 5 := by
      rw [List.length_take, bytes_length]
      omega
    omega
  have HTS : Hid (∀ j (hj : j < (bytes (fld k)).length), ((bytes (fld k)).take (j + 1)).flatMap (encL n t l b q s m) = ((bytes (fld k)).take j).flatMap (encL n t l b q s m) ++ encL n t l b q s m (bytes (fld k))[j]) := by
    intro j hj
    rw [← List.take_append_getElem hj, List.flatMap_append, List.flatMap_singleton]
  have HLX := Lib.hid (letters k)
  have HK9 := Lib.hid (numB_le k)
  have HR0 : Hid (Grow W3 v1.ownBlock W3 v1) := Grow.refl _ _
  obtain ⟨r1, hr1⟩ : ∃ r1, v1.ownBlock = r1 := ⟨_, rfl⟩
  rw [hr1] at HBX HLT HBW HSZ HR0
  clear hb3 hBw3 HO3 hlet hgl hown hown2 hbase HO1 hb2 hBw2 hB3 hr1 kc c0 c1 c2 c3 c4 c5 c6 c7 CF C0
  go_loopw [5, 9, 28] (fun x z i wr => ∃ j : Nat, j ≤ (fld k).size ∧ i = .int .i64 j ∧ Own8 wr g x (numB k ++ ((bytes (fld k)).take j).flatMap (encL n t l b q s m)) ∧ Grow W3 r1 wr x) (fun _ _ i _ => (fld k).size - (intOf i).toNat)
  case atStart => exact ⟨0, by omega, rfl, by simpa using HOG.out, HR0.out⟩
  case round =>
    clear HOG HR0
    obtain ⟨j, hj, rfl, hrow, hG⟩ := hrel
    have HR := Lib.hid hrow
    have HG := Lib.hid hG
    have HB := Lib.hid (HBW.out _ _ hG)
    have HZ := Lib.hid (HSZ.out _ _ hG)
    clear hrow
    by_cases hlt : j < (fld k).size
    · have hltb : j < (bytes (fld k)).length := by rw [bytes_length]; exact hlt
      have hcl := HLT.out _ _ hG j hlt
      have hlx := HLX.out _ (List.getElem_mem hltb)
      have hts := HTS.out j hltb
      have hfl := HFL.out j
      obtain ⟨c0, c1, c2, c3, c4, c5, c6, c7⟩ := (HBX.out _ _ hG).cmd
      obtain ⟨x, hx⟩ : ∃ x, (bytes (fld k))[j] = x := ⟨_, rfl⟩
      rw [hx] at hcl hlx hts
      have HX := Lib.hid hx
      have HTJ := Lib.hid hts
      have HMEM : Hid (x ∈ bytes (fld k)) := by
        show _ ∈ _
        rw [← hx]
        exact List.getElem_mem _
      clear hx hts hG
      rcases hlx with rfl | rfl | rfl | rfl | rfl | rfl | rfl
      · have hset := HST.out (by simp only [hasB, List.contains_eq_mem, decide_eq_true_eq]; exact HMEM.out)
        have CD := Lib.hid (fun wr v' A0 c0 lb (hlb : lb.length ≤ 1000000) (ho : Own8 wr g v' lb) (hz : g ≤ wr.heap.size) (hin : ∀ w', Below g wr w' → InN .i64 w' A0 c0 l) => ref_Nodes_any wr g v' lb A0 c0 l hset hlb ho hz hin)
        have HEQ : Hid (encL n t l b q s m 108 = numB l.length ++ numsB l) := by
          show _ = _
          simp [encL]
        clear hset
        go_wp2_with fail
        refine (CD.out _ _ A c _ (by rw [List.length_append]; have := HK9.out; omega) HR.out HZ.out (fun w' hw' => HIN.out.keep (by rw [hg]; exact HB.out.trans hw'))).mono ?_
        rintro e w5 ⟨v5, rfl, ho5, hB5, hG5⟩
        have HO5 := Lib.hid ho5
        have HG5 := Lib.hid (HG.out.then_ hG5)
        clear ho5 hB5 hG5
        go_wp2
        go_roundw
        case rel => exact ⟨j + 1, by omega, by go_num, by rw [HTJ.out, HEQ.out, ← List.append_assoc]; exact HO5.out, HG5.out⟩
        case measure => simp [intOf]; omega
      · have HEQ : Hid (encL n t l b q s m 110 = numB n) := by
          show _ = _
          simp [encL]
        have hn9 := numB_le n
        have CX := CN n HN.out
        go_wp2_with fail
        refine (CX _).out.mono ?_
        rintro e w5 ⟨v5, rfl, ho5, hB5⟩
        have HO5 := Lib.hid (own_below HR.out hB5)
        have HX5 := Lib.hid ho5
        have HB5 := Lib.hid (HB.out.trans (hB5.mono HZ.out))
        have HG5 := Lib.hid (HG.out.step hB5)
        have HZ5 := Lib.hid (Nat.le_trans HZ.out hB5.size)
        clear ho5 hB5 c0 c1 c2 c3 c4 c5 c6 c7
        go_wp2_with (at_builtin; refine app_row (w0 := w) g rfl _ _ rfl _ (numB k ++ ((bytes (fld k)).take j).flatMap (encL n t l b q s m)) rfl _ _ _ rfl HO5.out HX5.out HB5.out HZ5.out (by rw [List.length_append]; have := HK9.out; omega) ?_; intro v6 w6 ho6 hB6 hG6)
        have HO6 := Lib.hid ho6
        have HG6 := Lib.hid (hG6 _ _ HG5.out)
        clear ho6 hB6 hG6
        go_roundw
        case rel => exact ⟨j + 1, by omega, by go_num, by rw [HTJ.out, HEQ.out, ← List.append_assoc]; exact HO6.out, HG6.out⟩
        case measure => simp [intOf]; omega
      · have HEQ : Hid (encL n t l b q s m 116 = numB t) := by
          show _ = _
          simp [encL]
        have hn9 := numB_le t
        have CX := CN t HT.out
        go_wp2_with fail
        refine (CX _).out.mono ?_
        rintro e w5 ⟨v5, rfl, ho5, hB5⟩
        have HO5 := Lib.hid (own_below HR.out hB5)
        have HX5 := Lib.hid ho5
        have HB5 := Lib.hid (HB.out.trans (hB5.mono HZ.out))
        have HG5 := Lib.hid (HG.out.step hB5)
        have HZ5 := Lib.hid (Nat.le_trans HZ.out hB5.size)
        clear ho5 hB5 c0 c1 c2 c3 c4 c5 c6 c7
        go_wp2_with (at_builtin; refine app_row (w0 := w) g rfl _ _ rfl _ (numB k ++ ((bytes (fld k)).take j).flatMap (encL n t l b q s m)) rfl _ _ _ rfl HO5.out HX5.out HB5.out HZ5.out (by rw [List.length_append]; have := HK9.out; omega) ?_; intro v6 w6 ho6 hB6 hG6)
        have HO6 := Lib.hid ho6
        have HG6 := Lib.hid (hG6 _ _ HG5.out)
        clear ho6 hB6 hG6
        go_roundw
        case rel => exact ⟨j + 1, by omega, by go_num, by rw [HTJ.out, HEQ.out, ← List.append_assoc]; exact HO6.out, HG6.out⟩
        case measure => simp [intOf]; omega
      · have HEQ : Hid (encL n t l b q s m 98 = numB b) := by
          show _ = _
          simp [encL]
        have hn9 := numB_le b
        have CX := CN b HBB.out
        go_wp2_with fail
        refine (CX _).out.mono ?_
        rintro e w5 ⟨v5, rfl, ho5, hB5⟩
        have HO5 := Lib.hid (own_below HR.out hB5)
        have HX5 := Lib.hid ho5
        have HB5 := Lib.hid (HB.out.trans (hB5.mono HZ.out))
        have HG5 := Lib.hid (HG.out.step hB5)
        have HZ5 := Lib.hid (Nat.le_trans HZ.out hB5.size)
        clear ho5 hB5 c0 c1 c2 c3 c4 c5 c6 c7
        go_wp2_with (at_builtin; refine app_row (w0 := w) g rfl _ _ rfl _ (numB k ++ ((bytes (fld k)).take j).flatMap (encL n t l b q s m)) rfl _ _ _ rfl HO5.out HX5.out HB5.out HZ5.out (by rw [List.length_append]; have := HK9.out; omega) ?_; intro v6 w6 ho6 hB6 hG6)
        have HO6 := Lib.hid ho6
        have HG6 := Lib.hid (hG6 _ _ HG5.out)
        clear ho6 hB6 hG6
        go_roundw
        case rel => exact ⟨j + 1, by omega, by go_num, by rw [HTJ.out, HEQ.out, ← List.append_assoc]; exact HO6.out, HG6.out⟩
        case measure => simp [intOf]; omega
      · have HEQ : Hid (encL n t l b q s m 113 = numB q) := by
          show _ = _
          simp [encL]
        have hn9 := numB_le q
        have CX := CN q HQ.out
        go_wp2_with fail
        refine (CX _).out.mono ?_
        rintro e w5 ⟨v5, rfl, ho5, hB5⟩
        have HO5 := Lib.hid (own_below HR.out hB5)
        have HX5 := Lib.hid ho5
        have HB5 := Lib.hid (HB.out.trans (hB5.mono HZ.out))
        have HG5 := Lib.hid (HG.out.step hB5)
        have HZ5 := Lib.hid (Nat.le_trans HZ.out hB5.size)
        clear ho5 hB5 c0 c1 c2 c3 c4 c5 c6 c7
        go_wp2_with (at_builtin; refine app_row (w0 := w) g rfl _ _ rfl _ (numB k ++ ((bytes (fld k)).take j).flatMap (encL n t l b q s m)) rfl _ _ _ rfl HO5.out HX5.out HB5.out HZ5.out (by rw [List.length_append]; have := HK9.out; omega) ?_; intro v6 w6 ho6 hB6 hG6)
        have HO6 := Lib.hid ho6
        have HG6 := Lib.hid (hG6 _ _ HG5.out)
        clear ho6 hB6 hG6
        go_roundw
        case rel => exact ⟨j + 1, by omega, by go_num, by rw [HTJ.out, HEQ.out, ← List.append_assoc]; exact HO6.out, HG6.out⟩
        case measure => simp [intOf]; omega
      · have HEQ : Hid (encL n t l b q s m 115 = numB s) := by
          show _ = _
          simp [encL]
        have hn9 := numB_le s
        have CX := CN s HS.out
        go_wp2_with fail
        refine (CX _).out.mono ?_
        rintro e w5 ⟨v5, rfl, ho5, hB5⟩
        have HO5 := Lib.hid (own_below HR.out hB5)
        have HX5 := Lib.hid ho5
        have HB5 := Lib.hid (HB.out.trans (hB5.mono HZ.out))
        have HG5 := Lib.hid (HG.out.step hB5)
        have HZ5 := Lib.hid (Nat.le_trans HZ.out hB5.size)
        clear ho5 hB5 c0 c1 c2 c3 c4 c5 c6 c7
        go_wp2_with (at_builtin; refine app_row (w0 := w) g rfl _ _ rfl _ (numB k ++ ((bytes (fld k)).take j).flatMap (encL n t l b q s m)) rfl _ _ _ rfl HO5.out HX5.out HB5.out HZ5.out (by rw [List.length_append]; have := HK9.out; omega) ?_; intro v6 w6 ho6 hB6 hG6)
        have HO6 := Lib.hid ho6
        have HG6 := Lib.hid (hG6 _ _ HG5.out)
        clear ho6 hB6 hG6
        go_roundw
        case rel => exact ⟨j + 1, by omega, by go_num, by rw [HTJ.out, HEQ.out, ← List.append_assoc]; exact HO6.out, HG6.out⟩
        case measure => simp [intOf]; omega
      · have HEQ : Hid (encL n t l b q s m 109 = numB m) := by
          show _ = _
          simp [encL]
        have hn9 := numB_le m
        have CX := CN m HM.out
        go_wp2_with fail
        refine (CX _).out.mono ?_
        rintro e w5 ⟨v5, rfl, ho5, hB5⟩
        have HO5 := Lib.hid (own_below HR.out hB5)
        have HX5 := Lib.hid ho5
        have HB5 := Lib.hid (HB.out.trans (hB5.mono HZ.out))
        have HG5 := Lib.hid (HG.out.step hB5)
        have HZ5 := Lib.hid (Nat.le_trans HZ.out hB5.size)
        clear ho5 hB5 c0 c1 c2 c3 c4 c5 c6 c7
        go_wp2_with (at_builtin; refine app_row (w0 := w) g rfl _ _ rfl _ (numB k ++ ((bytes (fld k)).take j).flatMap (encL n t l b q s m)) rfl _ _ _ rfl HO5.out HX5.out HB5.out HZ5.out (by rw [List.length_append]; have := HK9.out; omega) ?_; intro v6 w6 ho6 hB6 hG6)
        have HO6 := Lib.hid ho6
        have HG6 := Lib.hid (hG6 _ _ HG5.out)
        clear ho6 hB6 hG6
        go_roundw
        case rel => exact ⟨j + 1, by omega, by go_num, by rw [HTJ.out, HEQ.out, ← List.append_assoc]; exact HO6.out, HG6.out⟩
        case measure => simp [intOf]; omega
    · obtain rfl : j = (fld k).size := by omega
      clear hG
      go_wp2
      go_ret2
      refine ⟨_, rfl, ?_, by rw [hg]; exact HB.out⟩
      rw [hg, ← HENC.out]
      have e : (bytes (fld k)).take (fld k).size = bytes (fld k) := List.take_of_length_le (by rw [bytes_length]; exact Nat.le_refl _)
      have := HR.out
      rw [e] at this
      exact this
end Go.Proofs.Ytnpodnieahokjaa
