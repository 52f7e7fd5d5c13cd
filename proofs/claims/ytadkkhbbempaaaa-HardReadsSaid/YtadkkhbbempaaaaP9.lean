/- Texts drawn together (1 of them): words, plain laws and walks that the row leans on. -/
import Derived.Test.YtadkkhbbempaaaaP7
import Derived.Test.YtadkkhbbempaaaaP8
/- Records read: the code's Decode. -/
namespace Go.Proofs.Ytadkkhbbempaaaa
set_option maxRecDepth 100000
set_option linter.unusedSimpArgs false
open Go.RowKit

theorem sh0_wf2 : sh0.Wf := ⟨⟨by decide, by decide⟩, ⟨by decide, by decide⟩, by decide, by decide, ⟨by decide, by decide⟩, (fun _ h => by cases h), (fun _ h => by cases h)⟩
theorem en0_wf2 : en0.Wf := ⟨⟨by decide, by decide⟩, by decide, by decide, by decide, by decide, ⟨by decide, by decide⟩, ⟨by decide, by decide⟩, ⟨by decide, by decide⟩, ⟨by decide, by decide⟩⟩
theorem wf0 : (Lit.int .i64 0).wf = true := by decide
theorem wfu0 : (0 : Int) ≤ 0 ∧ (0 : Int) < 18446744073709551616 := by decide
def rcK (z : Int) : Rc := ⟨z, 0, 0, 0, 0, en0, sh0⟩
abbrev M64 : Int := 18446744073709551615
/-- The end of reading: an error, too much, no record, or this one. -/
noncomputable def fin (lb : List Int) (e : Int) (k : Nat) (r : Rc) : Int × Rc :=
  if e = 60 then (130, rc0) else if e ≠ 0 then (e, rc0) else if k < lb.length then (11, rc0) else if r.May then (0, r) else (130, rc0)
noncomputable def addD (ix tm : Int) (l : List Int) : Int × Rc :=
  if dE l = 40 then (aE l, rc0) else if dE l ≠ 0 then (dE l, rc0) else if (dm l).2.1 < l.length then (11, rc0) else if (rcE ix (enD tm l)).May then (0, rcE ix (enD tm l)) else (130, rc0)
def shD (lb : List Int) : Sh := ⟨(sI lb).1, (sT lb).1, (sNs lb).1, (sLim lb).1, (sNxt lb).1, (sHs lb).1, (sLs lb).1⟩
/-- What is read of a record's bytes behind its kind. -/
noncomputable def recD (z : Int) (lb : List Int) : Int × Rc :=
  if z = 1 then fin lb (rnum lb 0 0 M64).2.2 (rnum lb 0 0 M64).2.1 ⟨z, 0, (rnum lb 0 0 M64).1, 0, 0, en0, sh0⟩
  else if z = 2 then
    if (rnum lb (rnum lb 0 0 M64).2.1 (rnum lb 0 0 M64).2.2 M64).1 > 65535 then (11, rc0)
    else fin lb (rnum lb (rnum lb 0 0 M64).2.1 (rnum lb 0 0 M64).2.2 M64).2.2 (rnum lb (rnum lb 0 0 M64).2.1 (rnum lb 0 0 M64).2.2 M64).2.1 ⟨z, (rnum lb (rnum lb 0 0 M64).2.1 (rnum lb 0 0 M64).2.2 M64).1, 0, (rnum lb 0 0 M64).1, 0, en0, sh0⟩
  else if z = 3 then
    if (rnum lb (rnum lb 0 0 M64).2.1 (rnum lb 0 0 M64).2.2 M64).2.2 = 0 then addD (rnum lb 0 0 M64).1 (rnum lb (rnum lb 0 0 M64).2.1 (rnum lb 0 0 M64).2.2 M64).1 (lb.drop (rnum lb (rnum lb 0 0 M64).2.1 (rnum lb 0 0 M64).2.2 M64).2.1)
    else fin lb (rnum lb (rnum lb 0 0 M64).2.1 (rnum lb 0 0 M64).2.2 M64).2.2 (rnum lb (rnum lb 0 0 M64).2.1 (rnum lb 0 0 M64).2.2 M64).2.1 (rcA (rnum lb 0 0 M64).1 (rnum lb (rnum lb 0 0 M64).2.1 (rnum lb 0 0 M64).2.2 M64).1)
  else if z = 4 then fin lb (rnum lb 0 0 M64).2.2 (rnum lb 0 0 M64).2.1 ⟨z, 0, 0, 0, (rnum lb 0 0 M64).1, en0, sh0⟩
  else if z = 5 then fin lb (sE lb) lb.length ⟨z, 0, 0, 0, 0, en0, if sE lb = 0 then shD lb else sh0⟩
  else (11, rc0)
/-- What is read of any bytes. -/
noncomputable def hD (L : List Int) : Int × Rc := if 8000 < L.length then (2, rc0) else if L.length = 0 then (10, rc0) else recD (L.getD 0 0) L.tail
theorem InS.grown {α : Type} {f : α → List Value} {s : Nat} {w w' : World} {A : Option Addr} {c : Nat} {l : List α} {q B : Nat} (h : InS f s w A c l) (hg : w.grownBy w' (some q)) (hq : q < B) (h0 : ∀ b, (Value.slice A l.length c).ownBlock = some b → B ≤ b) : InS f s w' A c l := by
  refine ⟨⟨h.reads.1, fun hn => ?_⟩, h.cap, h.small⟩
  obtain ⟨b, off, e, hb, hc⟩ := h.reads.2 hn
  subst e
  have := h0 b rfl
  exact ⟨b, off, rfl, Nat.lt_of_lt_of_le hb hg.size, fun j u hu => (World.cell?_of_block (hg.block b hb (fun e => by injection e with e; omega))).trans (hc j u hu)⟩
/-- A snapshot's rows lie in blocks from B on. -/
def Far (B : Nat) (s : Sh) (a : Sa) : Prop := (∀ b, (Value.slice a.A0 s.ns.length a.c0).ownBlock = some b → B ≤ b) ∧ (∀ b, (Value.slice a.A1 s.hs.length a.c1).ownBlock = some b → B ≤ b) ∧ (∀ b, (Value.slice a.A2 s.ls.length a.c2).ownBlock = some b → B ≤ b)
theorem InSh.grown {w w' : World} {s : Sh} {a : Sa} {q B : Nat} (h : InSh w s a) (hf : Far B s a) (hg : w.grownBy w' (some q)) (hq : q < B) : InSh w' s a :=
  ⟨h.n.grown hg (fun b off e hh => by injection hh with hh; have := hf.1 b (by rw [e]; rfl); omega), h.h.grown hg hq hf.2.1, h.l.grown hg hq hf.2.2⟩
structure HD (w W : World) (g gr gb ge b c : Nat) (lb : List Int) (cs : Array Value) (k : Nat) (e : Int) : Prop where
  res : Blk W g 48 (recC rc0 ra0)
  rc : Blk W gr 48 cs
  rd : RH W gb ge (some ⟨b, 0, none⟩) c lb k e
  by_ : By W b lb
  bel : Below g w W
structure HO (g gr gb ge c : Nat) (lb : List Int) : Prop where
  o1 : g < gr
  o2 : g < gb
  o3 : g < ge
  byt : Byt lb
  cap : lb.length ≤ c
  small : lb.length ≤ 8000
theorem bytes_cons (s : ByteArray) (h0 : 0 < s.size) : bytes s = ((s[0]'h0).toNat : Int) :: bytes (s.extract 1 s.size) := by
  obtain ⟨⟨l⟩⟩ := s
  match l, h0 with
  | b :: l, h0 =>
    have h1 : (ByteArray.extract ⟨⟨b :: l⟩⟩ 1 (ByteArray.size ⟨⟨b :: l⟩⟩)).data.toList = l := by
      rw [ByteArray.data_extract, Array.toList_extract]
      simp [ByteArray.size]
    simp only [bytes, h1]
    rfl
theorem enD_wf {tm : Int} {lb : List Int} (hb : Byt lb) (htm : 0 ≤ tm ∧ tm < 18446744073709551616) : (enD tm lb).Wf := by
  have r := ranges hb
  refine ⟨htm, wf_i64_of (by have := r.K; show -9223372036854775808 ≤ (dK lb).1; omega) (by have := r.K; show (dK lb).1 ≤ _; omega), wf_i64_of (by have := r.n; show -9223372036854775808 ≤ (dn lb).1; omega) (by have := r.n; show (dn lb).1 ≤ _; omega), wf_i64_of (by have := r.t; show -9223372036854775808 ≤ (dt lb).1; omega) (by have := r.t; show (dt lb).1 ≤ _; omega),
    by have := r.L; show (dL lb).1.length ≤ _; omega, by have := r.b; show 0 ≤ (db lb).1 ∧ (db lb).1 < _; omega, by have := r.q; show 0 ≤ (dq lb).1 ∧ (dq lb).1 < _; omega, by have := r.s; show 0 ≤ (ds lb).1 ∧ (ds lb).1 < _; omega, by have := r.m; show 0 ≤ (dm lb).1 ∧ (dm lb).1 < _; omega⟩
theorem shD_wf {lb : List Int} (hb : Byt lb) (h : sE lb = 0) : (shD lb).Wf := by
  have h0 : 1 ≤ lb.length := by
    rcases Nat.eq_zero_or_pos lb.length with q | q
    · unfold sE at h
      rw [if_neg (by omega), if_pos q] at h
      exact absurd h (by decide)
    · exact q
  obtain ⟨w1, w2, w3, w4, w5, w6, _⟩ := shot_wf hb h0
  have ok := (shot_same hb h).1
  have l1 := ok.led.head.l1
  have l2 := ok.led.head.l2
  exact ⟨w1, w2, by show (sNs lb).1.length ≤ _; omega, wf_i64_of (by show -9223372036854775808 ≤ (sLim lb).1; omega) (by show (sLim lb).1 ≤ _; omega), w3, w4, w5⟩
theorem hadd_any (w : World) (ix tm : Int) (A : Option Addr) (c : Nat) (lb : List Int) (h : In8 w A c lb) (hix : 0 ≤ ix ∧ ix < 18446744073709551616) (htm : 0 ≤ tm ∧ tm < 18446744073709551616) :
    Calls Try.prog 56 #[recV (rcA ix tm) ra0, .slice A lb.length c] w fun x w' => Below w.heap.size w w' ∧ ∃ A' c', x = .returned (.tuple #[recV (addD ix tm lb).2 ⟨A', c', sa0⟩, .int .i64 (addD ix tm lb).1]) ∧ InN .i64 w' A' c' (addD ix tm lb).2.en.l ∧ (addD ix tm lb).2.sh = sh0 ∧ ∀ b, (Value.slice A' (addD ix tm lb).2.en.l.length c').ownBlock = some b → w.heap.size ≤ b := by
  by_cases h40 : dE lb = 40
  · have e : addD ix tm lb = (aE lb, rc0) := by rw [addD, if_pos h40]
    rw [e]
    exact (hadd_40 w ix tm A c lb h h40).mono fun x w' ⟨hB, hx⟩ => ⟨hB, none, 0, hx, InN.nil, rfl, fun b hb => by cases hb⟩
  by_cases h0 : dE lb = 0
  rotate_left
  · have e : addD ix tm lb = (dE lb, rc0) := by rw [addD, if_neg h40, if_pos h0]
    rw [e]
    exact (hadd_err w ix tm A c lb h h0 h40).mono fun x w' ⟨hB, hx⟩ => ⟨hB, none, 0, hx, InN.nil, rfl, fun b hb => by cases hb⟩
  refine (hadd_ok w ix tm A c lb h h0 ⟨by show (Lit.int .i64 3).wf = true; decide, wf0, wfu0, wfu0, hix, enD_wf h.byt htm, sh0_wf2⟩).mono fun x w' ⟨hB, hx⟩ => ⟨hB, ?_⟩
  have e1 : addD ix tm lb = if (dm lb).2.1 < lb.length then (11, rc0) else if (rcE ix (enD tm lb)).May then (0, rcE ix (enD tm lb)) else (130, rc0) := by rw [addD, if_neg h40, if_neg (by rw [h0]; simp)]
  rcases hx with ⟨hk, hx⟩ | ⟨hk, hm, hx⟩ | ⟨hk, hm, A', c', hx, hi, ho⟩
  · rw [if_pos hk] at e1
    rw [e1]
    exact ⟨none, 0, hx, InN.nil, rfl, fun b hb => by cases hb⟩
  · rw [if_neg hk, if_neg hm] at e1
    rw [e1]
    exact ⟨none, 0, hx, InN.nil, rfl, fun b hb => by cases hb⟩
  · rw [if_neg hk, if_pos hm] at e1
    rw [e1]
    exact ⟨A', c', hx, hi.l, rfl, ho⟩
theorem RG.c6g {w W : World} {g : Nat} {p6 : Option (Nat × Nat)} {p7 : Option (Nat × Array Value)} {p8 : Option (Nat × Value)} {p9 : Option Nat} {s : ByteArray} (h : RG w W g (bytes s) p6 p7 p8 p9) : RG w (Lib.bytesWorld W 5 s) g (bytes s) (some (W.heap.size, grownCap W s.size 0 5)) p7 p8 p9 := h.c6 (grownCap_ge _ _ _ _)
theorem gen_world {P R : World → Prop} {W : World} (hr : R W) (h : ∀ W', R W' → P W') : P W := h W hr
theorem str_cut (s : ByteArray) (h0 : 0 < s.size) : ∃ (z : Int) (s2 : ByteArray), (0 ≤ z ∧ z ≤ 255) ∧ bytes s = z :: bytes s2 ∧ (∀ w, (Instr.index 9 (.string s) (.int .i64 0)).run Try.prog w = .ok (.int .u8 z) w) ∧ (∀ w, (Instr.slice 9 (.string s) (some (.int .i64 1)) none none).run Try.prog w = .ok (.string s2) w) := by
  refine ⟨((s[0]'h0).toNat : Int), s.extract 1 s.size, ?_, ?_, fun w => ?_, fun w => ?_⟩
  · have := (s[0]'h0).toNat_lt
    omega
  · exact bytes_cons s h0
  · rw [run_index_string w _ s _ _ Try.underlying9, dif_pos ⟨by omega, by omega⟩]
    rfl
  · rw [run_slice_string_l w _ s Try.underlying9 _ _ (by omega) (by omega)]
    rfl
section
variable {w W : World} {g gr gb ge b c : Nat} {lb : List Int} {cs : Array Value} {k : Nat} {e : Int}
theorem HD.in8 (h : HD w W g gr gb ge b c lb cs k e) (o : HO g gr gb ge c lb) : In8 W (some ⟨b, 0, none⟩) c lb := h.by_.in8 o.byt o.cap (by have := o.small; omega)
theorem HD.two {W1 : World} {k1 : Nat} {e1 : Int} (h : HD w W g gr gb ge b c lb cs k e) (o : HO g gr gb ge c lb) (ht : Two W W1 gb ge) (hr : RH W1 gb ge (some ⟨b, 0, none⟩) c lb k1 e1) : HD w W1 g gr gb ge b c lb cs k1 e1 := by
  obtain ⟨A, c', hb, he, _⟩ := h.rd
  have o1 := o.o1
  have o2 := o.o2
  have o3 := o.o3
  refine ⟨ht.blk h.res (by omega) (by omega), ht.blk h.rc (h.rc.ne_ hb (by decide)) (h.rc.ne_ he (by decide)), hr, ?_, ht.below h.bel (Nat.le_of_lt h.res.lt) (by omega) (by omega)⟩
  obtain ⟨w1, k1, k2⟩ := ht
  exact (h.by_.grown k1 (fun e => h.by_.ne he (by decide) (Option.some.inj e))).grown k2 (fun e => h.by_.ne hb (by decide) (Option.some.inj e))
theorem HD.num (h : HD w W g gr gb ge b c lb cs k e) (o : HO g gr gb ge c lb) :
    Calls Try.prog 54 #[.pointer (some ⟨ge, 0, none⟩), .pointer (some ⟨gb, 0, none⟩)] W fun x w' => x = .returned (.int .u64 (rnum lb k e M64).1) ∧ HD w w' g gr gb ge b c lb cs (rnum lb k e M64).2.1 (rnum lb k e M64).2.2 :=
  (hnum_any W gb ge (some ⟨b, 0, none⟩) c lb k e (h.in8 o) h.rd).mono fun _ _ ⟨h1, h2, h3⟩ => ⟨h1, h.two o h3 h2⟩
theorem HD.below {W1 : World} (h : HD w W g gr gb ge b c lb cs k e) (hb : Below W.heap.size W W1) : HD w W1 g gr gb ge b c lb cs k e := by
  obtain ⟨A, c', k1, k2, k3⟩ := h.rd
  exact ⟨h.res.below hb h.res.lt, h.rc.below hb h.rc.lt, ⟨A, c', k1.below hb k1.lt, k2.below hb k2.lt, k3⟩, h.by_.below hb h.by_.lt, h.bel.trans (hb.mono (Nat.le_of_lt h.res.lt))⟩
theorem HD.set {l : List Value} (h : HD w W g gr gb ge b c lb l.toArray k e) (o : HO g gr gb ge c lb) (j : Nat) (u : Value) : HD w (W.setCell ⟨gr, j, none⟩ u) g gr gb ge b c lb (l.set j u).toArray k e := by
  obtain ⟨A, c', k1, k2, k3⟩ := h.rd
  have o1 := o.o1
  exact ⟨h.res.far (p := ⟨gr, j, none⟩) (by show g ≠ gr; omega) u, h.rc.setL j u, ⟨A, c', k1.far (p := ⟨gr, j, none⟩) (k1.ne_ h.rc (by decide)) u, k2.far (p := ⟨gr, j, none⟩) (k2.ne_ h.rc (by decide)) u, k3⟩,
    h.by_.of_block (Below.heap_setCell W ⟨gr, j, none⟩ u b (h.by_.ne h.rc (by decide))), h.bel.setCell (p := ⟨gr, j, none⟩) (by show g ≤ gr; omega) u⟩
theorem HD.mid {l : List Value} (h : HD w W g gr gb ge b c lb l.toArray k e) (o : HO g gr gb ge c lb) (vs : List Value) (f : Nat) : HD w (W.setCells gr f vs) g gr gb ge b c lb (midL l f vs).toArray k e := by
  induction vs generalizing W l f with
  | nil => exact h
  | cons v vs ih => exact ih (h.set o f v) (f + 1)
theorem HD.nil (h : HD w W g gr gb ge b c lb cs k e) (o : HO g gr gb ge c lb) : HD w (W.setCell ⟨gb, 0, none⟩ (.slice none 0 0)) g gr gb ge b c lb cs lb.length e := by
  obtain ⟨A, c', k1, k2, k3⟩ := h.rd
  have o2 := o.o2
  refine ⟨h.res.far (p := ⟨gb, 0, none⟩) (by show g ≠ gb; omega) _, h.rc.far (p := ⟨gb, 0, none⟩) (h.rc.ne_ k1 (by decide)) _, ⟨none, 0, ?_, k2.far (p := ⟨gb, 0, none⟩) (k2.ne_ k1 (by decide)) _, fun W hW => ?_, Nat.le_refl _, by omega⟩,
    h.by_.of_block (Below.heap_setCell W ⟨gb, 0, none⟩ _ b (h.by_.ne k1 (by decide))), h.bel.setCell (p := ⟨gb, 0, none⟩) (by show g ≤ gb; omega) _⟩
  · rw [Nat.sub_self]
    exact k1.set_ 0 _
  · rw [List.drop_length]
    exact ⟨Reads.none_, Byt.nil, Nat.le_refl _, by simp⟩
theorem HD.err (h : HD w W g gr gb ge b c lb cs k e) (o : HO g gr gb ge c lb) (e1 : Int) : HD w (W.setCell ⟨ge, 0, none⟩ (.int .i64 e1)) g gr gb ge b c lb cs k e1 := by
  obtain ⟨A, c', k1, k2, k3⟩ := h.rd
  have o3 := o.o3
  exact ⟨h.res.far (p := ⟨ge, 0, none⟩) (by show g ≠ ge; omega) _, h.rc.far (p := ⟨ge, 0, none⟩) (h.rc.ne_ k2 (by decide)) _, ⟨A, c', k1.far (p := ⟨ge, 0, none⟩) (k1.ne_ k2 (by decide)) _, k2.set_ 0 _, k3⟩,
    h.by_.of_block (Below.heap_setCell W ⟨ge, 0, none⟩ _ b (h.by_.ne k2 (by decide))), h.bel.setCell (p := ⟨ge, 0, none⟩) (by show g ≤ ge; omega) _⟩
end

set_option maxHeartbeats 40000000 in
theorem hard_Decode_any (w : World) (s : ByteArray) :
    Calls Try.prog 28 #[.string s] w fun x w' => Below w.heap.size w w' ∧ ∃ a, x = .returned (.tuple #[recV (hD (bytes s)).2 a, .int .i64 (hD (bytes s)).1]) ∧ InR w' (hD (bytes s)).2 a := by
  obtain ⟨g, hg⟩ : ∃ g, w.heap.size = g := ⟨_, rfl⟩
  rw [hg]
  have hmf : ∀ (fn : Fn) (first cap : Array Value) (w : World), (Instr.makeFunc fn first cap).run Try.prog w = .ok (.func fn first cap) w := fun _ _ _ _ => rfl
  have hlen := bytes_length s
  obtain ⟨DD, hDD⟩ : ∃ DD, hD (bytes s) = DD := ⟨_, rfl⟩
  have HDD : Hid (DD = hD (bytes s)) := hDD.symm
  rw [hDD]
  clear hDD
  have hBx : Below g w (w.alloc (.cells (recC rc0 ra0) 48)) := (Below.refl _ _).alloc (by omega) _
  have hr1 : Blk (w.alloc (.cells (recC rc0 ra0) 48)) g 48 (recC rc0 ra0) := hg ▸ Blk.new _ _ _
  unfold recV
  go_enter Try.func28, Try.ntmps28
  go_upto_region 1 with (fail)
  change Code.wp _ _ _ _ (w.alloc (.cells (recC rc0 ra0) 48))
  generalize (w.alloc (.cells (recC rc0 ra0) 48)) = W at hr1 hBx ⊢
  try rw [hg]
  by_cases h1 : 8000 < s.size
  · have d1 : decide ((s.size : Int) > 8000) = true := decide_eq_true (by omega)
    have HV : Hid (DD = (2, rc0)) := by
      show _ = _
      rw [HDD.out, hD, if_pos (by omega)]
    clear h1
    go_wp2_with (refine wpList_store_row rfl 48 _ _ rfl g (recC rc0 ra0) rfl rfl 48 (recC rc0 ra0) hr1 info_Rec rfl (recC_one _ _) ?_)
    (try simp only [Exit.inBlock, Exit.then])
    refine bodyPost_ret (results_cell rfl rfl (run_loadVar_row _ g 48 48 _ (0, 0) _ (Blk.row (cs := recC rc0 ra0) hr1) Try.underlying48 rfl info_Rec)) rfl ?_
    exact ⟨row_below hBx (Nat.le_refl _) _, ra0, by have hv := HV.out; subst hv; rfl, by have hv := HV.out; subst hv; exact InR.zero _⟩
  have d1 : decide ((s.size : Int) > 8000) = false := decide_eq_false (by omega)
  by_cases h2 : s.size = 0
  · have d2 : (s.toList == []) = true := by
      have : s.toList = [] := List.eq_nil_of_length_eq_zero (by rw [ByteArray.toList_eq]; simpa using h2)
      rw [this]; rfl
    have HV : Hid (DD = (10, rc0)) := by
      show _ = _
      rw [HDD.out, hD, if_neg (by omega), if_pos (by omega)]
    clear h1
    go_wp2_with (refine wpList_store_row rfl 48 _ _ rfl g (recC rc0 ra0) rfl rfl 48 (recC rc0 ra0) hr1 info_Rec rfl (recC_one _ _) ?_)
    (try simp only [Exit.inBlock, Exit.then])
    refine bodyPost_ret (results_cell rfl rfl (run_loadVar_row _ g 48 48 _ (0, 0) _ (Blk.row (cs := recC rc0 ra0) hr1) Try.underlying48 rfl info_Rec)) rfl ?_
    exact ⟨row_below hBx (Nat.le_refl _) _, ra0, by have hv := HV.out; subst hv; rfl, by have hv := HV.out; subst hv; exact InR.zero _⟩
  have d2 : (s.toList == []) = false := by
    rw [beq_eq_false_iff_ne]
    intro h
    have := congrArg List.length h
    rw [ByteArray.toList_eq] at this
    exact h2 (by simpa using this)
  have h0 : 0 < s.size := by omega
  have hs8 : s.size ≤ 8000 := by omega
  have hfact : ∃ (z : Int) (s2 : ByteArray), (0 ≤ z ∧ z ≤ 255) ∧ bytes s = z :: bytes s2 ∧ (∀ w, (Instr.index 9 (.string s) (.int .i64 0)).run Try.prog w = .ok (.int .u8 z) w) ∧ (∀ w, (Instr.slice 9 (.string s) (some (.int .i64 1)) none none).run Try.prog w = .ok (.string s2) w) := str_cut s h0
  obtain ⟨z, s2, hz, hbs, hix, hsl⟩ := hfact
  have hl2 : s2.size + 1 = s.size := by
    have := congrArg List.length hbs
    rw [List.length_cons, bytes_length, bytes_length] at this
    omega
  have hz1 := hz.1
  have hz2 := hz.2
  have wz : IntKind.i64.wrap z = z := by rw [IntKind.wrap_i64]; omega
  have HV : Hid (DD = recD z (bytes s2)) := by
    show _ = _
    rw [HDD.out, hD, if_neg (by omega), if_neg (by omega), hbs]
    rfl
  have hcv : ∀ w, (convert 9 75 (.string s2)).run Try.prog w = .ok (.slice (some ⟨w.heap.size, 0, none⟩) s2.size (grownCap w s2.size 0 5)) (Lib.bytesWorld w 5 s2) := fun w => Lib.run_convert_string_bytes w _ _ _ s2 Try.underlying9 Try.underlying75 Try.underlying5
  have hcap6 : ∀ w : World, s2.size ≤ grownCap w s2.size 0 5 := fun w => grownCap_ge w _ _ _
  have HR : Hid (RG w W g (bytes s2) none none none none) := ⟨hr1, hBx, (fun _ _ e => by cases e), (fun _ _ e => by cases e), (fun _ _ e => by cases e), (fun _ e => by cases e)⟩
  clear hr1 hBx HDD h1 h2 hbs hlen
  go_upto_region 5 with (fail)
  go_cut [4, 5, 6] (fun x4 x5 x6 wx => ∃ gr gb ge b c, x4 = .pointer (some ⟨gr, 0, none⟩) ∧ x5 = .pointer (some ⟨gb, 0, none⟩) ∧ x6 = .pointer (some ⟨ge, 0, none⟩) ∧ RG w wx g (bytes s2) (some (b, c)) (some (gr, recC (rcK z) ra0)) (some (gb, .slice (some ⟨b, 0, none⟩) s2.size c)) (some ge))
  case first =>
    refine wp_region_held_drew (S := fun _ => True) (by kernel_rfl) trivial (fun hHeld => ?_)
    refine gen_world (R := fun W' => RG w W' g (bytes s2) _ _ _ _) (P := fun W' => wpAnyH _ _ _ _ _ _ _ _ W') (HR.out.keep (Below.refl _ _).drew) (fun W0 hR0 => ?_)
    have HR0 := Lib.hid hR0
    clear hR0
    refine wpAnyH_take (i := 0) (v := ?v1) rfl (by kernel_rfl) (by kernel_rfl) (by kernel_rfl) (fun _ _ _ h => h) (Or.inl ⟨by rfl, ?y1⟩) (by assumption) ?r1
    case y1 => (intro w hSw; (try dsimp only at hSw); (try go_simp); first | done | with_reducible rfl)
    ((try simp only [List.getElem_toArray, List.getElem_cons_zero]); (try simp only [Act.put, List.setIfInBounds_toArray, List.set_cons_zero, List.set_cons_succ]))
    refine wpAnyH_take (i := 1) (v := ?v1002) rfl (by kernel_rfl) (by kernel_rfl) (by kernel_rfl) (fun _ _ _ h => h) (Or.inl ⟨by rfl, ?y1002⟩) (by assumption) ?r1002
    case y1002 => (intro w hSw; (try dsimp only at hSw); (try go_simp); first | done | with_reducible rfl)
    ((try simp only [List.getElem_toArray, List.getElem_cons_succ, List.getElem_cons_zero]); (try simp only [Act.put, List.setIfInBounds_toArray, List.set_cons_zero, List.set_cons_succ]))
    refine wpAnyH_take (i := 2) (v := ?v2003) rfl (by kernel_rfl) (by kernel_rfl) (by kernel_rfl) (fun _ _ _ h => h) (Or.inl ⟨by rfl, ?y2003⟩) (by assumption) ?r2003
    case y2003 => (intro w hSw; (try dsimp only at hSw); (try go_simp); first | done | with_reducible rfl)
    ((try simp only [List.getElem_toArray, List.getElem_cons_succ, List.getElem_cons_zero]); (try simp only [Act.put, List.setIfInBounds_toArray, List.set_cons_zero, List.set_cons_succ]))
    refine wpAnyH_take (i := 3) (v := ?v3004) rfl (by kernel_rfl) (by kernel_rfl) (by kernel_rfl) (fun _ _ _ h => h) (Or.inl ⟨by rfl, ?y3004⟩) (by assumption) ?r3004
    case y3004 => (intro w hSw; (try dsimp only at hSw); (try go_simp); first | done | with_reducible rfl)
    ((try simp only [List.getElem_toArray, List.getElem_cons_succ, List.getElem_cons_zero]); (try simp only [Act.put, List.setIfInBounds_toArray, List.set_cons_zero, List.set_cons_succ]))
    refine wpAnyH_take (i := 4) (v := ?v4005) rfl (by kernel_rfl) (by kernel_rfl) (by kernel_rfl) (fun _ _ _ h => h) (Or.inl ⟨by rfl, ?y4005⟩) (by assumption) ?r4005
    case y4005 => (intro w hSw; (try dsimp only at hSw); (try go_simp); first | done | with_reducible rfl)
    ((try simp only [List.getElem_toArray, List.getElem_cons_succ, List.getElem_cons_zero]); (try simp only [Act.put, List.setIfInBounds_toArray, List.set_cons_zero, List.set_cons_succ]))
    refine wpAnyH_take (i := 5) (v := ?v5006) rfl (by kernel_rfl) (by kernel_rfl) (by kernel_rfl) (fun _ _ _ h => h) (Or.inl ⟨by rfl, ?y5006⟩) (by assumption) ?r5006
    case y5006 => (intro w hSw; (try dsimp only at hSw); (try go_simp); first | done | with_reducible rfl)
    ((try simp only [List.getElem_toArray, List.getElem_cons_succ, List.getElem_cons_zero]); (try simp only [Act.put, List.setIfInBounds_toArray, List.set_cons_zero, List.set_cons_succ]))
    refine wpAnyH_ready (rs := [6, 7, 8, 9]) (by kernel_rfl) (by simp) ?_
    refine AllReadyH.cons rfl (fun K hK => ?_) (AllReadyH.cons rfl (fun K hK => ?_) (AllReadyH.cons rfl (fun K hK => ?_) (AllReadyH.cons rfl (fun K hK => ?_) AllReadyH.nil)))
    · go_simp
      refine hK.out _ _ trivial (fun hHeld2 => ?_)
      clear hK K hHeld
      have hHeld := hHeld2
      clear hHeld2
      refine gen_world (R := fun W' => RG w W' g (bytes s2) _ _ _ _) (P := fun W' => wpAnyH _ _ _ _ _ _ _ _ W') (HR0.out.c6g) (fun W1 hR1 => ?_)
      have HR1 := Lib.hid hR1
      clear hR1
      ((try simp only [List.getElem_toArray, List.getElem_cons_succ, List.getElem_cons_zero]); (try simp only [Act.put, List.setIfInBounds_toArray, List.set_cons_zero, List.set_cons_succ]))
      refine wpAnyH_ready (rs := [7, 8, 9]) (by kernel_rfl) (by simp) ?_
      refine AllReadyH.cons rfl (fun K hK => ?_) (AllReadyH.cons rfl (fun K hK => ?_) (AllReadyH.cons rfl (fun K hK => ?_) AllReadyH.nil))
      · go_simp
        refine hK.out _ _ trivial (fun hHeld2 => ?_)
        clear hK K hHeld
        have hHeld := hHeld2
        clear hHeld2
        refine gen_world (R := fun W' => RG w W' g (bytes s2) _ _ _ _) (P := fun W' => wpAnyH _ _ _ _ _ _ _ _ W') (HR1.out.a7 (recC rc0 ra0)) (fun W2 hR2 => ?_)
        have HR2 := Lib.hid hR2
        clear hR2
        ((try simp only [List.getElem_toArray, List.getElem_cons_succ, List.getElem_cons_zero]); (try simp only [Act.put, List.setIfInBounds_toArray, List.set_cons_zero, List.set_cons_succ]))
        refine wpAnyH_ready (rs := [8, 9]) (by kernel_rfl) (by simp) ?_
        refine AllReadyH.cons rfl (fun K hK => ?_) (AllReadyH.cons rfl (fun K hK => ?_) AllReadyH.nil)
        · go_simp
          refine hK.out _ _ trivial (fun hHeld2 => ?_)
          clear hK K hHeld
          have hHeld := hHeld2
          clear hHeld2
          refine gen_world (R := fun W' => RG w W' g (bytes s2) _ _ _ _) (P := fun W' => wpAnyH _ _ _ _ _ _ _ _ W') (HR2.out.a8 (.slice none 0 0)) (fun W3 hR3 => ?_)
          have HR3 := Lib.hid hR3
          clear hR3
          ((try simp only [List.getElem_toArray, List.getElem_cons_succ, List.getElem_cons_zero]); (try simp only [Act.put, List.setIfInBounds_toArray, List.set_cons_zero, List.set_cons_succ]))
          refine wpAnyH_ready (rs := [9]) (by kernel_rfl) (by simp) ?_
          refine AllReadyH.cons rfl (fun K hK => ?_) AllReadyH.nil
          · go_simp
            refine hK.out _ _ trivial (fun hHeld2 => ?_)
            clear hK K hHeld
            have hHeld := hHeld2
            clear hHeld2
            refine gen_world (R := fun W' => RG w W' g (bytes s2) _ _ _ _) (P := fun W' => wpAnyH _ _ _ _ _ _ _ _ W') (HR3.out.a9) (fun W4 hR4 => ?_)
            have HR4 := Lib.hid hR4
            clear hR4
            ((try simp only [List.getElem_toArray, List.getElem_cons_succ, List.getElem_cons_zero]); (try simp only [Act.put, List.setIfInBounds_toArray, List.set_cons_zero, List.set_cons_succ]))
            refine wpAnyH_ready (rs := [10]) (by kernel_rfl) (by simp) ?_
            refine AllReadyH.cons rfl (fun K hK => ?_) AllReadyH.nil
            · refine step_store_row rfl 48 _ _ rfl _ (recC (rcK z) ra0) rfl rfl 48 (recC rc0 ra0) (HR4.out.b7 _ _ rfl).1 info_Rec rfl (recC_one _ _) ?_
              refine hK.out _ _ trivial (fun hHeld2 => ?_)
              clear hK K hHeld
              have hHeld := hHeld2
              clear hHeld2
              refine gen_world (R := fun W' => RG w W' g (bytes s2) _ _ _ _) (P := fun W' => wpAnyH _ _ _ _ _ _ _ _ W') (HR4.out.s10 (recC (rcK z) ra0)) (fun W5 hR5 => ?_)
              have HR5 := Lib.hid hR5
              clear hR5
              ((try simp only [List.getElem_toArray, List.getElem_cons_succ, List.getElem_cons_zero]); (try simp only [Act.put, List.setIfInBounds_toArray, List.set_cons_zero, List.set_cons_succ]))
              refine wpAnyH_ready (rs := [11]) (by kernel_rfl) (by simp) ?_
              refine AllReadyH.cons rfl (fun K hK => ?_) AllReadyH.nil
              · have q1 := (HR5.out.b8 _ _ rfl).1.cell 0
                have q2 := (HR5.out.b8 _ _ rfl).1.frozen 0
                go_simp
                refine hK.out _ _ trivial (fun hHeld2 => ?_)
                clear hK K hHeld
                have hHeld := hHeld2
                clear hHeld2
                refine gen_world (R := fun W' => RG w W' g (bytes s2) _ _ _ _) (P := fun W' => wpAnyH _ _ _ _ _ _ _ _ W') (HR5.out.s11 _) (fun W6 hR6 => ?_)
                have HR6 := Lib.hid hR6
                clear hR6
                ((try simp only [List.getElem_toArray, List.getElem_cons_succ, List.getElem_cons_zero]); (try simp only [Act.put, List.setIfInBounds_toArray, List.set_cons_zero, List.set_cons_succ]))
                refine wpAnyH_ready (rs := [12]) (by kernel_rfl) (by simp) ?_
                refine AllReadyH.cons rfl (fun K hK => ?_) AllReadyH.nil
                · have q1 := (HR6.out.b9 _ rfl).1.cell 0
                  have q2 := (HR6.out.b9 _ rfl).1.frozen 0
                  go_simp
                  refine hK.out _ _ trivial (fun hHeld2 => ?_)
                  clear hK K hHeld
                  have hHeld := hHeld2
                  clear hHeld2
                  refine gen_world (R := fun W' => RG w W' g (bytes s2) _ _ _ _) (P := fun W' => wpAnyH _ _ _ _ _ _ _ _ W') (HR6.out.s12) (fun W7 hR7 => ?_)
                  have HR7 := Lib.hid hR7
                  clear hR7
                  ((try simp only [List.getElem_toArray, List.getElem_cons_succ, List.getElem_cons_zero]); (try simp only [Act.put, List.setIfInBounds_toArray, List.set_cons_zero, List.set_cons_succ]))
                  refine wpAnyH_done (by kernel_rfl) ?_ _
                  go_wp2_with fail
                  go_meet
                  case rel => exact ⟨_, _, _, _, _, rfl, rfl, rfl, HR7.out⟩
        · go_simp
          refine hK.out _ _ trivial (fun hHeld2 => ?_)
          clear hK K hHeld
          have hHeld := hHeld2
          clear hHeld2
          refine gen_world (R := fun W' => RG w W' g (bytes s2) _ _ _ _) (P := fun W' => wpAnyH _ _ _ _ _ _ _ _ W') (HR2.out.a9) (fun W3 hR3 => ?_)
          have HR3 := Lib.hid hR3
          clear hR3
          ((try simp only [List.getElem_toArray, List.getElem_cons_succ, List.getElem_cons_zero]); (try simp only [Act.put, List.setIfInBounds_toArray, List.set_cons_zero, List.set_cons_succ]))
          refine wpAnyH_ready (rs := [8]) (by kernel_rfl) (by simp) ?_
          refine AllReadyH.cons rfl (fun K hK => ?_) AllReadyH.nil
          · go_simp
            refine hK.out _ _ trivial (fun hHeld2 => ?_)
            clear hK K hHeld
            have hHeld := hHeld2
            clear hHeld2
            refine gen_world (R := fun W' => RG w W' g (bytes s2) _ _ _ _) (P := fun W' => wpAnyH _ _ _ _ _ _ _ _ W') (HR3.out.a8 (.slice none 0 0)) (fun W4 hR4 => ?_)
            have HR4 := Lib.hid hR4
            clear hR4
            ((try simp only [List.getElem_toArray, List.getElem_cons_succ, List.getElem_cons_zero]); (try simp only [Act.put, List.setIfInBounds_toArray, List.set_cons_zero, List.set_cons_succ]))
            refine wpAnyH_ready (rs := [10]) (by kernel_rfl) (by simp) ?_
            refine AllReadyH.cons rfl (fun K hK => ?_) AllReadyH.nil
            · refine step_store_row rfl 48 _ _ rfl _ (recC (rcK z) ra0) rfl rfl 48 (recC rc0 ra0) (HR4.out.b7 _ _ rfl).1 info_Rec rfl (recC_one _ _) ?_
              refine hK.out _ _ trivial (fun hHeld2 => ?_)
              clear hK K hHeld
              have hHeld := hHeld2
              clear hHeld2
              refine gen_world (R := fun W' => RG w W' g (bytes s2) _ _ _ _) (P := fun W' => wpAnyH _ _ _ _ _ _ _ _ W') (HR4.out.s10 (recC (rcK z) ra0)) (fun W5 hR5 => ?_)
              have HR5 := Lib.hid hR5
              clear hR5
              ((try simp only [List.getElem_toArray, List.getElem_cons_succ, List.getElem_cons_zero]); (try simp only [Act.put, List.setIfInBounds_toArray, List.set_cons_zero, List.set_cons_succ]))
              refine wpAnyH_ready (rs := [11]) (by kernel_rfl) (by simp) ?_
              refine AllReadyH.cons rfl (fun K hK => ?_) AllReadyH.nil
              · have q1 := (HR5.out.b8 _ _ rfl).1.cell 0
                have q2 := (HR5.out.b8 _ _ rfl).1.frozen 0
                go_simp
                refine hK.out _ _ trivial (fun hHeld2 => ?_)
                clear hK K hHeld
                have hHeld := hHeld2
                clear hHeld2
                refine gen_world (R := fun W' => RG w W' g (bytes s2) _ _ _ _) (P := fun W' => wpAnyH _ _ _ _ _ _ _ _ W') (HR5.out.s11 _) (fun W6 hR6 => ?_)
                have HR6 := Lib.hid hR6
                clear hR6
                ((try simp only [List.getElem_toArray, List.getElem_cons_succ, List.getElem_cons_zero]); (try simp only [Act.put, List.setIfInBounds_toArray, List.set_cons_zero, List.set_cons_succ]))
                refine wpAnyH_ready (rs := [12]) (by kernel_rfl) (by simp) ?_
                refine AllReadyH.cons rfl (fun K hK => ?_) AllReadyH.nil
                · have q1 := (HR6.out.b9 _ rfl).1.cell 0
                  have q2 := (HR6.out.b9 _ rfl).1.frozen 0
                  go_simp
                  refine hK.out _ _ trivial (fun hHeld2 => ?_)
                  clear hK K hHeld
                  have hHeld := hHeld2
                  clear hHeld2
                  refine gen_world (R := fun W' => RG w W' g (bytes s2) _ _ _ _) (P := fun W' => wpAnyH _ _ _ _ _ _ _ _ W') (HR6.out.s12) (fun W7 hR7 => ?_)
                  have HR7 := Lib.hid hR7
                  clear hR7
                  ((try simp only [List.getElem_toArray, List.getElem_cons_succ, List.getElem_cons_zero]); (try simp only [Act.put, List.setIfInBounds_toArray, List.set_cons_zero, List.set_cons_succ]))
                  refine wpAnyH_done (by kernel_rfl) ?_ _
                  go_wp2_with fail
                  go_meet
                  case rel => exact ⟨_, _, _, _, _, rfl, rfl, rfl, HR7.out⟩
      · go_simp
        refine hK.out _ _ trivial (fun hHeld2 => ?_)
        clear hK K hHeld
        have hHeld := hHeld2
        clear hHeld2
        refine gen_world (R := fun W' => RG w W' g (bytes s2) _ _ _ _) (P := fun W' => wpAnyH _ _ _ _ _ _ _ _ W') (HR1.out.a8 (.slice none 0 0)) (fun W2 hR2 => ?_)
        have HR2 := Lib.hid hR2
        clear hR2
        ((try simp only [List.getElem_toArray, List.getElem_cons_succ, List.getElem_cons_zero]); (try simp only [Act.put, List.setIfInBounds_toArray, List.set_cons_zero, List.set_cons_succ]))
        refine wpAnyH_ready (rs := [7, 9]) (by kernel_rfl) (by simp) ?_
        refine AllReadyH.cons rfl (fun K hK => ?_) (AllReadyH.cons rfl (fun K hK => ?_) AllReadyH.nil)
        · go_simp
          refine hK.out _ _ trivial (fun hHeld2 => ?_)
          clear hK K hHeld
          have hHeld := hHeld2
          clear hHeld2
          refine gen_world (R := fun W' => RG w W' g (bytes s2) _ _ _ _) (P := fun W' => wpAnyH _ _ _ _ _ _ _ _ W') (HR2.out.a7 (recC rc0 ra0)) (fun W3 hR3 => ?_)
          have HR3 := Lib.hid hR3
          clear hR3
          ((try simp only [List.getElem_toArray, List.getElem_cons_succ, List.getElem_cons_zero]); (try simp only [Act.put, List.setIfInBounds_toArray, List.set_cons_zero, List.set_cons_succ]))
          refine wpAnyH_ready (rs := [9]) (by kernel_rfl) (by simp) ?_
          refine AllReadyH.cons rfl (fun K hK => ?_) AllReadyH.nil
          · go_simp
            refine hK.out _ _ trivial (fun hHeld2 => ?_)
            clear hK K hHeld
            have hHeld := hHeld2
            clear hHeld2
            refine gen_world (R := fun W' => RG w W' g (bytes s2) _ _ _ _) (P := fun W' => wpAnyH _ _ _ _ _ _ _ _ W') (HR3.out.a9) (fun W4 hR4 => ?_)
            have HR4 := Lib.hid hR4
            clear hR4
            ((try simp only [List.getElem_toArray, List.getElem_cons_succ, List.getElem_cons_zero]); (try simp only [Act.put, List.setIfInBounds_toArray, List.set_cons_zero, List.set_cons_succ]))
            refine wpAnyH_ready (rs := [10]) (by kernel_rfl) (by simp) ?_
            refine AllReadyH.cons rfl (fun K hK => ?_) AllReadyH.nil
            · refine step_store_row rfl 48 _ _ rfl _ (recC (rcK z) ra0) rfl rfl 48 (recC rc0 ra0) (HR4.out.b7 _ _ rfl).1 info_Rec rfl (recC_one _ _) ?_
              refine hK.out _ _ trivial (fun hHeld2 => ?_)
              clear hK K hHeld
              have hHeld := hHeld2
              clear hHeld2
              refine gen_world (R := fun W' => RG w W' g (bytes s2) _ _ _ _) (P := fun W' => wpAnyH _ _ _ _ _ _ _ _ W') (HR4.out.s10 (recC (rcK z) ra0)) (fun W5 hR5 => ?_)
              have HR5 := Lib.hid hR5
              clear hR5
              ((try simp only [List.getElem_toArray, List.getElem_cons_succ, List.getElem_cons_zero]); (try simp only [Act.put, List.setIfInBounds_toArray, List.set_cons_zero, List.set_cons_succ]))
              refine wpAnyH_ready (rs := [11]) (by kernel_rfl) (by simp) ?_
              refine AllReadyH.cons rfl (fun K hK => ?_) AllReadyH.nil
              · have q1 := (HR5.out.b8 _ _ rfl).1.cell 0
                have q2 := (HR5.out.b8 _ _ rfl).1.frozen 0
                go_simp
                refine hK.out _ _ trivial (fun hHeld2 => ?_)
                clear hK K hHeld
                have hHeld := hHeld2
                clear hHeld2
                refine gen_world (R := fun W' => RG w W' g (bytes s2) _ _ _ _) (P := fun W' => wpAnyH _ _ _ _ _ _ _ _ W') (HR5.out.s11 _) (fun W6 hR6 => ?_)
                have HR6 := Lib.hid hR6
                clear hR6
                ((try simp only [List.getElem_toArray, List.getElem_cons_succ, List.getElem_cons_zero]); (try simp only [Act.put, List.setIfInBounds_toArray, List.set_cons_zero, List.set_cons_succ]))
                refine wpAnyH_ready (rs := [12]) (by kernel_rfl) (by simp) ?_
                refine AllReadyH.cons rfl (fun K hK => ?_) AllReadyH.nil
                · have q1 := (HR6.out.b9 _ rfl).1.cell 0
                  have q2 := (HR6.out.b9 _ rfl).1.frozen 0
                  go_simp
                  refine hK.out _ _ trivial (fun hHeld2 => ?_)
                  clear hK K hHeld
                  have hHeld := hHeld2
                  clear hHeld2
                  refine gen_world (R := fun W' => RG w W' g (bytes s2) _ _ _ _) (P := fun W' => wpAnyH _ _ _ _ _ _ _ _ W') (HR6.out.s12) (fun W7 hR7 => ?_)
                  have HR7 := Lib.hid hR7
                  clear hR7
                  ((try simp only [List.getElem_toArray, List.getElem_cons_succ, List.getElem_cons_zero]); (try simp only [Act.put, List.setIfInBounds_toArray, List.set_cons_zero, List.set_cons_succ]))
                  refine wpAnyH_done (by kernel_rfl) ?_ _
                  go_wp2_with fail
                  go_meet
                  case rel => exact ⟨_, _, _, _, _, rfl, rfl, rfl, HR7.out⟩
        · go_simp
          refine hK.out _ _ trivial (fun hHeld2 => ?_)
          clear hK K hHeld
          have hHeld := hHeld2
          clear hHeld2
          refine gen_world (R := fun W' => RG w W' g (bytes s2) _ _ _ _) (P := fun W' => wpAnyH _ _ _ _ _ _ _ _ W') (HR2.out.a9) (fun W3 hR3 => ?_)
          have HR3 := Lib.hid hR3
          clear hR3
          ((try simp only [List.getElem_toArray, List.getElem_cons_succ, List.getElem_cons_zero]); (try simp only [Act.put, List.setIfInBounds_toArray, List.set_cons_zero, List.set_cons_succ]))
          refine wpAnyH_ready (rs := [7]) (by kernel_rfl) (by simp) ?_
          refine AllReadyH.cons rfl (fun K hK => ?_) AllReadyH.nil
          · go_simp
            refine hK.out _ _ trivial (fun hHeld2 => ?_)
            clear hK K hHeld
            have hHeld := hHeld2
            clear hHeld2
            refine gen_world (R := fun W' => RG w W' g (bytes s2) _ _ _ _) (P := fun W' => wpAnyH _ _ _ _ _ _ _ _ W') (HR3.out.a7 (recC rc0 ra0)) (fun W4 hR4 => ?_)
            have HR4 := Lib.hid hR4
            clear hR4
            ((try simp only [List.getElem_toArray, List.getElem_cons_succ, List.getElem_cons_zero]); (try simp only [Act.put, List.setIfInBounds_toArray, List.set_cons_zero, List.set_cons_succ]))
            refine wpAnyH_ready (rs := [10]) (by kernel_rfl) (by simp) ?_
            refine AllReadyH.cons rfl (fun K hK => ?_) AllReadyH.nil
            · refine step_store_row rfl 48 _ _ rfl _ (recC (rcK z) ra0) rfl rfl 48 (recC rc0 ra0) (HR4.out.b7 _ _ rfl).1 info_Rec rfl (recC_one _ _) ?_
              refine hK.out _ _ trivial (fun hHeld2 => ?_)
              clear hK K hHeld
              have hHeld := hHeld2
              clear hHeld2
              refine gen_world (R := fun W' => RG w W' g (bytes s2) _ _ _ _) (P := fun W' => wpAnyH _ _ _ _ _ _ _ _ W') (HR4.out.s10 (recC (rcK z) ra0)) (fun W5 hR5 => ?_)
              have HR5 := Lib.hid hR5
              clear hR5
              ((try simp only [List.getElem_toArray, List.getElem_cons_succ, List.getElem_cons_zero]); (try simp only [Act.put, List.setIfInBounds_toArray, List.set_cons_zero, List.set_cons_succ]))
              refine wpAnyH_ready (rs := [11]) (by kernel_rfl) (by simp) ?_
              refine AllReadyH.cons rfl (fun K hK => ?_) AllReadyH.nil
              · have q1 := (HR5.out.b8 _ _ rfl).1.cell 0
                have q2 := (HR5.out.b8 _ _ rfl).1.frozen 0
                go_simp
                refine hK.out _ _ trivial (fun hHeld2 => ?_)
                clear hK K hHeld
                have hHeld := hHeld2
                clear hHeld2
                refine gen_world (R := fun W' => RG w W' g (bytes s2) _ _ _ _) (P := fun W' => wpAnyH _ _ _ _ _ _ _ _ W') (HR5.out.s11 _) (fun W6 hR6 => ?_)
                have HR6 := Lib.hid hR6
                clear hR6
                ((try simp only [List.getElem_toArray, List.getElem_cons_succ, List.getElem_cons_zero]); (try simp only [Act.put, List.setIfInBounds_toArray, List.set_cons_zero, List.set_cons_succ]))
                refine wpAnyH_ready (rs := [12]) (by kernel_rfl) (by simp) ?_
                refine AllReadyH.cons rfl (fun K hK => ?_) AllReadyH.nil
                · have q1 := (HR6.out.b9 _ rfl).1.cell 0
                  have q2 := (HR6.out.b9 _ rfl).1.frozen 0
                  go_simp
                  refine hK.out _ _ trivial (fun hHeld2 => ?_)
                  clear hK K hHeld
                  have hHeld := hHeld2
                  clear hHeld2
                  refine gen_world (R := fun W' => RG w W' g (bytes s2) _ _ _ _) (P := fun W' => wpAnyH _ _ _ _ _ _ _ _ W') (HR6.out.s12) (fun W7 hR7 => ?_)
                  have HR7 := Lib.hid hR7
                  clear hR7
                  ((try simp only [List.getElem_toArray, List.getElem_cons_succ, List.getElem_cons_zero]); (try simp only [Act.put, List.setIfInBounds_toArray, List.set_cons_zero, List.set_cons_succ]))
                  refine wpAnyH_done (by kernel_rfl) ?_ _
                  go_wp2_with fail
                  go_meet
                  case rel => exact ⟨_, _, _, _, _, rfl, rfl, rfl, HR7.out⟩
      · go_simp
        refine hK.out _ _ trivial (fun hHeld2 => ?_)
        clear hK K hHeld
        have hHeld := hHeld2
        clear hHeld2
        refine gen_world (R := fun W' => RG w W' g (bytes s2) _ _ _ _) (P := fun W' => wpAnyH _ _ _ _ _ _ _ _ W') (HR1.out.a9) (fun W2 hR2 => ?_)
        have HR2 := Lib.hid hR2
        clear hR2
        ((try simp only [List.getElem_toArray, List.getElem_cons_succ, List.getElem_cons_zero]); (try simp only [Act.put, List.setIfInBounds_toArray, List.set_cons_zero, List.set_cons_succ]))
        refine wpAnyH_ready (rs := [7, 8]) (by kernel_rfl) (by simp) ?_
        refine AllReadyH.cons rfl (fun K hK => ?_) (AllReadyH.cons rfl (fun K hK => ?_) AllReadyH.nil)
        · go_simp
          refine hK.out _ _ trivial (fun hHeld2 => ?_)
          clear hK K hHeld
          have hHeld := hHeld2
          clear hHeld2
          refine gen_world (R := fun W' => RG w W' g (bytes s2) _ _ _ _) (P := fun W' => wpAnyH _ _ _ _ _ _ _ _ W') (HR2.out.a7 (recC rc0 ra0)) (fun W3 hR3 => ?_)
          have HR3 := Lib.hid hR3
          clear hR3
          ((try simp only [List.getElem_toArray, List.getElem_cons_succ, List.getElem_cons_zero]); (try simp only [Act.put, List.setIfInBounds_toArray, List.set_cons_zero, List.set_cons_succ]))
          refine wpAnyH_ready (rs := [8]) (by kernel_rfl) (by simp) ?_
          refine AllReadyH.cons rfl (fun K hK => ?_) AllReadyH.nil
          · go_simp
            refine hK.out _ _ trivial (fun hHeld2 => ?_)
            clear hK K hHeld
            have hHeld := hHeld2
            clear hHeld2
            refine gen_world (R := fun W' => RG w W' g (bytes s2) _ _ _ _) (P := fun W' => wpAnyH _ _ _ _ _ _ _ _ W') (HR3.out.a8 (.slice none 0 0)) (fun W4 hR4 => ?_)
            have HR4 := Lib.hid hR4
            clear hR4
            ((try simp only [List.getElem_toArray, List.getElem_cons_succ, List.getElem_cons_zero]); (try simp only [Act.put, List.setIfInBounds_toArray, List.set_cons_zero, List.set_cons_succ]))
            refine wpAnyH_ready (rs := [10]) (by kernel_rfl) (by simp) ?_
            refine AllReadyH.cons rfl (fun K hK => ?_) AllReadyH.nil
            · refine step_store_row rfl 48 _ _ rfl _ (recC (rcK z) ra0) rfl rfl 48 (recC rc0 ra0) (HR4.out.b7 _ _ rfl).1 info_Rec rfl (recC_one _ _) ?_
              refine hK.out _ _ trivial (fun hHeld2 => ?_)
              clear hK K hHeld
              have hHeld := hHeld2
              clear hHeld2
              refine gen_world (R := fun W' => RG w W' g (bytes s2) _ _ _ _) (P := fun W' => wpAnyH _ _ _ _ _ _ _ _ W') (HR4.out.s10 (recC (rcK z) ra0)) (fun W5 hR5 => ?_)
              have HR5 := Lib.hid hR5
              clear hR5
              ((try simp only [List.getElem_toArray, List.getElem_cons_succ, List.getElem_cons_zero]); (try simp only [Act.put, List.setIfInBounds_toArray, List.set_cons_zero, List.set_cons_succ]))
              refine wpAnyH_ready (rs := [11]) (by kernel_rfl) (by simp) ?_
              refine AllReadyH.cons rfl (fun K hK => ?_) AllReadyH.nil
              · have q1 := (HR5.out.b8 _ _ rfl).1.cell 0
                have q2 := (HR5.out.b8 _ _ rfl).1.frozen 0
                go_simp
                refine hK.out _ _ trivial (fun hHeld2 => ?_)
                clear hK K hHeld
                have hHeld := hHeld2
                clear hHeld2
                refine gen_world (R := fun W' => RG w W' g (bytes s2) _ _ _ _) (P := fun W' => wpAnyH _ _ _ _ _ _ _ _ W') (HR5.out.s11 _) (fun W6 hR6 => ?_)
                have HR6 := Lib.hid hR6
                clear hR6
                ((try simp only [List.getElem_toArray, List.getElem_cons_succ, List.getElem_cons_zero]); (try simp only [Act.put, List.setIfInBounds_toArray, List.set_cons_zero, List.set_cons_succ]))
                refine wpAnyH_ready (rs := [12]) (by kernel_rfl) (by simp) ?_
                refine AllReadyH.cons rfl (fun K hK => ?_) AllReadyH.nil
                · have q1 := (HR6.out.b9 _ rfl).1.cell 0
                  have q2 := (HR6.out.b9 _ rfl).1.frozen 0
                  go_simp
                  refine hK.out _ _ trivial (fun hHeld2 => ?_)
                  clear hK K hHeld
                  have hHeld := hHeld2
                  clear hHeld2
                  refine gen_world (R := fun W' => RG w W' g (bytes s2) _ _ _ _) (P := fun W' => wpAnyH _ _ _ _ _ _ _ _ W') (HR6.out.s12) (fun W7 hR7 => ?_)
                  have HR7 := Lib.hid hR7
                  clear hR7
                  ((try simp only [List.getElem_toArray, List.getElem_cons_succ, List.getElem_cons_zero]); (try simp only [Act.put, List.setIfInBounds_toArray, List.set_cons_zero, List.set_cons_succ]))
                  refine wpAnyH_done (by kernel_rfl) ?_ _
                  go_wp2_with fail
                  go_meet
                  case rel => exact ⟨_, _, _, _, _, rfl, rfl, rfl, HR7.out⟩
        · go_simp
          refine hK.out _ _ trivial (fun hHeld2 => ?_)
          clear hK K hHeld
          have hHeld := hHeld2
          clear hHeld2
          refine gen_world (R := fun W' => RG w W' g (bytes s2) _ _ _ _) (P := fun W' => wpAnyH _ _ _ _ _ _ _ _ W') (HR2.out.a8 (.slice none 0 0)) (fun W3 hR3 => ?_)
          have HR3 := Lib.hid hR3
          clear hR3
          ((try simp only [List.getElem_toArray, List.getElem_cons_succ, List.getElem_cons_zero]); (try simp only [Act.put, List.setIfInBounds_toArray, List.set_cons_zero, List.set_cons_succ]))
          refine wpAnyH_ready (rs := [7]) (by kernel_rfl) (by simp) ?_
          refine AllReadyH.cons rfl (fun K hK => ?_) AllReadyH.nil
          · go_simp
            refine hK.out _ _ trivial (fun hHeld2 => ?_)
            clear hK K hHeld
            have hHeld := hHeld2
            clear hHeld2
            refine gen_world (R := fun W' => RG w W' g (bytes s2) _ _ _ _) (P := fun W' => wpAnyH _ _ _ _ _ _ _ _ W') (HR3.out.a7 (recC rc0 ra0)) (fun W4 hR4 => ?_)
            have HR4 := Lib.hid hR4
            clear hR4
            ((try simp only [List.getElem_toArray, List.getElem_cons_succ, List.getElem_cons_zero]); (try simp only [Act.put, List.setIfInBounds_toArray, List.set_cons_zero, List.set_cons_succ]))
            refine wpAnyH_ready (rs := [10]) (by kernel_rfl) (by simp) ?_
            refine AllReadyH.cons rfl (fun K hK => ?_) AllReadyH.nil
            · refine step_store_row rfl 48 _ _ rfl _ (recC (rcK z) ra0) rfl rfl 48 (recC rc0 ra0) (HR4.out.b7 _ _ rfl).1 info_Rec rfl (recC_one _ _) ?_
              refine hK.out _ _ trivial (fun hHeld2 => ?_)
              clear hK K hHeld
              have hHeld := hHeld2
              clear hHeld2
              refine gen_world (R := fun W' => RG w W' g (bytes s2) _ _ _ _) (P := fun W' => wpAnyH _ _ _ _ _ _ _ _ W') (HR4.out.s10 (recC (rcK z) ra0)) (fun W5 hR5 => ?_)
              have HR5 := Lib.hid hR5
              clear hR5
              ((try simp only [List.getElem_toArray, List.getElem_cons_succ, List.getElem_cons_zero]); (try simp only [Act.put, List.setIfInBounds_toArray, List.set_cons_zero, List.set_cons_succ]))
              refine wpAnyH_ready (rs := [11]) (by kernel_rfl) (by simp) ?_
              refine AllReadyH.cons rfl (fun K hK => ?_) AllReadyH.nil
              · have q1 := (HR5.out.b8 _ _ rfl).1.cell 0
                have q2 := (HR5.out.b8 _ _ rfl).1.frozen 0
                go_simp
                refine hK.out _ _ trivial (fun hHeld2 => ?_)
                clear hK K hHeld
                have hHeld := hHeld2
                clear hHeld2
                refine gen_world (R := fun W' => RG w W' g (bytes s2) _ _ _ _) (P := fun W' => wpAnyH _ _ _ _ _ _ _ _ W') (HR5.out.s11 _) (fun W6 hR6 => ?_)
                have HR6 := Lib.hid hR6
                clear hR6
                ((try simp only [List.getElem_toArray, List.getElem_cons_succ, List.getElem_cons_zero]); (try simp only [Act.put, List.setIfInBounds_toArray, List.set_cons_zero, List.set_cons_succ]))
                refine wpAnyH_ready (rs := [12]) (by kernel_rfl) (by simp) ?_
                refine AllReadyH.cons rfl (fun K hK => ?_) AllReadyH.nil
                · have q1 := (HR6.out.b9 _ rfl).1.cell 0
                  have q2 := (HR6.out.b9 _ rfl).1.frozen 0
                  go_simp
                  refine hK.out _ _ trivial (fun hHeld2 => ?_)
                  clear hK K hHeld
                  have hHeld := hHeld2
                  clear hHeld2
                  refine gen_world (R := fun W' => RG w W' g (bytes s2) _ _ _ _) (P := fun W' => wpAnyH _ _ _ _ _ _ _ _ W') (HR6.out.s12) (fun W7 hR7 => ?_)
                  have HR7 := Lib.hid hR7
                  clear hR7
                  ((try simp only [List.getElem_toArray, List.getElem_cons_succ, List.getElem_cons_zero]); (try simp only [Act.put, List.setIfInBounds_toArray, List.set_cons_zero, List.set_cons_succ]))
                  refine wpAnyH_done (by kernel_rfl) ?_ _
                  go_wp2_with fail
                  go_meet
                  case rel => exact ⟨_, _, _, _, _, rfl, rfl, rfl, HR7.out⟩
    · go_simp
      refine hK.out _ _ trivial (fun hHeld2 => ?_)
      clear hK K hHeld
      have hHeld := hHeld2
      clear hHeld2
      refine gen_world (R := fun W' => RG w W' g (bytes s2) _ _ _ _) (P := fun W' => wpAnyH _ _ _ _ _ _ _ _ W') (HR0.out.a7 (recC rc0 ra0)) (fun W1 hR1 => ?_)
      have HR1 := Lib.hid hR1
      clear hR1
      ((try simp only [List.getElem_toArray, List.getElem_cons_succ, List.getElem_cons_zero]); (try simp only [Act.put, List.setIfInBounds_toArray, List.set_cons_zero, List.set_cons_succ]))
      refine wpAnyH_ready (rs := [6, 8, 9]) (by kernel_rfl) (by simp) ?_
      refine AllReadyH.cons rfl (fun K hK => ?_) (AllReadyH.cons rfl (fun K hK => ?_) (AllReadyH.cons rfl (fun K hK => ?_) AllReadyH.nil))
      · go_simp
        refine hK.out _ _ trivial (fun hHeld2 => ?_)
        clear hK K hHeld
        have hHeld := hHeld2
        clear hHeld2
        refine gen_world (R := fun W' => RG w W' g (bytes s2) _ _ _ _) (P := fun W' => wpAnyH _ _ _ _ _ _ _ _ W') (HR1.out.c6g) (fun W2 hR2 => ?_)
        have HR2 := Lib.hid hR2
        clear hR2
        ((try simp only [List.getElem_toArray, List.getElem_cons_succ, List.getElem_cons_zero]); (try simp only [Act.put, List.setIfInBounds_toArray, List.set_cons_zero, List.set_cons_succ]))
        refine wpAnyH_ready (rs := [8, 9]) (by kernel_rfl) (by simp) ?_
        refine AllReadyH.cons rfl (fun K hK => ?_) (AllReadyH.cons rfl (fun K hK => ?_) AllReadyH.nil)
        · go_simp
          refine hK.out _ _ trivial (fun hHeld2 => ?_)
          clear hK K hHeld
          have hHeld := hHeld2
          clear hHeld2
          refine gen_world (R := fun W' => RG w W' g (bytes s2) _ _ _ _) (P := fun W' => wpAnyH _ _ _ _ _ _ _ _ W') (HR2.out.a8 (.slice none 0 0)) (fun W3 hR3 => ?_)
          have HR3 := Lib.hid hR3
          clear hR3
          ((try simp only [List.getElem_toArray, List.getElem_cons_succ, List.getElem_cons_zero]); (try simp only [Act.put, List.setIfInBounds_toArray, List.set_cons_zero, List.set_cons_succ]))
          refine wpAnyH_ready (rs := [9]) (by kernel_rfl) (by simp) ?_
          refine AllReadyH.cons rfl (fun K hK => ?_) AllReadyH.nil
          · go_simp
            refine hK.out _ _ trivial (fun hHeld2 => ?_)
            clear hK K hHeld
            have hHeld := hHeld2
            clear hHeld2
            refine gen_world (R := fun W' => RG w W' g (bytes s2) _ _ _ _) (P := fun W' => wpAnyH _ _ _ _ _ _ _ _ W') (HR3.out.a9) (fun W4 hR4 => ?_)
            have HR4 := Lib.hid hR4
            clear hR4
            ((try simp only [List.getElem_toArray, List.getElem_cons_succ, List.getElem_cons_zero]); (try simp only [Act.put, List.setIfInBounds_toArray, List.set_cons_zero, List.set_cons_succ]))
            refine wpAnyH_ready (rs := [10]) (by kernel_rfl) (by simp) ?_
            refine AllReadyH.cons rfl (fun K hK => ?_) AllReadyH.nil
            · refine step_store_row rfl 48 _ _ rfl _ (recC (rcK z) ra0) rfl rfl 48 (recC rc0 ra0) (HR4.out.b7 _ _ rfl).1 info_Rec rfl (recC_one _ _) ?_
              refine hK.out _ _ trivial (fun hHeld2 => ?_)
              clear hK K hHeld
              have hHeld := hHeld2
              clear hHeld2
              refine gen_world (R := fun W' => RG w W' g (bytes s2) _ _ _ _) (P := fun W' => wpAnyH _ _ _ _ _ _ _ _ W') (HR4.out.s10 (recC (rcK z) ra0)) (fun W5 hR5 => ?_)
              have HR5 := Lib.hid hR5
              clear hR5
              ((try simp only [List.getElem_toArray, List.getElem_cons_succ, List.getElem_cons_zero]); (try simp only [Act.put, List.setIfInBounds_toArray, List.set_cons_zero, List.set_cons_succ]))
              refine wpAnyH_ready (rs := [11]) (by kernel_rfl) (by simp) ?_
              refine AllReadyH.cons rfl (fun K hK => ?_) AllReadyH.nil
              · have q1 := (HR5.out.b8 _ _ rfl).1.cell 0
                have q2 := (HR5.out.b8 _ _ rfl).1.frozen 0
                go_simp
                refine hK.out _ _ trivial (fun hHeld2 => ?_)
                clear hK K hHeld
                have hHeld := hHeld2
                clear hHeld2
                refine gen_world (R := fun W' => RG w W' g (bytes s2) _ _ _ _) (P := fun W' => wpAnyH _ _ _ _ _ _ _ _ W') (HR5.out.s11 _) (fun W6 hR6 => ?_)
                have HR6 := Lib.hid hR6
                clear hR6
                ((try simp only [List.getElem_toArray, List.getElem_cons_succ, List.getElem_cons_zero]); (try simp only [Act.put, List.setIfInBounds_toArray, List.set_cons_zero, List.set_cons_succ]))
                refine wpAnyH_ready (rs := [12]) (by kernel_rfl) (by simp) ?_
                refine AllReadyH.cons rfl (fun K hK => ?_) AllReadyH.nil
                · have q1 := (HR6.out.b9 _ rfl).1.cell 0
                  have q2 := (HR6.out.b9 _ rfl).1.frozen 0
                  go_simp
                  refine hK.out _ _ trivial (fun hHeld2 => ?_)
                  clear hK K hHeld
                  have hHeld := hHeld2
                  clear hHeld2
                  refine gen_world (R := fun W' => RG w W' g (bytes s2) _ _ _ _) (P := fun W' => wpAnyH _ _ _ _ _ _ _ _ W') (HR6.out.s12) (fun W7 hR7 => ?_)
                  have HR7 := Lib.hid hR7
                  clear hR7
                  ((try simp only [List.getElem_toArray, List.getElem_cons_succ, List.getElem_cons_zero]); (try simp only [Act.put, List.setIfInBounds_toArray, List.set_cons_zero, List.set_cons_succ]))
                  refine wpAnyH_done (by kernel_rfl) ?_ _
                  go_wp2_with fail
                  go_meet
                  case rel => exact ⟨_, _, _, _, _, rfl, rfl, rfl, HR7.out⟩
        · go_simp
          refine hK.out _ _ trivial (fun hHeld2 => ?_)
          clear hK K hHeld
          have hHeld := hHeld2
          clear hHeld2
          refine gen_world (R := fun W' => RG w W' g (bytes s2) _ _ _ _) (P := fun W' => wpAnyH _ _ _ _ _ _ _ _ W') (HR2.out.a9) (fun W3 hR3 => ?_)
          have HR3 := Lib.hid hR3
          clear hR3
          ((try simp only [List.getElem_toArray, List.getElem_cons_succ, List.getElem_cons_zero]); (try simp only [Act.put, List.setIfInBounds_toArray, List.set_cons_zero, List.set_cons_succ]))
          refine wpAnyH_ready (rs := [8]) (by kernel_rfl) (by simp) ?_
          refine AllReadyH.cons rfl (fun K hK => ?_) AllReadyH.nil
          · go_simp
            refine hK.out _ _ trivial (fun hHeld2 => ?_)
            clear hK K hHeld
            have hHeld := hHeld2
            clear hHeld2
            refine gen_world (R := fun W' => RG w W' g (bytes s2) _ _ _ _) (P := fun W' => wpAnyH _ _ _ _ _ _ _ _ W') (HR3.out.a8 (.slice none 0 0)) (fun W4 hR4 => ?_)
            have HR4 := Lib.hid hR4
            clear hR4
            ((try simp only [List.getElem_toArray, List.getElem_cons_succ, List.getElem_cons_zero]); (try simp only [Act.put, List.setIfInBounds_toArray, List.set_cons_zero, List.set_cons_succ]))
            refine wpAnyH_ready (rs := [10]) (by kernel_rfl) (by simp) ?_
            refine AllReadyH.cons rfl (fun K hK => ?_) AllReadyH.nil
            · refine step_store_row rfl 48 _ _ rfl _ (recC (rcK z) ra0) rfl rfl 48 (recC rc0 ra0) (HR4.out.b7 _ _ rfl).1 info_Rec rfl (recC_one _ _) ?_
              refine hK.out _ _ trivial (fun hHeld2 => ?_)
              clear hK K hHeld
              have hHeld := hHeld2
              clear hHeld2
              refine gen_world (R := fun W' => RG w W' g (bytes s2) _ _ _ _) (P := fun W' => wpAnyH _ _ _ _ _ _ _ _ W') (HR4.out.s10 (recC (rcK z) ra0)) (fun W5 hR5 => ?_)
              have HR5 := Lib.hid hR5
              clear hR5
              ((try simp only [List.getElem_toArray, List.getElem_cons_succ, List.getElem_cons_zero]); (try simp only [Act.put, List.setIfInBounds_toArray, List.set_cons_zero, List.set_cons_succ]))
              refine wpAnyH_ready (rs := [11]) (by kernel_rfl) (by simp) ?_
              refine AllReadyH.cons rfl (fun K hK => ?_) AllReadyH.nil
              · have q1 := (HR5.out.b8 _ _ rfl).1.cell 0
                have q2 := (HR5.out.b8 _ _ rfl).1.frozen 0
                go_simp
                refine hK.out _ _ trivial (fun hHeld2 => ?_)
                clear hK K hHeld
                have hHeld := hHeld2
                clear hHeld2
                refine gen_world (R := fun W' => RG w W' g (bytes s2) _ _ _ _) (P := fun W' => wpAnyH _ _ _ _ _ _ _ _ W') (HR5.out.s11 _) (fun W6 hR6 => ?_)
                have HR6 := Lib.hid hR6
                clear hR6
                ((try simp only [List.getElem_toArray, List.getElem_cons_succ, List.getElem_cons_zero]); (try simp only [Act.put, List.setIfInBounds_toArray, List.set_cons_zero, List.set_cons_succ]))
                refine wpAnyH_ready (rs := [12]) (by kernel_rfl) (by simp) ?_
                refine AllReadyH.cons rfl (fun K hK => ?_) AllReadyH.nil
                · have q1 := (HR6.out.b9 _ rfl).1.cell 0
                  have q2 := (HR6.out.b9 _ rfl).1.frozen 0
                  go_simp
                  refine hK.out _ _ trivial (fun hHeld2 => ?_)
                  clear hK K hHeld
                  have hHeld := hHeld2
                  clear hHeld2
                  refine gen_world (R := fun W' => RG w W' g (bytes s2) _ _ _ _) (P := fun W' => wpAnyH _ _ _ _ _ _ _ _ W') (HR6.out.s12) (fun W7 hR7 => ?_)
                  have HR7 := Lib.hid hR7
                  clear hR7
                  ((try simp only [List.getElem_toArray, List.getElem_cons_succ, List.getElem_cons_zero]); (try simp only [Act.put, List.setIfInBounds_toArray, List.set_cons_zero, List.set_cons_succ]))
                  refine wpAnyH_done (by kernel_rfl) ?_ _
                  go_wp2_with fail
                  go_meet
                  case rel => exact ⟨_, _, _, _, _, rfl, rfl, rfl, HR7.out⟩
      · go_simp
        refine hK.out _ _ trivial (fun hHeld2 => ?_)
        clear hK K hHeld
        have hHeld := hHeld2
        clear hHeld2
        refine gen_world (R := fun W' => RG w W' g (bytes s2) _ _ _ _) (P := fun W' => wpAnyH _ _ _ _ _ _ _ _ W') (HR1.out.a8 (.slice none 0 0)) (fun W2 hR2 => ?_)
        have HR2 := Lib.hid hR2
        clear hR2
        ((try simp only [List.getElem_toArray, List.getElem_cons_succ, List.getElem_cons_zero]); (try simp only [Act.put, List.setIfInBounds_toArray, List.set_cons_zero, List.set_cons_succ]))
        refine wpAnyH_ready (rs := [6, 9]) (by kernel_rfl) (by simp) ?_
        refine AllReadyH.cons rfl (fun K hK => ?_) (AllReadyH.cons rfl (fun K hK => ?_) AllReadyH.nil)
        · go_simp
          refine hK.out _ _ trivial (fun hHeld2 => ?_)
          clear hK K hHeld
          have hHeld := hHeld2
          clear hHeld2
          refine gen_world (R := fun W' => RG w W' g (bytes s2) _ _ _ _) (P := fun W' => wpAnyH _ _ _ _ _ _ _ _ W') (HR2.out.c6g) (fun W3 hR3 => ?_)
          have HR3 := Lib.hid hR3
          clear hR3
          ((try simp only [List.getElem_toArray, List.getElem_cons_succ, List.getElem_cons_zero]); (try simp only [Act.put, List.setIfInBounds_toArray, List.set_cons_zero, List.set_cons_succ]))
          refine wpAnyH_ready (rs := [9]) (by kernel_rfl) (by simp) ?_
          refine AllReadyH.cons rfl (fun K hK => ?_) AllReadyH.nil
          · go_simp
            refine hK.out _ _ trivial (fun hHeld2 => ?_)
            clear hK K hHeld
            have hHeld := hHeld2
            clear hHeld2
            refine gen_world (R := fun W' => RG w W' g (bytes s2) _ _ _ _) (P := fun W' => wpAnyH _ _ _ _ _ _ _ _ W') (HR3.out.a9) (fun W4 hR4 => ?_)
            have HR4 := Lib.hid hR4
            clear hR4
            ((try simp only [List.getElem_toArray, List.getElem_cons_succ, List.getElem_cons_zero]); (try simp only [Act.put, List.setIfInBounds_toArray, List.set_cons_zero, List.set_cons_succ]))
            refine wpAnyH_ready (rs := [10]) (by kernel_rfl) (by simp) ?_
            refine AllReadyH.cons rfl (fun K hK => ?_) AllReadyH.nil
            · refine step_store_row rfl 48 _ _ rfl _ (recC (rcK z) ra0) rfl rfl 48 (recC rc0 ra0) (HR4.out.b7 _ _ rfl).1 info_Rec rfl (recC_one _ _) ?_
              refine hK.out _ _ trivial (fun hHeld2 => ?_)
              clear hK K hHeld
              have hHeld := hHeld2
              clear hHeld2
              refine gen_world (R := fun W' => RG w W' g (bytes s2) _ _ _ _) (P := fun W' => wpAnyH _ _ _ _ _ _ _ _ W') (HR4.out.s10 (recC (rcK z) ra0)) (fun W5 hR5 => ?_)
              have HR5 := Lib.hid hR5
              clear hR5
              ((try simp only [List.getElem_toArray, List.getElem_cons_succ, List.getElem_cons_zero]); (try simp only [Act.put, List.setIfInBounds_toArray, List.set_cons_zero, List.set_cons_succ]))
              refine wpAnyH_ready (rs := [11]) (by kernel_rfl) (by simp) ?_
              refine AllReadyH.cons rfl (fun K hK => ?_) AllReadyH.nil
              · have q1 := (HR5.out.b8 _ _ rfl).1.cell 0
                have q2 := (HR5.out.b8 _ _ rfl).1.frozen 0
                go_simp
                refine hK.out _ _ trivial (fun hHeld2 => ?_)
                clear hK K hHeld
                have hHeld := hHeld2
                clear hHeld2
                refine gen_world (R := fun W' => RG w W' g (bytes s2) _ _ _ _) (P := fun W' => wpAnyH _ _ _ _ _ _ _ _ W') (HR5.out.s11 _) (fun W6 hR6 => ?_)
                have HR6 := Lib.hid hR6
                clear hR6
                ((try simp only [List.getElem_toArray, List.getElem_cons_succ, List.getElem_cons_zero]); (try simp only [Act.put, List.setIfInBounds_toArray, List.set_cons_zero, List.set_cons_succ]))
                refine wpAnyH_ready (rs := [12]) (by kernel_rfl) (by simp) ?_
                refine AllReadyH.cons rfl (fun K hK => ?_) AllReadyH.nil
                · have q1 := (HR6.out.b9 _ rfl).1.cell 0
                  have q2 := (HR6.out.b9 _ rfl).1.frozen 0
                  go_simp
                  refine hK.out _ _ trivial (fun hHeld2 => ?_)
                  clear hK K hHeld
                  have hHeld := hHeld2
                  clear hHeld2
                  refine gen_world (R := fun W' => RG w W' g (bytes s2) _ _ _ _) (P := fun W' => wpAnyH _ _ _ _ _ _ _ _ W') (HR6.out.s12) (fun W7 hR7 => ?_)
                  have HR7 := Lib.hid hR7
                  clear hR7
                  ((try simp only [List.getElem_toArray, List.getElem_cons_succ, List.getElem_cons_zero]); (try simp only [Act.put, List.setIfInBounds_toArray, List.set_cons_zero, List.set_cons_succ]))
                  refine wpAnyH_done (by kernel_rfl) ?_ _
                  go_wp2_with fail
                  go_meet
                  case rel => exact ⟨_, _, _, _, _, rfl, rfl, rfl, HR7.out⟩
        · go_simp
          refine hK.out _ _ trivial (fun hHeld2 => ?_)
          clear hK K hHeld
          have hHeld := hHeld2
          clear hHeld2
          refine gen_world (R := fun W' => RG w W' g (bytes s2) _ _ _ _) (P := fun W' => wpAnyH _ _ _ _ _ _ _ _ W') (HR2.out.a9) (fun W3 hR3 => ?_)
          have HR3 := Lib.hid hR3
          clear hR3
          ((try simp only [List.getElem_toArray, List.getElem_cons_succ, List.getElem_cons_zero]); (try simp only [Act.put, List.setIfInBounds_toArray, List.set_cons_zero, List.set_cons_succ]))
          refine wpAnyH_ready (rs := [6, 10]) (by kernel_rfl) (by simp) ?_
          refine AllReadyH.cons rfl (fun K hK => ?_) (AllReadyH.cons rfl (fun K hK => ?_) AllReadyH.nil)
          · go_simp
            refine hK.out _ _ trivial (fun hHeld2 => ?_)
            clear hK K hHeld
            have hHeld := hHeld2
            clear hHeld2
            refine gen_world (R := fun W' => RG w W' g (bytes s2) _ _ _ _) (P := fun W' => wpAnyH _ _ _ _ _ _ _ _ W') (HR3.out.c6g) (fun W4 hR4 => ?_)
            have HR4 := Lib.hid hR4
            clear hR4
            ((try simp only [List.getElem_toArray, List.getElem_cons_succ, List.getElem_cons_zero]); (try simp only [Act.put, List.setIfInBounds_toArray, List.set_cons_zero, List.set_cons_succ]))
            refine wpAnyH_ready (rs := [10]) (by kernel_rfl) (by simp) ?_
            refine AllReadyH.cons rfl (fun K hK => ?_) AllReadyH.nil
            · refine step_store_row rfl 48 _ _ rfl _ (recC (rcK z) ra0) rfl rfl 48 (recC rc0 ra0) (HR4.out.b7 _ _ rfl).1 info_Rec rfl (recC_one _ _) ?_
              refine hK.out _ _ trivial (fun hHeld2 => ?_)
              clear hK K hHeld
              have hHeld := hHeld2
              clear hHeld2
              refine gen_world (R := fun W' => RG w W' g (bytes s2) _ _ _ _) (P := fun W' => wpAnyH _ _ _ _ _ _ _ _ W') (HR4.out.s10 (recC (rcK z) ra0)) (fun W5 hR5 => ?_)
              have HR5 := Lib.hid hR5
              clear hR5
              ((try simp only [List.getElem_toArray, List.getElem_cons_succ, List.getElem_cons_zero]); (try simp only [Act.put, List.setIfInBounds_toArray, List.set_cons_zero, List.set_cons_succ]))
              refine wpAnyH_ready (rs := [11]) (by kernel_rfl) (by simp) ?_
              refine AllReadyH.cons rfl (fun K hK => ?_) AllReadyH.nil
              · have q1 := (HR5.out.b8 _ _ rfl).1.cell 0
                have q2 := (HR5.out.b8 _ _ rfl).1.frozen 0
                go_simp
                refine hK.out _ _ trivial (fun hHeld2 => ?_)
                clear hK K hHeld
                have hHeld := hHeld2
                clear hHeld2
                refine gen_world (R := fun W' => RG w W' g (bytes s2) _ _ _ _) (P := fun W' => wpAnyH _ _ _ _ _ _ _ _ W') (HR5.out.s11 _) (fun W6 hR6 => ?_)
                have HR6 := Lib.hid hR6
                clear hR6
                ((try simp only [List.getElem_toArray, List.getElem_cons_succ, List.getElem_cons_zero]); (try simp only [Act.put, List.setIfInBounds_toArray, List.set_cons_zero, List.set_cons_succ]))
                refine wpAnyH_ready (rs := [12]) (by kernel_rfl) (by simp) ?_
                refine AllReadyH.cons rfl (fun K hK => ?_) AllReadyH.nil
                · have q1 := (HR6.out.b9 _ rfl).1.cell 0
                  have q2 := (HR6.out.b9 _ rfl).1.frozen 0
                  go_simp
                  refine hK.out _ _ trivial (fun hHeld2 => ?_)
                  clear hK K hHeld
                  have hHeld := hHeld2
                  clear hHeld2
                  refine gen_world (R := fun W' => RG w W' g (bytes s2) _ _ _ _) (P := fun W' => wpAnyH _ _ _ _ _ _ _ _ W') (HR6.out.s12) (fun W7 hR7 => ?_)
                  have HR7 := Lib.hid hR7
                  clear hR7
                  ((try simp only [List.getElem_toArray, List.getElem_cons_succ, List.getElem_cons_zero]); (try simp only [Act.put, List.setIfInBounds_toArray, List.set_cons_zero, List.set_cons_succ]))
                  refine wpAnyH_done (by kernel_rfl) ?_ _
                  go_wp2_with fail
                  go_meet
                  case rel => exact ⟨_, _, _, _, _, rfl, rfl, rfl, HR7.out⟩
          · refine step_store_row rfl 48 _ _ rfl _ (recC (rcK z) ra0) rfl rfl 48 (recC rc0 ra0) (HR3.out.b7 _ _ rfl).1 info_Rec rfl (recC_one _ _) ?_
            refine hK.out _ _ trivial (fun hHeld2 => ?_)
            clear hK K hHeld
            have hHeld := hHeld2
            clear hHeld2
            refine gen_world (R := fun W' => RG w W' g (bytes s2) _ _ _ _) (P := fun W' => wpAnyH _ _ _ _ _ _ _ _ W') (HR3.out.s10 (recC (rcK z) ra0)) (fun W4 hR4 => ?_)
            have HR4 := Lib.hid hR4
            clear hR4
            ((try simp only [List.getElem_toArray, List.getElem_cons_succ, List.getElem_cons_zero]); (try simp only [Act.put, List.setIfInBounds_toArray, List.set_cons_zero, List.set_cons_succ]))
            refine wpAnyH_ready (rs := [6]) (by kernel_rfl) (by simp) ?_
            refine AllReadyH.cons rfl (fun K hK => ?_) AllReadyH.nil
            · go_simp
              refine hK.out _ _ trivial (fun hHeld2 => ?_)
              clear hK K hHeld
              have hHeld := hHeld2
              clear hHeld2
              refine gen_world (R := fun W' => RG w W' g (bytes s2) _ _ _ _) (P := fun W' => wpAnyH _ _ _ _ _ _ _ _ W') (HR4.out.c6g) (fun W5 hR5 => ?_)
              have HR5 := Lib.hid hR5
              clear hR5
              ((try simp only [List.getElem_toArray, List.getElem_cons_succ, List.getElem_cons_zero]); (try simp only [Act.put, List.setIfInBounds_toArray, List.set_cons_zero, List.set_cons_succ]))
              refine wpAnyH_ready (rs := [11]) (by kernel_rfl) (by simp) ?_
              refine AllReadyH.cons rfl (fun K hK => ?_) AllReadyH.nil
              · have q1 := (HR5.out.b8 _ _ rfl).1.cell 0
                have q2 := (HR5.out.b8 _ _ rfl).1.frozen 0
                go_simp
                refine hK.out _ _ trivial (fun hHeld2 => ?_)
                clear hK K hHeld
                have hHeld := hHeld2
                clear hHeld2
                refine gen_world (R := fun W' => RG w W' g (bytes s2) _ _ _ _) (P := fun W' => wpAnyH _ _ _ _ _ _ _ _ W') (HR5.out.s11 _) (fun W6 hR6 => ?_)
                have HR6 := Lib.hid hR6
                clear hR6
                ((try simp only [List.getElem_toArray, List.getElem_cons_succ, List.getElem_cons_zero]); (try simp only [Act.put, List.setIfInBounds_toArray, List.set_cons_zero, List.set_cons_succ]))
                refine wpAnyH_ready (rs := [12]) (by kernel_rfl) (by simp) ?_
                refine AllReadyH.cons rfl (fun K hK => ?_) AllReadyH.nil
                · have q1 := (HR6.out.b9 _ rfl).1.cell 0
                  have q2 := (HR6.out.b9 _ rfl).1.frozen 0
                  go_simp
                  refine hK.out _ _ trivial (fun hHeld2 => ?_)
                  clear hK K hHeld
                  have hHeld := hHeld2
                  clear hHeld2
                  refine gen_world (R := fun W' => RG w W' g (bytes s2) _ _ _ _) (P := fun W' => wpAnyH _ _ _ _ _ _ _ _ W') (HR6.out.s12) (fun W7 hR7 => ?_)
                  have HR7 := Lib.hid hR7
                  clear hR7
                  ((try simp only [List.getElem_toArray, List.getElem_cons_succ, List.getElem_cons_zero]); (try simp only [Act.put, List.setIfInBounds_toArray, List.set_cons_zero, List.set_cons_succ]))
                  refine wpAnyH_done (by kernel_rfl) ?_ _
                  go_wp2_with fail
                  go_meet
                  case rel => exact ⟨_, _, _, _, _, rfl, rfl, rfl, HR7.out⟩
      · go_simp
        refine hK.out _ _ trivial (fun hHeld2 => ?_)
        clear hK K hHeld
        have hHeld := hHeld2
        clear hHeld2
        refine gen_world (R := fun W' => RG w W' g (bytes s2) _ _ _ _) (P := fun W' => wpAnyH _ _ _ _ _ _ _ _ W') (HR1.out.a9) (fun W2 hR2 => ?_)
        have HR2 := Lib.hid hR2
        clear hR2
        ((try simp only [List.getElem_toArray, List.getElem_cons_succ, List.getElem_cons_zero]); (try simp only [Act.put, List.setIfInBounds_toArray, List.set_cons_zero, List.set_cons_succ]))
        refine wpAnyH_ready (rs := [6, 8]) (by kernel_rfl) (by simp) ?_
        refine AllReadyH.cons rfl (fun K hK => ?_) (AllReadyH.cons rfl (fun K hK => ?_) AllReadyH.nil)
        · go_simp
          refine hK.out _ _ trivial (fun hHeld2 => ?_)
          clear hK K hHeld
          have hHeld := hHeld2
          clear hHeld2
          refine gen_world (R := fun W' => RG w W' g (bytes s2) _ _ _ _) (P := fun W' => wpAnyH _ _ _ _ _ _ _ _ W') (HR2.out.c6g) (fun W3 hR3 => ?_)
          have HR3 := Lib.hid hR3
          clear hR3
          ((try simp only [List.getElem_toArray, List.getElem_cons_succ, List.getElem_cons_zero]); (try simp only [Act.put, List.setIfInBounds_toArray, List.set_cons_zero, List.set_cons_succ]))
          refine wpAnyH_ready (rs := [8]) (by kernel_rfl) (by simp) ?_
          refine AllReadyH.cons rfl (fun K hK => ?_) AllReadyH.nil
          · go_simp
            refine hK.out _ _ trivial (fun hHeld2 => ?_)
            clear hK K hHeld
            have hHeld := hHeld2
            clear hHeld2
            refine gen_world (R := fun W' => RG w W' g (bytes s2) _ _ _ _) (P := fun W' => wpAnyH _ _ _ _ _ _ _ _ W') (HR3.out.a8 (.slice none 0 0)) (fun W4 hR4 => ?_)
            have HR4 := Lib.hid hR4
            clear hR4
            ((try simp only [List.getElem_toArray, List.getElem_cons_succ, List.getElem_cons_zero]); (try simp only [Act.put, List.setIfInBounds_toArray, List.set_cons_zero, List.set_cons_succ]))
            refine wpAnyH_ready (rs := [10]) (by kernel_rfl) (by simp) ?_
            refine AllReadyH.cons rfl (fun K hK => ?_) AllReadyH.nil
            · refine step_store_row rfl 48 _ _ rfl _ (recC (rcK z) ra0) rfl rfl 48 (recC rc0 ra0) (HR4.out.b7 _ _ rfl).1 info_Rec rfl (recC_one _ _) ?_
              refine hK.out _ _ trivial (fun hHeld2 => ?_)
              clear hK K hHeld
              have hHeld := hHeld2
              clear hHeld2
              refine gen_world (R := fun W' => RG w W' g (bytes s2) _ _ _ _) (P := fun W' => wpAnyH _ _ _ _ _ _ _ _ W') (HR4.out.s10 (recC (rcK z) ra0)) (fun W5 hR5 => ?_)
              have HR5 := Lib.hid hR5
              clear hR5
              ((try simp only [List.getElem_toArray, List.getElem_cons_succ, List.getElem_cons_zero]); (try simp only [Act.put, List.setIfInBounds_toArray, List.set_cons_zero, List.set_cons_succ]))
              refine wpAnyH_ready (rs := [11]) (by kernel_rfl) (by simp) ?_
              refine AllReadyH.cons rfl (fun K hK => ?_) AllReadyH.nil
              · have q1 := (HR5.out.b8 _ _ rfl).1.cell 0
                have q2 := (HR5.out.b8 _ _ rfl).1.frozen 0
                go_simp
                refine hK.out _ _ trivial (fun hHeld2 => ?_)
                clear hK K hHeld
                have hHeld := hHeld2
                clear hHeld2
                refine gen_world (R := fun W' => RG w W' g (bytes s2) _ _ _ _) (P := fun W' => wpAnyH _ _ _ _ _ _ _ _ W') (HR5.out.s11 _) (fun W6 hR6 => ?_)
                have HR6 := Lib.hid hR6
                clear hR6
                ((try simp only [List.getElem_toArray, List.getElem_cons_succ, List.getElem_cons_zero]); (try simp only [Act.put, List.setIfInBounds_toArray, List.set_cons_zero, List.set_cons_succ]))
                refine wpAnyH_ready (rs := [12]) (by kernel_rfl) (by simp) ?_
                refine AllReadyH.cons rfl (fun K hK => ?_) AllReadyH.nil
                · have q1 := (HR6.out.b9 _ rfl).1.cell 0
                  have q2 := (HR6.out.b9 _ rfl).1.frozen 0
                  go_simp
                  refine hK.out _ _ trivial (fun hHeld2 => ?_)
                  clear hK K hHeld
                  have hHeld := hHeld2
                  clear hHeld2
                  refine gen_world (R := fun W' => RG w W' g (bytes s2) _ _ _ _) (P := fun W' => wpAnyH _ _ _ _ _ _ _ _ W') (HR6.out.s12) (fun W7 hR7 => ?_)
                  have HR7 := Lib.hid hR7
                  clear hR7
                  ((try simp only [List.getElem_toArray, List.getElem_cons_succ, List.getElem_cons_zero]); (try simp only [Act.put, List.setIfInBounds_toArray, List.set_cons_zero, List.set_cons_succ]))
                  refine wpAnyH_done (by kernel_rfl) ?_ _
                  go_wp2_with fail
                  go_meet
                  case rel => exact ⟨_, _, _, _, _, rfl, rfl, rfl, HR7.out⟩
        · go_simp
          refine hK.out _ _ trivial (fun hHeld2 => ?_)
          clear hK K hHeld
          have hHeld := hHeld2
          clear hHeld2
          refine gen_world (R := fun W' => RG w W' g (bytes s2) _ _ _ _) (P := fun W' => wpAnyH _ _ _ _ _ _ _ _ W') (HR2.out.a8 (.slice none 0 0)) (fun W3 hR3 => ?_)
          have HR3 := Lib.hid hR3
          clear hR3
          ((try simp only [List.getElem_toArray, List.getElem_cons_succ, List.getElem_cons_zero]); (try simp only [Act.put, List.setIfInBounds_toArray, List.set_cons_zero, List.set_cons_succ]))
          refine wpAnyH_ready (rs := [6, 10]) (by kernel_rfl) (by simp) ?_
          refine AllReadyH.cons rfl (fun K hK => ?_) (AllReadyH.cons rfl (fun K hK => ?_) AllReadyH.nil)
          · go_simp
            refine hK.out _ _ trivial (fun hHeld2 => ?_)
            clear hK K hHeld
            have hHeld := hHeld2
            clear hHeld2
            refine gen_world (R := fun W' => RG w W' g (bytes s2) _ _ _ _) (P := fun W' => wpAnyH _ _ _ _ _ _ _ _ W') (HR3.out.c6g) (fun W4 hR4 => ?_)
            have HR4 := Lib.hid hR4
            clear hR4
            ((try simp only [List.getElem_toArray, List.getElem_cons_succ, List.getElem_cons_zero]); (try simp only [Act.put, List.setIfInBounds_toArray, List.set_cons_zero, List.set_cons_succ]))
            refine wpAnyH_ready (rs := [10]) (by kernel_rfl) (by simp) ?_
            refine AllReadyH.cons rfl (fun K hK => ?_) AllReadyH.nil
            · refine step_store_row rfl 48 _ _ rfl _ (recC (rcK z) ra0) rfl rfl 48 (recC rc0 ra0) (HR4.out.b7 _ _ rfl).1 info_Rec rfl (recC_one _ _) ?_
              refine hK.out _ _ trivial (fun hHeld2 => ?_)
              clear hK K hHeld
              have hHeld := hHeld2
              clear hHeld2
              refine gen_world (R := fun W' => RG w W' g (bytes s2) _ _ _ _) (P := fun W' => wpAnyH _ _ _ _ _ _ _ _ W') (HR4.out.s10 (recC (rcK z) ra0)) (fun W5 hR5 => ?_)
              have HR5 := Lib.hid hR5
              clear hR5
              ((try simp only [List.getElem_toArray, List.getElem_cons_succ, List.getElem_cons_zero]); (try simp only [Act.put, List.setIfInBounds_toArray, List.set_cons_zero, List.set_cons_succ]))
              refine wpAnyH_ready (rs := [11]) (by kernel_rfl) (by simp) ?_
              refine AllReadyH.cons rfl (fun K hK => ?_) AllReadyH.nil
              · have q1 := (HR5.out.b8 _ _ rfl).1.cell 0
                have q2 := (HR5.out.b8 _ _ rfl).1.frozen 0
                go_simp
                refine hK.out _ _ trivial (fun hHeld2 => ?_)
                clear hK K hHeld
                have hHeld := hHeld2
                clear hHeld2
                refine gen_world (R := fun W' => RG w W' g (bytes s2) _ _ _ _) (P := fun W' => wpAnyH _ _ _ _ _ _ _ _ W') (HR5.out.s11 _) (fun W6 hR6 => ?_)
                have HR6 := Lib.hid hR6
                clear hR6
                ((try simp only [List.getElem_toArray, List.getElem_cons_succ, List.getElem_cons_zero]); (try simp only [Act.put, List.setIfInBounds_toArray, List.set_cons_zero, List.set_cons_succ]))
                refine wpAnyH_ready (rs := [12]) (by kernel_rfl) (by simp) ?_
                refine AllReadyH.cons rfl (fun K hK => ?_) AllReadyH.nil
                · have q1 := (HR6.out.b9 _ rfl).1.cell 0
                  have q2 := (HR6.out.b9 _ rfl).1.frozen 0
                  go_simp
                  refine hK.out _ _ trivial (fun hHeld2 => ?_)
                  clear hK K hHeld
                  have hHeld := hHeld2
                  clear hHeld2
                  refine gen_world (R := fun W' => RG w W' g (bytes s2) _ _ _ _) (P := fun W' => wpAnyH _ _ _ _ _ _ _ _ W') (HR6.out.s12) (fun W7 hR7 => ?_)
                  have HR7 := Lib.hid hR7
                  clear hR7
                  ((try simp only [List.getElem_toArray, List.getElem_cons_succ, List.getElem_cons_zero]); (try simp only [Act.put, List.setIfInBounds_toArray, List.set_cons_zero, List.set_cons_succ]))
                  refine wpAnyH_done (by kernel_rfl) ?_ _
                  go_wp2_with fail
                  go_meet
                  case rel => exact ⟨_, _, _, _, _, rfl, rfl, rfl, HR7.out⟩
          · refine step_store_row rfl 48 _ _ rfl _ (recC (rcK z) ra0) rfl rfl 48 (recC rc0 ra0) (HR3.out.b7 _ _ rfl).1 info_Rec rfl (recC_one _ _) ?_
            refine hK.out _ _ trivial (fun hHeld2 => ?_)
            clear hK K hHeld
            have hHeld := hHeld2
            clear hHeld2
            refine gen_world (R := fun W' => RG w W' g (bytes s2) _ _ _ _) (P := fun W' => wpAnyH _ _ _ _ _ _ _ _ W') (HR3.out.s10 (recC (rcK z) ra0)) (fun W4 hR4 => ?_)
            have HR4 := Lib.hid hR4
            clear hR4
            ((try simp only [List.getElem_toArray, List.getElem_cons_succ, List.getElem_cons_zero]); (try simp only [Act.put, List.setIfInBounds_toArray, List.set_cons_zero, List.set_cons_succ]))
            refine wpAnyH_ready (rs := [6]) (by kernel_rfl) (by simp) ?_
            refine AllReadyH.cons rfl (fun K hK => ?_) AllReadyH.nil
            · go_simp
              refine hK.out _ _ trivial (fun hHeld2 => ?_)
              clear hK K hHeld
              have hHeld := hHeld2
              clear hHeld2
              refine gen_world (R := fun W' => RG w W' g (bytes s2) _ _ _ _) (P := fun W' => wpAnyH _ _ _ _ _ _ _ _ W') (HR4.out.c6g) (fun W5 hR5 => ?_)
              have HR5 := Lib.hid hR5
              clear hR5
              ((try simp only [List.getElem_toArray, List.getElem_cons_succ, List.getElem_cons_zero]); (try simp only [Act.put, List.setIfInBounds_toArray, List.set_cons_zero, List.set_cons_succ]))
              refine wpAnyH_ready (rs := [11]) (by kernel_rfl) (by simp) ?_
              refine AllReadyH.cons rfl (fun K hK => ?_) AllReadyH.nil
              · have q1 := (HR5.out.b8 _ _ rfl).1.cell 0
                have q2 := (HR5.out.b8 _ _ rfl).1.frozen 0
                go_simp
                refine hK.out _ _ trivial (fun hHeld2 => ?_)
                clear hK K hHeld
                have hHeld := hHeld2
                clear hHeld2
                refine gen_world (R := fun W' => RG w W' g (bytes s2) _ _ _ _) (P := fun W' => wpAnyH _ _ _ _ _ _ _ _ W') (HR5.out.s11 _) (fun W6 hR6 => ?_)
                have HR6 := Lib.hid hR6
                clear hR6
                ((try simp only [List.getElem_toArray, List.getElem_cons_succ, List.getElem_cons_zero]); (try simp only [Act.put, List.setIfInBounds_toArray, List.set_cons_zero, List.set_cons_succ]))
                refine wpAnyH_ready (rs := [12]) (by kernel_rfl) (by simp) ?_
                refine AllReadyH.cons rfl (fun K hK => ?_) AllReadyH.nil
                · have q1 := (HR6.out.b9 _ rfl).1.cell 0
                  have q2 := (HR6.out.b9 _ rfl).1.frozen 0
                  go_simp
                  refine hK.out _ _ trivial (fun hHeld2 => ?_)
                  clear hK K hHeld
                  have hHeld := hHeld2
                  clear hHeld2
                  refine gen_world (R := fun W' => RG w W' g (bytes s2) _ _ _ _) (P := fun W' => wpAnyH _ _ _ _ _ _ _ _ W') (HR6.out.s12) (fun W7 hR7 => ?_)
                  have HR7 := Lib.hid hR7
                  clear hR7
                  ((try simp only [List.getElem_toArray, List.getElem_cons_succ, List.getElem_cons_zero]); (try simp only [Act.put, List.setIfInBounds_toArray, List.set_cons_zero, List.set_cons_succ]))
                  refine wpAnyH_done (by kernel_rfl) ?_ _
                  go_wp2_with fail
                  go_meet
                  case rel => exact ⟨_, _, _, _, _, rfl, rfl, rfl, HR7.out⟩
    · go_simp
      refine hK.out _ _ trivial (fun hHeld2 => ?_)
      clear hK K hHeld
      have hHeld := hHeld2
      clear hHeld2
      refine gen_world (R := fun W' => RG w W' g (bytes s2) _ _ _ _) (P := fun W' => wpAnyH _ _ _ _ _ _ _ _ W') (HR0.out.a8 (.slice none 0 0)) (fun W1 hR1 => ?_)
      have HR1 := Lib.hid hR1
      clear hR1
      ((try simp only [List.getElem_toArray, List.getElem_cons_succ, List.getElem_cons_zero]); (try simp only [Act.put, List.setIfInBounds_toArray, List.set_cons_zero, List.set_cons_succ]))
      refine wpAnyH_ready (rs := [6, 7, 9]) (by kernel_rfl) (by simp) ?_
      refine AllReadyH.cons rfl (fun K hK => ?_) (AllReadyH.cons rfl (fun K hK => ?_) (AllReadyH.cons rfl (fun K hK => ?_) AllReadyH.nil))
      · go_simp
        refine hK.out _ _ trivial (fun hHeld2 => ?_)
        clear hK K hHeld
        have hHeld := hHeld2
        clear hHeld2
        refine gen_world (R := fun W' => RG w W' g (bytes s2) _ _ _ _) (P := fun W' => wpAnyH _ _ _ _ _ _ _ _ W') (HR1.out.c6g) (fun W2 hR2 => ?_)
        have HR2 := Lib.hid hR2
        clear hR2
        ((try simp only [List.getElem_toArray, List.getElem_cons_succ, List.getElem_cons_zero]); (try simp only [Act.put, List.setIfInBounds_toArray, List.set_cons_zero, List.set_cons_succ]))
        refine wpAnyH_ready (rs := [7, 9]) (by kernel_rfl) (by simp) ?_
        refine AllReadyH.cons rfl (fun K hK => ?_) (AllReadyH.cons rfl (fun K hK => ?_) AllReadyH.nil)
        · go_simp
          refine hK.out _ _ trivial (fun hHeld2 => ?_)
          clear hK K hHeld
          have hHeld := hHeld2
          clear hHeld2
          refine gen_world (R := fun W' => RG w W' g (bytes s2) _ _ _ _) (P := fun W' => wpAnyH _ _ _ _ _ _ _ _ W') (HR2.out.a7 (recC rc0 ra0)) (fun W3 hR3 => ?_)
          have HR3 := Lib.hid hR3
          clear hR3
          ((try simp only [List.getElem_toArray, List.getElem_cons_succ, List.getElem_cons_zero]); (try simp only [Act.put, List.setIfInBounds_toArray, List.set_cons_zero, List.set_cons_succ]))
          refine wpAnyH_ready (rs := [9]) (by kernel_rfl) (by simp) ?_
          refine AllReadyH.cons rfl (fun K hK => ?_) AllReadyH.nil
          · go_simp
            refine hK.out _ _ trivial (fun hHeld2 => ?_)
            clear hK K hHeld
            have hHeld := hHeld2
            clear hHeld2
            refine gen_world (R := fun W' => RG w W' g (bytes s2) _ _ _ _) (P := fun W' => wpAnyH _ _ _ _ _ _ _ _ W') (HR3.out.a9) (fun W4 hR4 => ?_)
            have HR4 := Lib.hid hR4
            clear hR4
            ((try simp only [List.getElem_toArray, List.getElem_cons_succ, List.getElem_cons_zero]); (try simp only [Act.put, List.setIfInBounds_toArray, List.set_cons_zero, List.set_cons_succ]))
            refine wpAnyH_ready (rs := [10]) (by kernel_rfl) (by simp) ?_
            refine AllReadyH.cons rfl (fun K hK => ?_) AllReadyH.nil
            · refine step_store_row rfl 48 _ _ rfl _ (recC (rcK z) ra0) rfl rfl 48 (recC rc0 ra0) (HR4.out.b7 _ _ rfl).1 info_Rec rfl (recC_one _ _) ?_
              refine hK.out _ _ trivial (fun hHeld2 => ?_)
              clear hK K hHeld
              have hHeld := hHeld2
              clear hHeld2
              refine gen_world (R := fun W' => RG w W' g (bytes s2) _ _ _ _) (P := fun W' => wpAnyH _ _ _ _ _ _ _ _ W') (HR4.out.s10 (recC (rcK z) ra0)) (fun W5 hR5 => ?_)
              have HR5 := Lib.hid hR5
              clear hR5
              ((try simp only [List.getElem_toArray, List.getElem_cons_succ, List.getElem_cons_zero]); (try simp only [Act.put, List.setIfInBounds_toArray, List.set_cons_zero, List.set_cons_succ]))
              refine wpAnyH_ready (rs := [11]) (by kernel_rfl) (by simp) ?_
              refine AllReadyH.cons rfl (fun K hK => ?_) AllReadyH.nil
              · have q1 := (HR5.out.b8 _ _ rfl).1.cell 0
                have q2 := (HR5.out.b8 _ _ rfl).1.frozen 0
                go_simp
                refine hK.out _ _ trivial (fun hHeld2 => ?_)
                clear hK K hHeld
                have hHeld := hHeld2
                clear hHeld2
                refine gen_world (R := fun W' => RG w W' g (bytes s2) _ _ _ _) (P := fun W' => wpAnyH _ _ _ _ _ _ _ _ W') (HR5.out.s11 _) (fun W6 hR6 => ?_)
                have HR6 := Lib.hid hR6
                clear hR6
                ((try simp only [List.getElem_toArray, List.getElem_cons_succ, List.getElem_cons_zero]); (try simp only [Act.put, List.setIfInBounds_toArray, List.set_cons_zero, List.set_cons_succ]))
                refine wpAnyH_ready (rs := [12]) (by kernel_rfl) (by simp) ?_
                refine AllReadyH.cons rfl (fun K hK => ?_) AllReadyH.nil
                · have q1 := (HR6.out.b9 _ rfl).1.cell 0
                  have q2 := (HR6.out.b9 _ rfl).1.frozen 0
                  go_simp
                  refine hK.out _ _ trivial (fun hHeld2 => ?_)
                  clear hK K hHeld
                  have hHeld := hHeld2
                  clear hHeld2
                  refine gen_world (R := fun W' => RG w W' g (bytes s2) _ _ _ _) (P := fun W' => wpAnyH _ _ _ _ _ _ _ _ W') (HR6.out.s12) (fun W7 hR7 => ?_)
                  have HR7 := Lib.hid hR7
                  clear hR7
                  ((try simp only [List.getElem_toArray, List.getElem_cons_succ, List.getElem_cons_zero]); (try simp only [Act.put, List.setIfInBounds_toArray, List.set_cons_zero, List.set_cons_succ]))
                  refine wpAnyH_done (by kernel_rfl) ?_ _
                  go_wp2_with fail
                  go_meet
                  case rel => exact ⟨_, _, _, _, _, rfl, rfl, rfl, HR7.out⟩
        · go_simp
          refine hK.out _ _ trivial (fun hHeld2 => ?_)
          clear hK K hHeld
          have hHeld := hHeld2
          clear hHeld2
          refine gen_world (R := fun W' => RG w W' g (bytes s2) _ _ _ _) (P := fun W' => wpAnyH _ _ _ _ _ _ _ _ W') (HR2.out.a9) (fun W3 hR3 => ?_)
          have HR3 := Lib.hid hR3
          clear hR3
          ((try simp only [List.getElem_toArray, List.getElem_cons_succ, List.getElem_cons_zero]); (try simp only [Act.put, List.setIfInBounds_toArray, List.set_cons_zero, List.set_cons_succ]))
          refine wpAnyH_ready (rs := [7]) (by kernel_rfl) (by simp) ?_
          refine AllReadyH.cons rfl (fun K hK => ?_) AllReadyH.nil
          · go_simp
            refine hK.out _ _ trivial (fun hHeld2 => ?_)
            clear hK K hHeld
            have hHeld := hHeld2
            clear hHeld2
            refine gen_world (R := fun W' => RG w W' g (bytes s2) _ _ _ _) (P := fun W' => wpAnyH _ _ _ _ _ _ _ _ W') (HR3.out.a7 (recC rc0 ra0)) (fun W4 hR4 => ?_)
            have HR4 := Lib.hid hR4
            clear hR4
            ((try simp only [List.getElem_toArray, List.getElem_cons_succ, List.getElem_cons_zero]); (try simp only [Act.put, List.setIfInBounds_toArray, List.set_cons_zero, List.set_cons_succ]))
            refine wpAnyH_ready (rs := [10]) (by kernel_rfl) (by simp) ?_
            refine AllReadyH.cons rfl (fun K hK => ?_) AllReadyH.nil
            · refine step_store_row rfl 48 _ _ rfl _ (recC (rcK z) ra0) rfl rfl 48 (recC rc0 ra0) (HR4.out.b7 _ _ rfl).1 info_Rec rfl (recC_one _ _) ?_
              refine hK.out _ _ trivial (fun hHeld2 => ?_)
              clear hK K hHeld
              have hHeld := hHeld2
              clear hHeld2
              refine gen_world (R := fun W' => RG w W' g (bytes s2) _ _ _ _) (P := fun W' => wpAnyH _ _ _ _ _ _ _ _ W') (HR4.out.s10 (recC (rcK z) ra0)) (fun W5 hR5 => ?_)
              have HR5 := Lib.hid hR5
              clear hR5
              ((try simp only [List.getElem_toArray, List.getElem_cons_succ, List.getElem_cons_zero]); (try simp only [Act.put, List.setIfInBounds_toArray, List.set_cons_zero, List.set_cons_succ]))
              refine wpAnyH_ready (rs := [11]) (by kernel_rfl) (by simp) ?_
              refine AllReadyH.cons rfl (fun K hK => ?_) AllReadyH.nil
              · have q1 := (HR5.out.b8 _ _ rfl).1.cell 0
                have q2 := (HR5.out.b8 _ _ rfl).1.frozen 0
                go_simp
                refine hK.out _ _ trivial (fun hHeld2 => ?_)
                clear hK K hHeld
                have hHeld := hHeld2
                clear hHeld2
                refine gen_world (R := fun W' => RG w W' g (bytes s2) _ _ _ _) (P := fun W' => wpAnyH _ _ _ _ _ _ _ _ W') (HR5.out.s11 _) (fun W6 hR6 => ?_)
                have HR6 := Lib.hid hR6
                clear hR6
                ((try simp only [List.getElem_toArray, List.getElem_cons_succ, List.getElem_cons_zero]); (try simp only [Act.put, List.setIfInBounds_toArray, List.set_cons_zero, List.set_cons_succ]))
                refine wpAnyH_ready (rs := [12]) (by kernel_rfl) (by simp) ?_
                refine AllReadyH.cons rfl (fun K hK => ?_) AllReadyH.nil
                · have q1 := (HR6.out.b9 _ rfl).1.cell 0
                  have q2 := (HR6.out.b9 _ rfl).1.frozen 0
                  go_simp
                  refine hK.out _ _ trivial (fun hHeld2 => ?_)
                  clear hK K hHeld
                  have hHeld := hHeld2
                  clear hHeld2
                  refine gen_world (R := fun W' => RG w W' g (bytes s2) _ _ _ _) (P := fun W' => wpAnyH _ _ _ _ _ _ _ _ W') (HR6.out.s12) (fun W7 hR7 => ?_)
                  have HR7 := Lib.hid hR7
                  clear hR7
                  ((try simp only [List.getElem_toArray, List.getElem_cons_succ, List.getElem_cons_zero]); (try simp only [Act.put, List.setIfInBounds_toArray, List.set_cons_zero, List.set_cons_succ]))
                  refine wpAnyH_done (by kernel_rfl) ?_ _
                  go_wp2_with fail
                  go_meet
                  case rel => exact ⟨_, _, _, _, _, rfl, rfl, rfl, HR7.out⟩
      · go_simp
        refine hK.out _ _ trivial (fun hHeld2 => ?_)
        clear hK K hHeld
        have hHeld := hHeld2
        clear hHeld2
        refine gen_world (R := fun W' => RG w W' g (bytes s2) _ _ _ _) (P := fun W' => wpAnyH _ _ _ _ _ _ _ _ W') (HR1.out.a7 (recC rc0 ra0)) (fun W2 hR2 => ?_)
        have HR2 := Lib.hid hR2
        clear hR2
        ((try simp only [List.getElem_toArray, List.getElem_cons_succ, List.getElem_cons_zero]); (try simp only [Act.put, List.setIfInBounds_toArray, List.set_cons_zero, List.set_cons_succ]))
        refine wpAnyH_ready (rs := [6, 9]) (by kernel_rfl) (by simp) ?_
        refine AllReadyH.cons rfl (fun K hK => ?_) (AllReadyH.cons rfl (fun K hK => ?_) AllReadyH.nil)
        · go_simp
          refine hK.out _ _ trivial (fun hHeld2 => ?_)
          clear hK K hHeld
          have hHeld := hHeld2
          clear hHeld2
          refine gen_world (R := fun W' => RG w W' g (bytes s2) _ _ _ _) (P := fun W' => wpAnyH _ _ _ _ _ _ _ _ W') (HR2.out.c6g) (fun W3 hR3 => ?_)
          have HR3 := Lib.hid hR3
          clear hR3
          ((try simp only [List.getElem_toArray, List.getElem_cons_succ, List.getElem_cons_zero]); (try simp only [Act.put, List.setIfInBounds_toArray, List.set_cons_zero, List.set_cons_succ]))
          refine wpAnyH_ready (rs := [9]) (by kernel_rfl) (by simp) ?_
          refine AllReadyH.cons rfl (fun K hK => ?_) AllReadyH.nil
          · go_simp
            refine hK.out _ _ trivial (fun hHeld2 => ?_)
            clear hK K hHeld
            have hHeld := hHeld2
            clear hHeld2
            refine gen_world (R := fun W' => RG w W' g (bytes s2) _ _ _ _) (P := fun W' => wpAnyH _ _ _ _ _ _ _ _ W') (HR3.out.a9) (fun W4 hR4 => ?_)
            have HR4 := Lib.hid hR4
            clear hR4
            ((try simp only [List.getElem_toArray, List.getElem_cons_succ, List.getElem_cons_zero]); (try simp only [Act.put, List.setIfInBounds_toArray, List.set_cons_zero, List.set_cons_succ]))
            refine wpAnyH_ready (rs := [10]) (by kernel_rfl) (by simp) ?_
            refine AllReadyH.cons rfl (fun K hK => ?_) AllReadyH.nil
            · refine step_store_row rfl 48 _ _ rfl _ (recC (rcK z) ra0) rfl rfl 48 (recC rc0 ra0) (HR4.out.b7 _ _ rfl).1 info_Rec rfl (recC_one _ _) ?_
              refine hK.out _ _ trivial (fun hHeld2 => ?_)
              clear hK K hHeld
              have hHeld := hHeld2
              clear hHeld2
              refine gen_world (R := fun W' => RG w W' g (bytes s2) _ _ _ _) (P := fun W' => wpAnyH _ _ _ _ _ _ _ _ W') (HR4.out.s10 (recC (rcK z) ra0)) (fun W5 hR5 => ?_)
              have HR5 := Lib.hid hR5
              clear hR5
              ((try simp only [List.getElem_toArray, List.getElem_cons_succ, List.getElem_cons_zero]); (try simp only [Act.put, List.setIfInBounds_toArray, List.set_cons_zero, List.set_cons_succ]))
              refine wpAnyH_ready (rs := [11]) (by kernel_rfl) (by simp) ?_
              refine AllReadyH.cons rfl (fun K hK => ?_) AllReadyH.nil
              · have q1 := (HR5.out.b8 _ _ rfl).1.cell 0
                have q2 := (HR5.out.b8 _ _ rfl).1.frozen 0
                go_simp
                refine hK.out _ _ trivial (fun hHeld2 => ?_)
                clear hK K hHeld
                have hHeld := hHeld2
                clear hHeld2
                refine gen_world (R := fun W' => RG w W' g (bytes s2) _ _ _ _) (P := fun W' => wpAnyH _ _ _ _ _ _ _ _ W') (HR5.out.s11 _) (fun W6 hR6 => ?_)
                have HR6 := Lib.hid hR6
                clear hR6
                ((try simp only [List.getElem_toArray, List.getElem_cons_succ, List.getElem_cons_zero]); (try simp only [Act.put, List.setIfInBounds_toArray, List.set_cons_zero, List.set_cons_succ]))
                refine wpAnyH_ready (rs := [12]) (by kernel_rfl) (by simp) ?_
                refine AllReadyH.cons rfl (fun K hK => ?_) AllReadyH.nil
                · have q1 := (HR6.out.b9 _ rfl).1.cell 0
                  have q2 := (HR6.out.b9 _ rfl).1.frozen 0
                  go_simp
                  refine hK.out _ _ trivial (fun hHeld2 => ?_)
                  clear hK K hHeld
                  have hHeld := hHeld2
                  clear hHeld2
                  refine gen_world (R := fun W' => RG w W' g (bytes s2) _ _ _ _) (P := fun W' => wpAnyH _ _ _ _ _ _ _ _ W') (HR6.out.s12) (fun W7 hR7 => ?_)
                  have HR7 := Lib.hid hR7
                  clear hR7
                  ((try simp only [List.getElem_toArray, List.getElem_cons_succ, List.getElem_cons_zero]); (try simp only [Act.put, List.setIfInBounds_toArray, List.set_cons_zero, List.set_cons_succ]))
                  refine wpAnyH_done (by kernel_rfl) ?_ _
                  go_wp2_with fail
                  go_meet
                  case rel => exact ⟨_, _, _, _, _, rfl, rfl, rfl, HR7.out⟩
        · go_simp
          refine hK.out _ _ trivial (fun hHeld2 => ?_)
          clear hK K hHeld
          have hHeld := hHeld2
          clear hHeld2
          refine gen_world (R := fun W' => RG w W' g (bytes s2) _ _ _ _) (P := fun W' => wpAnyH _ _ _ _ _ _ _ _ W') (HR2.out.a9) (fun W3 hR3 => ?_)
          have HR3 := Lib.hid hR3
          clear hR3
          ((try simp only [List.getElem_toArray, List.getElem_cons_succ, List.getElem_cons_zero]); (try simp only [Act.put, List.setIfInBounds_toArray, List.set_cons_zero, List.set_cons_succ]))
          refine wpAnyH_ready (rs := [6, 10]) (by kernel_rfl) (by simp) ?_
          refine AllReadyH.cons rfl (fun K hK => ?_) (AllReadyH.cons rfl (fun K hK => ?_) AllReadyH.nil)
          · go_simp
            refine hK.out _ _ trivial (fun hHeld2 => ?_)
            clear hK K hHeld
            have hHeld := hHeld2
            clear hHeld2
            refine gen_world (R := fun W' => RG w W' g (bytes s2) _ _ _ _) (P := fun W' => wpAnyH _ _ _ _ _ _ _ _ W') (HR3.out.c6g) (fun W4 hR4 => ?_)
            have HR4 := Lib.hid hR4
            clear hR4
            ((try simp only [List.getElem_toArray, List.getElem_cons_succ, List.getElem_cons_zero]); (try simp only [Act.put, List.setIfInBounds_toArray, List.set_cons_zero, List.set_cons_succ]))
            refine wpAnyH_ready (rs := [10]) (by kernel_rfl) (by simp) ?_
            refine AllReadyH.cons rfl (fun K hK => ?_) AllReadyH.nil
            · refine step_store_row rfl 48 _ _ rfl _ (recC (rcK z) ra0) rfl rfl 48 (recC rc0 ra0) (HR4.out.b7 _ _ rfl).1 info_Rec rfl (recC_one _ _) ?_
              refine hK.out _ _ trivial (fun hHeld2 => ?_)
              clear hK K hHeld
              have hHeld := hHeld2
              clear hHeld2
              refine gen_world (R := fun W' => RG w W' g (bytes s2) _ _ _ _) (P := fun W' => wpAnyH _ _ _ _ _ _ _ _ W') (HR4.out.s10 (recC (rcK z) ra0)) (fun W5 hR5 => ?_)
              have HR5 := Lib.hid hR5
              clear hR5
              ((try simp only [List.getElem_toArray, List.getElem_cons_succ, List.getElem_cons_zero]); (try simp only [Act.put, List.setIfInBounds_toArray, List.set_cons_zero, List.set_cons_succ]))
              refine wpAnyH_ready (rs := [11]) (by kernel_rfl) (by simp) ?_
              refine AllReadyH.cons rfl (fun K hK => ?_) AllReadyH.nil
              · have q1 := (HR5.out.b8 _ _ rfl).1.cell 0
                have q2 := (HR5.out.b8 _ _ rfl).1.frozen 0
                go_simp
                refine hK.out _ _ trivial (fun hHeld2 => ?_)
                clear hK K hHeld
                have hHeld := hHeld2
                clear hHeld2
                refine gen_world (R := fun W' => RG w W' g (bytes s2) _ _ _ _) (P := fun W' => wpAnyH _ _ _ _ _ _ _ _ W') (HR5.out.s11 _) (fun W6 hR6 => ?_)
                have HR6 := Lib.hid hR6
                clear hR6
                ((try simp only [List.getElem_toArray, List.getElem_cons_succ, List.getElem_cons_zero]); (try simp only [Act.put, List.setIfInBounds_toArray, List.set_cons_zero, List.set_cons_succ]))
                refine wpAnyH_ready (rs := [12]) (by kernel_rfl) (by simp) ?_
                refine AllReadyH.cons rfl (fun K hK => ?_) AllReadyH.nil
                · have q1 := (HR6.out.b9 _ rfl).1.cell 0
                  have q2 := (HR6.out.b9 _ rfl).1.frozen 0
                  go_simp
                  refine hK.out _ _ trivial (fun hHeld2 => ?_)
                  clear hK K hHeld
                  have hHeld := hHeld2
                  clear hHeld2
                  refine gen_world (R := fun W' => RG w W' g (bytes s2) _ _ _ _) (P := fun W' => wpAnyH _ _ _ _ _ _ _ _ W') (HR6.out.s12) (fun W7 hR7 => ?_)
                  have HR7 := Lib.hid hR7
                  clear hR7
                  ((try simp only [List.getElem_toArray, List.getElem_cons_succ, List.getElem_cons_zero]); (try simp only [Act.put, List.setIfInBounds_toArray, List.set_cons_zero, List.set_cons_succ]))
                  refine wpAnyH_done (by kernel_rfl) ?_ _
                  go_wp2_with fail
                  go_meet
                  case rel => exact ⟨_, _, _, _, _, rfl, rfl, rfl, HR7.out⟩
          · refine step_store_row rfl 48 _ _ rfl _ (recC (rcK z) ra0) rfl rfl 48 (recC rc0 ra0) (HR3.out.b7 _ _ rfl).1 info_Rec rfl (recC_one _ _) ?_
            refine hK.out _ _ trivial (fun hHeld2 => ?_)
            clear hK K hHeld
            have hHeld := hHeld2
            clear hHeld2
            refine gen_world (R := fun W' => RG w W' g (bytes s2) _ _ _ _) (P := fun W' => wpAnyH _ _ _ _ _ _ _ _ W') (HR3.out.s10 (recC (rcK z) ra0)) (fun W4 hR4 => ?_)
            have HR4 := Lib.hid hR4
            clear hR4
            ((try simp only [List.getElem_toArray, List.getElem_cons_succ, List.getElem_cons_zero]); (try simp only [Act.put, List.setIfInBounds_toArray, List.set_cons_zero, List.set_cons_succ]))
            refine wpAnyH_ready (rs := [6]) (by kernel_rfl) (by simp) ?_
            refine AllReadyH.cons rfl (fun K hK => ?_) AllReadyH.nil
            · go_simp
              refine hK.out _ _ trivial (fun hHeld2 => ?_)
              clear hK K hHeld
              have hHeld := hHeld2
              clear hHeld2
              refine gen_world (R := fun W' => RG w W' g (bytes s2) _ _ _ _) (P := fun W' => wpAnyH _ _ _ _ _ _ _ _ W') (HR4.out.c6g) (fun W5 hR5 => ?_)
              have HR5 := Lib.hid hR5
              clear hR5
              ((try simp only [List.getElem_toArray, List.getElem_cons_succ, List.getElem_cons_zero]); (try simp only [Act.put, List.setIfInBounds_toArray, List.set_cons_zero, List.set_cons_succ]))
              refine wpAnyH_ready (rs := [11]) (by kernel_rfl) (by simp) ?_
              refine AllReadyH.cons rfl (fun K hK => ?_) AllReadyH.nil
              · have q1 := (HR5.out.b8 _ _ rfl).1.cell 0
                have q2 := (HR5.out.b8 _ _ rfl).1.frozen 0
                go_simp
                refine hK.out _ _ trivial (fun hHeld2 => ?_)
                clear hK K hHeld
                have hHeld := hHeld2
                clear hHeld2
                refine gen_world (R := fun W' => RG w W' g (bytes s2) _ _ _ _) (P := fun W' => wpAnyH _ _ _ _ _ _ _ _ W') (HR5.out.s11 _) (fun W6 hR6 => ?_)
                have HR6 := Lib.hid hR6
                clear hR6
                ((try simp only [List.getElem_toArray, List.getElem_cons_succ, List.getElem_cons_zero]); (try simp only [Act.put, List.setIfInBounds_toArray, List.set_cons_zero, List.set_cons_succ]))
                refine wpAnyH_ready (rs := [12]) (by kernel_rfl) (by simp) ?_
                refine AllReadyH.cons rfl (fun K hK => ?_) AllReadyH.nil
                · have q1 := (HR6.out.b9 _ rfl).1.cell 0
                  have q2 := (HR6.out.b9 _ rfl).1.frozen 0
                  go_simp
                  refine hK.out _ _ trivial (fun hHeld2 => ?_)
                  clear hK K hHeld
                  have hHeld := hHeld2
                  clear hHeld2
                  refine gen_world (R := fun W' => RG w W' g (bytes s2) _ _ _ _) (P := fun W' => wpAnyH _ _ _ _ _ _ _ _ W') (HR6.out.s12) (fun W7 hR7 => ?_)
                  have HR7 := Lib.hid hR7
                  clear hR7
                  ((try simp only [List.getElem_toArray, List.getElem_cons_succ, List.getElem_cons_zero]); (try simp only [Act.put, List.setIfInBounds_toArray, List.set_cons_zero, List.set_cons_succ]))
                  refine wpAnyH_done (by kernel_rfl) ?_ _
                  go_wp2_with fail
                  go_meet
                  case rel => exact ⟨_, _, _, _, _, rfl, rfl, rfl, HR7.out⟩
      · go_simp
        refine hK.out _ _ trivial (fun hHeld2 => ?_)
        clear hK K hHeld
        have hHeld := hHeld2
        clear hHeld2
        refine gen_world (R := fun W' => RG w W' g (bytes s2) _ _ _ _) (P := fun W' => wpAnyH _ _ _ _ _ _ _ _ W') (HR1.out.a9) (fun W2 hR2 => ?_)
        have HR2 := Lib.hid hR2
        clear hR2
        ((try simp only [List.getElem_toArray, List.getElem_cons_succ, List.getElem_cons_zero]); (try simp only [Act.put, List.setIfInBounds_toArray, List.set_cons_zero, List.set_cons_succ]))
        refine wpAnyH_ready (rs := [6, 7]) (by kernel_rfl) (by simp) ?_
        refine AllReadyH.cons rfl (fun K hK => ?_) (AllReadyH.cons rfl (fun K hK => ?_) AllReadyH.nil)
        · go_simp
          refine hK.out _ _ trivial (fun hHeld2 => ?_)
          clear hK K hHeld
          have hHeld := hHeld2
          clear hHeld2
          refine gen_world (R := fun W' => RG w W' g (bytes s2) _ _ _ _) (P := fun W' => wpAnyH _ _ _ _ _ _ _ _ W') (HR2.out.c6g) (fun W3 hR3 => ?_)
          have HR3 := Lib.hid hR3
          clear hR3
          ((try simp only [List.getElem_toArray, List.getElem_cons_succ, List.getElem_cons_zero]); (try simp only [Act.put, List.setIfInBounds_toArray, List.set_cons_zero, List.set_cons_succ]))
          refine wpAnyH_ready (rs := [7]) (by kernel_rfl) (by simp) ?_
          refine AllReadyH.cons rfl (fun K hK => ?_) AllReadyH.nil
          · go_simp
            refine hK.out _ _ trivial (fun hHeld2 => ?_)
            clear hK K hHeld
            have hHeld := hHeld2
            clear hHeld2
            refine gen_world (R := fun W' => RG w W' g (bytes s2) _ _ _ _) (P := fun W' => wpAnyH _ _ _ _ _ _ _ _ W') (HR3.out.a7 (recC rc0 ra0)) (fun W4 hR4 => ?_)
            have HR4 := Lib.hid hR4
            clear hR4
            ((try simp only [List.getElem_toArray, List.getElem_cons_succ, List.getElem_cons_zero]); (try simp only [Act.put, List.setIfInBounds_toArray, List.set_cons_zero, List.set_cons_succ]))
            refine wpAnyH_ready (rs := [10]) (by kernel_rfl) (by simp) ?_
            refine AllReadyH.cons rfl (fun K hK => ?_) AllReadyH.nil
            · refine step_store_row rfl 48 _ _ rfl _ (recC (rcK z) ra0) rfl rfl 48 (recC rc0 ra0) (HR4.out.b7 _ _ rfl).1 info_Rec rfl (recC_one _ _) ?_
              refine hK.out _ _ trivial (fun hHeld2 => ?_)
              clear hK K hHeld
              have hHeld := hHeld2
              clear hHeld2
              refine gen_world (R := fun W' => RG w W' g (bytes s2) _ _ _ _) (P := fun W' => wpAnyH _ _ _ _ _ _ _ _ W') (HR4.out.s10 (recC (rcK z) ra0)) (fun W5 hR5 => ?_)
              have HR5 := Lib.hid hR5
              clear hR5
              ((try simp only [List.getElem_toArray, List.getElem_cons_succ, List.getElem_cons_zero]); (try simp only [Act.put, List.setIfInBounds_toArray, List.set_cons_zero, List.set_cons_succ]))
              refine wpAnyH_ready (rs := [11]) (by kernel_rfl) (by simp) ?_
              refine AllReadyH.cons rfl (fun K hK => ?_) AllReadyH.nil
              · have q1 := (HR5.out.b8 _ _ rfl).1.cell 0
                have q2 := (HR5.out.b8 _ _ rfl).1.frozen 0
                go_simp
                refine hK.out _ _ trivial (fun hHeld2 => ?_)
                clear hK K hHeld
                have hHeld := hHeld2
                clear hHeld2
                refine gen_world (R := fun W' => RG w W' g (bytes s2) _ _ _ _) (P := fun W' => wpAnyH _ _ _ _ _ _ _ _ W') (HR5.out.s11 _) (fun W6 hR6 => ?_)
                have HR6 := Lib.hid hR6
                clear hR6
                ((try simp only [List.getElem_toArray, List.getElem_cons_succ, List.getElem_cons_zero]); (try simp only [Act.put, List.setIfInBounds_toArray, List.set_cons_zero, List.set_cons_succ]))
                refine wpAnyH_ready (rs := [12]) (by kernel_rfl) (by simp) ?_
                refine AllReadyH.cons rfl (fun K hK => ?_) AllReadyH.nil
                · have q1 := (HR6.out.b9 _ rfl).1.cell 0
                  have q2 := (HR6.out.b9 _ rfl).1.frozen 0
                  go_simp
                  refine hK.out _ _ trivial (fun hHeld2 => ?_)
                  clear hK K hHeld
                  have hHeld := hHeld2
                  clear hHeld2
                  refine gen_world (R := fun W' => RG w W' g (bytes s2) _ _ _ _) (P := fun W' => wpAnyH _ _ _ _ _ _ _ _ W') (HR6.out.s12) (fun W7 hR7 => ?_)
                  have HR7 := Lib.hid hR7
                  clear hR7
                  ((try simp only [List.getElem_toArray, List.getElem_cons_succ, List.getElem_cons_zero]); (try simp only [Act.put, List.setIfInBounds_toArray, List.set_cons_zero, List.set_cons_succ]))
                  refine wpAnyH_done (by kernel_rfl) ?_ _
                  go_wp2_with fail
                  go_meet
                  case rel => exact ⟨_, _, _, _, _, rfl, rfl, rfl, HR7.out⟩
        · go_simp
          refine hK.out _ _ trivial (fun hHeld2 => ?_)
          clear hK K hHeld
          have hHeld := hHeld2
          clear hHeld2
          refine gen_world (R := fun W' => RG w W' g (bytes s2) _ _ _ _) (P := fun W' => wpAnyH _ _ _ _ _ _ _ _ W') (HR2.out.a7 (recC rc0 ra0)) (fun W3 hR3 => ?_)
          have HR3 := Lib.hid hR3
          clear hR3
          ((try simp only [List.getElem_toArray, List.getElem_cons_succ, List.getElem_cons_zero]); (try simp only [Act.put, List.setIfInBounds_toArray, List.set_cons_zero, List.set_cons_succ]))
          refine wpAnyH_ready (rs := [6, 10]) (by kernel_rfl) (by simp) ?_
          refine AllReadyH.cons rfl (fun K hK => ?_) (AllReadyH.cons rfl (fun K hK => ?_) AllReadyH.nil)
          · go_simp
            refine hK.out _ _ trivial (fun hHeld2 => ?_)
            clear hK K hHeld
            have hHeld := hHeld2
            clear hHeld2
            refine gen_world (R := fun W' => RG w W' g (bytes s2) _ _ _ _) (P := fun W' => wpAnyH _ _ _ _ _ _ _ _ W') (HR3.out.c6g) (fun W4 hR4 => ?_)
            have HR4 := Lib.hid hR4
            clear hR4
            ((try simp only [List.getElem_toArray, List.getElem_cons_succ, List.getElem_cons_zero]); (try simp only [Act.put, List.setIfInBounds_toArray, List.set_cons_zero, List.set_cons_succ]))
            refine wpAnyH_ready (rs := [10]) (by kernel_rfl) (by simp) ?_
            refine AllReadyH.cons rfl (fun K hK => ?_) AllReadyH.nil
            · refine step_store_row rfl 48 _ _ rfl _ (recC (rcK z) ra0) rfl rfl 48 (recC rc0 ra0) (HR4.out.b7 _ _ rfl).1 info_Rec rfl (recC_one _ _) ?_
              refine hK.out _ _ trivial (fun hHeld2 => ?_)
              clear hK K hHeld
              have hHeld := hHeld2
              clear hHeld2
              refine gen_world (R := fun W' => RG w W' g (bytes s2) _ _ _ _) (P := fun W' => wpAnyH _ _ _ _ _ _ _ _ W') (HR4.out.s10 (recC (rcK z) ra0)) (fun W5 hR5 => ?_)
              have HR5 := Lib.hid hR5
              clear hR5
              ((try simp only [List.getElem_toArray, List.getElem_cons_succ, List.getElem_cons_zero]); (try simp only [Act.put, List.setIfInBounds_toArray, List.set_cons_zero, List.set_cons_succ]))
              refine wpAnyH_ready (rs := [11]) (by kernel_rfl) (by simp) ?_
              refine AllReadyH.cons rfl (fun K hK => ?_) AllReadyH.nil
              · have q1 := (HR5.out.b8 _ _ rfl).1.cell 0
                have q2 := (HR5.out.b8 _ _ rfl).1.frozen 0
                go_simp
                refine hK.out _ _ trivial (fun hHeld2 => ?_)
                clear hK K hHeld
                have hHeld := hHeld2
                clear hHeld2
                refine gen_world (R := fun W' => RG w W' g (bytes s2) _ _ _ _) (P := fun W' => wpAnyH _ _ _ _ _ _ _ _ W') (HR5.out.s11 _) (fun W6 hR6 => ?_)
                have HR6 := Lib.hid hR6
                clear hR6
                ((try simp only [List.getElem_toArray, List.getElem_cons_succ, List.getElem_cons_zero]); (try simp only [Act.put, List.setIfInBounds_toArray, List.set_cons_zero, List.set_cons_succ]))
                refine wpAnyH_ready (rs := [12]) (by kernel_rfl) (by simp) ?_
                refine AllReadyH.cons rfl (fun K hK => ?_) AllReadyH.nil
                · have q1 := (HR6.out.b9 _ rfl).1.cell 0
                  have q2 := (HR6.out.b9 _ rfl).1.frozen 0
                  go_simp
                  refine hK.out _ _ trivial (fun hHeld2 => ?_)
                  clear hK K hHeld
                  have hHeld := hHeld2
                  clear hHeld2
                  refine gen_world (R := fun W' => RG w W' g (bytes s2) _ _ _ _) (P := fun W' => wpAnyH _ _ _ _ _ _ _ _ W') (HR6.out.s12) (fun W7 hR7 => ?_)
                  have HR7 := Lib.hid hR7
                  clear hR7
                  ((try simp only [List.getElem_toArray, List.getElem_cons_succ, List.getElem_cons_zero]); (try simp only [Act.put, List.setIfInBounds_toArray, List.set_cons_zero, List.set_cons_succ]))
                  refine wpAnyH_done (by kernel_rfl) ?_ _
                  go_wp2_with fail
                  go_meet
                  case rel => exact ⟨_, _, _, _, _, rfl, rfl, rfl, HR7.out⟩
          · refine step_store_row rfl 48 _ _ rfl _ (recC (rcK z) ra0) rfl rfl 48 (recC rc0 ra0) (HR3.out.b7 _ _ rfl).1 info_Rec rfl (recC_one _ _) ?_
            refine hK.out _ _ trivial (fun hHeld2 => ?_)
            clear hK K hHeld
            have hHeld := hHeld2
            clear hHeld2
            refine gen_world (R := fun W' => RG w W' g (bytes s2) _ _ _ _) (P := fun W' => wpAnyH _ _ _ _ _ _ _ _ W') (HR3.out.s10 (recC (rcK z) ra0)) (fun W4 hR4 => ?_)
            have HR4 := Lib.hid hR4
            clear hR4
            ((try simp only [List.getElem_toArray, List.getElem_cons_succ, List.getElem_cons_zero]); (try simp only [Act.put, List.setIfInBounds_toArray, List.set_cons_zero, List.set_cons_succ]))
            refine wpAnyH_ready (rs := [6]) (by kernel_rfl) (by simp) ?_
            refine AllReadyH.cons rfl (fun K hK => ?_) AllReadyH.nil
            · go_simp
              refine hK.out _ _ trivial (fun hHeld2 => ?_)
              clear hK K hHeld
              have hHeld := hHeld2
              clear hHeld2
              refine gen_world (R := fun W' => RG w W' g (bytes s2) _ _ _ _) (P := fun W' => wpAnyH _ _ _ _ _ _ _ _ W') (HR4.out.c6g) (fun W5 hR5 => ?_)
              have HR5 := Lib.hid hR5
              clear hR5
              ((try simp only [List.getElem_toArray, List.getElem_cons_succ, List.getElem_cons_zero]); (try simp only [Act.put, List.setIfInBounds_toArray, List.set_cons_zero, List.set_cons_succ]))
              refine wpAnyH_ready (rs := [11]) (by kernel_rfl) (by simp) ?_
              refine AllReadyH.cons rfl (fun K hK => ?_) AllReadyH.nil
              · have q1 := (HR5.out.b8 _ _ rfl).1.cell 0
                have q2 := (HR5.out.b8 _ _ rfl).1.frozen 0
                go_simp
                refine hK.out _ _ trivial (fun hHeld2 => ?_)
                clear hK K hHeld
                have hHeld := hHeld2
                clear hHeld2
                refine gen_world (R := fun W' => RG w W' g (bytes s2) _ _ _ _) (P := fun W' => wpAnyH _ _ _ _ _ _ _ _ W') (HR5.out.s11 _) (fun W6 hR6 => ?_)
                have HR6 := Lib.hid hR6
                clear hR6
                ((try simp only [List.getElem_toArray, List.getElem_cons_succ, List.getElem_cons_zero]); (try simp only [Act.put, List.setIfInBounds_toArray, List.set_cons_zero, List.set_cons_succ]))
                refine wpAnyH_ready (rs := [12]) (by kernel_rfl) (by simp) ?_
                refine AllReadyH.cons rfl (fun K hK => ?_) AllReadyH.nil
                · have q1 := (HR6.out.b9 _ rfl).1.cell 0
                  have q2 := (HR6.out.b9 _ rfl).1.frozen 0
                  go_simp
                  refine hK.out _ _ trivial (fun hHeld2 => ?_)
                  clear hK K hHeld
                  have hHeld := hHeld2
                  clear hHeld2
                  refine gen_world (R := fun W' => RG w W' g (bytes s2) _ _ _ _) (P := fun W' => wpAnyH _ _ _ _ _ _ _ _ W') (HR6.out.s12) (fun W7 hR7 => ?_)
                  have HR7 := Lib.hid hR7
                  clear hR7
                  ((try simp only [List.getElem_toArray, List.getElem_cons_succ, List.getElem_cons_zero]); (try simp only [Act.put, List.setIfInBounds_toArray, List.set_cons_zero, List.set_cons_succ]))
                  refine wpAnyH_done (by kernel_rfl) ?_ _
                  go_wp2_with fail
                  go_meet
                  case rel => exact ⟨_, _, _, _, _, rfl, rfl, rfl, HR7.out⟩
    · go_simp
      refine hK.out _ _ trivial (fun hHeld2 => ?_)
      clear hK K hHeld
      have hHeld := hHeld2
      clear hHeld2
      refine gen_world (R := fun W' => RG w W' g (bytes s2) _ _ _ _) (P := fun W' => wpAnyH _ _ _ _ _ _ _ _ W') (HR0.out.a9) (fun W1 hR1 => ?_)
      have HR1 := Lib.hid hR1
      clear hR1
      ((try simp only [List.getElem_toArray, List.getElem_cons_succ, List.getElem_cons_zero]); (try simp only [Act.put, List.setIfInBounds_toArray, List.set_cons_zero, List.set_cons_succ]))
      refine wpAnyH_ready (rs := [6, 7, 8]) (by kernel_rfl) (by simp) ?_
      refine AllReadyH.cons rfl (fun K hK => ?_) (AllReadyH.cons rfl (fun K hK => ?_) (AllReadyH.cons rfl (fun K hK => ?_) AllReadyH.nil))
      · go_simp
        refine hK.out _ _ trivial (fun hHeld2 => ?_)
        clear hK K hHeld
        have hHeld := hHeld2
        clear hHeld2
        refine gen_world (R := fun W' => RG w W' g (bytes s2) _ _ _ _) (P := fun W' => wpAnyH _ _ _ _ _ _ _ _ W') (HR1.out.c6g) (fun W2 hR2 => ?_)
        have HR2 := Lib.hid hR2
        clear hR2
        ((try simp only [List.getElem_toArray, List.getElem_cons_succ, List.getElem_cons_zero]); (try simp only [Act.put, List.setIfInBounds_toArray, List.set_cons_zero, List.set_cons_succ]))
        refine wpAnyH_ready (rs := [7, 8]) (by kernel_rfl) (by simp) ?_
        refine AllReadyH.cons rfl (fun K hK => ?_) (AllReadyH.cons rfl (fun K hK => ?_) AllReadyH.nil)
        · go_simp
          refine hK.out _ _ trivial (fun hHeld2 => ?_)
          clear hK K hHeld
          have hHeld := hHeld2
          clear hHeld2
          refine gen_world (R := fun W' => RG w W' g (bytes s2) _ _ _ _) (P := fun W' => wpAnyH _ _ _ _ _ _ _ _ W') (HR2.out.a7 (recC rc0 ra0)) (fun W3 hR3 => ?_)
          have HR3 := Lib.hid hR3
          clear hR3
          ((try simp only [List.getElem_toArray, List.getElem_cons_succ, List.getElem_cons_zero]); (try simp only [Act.put, List.setIfInBounds_toArray, List.set_cons_zero, List.set_cons_succ]))
          refine wpAnyH_ready (rs := [8]) (by kernel_rfl) (by simp) ?_
          refine AllReadyH.cons rfl (fun K hK => ?_) AllReadyH.nil
          · go_simp
            refine hK.out _ _ trivial (fun hHeld2 => ?_)
            clear hK K hHeld
            have hHeld := hHeld2
            clear hHeld2
            refine gen_world (R := fun W' => RG w W' g (bytes s2) _ _ _ _) (P := fun W' => wpAnyH _ _ _ _ _ _ _ _ W') (HR3.out.a8 (.slice none 0 0)) (fun W4 hR4 => ?_)
            have HR4 := Lib.hid hR4
            clear hR4
            ((try simp only [List.getElem_toArray, List.getElem_cons_succ, List.getElem_cons_zero]); (try simp only [Act.put, List.setIfInBounds_toArray, List.set_cons_zero, List.set_cons_succ]))
            refine wpAnyH_ready (rs := [10]) (by kernel_rfl) (by simp) ?_
            refine AllReadyH.cons rfl (fun K hK => ?_) AllReadyH.nil
            · refine step_store_row rfl 48 _ _ rfl _ (recC (rcK z) ra0) rfl rfl 48 (recC rc0 ra0) (HR4.out.b7 _ _ rfl).1 info_Rec rfl (recC_one _ _) ?_
              refine hK.out _ _ trivial (fun hHeld2 => ?_)
              clear hK K hHeld
              have hHeld := hHeld2
              clear hHeld2
              refine gen_world (R := fun W' => RG w W' g (bytes s2) _ _ _ _) (P := fun W' => wpAnyH _ _ _ _ _ _ _ _ W') (HR4.out.s10 (recC (rcK z) ra0)) (fun W5 hR5 => ?_)
              have HR5 := Lib.hid hR5
              clear hR5
              ((try simp only [List.getElem_toArray, List.getElem_cons_succ, List.getElem_cons_zero]); (try simp only [Act.put, List.setIfInBounds_toArray, List.set_cons_zero, List.set_cons_succ]))
              refine wpAnyH_ready (rs := [11]) (by kernel_rfl) (by simp) ?_
              refine AllReadyH.cons rfl (fun K hK => ?_) AllReadyH.nil
              · have q1 := (HR5.out.b8 _ _ rfl).1.cell 0
                have q2 := (HR5.out.b8 _ _ rfl).1.frozen 0
                go_simp
                refine hK.out _ _ trivial (fun hHeld2 => ?_)
                clear hK K hHeld
                have hHeld := hHeld2
                clear hHeld2
                refine gen_world (R := fun W' => RG w W' g (bytes s2) _ _ _ _) (P := fun W' => wpAnyH _ _ _ _ _ _ _ _ W') (HR5.out.s11 _) (fun W6 hR6 => ?_)
                have HR6 := Lib.hid hR6
                clear hR6
                ((try simp only [List.getElem_toArray, List.getElem_cons_succ, List.getElem_cons_zero]); (try simp only [Act.put, List.setIfInBounds_toArray, List.set_cons_zero, List.set_cons_succ]))
                refine wpAnyH_ready (rs := [12]) (by kernel_rfl) (by simp) ?_
                refine AllReadyH.cons rfl (fun K hK => ?_) AllReadyH.nil
                · have q1 := (HR6.out.b9 _ rfl).1.cell 0
                  have q2 := (HR6.out.b9 _ rfl).1.frozen 0
                  go_simp
                  refine hK.out _ _ trivial (fun hHeld2 => ?_)
                  clear hK K hHeld
                  have hHeld := hHeld2
                  clear hHeld2
                  refine gen_world (R := fun W' => RG w W' g (bytes s2) _ _ _ _) (P := fun W' => wpAnyH _ _ _ _ _ _ _ _ W') (HR6.out.s12) (fun W7 hR7 => ?_)
                  have HR7 := Lib.hid hR7
                  clear hR7
                  ((try simp only [List.getElem_toArray, List.getElem_cons_succ, List.getElem_cons_zero]); (try simp only [Act.put, List.setIfInBounds_toArray, List.set_cons_zero, List.set_cons_succ]))
                  refine wpAnyH_done (by kernel_rfl) ?_ _
                  go_wp2_with fail
                  go_meet
                  case rel => exact ⟨_, _, _, _, _, rfl, rfl, rfl, HR7.out⟩
        · go_simp
          refine hK.out _ _ trivial (fun hHeld2 => ?_)
          clear hK K hHeld
          have hHeld := hHeld2
          clear hHeld2
          refine gen_world (R := fun W' => RG w W' g (bytes s2) _ _ _ _) (P := fun W' => wpAnyH _ _ _ _ _ _ _ _ W') (HR2.out.a8 (.slice none 0 0)) (fun W3 hR3 => ?_)
          have HR3 := Lib.hid hR3
          clear hR3
          ((try simp only [List.getElem_toArray, List.getElem_cons_succ, List.getElem_cons_zero]); (try simp only [Act.put, List.setIfInBounds_toArray, List.set_cons_zero, List.set_cons_succ]))
          refine wpAnyH_ready (rs := [7]) (by kernel_rfl) (by simp) ?_
          refine AllReadyH.cons rfl (fun K hK => ?_) AllReadyH.nil
          · go_simp
            refine hK.out _ _ trivial (fun hHeld2 => ?_)
            clear hK K hHeld
            have hHeld := hHeld2
            clear hHeld2
            refine gen_world (R := fun W' => RG w W' g (bytes s2) _ _ _ _) (P := fun W' => wpAnyH _ _ _ _ _ _ _ _ W') (HR3.out.a7 (recC rc0 ra0)) (fun W4 hR4 => ?_)
            have HR4 := Lib.hid hR4
            clear hR4
            ((try simp only [List.getElem_toArray, List.getElem_cons_succ, List.getElem_cons_zero]); (try simp only [Act.put, List.setIfInBounds_toArray, List.set_cons_zero, List.set_cons_succ]))
            refine wpAnyH_ready (rs := [10]) (by kernel_rfl) (by simp) ?_
            refine AllReadyH.cons rfl (fun K hK => ?_) AllReadyH.nil
            · refine step_store_row rfl 48 _ _ rfl _ (recC (rcK z) ra0) rfl rfl 48 (recC rc0 ra0) (HR4.out.b7 _ _ rfl).1 info_Rec rfl (recC_one _ _) ?_
              refine hK.out _ _ trivial (fun hHeld2 => ?_)
              clear hK K hHeld
              have hHeld := hHeld2
              clear hHeld2
              refine gen_world (R := fun W' => RG w W' g (bytes s2) _ _ _ _) (P := fun W' => wpAnyH _ _ _ _ _ _ _ _ W') (HR4.out.s10 (recC (rcK z) ra0)) (fun W5 hR5 => ?_)
              have HR5 := Lib.hid hR5
              clear hR5
              ((try simp only [List.getElem_toArray, List.getElem_cons_succ, List.getElem_cons_zero]); (try simp only [Act.put, List.setIfInBounds_toArray, List.set_cons_zero, List.set_cons_succ]))
              refine wpAnyH_ready (rs := [11]) (by kernel_rfl) (by simp) ?_
              refine AllReadyH.cons rfl (fun K hK => ?_) AllReadyH.nil
              · have q1 := (HR5.out.b8 _ _ rfl).1.cell 0
                have q2 := (HR5.out.b8 _ _ rfl).1.frozen 0
                go_simp
                refine hK.out _ _ trivial (fun hHeld2 => ?_)
                clear hK K hHeld
                have hHeld := hHeld2
                clear hHeld2
                refine gen_world (R := fun W' => RG w W' g (bytes s2) _ _ _ _) (P := fun W' => wpAnyH _ _ _ _ _ _ _ _ W') (HR5.out.s11 _) (fun W6 hR6 => ?_)
                have HR6 := Lib.hid hR6
                clear hR6
                ((try simp only [List.getElem_toArray, List.getElem_cons_succ, List.getElem_cons_zero]); (try simp only [Act.put, List.setIfInBounds_toArray, List.set_cons_zero, List.set_cons_succ]))
                refine wpAnyH_ready (rs := [12]) (by kernel_rfl) (by simp) ?_
                refine AllReadyH.cons rfl (fun K hK => ?_) AllReadyH.nil
                · have q1 := (HR6.out.b9 _ rfl).1.cell 0
                  have q2 := (HR6.out.b9 _ rfl).1.frozen 0
                  go_simp
                  refine hK.out _ _ trivial (fun hHeld2 => ?_)
                  clear hK K hHeld
                  have hHeld := hHeld2
                  clear hHeld2
                  refine gen_world (R := fun W' => RG w W' g (bytes s2) _ _ _ _) (P := fun W' => wpAnyH _ _ _ _ _ _ _ _ W') (HR6.out.s12) (fun W7 hR7 => ?_)
                  have HR7 := Lib.hid hR7
                  clear hR7
                  ((try simp only [List.getElem_toArray, List.getElem_cons_succ, List.getElem_cons_zero]); (try simp only [Act.put, List.setIfInBounds_toArray, List.set_cons_zero, List.set_cons_succ]))
                  refine wpAnyH_done (by kernel_rfl) ?_ _
                  go_wp2_with fail
                  go_meet
                  case rel => exact ⟨_, _, _, _, _, rfl, rfl, rfl, HR7.out⟩
      · go_simp
        refine hK.out _ _ trivial (fun hHeld2 => ?_)
        clear hK K hHeld
        have hHeld := hHeld2
        clear hHeld2
        refine gen_world (R := fun W' => RG w W' g (bytes s2) _ _ _ _) (P := fun W' => wpAnyH _ _ _ _ _ _ _ _ W') (HR1.out.a7 (recC rc0 ra0)) (fun W2 hR2 => ?_)
        have HR2 := Lib.hid hR2
        clear hR2
        ((try simp only [List.getElem_toArray, List.getElem_cons_succ, List.getElem_cons_zero]); (try simp only [Act.put, List.setIfInBounds_toArray, List.set_cons_zero, List.set_cons_succ]))
        refine wpAnyH_ready (rs := [6, 8]) (by kernel_rfl) (by simp) ?_
        refine AllReadyH.cons rfl (fun K hK => ?_) (AllReadyH.cons rfl (fun K hK => ?_) AllReadyH.nil)
        · go_simp
          refine hK.out _ _ trivial (fun hHeld2 => ?_)
          clear hK K hHeld
          have hHeld := hHeld2
          clear hHeld2
          refine gen_world (R := fun W' => RG w W' g (bytes s2) _ _ _ _) (P := fun W' => wpAnyH _ _ _ _ _ _ _ _ W') (HR2.out.c6g) (fun W3 hR3 => ?_)
          have HR3 := Lib.hid hR3
          clear hR3
          ((try simp only [List.getElem_toArray, List.getElem_cons_succ, List.getElem_cons_zero]); (try simp only [Act.put, List.setIfInBounds_toArray, List.set_cons_zero, List.set_cons_succ]))
          refine wpAnyH_ready (rs := [8]) (by kernel_rfl) (by simp) ?_
          refine AllReadyH.cons rfl (fun K hK => ?_) AllReadyH.nil
          · go_simp
            refine hK.out _ _ trivial (fun hHeld2 => ?_)
            clear hK K hHeld
            have hHeld := hHeld2
            clear hHeld2
            refine gen_world (R := fun W' => RG w W' g (bytes s2) _ _ _ _) (P := fun W' => wpAnyH _ _ _ _ _ _ _ _ W') (HR3.out.a8 (.slice none 0 0)) (fun W4 hR4 => ?_)
            have HR4 := Lib.hid hR4
            clear hR4
            ((try simp only [List.getElem_toArray, List.getElem_cons_succ, List.getElem_cons_zero]); (try simp only [Act.put, List.setIfInBounds_toArray, List.set_cons_zero, List.set_cons_succ]))
            refine wpAnyH_ready (rs := [10]) (by kernel_rfl) (by simp) ?_
            refine AllReadyH.cons rfl (fun K hK => ?_) AllReadyH.nil
            · refine step_store_row rfl 48 _ _ rfl _ (recC (rcK z) ra0) rfl rfl 48 (recC rc0 ra0) (HR4.out.b7 _ _ rfl).1 info_Rec rfl (recC_one _ _) ?_
              refine hK.out _ _ trivial (fun hHeld2 => ?_)
              clear hK K hHeld
              have hHeld := hHeld2
              clear hHeld2
              refine gen_world (R := fun W' => RG w W' g (bytes s2) _ _ _ _) (P := fun W' => wpAnyH _ _ _ _ _ _ _ _ W') (HR4.out.s10 (recC (rcK z) ra0)) (fun W5 hR5 => ?_)
              have HR5 := Lib.hid hR5
              clear hR5
              ((try simp only [List.getElem_toArray, List.getElem_cons_succ, List.getElem_cons_zero]); (try simp only [Act.put, List.setIfInBounds_toArray, List.set_cons_zero, List.set_cons_succ]))
              refine wpAnyH_ready (rs := [11]) (by kernel_rfl) (by simp) ?_
              refine AllReadyH.cons rfl (fun K hK => ?_) AllReadyH.nil
              · have q1 := (HR5.out.b8 _ _ rfl).1.cell 0
                have q2 := (HR5.out.b8 _ _ rfl).1.frozen 0
                go_simp
                refine hK.out _ _ trivial (fun hHeld2 => ?_)
                clear hK K hHeld
                have hHeld := hHeld2
                clear hHeld2
                refine gen_world (R := fun W' => RG w W' g (bytes s2) _ _ _ _) (P := fun W' => wpAnyH _ _ _ _ _ _ _ _ W') (HR5.out.s11 _) (fun W6 hR6 => ?_)
                have HR6 := Lib.hid hR6
                clear hR6
                ((try simp only [List.getElem_toArray, List.getElem_cons_succ, List.getElem_cons_zero]); (try simp only [Act.put, List.setIfInBounds_toArray, List.set_cons_zero, List.set_cons_succ]))
                refine wpAnyH_ready (rs := [12]) (by kernel_rfl) (by simp) ?_
                refine AllReadyH.cons rfl (fun K hK => ?_) AllReadyH.nil
                · have q1 := (HR6.out.b9 _ rfl).1.cell 0
                  have q2 := (HR6.out.b9 _ rfl).1.frozen 0
                  go_simp
                  refine hK.out _ _ trivial (fun hHeld2 => ?_)
                  clear hK K hHeld
                  have hHeld := hHeld2
                  clear hHeld2
                  refine gen_world (R := fun W' => RG w W' g (bytes s2) _ _ _ _) (P := fun W' => wpAnyH _ _ _ _ _ _ _ _ W') (HR6.out.s12) (fun W7 hR7 => ?_)
                  have HR7 := Lib.hid hR7
                  clear hR7
                  ((try simp only [List.getElem_toArray, List.getElem_cons_succ, List.getElem_cons_zero]); (try simp only [Act.put, List.setIfInBounds_toArray, List.set_cons_zero, List.set_cons_succ]))
                  refine wpAnyH_done (by kernel_rfl) ?_ _
                  go_wp2_with fail
                  go_meet
                  case rel => exact ⟨_, _, _, _, _, rfl, rfl, rfl, HR7.out⟩
        · go_simp
          refine hK.out _ _ trivial (fun hHeld2 => ?_)
          clear hK K hHeld
          have hHeld := hHeld2
          clear hHeld2
          refine gen_world (R := fun W' => RG w W' g (bytes s2) _ _ _ _) (P := fun W' => wpAnyH _ _ _ _ _ _ _ _ W') (HR2.out.a8 (.slice none 0 0)) (fun W3 hR3 => ?_)
          have HR3 := Lib.hid hR3
          clear hR3
          ((try simp only [List.getElem_toArray, List.getElem_cons_succ, List.getElem_cons_zero]); (try simp only [Act.put, List.setIfInBounds_toArray, List.set_cons_zero, List.set_cons_succ]))
          refine wpAnyH_ready (rs := [6, 10]) (by kernel_rfl) (by simp) ?_
          refine AllReadyH.cons rfl (fun K hK => ?_) (AllReadyH.cons rfl (fun K hK => ?_) AllReadyH.nil)
          · go_simp
            refine hK.out _ _ trivial (fun hHeld2 => ?_)
            clear hK K hHeld
            have hHeld := hHeld2
            clear hHeld2
            refine gen_world (R := fun W' => RG w W' g (bytes s2) _ _ _ _) (P := fun W' => wpAnyH _ _ _ _ _ _ _ _ W') (HR3.out.c6g) (fun W4 hR4 => ?_)
            have HR4 := Lib.hid hR4
            clear hR4
            ((try simp only [List.getElem_toArray, List.getElem_cons_succ, List.getElem_cons_zero]); (try simp only [Act.put, List.setIfInBounds_toArray, List.set_cons_zero, List.set_cons_succ]))
            refine wpAnyH_ready (rs := [10]) (by kernel_rfl) (by simp) ?_
            refine AllReadyH.cons rfl (fun K hK => ?_) AllReadyH.nil
            · refine step_store_row rfl 48 _ _ rfl _ (recC (rcK z) ra0) rfl rfl 48 (recC rc0 ra0) (HR4.out.b7 _ _ rfl).1 info_Rec rfl (recC_one _ _) ?_
              refine hK.out _ _ trivial (fun hHeld2 => ?_)
              clear hK K hHeld
              have hHeld := hHeld2
              clear hHeld2
              refine gen_world (R := fun W' => RG w W' g (bytes s2) _ _ _ _) (P := fun W' => wpAnyH _ _ _ _ _ _ _ _ W') (HR4.out.s10 (recC (rcK z) ra0)) (fun W5 hR5 => ?_)
              have HR5 := Lib.hid hR5
              clear hR5
              ((try simp only [List.getElem_toArray, List.getElem_cons_succ, List.getElem_cons_zero]); (try simp only [Act.put, List.setIfInBounds_toArray, List.set_cons_zero, List.set_cons_succ]))
              refine wpAnyH_ready (rs := [11]) (by kernel_rfl) (by simp) ?_
              refine AllReadyH.cons rfl (fun K hK => ?_) AllReadyH.nil
              · have q1 := (HR5.out.b8 _ _ rfl).1.cell 0
                have q2 := (HR5.out.b8 _ _ rfl).1.frozen 0
                go_simp
                refine hK.out _ _ trivial (fun hHeld2 => ?_)
                clear hK K hHeld
                have hHeld := hHeld2
                clear hHeld2
                refine gen_world (R := fun W' => RG w W' g (bytes s2) _ _ _ _) (P := fun W' => wpAnyH _ _ _ _ _ _ _ _ W') (HR5.out.s11 _) (fun W6 hR6 => ?_)
                have HR6 := Lib.hid hR6
                clear hR6
                ((try simp only [List.getElem_toArray, List.getElem_cons_succ, List.getElem_cons_zero]); (try simp only [Act.put, List.setIfInBounds_toArray, List.set_cons_zero, List.set_cons_succ]))
                refine wpAnyH_ready (rs := [12]) (by kernel_rfl) (by simp) ?_
                refine AllReadyH.cons rfl (fun K hK => ?_) AllReadyH.nil
                · have q1 := (HR6.out.b9 _ rfl).1.cell 0
                  have q2 := (HR6.out.b9 _ rfl).1.frozen 0
                  go_simp
                  refine hK.out _ _ trivial (fun hHeld2 => ?_)
                  clear hK K hHeld
                  have hHeld := hHeld2
                  clear hHeld2
                  refine gen_world (R := fun W' => RG w W' g (bytes s2) _ _ _ _) (P := fun W' => wpAnyH _ _ _ _ _ _ _ _ W') (HR6.out.s12) (fun W7 hR7 => ?_)
                  have HR7 := Lib.hid hR7
                  clear hR7
                  ((try simp only [List.getElem_toArray, List.getElem_cons_succ, List.getElem_cons_zero]); (try simp only [Act.put, List.setIfInBounds_toArray, List.set_cons_zero, List.set_cons_succ]))
                  refine wpAnyH_done (by kernel_rfl) ?_ _
                  go_wp2_with fail
                  go_meet
                  case rel => exact ⟨_, _, _, _, _, rfl, rfl, rfl, HR7.out⟩
          · refine step_store_row rfl 48 _ _ rfl _ (recC (rcK z) ra0) rfl rfl 48 (recC rc0 ra0) (HR3.out.b7 _ _ rfl).1 info_Rec rfl (recC_one _ _) ?_
            refine hK.out _ _ trivial (fun hHeld2 => ?_)
            clear hK K hHeld
            have hHeld := hHeld2
            clear hHeld2
            refine gen_world (R := fun W' => RG w W' g (bytes s2) _ _ _ _) (P := fun W' => wpAnyH _ _ _ _ _ _ _ _ W') (HR3.out.s10 (recC (rcK z) ra0)) (fun W4 hR4 => ?_)
            have HR4 := Lib.hid hR4
            clear hR4
            ((try simp only [List.getElem_toArray, List.getElem_cons_succ, List.getElem_cons_zero]); (try simp only [Act.put, List.setIfInBounds_toArray, List.set_cons_zero, List.set_cons_succ]))
            refine wpAnyH_ready (rs := [6]) (by kernel_rfl) (by simp) ?_
            refine AllReadyH.cons rfl (fun K hK => ?_) AllReadyH.nil
            · go_simp
              refine hK.out _ _ trivial (fun hHeld2 => ?_)
              clear hK K hHeld
              have hHeld := hHeld2
              clear hHeld2
              refine gen_world (R := fun W' => RG w W' g (bytes s2) _ _ _ _) (P := fun W' => wpAnyH _ _ _ _ _ _ _ _ W') (HR4.out.c6g) (fun W5 hR5 => ?_)
              have HR5 := Lib.hid hR5
              clear hR5
              ((try simp only [List.getElem_toArray, List.getElem_cons_succ, List.getElem_cons_zero]); (try simp only [Act.put, List.setIfInBounds_toArray, List.set_cons_zero, List.set_cons_succ]))
              refine wpAnyH_ready (rs := [11]) (by kernel_rfl) (by simp) ?_
              refine AllReadyH.cons rfl (fun K hK => ?_) AllReadyH.nil
              · have q1 := (HR5.out.b8 _ _ rfl).1.cell 0
                have q2 := (HR5.out.b8 _ _ rfl).1.frozen 0
                go_simp
                refine hK.out _ _ trivial (fun hHeld2 => ?_)
                clear hK K hHeld
                have hHeld := hHeld2
                clear hHeld2
                refine gen_world (R := fun W' => RG w W' g (bytes s2) _ _ _ _) (P := fun W' => wpAnyH _ _ _ _ _ _ _ _ W') (HR5.out.s11 _) (fun W6 hR6 => ?_)
                have HR6 := Lib.hid hR6
                clear hR6
                ((try simp only [List.getElem_toArray, List.getElem_cons_succ, List.getElem_cons_zero]); (try simp only [Act.put, List.setIfInBounds_toArray, List.set_cons_zero, List.set_cons_succ]))
                refine wpAnyH_ready (rs := [12]) (by kernel_rfl) (by simp) ?_
                refine AllReadyH.cons rfl (fun K hK => ?_) AllReadyH.nil
                · have q1 := (HR6.out.b9 _ rfl).1.cell 0
                  have q2 := (HR6.out.b9 _ rfl).1.frozen 0
                  go_simp
                  refine hK.out _ _ trivial (fun hHeld2 => ?_)
                  clear hK K hHeld
                  have hHeld := hHeld2
                  clear hHeld2
                  refine gen_world (R := fun W' => RG w W' g (bytes s2) _ _ _ _) (P := fun W' => wpAnyH _ _ _ _ _ _ _ _ W') (HR6.out.s12) (fun W7 hR7 => ?_)
                  have HR7 := Lib.hid hR7
                  clear hR7
                  ((try simp only [List.getElem_toArray, List.getElem_cons_succ, List.getElem_cons_zero]); (try simp only [Act.put, List.setIfInBounds_toArray, List.set_cons_zero, List.set_cons_succ]))
                  refine wpAnyH_done (by kernel_rfl) ?_ _
                  go_wp2_with fail
                  go_meet
                  case rel => exact ⟨_, _, _, _, _, rfl, rfl, rfl, HR7.out⟩
      · go_simp
        refine hK.out _ _ trivial (fun hHeld2 => ?_)
        clear hK K hHeld
        have hHeld := hHeld2
        clear hHeld2
        refine gen_world (R := fun W' => RG w W' g (bytes s2) _ _ _ _) (P := fun W' => wpAnyH _ _ _ _ _ _ _ _ W') (HR1.out.a8 (.slice none 0 0)) (fun W2 hR2 => ?_)
        have HR2 := Lib.hid hR2
        clear hR2
        ((try simp only [List.getElem_toArray, List.getElem_cons_succ, List.getElem_cons_zero]); (try simp only [Act.put, List.setIfInBounds_toArray, List.set_cons_zero, List.set_cons_succ]))
        refine wpAnyH_ready (rs := [6, 7]) (by kernel_rfl) (by simp) ?_
        refine AllReadyH.cons rfl (fun K hK => ?_) (AllReadyH.cons rfl (fun K hK => ?_) AllReadyH.nil)
        · go_simp
          refine hK.out _ _ trivial (fun hHeld2 => ?_)
          clear hK K hHeld
          have hHeld := hHeld2
          clear hHeld2
          refine gen_world (R := fun W' => RG w W' g (bytes s2) _ _ _ _) (P := fun W' => wpAnyH _ _ _ _ _ _ _ _ W') (HR2.out.c6g) (fun W3 hR3 => ?_)
          have HR3 := Lib.hid hR3
          clear hR3
          ((try simp only [List.getElem_toArray, List.getElem_cons_succ, List.getElem_cons_zero]); (try simp only [Act.put, List.setIfInBounds_toArray, List.set_cons_zero, List.set_cons_succ]))
          refine wpAnyH_ready (rs := [7]) (by kernel_rfl) (by simp) ?_
          refine AllReadyH.cons rfl (fun K hK => ?_) AllReadyH.nil
          · go_simp
            refine hK.out _ _ trivial (fun hHeld2 => ?_)
            clear hK K hHeld
            have hHeld := hHeld2
            clear hHeld2
            refine gen_world (R := fun W' => RG w W' g (bytes s2) _ _ _ _) (P := fun W' => wpAnyH _ _ _ _ _ _ _ _ W') (HR3.out.a7 (recC rc0 ra0)) (fun W4 hR4 => ?_)
            have HR4 := Lib.hid hR4
            clear hR4
            ((try simp only [List.getElem_toArray, List.getElem_cons_succ, List.getElem_cons_zero]); (try simp only [Act.put, List.setIfInBounds_toArray, List.set_cons_zero, List.set_cons_succ]))
            refine wpAnyH_ready (rs := [10]) (by kernel_rfl) (by simp) ?_
            refine AllReadyH.cons rfl (fun K hK => ?_) AllReadyH.nil
            · refine step_store_row rfl 48 _ _ rfl _ (recC (rcK z) ra0) rfl rfl 48 (recC rc0 ra0) (HR4.out.b7 _ _ rfl).1 info_Rec rfl (recC_one _ _) ?_
              refine hK.out _ _ trivial (fun hHeld2 => ?_)
              clear hK K hHeld
              have hHeld := hHeld2
              clear hHeld2
              refine gen_world (R := fun W' => RG w W' g (bytes s2) _ _ _ _) (P := fun W' => wpAnyH _ _ _ _ _ _ _ _ W') (HR4.out.s10 (recC (rcK z) ra0)) (fun W5 hR5 => ?_)
              have HR5 := Lib.hid hR5
              clear hR5
              ((try simp only [List.getElem_toArray, List.getElem_cons_succ, List.getElem_cons_zero]); (try simp only [Act.put, List.setIfInBounds_toArray, List.set_cons_zero, List.set_cons_succ]))
              refine wpAnyH_ready (rs := [11]) (by kernel_rfl) (by simp) ?_
              refine AllReadyH.cons rfl (fun K hK => ?_) AllReadyH.nil
              · have q1 := (HR5.out.b8 _ _ rfl).1.cell 0
                have q2 := (HR5.out.b8 _ _ rfl).1.frozen 0
                go_simp
                refine hK.out _ _ trivial (fun hHeld2 => ?_)
                clear hK K hHeld
                have hHeld := hHeld2
                clear hHeld2
                refine gen_world (R := fun W' => RG w W' g (bytes s2) _ _ _ _) (P := fun W' => wpAnyH _ _ _ _ _ _ _ _ W') (HR5.out.s11 _) (fun W6 hR6 => ?_)
                have HR6 := Lib.hid hR6
                clear hR6
                ((try simp only [List.getElem_toArray, List.getElem_cons_succ, List.getElem_cons_zero]); (try simp only [Act.put, List.setIfInBounds_toArray, List.set_cons_zero, List.set_cons_succ]))
                refine wpAnyH_ready (rs := [12]) (by kernel_rfl) (by simp) ?_
                refine AllReadyH.cons rfl (fun K hK => ?_) AllReadyH.nil
                · have q1 := (HR6.out.b9 _ rfl).1.cell 0
                  have q2 := (HR6.out.b9 _ rfl).1.frozen 0
                  go_simp
                  refine hK.out _ _ trivial (fun hHeld2 => ?_)
                  clear hK K hHeld
                  have hHeld := hHeld2
                  clear hHeld2
                  refine gen_world (R := fun W' => RG w W' g (bytes s2) _ _ _ _) (P := fun W' => wpAnyH _ _ _ _ _ _ _ _ W') (HR6.out.s12) (fun W7 hR7 => ?_)
                  have HR7 := Lib.hid hR7
                  clear hR7
                  ((try simp only [List.getElem_toArray, List.getElem_cons_succ, List.getElem_cons_zero]); (try simp only [Act.put, List.setIfInBounds_toArray, List.set_cons_zero, List.set_cons_succ]))
                  refine wpAnyH_done (by kernel_rfl) ?_ _
                  go_wp2_with fail
                  go_meet
                  case rel => exact ⟨_, _, _, _, _, rfl, rfl, rfl, HR7.out⟩
        · go_simp
          refine hK.out _ _ trivial (fun hHeld2 => ?_)
          clear hK K hHeld
          have hHeld := hHeld2
          clear hHeld2
          refine gen_world (R := fun W' => RG w W' g (bytes s2) _ _ _ _) (P := fun W' => wpAnyH _ _ _ _ _ _ _ _ W') (HR2.out.a7 (recC rc0 ra0)) (fun W3 hR3 => ?_)
          have HR3 := Lib.hid hR3
          clear hR3
          ((try simp only [List.getElem_toArray, List.getElem_cons_succ, List.getElem_cons_zero]); (try simp only [Act.put, List.setIfInBounds_toArray, List.set_cons_zero, List.set_cons_succ]))
          refine wpAnyH_ready (rs := [6, 10]) (by kernel_rfl) (by simp) ?_
          refine AllReadyH.cons rfl (fun K hK => ?_) (AllReadyH.cons rfl (fun K hK => ?_) AllReadyH.nil)
          · go_simp
            refine hK.out _ _ trivial (fun hHeld2 => ?_)
            clear hK K hHeld
            have hHeld := hHeld2
            clear hHeld2
            refine gen_world (R := fun W' => RG w W' g (bytes s2) _ _ _ _) (P := fun W' => wpAnyH _ _ _ _ _ _ _ _ W') (HR3.out.c6g) (fun W4 hR4 => ?_)
            have HR4 := Lib.hid hR4
            clear hR4
            ((try simp only [List.getElem_toArray, List.getElem_cons_succ, List.getElem_cons_zero]); (try simp only [Act.put, List.setIfInBounds_toArray, List.set_cons_zero, List.set_cons_succ]))
            refine wpAnyH_ready (rs := [10]) (by kernel_rfl) (by simp) ?_
            refine AllReadyH.cons rfl (fun K hK => ?_) AllReadyH.nil
            · refine step_store_row rfl 48 _ _ rfl _ (recC (rcK z) ra0) rfl rfl 48 (recC rc0 ra0) (HR4.out.b7 _ _ rfl).1 info_Rec rfl (recC_one _ _) ?_
              refine hK.out _ _ trivial (fun hHeld2 => ?_)
              clear hK K hHeld
              have hHeld := hHeld2
              clear hHeld2
              refine gen_world (R := fun W' => RG w W' g (bytes s2) _ _ _ _) (P := fun W' => wpAnyH _ _ _ _ _ _ _ _ W') (HR4.out.s10 (recC (rcK z) ra0)) (fun W5 hR5 => ?_)
              have HR5 := Lib.hid hR5
              clear hR5
              ((try simp only [List.getElem_toArray, List.getElem_cons_succ, List.getElem_cons_zero]); (try simp only [Act.put, List.setIfInBounds_toArray, List.set_cons_zero, List.set_cons_succ]))
              refine wpAnyH_ready (rs := [11]) (by kernel_rfl) (by simp) ?_
              refine AllReadyH.cons rfl (fun K hK => ?_) AllReadyH.nil
              · have q1 := (HR5.out.b8 _ _ rfl).1.cell 0
                have q2 := (HR5.out.b8 _ _ rfl).1.frozen 0
                go_simp
                refine hK.out _ _ trivial (fun hHeld2 => ?_)
                clear hK K hHeld
                have hHeld := hHeld2
                clear hHeld2
                refine gen_world (R := fun W' => RG w W' g (bytes s2) _ _ _ _) (P := fun W' => wpAnyH _ _ _ _ _ _ _ _ W') (HR5.out.s11 _) (fun W6 hR6 => ?_)
                have HR6 := Lib.hid hR6
                clear hR6
                ((try simp only [List.getElem_toArray, List.getElem_cons_succ, List.getElem_cons_zero]); (try simp only [Act.put, List.setIfInBounds_toArray, List.set_cons_zero, List.set_cons_succ]))
                refine wpAnyH_ready (rs := [12]) (by kernel_rfl) (by simp) ?_
                refine AllReadyH.cons rfl (fun K hK => ?_) AllReadyH.nil
                · have q1 := (HR6.out.b9 _ rfl).1.cell 0
                  have q2 := (HR6.out.b9 _ rfl).1.frozen 0
                  go_simp
                  refine hK.out _ _ trivial (fun hHeld2 => ?_)
                  clear hK K hHeld
                  have hHeld := hHeld2
                  clear hHeld2
                  refine gen_world (R := fun W' => RG w W' g (bytes s2) _ _ _ _) (P := fun W' => wpAnyH _ _ _ _ _ _ _ _ W') (HR6.out.s12) (fun W7 hR7 => ?_)
                  have HR7 := Lib.hid hR7
                  clear hR7
                  ((try simp only [List.getElem_toArray, List.getElem_cons_succ, List.getElem_cons_zero]); (try simp only [Act.put, List.setIfInBounds_toArray, List.set_cons_zero, List.set_cons_succ]))
                  refine wpAnyH_done (by kernel_rfl) ?_ _
                  go_wp2_with fail
                  go_meet
                  case rel => exact ⟨_, _, _, _, _, rfl, rfl, rfl, HR7.out⟩
          · refine step_store_row rfl 48 _ _ rfl _ (recC (rcK z) ra0) rfl rfl 48 (recC rc0 ra0) (HR3.out.b7 _ _ rfl).1 info_Rec rfl (recC_one _ _) ?_
            refine hK.out _ _ trivial (fun hHeld2 => ?_)
            clear hK K hHeld
            have hHeld := hHeld2
            clear hHeld2
            refine gen_world (R := fun W' => RG w W' g (bytes s2) _ _ _ _) (P := fun W' => wpAnyH _ _ _ _ _ _ _ _ W') (HR3.out.s10 (recC (rcK z) ra0)) (fun W4 hR4 => ?_)
            have HR4 := Lib.hid hR4
            clear hR4
            ((try simp only [List.getElem_toArray, List.getElem_cons_succ, List.getElem_cons_zero]); (try simp only [Act.put, List.setIfInBounds_toArray, List.set_cons_zero, List.set_cons_succ]))
            refine wpAnyH_ready (rs := [6]) (by kernel_rfl) (by simp) ?_
            refine AllReadyH.cons rfl (fun K hK => ?_) AllReadyH.nil
            · go_simp
              refine hK.out _ _ trivial (fun hHeld2 => ?_)
              clear hK K hHeld
              have hHeld := hHeld2
              clear hHeld2
              refine gen_world (R := fun W' => RG w W' g (bytes s2) _ _ _ _) (P := fun W' => wpAnyH _ _ _ _ _ _ _ _ W') (HR4.out.c6g) (fun W5 hR5 => ?_)
              have HR5 := Lib.hid hR5
              clear hR5
              ((try simp only [List.getElem_toArray, List.getElem_cons_succ, List.getElem_cons_zero]); (try simp only [Act.put, List.setIfInBounds_toArray, List.set_cons_zero, List.set_cons_succ]))
              refine wpAnyH_ready (rs := [11]) (by kernel_rfl) (by simp) ?_
              refine AllReadyH.cons rfl (fun K hK => ?_) AllReadyH.nil
              · have q1 := (HR5.out.b8 _ _ rfl).1.cell 0
                have q2 := (HR5.out.b8 _ _ rfl).1.frozen 0
                go_simp
                refine hK.out _ _ trivial (fun hHeld2 => ?_)
                clear hK K hHeld
                have hHeld := hHeld2
                clear hHeld2
                refine gen_world (R := fun W' => RG w W' g (bytes s2) _ _ _ _) (P := fun W' => wpAnyH _ _ _ _ _ _ _ _ W') (HR5.out.s11 _) (fun W6 hR6 => ?_)
                have HR6 := Lib.hid hR6
                clear hR6
                ((try simp only [List.getElem_toArray, List.getElem_cons_succ, List.getElem_cons_zero]); (try simp only [Act.put, List.setIfInBounds_toArray, List.set_cons_zero, List.set_cons_succ]))
                refine wpAnyH_ready (rs := [12]) (by kernel_rfl) (by simp) ?_
                refine AllReadyH.cons rfl (fun K hK => ?_) AllReadyH.nil
                · have q1 := (HR6.out.b9 _ rfl).1.cell 0
                  have q2 := (HR6.out.b9 _ rfl).1.frozen 0
                  go_simp
                  refine hK.out _ _ trivial (fun hHeld2 => ?_)
                  clear hK K hHeld
                  have hHeld := hHeld2
                  clear hHeld2
                  refine gen_world (R := fun W' => RG w W' g (bytes s2) _ _ _ _) (P := fun W' => wpAnyH _ _ _ _ _ _ _ _ W') (HR6.out.s12) (fun W7 hR7 => ?_)
                  have HR7 := Lib.hid hR7
                  clear hR7
                  ((try simp only [List.getElem_toArray, List.getElem_cons_succ, List.getElem_cons_zero]); (try simp only [Act.put, List.setIfInBounds_toArray, List.set_cons_zero, List.set_cons_succ]))
                  refine wpAnyH_done (by kernel_rfl) ?_ _
                  go_wp2_with fail
                  go_meet
                  case rel => exact ⟨_, _, _, _, _, rfl, rfl, rfl, HR7.out⟩
  case rest =>
    clear HR
    obtain ⟨gr, gb, ge, b, c, rfl, rfl, rfl, hrg⟩ := hcut
    obtain ⟨r7, o7⟩ := hrg.b7 _ _ rfl
    obtain ⟨r8, o8⟩ := hrg.b8 _ _ rfl
    obtain ⟨r9, o9⟩ := hrg.b9 _ rfl
    obtain ⟨r6, o6⟩ := hrg.b6 _ _ rfl
    have hbl := bytes_length s2
    have hsl2 : s2.size ≤ 8000 := by omega
    have ho : HO g gr gb ge c (bytes s2) := ⟨o7, o8, o9, bytes_byt s2, o6, by omega⟩
    have hd0 : HD w wc g gr gb ge b c (bytes s2) (recC (rcK z) ra0).toList.toArray 0 0 := ⟨hrg.res, r7, ⟨some ⟨b, 0, none⟩, c, by rw [hbl]; exact r8, r9, (fun W h => h), Nat.zero_le _, by rw [hbl]; omega⟩, r6, hrg.bel⟩
    obtain ⟨lb, hlb⟩ : ∃ lb, bytes s2 = lb := ⟨_, rfl⟩
    rw [hlb] at ho hd0 HV
    have HO := Lib.hid ho
    have H0 := Lib.hid hd0
    have RB : Hid (Blk wc gb 75 #[.slice (some ⟨b, 0, none⟩) lb.length c]) := by
      show Blk _ _ _ _
      rw [← hlb, hbl]
      exact r8
    clear hlb hbl hsl2 o6 o7 o8 o9 r6 r7 r8 r9 hrg ho hix hsl hcv hcap6 d1 d2 h0 hs8 hl2 hd0 wz
    by_cases n1 : z = 1
    · subst n1
      have k1 : ((1 : Int) == 1) = true := by decide
      have k2 : ((1 : Int) == 2) = false := by decide
      have k3 : ((1 : Int) == 3) = false := by decide
      have k4 : ((1 : Int) == 4) = false := by decide
      have k5 : ((1 : Int) == 5) = false := by decide
      have hle := rnum_le HO.out.byt (Nat.zero_le lb.length) 0 (most := M64) (by decide)
      have hu : DD = fin lb (rnum lb 0 0 M64).2.2 (rnum lb 0 0 M64).2.1 ⟨1, 0, (rnum lb 0 0 M64).1, 0, 0, en0, sh0⟩ := HV.out
      have C := H0.out.num HO.out
      obtain ⟨⟨v5, n5, e5⟩, hr5⟩ : ∃ q, rnum lb 0 0 M64 = q := ⟨_, rfl⟩
      rw [hr5] at C hu hle
      simp only at C hu hle
      have HV3 : Hid (DD = fin lb e5 n5 ⟨1, 0, v5, 0, 0, en0, sh0⟩) := hu
      have HLE := Lib.hid hle
      have C := Lib.hid C
      clear hr5 hu hle HV
      have z0 : wc.cell? ⟨gr, 0, none⟩ = some (.int .i64 1) := H0.out.rc.cell 0
      go_wp2_with fail
      refine C.out.mono ?_
      rintro x w5 ⟨rfl, h5⟩
      have c5 : w5.cell? ⟨gr, 2, none⟩ = some (.int .u64 0) := h5.rc.cell 2
      have f5 := h5.rc.frozen 2
      have h6 := h5.set HO.out 2 (.int .u64 v5)
      clear h5 z0 H0
      go_upto_region 28 with (fail)
      generalize (w5.setCell ⟨gr, 2, none⟩ (.int .u64 v5)) = Wx at h6 ⊢
      have H := Lib.hid h6
      clear h6 c5 f5
      have HI : Hid (InR Wx ⟨1, 0, v5, 0, 0, en0, sh0⟩ ra0) := ⟨InN.nil, InSh.zero _⟩
      have HW : Hid (Rc.Wf ⟨1, 0, v5, 0, 0, en0, sh0⟩) := ⟨by show (Lit.int .i64 1).wf = true; decide, wf0, ⟨HLE.out.1, HLE.out.2.2.2⟩, wfu0, wfu0, en0_wf2, sh0_wf2⟩
      have HV := HV3
      have hres := H.out.res
      have hrc : Blk Wx gr 48 (recC (Rc.mk 1 0 v5 0 0 en0 sh0) ra0) := H.out.rc
      have hbel := H.out.bel
      obtain ⟨A9, c9, hgb, hge, hin9, hk9, hc9⟩ := H.out.rd
      have ce := hge.cell 0
      simp only [List.getElem?_toArray, List.getElem?_cons_zero] at ce
      by_cases e60 : e5 = 60
      · have q60 : (e5 == 60) = true := by rw [e60]; rfl
        have HV2 : Hid (DD = (130, rc0)) := by
          show _ = _
          rw [HV.out, fin, if_pos e60]
        go_wp2_with (refine wpList_store_row rfl 48 _ _ rfl g (recC rc0 ra0) rfl rfl 48 (recC rc0 ra0) hres info_Rec rfl (recC_one _ _) ?_)
        (try simp only [Exit.inBlock, Exit.then])
        refine bodyPost_ret (results_cell rfl rfl (run_loadVar_row _ g 48 48 _ (0, 0) _ (Blk.row (cs := recC rc0 ra0) hres) Try.underlying48 rfl info_Rec)) rfl ?_
        exact ⟨row_below hbel (Nat.le_refl _) _, ra0, by have hv := HV2.out; subst hv; rfl, by have hv := HV2.out; subst hv; exact InR.zero _⟩
      have q60 : (e5 == 60) = false := beq_eq_false_iff_ne.2 e60
      by_cases e00 : e5 = 0
      rotate_left
      · have qn : (e5 != 0) = true := bne_iff_ne.2 e00
        have HV2 : Hid (DD = (e5, rc0)) := by
          show _ = _
          rw [HV.out, fin, if_neg e60, if_pos e00]
        clear hgb hin9
        go_upto_region 31 with (fail)
        refine wp_region_held_drew (S := fun w' => w'.cell? ⟨ge, 0, none⟩ = some (.int .i64 (e5))) (by kernel_rfl) ce (fun hHeld => ?_)
        refine wpAnyH_take (i := 0) (v := ?v7) rfl (by kernel_rfl) (by kernel_rfl) (by kernel_rfl) (fun _ _ _ h => h) (Or.inl ⟨by rfl, ?y7⟩) (by assumption) ?r7
        case y7 => (intro w hSw; (try dsimp only at hSw); (try go_simp); first | done | with_reducible rfl)
        ((try simp only [List.getElem_toArray, List.getElem_cons_zero]); (try simp only [Act.put, List.setIfInBounds_toArray, List.set_cons_zero, List.set_cons_succ]))
        refine wpAnyH_take (i := 1) (v := ?v1008) rfl (by kernel_rfl) (by kernel_rfl) (by kernel_rfl) (fun _ _ _ h => h) (Or.inl ⟨by rfl, ?y1008⟩) (by assumption) ?r1008
        case y1008 => (intro w hSw; (try dsimp only at hSw); (try go_simp); first | done | with_reducible rfl)
        ((try simp only [List.getElem_toArray, List.getElem_cons_succ, List.getElem_cons_zero]); (try simp only [Act.put, List.setIfInBounds_toArray, List.set_cons_zero, List.set_cons_succ]))
        refine wpAnyH_ready (rs := [2]) (by kernel_rfl) (by simp) ?_
        refine AllReadyH.cons rfl (fun K hK => ?_) AllReadyH.nil
        refine step_store_row rfl 48 _ _ rfl g (recC rc0 ra0) rfl rfl 48 (recC rc0 ra0) hres.drew info_Rec rfl (recC_one _ _) ?_
        refine hK.out _ _ ((hge.drew.rowFar (fun e => (hres.ne_ hge (by decide)) e.symm)).cell 0) (fun hHeld2 => ?_)
        clear hK K hHeld
        have hHeld := hHeld2
        clear hHeld2
        ((try simp only [List.getElem_toArray, List.getElem_cons_succ, List.getElem_cons_zero]); (try simp only [Act.put, List.setIfInBounds_toArray, List.set_cons_zero, List.set_cons_succ]))
        refine wpAnyH_take (i := 3) (v := ?v3009) rfl (by kernel_rfl) (by kernel_rfl) (by kernel_rfl) (fun _ _ _ h => h) (Or.inl ⟨by rfl, ?y3009⟩) (by assumption) ?r3009
        case y3009 => (intro w hSw; (try dsimp only at hSw); (try go_simp); first | done | with_reducible rfl)
        ((try simp only [List.getElem_toArray, List.getElem_cons_succ, List.getElem_cons_zero]); (try simp only [Act.put, List.setIfInBounds_toArray, List.set_cons_zero, List.set_cons_succ]))
        refine wpAnyH_done (by kernel_rfl) ?_ _
        go_wp2_with fail
        (try simp only [Exit.inBlock, Exit.then])
        refine bodyPost_ret (results_cell rfl rfl (run_loadVar_row _ g 48 48 _ (0, 0) _ (Blk.row (cs := recC rc0 ra0) hres.drew) Try.underlying48 rfl info_Rec)) rfl ?_
        exact ⟨row_below hbel.drew (Nat.le_refl _) _, ra0, by have hv := HV2.out; subst hv; rfl, by have hv := HV2.out; subst hv; exact InR.zero _⟩
      have qn : (e5 != 0) = false := by rw [e00]; rfl
      obtain ⟨m9, hm9⟩ : ∃ m, lb.length - n5 = m := ⟨_, rfl⟩
      rw [hm9] at hgb
      have cb := hgb.cell 0
      simp only [List.getElem?_toArray, List.getElem?_cons_zero] at cb
      by_cases hk : n5 < lb.length
      · have dk : decide ((m9 : Int) > 0) = true := decide_eq_true (by omega)
        have HV2 : Hid (DD = (11, rc0)) := by
          show _ = _
          rw [HV.out, fin, if_neg e60, if_neg (by rw [e00]; simp), if_pos hk]
        go_wp2_with (refine wpList_store_row rfl 48 _ _ rfl g (recC rc0 ra0) rfl rfl 48 (recC rc0 ra0) hres info_Rec rfl (recC_one _ _) ?_)
        (try simp only [Exit.inBlock, Exit.then])
        refine bodyPost_ret (results_cell rfl rfl (run_loadVar_row _ g 48 48 _ (0, 0) _ (Blk.row (cs := recC rc0 ra0) hres) Try.underlying48 rfl info_Rec)) rfl ?_
        exact ⟨row_below hbel (Nat.le_refl _) _, ra0, by have hv := HV2.out; subst hv; rfl, by have hv := HV2.out; subst hv; exact InR.zero _⟩
      have dk : decide ((m9 : Int) > 0) = false := decide_eq_false (by omega)
      have CM := hard_may_any Wx (Rc.mk 1 0 v5 0 0 en0 sh0) ra0 HI.out HW.out
      have hrl := hrc.lt
      have hgl := hres.lt
      by_cases hm : (Rc.mk 1 0 v5 0 0 en0 sh0).May
      · have HV2 : Hid (DD = (0, (Rc.mk 1 0 v5 0 0 en0 sh0))) := by
          show _ = _
          rw [HV.out, fin, if_neg e60, if_neg (by rw [e00]; simp), if_neg hk, if_pos hm]
        rw [decide_eq_true hm] at CM
        unfold recV at CM
        have CM := Lib.hid CM
        go_wp2_with (refine wpList_load_row rfl 48 _ rfl gr rfl 48 (recC (Rc.mk 1 0 v5 0 0 en0 sh0) ra0) hrc _ Try.underlying48 rfl info_Rec ?_)
        refine CM.out.mono ?_
        rintro y w8 ⟨rfl, hB8⟩
        have hres8 := hres.below hB8 hgl
        have hrc8 := hrc.below hB8 hrl
        have hbel8 := hbel.trans (hB8.mono (Nat.le_of_lt hgl))
        have HI8 := Lib.hid (HI.out.keep hB8)
        clear hrc ce cb hB8
        go_wp2_with (first | (refine wpList_load_row rfl 48 _ rfl gr rfl 48 (recC (Rc.mk 1 0 v5 0 0 en0 sh0) ra0) hrc8 _ Try.underlying48 rfl info_Rec ?_) | refine wpList_store_row rfl 48 _ _ rfl g (recC (Rc.mk 1 0 v5 0 0 en0 sh0) ra0) rfl rfl 48 (recC rc0 ra0) hres8 info_Rec rfl (recC_one _ _) ?_)
        (try simp only [Exit.inBlock, Exit.then])
        refine bodyPost_ret (results_cell rfl rfl (run_loadVar_row _ g 48 48 _ (0, 0) _ (Blk.row (cs := recC (Rc.mk 1 0 v5 0 0 en0 sh0) ra0) hres8) Try.underlying48 rfl info_Rec)) rfl ?_
        exact ⟨row_below hbel8 (Nat.le_refl _) _, ra0, by have hv := HV2.out; subst hv; rfl, by have hv := HV2.out; subst hv; exact ⟨InN.nil, InSh.zero _⟩⟩
      · have HV2 : Hid (DD = (130, rc0)) := by
          show _ = _
          rw [HV.out, fin, if_neg e60, if_neg (by rw [e00]; simp), if_neg hk, if_neg hm]
        rw [decide_eq_false hm] at CM
        unfold recV at CM
        have CM := Lib.hid CM
        go_wp2_with (refine wpList_load_row rfl 48 _ rfl gr rfl 48 (recC (Rc.mk 1 0 v5 0 0 en0 sh0) ra0) hrc _ Try.underlying48 rfl info_Rec ?_)
        refine CM.out.mono ?_
        rintro y w8 ⟨rfl, hB8⟩
        have hres8 := hres.below hB8 hgl
        have hbel8 := hbel.trans (hB8.mono (Nat.le_of_lt hgl))
        clear hrc ce cb hB8
        go_wp2_with (refine wpList_store_row rfl 48 _ _ rfl g (recC rc0 ra0) rfl rfl 48 (recC rc0 ra0) hres8 info_Rec rfl (recC_one _ _) ?_)
        (try simp only [Exit.inBlock, Exit.then])
        refine bodyPost_ret (results_cell rfl rfl (run_loadVar_row _ g 48 48 _ (0, 0) _ (Blk.row (cs := recC rc0 ra0) hres8) Try.underlying48 rfl info_Rec)) rfl ?_
        exact ⟨row_below hbel8 (Nat.le_refl _) _, ra0, by have hv := HV2.out; subst hv; rfl, by have hv := HV2.out; subst hv; exact InR.zero _⟩
    by_cases n2 : z = 2
    · subst n2
      have k1 : ((2 : Int) == 1) = false := by decide
      have k2 : ((2 : Int) == 2) = true := by decide
      have k3 : ((2 : Int) == 3) = false := by decide
      have k4 : ((2 : Int) == 4) = false := by decide
      have k5 : ((2 : Int) == 5) = false := by decide
      have hle := rnum_le HO.out.byt (Nat.zero_le lb.length) 0 (most := M64) (by decide)
      have hu := HV.out
      unfold recD at hu
      rw [if_neg (by decide), if_pos rfl] at hu
      have C := H0.out.num HO.out
      obtain ⟨⟨v5, n5, e5⟩, hr5⟩ : ∃ q, rnum lb 0 0 M64 = q := ⟨_, rfl⟩
      rw [hr5] at C hu hle
      simp only at C hu hle
      have hle2 := rnum_le HO.out.byt hle.2.2.1 e5 (most := M64) (by decide)
      have C2 := fun (W2 : World) (cs : Array Value) (h : HD w W2 g gr gb ge b c lb cs n5 e5) => h.num HO.out
      obtain ⟨⟨v6, n6, e6⟩, hr6⟩ : ∃ q, rnum lb n5 e5 M64 = q := ⟨_, rfl⟩
      rw [hr6] at C2 hu hle2
      simp only at C2 hu hle2
      have HU := Lib.hid hu
      have HLE := Lib.hid hle
      have HLE2 := Lib.hid hle2
      have C := Lib.hid C
      have C2 := Lib.hid C2
      clear hr5 hr6 hu hle hle2 HV
      have z0 : wc.cell? ⟨gr, 0, none⟩ = some (.int .i64 2) := H0.out.rc.cell 0
      go_wp2_with fail
      refine C.out.mono ?_
      rintro x w5 ⟨rfl, h5⟩
      have c5 : w5.cell? ⟨gr, 3, none⟩ = some (.int .u64 0) := h5.rc.cell 3
      have f5 := h5.rc.frozen 3
      have h6 := h5.set HO.out 3 (.int .u64 v5)
      clear h5 z0 H0
      go_upto_region 15 with (fail)
      generalize (w5.setCell ⟨gr, 3, none⟩ (.int .u64 v5)) = W6 at h6 ⊢
      clear c5 f5
      have X2 := Lib.hid (C2.out W6 _ h6)
      clear h6
      go_wp2_with fail
      refine X2.out.mono ?_
      rintro x w7 ⟨rfl, h7⟩
      by_cases hbig : v6 > 65535
      · have db : decide (v6 > 65535) = true := decide_eq_true hbig
        have HV3 : Hid (DD = fin lb 11 0 (rcK 2)) := by
          have := HU.out
          rw [if_pos hbig] at this
          exact this
        obtain ⟨A8, c8, _, hge8, _⟩ := h7.rd
        have ce8 : w7.cell? ⟨ge, 0, none⟩ = some (.int .i64 e6) := hge8.cell 0
        have fe8 := hge8.frozen 0
        have h8 := h7.err HO.out 11
        clear hge8
        go_upto_region 28 with (fail)
        generalize (w7.setCell ⟨ge, 0, none⟩ (.int .i64 11)) = Wx at h8 ⊢
        have H := Lib.hid h8
        clear h8 ce8 fe8 h7
        have HV := HV3
        have hres := H.out.res
        have hrc : Blk Wx gr 48 (recC (Rc.mk 2 0 0 v5 0 en0 sh0) ra0) := H.out.rc
        have hbel := H.out.bel
        obtain ⟨A9, c9, hgb, hge, hin9, hk9, hc9⟩ := H.out.rd
        have ce := hge.cell 0
        simp only [List.getElem?_toArray, List.getElem?_cons_zero] at ce
        have HV2 : Hid (DD = ((11 : Int), rc0)) := by
          show _ = _
          rw [HV.out, fin, if_neg (by decide), if_pos (by decide)]
        clear hgb hin9
        go_upto_region 31 with (fail)
        refine wp_region_held_drew (S := fun w' => w'.cell? ⟨ge, 0, none⟩ = some (.int .i64 ((11 : Int)))) (by kernel_rfl) ce (fun hHeld => ?_)
        refine wpAnyH_take (i := 0) (v := ?v16) rfl (by kernel_rfl) (by kernel_rfl) (by kernel_rfl) (fun _ _ _ h => h) (Or.inl ⟨by rfl, ?y16⟩) (by assumption) ?r16
        case y16 => (intro w hSw; (try dsimp only at hSw); (try go_simp); first | done | with_reducible rfl)
        ((try simp only [List.getElem_toArray, List.getElem_cons_zero]); (try simp only [Act.put, List.setIfInBounds_toArray, List.set_cons_zero, List.set_cons_succ]))
        refine wpAnyH_take (i := 1) (v := ?v1017) rfl (by kernel_rfl) (by kernel_rfl) (by kernel_rfl) (fun _ _ _ h => h) (Or.inl ⟨by rfl, ?y1017⟩) (by assumption) ?r1017
        case y1017 => (intro w hSw; (try dsimp only at hSw); (try go_simp); first | done | with_reducible rfl)
        ((try simp only [List.getElem_toArray, List.getElem_cons_succ, List.getElem_cons_zero]); (try simp only [Act.put, List.setIfInBounds_toArray, List.set_cons_zero, List.set_cons_succ]))
        refine wpAnyH_ready (rs := [2]) (by kernel_rfl) (by simp) ?_
        refine AllReadyH.cons rfl (fun K hK => ?_) AllReadyH.nil
        refine step_store_row rfl 48 _ _ rfl g (recC rc0 ra0) rfl rfl 48 (recC rc0 ra0) hres.drew info_Rec rfl (recC_one _ _) ?_
        refine hK.out _ _ ((hge.drew.rowFar (fun e => (hres.ne_ hge (by decide)) e.symm)).cell 0) (fun hHeld2 => ?_)
        clear hK K hHeld
        have hHeld := hHeld2
        clear hHeld2
        ((try simp only [List.getElem_toArray, List.getElem_cons_succ, List.getElem_cons_zero]); (try simp only [Act.put, List.setIfInBounds_toArray, List.set_cons_zero, List.set_cons_succ]))
        refine wpAnyH_take (i := 3) (v := ?v3018) rfl (by kernel_rfl) (by kernel_rfl) (by kernel_rfl) (fun _ _ _ h => h) (Or.inl ⟨by rfl, ?y3018⟩) (by assumption) ?r3018
        case y3018 => (intro w hSw; (try dsimp only at hSw); (try go_simp); first | done | with_reducible rfl)
        ((try simp only [List.getElem_toArray, List.getElem_cons_succ, List.getElem_cons_zero]); (try simp only [Act.put, List.setIfInBounds_toArray, List.set_cons_zero, List.set_cons_succ]))
        refine wpAnyH_done (by kernel_rfl) ?_ _
        go_wp2_with fail
        (try simp only [Exit.inBlock, Exit.then])
        refine bodyPost_ret (results_cell rfl rfl (run_loadVar_row _ g 48 48 _ (0, 0) _ (Blk.row (cs := recC rc0 ra0) hres.drew) Try.underlying48 rfl info_Rec)) rfl ?_
        exact ⟨row_below hbel.drew (Nat.le_refl _) _, ra0, by have hv := HV2.out; subst hv; rfl, by have hv := HV2.out; subst hv; exact InR.zero _⟩
      have db : decide (v6 > 65535) = false := decide_eq_false hbig
      have HV3 : Hid (DD = fin lb e6 n6 ⟨2, v6, 0, v5, 0, en0, sh0⟩) := by
        have := HU.out
        rw [if_neg hbig] at this
        exact this
      have wv : IntKind.i64.wrap v6 = v6 := by
        have := HLE2.out.1
        rw [IntKind.wrap_i64]
        omega
      have hwf6 : (Lit.int .i64 v6).wf = true := wf_i64_of (by have := HLE2.out.1; omega) (by omega)
      have c7 : w7.cell? ⟨gr, 1, none⟩ = some (.int .i64 0) := h7.rc.cell 1
      have f7 := h7.rc.frozen 1
      have h8 := h7.set HO.out 1 (.int .i64 v6)
      have HWF6 := Lib.hid hwf6
      clear h7 hbig hwf6
      go_upto_region 28 with (fail)
      generalize (w7.setCell ⟨gr, 1, none⟩ (.int .i64 v6)) = Wx at h8 ⊢
      have H := Lib.hid h8
      clear h8 c7 f7
      have HI : Hid (InR Wx ⟨2, v6, 0, v5, 0, en0, sh0⟩ ra0) := ⟨InN.nil, InSh.zero _⟩
      have HW : Hid (Rc.Wf ⟨2, v6, 0, v5, 0, en0, sh0⟩) := ⟨by show (Lit.int .i64 2).wf = true; decide, HWF6.out, wfu0, ⟨HLE.out.1, HLE.out.2.2.2⟩, wfu0, en0_wf2, sh0_wf2⟩
      have HV := HV3
      have hres := H.out.res
      have hrc : Blk Wx gr 48 (recC (Rc.mk 2 v6 0 v5 0 en0 sh0) ra0) := H.out.rc
      have hbel := H.out.bel
      obtain ⟨A9, c9, hgb, hge, hin9, hk9, hc9⟩ := H.out.rd
      have ce := hge.cell 0
      simp only [List.getElem?_toArray, List.getElem?_cons_zero] at ce
      by_cases e60 : e6 = 60
      · have q60 : (e6 == 60) = true := by rw [e60]; rfl
        have HV2 : Hid (DD = (130, rc0)) := by
          show _ = _
          rw [HV.out, fin, if_pos e60]
        go_wp2_with (refine wpList_store_row rfl 48 _ _ rfl g (recC rc0 ra0) rfl rfl 48 (recC rc0 ra0) hres info_Rec rfl (recC_one _ _) ?_)
        (try simp only [Exit.inBlock, Exit.then])
        refine bodyPost_ret (results_cell rfl rfl (run_loadVar_row _ g 48 48 _ (0, 0) _ (Blk.row (cs := recC rc0 ra0) hres) Try.underlying48 rfl info_Rec)) rfl ?_
        exact ⟨row_below hbel (Nat.le_refl _) _, ra0, by have hv := HV2.out; subst hv; rfl, by have hv := HV2.out; subst hv; exact InR.zero _⟩
      have q60 : (e6 == 60) = false := beq_eq_false_iff_ne.2 e60
      by_cases e00 : e6 = 0
      rotate_left
      · have qn : (e6 != 0) = true := bne_iff_ne.2 e00
        have HV2 : Hid (DD = (e6, rc0)) := by
          show _ = _
          rw [HV.out, fin, if_neg e60, if_pos e00]
        clear hgb hin9
        go_upto_region 31 with (fail)
        refine wp_region_held_drew (S := fun w' => w'.cell? ⟨ge, 0, none⟩ = some (.int .i64 (e6))) (by kernel_rfl) ce (fun hHeld => ?_)
        refine wpAnyH_take (i := 0) (v := ?v19) rfl (by kernel_rfl) (by kernel_rfl) (by kernel_rfl) (fun _ _ _ h => h) (Or.inl ⟨by rfl, ?y19⟩) (by assumption) ?r19
        case y19 => (intro w hSw; (try dsimp only at hSw); (try go_simp); first | done | with_reducible rfl)
        ((try simp only [List.getElem_toArray, List.getElem_cons_zero]); (try simp only [Act.put, List.setIfInBounds_toArray, List.set_cons_zero, List.set_cons_succ]))
        refine wpAnyH_take (i := 1) (v := ?v1020) rfl (by kernel_rfl) (by kernel_rfl) (by kernel_rfl) (fun _ _ _ h => h) (Or.inl ⟨by rfl, ?y1020⟩) (by assumption) ?r1020
        case y1020 => (intro w hSw; (try dsimp only at hSw); (try go_simp); first | done | with_reducible rfl)
        ((try simp only [List.getElem_toArray, List.getElem_cons_succ, List.getElem_cons_zero]); (try simp only [Act.put, List.setIfInBounds_toArray, List.set_cons_zero, List.set_cons_succ]))
        refine wpAnyH_ready (rs := [2]) (by kernel_rfl) (by simp) ?_
        refine AllReadyH.cons rfl (fun K hK => ?_) AllReadyH.nil
        refine step_store_row rfl 48 _ _ rfl g (recC rc0 ra0) rfl rfl 48 (recC rc0 ra0) hres.drew info_Rec rfl (recC_one _ _) ?_
        refine hK.out _ _ ((hge.drew.rowFar (fun e => (hres.ne_ hge (by decide)) e.symm)).cell 0) (fun hHeld2 => ?_)
        clear hK K hHeld
        have hHeld := hHeld2
        clear hHeld2
        ((try simp only [List.getElem_toArray, List.getElem_cons_succ, List.getElem_cons_zero]); (try simp only [Act.put, List.setIfInBounds_toArray, List.set_cons_zero, List.set_cons_succ]))
        refine wpAnyH_take (i := 3) (v := ?v3021) rfl (by kernel_rfl) (by kernel_rfl) (by kernel_rfl) (fun _ _ _ h => h) (Or.inl ⟨by rfl, ?y3021⟩) (by assumption) ?r3021
        case y3021 => (intro w hSw; (try dsimp only at hSw); (try go_simp); first | done | with_reducible rfl)
        ((try simp only [List.getElem_toArray, List.getElem_cons_succ, List.getElem_cons_zero]); (try simp only [Act.put, List.setIfInBounds_toArray, List.set_cons_zero, List.set_cons_succ]))
        refine wpAnyH_done (by kernel_rfl) ?_ _
        go_wp2_with fail
        (try simp only [Exit.inBlock, Exit.then])
        refine bodyPost_ret (results_cell rfl rfl (run_loadVar_row _ g 48 48 _ (0, 0) _ (Blk.row (cs := recC rc0 ra0) hres.drew) Try.underlying48 rfl info_Rec)) rfl ?_
        exact ⟨row_below hbel.drew (Nat.le_refl _) _, ra0, by have hv := HV2.out; subst hv; rfl, by have hv := HV2.out; subst hv; exact InR.zero _⟩
      have qn : (e6 != 0) = false := by rw [e00]; rfl
      obtain ⟨m9, hm9⟩ : ∃ m, lb.length - n6 = m := ⟨_, rfl⟩
      rw [hm9] at hgb
      have cb := hgb.cell 0
      simp only [List.getElem?_toArray, List.getElem?_cons_zero] at cb
      by_cases hk : n6 < lb.length
      · have dk : decide ((m9 : Int) > 0) = true := decide_eq_true (by omega)
        have HV2 : Hid (DD = (11, rc0)) := by
          show _ = _
          rw [HV.out, fin, if_neg e60, if_neg (by rw [e00]; simp), if_pos hk]
        go_wp2_with (refine wpList_store_row rfl 48 _ _ rfl g (recC rc0 ra0) rfl rfl 48 (recC rc0 ra0) hres info_Rec rfl (recC_one _ _) ?_)
        (try simp only [Exit.inBlock, Exit.then])
        refine bodyPost_ret (results_cell rfl rfl (run_loadVar_row _ g 48 48 _ (0, 0) _ (Blk.row (cs := recC rc0 ra0) hres) Try.underlying48 rfl info_Rec)) rfl ?_
        exact ⟨row_below hbel (Nat.le_refl _) _, ra0, by have hv := HV2.out; subst hv; rfl, by have hv := HV2.out; subst hv; exact InR.zero _⟩
      have dk : decide ((m9 : Int) > 0) = false := decide_eq_false (by omega)
      have CM := hard_may_any Wx (Rc.mk 2 v6 0 v5 0 en0 sh0) ra0 HI.out HW.out
      have hrl := hrc.lt
      have hgl := hres.lt
      by_cases hm : (Rc.mk 2 v6 0 v5 0 en0 sh0).May
      · have HV2 : Hid (DD = (0, (Rc.mk 2 v6 0 v5 0 en0 sh0))) := by
          show _ = _
          rw [HV.out, fin, if_neg e60, if_neg (by rw [e00]; simp), if_neg hk, if_pos hm]
        rw [decide_eq_true hm] at CM
        unfold recV at CM
        have CM := Lib.hid CM
        go_wp2_with (refine wpList_load_row rfl 48 _ rfl gr rfl 48 (recC (Rc.mk 2 v6 0 v5 0 en0 sh0) ra0) hrc _ Try.underlying48 rfl info_Rec ?_)
        refine CM.out.mono ?_
        rintro y w8 ⟨rfl, hB8⟩
        have hres8 := hres.below hB8 hgl
        have hrc8 := hrc.below hB8 hrl
        have hbel8 := hbel.trans (hB8.mono (Nat.le_of_lt hgl))
        have HI8 := Lib.hid (HI.out.keep hB8)
        clear hrc ce cb hB8
        go_wp2_with (first | (refine wpList_load_row rfl 48 _ rfl gr rfl 48 (recC (Rc.mk 2 v6 0 v5 0 en0 sh0) ra0) hrc8 _ Try.underlying48 rfl info_Rec ?_) | refine wpList_store_row rfl 48 _ _ rfl g (recC (Rc.mk 2 v6 0 v5 0 en0 sh0) ra0) rfl rfl 48 (recC rc0 ra0) hres8 info_Rec rfl (recC_one _ _) ?_)
        (try simp only [Exit.inBlock, Exit.then])
        refine bodyPost_ret (results_cell rfl rfl (run_loadVar_row _ g 48 48 _ (0, 0) _ (Blk.row (cs := recC (Rc.mk 2 v6 0 v5 0 en0 sh0) ra0) hres8) Try.underlying48 rfl info_Rec)) rfl ?_
        exact ⟨row_below hbel8 (Nat.le_refl _) _, ra0, by have hv := HV2.out; subst hv; rfl, by have hv := HV2.out; subst hv; exact ⟨InN.nil, InSh.zero _⟩⟩
      · have HV2 : Hid (DD = (130, rc0)) := by
          show _ = _
          rw [HV.out, fin, if_neg e60, if_neg (by rw [e00]; simp), if_neg hk, if_neg hm]
        rw [decide_eq_false hm] at CM
        unfold recV at CM
        have CM := Lib.hid CM
        go_wp2_with (refine wpList_load_row rfl 48 _ rfl gr rfl 48 (recC (Rc.mk 2 v6 0 v5 0 en0 sh0) ra0) hrc _ Try.underlying48 rfl info_Rec ?_)
        refine CM.out.mono ?_
        rintro y w8 ⟨rfl, hB8⟩
        have hres8 := hres.below hB8 hgl
        have hbel8 := hbel.trans (hB8.mono (Nat.le_of_lt hgl))
        clear hrc ce cb hB8
        go_wp2_with (refine wpList_store_row rfl 48 _ _ rfl g (recC rc0 ra0) rfl rfl 48 (recC rc0 ra0) hres8 info_Rec rfl (recC_one _ _) ?_)
        (try simp only [Exit.inBlock, Exit.then])
        refine bodyPost_ret (results_cell rfl rfl (run_loadVar_row _ g 48 48 _ (0, 0) _ (Blk.row (cs := recC rc0 ra0) hres8) Try.underlying48 rfl info_Rec)) rfl ?_
        exact ⟨row_below hbel8 (Nat.le_refl _) _, ra0, by have hv := HV2.out; subst hv; rfl, by have hv := HV2.out; subst hv; exact InR.zero _⟩
    by_cases n3 : z = 3
    · subst n3
      have k1 : ((3 : Int) == 1) = false := by decide
      have k2 : ((3 : Int) == 2) = false := by decide
      have k3 : ((3 : Int) == 3) = true := by decide
      have k4 : ((3 : Int) == 4) = false := by decide
      have k5 : ((3 : Int) == 5) = false := by decide
      have hle := rnum_le HO.out.byt (Nat.zero_le lb.length) 0 (most := M64) (by decide)
      have hu := HV.out
      unfold recD at hu
      rw [if_neg (by decide), if_neg (by decide), if_pos rfl] at hu
      have C := H0.out.num HO.out
      obtain ⟨⟨v5, n5, e5⟩, hr5⟩ : ∃ q, rnum lb 0 0 M64 = q := ⟨_, rfl⟩
      rw [hr5] at C hu hle
      simp only at C hu hle
      have hle2 := rnum_le HO.out.byt hle.2.2.1 e5 (most := M64) (by decide)
      have C2 := fun (W2 : World) (cs : Array Value) (h : HD w W2 g gr gb ge b c lb cs n5 e5) => h.num HO.out
      obtain ⟨⟨v6, n6, e6⟩, hr6⟩ : ∃ q, rnum lb n5 e5 M64 = q := ⟨_, rfl⟩
      rw [hr6] at C2 hu hle2
      simp only at C2 hu hle2
      have HU := Lib.hid hu
      have HLE := Lib.hid hle
      have HLE2 := Lib.hid hle2
      have C := Lib.hid C
      have C2 := Lib.hid C2
      clear hr5 hr6 hu hle hle2 HV
      have z0 : wc.cell? ⟨gr, 0, none⟩ = some (.int .i64 3) := H0.out.rc.cell 0
      go_wp2_with fail
      refine C.out.mono ?_
      rintro x w5 ⟨rfl, h5⟩
      have c5 : w5.cell? ⟨gr, 4, none⟩ = some (.int .u64 0) := h5.rc.cell 4
      have f5 := h5.rc.frozen 4
      have h6 := h5.set HO.out 4 (.int .u64 v5)
      clear h5 z0 H0
      go_upto_region 20 with (fail)
      generalize (w5.setCell ⟨gr, 4, none⟩ (.int .u64 v5)) = W6 at h6 ⊢
      clear c5 f5
      have z0 : W6.cell? ⟨gr, 0, none⟩ = some (.int .i64 3) := h6.rc.cell 0
      have X2 := Lib.hid (C2.out W6 _ h6)
      clear h6
      go_wp2_with fail
      refine X2.out.mono ?_
      rintro x w7 ⟨rfl, h7⟩
      have c7 : w7.cell? ⟨gr, 5, none⟩ = some (.int .u64 0) := h7.rc.cell 5
      have f7 := h7.rc.frozen 5
      have h8 := h7.set HO.out 5 (.int .u64 v6)
      clear h7 z0 X2
      go_upto_region 23 with (fail)
      generalize (w7.setCell ⟨gr, 5, none⟩ (.int .u64 v6)) = Wx at h8 ⊢
      have H := Lib.hid h8
      clear h8 c7 f7
      by_cases e6z : e6 = 0
      rotate_left
      · have qz : (e6 == 0) = false := beq_eq_false_iff_ne.2 e6z
        have HV : Hid (DD = fin lb e6 n6 (rcA v5 v6)) := by
          have := HU.out
          rw [if_neg e6z] at this
          exact this
        obtain ⟨A8, c8, _, hge8, _⟩ := H.out.rd
        have ce8 : Wx.cell? ⟨ge, 0, none⟩ = some (.int .i64 e6) := hge8.cell 0
        clear hge8
        go_upto_region 28 with (fail)
        clear ce8
        have HI : Hid (InR Wx (rcA v5 v6) ra0) := ⟨InN.nil, InSh.zero _⟩
        have HW : Hid (Rc.Wf (rcA v5 v6)) := ⟨by show (Lit.int .i64 3).wf = true; decide, wf0, wfu0, wfu0, ⟨HLE.out.1, HLE.out.2.2.2⟩, ⟨⟨HLE2.out.1, HLE2.out.2.2.2⟩, wf0, wf0, wf0, Nat.zero_le _, wfu0, wfu0, wfu0, wfu0⟩, sh0_wf2⟩
        have hres := H.out.res
        have hrc : Blk Wx gr 48 (recC (rcA v5 v6) ra0) := H.out.rc
        have hbel := H.out.bel
        obtain ⟨A9, c9, hgb, hge, hin9, hk9, hc9⟩ := H.out.rd
        have ce := hge.cell 0
        simp only [List.getElem?_toArray, List.getElem?_cons_zero] at ce
        by_cases e60 : e6 = 60
        · have q60 : (e6 == 60) = true := by rw [e60]; rfl
          have HV2 : Hid (DD = (130, rc0)) := by
            show _ = _
            rw [HV.out, fin, if_pos e60]
          go_wp2_with (refine wpList_store_row rfl 48 _ _ rfl g (recC rc0 ra0) rfl rfl 48 (recC rc0 ra0) hres info_Rec rfl (recC_one _ _) ?_)
          (try simp only [Exit.inBlock, Exit.then])
          refine bodyPost_ret (results_cell rfl rfl (run_loadVar_row _ g 48 48 _ (0, 0) _ (Blk.row (cs := recC rc0 ra0) hres) Try.underlying48 rfl info_Rec)) rfl ?_
          exact ⟨row_below hbel (Nat.le_refl _) _, ra0, by have hv := HV2.out; subst hv; rfl, by have hv := HV2.out; subst hv; exact InR.zero _⟩
        have q60 : (e6 == 60) = false := beq_eq_false_iff_ne.2 e60
        have e00 := e6z
        have qn : (e6 != 0) = true := bne_iff_ne.2 e00
        have HV2 : Hid (DD = (e6, rc0)) := by
          show _ = _
          rw [HV.out, fin, if_neg e60, if_pos e00]
        clear hgb hin9
        go_upto_region 31 with (fail)
        refine wp_region_held_drew (S := fun w' => w'.cell? ⟨ge, 0, none⟩ = some (.int .i64 (e6))) (by kernel_rfl) ce (fun hHeld => ?_)
        refine wpAnyH_take (i := 0) (v := ?v22) rfl (by kernel_rfl) (by kernel_rfl) (by kernel_rfl) (fun _ _ _ h => h) (Or.inl ⟨by rfl, ?y22⟩) (by assumption) ?r22
        case y22 => (intro w hSw; (try dsimp only at hSw); (try go_simp); first | done | with_reducible rfl)
        ((try simp only [List.getElem_toArray, List.getElem_cons_zero]); (try simp only [Act.put, List.setIfInBounds_toArray, List.set_cons_zero, List.set_cons_succ]))
        refine wpAnyH_take (i := 1) (v := ?v1023) rfl (by kernel_rfl) (by kernel_rfl) (by kernel_rfl) (fun _ _ _ h => h) (Or.inl ⟨by rfl, ?y1023⟩) (by assumption) ?r1023
        case y1023 => (intro w hSw; (try dsimp only at hSw); (try go_simp); first | done | with_reducible rfl)
        ((try simp only [List.getElem_toArray, List.getElem_cons_succ, List.getElem_cons_zero]); (try simp only [Act.put, List.setIfInBounds_toArray, List.set_cons_zero, List.set_cons_succ]))
        refine wpAnyH_ready (rs := [2]) (by kernel_rfl) (by simp) ?_
        refine AllReadyH.cons rfl (fun K hK => ?_) AllReadyH.nil
        refine step_store_row rfl 48 _ _ rfl g (recC rc0 ra0) rfl rfl 48 (recC rc0 ra0) hres.drew info_Rec rfl (recC_one _ _) ?_
        refine hK.out _ _ ((hge.drew.rowFar (fun e => (hres.ne_ hge (by decide)) e.symm)).cell 0) (fun hHeld2 => ?_)
        clear hK K hHeld
        have hHeld := hHeld2
        clear hHeld2
        ((try simp only [List.getElem_toArray, List.getElem_cons_succ, List.getElem_cons_zero]); (try simp only [Act.put, List.setIfInBounds_toArray, List.set_cons_zero, List.set_cons_succ]))
        refine wpAnyH_take (i := 3) (v := ?v3024) rfl (by kernel_rfl) (by kernel_rfl) (by kernel_rfl) (fun _ _ _ h => h) (Or.inl ⟨by rfl, ?y3024⟩) (by assumption) ?r3024
        case y3024 => (intro w hSw; (try dsimp only at hSw); (try go_simp); first | done | with_reducible rfl)
        ((try simp only [List.getElem_toArray, List.getElem_cons_succ, List.getElem_cons_zero]); (try simp only [Act.put, List.setIfInBounds_toArray, List.set_cons_zero, List.set_cons_succ]))
        refine wpAnyH_done (by kernel_rfl) ?_ _
        go_wp2_with fail
        (try simp only [Exit.inBlock, Exit.then])
        refine bodyPost_ret (results_cell rfl rfl (run_loadVar_row _ g 48 48 _ (0, 0) _ (Blk.row (cs := recC rc0 ra0) hres.drew) Try.underlying48 rfl info_Rec)) rfl ?_
        exact ⟨row_below hbel.drew (Nat.le_refl _) _, ra0, by have hv := HV2.out; subst hv; rfl, by have hv := HV2.out; subst hv; exact InR.zero _⟩
      subst e6z
      have hres := H.out.res
      have hrc : Blk Wx gr 48 (recC (rcA v5 v6) ra0) := H.out.rc
      have hbel := H.out.bel
      have hi8 := H.out.in8 HO.out
      obtain ⟨A9, c9, hgb, hge, hin9, hk9, hc9⟩ := H.out.rd
      obtain ⟨l9, hl9⟩ : ∃ l9, lb.drop n6 = l9 := ⟨_, rfl⟩
      have hm9 : lb.length - n6 = l9.length := by rw [← hl9, List.length_drop]
      rw [hm9] at hgb
      have hi9 := hin9 _ hi8
      rw [hl9] at hi9
      have HV3 : Hid (DD = addD v5 v6 l9) := by
        have := HU.out
        rw [if_pos rfl, hl9] at this
        exact this
      have X := hadd_any Wx v5 v6 A9 c9 l9 hi9 ⟨HLE.out.1, HLE.out.2.2.2⟩ ⟨HLE2.out.1, HLE2.out.2.2.2⟩
      rw [← HV3.out] at X
      unfold recV at X
      have X := Lib.hid X
      have ce8 : Wx.cell? ⟨ge, 0, none⟩ = some (.int .i64 0) := hge.cell 0
      have cb8 : Wx.cell? ⟨gb, 0, none⟩ = some (.slice A9 l9.length c9) := hgb.cell 0
      have hgl := hres.lt
      clear hgb hge hin9 hi9 hi8 hm9 hl9 H
      go_wp2_with (refine wpList_load_row rfl 48 _ rfl gr rfl 48 (recC (rcA v5 v6) ra0) hrc _ Try.underlying48 rfl info_Rec ?_)
      refine X.out.mono ?_
      rintro y w8 ⟨hB8, A7, c7, rfl, hn7, hs7, ho7⟩
      have hres8 := hres.below hB8 hgl
      have hbel8 := hbel.trans (hB8.mono (Nat.le_of_lt hgl))
      have HN := Lib.hid hn7
      have HS := Lib.hid hs7
      have HOW := Lib.hid ho7
      clear hrc ce8 cb8 hB8 hn7 hs7 ho7 X
      go_wp2_with (refine wpList_store_row rfl 48 _ _ rfl g (recC DD.2 ⟨A7, c7, sa0⟩) rfl rfl 48 (recC rc0 ra0) hres8 info_Rec rfl (recC_one _ _) ?_)
      (try simp only [Exit.inBlock, Exit.then])
      refine bodyPost_ret (results_cell rfl rfl (run_loadVar_row _ g 48 48 _ (0, 0) _ (Blk.row (cs := recC DD.2 ⟨A7, c7, sa0⟩) hres8) Try.underlying48 rfl info_Rec)) rfl ?_
      exact ⟨row_below hbel8 (Nat.le_refl _) _, ⟨A7, c7, sa0⟩, rfl, ⟨HN.out.grown (row_grown g _) (fun b off e hh => by
        subst e
        injection hh with hh
        have := HOW.out b rfl
        omega), by rw [HS.out]; exact InSh.zero _⟩⟩
    by_cases n4 : z = 4
    · subst n4
      have k1 : ((4 : Int) == 1) = false := by decide
      have k2 : ((4 : Int) == 2) = false := by decide
      have k3 : ((4 : Int) == 3) = false := by decide
      have k4 : ((4 : Int) == 4) = true := by decide
      have k5 : ((4 : Int) == 5) = false := by decide
      have hle := rnum_le HO.out.byt (Nat.zero_le lb.length) 0 (most := M64) (by decide)
      have hu : DD = fin lb (rnum lb 0 0 M64).2.2 (rnum lb 0 0 M64).2.1 ⟨4, 0, 0, 0, (rnum lb 0 0 M64).1, en0, sh0⟩ := HV.out
      have C := H0.out.num HO.out
      obtain ⟨⟨v5, n5, e5⟩, hr5⟩ : ∃ q, rnum lb 0 0 M64 = q := ⟨_, rfl⟩
      rw [hr5] at C hu hle
      simp only at C hu hle
      have HV3 : Hid (DD = fin lb e5 n5 ⟨4, 0, 0, 0, v5, en0, sh0⟩) := hu
      have HLE := Lib.hid hle
      have C := Lib.hid C
      clear hr5 hu hle HV
      have z0 : wc.cell? ⟨gr, 0, none⟩ = some (.int .i64 4) := H0.out.rc.cell 0
      go_wp2_with fail
      refine C.out.mono ?_
      rintro x w5 ⟨rfl, h5⟩
      have c5 : w5.cell? ⟨gr, 4, none⟩ = some (.int .u64 0) := h5.rc.cell 4
      have f5 := h5.rc.frozen 4
      have h6 := h5.set HO.out 4 (.int .u64 v5)
      clear h5 z0 H0
      go_upto_region 28 with (fail)
      generalize (w5.setCell ⟨gr, 4, none⟩ (.int .u64 v5)) = Wx at h6 ⊢
      have H := Lib.hid h6
      clear h6 c5 f5
      have HI : Hid (InR Wx ⟨4, 0, 0, 0, v5, en0, sh0⟩ ra0) := ⟨InN.nil, InSh.zero _⟩
      have HW : Hid (Rc.Wf ⟨4, 0, 0, 0, v5, en0, sh0⟩) := ⟨by show (Lit.int .i64 4).wf = true; decide, wf0, wfu0, wfu0, ⟨HLE.out.1, HLE.out.2.2.2⟩, en0_wf2, sh0_wf2⟩
      have HV := HV3
      have hres := H.out.res
      have hrc : Blk Wx gr 48 (recC (Rc.mk 4 0 0 0 v5 en0 sh0) ra0) := H.out.rc
      have hbel := H.out.bel
      obtain ⟨A9, c9, hgb, hge, hin9, hk9, hc9⟩ := H.out.rd
      have ce := hge.cell 0
      simp only [List.getElem?_toArray, List.getElem?_cons_zero] at ce
      by_cases e60 : e5 = 60
      · have q60 : (e5 == 60) = true := by rw [e60]; rfl
        have HV2 : Hid (DD = (130, rc0)) := by
          show _ = _
          rw [HV.out, fin, if_pos e60]
        go_wp2_with (refine wpList_store_row rfl 48 _ _ rfl g (recC rc0 ra0) rfl rfl 48 (recC rc0 ra0) hres info_Rec rfl (recC_one _ _) ?_)
        (try simp only [Exit.inBlock, Exit.then])
        refine bodyPost_ret (results_cell rfl rfl (run_loadVar_row _ g 48 48 _ (0, 0) _ (Blk.row (cs := recC rc0 ra0) hres) Try.underlying48 rfl info_Rec)) rfl ?_
        exact ⟨row_below hbel (Nat.le_refl _) _, ra0, by have hv := HV2.out; subst hv; rfl, by have hv := HV2.out; subst hv; exact InR.zero _⟩
      have q60 : (e5 == 60) = false := beq_eq_false_iff_ne.2 e60
      by_cases e00 : e5 = 0
      rotate_left
      · have qn : (e5 != 0) = true := bne_iff_ne.2 e00
        have HV2 : Hid (DD = (e5, rc0)) := by
          show _ = _
          rw [HV.out, fin, if_neg e60, if_pos e00]
        clear hgb hin9
        go_upto_region 31 with (fail)
        refine wp_region_held_drew (S := fun w' => w'.cell? ⟨ge, 0, none⟩ = some (.int .i64 (e5))) (by kernel_rfl) ce (fun hHeld => ?_)
        refine wpAnyH_take (i := 0) (v := ?v10) rfl (by kernel_rfl) (by kernel_rfl) (by kernel_rfl) (fun _ _ _ h => h) (Or.inl ⟨by rfl, ?y10⟩) (by assumption) ?r10
        case y10 => (intro w hSw; (try dsimp only at hSw); (try go_simp); first | done | with_reducible rfl)
        ((try simp only [List.getElem_toArray, List.getElem_cons_zero]); (try simp only [Act.put, List.setIfInBounds_toArray, List.set_cons_zero, List.set_cons_succ]))
        refine wpAnyH_take (i := 1) (v := ?v1011) rfl (by kernel_rfl) (by kernel_rfl) (by kernel_rfl) (fun _ _ _ h => h) (Or.inl ⟨by rfl, ?y1011⟩) (by assumption) ?r1011
        case y1011 => (intro w hSw; (try dsimp only at hSw); (try go_simp); first | done | with_reducible rfl)
        ((try simp only [List.getElem_toArray, List.getElem_cons_succ, List.getElem_cons_zero]); (try simp only [Act.put, List.setIfInBounds_toArray, List.set_cons_zero, List.set_cons_succ]))
        refine wpAnyH_ready (rs := [2]) (by kernel_rfl) (by simp) ?_
        refine AllReadyH.cons rfl (fun K hK => ?_) AllReadyH.nil
        refine step_store_row rfl 48 _ _ rfl g (recC rc0 ra0) rfl rfl 48 (recC rc0 ra0) hres.drew info_Rec rfl (recC_one _ _) ?_
        refine hK.out _ _ ((hge.drew.rowFar (fun e => (hres.ne_ hge (by decide)) e.symm)).cell 0) (fun hHeld2 => ?_)
        clear hK K hHeld
        have hHeld := hHeld2
        clear hHeld2
        ((try simp only [List.getElem_toArray, List.getElem_cons_succ, List.getElem_cons_zero]); (try simp only [Act.put, List.setIfInBounds_toArray, List.set_cons_zero, List.set_cons_succ]))
        refine wpAnyH_take (i := 3) (v := ?v3012) rfl (by kernel_rfl) (by kernel_rfl) (by kernel_rfl) (fun _ _ _ h => h) (Or.inl ⟨by rfl, ?y3012⟩) (by assumption) ?r3012
        case y3012 => (intro w hSw; (try dsimp only at hSw); (try go_simp); first | done | with_reducible rfl)
        ((try simp only [List.getElem_toArray, List.getElem_cons_succ, List.getElem_cons_zero]); (try simp only [Act.put, List.setIfInBounds_toArray, List.set_cons_zero, List.set_cons_succ]))
        refine wpAnyH_done (by kernel_rfl) ?_ _
        go_wp2_with fail
        (try simp only [Exit.inBlock, Exit.then])
        refine bodyPost_ret (results_cell rfl rfl (run_loadVar_row _ g 48 48 _ (0, 0) _ (Blk.row (cs := recC rc0 ra0) hres.drew) Try.underlying48 rfl info_Rec)) rfl ?_
        exact ⟨row_below hbel.drew (Nat.le_refl _) _, ra0, by have hv := HV2.out; subst hv; rfl, by have hv := HV2.out; subst hv; exact InR.zero _⟩
      have qn : (e5 != 0) = false := by rw [e00]; rfl
      obtain ⟨m9, hm9⟩ : ∃ m, lb.length - n5 = m := ⟨_, rfl⟩
      rw [hm9] at hgb
      have cb := hgb.cell 0
      simp only [List.getElem?_toArray, List.getElem?_cons_zero] at cb
      by_cases hk : n5 < lb.length
      · have dk : decide ((m9 : Int) > 0) = true := decide_eq_true (by omega)
        have HV2 : Hid (DD = (11, rc0)) := by
          show _ = _
          rw [HV.out, fin, if_neg e60, if_neg (by rw [e00]; simp), if_pos hk]
        go_wp2_with (refine wpList_store_row rfl 48 _ _ rfl g (recC rc0 ra0) rfl rfl 48 (recC rc0 ra0) hres info_Rec rfl (recC_one _ _) ?_)
        (try simp only [Exit.inBlock, Exit.then])
        refine bodyPost_ret (results_cell rfl rfl (run_loadVar_row _ g 48 48 _ (0, 0) _ (Blk.row (cs := recC rc0 ra0) hres) Try.underlying48 rfl info_Rec)) rfl ?_
        exact ⟨row_below hbel (Nat.le_refl _) _, ra0, by have hv := HV2.out; subst hv; rfl, by have hv := HV2.out; subst hv; exact InR.zero _⟩
      have dk : decide ((m9 : Int) > 0) = false := decide_eq_false (by omega)
      have CM := hard_may_any Wx (Rc.mk 4 0 0 0 v5 en0 sh0) ra0 HI.out HW.out
      have hrl := hrc.lt
      have hgl := hres.lt
      by_cases hm : (Rc.mk 4 0 0 0 v5 en0 sh0).May
      · have HV2 : Hid (DD = (0, (Rc.mk 4 0 0 0 v5 en0 sh0))) := by
          show _ = _
          rw [HV.out, fin, if_neg e60, if_neg (by rw [e00]; simp), if_neg hk, if_pos hm]
        rw [decide_eq_true hm] at CM
        unfold recV at CM
        have CM := Lib.hid CM
        go_wp2_with (refine wpList_load_row rfl 48 _ rfl gr rfl 48 (recC (Rc.mk 4 0 0 0 v5 en0 sh0) ra0) hrc _ Try.underlying48 rfl info_Rec ?_)
        refine CM.out.mono ?_
        rintro y w8 ⟨rfl, hB8⟩
        have hres8 := hres.below hB8 hgl
        have hrc8 := hrc.below hB8 hrl
        have hbel8 := hbel.trans (hB8.mono (Nat.le_of_lt hgl))
        have HI8 := Lib.hid (HI.out.keep hB8)
        clear hrc ce cb hB8
        go_wp2_with (first | (refine wpList_load_row rfl 48 _ rfl gr rfl 48 (recC (Rc.mk 4 0 0 0 v5 en0 sh0) ra0) hrc8 _ Try.underlying48 rfl info_Rec ?_) | refine wpList_store_row rfl 48 _ _ rfl g (recC (Rc.mk 4 0 0 0 v5 en0 sh0) ra0) rfl rfl 48 (recC rc0 ra0) hres8 info_Rec rfl (recC_one _ _) ?_)
        (try simp only [Exit.inBlock, Exit.then])
        refine bodyPost_ret (results_cell rfl rfl (run_loadVar_row _ g 48 48 _ (0, 0) _ (Blk.row (cs := recC (Rc.mk 4 0 0 0 v5 en0 sh0) ra0) hres8) Try.underlying48 rfl info_Rec)) rfl ?_
        exact ⟨row_below hbel8 (Nat.le_refl _) _, ra0, by have hv := HV2.out; subst hv; rfl, by have hv := HV2.out; subst hv; exact ⟨InN.nil, InSh.zero _⟩⟩
      · have HV2 : Hid (DD = (130, rc0)) := by
          show _ = _
          rw [HV.out, fin, if_neg e60, if_neg (by rw [e00]; simp), if_neg hk, if_neg hm]
        rw [decide_eq_false hm] at CM
        unfold recV at CM
        have CM := Lib.hid CM
        go_wp2_with (refine wpList_load_row rfl 48 _ rfl gr rfl 48 (recC (Rc.mk 4 0 0 0 v5 en0 sh0) ra0) hrc _ Try.underlying48 rfl info_Rec ?_)
        refine CM.out.mono ?_
        rintro y w8 ⟨rfl, hB8⟩
        have hres8 := hres.below hB8 hgl
        have hbel8 := hbel.trans (hB8.mono (Nat.le_of_lt hgl))
        clear hrc ce cb hB8
        go_wp2_with (refine wpList_store_row rfl 48 _ _ rfl g (recC rc0 ra0) rfl rfl 48 (recC rc0 ra0) hres8 info_Rec rfl (recC_one _ _) ?_)
        (try simp only [Exit.inBlock, Exit.then])
        refine bodyPost_ret (results_cell rfl rfl (run_loadVar_row _ g 48 48 _ (0, 0) _ (Blk.row (cs := recC rc0 ra0) hres8) Try.underlying48 rfl info_Rec)) rfl ?_
        exact ⟨row_below hbel8 (Nat.le_refl _) _, ra0, by have hv := HV2.out; subst hv; rfl, by have hv := HV2.out; subst hv; exact InR.zero _⟩
    by_cases n5 : z = 5
    · subst n5
      have k1 : ((5 : Int) == 1) = false := by decide
      have k2 : ((5 : Int) == 2) = false := by decide
      have k3 : ((5 : Int) == 3) = false := by decide
      have k4 : ((5 : Int) == 4) = false := by decide
      have k5 : ((5 : Int) == 5) = true := by decide
      have hu : DD = fin lb (sE lb) lb.length ⟨5, 0, 0, 0, 0, en0, if sE lb = 0 then shD lb else sh0⟩ := HV.out
      have hCD : ∀ W A0 c0, In8 W A0 c0 lb → Calls Try.prog 57 #[.slice A0 lb.length c0] W fun x w' => ∃ sa, x = .returned (.tuple #[shtV (if sE lb = 0 then shD lb else sh0) sa, .int .i64 (sE lb)]) ∧ InSh w' (if sE lb = 0 then shD lb else sh0) sa ∧ (∀ b, (Value.slice sa.A0 (if sE lb = 0 then shD lb else sh0).ns.length sa.c0).ownBlock = some b → W.heap.size ≤ b) ∧ (∀ b, (Value.slice sa.A1 (if sE lb = 0 then shD lb else sh0).hs.length sa.c1).ownBlock = some b → W.heap.size ≤ b) ∧ (∀ b, (Value.slice sa.A2 (if sE lb = 0 then shD lb else sh0).ls.length sa.c2).ownBlock = some b → W.heap.size ≤ b) ∧ Below W.heap.size W w' := by
        intro W A0 c0 k
        refine (shot_Decode_walk2 W A0 c0 lb k).mono fun x w' ⟨hB, hx⟩ => ?_
        rcases hx with ⟨h0, B0, b0, B1, b1, B2, b2, hx, k1, k2, k3, k4, k5, k6⟩ | ⟨h0, hx⟩
        · rw [if_pos h0]
          exact ⟨⟨B0, b0, B1, b1, B2, b2⟩, by rw [h0]; exact hx, ⟨k1, k2, k3⟩, k4, k5, k6, hB⟩
        · rw [if_neg h0]
          exact ⟨sa0, hx, InSh.zero _, (fun b hb => by cases hb), (fun b hb => by cases hb), (fun b hb => by cases hb), hB⟩
      have hwf : (if sE lb = 0 then shD lb else sh0).Wf := by
        by_cases h0 : sE lb = 0
        · rw [if_pos h0]
          exact shD_wf HO.out.byt h0
        · rw [if_neg h0]
          exact sh0_wf2
      obtain ⟨sh, hsh⟩ : ∃ sh, (if sE lb = 0 then shD lb else sh0) = sh := ⟨_, rfl⟩
      rw [hsh] at hu hwf
      simp only [hsh] at hCD
      obtain ⟨e6, he6⟩ : ∃ e6, sE lb = e6 := ⟨_, rfl⟩
      rw [he6] at hu
      simp only [he6] at hCD
      have HV3 : Hid (DD = fin lb e6 lb.length ⟨5, 0, 0, 0, 0, en0, sh⟩) := hu
      have HWF := Lib.hid hwf
      unfold shtV at hCD
      have hi8 := H0.out.in8 HO.out
      have X := Lib.hid (hCD wc (some ⟨b, 0, none⟩) c hi8)
      clear hu hsh he6 hwf hCD HV
      have z0 : wc.cell? ⟨gr, 0, none⟩ = some (.int .i64 5) := H0.out.rc.cell 0
      obtain ⟨A9, c9, hgb, hge, hin9, hk9, hc9⟩ := H0.out.rd
      have hrb8 : Blk wc gb 75 #[.slice (some ⟨b, 0, none⟩) lb.length c] := RB.out
      have cb8 : wc.cell? ⟨gb, 0, none⟩ = some (.slice (some ⟨b, 0, none⟩) lb.length c) := by
        have := hrb8.cell 0
        exact this
      have hge8 := hge
      clear hgb hge hin9 hi8
      go_wp2_with fail
      refine X.out.mono ?_
      rintro y w8 ⟨sa, rfl, hi8, ho1, ho2, ho3, hB8⟩
      have h8 := H0.out.below hB8
      have hlt0 : g < wc.heap.size := H0.out.res.lt
      have hltr : gr < wc.heap.size := H0.out.rc.lt
      have hltb : gb < wc.heap.size := hrb8.lt
      have hlte : ge < wc.heap.size := hge8.lt
      have HI8 := Lib.hid hi8
      have HB8 := Lib.hid hB8
      clear hi8 hB8 X z0 cb8
      have HO1 : Hid (Far wc.heap.size sh sa) := ⟨ho1, ho2, ho3⟩
      clear ho1 ho2 ho3
      have h9 := h8.mid HO.out (shtC sh sa).toList 14
      have hg9 : w8.grownBy (w8.setCells gr 14 (shtC sh sa).toList) (some gr) := mid_grown gr _ 14
      have HR9 : Hid (HD w (w8.setCells gr 14 (shtC sh sa).toList) g gr gb ge b c lb (midL (recC (rcK 5) ra0).toList 14 (shtC sh sa).toList).toArray 0 0 ∧ InSh (w8.setCells gr 14 (shtC sh sa).toList) sh sa) := ⟨h9, HI8.out.grown HO1.out hg9 hltr⟩
      have hth := h8.rc.there 14 7 (Nat.le_of_ble_eq_true rfl)
      clear h9 hg9 h8
      go_upto_region 28 with (refine wpList_store_mid rfl 29 _ _ rfl gr 14 (shtC sh sa) rfl rfl hth info_Shot (by simp [shtC, Value.oneCell']) ?_; refine gen_world (R := fun W' => HD w W' g gr gb ge b c lb (midL (recC (rcK 5) ra0).toList 14 (shtC sh sa).toList).toArray 0 0 ∧ InSh W' sh sa) (P := fun W' => wpList _ _ _ _ _ W') HR9.out (fun W9 h9 => ?_); have H9 := Lib.hid h9; obtain ⟨q9, p9⟩ := h9; have q10 := q9.err HO.out e6; obtain ⟨Ax, cx, hx1, hx2, _⟩ := q9.rd; obtain ⟨Ay, cy, hy1, hy2, _⟩ := q10.rd; have x1 : W9.cell? ⟨ge, 0, none⟩ = some (.int .i64 0) := hx2.cell 0; have x2 := hx2.frozen 0; have y1 : (W9.setCell ⟨ge, 0, none⟩ (.int .i64 e6)).cell? ⟨gb, 0, none⟩ = some (.slice Ay (lb.length - 0) cy) := hy1.cell 0; have y2 := hy1.frozen 0; clear q9 p9 q10 hx1 hx2 hy1 hy2)
      have h10 := H9.out.1.err HO.out e6
      obtain ⟨_, _, hy1, hy2, _⟩ := H9.out.1.rd
      have i10 := H9.out.2.grown HO1.out (only_setCell (p := ⟨ge, 0, none⟩) (World.grownBy.refl W9 (some ge)) (.inl rfl) (.int .i64 e6)) (by have := hlte; omega)
      have h11 := h10.nil HO.out
      have i11 := i10.grown HO1.out (only_setCell (p := ⟨gb, 0, none⟩) (World.grownBy.refl _ (some gb)) (.inl rfl) (.slice none 0 0)) hltb
      clear h10 i10 hy1 hy2 x1 x2 y1 y2
      generalize ((W9.setCell ⟨ge, 0, none⟩ (.int .i64 e6)).setCell ⟨gb, 0, none⟩ (.slice none 0 0)) = Wx at h11 i11 ⊢
      have H : Hid (HD w Wx g gr gb ge b c lb (recC (Rc.mk 5 0 0 0 0 en0 sh) ⟨none, 0, sa⟩) lb.length e6) := h11
      have HI : Hid (InR Wx (Rc.mk 5 0 0 0 0 en0 sh) ⟨none, 0, sa⟩) := ⟨InN.nil, i11⟩
      have HW : Hid (Rc.Wf (Rc.mk 5 0 0 0 0 en0 sh)) := ⟨by show (Lit.int .i64 5).wf = true; decide, wf0, wfu0, wfu0, wfu0, en0_wf2, HWF.out⟩
      clear h11 i11 H9 HR9 hth HI8
      have HV := HV3
      have hres := H.out.res
      have hrc : Blk Wx gr 48 (recC (Rc.mk 5 0 0 0 0 en0 sh) ⟨none, 0, sa⟩) := H.out.rc
      have hbel := H.out.bel
      obtain ⟨A9, c9, hgb, hge, hin9, hk9, hc9⟩ := H.out.rd
      have ce := hge.cell 0
      simp only [List.getElem?_toArray, List.getElem?_cons_zero] at ce
      by_cases e60 : e6 = 60
      · have q60 : (e6 == 60) = true := by rw [e60]; rfl
        have HV2 : Hid (DD = (130, rc0)) := by
          show _ = _
          rw [HV.out, fin, if_pos e60]
        go_wp2_with (refine wpList_store_row rfl 48 _ _ rfl g (recC rc0 ra0) rfl rfl 48 (recC rc0 ra0) hres info_Rec rfl (recC_one _ _) ?_)
        (try simp only [Exit.inBlock, Exit.then])
        refine bodyPost_ret (results_cell rfl rfl (run_loadVar_row _ g 48 48 _ (0, 0) _ (Blk.row (cs := recC rc0 ra0) hres) Try.underlying48 rfl info_Rec)) rfl ?_
        exact ⟨row_below hbel (Nat.le_refl _) _, ra0, by have hv := HV2.out; subst hv; rfl, by have hv := HV2.out; subst hv; exact InR.zero _⟩
      have q60 : (e6 == 60) = false := beq_eq_false_iff_ne.2 e60
      by_cases e00 : e6 = 0
      rotate_left
      · have qn : (e6 != 0) = true := bne_iff_ne.2 e00
        have HV2 : Hid (DD = (e6, rc0)) := by
          show _ = _
          rw [HV.out, fin, if_neg e60, if_pos e00]
        clear hgb hin9
        go_upto_region 31 with (fail)
        refine wp_region_held_drew (S := fun w' => w'.cell? ⟨ge, 0, none⟩ = some (.int .i64 (e6))) (by kernel_rfl) ce (fun hHeld => ?_)
        refine wpAnyH_take (i := 0) (v := ?v25) rfl (by kernel_rfl) (by kernel_rfl) (by kernel_rfl) (fun _ _ _ h => h) (Or.inl ⟨by rfl, ?y25⟩) (by assumption) ?r25
        case y25 => (intro w hSw; (try dsimp only at hSw); (try go_simp); first | done | with_reducible rfl)
        ((try simp only [List.getElem_toArray, List.getElem_cons_zero]); (try simp only [Act.put, List.setIfInBounds_toArray, List.set_cons_zero, List.set_cons_succ]))
        refine wpAnyH_take (i := 1) (v := ?v1026) rfl (by kernel_rfl) (by kernel_rfl) (by kernel_rfl) (fun _ _ _ h => h) (Or.inl ⟨by rfl, ?y1026⟩) (by assumption) ?r1026
        case y1026 => (intro w hSw; (try dsimp only at hSw); (try go_simp); first | done | with_reducible rfl)
        ((try simp only [List.getElem_toArray, List.getElem_cons_succ, List.getElem_cons_zero]); (try simp only [Act.put, List.setIfInBounds_toArray, List.set_cons_zero, List.set_cons_succ]))
        refine wpAnyH_ready (rs := [2]) (by kernel_rfl) (by simp) ?_
        refine AllReadyH.cons rfl (fun K hK => ?_) AllReadyH.nil
        refine step_store_row rfl 48 _ _ rfl g (recC rc0 ra0) rfl rfl 48 (recC rc0 ra0) hres.drew info_Rec rfl (recC_one _ _) ?_
        refine hK.out _ _ ((hge.drew.rowFar (fun e => (hres.ne_ hge (by decide)) e.symm)).cell 0) (fun hHeld2 => ?_)
        clear hK K hHeld
        have hHeld := hHeld2
        clear hHeld2
        ((try simp only [List.getElem_toArray, List.getElem_cons_succ, List.getElem_cons_zero]); (try simp only [Act.put, List.setIfInBounds_toArray, List.set_cons_zero, List.set_cons_succ]))
        refine wpAnyH_take (i := 3) (v := ?v3027) rfl (by kernel_rfl) (by kernel_rfl) (by kernel_rfl) (fun _ _ _ h => h) (Or.inl ⟨by rfl, ?y3027⟩) (by assumption) ?r3027
        case y3027 => (intro w hSw; (try dsimp only at hSw); (try go_simp); first | done | with_reducible rfl)
        ((try simp only [List.getElem_toArray, List.getElem_cons_succ, List.getElem_cons_zero]); (try simp only [Act.put, List.setIfInBounds_toArray, List.set_cons_zero, List.set_cons_succ]))
        refine wpAnyH_done (by kernel_rfl) ?_ _
        go_wp2_with fail
        (try simp only [Exit.inBlock, Exit.then])
        refine bodyPost_ret (results_cell rfl rfl (run_loadVar_row _ g 48 48 _ (0, 0) _ (Blk.row (cs := recC rc0 ra0) hres.drew) Try.underlying48 rfl info_Rec)) rfl ?_
        exact ⟨row_below hbel.drew (Nat.le_refl _) _, ra0, by have hv := HV2.out; subst hv; rfl, by have hv := HV2.out; subst hv; exact InR.zero _⟩
      have qn : (e6 != 0) = false := by rw [e00]; rfl
      obtain ⟨m9, hm9⟩ : ∃ m, lb.length - lb.length = m := ⟨_, rfl⟩
      rw [hm9] at hgb
      have cb := hgb.cell 0
      simp only [List.getElem?_toArray, List.getElem?_cons_zero] at cb
      have hk : ¬ lb.length < lb.length := Nat.lt_irrefl _
      have dk : decide ((m9 : Int) > 0) = false := decide_eq_false (by omega)
      have CM := hard_may_any Wx (Rc.mk 5 0 0 0 0 en0 sh) ⟨none, 0, sa⟩ HI.out HW.out
      have hrl := hrc.lt
      have hgl := hres.lt
      by_cases hm : (Rc.mk 5 0 0 0 0 en0 sh).May
      · have HV2 : Hid (DD = (0, (Rc.mk 5 0 0 0 0 en0 sh))) := by
          show _ = _
          rw [HV.out, fin, if_neg e60, if_neg (by rw [e00]; simp), if_neg hk, if_pos hm]
        rw [decide_eq_true hm] at CM
        unfold recV at CM
        have CM := Lib.hid CM
        go_wp2_with (refine wpList_load_row rfl 48 _ rfl gr rfl 48 (recC (Rc.mk 5 0 0 0 0 en0 sh) ⟨none, 0, sa⟩) hrc _ Try.underlying48 rfl info_Rec ?_)
        refine CM.out.mono ?_
        rintro y w8 ⟨rfl, hB8⟩
        have hres8 := hres.below hB8 hgl
        have hrc8 := hrc.below hB8 hrl
        have hbel8 := hbel.trans (hB8.mono (Nat.le_of_lt hgl))
        have HI8 := Lib.hid (HI.out.keep hB8)
        clear hrc ce cb hB8
        go_wp2_with (first | (refine wpList_load_row rfl 48 _ rfl gr rfl 48 (recC (Rc.mk 5 0 0 0 0 en0 sh) ⟨none, 0, sa⟩) hrc8 _ Try.underlying48 rfl info_Rec ?_) | refine wpList_store_row rfl 48 _ _ rfl g (recC (Rc.mk 5 0 0 0 0 en0 sh) ⟨none, 0, sa⟩) rfl rfl 48 (recC rc0 ra0) hres8 info_Rec rfl (recC_one _ _) ?_)
        (try simp only [Exit.inBlock, Exit.then])
        refine bodyPost_ret (results_cell rfl rfl (run_loadVar_row _ g 48 48 _ (0, 0) _ (Blk.row (cs := recC (Rc.mk 5 0 0 0 0 en0 sh) ⟨none, 0, sa⟩) hres8) Try.underlying48 rfl info_Rec)) rfl ?_
        exact ⟨row_below hbel8 (Nat.le_refl _) _, ⟨none, 0, sa⟩, by have hv := HV2.out; subst hv; rfl, by have hv := HV2.out; subst hv; exact ⟨InN.nil, HI8.out.sh.grown HO1.out (row_grown g _) hlt0⟩⟩
      · have HV2 : Hid (DD = (130, rc0)) := by
          show _ = _
          rw [HV.out, fin, if_neg e60, if_neg (by rw [e00]; simp), if_neg hk, if_neg hm]
        rw [decide_eq_false hm] at CM
        unfold recV at CM
        have CM := Lib.hid CM
        go_wp2_with (refine wpList_load_row rfl 48 _ rfl gr rfl 48 (recC (Rc.mk 5 0 0 0 0 en0 sh) ⟨none, 0, sa⟩) hrc _ Try.underlying48 rfl info_Rec ?_)
        refine CM.out.mono ?_
        rintro y w8 ⟨rfl, hB8⟩
        have hres8 := hres.below hB8 hgl
        have hbel8 := hbel.trans (hB8.mono (Nat.le_of_lt hgl))
        clear hrc ce cb hB8
        go_wp2_with (refine wpList_store_row rfl 48 _ _ rfl g (recC rc0 ra0) rfl rfl 48 (recC rc0 ra0) hres8 info_Rec rfl (recC_one _ _) ?_)
        (try simp only [Exit.inBlock, Exit.then])
        refine bodyPost_ret (results_cell rfl rfl (run_loadVar_row _ g 48 48 _ (0, 0) _ (Blk.row (cs := recC rc0 ra0) hres8) Try.underlying48 rfl info_Rec)) rfl ?_
        exact ⟨row_below hbel8 (Nat.le_refl _) _, ra0, by have hv := HV2.out; subst hv; rfl, by have hv := HV2.out; subst hv; exact InR.zero _⟩
    have k1 : (z == 1) = false := beq_eq_false_iff_ne.2 n1
    have k2 : (z == 2) = false := beq_eq_false_iff_ne.2 n2
    have k3 : (z == 3) = false := beq_eq_false_iff_ne.2 n3
    have k4 : (z == 4) = false := beq_eq_false_iff_ne.2 n4
    have k5 : (z == 5) = false := beq_eq_false_iff_ne.2 n5
    have hu : DD = fin lb 11 0 (rcK z) := by
      rw [HV.out]
      unfold recD
      rw [if_neg n1, if_neg n2, if_neg n3, if_neg n4, if_neg n5]
      rfl
    have HV3 : Hid (DD = fin lb 11 0 (rcK z)) := hu
    clear hu HV n1 n2 n3 n4 n5
    have z0 : wc.cell? ⟨gr, 0, none⟩ = some (.int .i64 z) := H0.out.rc.cell 0
    obtain ⟨A8, c8, _, hge8, _⟩ := H0.out.rd
    have ce8 : wc.cell? ⟨ge, 0, none⟩ = some (.int .i64 0) := hge8.cell 0
    have fe8 := hge8.frozen 0
    have h6 := H0.out.err HO.out 11
    clear hge8
    go_upto_region 28 with (fail)
    generalize (wc.setCell ⟨ge, 0, none⟩ (.int .i64 11)) = Wx at h6 ⊢
    have H := Lib.hid h6
    clear h6 ce8 fe8 H0 z0
    have HV := HV3
    have hres := H.out.res
    have hrc : Blk Wx gr 48 (recC (rcK z) ra0) := H.out.rc
    have hbel := H.out.bel
    obtain ⟨A9, c9, hgb, hge, hin9, hk9, hc9⟩ := H.out.rd
    have ce := hge.cell 0
    simp only [List.getElem?_toArray, List.getElem?_cons_zero] at ce
    have HV2 : Hid (DD = ((11 : Int), rc0)) := by
      show _ = _
      rw [HV.out, fin, if_neg (by decide), if_pos (by decide)]
    clear hgb hin9
    go_upto_region 31 with (fail)
    refine wp_region_held_drew (S := fun w' => w'.cell? ⟨ge, 0, none⟩ = some (.int .i64 ((11 : Int)))) (by kernel_rfl) ce (fun hHeld => ?_)
    refine wpAnyH_take (i := 0) (v := ?v13) rfl (by kernel_rfl) (by kernel_rfl) (by kernel_rfl) (fun _ _ _ h => h) (Or.inl ⟨by rfl, ?y13⟩) (by assumption) ?r13
    case y13 => (intro w hSw; (try dsimp only at hSw); (try go_simp); first | done | with_reducible rfl)
    ((try simp only [List.getElem_toArray, List.getElem_cons_zero]); (try simp only [Act.put, List.setIfInBounds_toArray, List.set_cons_zero, List.set_cons_succ]))
    refine wpAnyH_take (i := 1) (v := ?v1014) rfl (by kernel_rfl) (by kernel_rfl) (by kernel_rfl) (fun _ _ _ h => h) (Or.inl ⟨by rfl, ?y1014⟩) (by assumption) ?r1014
    case y1014 => (intro w hSw; (try dsimp only at hSw); (try go_simp); first | done | with_reducible rfl)
    ((try simp only [List.getElem_toArray, List.getElem_cons_succ, List.getElem_cons_zero]); (try simp only [Act.put, List.setIfInBounds_toArray, List.set_cons_zero, List.set_cons_succ]))
    refine wpAnyH_ready (rs := [2]) (by kernel_rfl) (by simp) ?_
    refine AllReadyH.cons rfl (fun K hK => ?_) AllReadyH.nil
    refine step_store_row rfl 48 _ _ rfl g (recC rc0 ra0) rfl rfl 48 (recC rc0 ra0) hres.drew info_Rec rfl (recC_one _ _) ?_
    refine hK.out _ _ ((hge.drew.rowFar (fun e => (hres.ne_ hge (by decide)) e.symm)).cell 0) (fun hHeld2 => ?_)
    clear hK K hHeld
    have hHeld := hHeld2
    clear hHeld2
    ((try simp only [List.getElem_toArray, List.getElem_cons_succ, List.getElem_cons_zero]); (try simp only [Act.put, List.setIfInBounds_toArray, List.set_cons_zero, List.set_cons_succ]))
    refine wpAnyH_take (i := 3) (v := ?v3015) rfl (by kernel_rfl) (by kernel_rfl) (by kernel_rfl) (fun _ _ _ h => h) (Or.inl ⟨by rfl, ?y3015⟩) (by assumption) ?r3015
    case y3015 => (intro w hSw; (try dsimp only at hSw); (try go_simp); first | done | with_reducible rfl)
    ((try simp only [List.getElem_toArray, List.getElem_cons_succ, List.getElem_cons_zero]); (try simp only [Act.put, List.setIfInBounds_toArray, List.set_cons_zero, List.set_cons_succ]))
    refine wpAnyH_done (by kernel_rfl) ?_ _
    go_wp2_with fail
    (try simp only [Exit.inBlock, Exit.then])
    refine bodyPost_ret (results_cell rfl rfl (run_loadVar_row _ g 48 48 _ (0, 0) _ (Blk.row (cs := recC rc0 ra0) hres.drew) Try.underlying48 rfl info_Rec)) rfl ?_
    exact ⟨row_below hbel.drew (Nat.le_refl _) _, ra0, by have hv := HV2.out; subst hv; rfl, by have hv := HV2.out; subst hv; exact InR.zero _⟩
end Go.Proofs.Ytadkkhbbempaaaa
