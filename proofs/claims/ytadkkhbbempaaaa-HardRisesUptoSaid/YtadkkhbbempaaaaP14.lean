/- Texts drawn together (11 of them): words, plain laws and walks that the row leans on. -/
import Derived.Test.YtadkkhbbempaaaaP13
import Derived.Test.YtadkkhbbempaaaaP3
import Derived.Deep.DeepCutAuto
import Derived.Deep.RegionWith
import Derived.Deep.QuietTactic
import Derived.BigQuiet
import Derived.Deep.RegionLaw
import Derived.Test.YtadkkhbbempaaaaP2
import Derived.StillTailTactics
import Derived.Test.YtadkkhbbempaaaaQLawHardBase
import Derived.Test.YtadkkhbbempaaaaP5
/- What a record does to what lasts: plain. -/
namespace Go.Proofs.Ytadkkhbbempaaaa
set_option maxRecDepth 100000
open Go.RowKit

def Hrd.last (h : Hrd) : Int := h.sh.i + h.log.length
/-- The term of an index, if there is one. -/
def Hrd.term (h : Hrd) (i : Int) : Int × Bool :=
  if i = h.sh.i then (h.sh.t, true) else if i < h.sh.i ∨ h.last < i then (0, false) else (((h.log[(i - h.sh.i - 1).toNat]?).map (·.tm)).getD 0, true)
/-- What comes out; none: the record may not come. -/
noncomputable def Hrd.come (h : Hrd) (r : Rc) : Option Hrd :=
  if r.k = 1 then (if r.bt ≤ h.bt then none else some { h with bt := r.bt })
  else if r.k = 2 then (if r.tm < h.tm ∨ (r.tm = h.tm ∧ h.vt ≠ 0 ∧ r.v ≠ h.vt) then none else some { h with tm := r.tm, vt := r.v })
  else if r.k = 3 then (if r.ix = h.last + 1 then some { h with log := h.log ++ [r.en] } else none)
  else if r.k = 4 then (if r.ix ≤ h.sh.i ∨ h.last + 1 < r.ix then none else some { h with log := h.log.take (r.ix - h.sh.i - 1).toNat })
  else if r.sh.i < h.sh.i then none else some { h with log := if (h.term r.sh.i).2 = true ∧ (h.term r.sh.i).1 = r.sh.t then h.log.drop (r.sh.i - h.sh.i).toNat else [], sh := r.sh }
/-- A record done; none: it may not be. -/
noncomputable def Hrd.done (h : Hrd) (r : Rc) : Option Hrd :=
  if h.Ok ∧ r.May then (match h.come r with | some x => if x.Ok then some x else none | none => none) else none
theorem Hrd.done_some {h x : Hrd} {r : Rc} (e : h.done r = some x) : h.Ok ∧ r.May ∧ h.come r = some x ∧ x.Ok := by
  unfold Hrd.done at e
  split at e
  · rename_i c
    split at e
    · rename_i y hy
      split at e
      · rename_i ok
        injection e with e
        subst e
        exact ⟨c.1, c.2, hy, ok⟩
      · cases e
    · cases e
  · cases e
theorem Hrd.done_of {h x : Hrd} {r : Rc} (ok : h.Ok) (m : r.May) (e : h.come r = some x) (okx : x.Ok) : h.done r = some x := by
  unfold Hrd.done
  rw [if_pos ⟨ok, m⟩, e]
  simp only
  rw [if_pos okx]
/-- Nothing falls. -/
theorem Hrd.rises {h x : Hrd} {r : Rc} (e : h.done r = some x) : h.bt ≤ x.bt ∧ h.tm ≤ x.tm ∧ h.sh.i ≤ x.sh.i ∧ ¬ (x.tm = h.tm ∧ h.vt ≠ 0 ∧ x.vt ≠ h.vt) ∧ x.Ok := by
  obtain ⟨_, _, hc, okx⟩ := Hrd.done_some e
  unfold Hrd.come at hc
  refine ⟨?_, ?_, ?_, ?_, okx⟩
  all_goals
    (repeat' split at hc) <;> first | (cases hc; done) | (injection hc with hc; subst hc; simp only; first | omega | (intro q; omega))

/-! ### What is made of nothing but the snapshot by the records that make it -/
theorem lastTm_le (a : Int) (l : List En) (h : logOk a l = true) : a ≤ lastTm a l := by
  induction l generalizing a with
  | nil => exact Int.le_refl _
  | cons e l ih =>
    simp only [logOk, Bool.and_eq_true, decide_eq_true_eq] at h
    have := ih e.tm h.2
    simp only [lastTm]
    omega
theorem logOk_take (a : Int) (l : List En) (h : logOk a l = true) (k : Nat) : logOk a (l.take k) = true ∧ lastTm a (l.take k) ≤ lastTm a l := by
  induction l generalizing a k with
  | nil => rw [List.take_nil]; exact ⟨rfl, Int.le_refl _⟩
  | cons e l ih =>
    cases k with
    | zero => exact ⟨rfl, lastTm_le a (e :: l) h⟩
    | succ k =>
      simp only [logOk, Bool.and_eq_true] at h
      rw [List.take_succ_cons]
      have := ih e.tm h.2 k
      simp only [logOk, lastTm, Bool.and_eq_true]
      exact ⟨⟨h.1, this.1⟩, this.2⟩
theorem logOk_get (a : Int) (l : List En) (h : logOk a l = true) (k : Nat) (hk : k < l.length) : 1 ≤ l[k].tm ∧ l[k].ok = true := by
  induction l generalizing a k with
  | nil => simp at hk
  | cons e l ih =>
    simp only [logOk, Bool.and_eq_true, decide_eq_true_eq] at h
    cases k with
    | zero => exact ⟨h.1.1.2, h.1.2⟩
    | succ k => exact ih e.tm h.2 k (by simpa using hk)
/-- What one starts from. -/
def Hrd.start (h : Hrd) : Hrd := ⟨0, h.sh.t, 0, h.sh, []⟩
/-- Records done, one behind the other. -/
noncomputable def Hrd.all (h : Hrd) : List Rc → Option Hrd
  | [] => some h
  | r :: l => match h.done r with | some x => Hrd.all x l | none => none
theorem Hrd.all_app (h : Hrd) (l m : List Rc) : h.all (l ++ m) = (h.all l).bind (·.all m) := by
  induction l generalizing h with
  | nil => rfl
  | cons r l ih =>
    rw [List.cons_append]
    simp only [Hrd.all]
    cases h.done r with
    | none => rfl
    | some x => exact ih x
theorem may_1 (b : Int) (hb : 1 ≤ b) : Rc.May ⟨1, 0, b, 0, 0, en0, sh0⟩ := ⟨rfl, .inl ⟨rfl, hb⟩⟩
theorem may_2 (v t : Int) (ht : 1 ≤ t) (h0 : 0 ≤ v) (h7 : v ≤ 7) : Rc.May ⟨2, v, 0, t, 0, en0, sh0⟩ := ⟨rfl, .inr (.inl ⟨rfl, ht, h0, h7⟩)⟩
theorem may_3 (i : Int) (e : En) (hi : 1 ≤ i) (h1 : 1 ≤ e.tm) (h2 : e.ok = true) : Rc.May ⟨3, 0, 0, 0, i, e, sh0⟩ := ⟨rfl, .inr (.inr (.inl ⟨rfl, hi, h1, h2⟩))⟩
theorem Hrd.part_ok {h : Hrd} (ok : h.Ok) (k : Nat) (b : Int) (hb : b ≤ 4611686018427387904) : Hrd.Ok ⟨b, h.tm, h.vt, h.sh, h.log.take k⟩ :=
  ⟨hb, ok.sh, ok.i, by have := ok.last; have := List.length_take_le' k h.log; simp only; omega, ok.v0, ok.v7, ok.tv, (logOk_take _ _ ok.log k).1, Int.le_trans (logOk_take _ _ ok.log k).2 ok.tm⟩
theorem Hrd.start_ok {h : Hrd} (ok : h.Ok) (b : Int) (hb : b ≤ 4611686018427387904) : Hrd.Ok ⟨b, h.sh.t, 0, h.sh, []⟩ :=
  ⟨hb, ok.sh, ok.i, by have := ok.i; simp only [List.length_nil]; omega, Int.le_refl _, (by show (0 : Int) ≤ 7; omega), fun _ => rfl, rfl, Int.le_refl _⟩
theorem Hrd.made1 {h : Hrd} (ok : h.Ok) (hb : 0 ≤ h.bt) : h.start.all (base1 h) = some ⟨h.bt, h.sh.t, 0, h.sh, []⟩ := by
  unfold base1
  split
  · rename_i c
    have hd : h.start.done ⟨1, 0, h.bt, 0, 0, en0, sh0⟩ = some ⟨h.bt, h.sh.t, 0, h.sh, []⟩ := by
      refine Hrd.done_of (Hrd.start_ok ok 0 (by omega)) (may_1 _ (by omega)) ?_ (Hrd.start_ok ok _ ok.bt)
      unfold Hrd.come
      rw [if_pos rfl, if_neg (show ¬ h.bt ≤ h.start.bt by show ¬ h.bt ≤ 0; omega)]
      rfl
    unfold Hrd.all
    rw [hd]
    rfl
  · have : h.bt = 0 := by omega
    rw [this]
    rfl
theorem Hrd.made2 {h : Hrd} (ok : h.Ok) (ht : 0 ≤ h.sh.t) (hb : 0 ≤ h.bt) (htm : 0 ≤ h.tm) : h.start.all (base2 h) = some ⟨h.bt, h.tm, h.vt, h.sh, []⟩ := by
  unfold base2
  rw [Hrd.all_app, Hrd.made1 ok hb]
  have hle := Int.le_trans (lastTm_le _ _ ok.log) ok.tm
  simp only [Option.bind_some]
  split
  · rename_i c
    have hd : Hrd.done ⟨h.bt, h.sh.t, 0, h.sh, []⟩ ⟨2, h.vt, 0, h.tm, 0, en0, sh0⟩ = some ⟨h.bt, h.tm, h.vt, h.sh, []⟩ := by
      refine Hrd.done_of (Hrd.start_ok ok _ ok.bt) (may_2 _ _ (by omega) ok.v0 ok.v7) ?_ (by have := Hrd.part_ok ok 0 h.bt ok.bt; rwa [List.take_zero] at this)
      unfold Hrd.come
      rw [if_neg (show ¬ (2 : Int) = 1 by decide), if_pos rfl, if_neg (by simp only; intro q; rcases q with q | q; omega; exact q.2.1 rfl)]
    unfold Hrd.all
    rw [hd]
    rfl
  · have e1 : h.tm = 0 := by omega
    have e2 : h.sh.t = 0 := by omega
    rw [ok.tv e1, e1, e2]
    rfl
theorem Hrd.made3 {h : Hrd} (ok : h.Ok) (hi : 0 ≤ h.sh.i) (k : Nat) (hk : k ≤ h.log.length) : Hrd.all ⟨h.bt, h.tm, h.vt, h.sh, []⟩ (addL h.sh.i (h.log.take k)) = some ⟨h.bt, h.tm, h.vt, h.sh, h.log.take k⟩ := by
  induction k with
  | zero => rfl
  | succ k ih =>
    rw [List.take_succ_eq_append_getElem (by omega), addL_app, Hrd.all_app, ih (by omega)]
    simp only [Option.bind_some]
    have hg := logOk_get _ _ ok.log k (by omega)
    have hlen : (h.log.take k).length = k := by rw [List.length_take]; omega
    have hd : Hrd.done ⟨h.bt, h.tm, h.vt, h.sh, h.log.take k⟩ ⟨3, 0, 0, 0, h.sh.i + (h.log.take k).length + 1, h.log[k], sh0⟩ = some ⟨h.bt, h.tm, h.vt, h.sh, h.log.take k ++ [h.log[k]]⟩ := by
      refine Hrd.done_of (Hrd.part_ok ok k _ ok.bt) (may_3 _ _ (by omega) hg.1 hg.2) ?_ ?_
      · unfold Hrd.come Hrd.last
        rw [if_neg (show ¬ (3 : Int) = 1 by decide), if_neg (show ¬ (3 : Int) = 2 by decide), if_pos rfl, if_pos rfl]
      · have := Hrd.part_ok ok (k + 1) h.bt ok.bt
        rwa [List.take_succ_eq_append_getElem (by omega)] at this
    unfold Hrd.all
    rw [hd]
    rfl
/-- The records that make it make it. -/
theorem Hrd.made {h : Hrd} (ok : h.Ok) (ht : 0 ≤ h.sh.t) (hi : 0 ≤ h.sh.i) (hb : 0 ≤ h.bt) (htm : 0 ≤ h.tm) : h.start.all h.base = some h := by
  unfold Hrd.base
  rw [Hrd.all_app, Hrd.made2 ok ht hb htm]
  have := Hrd.made3 ok hi h.log.length (Nat.le_refl _)
  rw [List.take_length] at this
  exact this
end Go.Proofs.Ytadkkhbbempaaaa

/- The term of an index: the code's term. -/
namespace Go.Proofs.Ytadkkhbbempaaaa
set_option maxRecDepth 100000
open Go.RowKit

theorem term_at (h : Hrd) (i : Int) (he : i = h.sh.i) : h.term i = (h.sh.t, true) := by unfold Hrd.term; rw [if_pos he]
theorem term_no (h : Hrd) (i : Int) (h1 : i ≠ h.sh.i) (h2 : i < h.sh.i ∨ h.last < i) : h.term i = (0, false) := by unfold Hrd.term; rw [if_neg h1, if_pos h2]
theorem term_in (h : Hrd) (i : Int) (h1 : h.sh.i < i) (h2 : i ≤ h.last) (k : Nat) (hk : (k : Int) = i - h.sh.i - 1) (hl : k < h.log.length) : h.term i = (h.log[k].tm, true) := by
  unfold Hrd.term
  rw [if_neg (by omega), if_neg (by omega)]
  have : (i - h.sh.i - 1).toNat = k := by omega
  rw [this, List.getElem?_eq_getElem hl]
  rfl

set_option maxHeartbeats 4000000 in
theorem hard_term_any (w : World) (h : Hb) (p : Sa) (PA : Option Addr) (PC : Nat) (xs : List Ec) (i : Int) (hin : InH w h p PA PC xs) (hi : 0 ≤ h.sh.i ∧ h.sh.i ≤ 4611686018427387904) (hx : 0 ≤ i ∧ i < 18446744073709551616) :
    Calls Try.prog 81 #[hrdV h p PA PC xs, .int .u64 i] w fun e w' => e = .returned (.tuple #[.int .u64 ((h.hrd xs).term i).1, .bool ((h.hrd xs).term i).2]) ∧ Below w.heap.size w w' := by
  obtain ⟨g, hg⟩ : ∃ g, w.heap.size = g := ⟨_, rfl⟩
  rw [hg]
  have hB : Below g w (w.alloc (.cells (hrdC h p PA PC xs) 32)) := (Below.refl _ _).alloc (by omega) _
  have hb : Blk (w.alloc (.cells (hrdC h p PA PC xs) 32)) g 32 (hrdC h p PA PC xs) := hg ▸ Blk.new _ _ _
  have hsm := hin.log.small
  have HIN := Lib.hid hin
  have CL := fun W => hard_last_any W h p PA PC xs hi hsm
  unfold hrdV at CL ⊢
  have CL' := Lib.hid CL
  obtain ⟨I0, hI0⟩ : ∃ I0, h.sh.i = I0 := ⟨_, rfl⟩
  have HI0 := Lib.hid hI0
  have HLAST : Hid ((h.hrd xs).last = I0 + (xs.length : Int)) := by
    show _ = _
    rw [← hI0]
    simp [Hrd.last, Hb.hrd]
  have HSI : Hid ((h.hrd xs).sh.i = I0) := hI0
  have HX := Lib.hid hx
  have HI := Lib.hid hi
  have hg0 : h.sh.t = (h.hrd xs).sh.t := rfl
  have HG0 := Lib.hid hg0
  obtain ⟨T, hT⟩ : ∃ T, (h.hrd xs).term i = T := ⟨_, rfl⟩
  have HT := Lib.hid hT
  rw [hT]
  clear hin hg0 CL hI0 hx hi hT
  go_enter Try.func81, Try.ntmps81
  go_upto_region 1 with (fail)
  change Code.wp _ _ _ _ (w.alloc (.cells (hrdC h p PA PC xs) 32))
  generalize (w.alloc (.cells (hrdC h p PA PC xs) 32)) = W at hb hB ⊢
  try rw [hg]
  have HB := Lib.hid hB
  have HK := Lib.hid hb
  obtain ⟨z0, z1, z2, z3, z4, z5, z6, z7, z8, z9, z10⟩ := hb.hrd
  rw [HI0.out] at z3
  clear hB hb
  by_cases c1 : i = I0
  · have d1 : (i == I0) = true := beq_iff_eq.2 c1
    have HV : Hid (T = (h.sh.t, true)) := HT.out.symm.trans (term_at _ _ (c1.trans HSI.out.symm))
    clear c1
    go_wp2
    go_ret2
    exact ⟨by rw [HV.out]; rfl, HB.out⟩
  have d1 : (i == I0) = false := beq_eq_false_iff_ne.2 c1
  have HN1 := Lib.hid c1
  by_cases c2 : i < I0
  · have d2 : decide (i < I0) = true := decide_eq_true c2
    have HV : Hid (T = (0, false)) := HT.out.symm.trans (term_no _ _ (fun e => HN1.out (e.trans HSI.out)) (.inl (by rw [HSI.out]; exact c2)))
    clear c1 c2
    go_wp2
    go_ret2
    exact ⟨by rw [HV.out]; rfl, HB.out⟩
  have d2 : decide (i < I0) = false := decide_eq_false c2
  have HN2 := Lib.hid c2
  have X1 := Lib.hid (CL'.out W)
  obtain ⟨LN, hLN⟩ : ∃ LN, I0 + (xs.length : Int) = LN := ⟨_, rfl⟩
  rw [HI0.out, hLN] at X1
  have HLN := Lib.hid hLN
  clear c1 c2 hLN CL'
  go_wp2_with fail
  refine X1.out.mono ?_
  rintro e w1 ⟨rfl, hB1⟩
  have HB1 := Lib.hid (HB.out.trans (hB1.mono (Nat.le_of_lt HK.out.lt)))
  have hb1 := HK.out.below hB1 HK.out.lt
  clear z0 z1 z2 z3 z4 z5 z6 z7 z8 z9 z10 hB1 HK HB X1
  obtain ⟨z0, z1, z2, z3, z4, z5, z6, z7, z8, z9, z10⟩ := hb1.hrd
  rw [HI0.out] at z3
  clear hb1
  by_cases c3 : LN < i
  · have d3 : decide (LN < i) = true := decide_eq_true c3
    have HV : Hid (T = (0, false)) := HT.out.symm.trans (term_no _ _ (fun e => HN1.out (e.trans HSI.out)) (.inr (by rw [HLAST.out, HLN.out]; exact c3)))
    clear c3
    go_wp2
    go_ret2
    exact ⟨by rw [HV.out]; rfl, HB1.out⟩
  have d3 : decide (LN < i) = false := decide_eq_false c3
  have h1 : I0 < i := by have := HN1.out; have := HN2.out; omega
  have h2 : i ≤ I0 + (xs.length : Int) := by have := HLN.out; omega
  obtain ⟨k, hk⟩ : ∃ k : Nat, (k : Int) = i - I0 - 1 := ⟨(i - I0 - 1).toNat, by omega⟩
  have hkl : k < xs.length := by omega
  obtain ⟨b, off, rfl, hbb, hat⟩ := (HIN.out.log.keep (hg ▸ HB1.out)).rows.ec (by omega)
  have hatk := (hat k hkl).c0
  have HV : Hid (T = (xs[k].e.tm, true)) := HT.out.symm.trans (by
    have hl : k < (h.hrd xs).log.length := by simpa [Hb.hrd] using hkl
    rw [term_in (h.hrd xs) i (by rw [HSI.out]; exact h1) (by rw [HLAST.out]; exact h2) k (by rw [HSI.out]; exact hk) hl]
    simp [Hb.hrd])
  obtain ⟨x, hxk⟩ : ∃ x, xs[k] = x := ⟨_, rfl⟩
  rw [hxk] at hatk HV
  have q1 : IntKind.u64.wrap (i - I0) = i - I0 := by have := HX.out; have := HI.out; have := HI0.out; rw [IntKind.wrap_u64]; omega
  have q2 : IntKind.u64.wrap (i - I0 - 1) = (k : Int) := by have := HX.out; have := HI.out; have := HI0.out; rw [IntKind.wrap_u64]; omega
  clear c3 h1 h2 hk hat hxk
  go_wp2
  go_ret2
  exact ⟨by rw [HV.out]; rfl, HB1.out⟩
end Go.Proofs.Ytadkkhbbempaaaa

/- A record comes to what lasts: what is known of the memory; the kinds 1 and 2 of the code's come. -/
namespace Go.Proofs.Ytadkkhbbempaaaa
set_option maxRecDepth 100000
open Go.RowKit

/-- Nothing is written but block gh and what lies from B on. -/
structure Fr (w w' : World) (gh B : Nat) : Prop where
  os : w'.os = w.os
  tape : w'.tape = w.tape
  output : w'.output = w.output
  size : w.heap.size ≤ w'.heap.size
  block : ∀ i, i < B → i ≠ gh → i < w.heap.size → w'.heap[i]? = w.heap[i]?
section
variable {w w1 w2 : World} {gh B : Nat}
theorem Fr.refl : Fr w w gh B := ⟨rfl, rfl, rfl, Nat.le_refl _, fun _ _ _ _ => rfl⟩
theorem Fr.trans (h : Fr w w1 gh B) (k : Fr w1 w2 gh B) : Fr w w2 gh B :=
  ⟨k.os.trans h.os, k.tape.trans h.tape, k.output.trans h.output, Nat.le_trans h.size k.size, fun i hB hne hi => (k.block i hB hne (Nat.lt_of_lt_of_le hi h.size)).trans (h.block i hB hne hi)⟩
theorem Fr.of_below (h : Below w.heap.size w w1) : Fr w w1 gh B := ⟨h.os, h.tape, h.output, h.size, fun i _ _ hi => h.block i hi⟩
theorem Fr.of_grown {q : Nat} (h : w.grownBy w1 (some q)) (hq : q = gh ∨ B ≤ q) : Fr w w1 gh B :=
  ⟨h.os, h.tape, h.output, h.size, fun i hB hne hi => h.block i hi (fun e => by injection e with e; omega)⟩
theorem Fr.blk (h : Fr w w1 gh B) {q : Nat} {T : TypeId} {cs : Array Value} (hb : Blk w q T cs) (hB : q < B) (hne : q ≠ gh) : Blk w1 q T cs := (h.block q hB hne hb.lt).trans hb
theorem Fr.below {g : Nat} {w0 : World} (h : Below g w0 w) (k : Fr w w1 gh B) (hB : g ≤ B) (hg : g ≤ gh) (hw : g ≤ w.heap.size) : Below g w0 w1 :=
  ⟨k.os.trans h.os, k.tape.trans h.tape, k.output.trans h.output, Nat.le_trans h.size k.size, fun i hi => (k.block i (by omega) (by omega) (by omega)).trans (h.block i hi)⟩
end
/-- What lasts, in a block of the call's own; its slices in blocks from B on, the log's its own. -/
structure HSt (w : World) (gh B : Nat) (h : Hb) (p : Sa) (A : Option Addr) (c : Nat) (ys : List Ec) : Prop where
  blk : Blk w gh 32 (hrdC h p A c ys)
  log : Ent1 w B (.slice A ys.length c) ys
  sh : ShF w B (.slice A ys.length c) h.sh p
  lt : gh < B
/-- The same behind a record: its slices are read, in blocks from B on. -/
structure HSr (w : World) (gh B : Nat) (h : Hb) (p : Sa) (A : Option Addr) (c : Nat) (ys : List Ec) : Prop where
  blk : Blk w gh 32 (hrdC h p A c ys)
  own : OwH w B h p A c ys
theorem Ent1.owe {w : World} {B : Nat} {A : Option Addr} {c : Nat} {ys : List Ec} (h : Ent1 w B (.slice A ys.length c) ys) (hs : ys.length * 88 ≤ 140737488355328) : OwE w B A c ys := by
  obtain ⟨A', c', e, hc, _, hr⟩ := own_open h.row
  injection e with e1 _ e2
  subst e1 e2
  exact ⟨⟨⟨hr, hc, by omega⟩, h.inn, hs⟩, fun a e => own_base h.row a.block (by rw [e]; rfl), fun y hy a e => (h.own y hy a e).1⟩
theorem HSt.r {w : World} {gh B : Nat} {h : Hb} {p : Sa} {A : Option Addr} {c : Nat} {ys : List Ec} (s : HSt w gh B h p A c ys) (hs : ys.length * 88 ≤ 140737488355328) : HSr w gh B h p A c ys := ⟨s.blk, s.sh.sh, s.log.owe hs⟩
theorem HSt.below {w w1 : World} {gh B : Nat} {h : Hb} {p : Sa} {A : Option Addr} {c : Nat} {ys : List Ec} (s : HSt w gh B h p A c ys) (hb : Below w.heap.size w w1) : HSt w1 gh B h p A c ys := ⟨s.blk.below hb s.blk.lt, s.log.below hb, s.sh.below hb, s.lt⟩
theorem HSt.inh {w : World} {gh B : Nat} {h : Hb} {p : Sa} {A : Option Addr} {c : Nat} {ys : List Ec} (s : HSt w gh B h p A c ys) (hs : ys.length * 88 ≤ 140737488355328) : InH w h p A c ys := (s.r hs).own.inh
theorem HSt.drewN {w : World} {gh B : Nat} {h : Hb} {p : Sa} {A : Option Addr} {c : Nat} {ys : List Ec} (s : HSt w gh B h p A c ys) (n : Nat) : HSt (w.drewN n) gh B h p A c ys := s.below (below_drewN (Below.refl _ _) n)
theorem Fr.drewN {w w1 : World} {gh B : Nat} (h : Fr w w1 gh B) (n : Nat) : Fr w (w1.drewN n) gh B := ⟨h.os, h.tape, h.output, h.size, h.block⟩
theorem Fr.sets {w w1 : World} {gh B : Nat} (h : Fr w w1 gh B) (ps : List (Nat × Value)) : Fr w (setsW w1 gh ps) gh B := h.trans (Fr.of_grown (sets_grown gh ps) (.inl rfl))
theorem Fr.of_own {w w1 : World} {gh B : Nat} {v : Value} (hg : w.grownBy w1 v.ownBlock) (hv : ∀ k, v.ownBlock = some k → B ≤ k) : Fr w w1 gh B :=
  ⟨hg.os, hg.tape, hg.output, hg.size, fun i hB _ hi => hg.block i hi (fun e => by have := hv i e.symm; omega)⟩
theorem Ent1.push_owe {w w1 : World} {B : Nat} {v : Value} {ys : List Ec} {y : Ec} {A1 : Option Addr} {c1 : Nat} (h : Ent1 w B v ys) (hr : w1.ownsRow B 46 9 (.slice A1 (ys ++ [y]).length c1) (ys ++ [y]).length ((ys ++ [y]).flatMap ecC)) (hg : w.grownBy w1 v.ownBlock)
    (hy : InN .i64 w y.A y.c y.e.l) (ho : ∀ a, y.A = some a → B ≤ a.block ∧ v.ownBlock ≠ some a.block) (hs : (ys.length + 1) * 88 ≤ 140737488355328) : OwE w1 B A1 c1 (ys ++ [y]) := by
  obtain ⟨A', c', e, hc, _, hrd⟩ := own_open hr
  injection e with e1 _ e2
  subst e1 e2
  have hall : ∀ x ∈ ys ++ [y], InN .i64 w x.A x.c x.e.l ∧ ∀ a, x.A = some a → B ≤ a.block ∧ v.ownBlock ≠ some a.block := by
    intro x hx
    rcases List.mem_append.1 hx with q | q
    · exact ⟨h.inn x q, h.own x q⟩
    · rw [List.mem_singleton] at q
      subst q
      exact ⟨hy, ho⟩
  have hl : (ys ++ [y]).length = ys.length + 1 := by simp
  exact ⟨⟨⟨hrd, hc, by omega⟩, fun x hx => (hall x hx).1.past' hg (fun _ a e => ((hall x hx).2 a e).2), by omega⟩, fun a e => own_base hr a.block (by rw [e]; rfl), fun x hx a e => ((hall x hx).2 a e).1⟩
/-- What come answers, and what it leaves. -/
def Come (w : World) (gh B : Nat) (H : Hrd) (r : Rc) (e : Ending) (w' : World) : Prop :=
  ∃ h' p' A' c' ys', e = .returned (.bool (H.come r).isSome) ∧ (∀ y, H.come r = some y → h'.hrd ys' = y) ∧ HSr w' gh B h' p' A' c' ys' ∧ Fr w w' gh B

set_option maxHeartbeats 4000000 in
theorem hard_come_1 (w : World) (gh B : Nat) (h : Hb) (p : Sa) (A : Option Addr) (c : Nat) (ys : List Ec) (r : Rc) (a : Ra) (s : HSt w gh B h p A c ys) (hB : B ≤ w.heap.size) (hs : (ys.length + 1) * 88 ≤ 140737488355328) (hk : r.k = 1) :
    Calls Try.prog 43 #[.pointer (some ⟨gh, 0, none⟩), recV r a] w (Come w gh B (h.hrd ys) r) := by
  have k1 : (r.k == 1) = true := by rw [hk]; rfl
  obtain ⟨g, hg⟩ : ∃ g, w.heap.size = g := ⟨_, rfl⟩
  have hBx : Below w.heap.size w (w.alloc (.cells (recC r a) 48)) := (Below.refl _ _).alloc (Nat.le_refl _) _
  have hb1 : Blk (w.alloc (.cells (recC r a) 48)) g 48 (recC r a) := hg ▸ Blk.new _ _ _
  have hs1 := s.below hBx
  have HF := Lib.hid (Fr.of_below (gh := gh) (B := B) hBx)
  have hne : gh ≠ g := by have := s.lt; omega
  have hcome : (h.hrd ys).come r = if r.bt ≤ h.bt then none else some { h.hrd ys with bt := r.bt } := by
    unfold Hrd.come
    rw [if_pos hk]
    rfl
  have HCM := Lib.hid hcome
  obtain ⟨Q, hQ⟩ : ∃ Q, Come w gh B (h.hrd ys) r = Q := ⟨_, rfl⟩
  have HQ := Lib.hid hQ
  rw [hQ]
  have HSZ := Lib.hid hs
  clear hBx hk s hB hcome hQ hs
  unfold recV
  go_enter Try.func43, Try.ntmps43
  go_upto_region 1 with (fail)
  change Code.wp _ _ _ _ (w.alloc (.cells (recC r a) 48))
  generalize (w.alloc (.cells (recC r a) 48)) = W at hb1 hs1 HF ⊢
  try rw [hg]
  have HS := Lib.hid hs1
  have z0 := hb1.rc.z0
  have z2 := hb1.rc.z2
  have y0 := hs1.blk.hrd.z0
  have f0 := hs1.blk.frozen 0
  clear hb1 hs1 hg
  by_cases c1 : r.bt ≤ h.bt
  · have d1 : decide (r.bt ≤ h.bt) = true := decide_eq_true c1
    have HN : Hid ((h.hrd ys).come r = none) := by show _ = _; rw [HCM.out, if_pos c1]
    clear c1
    go_upto_region 10 with (fail)
    go_quiet (fail)
    go_wp2
    rw [← HQ.out]
    refine ⟨h, p, A, c, ys, by rw [HN.out]; rfl, (fun y hy => by rw [HN.out] at hy; cases hy), ?_, ?_⟩
    · exact (HS.out.drewN nq).r (by have := HSZ.out; omega)
    · exact HF.out.drewN nq
  · have d1 : decide (r.bt ≤ h.bt) = false := decide_eq_false c1
    have HN : Hid ((h.hrd ys).come r = some { h.hrd ys with bt := r.bt }) := by show _ = _; rw [HCM.out, if_neg c1]
    clear c1
    go_upto_region 10 with (fail)
    go_quiet (fail)
    go_wp2
    rw [← HQ.out]
    refine ⟨⟨r.bt, h.tm, h.vt, h.sh⟩, p, A, c, ys, by rw [HN.out]; rfl, (fun y hy => by rw [HN.out] at hy; injection hy), ?_, ?_⟩
    · have hr := (HS.out.drewN nq).r (by have := HSZ.out; omega)
      exact ⟨setsW_blk (w := W.drewN nq) (g := gh) (l := [Value.int .u64 h.bt, .int .u64 h.tm, .int .i64 h.vt, .int .u64 h.sh.i, .int .u64 h.sh.t, .slice p.A0 h.sh.ns.length p.c0, .int .i64 h.sh.lim, .int .u64 h.sh.nxt, .slice p.A1 h.sh.hs.length p.c1, .slice p.A2 h.sh.ls.length p.c2, .slice A ys.length c]) hr.blk [(0, Value.int .u64 r.bt)], ⟨(hr.own.past (sets_grown gh [(0, Value.int .u64 r.bt)]) HS.out.lt).sh, (hr.own.past (sets_grown gh [(0, Value.int .u64 r.bt)]) HS.out.lt).log⟩⟩
    · exact (HF.out.drewN nq).sets [(0, Value.int .u64 r.bt)]
end Go.Proofs.Ytadkkhbbempaaaa

/- A record comes to what lasts: kind 2 of the code's come. -/
namespace Go.Proofs.Ytadkkhbbempaaaa
set_option maxRecDepth 100000
open Go.RowKit

set_option maxHeartbeats 4000000 in
theorem hard_come_2 (w : World) (gh B : Nat) (h : Hb) (p : Sa) (A : Option Addr) (c : Nat) (ys : List Ec) (r : Rc) (a : Ra) (s : HSt w gh B h p A c ys) (hB : B ≤ w.heap.size) (hs : (ys.length + 1) * 88 ≤ 140737488355328) (hk : r.k = 2) :
    Calls Try.prog 43 #[.pointer (some ⟨gh, 0, none⟩), recV r a] w (Come w gh B (h.hrd ys) r) := by
  have k1 : (r.k == 1) = false := by rw [hk]; rfl
  have k2 : (r.k == 2) = true := by rw [hk]; rfl
  obtain ⟨g, hg⟩ : ∃ g, w.heap.size = g := ⟨_, rfl⟩
  have hBx : Below w.heap.size w (w.alloc (.cells (recC r a) 48)) := (Below.refl _ _).alloc (Nat.le_refl _) _
  have hb1 : Blk (w.alloc (.cells (recC r a) 48)) g 48 (recC r a) := hg ▸ Blk.new _ _ _
  have hs1 := s.below hBx
  have HBX := Lib.hid hBx
  have HF := Lib.hid (Fr.of_below (gh := gh) (B := B) hBx)
  have hne : gh ≠ g := by have := s.lt; omega
  have hgB : B ≤ g := by omega
  have HK := Lib.hid hk
  obtain ⟨Q, hQ⟩ : ∃ Q, Come w gh B (h.hrd ys) r = Q := ⟨_, rfl⟩
  have HQ := Lib.hid hQ
  rw [hQ]
  have HSZ := Lib.hid hs
  have HS0 := Lib.hid s
  clear hBx hk s hQ hs
  unfold recV
  go_enter Try.func43, Try.ntmps43
  go_upto_region 1 with (fail)
  change Code.wp _ _ _ _ (w.alloc (.cells (recC r a) 48))
  generalize (w.alloc (.cells (recC r a) 48)) = W at hb1 hs1 HF HBX ⊢
  try rw [hg]
  have HS := Lib.hid hs1
  have HCM : Hid ((h.hrd ys).come r = if r.tm < h.tm ∨ (r.tm = h.tm ∧ h.vt ≠ 0 ∧ r.v ≠ h.vt) then none else some { h.hrd ys with tm := r.tm, vt := r.v }) := by
    show _ = _
    unfold Hrd.come
    rw [if_neg (by have := HK.out; omega), if_pos HK.out]
    rfl
  have z0 := hb1.rc.z0
  have z1 := hb1.rc.z1
  have z3 := hb1.rc.z3
  have y1 := hs1.blk.hrd.z1
  have y2 := hs1.blk.hrd.z2
  have f1 := hs1.blk.frozen 1
  have f2 := hs1.blk.frozen 2
  clear hb1 hs1 hg
  have hcs : (r.tm < h.tm) ∨ (¬ r.tm < h.tm ∧ (r.tm == h.tm) = false) ∨ (¬ r.tm < h.tm ∧ (r.tm == h.tm) = true ∧ (h.vt != 0) = false) ∨ (¬ r.tm < h.tm ∧ (r.tm == h.tm) = true ∧ (h.vt != 0) = true ∧ (r.v != h.vt) = false) ∨ (¬ r.tm < h.tm ∧ (r.tm == h.tm) = true ∧ (h.vt != 0) = true ∧ (r.v != h.vt) = true) := by
    by_cases q1 : r.tm < h.tm
    · exact .inl q1
    · cases q2 : (r.tm == h.tm)
      · exact .inr (.inl ⟨q1, rfl⟩)
      · cases q3 : (h.vt != 0)
        · exact .inr (.inr (.inl ⟨q1, rfl, rfl⟩))
        · cases q4 : (r.v != h.vt)
          · exact .inr (.inr (.inr (.inl ⟨q1, rfl, rfl, rfl⟩)))
          · exact .inr (.inr (.inr (.inr ⟨q1, rfl, rfl, rfl⟩)))
  rcases hcs with d1 | ⟨d1, d2⟩ | ⟨d1, d2, d3⟩ | ⟨d1, d2, d3, d4⟩ | ⟨d1, d2, d3, d4⟩
  · have e1 : decide (r.tm < h.tm) = true := decide_eq_true d1
    have HN : Hid ((h.hrd ys).come r = none) := by show _ = _; rw [HCM.out, if_pos (.inl d1)]
    clear d1
    all_goals
      go_upto_region 14 with (fail)
      go_quiet (fail)
      go_wp2
      rw [← HQ.out]
      refine ⟨h, p, A, c, ys, by rw [HN.out]; rfl, (fun y hy => by rw [HN.out] at hy; cases hy), (HS.out.drewN nq).r (by have := HSZ.out; omega), HF.out.drewN nq⟩
  · have e1 : decide (r.tm < h.tm) = false := decide_eq_false d1
    have HN : Hid ((h.hrd ys).come r = some { h.hrd ys with tm := r.tm, vt := r.v }) := by show _ = _; rw [HCM.out, if_neg (fun q => q.elim d1 (fun q => absurd q.1 (beq_eq_false_iff_ne.1 d2)))]
    clear d1
    all_goals
      go_upto_region 14 with (fail)
      go_quiet (fail)
      go_wp2_with fail
      go_region_with (fail)
      all_goals
        go_wp2
        rw [← HQ.out]
        have hr := ((HS.out.drewN nq).drewN 1).r (by have := HSZ.out; omega)
        refine ⟨⟨h.bt, r.tm, r.v, h.sh⟩, p, A, c, ys, by rw [HN.out]; rfl, (fun y hy => by rw [HN.out] at hy; injection hy), ?_, ?_⟩
        · first
            | exact ⟨setsW_blk (w := (W.drewN nq).drew) (g := gh) (l := [Value.int .u64 h.bt, .int .u64 h.tm, .int .i64 h.vt, .int .u64 h.sh.i, .int .u64 h.sh.t, .slice p.A0 h.sh.ns.length p.c0, .int .i64 h.sh.lim, .int .u64 h.sh.nxt, .slice p.A1 h.sh.hs.length p.c1, .slice p.A2 h.sh.ls.length p.c2, .slice A ys.length c]) hr.blk [(1, Value.int .u64 r.tm), (2, .int .i64 r.v)], (hr.own.past (sets_grown gh [(1, Value.int .u64 r.tm), (2, .int .i64 r.v)]) HS.out.lt).sh, (hr.own.past (sets_grown gh [(1, Value.int .u64 r.tm), (2, .int .i64 r.v)]) HS.out.lt).log⟩
            | exact ⟨setsW_blk (w := (W.drewN nq).drew) (g := gh) (l := [Value.int .u64 h.bt, .int .u64 h.tm, .int .i64 h.vt, .int .u64 h.sh.i, .int .u64 h.sh.t, .slice p.A0 h.sh.ns.length p.c0, .int .i64 h.sh.lim, .int .u64 h.sh.nxt, .slice p.A1 h.sh.hs.length p.c1, .slice p.A2 h.sh.ls.length p.c2, .slice A ys.length c]) hr.blk [(2, Value.int .i64 r.v), (1, .int .u64 r.tm)], (hr.own.past (sets_grown gh [(2, Value.int .i64 r.v), (1, .int .u64 r.tm)]) HS.out.lt).sh, (hr.own.past (sets_grown gh [(2, Value.int .i64 r.v), (1, .int .u64 r.tm)]) HS.out.lt).log⟩
        · first
            | exact ((HF.out.drewN nq).drewN 1).sets [(1, Value.int .u64 r.tm), (2, .int .i64 r.v)]
            | exact ((HF.out.drewN nq).drewN 1).sets [(2, Value.int .i64 r.v), (1, .int .u64 r.tm)]
  · have e1 : decide (r.tm < h.tm) = false := decide_eq_false d1
    have HN : Hid ((h.hrd ys).come r = some { h.hrd ys with tm := r.tm, vt := r.v }) := by show _ = _; rw [HCM.out, if_neg (fun q => q.elim d1 (fun q => q.2.1 (by simpa using d3)))]
    clear d1
    all_goals
      go_upto_region 14 with (fail)
      go_quiet (fail)
      go_wp2_with fail
      go_region_with (fail)
      all_goals
        go_wp2
        rw [← HQ.out]
        have hr := ((HS.out.drewN nq).drewN 1).r (by have := HSZ.out; omega)
        refine ⟨⟨h.bt, r.tm, r.v, h.sh⟩, p, A, c, ys, by rw [HN.out]; rfl, (fun y hy => by rw [HN.out] at hy; injection hy), ?_, ?_⟩
        · first
            | exact ⟨setsW_blk (w := (W.drewN nq).drew) (g := gh) (l := [Value.int .u64 h.bt, .int .u64 h.tm, .int .i64 h.vt, .int .u64 h.sh.i, .int .u64 h.sh.t, .slice p.A0 h.sh.ns.length p.c0, .int .i64 h.sh.lim, .int .u64 h.sh.nxt, .slice p.A1 h.sh.hs.length p.c1, .slice p.A2 h.sh.ls.length p.c2, .slice A ys.length c]) hr.blk [(1, Value.int .u64 r.tm), (2, .int .i64 r.v)], (hr.own.past (sets_grown gh [(1, Value.int .u64 r.tm), (2, .int .i64 r.v)]) HS.out.lt).sh, (hr.own.past (sets_grown gh [(1, Value.int .u64 r.tm), (2, .int .i64 r.v)]) HS.out.lt).log⟩
            | exact ⟨setsW_blk (w := (W.drewN nq).drew) (g := gh) (l := [Value.int .u64 h.bt, .int .u64 h.tm, .int .i64 h.vt, .int .u64 h.sh.i, .int .u64 h.sh.t, .slice p.A0 h.sh.ns.length p.c0, .int .i64 h.sh.lim, .int .u64 h.sh.nxt, .slice p.A1 h.sh.hs.length p.c1, .slice p.A2 h.sh.ls.length p.c2, .slice A ys.length c]) hr.blk [(2, Value.int .i64 r.v), (1, .int .u64 r.tm)], (hr.own.past (sets_grown gh [(2, Value.int .i64 r.v), (1, .int .u64 r.tm)]) HS.out.lt).sh, (hr.own.past (sets_grown gh [(2, Value.int .i64 r.v), (1, .int .u64 r.tm)]) HS.out.lt).log⟩
        · first
            | exact ((HF.out.drewN nq).drewN 1).sets [(1, Value.int .u64 r.tm), (2, .int .i64 r.v)]
            | exact ((HF.out.drewN nq).drewN 1).sets [(2, Value.int .i64 r.v), (1, .int .u64 r.tm)]
  · have e1 : decide (r.tm < h.tm) = false := decide_eq_false d1
    have HN : Hid ((h.hrd ys).come r = some { h.hrd ys with tm := r.tm, vt := r.v }) := by show _ = _; rw [HCM.out, if_neg (fun q => q.elim d1 (fun q => q.2.2 (by simpa using d4)))]
    clear d1
    all_goals
      go_upto_region 14 with (fail)
      go_quiet (fail)
      go_wp2_with fail
      go_region_with (fail)
      all_goals
        go_wp2
        rw [← HQ.out]
        have hr := ((HS.out.drewN nq).drewN 1).r (by have := HSZ.out; omega)
        refine ⟨⟨h.bt, r.tm, r.v, h.sh⟩, p, A, c, ys, by rw [HN.out]; rfl, (fun y hy => by rw [HN.out] at hy; injection hy), ?_, ?_⟩
        · first
            | exact ⟨setsW_blk (w := (W.drewN nq).drew) (g := gh) (l := [Value.int .u64 h.bt, .int .u64 h.tm, .int .i64 h.vt, .int .u64 h.sh.i, .int .u64 h.sh.t, .slice p.A0 h.sh.ns.length p.c0, .int .i64 h.sh.lim, .int .u64 h.sh.nxt, .slice p.A1 h.sh.hs.length p.c1, .slice p.A2 h.sh.ls.length p.c2, .slice A ys.length c]) hr.blk [(1, Value.int .u64 r.tm), (2, .int .i64 r.v)], (hr.own.past (sets_grown gh [(1, Value.int .u64 r.tm), (2, .int .i64 r.v)]) HS.out.lt).sh, (hr.own.past (sets_grown gh [(1, Value.int .u64 r.tm), (2, .int .i64 r.v)]) HS.out.lt).log⟩
            | exact ⟨setsW_blk (w := (W.drewN nq).drew) (g := gh) (l := [Value.int .u64 h.bt, .int .u64 h.tm, .int .i64 h.vt, .int .u64 h.sh.i, .int .u64 h.sh.t, .slice p.A0 h.sh.ns.length p.c0, .int .i64 h.sh.lim, .int .u64 h.sh.nxt, .slice p.A1 h.sh.hs.length p.c1, .slice p.A2 h.sh.ls.length p.c2, .slice A ys.length c]) hr.blk [(2, Value.int .i64 r.v), (1, .int .u64 r.tm)], (hr.own.past (sets_grown gh [(2, Value.int .i64 r.v), (1, .int .u64 r.tm)]) HS.out.lt).sh, (hr.own.past (sets_grown gh [(2, Value.int .i64 r.v), (1, .int .u64 r.tm)]) HS.out.lt).log⟩
        · first
            | exact ((HF.out.drewN nq).drewN 1).sets [(1, Value.int .u64 r.tm), (2, .int .i64 r.v)]
            | exact ((HF.out.drewN nq).drewN 1).sets [(2, Value.int .i64 r.v), (1, .int .u64 r.tm)]
  · have e1 : decide (r.tm < h.tm) = false := decide_eq_false d1
    have HN : Hid ((h.hrd ys).come r = none) := by show _ = _; rw [HCM.out, if_pos (.inr ⟨beq_iff_eq.1 d2, bne_iff_ne.1 d3, bne_iff_ne.1 d4⟩)]
    clear d1
    all_goals
      go_upto_region 14 with (fail)
      go_quiet (fail)
      go_wp2
      rw [← HQ.out]
      refine ⟨h, p, A, c, ys, by rw [HN.out]; rfl, (fun y hy => by rw [HN.out] at hy; cases hy), (HS.out.drewN nq).r (by have := HSZ.out; omega), HF.out.drewN nq⟩
end Go.Proofs.Ytadkkhbbempaaaa

/- A record comes to what lasts: kind 3 of the code's come. -/
namespace Go.Proofs.Ytadkkhbbempaaaa
set_option maxRecDepth 100000
open Go.RowKit

set_option maxHeartbeats 4000000 in
theorem hard_come_3 (w : World) (gh B : Nat) (h : Hb) (p : Sa) (A : Option Addr) (c : Nat) (ys : List Ec) (r : Rc) (a : Ra) (s : HSt w gh B h p A c ys) (hB : B ≤ w.heap.size) (hs : (ys.length + 1) * 88 ≤ 140737488355328) (hi : 0 ≤ h.sh.i ∧ h.sh.i ≤ 4611686018427387904) (hin : InR w r a) (wfr : r.Wf) (hk : r.k = 3) :
    Calls Try.prog 43 #[.pointer (some ⟨gh, 0, none⟩), recV r a] w (Come w gh B (h.hrd ys) r) := by
  have k1 : (r.k == 1) = false := by rw [hk]; rfl
  have k2 : (r.k == 2) = false := by rw [hk]; rfl
  have k3 : (r.k == 3) = true := by rw [hk]; rfl
  obtain ⟨g, hg⟩ : ∃ g, w.heap.size = g := ⟨_, rfl⟩
  have hBx : Below w.heap.size w (w.alloc (.cells (recC r a) 48)) := (Below.refl _ _).alloc (Nat.le_refl _) _
  have hb1 : Blk (w.alloc (.cells (recC r a) 48)) g 48 (recC r a) := hg ▸ Blk.new _ _ _
  have hs1 := s.below hBx
  have HBX := Lib.hid hBx
  have HF := Lib.hid (Fr.of_below (gh := gh) (B := B) hBx)
  have hne : gh ≠ g := by have := s.lt; omega
  have hgB : B ≤ g := by omega
  have HK := Lib.hid hk
  have C1 := fun W => hard_last_any W h p A c ys hi (by omega)
  unfold hrdV at C1
  have C1' := Lib.hid C1
  obtain ⟨LN, hLN⟩ : ∃ LN, h.sh.i + (ys.length : Int) = LN := ⟨_, rfl⟩
  have HLN := Lib.hid hLN
  have q1 : IntKind.u64.wrap (LN + 1) = LN + 1 := by rw [IntKind.wrap_u64]; omega
  have HCM : Hid ((h.hrd ys).come r = if r.ix = LN + 1 then some { h.hrd ys with log := (h.hrd ys).log ++ [r.en] } else none) := by
    show _ = _
    unfold Hrd.come
    rw [if_neg (by omega), if_neg (by omega), if_pos hk, ← hLN]
    simp only [Hrd.last, Hb.hrd, List.length_map]
  have HW0 : Hid (InN .i64 w a.A a.c r.en.l) := hin.l
  have HWL := Lib.hid wfr.en.l
  clear C1 hLN hin wfr
  obtain ⟨Q, hQ⟩ : ∃ Q, Come w gh B (h.hrd ys) r = Q := ⟨_, rfl⟩
  have HQ := Lib.hid hQ
  rw [hQ]
  have HSZ := Lib.hid hs
  have HS0 := Lib.hid s
  clear hBx hk s hQ hs
  unfold recV
  go_enter Try.func43, Try.ntmps43
  go_upto_region 1 with (fail)
  change Code.wp _ _ _ _ (w.alloc (.cells (recC r a) 48))
  generalize (w.alloc (.cells (recC r a) 48)) = W at hb1 hs1 HF HBX ⊢
  try rw [hg]
  have HS := Lib.hid hs1
  have HK := Lib.hid hb1
  have z0 := hb1.rc.z0
  have z4 := hb1.rc.z4
  obtain ⟨y0, y1, y2, y3, y4, y5, y6, y7, y8, y9, y10⟩ := hs1.blk.hrd
  have X1' := C1'.out W.drew
  rw [HLN.out] at X1'
  have X1 := Lib.hid X1'
  have HGW : Hid (g < W.heap.size) := hb1.lt
  clear hb1 hs1 X1' C1'
  by_cases c1 : r.ix = LN + 1
  rotate_left
  · have d1 : (r.ix != LN + 1) = true := bne_iff_ne.2 c1
    have HN : Hid ((h.hrd ys).come r = none) := by show _ = _; rw [HCM.out, if_neg c1]
    clear c1 hg
    go_upto_region 18 with (fail)
    go_region_law (go_simp; go_at_call 33; refine X1.out.mono ?_; rintro e w1 ⟨rfl, hB1⟩; have HB1 := Lib.hid hB1; have z4' := (HK.out.drew.below hB1 HGW.out).rc.z4; clear hB1)
    all_goals
      go_wp2
      rw [← HQ.out]
      exact ⟨h, p, A, c, ys, by rw [HN.out]; rfl, (fun y hy => by rw [HN.out] at hy; cases hy), ((HS.out.drewN 1).below HB1.out).r (by have := HSZ.out; omega), (HF.out.drewN 1).trans (Fr.of_below HB1.out)⟩
  · have d1 : (r.ix != LN + 1) = false := bne_eq_false_iff_eq.2 c1
    have HN : Hid ((h.hrd ys).come r = some { h.hrd ys with log := (h.hrd ys).log ++ [r.en] }) := by show _ = _; rw [HCM.out, if_pos c1]
    clear c1
    go_upto_region 18 with (fail)
    go_region_law (go_simp; go_at_call 33; refine X1.out.mono ?_; rintro e w1 ⟨rfl, hB1⟩; have HB1 := Lib.hid hB1; have z4' := (HK.out.drew.below hB1 HGW.out).rc.z4; clear hB1)
    all_goals
      go_upto_region 20 with (fail)
      have hb2 := HK.out.drew.below HB1.out HGW.out
      have hBw1 : Below w.heap.size w w1 := HBX.out.drew.trans (HB1.out.mono (show w.heap.size ≤ W.heap.size from HBX.out.size))
      have X2 := Lib.hid (clone_any w1 a.A a.c r.en.l (HW0.out.keep hBw1) HWL.out)
      have HBW1 := Lib.hid hBw1
      have HK2 := Lib.hid hb2
      have z9 := hb2.rc.z9
      clear hb2 hBw1 y0 y1 y2 y3 y4 y5 y6 y7 y8 y9 y10 z0 z4 z4' d1 q1
      go_wp2_with fail
      refine X2.out.mono ?_
      rintro e w2 ⟨A7, c7, rfl, hc7, hB2⟩
      have hb3 := HK2.out.below hB2 HK2.out.lt
      have hgw1 : g < w1.heap.size := HK2.out.lt
      have hBw3 : Below w.heap.size w w2 := HBW1.out.trans (hB2.mono HBW1.out.size)
      have hI3 := OwI.of_cop hc7
      clear z9 X2 hc7 hB2 HK2
      have z9 := hb3.rc.z9
      have f9 := hb3.frozen 9
      have hb4 : Blk (setsW w2 g [(9, Value.slice A7 r.en.l.length c7)]) g 48 (recC r ⟨A7, c7, a.s⟩) := setsW_blk (l := recL ⟨r, a⟩) hb3 _
      have hBw4 := setsW_below hBw3 (show w.heap.size ≤ g by omega) [(9, Value.slice A7 r.en.l.length c7)]
      have hI4 := hI3.past (sets_grown g [(9, Value.slice A7 r.en.l.length c7)]) hgw1
      go_upto_region 21 with (fail)
      change Code.wp _ _ _ _ (setsW w2 g [(9, Value.slice A7 r.en.l.length c7)])
      generalize (setsW w2 g [(9, Value.slice A7 r.en.l.length c7)]) = W4 at hb4 hBw4 hI4 ⊢
      clear z9 f9 hb3 hBw3 hI3
      have hs4 := HS0.out.below hBw4
      have HS4 := Lib.hid hs4
      have HBW4 := Lib.hid hBw4
      have HI4 := Lib.hid hI4
      obtain ⟨z0, z1, z2, z3, z4, z5, z6, z7, z8, z9, z10, z11, z12, z13, z14, z15, z16, z17, z18, z19, z20⟩ := hb4.rc
      have y10 := hs4.blk.hrd.z10
      have hgl4 : gh < W4.heap.size := hs4.blk.lt
      have y10a : ∀ o, (W4.drew.alloc o).cell? ⟨gh, 10, none⟩ = some (.slice A ys.length c) := fun o => (hs4.blk.drew.alloc o).hrd.z10
      have hBs4 : B ≤ W4.drew.heap.size := by have := hBw4.size; show B ≤ W4.heap.size; omega
      clear hb4 hBw4 hI4 hs4
      go_wp2_with fail
      go_region_law (refine step_oneG (f := ecC) (W := W4.drew) Try.underlying30 info_Entry rfl (by omega) ecC_len ecC_one B rfl _ _ rfl (.slice A ys.length c) ys ⟨A7, c7, r.en⟩ rfl rfl rfl HS4.out.log.drew.row hBs4 HSZ.out (by omega) ?_; intro v8 w8 ho8 hg8 hat8; obtain ⟨l8, hl8⟩ : ∃ l8, ys ++ [(⟨A7, c7, r.en⟩ : Ec)] = l8 := ⟨_, rfl⟩; rw [hl8] at ho8; obtain ⟨A8, c8, rfl⟩ := own_slice ho8; have HL8 := Lib.hid hl8; have hb8 := (HS4.out.blk.drew).grown hg8 (fun e => by have := (HS4.out.log.row.lt gh e.symm).1; have := HS4.out.lt; omega); have y108 := hb8.hrd.z10; have f108 := hb8.frozen 10; have HK8 := Lib.hid hb8; have H8 := Lib.hid ho8; have HG8 := Lib.hid hg8; clear ho8 hg8 hat8 hb8 hl8)
      all_goals
        go_wp2
        rw [← HQ.out]
        have h8 := H8.out
        rw [← HL8.out] at h8
        have hw1 : w.heap.size ≤ w1.heap.size := HBW1.out.size
        have hlog := (HS4.out.log.drew).push_owe h8 HG8.out (HI4.out.keep ((Below.refl W4.heap.size W4).drew)).inn (fun q e => ⟨by have := HI4.out.own q e; omega, fun hh => by have h1 := (HS0.out.log.row.lt _ hh).2; have h2 := HI4.out.own q e; omega⟩) HSZ.out
        have hsh := (HS4.out.sh.below ((Below.refl W4.heap.size W4).drew)).push HG8.out
        have hgs := sets_grown (w := w8) gh [(10, Value.slice A8 (ys ++ [(⟨A7, c7, r.en⟩ : Ec)]).length c8)]
        rw [← HL8.out]
        refine ⟨h, p, A8, c8, ys ++ [(⟨A7, c7, r.en⟩ : Ec)], by rw [HN.out]; rfl, (fun y hy => by rw [HN.out] at hy; injection hy with hy; rw [← hy]; simp [Hb.hrd]), ⟨?_, hsh.past hgs HS4.out.lt, hlog.past hgs HS4.out.lt⟩, ?_⟩
        · exact setsW_blk (w := w8) (g := gh) (l := [Value.int .u64 h.bt, .int .u64 h.tm, .int .i64 h.vt, .int .u64 h.sh.i, .int .u64 h.sh.t, .slice p.A0 h.sh.ns.length p.c0, .int .i64 h.sh.lim, .int .u64 h.sh.nxt, .slice p.A1 h.sh.hs.length p.c1, .slice p.A2 h.sh.ls.length p.c2, .slice A ys.length c]) HK8.out [(10, Value.slice A8 (ys ++ [(⟨A7, c7, r.en⟩ : Ec)]).length c8)]
        · exact (((Fr.of_below HBW4.out).drewN 1).trans (Fr.of_own HG8.out (fun k e => (HS4.out.log.row.lt k e).1))).sets [(10, Value.slice A8 (ys ++ [(⟨A7, c7, r.en⟩ : Ec)]).length c8)]
end Go.Proofs.Ytadkkhbbempaaaa

/- Entries cut: the first ones, the last ones. -/
namespace Go.Proofs.Ytadkkhbbempaaaa
set_option maxRecDepth 100000
open Go.RowKit

theorem size_Entry (w : World) : (sizeOf (Try.prog.elem 30)).run Try.prog w = .ok 9 w := by
  show (sizeOf 46).run Try.prog w = .ok 9 w
  obtain ⟨i0, hi, _, hz1, _⟩ := info_parts info_Entry
  simp [sizeOf, typeInfo, hi, hz1]
theorem flat_take {α : Type} {f : α → List Value} {s : Nat} (hf : ∀ x, (f x).length = s) : ∀ (l : List α) (k : Nat), (l.take k).flatMap f = (l.flatMap f).take (k * s)
  | [], k => by simp
  | x :: l, 0 => by simp
  | x :: l, k + 1 => by
    have e : (k + 1) * s = (f x).length + k * s := by rw [hf, Nat.succ_mul, Nat.add_comm]
    rw [List.take_succ_cons, List.flatMap_cons, List.flatMap_cons, flat_take hf l k, e, List.take_length_add_append]
theorem flat_drop {α : Type} {f : α → List Value} {s : Nat} (hf : ∀ x, (f x).length = s) : ∀ (l : List α) (k : Nat), (l.drop k).flatMap f = (l.flatMap f).drop (k * s)
  | [], k => by simp
  | x :: l, 0 => by simp
  | x :: l, k + 1 => by
    have e : (k + 1) * s = (f x).length + k * s := by rw [hf, Nat.succ_mul, Nat.add_comm]
    rw [List.drop_succ_cons, List.flatMap_cons, flat_drop hf l k, e, List.drop_length_add_append]
theorem addr_zero (A : Option Addr) : A.map (·.add (0 * 9)) = A := by
  cases A <;> simp [Addr.add]
theorem cutE_to (A : Option Addr) {c n k : Nat} (hk : k ≤ c) (w : World) : (Instr.slice 30 (.slice A n c) none (some (.int .u64 (k : Int))) none).run Try.prog w = .ok (.slice A k c) w := by
  have hu : Try.prog.underlying 30 = some (.slice (Try.prog.elem 30)) := by kernel_rfl
  rw [run_slice_h _ _ _ _ _ hu .u64 (k : Int) (by omega) (by omega), size_Entry w]
  simp only [Result.andThen, sliced, Int.toNat_natCast, Nat.sub_zero]
  rw [addr_zero A, ite_self]
theorem cutE_from (A : Option Addr) {c n k : Nat} (hk : k ≤ n) (w : World) : (Instr.slice 30 (.slice A n c) (some (.int .u64 (k : Int))) none none).run Try.prog w = .ok (.slice (if c = k then A else A.map (·.add (k * 9))) (n - k) (c - k)) w := by
  have hu : Try.prog.underlying 30 = some (.slice (Try.prog.elem 30)) := by kernel_rfl
  rw [run_slice_l _ _ _ _ _ hu .u64 (k : Int) (by omega) (by omega), size_Entry w]
  simp only [Result.andThen, sliced, Int.toNat_natCast]
theorem OwE.take {w : World} {B : Nat} {A : Option Addr} {c : Nat} {ys : List Ec} (h : OwE w B A c ys) (k : Nat) (hk : k ≤ ys.length) : OwE w B A c (ys.take k) := by
  have hl : (ys.take k).length = k := by rw [List.length_take]; omega
  have hf : (ys.take k).flatMap ecC = (ys.flatMap ecC).take (k * 9) := flat_take ecC_len ys k
  have hs := h.inn.small
  have hc := h.inn.rows.cap
  exact ⟨⟨⟨by rw [hl, hf]; exact h.inn.rows.reads.take hk, by omega, by omega⟩, fun x hx => h.inn.inn x (List.mem_of_mem_take hx), by omega⟩, h.own, fun x hx => h.lists x (List.mem_of_mem_take hx)⟩
theorem OwE.cut {w : World} {B : Nat} {A : Option Addr} {c : Nat} {ys : List Ec} (h : OwE w B A c ys) (k : Nat) (hk : k ≤ ys.length) : OwE w B (if c = k then A else A.map (·.add (k * 9))) (c - k) (ys.drop k) := by
  have hl : (ys.drop k).length = ys.length - k := by rw [List.length_drop]
  have hf : (ys.drop k).flatMap ecC = (ys.flatMap ecC).drop (k * 9) := flat_drop ecC_len ys k
  have hs := h.inn.small
  have hc := h.inn.rows.cap
  refine ⟨⟨⟨by rw [hl, hf]; exact h.inn.rows.reads.cut hk hc, by omega, by omega⟩, fun x hx => h.inn.inn x (List.mem_of_mem_drop hx), by omega⟩, fun a e => ?_, fun x hx => h.lists x (List.mem_of_mem_drop hx)⟩
  split at e
  · exact h.own a e
  · cases A with
    | none => cases e
    | some q =>
      injection e with e
      subst e
      have := h.own q rfl
      show B ≤ (Addr.add q (k * 9)).block
      unfold Addr.add
      split
      · exact this
      · exact this
end Go.Proofs.Ytadkkhbbempaaaa

/- A record comes to what lasts: kind 4 of the code's come. -/
namespace Go.Proofs.Ytadkkhbbempaaaa
set_option maxRecDepth 100000
open Go.RowKit

set_option maxHeartbeats 4000000 in
theorem hard_come_4 (w : World) (gh B : Nat) (h : Hb) (p : Sa) (A : Option Addr) (c : Nat) (ys : List Ec) (r : Rc) (a : Ra) (s : HSt w gh B h p A c ys) (hB : B ≤ w.heap.size) (hs : (ys.length + 1) * 88 ≤ 140737488355328) (hi : 0 ≤ h.sh.i ∧ h.sh.i ≤ 4611686018427387904) (wfr : r.Wf) (hk : r.k = 4) :
    Calls Try.prog 43 #[.pointer (some ⟨gh, 0, none⟩), recV r a] w (Come w gh B (h.hrd ys) r) := by
  have k1 : (r.k == 1) = false := by rw [hk]; rfl
  have k2 : (r.k == 2) = false := by rw [hk]; rfl
  have k3 : (r.k == 3) = false := by rw [hk]; rfl
  have k4 : (r.k == 4) = true := by rw [hk]; rfl
  obtain ⟨g, hg⟩ : ∃ g, w.heap.size = g := ⟨_, rfl⟩
  have hBx : Below w.heap.size w (w.alloc (.cells (recC r a) 48)) := (Below.refl _ _).alloc (Nat.le_refl _) _
  have hb1 : Blk (w.alloc (.cells (recC r a) 48)) g 48 (recC r a) := hg ▸ Blk.new _ _ _
  have hs1 := s.below hBx
  have HBX := Lib.hid hBx
  have HF := Lib.hid (Fr.of_below (gh := gh) (B := B) hBx)
  have hne : gh ≠ g := by have := s.lt; omega
  have hgB : B ≤ g := by omega
  have HK := Lib.hid hk
  have C1 := fun W => hard_last_any W h p A c ys hi (by omega)
  unfold hrdV at C1
  have C1' := Lib.hid C1
  obtain ⟨I0, hI0⟩ : ∃ I0, h.sh.i = I0 := ⟨_, rfl⟩
  have HI0 := Lib.hid hI0
  obtain ⟨LN, hLN⟩ : ∃ LN, I0 + (ys.length : Int) = LN := ⟨_, rfl⟩
  have HLN := Lib.hid hLN
  have q1 : IntKind.u64.wrap (LN + 1) = LN + 1 := by rw [IntKind.wrap_u64]; omega
  have HCM : Hid ((h.hrd ys).come r = if r.ix ≤ I0 ∨ LN + 1 < r.ix then none else some { h.hrd ys with log := (h.hrd ys).log.take (r.ix - I0 - 1).toNat }) := by
    show _ = _
    unfold Hrd.come
    rw [if_neg (by omega), if_neg (by omega), if_neg (by omega), if_pos hk, ← hLN, ← hI0]
    simp only [Hrd.last, Hb.hrd, List.length_map]
  have HIR := Lib.hid wfr.ix
  have HHI := Lib.hid hi
  clear C1 hLN hI0 wfr
  obtain ⟨Q, hQ⟩ : ∃ Q, Come w gh B (h.hrd ys) r = Q := ⟨_, rfl⟩
  have HQ := Lib.hid hQ
  rw [hQ]
  have HSZ := Lib.hid hs
  have HS0 := Lib.hid s
  clear hBx hk s hQ hs
  unfold recV
  go_enter Try.func43, Try.ntmps43
  go_upto_region 1 with (fail)
  change Code.wp _ _ _ _ (w.alloc (.cells (recC r a) 48))
  generalize (w.alloc (.cells (recC r a) 48)) = W at hb1 hs1 HF HBX ⊢
  try rw [hg]
  have HS := Lib.hid hs1
  have HK := Lib.hid hb1
  have z0 := hb1.rc.z0
  have z4 := hb1.rc.z4
  obtain ⟨y0, y1, y2, y3, y4, y5, y6, y7, y8, y9, y10⟩ := hs1.blk.hrd
  have HGW : Hid (g < W.heap.size) := hb1.lt
  clear hb1 hs1 hg y0 y1 y2 y3 y4 y5 y6 y7 y8 y9 y10 z4
  by_cases c1 : r.ix ≤ I0
  · have d1 : decide (r.ix ≤ I0) = true := decide_eq_true c1
    have HN : Hid ((h.hrd ys).come r = none) := by show _ = _; rw [HCM.out, if_pos (.inl c1)]
    clear c1
    go_upto_region 23 with (fail)
    obtain ⟨KW, hKW⟩ : ∃ KW : World → Prop, KW = fun w1 => Below W.heap.size W w1 := ⟨_, rfl⟩
    have KF : Hid (∀ w1, KW w1 → Below W.heap.size W w1) := fun w1 k1 => by rw [hKW] at k1; exact k1
    have KC : Hid (∀ w1 w2, KW w1 → Below w1.heap.size w1 w2 → KW w2) := fun w1 w2 k1 k2 => by
      rw [hKW] at k1 ⊢
      exact k1.trans (k2.mono k1.size)
    have hHA : ∀ w1, KW w1 → HrdAt w1 gh h p A c ys := fun w1 k1 => (HS.out.below (KF.out w1 k1)).blk.hrd
    have F0 : ∀ p9 : InClass KW, p9.w.cell? ⟨gh, 0, none⟩ = some (.int .u64 h.bt) := fun p9 => (hHA _ p9.ok).z0
    have F1 : ∀ p9 : InClass KW, p9.w.cell? ⟨gh, 1, none⟩ = some (.int .u64 h.tm) := fun p9 => (hHA _ p9.ok).z1
    have F2 : ∀ p9 : InClass KW, p9.w.cell? ⟨gh, 2, none⟩ = some (.int .i64 h.vt) := fun p9 => (hHA _ p9.ok).z2
    have F3 : ∀ p9 : InClass KW, p9.w.cell? ⟨gh, 3, none⟩ = some (.int .u64 I0) := fun p9 => by rw [← HI0.out]; exact (hHA _ p9.ok).z3
    have F4 : ∀ p9 : InClass KW, p9.w.cell? ⟨gh, 4, none⟩ = some (.int .u64 h.sh.t) := fun p9 => (hHA _ p9.ok).z4
    have F5 : ∀ p9 : InClass KW, p9.w.cell? ⟨gh, 5, none⟩ = some (.slice p.A0 h.sh.ns.length p.c0) := fun p9 => (hHA _ p9.ok).z5
    have F6 : ∀ p9 : InClass KW, p9.w.cell? ⟨gh, 6, none⟩ = some (.int .i64 h.sh.lim) := fun p9 => (hHA _ p9.ok).z6
    have F7 : ∀ p9 : InClass KW, p9.w.cell? ⟨gh, 7, none⟩ = some (.int .u64 h.sh.nxt) := fun p9 => (hHA _ p9.ok).z7
    have F8 : ∀ p9 : InClass KW, p9.w.cell? ⟨gh, 8, none⟩ = some (.slice p.A1 h.sh.hs.length p.c1) := fun p9 => (hHA _ p9.ok).z8
    have F9 : ∀ p9 : InClass KW, p9.w.cell? ⟨gh, 9, none⟩ = some (.slice p.A2 h.sh.ls.length p.c2) := fun p9 => (hHA _ p9.ok).z9
    have F10 : ∀ p9 : InClass KW, p9.w.cell? ⟨gh, 10, none⟩ = some (.slice A ys.length c) := fun p9 => (hHA _ p9.ok).z10
    have G4 : ∀ p9 : InClass KW, p9.w.cell? ⟨g, 4, none⟩ = some (.int .u64 r.ix) := fun p9 => (HK.out.below (KF.out _ p9.ok) HGW.out).rc.z4
    have CX : Hid (∀ p9 : InClass KW, Calls Try.prog 33 #[.agg #[.int .u64 h.bt, .int .u64 h.tm, .int .i64 h.vt, .int .u64 I0, .int .u64 h.sh.t, .slice p.A0 h.sh.ns.length p.c0, .int .i64 h.sh.lim, .int .u64 h.sh.nxt, .slice p.A1 h.sh.hs.length p.c1, .slice p.A2 h.sh.ls.length p.c2, .slice A ys.length c]] p9.w fun e w' => e = .returned (.int .u64 LN) ∧ Below p9.w.heap.size p9.w w') := fun p9 => by
      have := C1'.out p9.w
      rw [HI0.out, HLN.out] at this
      exact this
    have K1 : KW W.drew := by rw [hKW]; exact (Below.refl _ _).drew
    haveI NE : Nonempty (InClass KW) := ⟨⟨W.drew, K1⟩⟩
    clear hKW hHA
    go_wp2_with fail
    refine wp_region_class_lit KW (by kernel_rfl) (by kernel_rfl) K1 ?_
    repeat (go_big_quiet_step ((go_at_call 33; refine (CX.out _).mono ?_; rintro e8 w8 ⟨he, hB8⟩; exact ⟨he, ⟨w8, KC.out _ w8 (InClass.ok _) hB8⟩, rfl⟩)))
    refine wpQuiet_nil ?_
    intro _ hw9
    obtain ⟨p9, hw9⟩ := hw9
    subst hw9
    have HB9 := Lib.hid (KF.out _ p9.ok)
    clear F0 F1 F2 F3 F4 F5 F6 F7 F8 F9 F10 G4
    all_goals
      go_wp2
      rw [← HQ.out]
      exact ⟨h, p, A, c, ys, by rw [HN.out]; rfl, (fun y hy => by rw [HN.out] at hy; cases hy), (HS.out.below HB9.out).r (by have := HSZ.out; omega), HF.out.trans (Fr.of_below HB9.out)⟩
  have d1 : decide (r.ix ≤ I0) = false := decide_eq_false c1
  by_cases c2 : LN + 1 < r.ix
  · have d2 : decide (LN + 1 < r.ix) = true := decide_eq_true c2
    have HN : Hid ((h.hrd ys).come r = none) := by show _ = _; rw [HCM.out, if_pos (.inr c2)]
    clear c1 c2
    go_upto_region 23 with (fail)
    obtain ⟨KW, hKW⟩ : ∃ KW : World → Prop, KW = fun w1 => Below W.heap.size W w1 := ⟨_, rfl⟩
    have KF : Hid (∀ w1, KW w1 → Below W.heap.size W w1) := fun w1 k1 => by rw [hKW] at k1; exact k1
    have KC : Hid (∀ w1 w2, KW w1 → Below w1.heap.size w1 w2 → KW w2) := fun w1 w2 k1 k2 => by
      rw [hKW] at k1 ⊢
      exact k1.trans (k2.mono k1.size)
    have hHA : ∀ w1, KW w1 → HrdAt w1 gh h p A c ys := fun w1 k1 => (HS.out.below (KF.out w1 k1)).blk.hrd
    have F0 : ∀ p9 : InClass KW, p9.w.cell? ⟨gh, 0, none⟩ = some (.int .u64 h.bt) := fun p9 => (hHA _ p9.ok).z0
    have F1 : ∀ p9 : InClass KW, p9.w.cell? ⟨gh, 1, none⟩ = some (.int .u64 h.tm) := fun p9 => (hHA _ p9.ok).z1
    have F2 : ∀ p9 : InClass KW, p9.w.cell? ⟨gh, 2, none⟩ = some (.int .i64 h.vt) := fun p9 => (hHA _ p9.ok).z2
    have F3 : ∀ p9 : InClass KW, p9.w.cell? ⟨gh, 3, none⟩ = some (.int .u64 I0) := fun p9 => by rw [← HI0.out]; exact (hHA _ p9.ok).z3
    have F4 : ∀ p9 : InClass KW, p9.w.cell? ⟨gh, 4, none⟩ = some (.int .u64 h.sh.t) := fun p9 => (hHA _ p9.ok).z4
    have F5 : ∀ p9 : InClass KW, p9.w.cell? ⟨gh, 5, none⟩ = some (.slice p.A0 h.sh.ns.length p.c0) := fun p9 => (hHA _ p9.ok).z5
    have F6 : ∀ p9 : InClass KW, p9.w.cell? ⟨gh, 6, none⟩ = some (.int .i64 h.sh.lim) := fun p9 => (hHA _ p9.ok).z6
    have F7 : ∀ p9 : InClass KW, p9.w.cell? ⟨gh, 7, none⟩ = some (.int .u64 h.sh.nxt) := fun p9 => (hHA _ p9.ok).z7
    have F8 : ∀ p9 : InClass KW, p9.w.cell? ⟨gh, 8, none⟩ = some (.slice p.A1 h.sh.hs.length p.c1) := fun p9 => (hHA _ p9.ok).z8
    have F9 : ∀ p9 : InClass KW, p9.w.cell? ⟨gh, 9, none⟩ = some (.slice p.A2 h.sh.ls.length p.c2) := fun p9 => (hHA _ p9.ok).z9
    have F10 : ∀ p9 : InClass KW, p9.w.cell? ⟨gh, 10, none⟩ = some (.slice A ys.length c) := fun p9 => (hHA _ p9.ok).z10
    have G4 : ∀ p9 : InClass KW, p9.w.cell? ⟨g, 4, none⟩ = some (.int .u64 r.ix) := fun p9 => (HK.out.below (KF.out _ p9.ok) HGW.out).rc.z4
    have CX : Hid (∀ p9 : InClass KW, Calls Try.prog 33 #[.agg #[.int .u64 h.bt, .int .u64 h.tm, .int .i64 h.vt, .int .u64 I0, .int .u64 h.sh.t, .slice p.A0 h.sh.ns.length p.c0, .int .i64 h.sh.lim, .int .u64 h.sh.nxt, .slice p.A1 h.sh.hs.length p.c1, .slice p.A2 h.sh.ls.length p.c2, .slice A ys.length c]] p9.w fun e w' => e = .returned (.int .u64 LN) ∧ Below p9.w.heap.size p9.w w') := fun p9 => by
      have := C1'.out p9.w
      rw [HI0.out, HLN.out] at this
      exact this
    have K1 : KW W.drew := by rw [hKW]; exact (Below.refl _ _).drew
    haveI NE : Nonempty (InClass KW) := ⟨⟨W.drew, K1⟩⟩
    clear hKW hHA
    go_wp2_with fail
    refine wp_region_class_lit KW (by kernel_rfl) (by kernel_rfl) K1 ?_
    repeat (go_big_quiet_step ((go_at_call 33; refine (CX.out _).mono ?_; rintro e8 w8 ⟨he, hB8⟩; exact ⟨he, ⟨w8, KC.out _ w8 (InClass.ok _) hB8⟩, rfl⟩)))
    refine wpQuiet_nil ?_
    intro _ hw9
    obtain ⟨p9, hw9⟩ := hw9
    subst hw9
    have HB9 := Lib.hid (KF.out _ p9.ok)
    clear F0 F1 F2 F3 F4 F5 F6 F7 F8 F9 F10 G4
    all_goals
      go_wp2
      rw [← HQ.out]
      exact ⟨h, p, A, c, ys, by rw [HN.out]; rfl, (fun y hy => by rw [HN.out] at hy; cases hy), (HS.out.below HB9.out).r (by have := HSZ.out; omega), HF.out.trans (Fr.of_below HB9.out)⟩
  · have d2 : decide (LN + 1 < r.ix) = false := decide_eq_false c2
    obtain ⟨k, hk⟩ : ∃ k : Nat, (k : Int) = r.ix - I0 - 1 := ⟨(r.ix - I0 - 1).toNat, by omega⟩
    have hkn : k ≤ ys.length := by have := HLN.out; omega
    have hkt : (r.ix - I0 - 1).toNat = k := by omega
    have q3 : IntKind.u64.wrap (r.ix - I0) = r.ix - I0 := by have := HIR.out; have := HHI.out; have := HI0.out; rw [IntKind.wrap_u64]; omega
    have q4 : IntKind.u64.wrap (r.ix - I0 - 1) = (k : Int) := by have := HIR.out; have := HHI.out; have := HI0.out; rw [IntKind.wrap_u64]; omega
    have HN : Hid ((h.hrd ys).come r = some { h.hrd ys with log := (h.hrd ys).log.take k }) := by show _ = _; rw [HCM.out, if_neg (fun q => q.elim c1 c2), hkt]
    have HQ3 := Lib.hid q3
    have HQ4 := Lib.hid q4
    clear c1 c2 hk hkt q3 q4
    go_upto_region 23 with (fail)
    obtain ⟨KW, hKW⟩ : ∃ KW : World → Prop, KW = fun w1 => Below W.heap.size W w1 := ⟨_, rfl⟩
    have KF : Hid (∀ w1, KW w1 → Below W.heap.size W w1) := fun w1 k1 => by rw [hKW] at k1; exact k1
    have KC : Hid (∀ w1 w2, KW w1 → Below w1.heap.size w1 w2 → KW w2) := fun w1 w2 k1 k2 => by
      rw [hKW] at k1 ⊢
      exact k1.trans (k2.mono k1.size)
    have hHA : ∀ w1, KW w1 → HrdAt w1 gh h p A c ys := fun w1 k1 => (HS.out.below (KF.out w1 k1)).blk.hrd
    have F0 : ∀ p9 : InClass KW, p9.w.cell? ⟨gh, 0, none⟩ = some (.int .u64 h.bt) := fun p9 => (hHA _ p9.ok).z0
    have F1 : ∀ p9 : InClass KW, p9.w.cell? ⟨gh, 1, none⟩ = some (.int .u64 h.tm) := fun p9 => (hHA _ p9.ok).z1
    have F2 : ∀ p9 : InClass KW, p9.w.cell? ⟨gh, 2, none⟩ = some (.int .i64 h.vt) := fun p9 => (hHA _ p9.ok).z2
    have F3 : ∀ p9 : InClass KW, p9.w.cell? ⟨gh, 3, none⟩ = some (.int .u64 I0) := fun p9 => by rw [← HI0.out]; exact (hHA _ p9.ok).z3
    have F4 : ∀ p9 : InClass KW, p9.w.cell? ⟨gh, 4, none⟩ = some (.int .u64 h.sh.t) := fun p9 => (hHA _ p9.ok).z4
    have F5 : ∀ p9 : InClass KW, p9.w.cell? ⟨gh, 5, none⟩ = some (.slice p.A0 h.sh.ns.length p.c0) := fun p9 => (hHA _ p9.ok).z5
    have F6 : ∀ p9 : InClass KW, p9.w.cell? ⟨gh, 6, none⟩ = some (.int .i64 h.sh.lim) := fun p9 => (hHA _ p9.ok).z6
    have F7 : ∀ p9 : InClass KW, p9.w.cell? ⟨gh, 7, none⟩ = some (.int .u64 h.sh.nxt) := fun p9 => (hHA _ p9.ok).z7
    have F8 : ∀ p9 : InClass KW, p9.w.cell? ⟨gh, 8, none⟩ = some (.slice p.A1 h.sh.hs.length p.c1) := fun p9 => (hHA _ p9.ok).z8
    have F9 : ∀ p9 : InClass KW, p9.w.cell? ⟨gh, 9, none⟩ = some (.slice p.A2 h.sh.ls.length p.c2) := fun p9 => (hHA _ p9.ok).z9
    have F10 : ∀ p9 : InClass KW, p9.w.cell? ⟨gh, 10, none⟩ = some (.slice A ys.length c) := fun p9 => (hHA _ p9.ok).z10
    have G4 : ∀ p9 : InClass KW, p9.w.cell? ⟨g, 4, none⟩ = some (.int .u64 r.ix) := fun p9 => (HK.out.below (KF.out _ p9.ok) HGW.out).rc.z4
    have CX : Hid (∀ p9 : InClass KW, Calls Try.prog 33 #[.agg #[.int .u64 h.bt, .int .u64 h.tm, .int .i64 h.vt, .int .u64 I0, .int .u64 h.sh.t, .slice p.A0 h.sh.ns.length p.c0, .int .i64 h.sh.lim, .int .u64 h.sh.nxt, .slice p.A1 h.sh.hs.length p.c1, .slice p.A2 h.sh.ls.length p.c2, .slice A ys.length c]] p9.w fun e w' => e = .returned (.int .u64 LN) ∧ Below p9.w.heap.size p9.w w') := fun p9 => by
      have := C1'.out p9.w
      rw [HI0.out, HLN.out] at this
      exact this
    have K1 : KW W.drew := by rw [hKW]; exact (Below.refl _ _).drew
    haveI NE : Nonempty (InClass KW) := ⟨⟨W.drew, K1⟩⟩
    clear hKW hHA
    go_wp2_with fail
    refine wp_region_class_lit KW (by kernel_rfl) (by kernel_rfl) K1 ?_
    repeat (go_big_quiet_step ((go_at_call 33; refine (CX.out _).mono ?_; rintro e8 w8 ⟨he, hB8⟩; exact ⟨he, ⟨w8, KC.out _ w8 (InClass.ok _) hB8⟩, rfl⟩)))
    refine wpQuiet_nil ?_
    intro _ hw9
    obtain ⟨p9, hw9⟩ := hw9
    subst hw9
    have HB9 := Lib.hid (KF.out _ p9.ok)
    clear F0 F1 F2 F3 F4 F5 F6 F7 F8 F9 F10 G4
    all_goals
      go_upto_region 25 with (fail)
      have hs5 := HS.out.below HB9.out
      have HF5 := Lib.hid (HF.out.trans (Fr.of_below HB9.out))
      have HS5 := Lib.hid hs5
      have hb5 := HK.out.below HB9.out HGW.out
      clear z0 d1 d2 q1
      have z4 := hb5.rc.z4
      have y3 := hs5.blk.hrd.z3
      rw [HI0.out] at y3
      have y10 := hs5.blk.hrd.z10
      have f10 := hs5.blk.frozen 10
      have q3 := HQ3.out
      have q4 := HQ4.out
      obtain ⟨n, hn⟩ : ∃ n, ys.length = n := ⟨_, rfl⟩
      have HNN := Lib.hid hn
      rw [hn] at hkn y10
      clear hs5 hb5 hn
      have hgB9 := p9.ok
      generalize p9.w = W5 at z4 y3 y10 f10 HF5 HS5 ⊢
      have hrow := HS5.out.log.row
      rw [HNN.out] at hrow
      have HOW : Hid (OwE W5 B A c ys) := HS5.out.log.owe (by have := HSZ.out; omega)
      have hnc : n ≤ c := by have := HOW.out.inn.rows.cap; have := HNN.out; omega
      have hcut : ∀ W : World, (Instr.slice 30 (.slice A n c) none (some (.int .u64 (k : Int))) none).run Try.prog W = .ok (.slice A k c) W := fun W => cutE_to A (by omega) W
      obtain ⟨S, hS⟩ : ∃ S, Value.slice A n c = S := ⟨_, rfl⟩
      rw [hS] at hcut y10
      clear hrow hS hnc hgB9
      go_still_tail 17, (by kernel_rfl)
      change wpList _ _ _ _ _ W5.drew
      have y10' : W5.drew.cell? ⟨gh, 10, none⟩ = some S := y10
      have f10' : W5.drew.frozen? ⟨gh, 10, none⟩ = false := f10
      have HS6 := Lib.hid (HS5.out.drewN 1)
      have HF6 := Lib.hid (HF5.out.drewN 1)
      have HO6 : Hid (OwE W5.drew B A c ys) := HOW.out.keep ((Below.refl W5.heap.size W5).drew)
      clear y10 f10 z4 y3
      change Hid (HSt W5.drew gh B h p A c ys) at HS6
      change Hid (Fr w W5.drew gh B) at HF6
      generalize W5.drew = W6 at y10' f10' HS6 HF6 HO6 ⊢
      go_wp2
      rw [← HQ.out]
      have hgs := sets_grown (w := W6) gh [(10, Value.slice A k c)]
      have hkn' : k ≤ ys.length := by have := HNN.out; omega
      have hlt : (ys.take k).length = k := by rw [List.length_take]; omega
      refine ⟨h, p, A, c, ys.take k, by rw [HN.out]; rfl, (fun y hy => by rw [HN.out] at hy; injection hy with hy; rw [← hy]; simp [Hb.hrd]), ⟨?_, HS6.out.sh.sh.past hgs HS6.out.lt, (HO6.out.take k hkn').past hgs HS6.out.lt⟩, ?_⟩
      · have := setsW_blk (w := W6) (g := gh) (l := [Value.int .u64 h.bt, .int .u64 h.tm, .int .i64 h.vt, .int .u64 h.sh.i, .int .u64 h.sh.t, .slice p.A0 h.sh.ns.length p.c0, .int .i64 h.sh.lim, .int .u64 h.sh.nxt, .slice p.A1 h.sh.hs.length p.c1, .slice p.A2 h.sh.ls.length p.c2, .slice A ys.length c]) HS6.out.blk [(10, Value.slice A k c)]
        unfold hrdC
        rw [hlt]
        exact this
      · exact HF6.out.sets [(10, Value.slice A k c)]
end Go.Proofs.Ytadkkhbbempaaaa

/- A record comes to what lasts: kind 5 of the code's come. -/
namespace Go.Proofs.Ytadkkhbbempaaaa
set_option maxRecDepth 100000
open Go.RowKit

set_option maxHeartbeats 4000000 in
theorem hard_come_5 (w : World) (gh B : Nat) (h : Hb) (p : Sa) (A : Option Addr) (c : Nat) (ys : List Ec) (r : Rc) (a : Ra) (s : HSt w gh B h p A c ys) (hB : B ≤ w.heap.size) (hs : (ys.length + 1) * 88 ≤ 140737488355328) (hi : 0 ≤ h.sh.i ∧ h.sh.i ≤ 4611686018427387904) (hin : ∀ w1, Fr w w1 gh B → InR w1 r a) (wfr : r.Wf) (hk : r.k = 5) :
    Calls Try.prog 43 #[.pointer (some ⟨gh, 0, none⟩), recV r a] w (Come w gh B (h.hrd ys) r) := by
  have k1 : (r.k == 1) = false := by rw [hk]; rfl
  have k2 : (r.k == 2) = false := by rw [hk]; rfl
  have k3 : (r.k == 3) = false := by rw [hk]; rfl
  have k4 : (r.k == 4) = false := by rw [hk]; rfl
  have k5 : (r.k == 5) = true := by rw [hk]; rfl
  obtain ⟨g, hg⟩ : ∃ g, w.heap.size = g := ⟨_, rfl⟩
  have hBx : Below w.heap.size w (w.alloc (.cells (recC r a) 48)) := (Below.refl _ _).alloc (Nat.le_refl _) _
  have hb1 : Blk (w.alloc (.cells (recC r a) 48)) g 48 (recC r a) := hg ▸ Blk.new _ _ _
  have hs1 := s.below hBx
  have HBX := Lib.hid hBx
  have HF := Lib.hid (Fr.of_below (gh := gh) (B := B) hBx)
  have hne : gh ≠ g := by have := s.lt; omega
  have hgB : B ≤ g := by omega
  have HK := Lib.hid hk
  have C1 := fun W h1 => hard_term_any W h p A c ys r.sh.i h1 hi wfr.sh.i
  unfold hrdV at C1
  have C1' := Lib.hid C1
  obtain ⟨I0, hI0⟩ : ∃ I0, h.sh.i = I0 := ⟨_, rfl⟩
  have HI0 := Lib.hid hI0
  obtain ⟨J, hJ⟩ : ∃ J, r.sh.i = J := ⟨_, rfl⟩
  have HJ := Lib.hid hJ
  obtain ⟨T, hT⟩ : ∃ T, (h.hrd ys).term r.sh.i = T := ⟨_, rfl⟩
  have HT := Lib.hid hT
  have HCM : Hid ((h.hrd ys).come r = if J < I0 then none else some { h.hrd ys with log := if T.2 = true ∧ T.1 = r.sh.t then (h.hrd ys).log.drop (J - I0).toNat else [], sh := r.sh }) := by
    show _ = _
    unfold Hrd.come
    rw [if_neg (by omega), if_neg (by omega), if_neg (by omega), if_neg (by omega), hT, ← hJ, ← hI0]
    rfl
  have HTL : Hid (T.2 = true → ¬ J < I0 → J ≤ I0 + (ys.length : Int)) := fun h2 h3 => by
    rw [← hT, hJ] at h2
    unfold Hrd.term at h2
    have e1 : (h.hrd ys).sh.i = I0 := hI0
    have e2 : (h.hrd ys).last = I0 + (ys.length : Int) := by rw [← hI0]; simp [Hrd.last, Hb.hrd]
    rw [e1, e2] at h2
    split at h2
    · omega
    · split at h2
      · cases h2
      · omega
  have HIR := Lib.hid wfr.sh.i
  have HHI := Lib.hid hi
  have HWS := Lib.hid wfr.sh
  have HINF := Lib.hid hin
  clear C1 hI0 hJ hT wfr hin
  obtain ⟨Q, hQ⟩ : ∃ Q, Come w gh B (h.hrd ys) r = Q := ⟨_, rfl⟩
  have HQ := Lib.hid hQ
  rw [hQ]
  have HSZ := Lib.hid hs
  have HS0 := Lib.hid s
  clear hBx hk s hQ hs
  unfold recV
  go_enter Try.func43, Try.ntmps43
  go_upto_region 1 with (fail)
  change Code.wp _ _ _ _ (w.alloc (.cells (recC r a) 48))
  generalize (w.alloc (.cells (recC r a) 48)) = W at hb1 hs1 HF HBX ⊢
  try rw [hg]
  have HS := Lib.hid hs1
  have HK := Lib.hid hb1
  have z0 := hb1.rc.z0
  have z14 := hb1.rc.z14
  rw [HJ.out] at z14
  have y3 := hs1.blk.hrd.z3
  rw [HI0.out] at y3
  have HGW : Hid (g < W.heap.size) := hb1.lt
  clear hb1 hs1 hg
  by_cases c1 : J < I0
  · have d1 : decide (J < I0) = true := decide_eq_true c1
    have HN : Hid ((h.hrd ys).come r = none) := by show _ = _; rw [HCM.out, if_pos c1]
    clear c1
    go_upto_region 2 with (fail)
    go_quiet (fail)
    go_wp2
    rw [← HQ.out]
    exact ⟨h, p, A, c, ys, by rw [HN.out]; rfl, (fun y hy => by rw [HN.out] at hy; cases hy), (HS.out.drewN nq).r (by have := HSZ.out; omega), HF.out.drewN nq⟩
  have d1 : decide (J < I0) = false := decide_eq_false c1
  have HC1 := Lib.hid c1
  clear c1
  go_upto_region 2 with (fail)
  go_quiet (fail)
  obtain ⟨V, hV⟩ : ∃ V, W.drewN nq = V := ⟨_, rfl⟩
  have HSV := Lib.hid (HS.out.drewN nq)
  have HFV := Lib.hid (HF.out.drewN nq)
  have HKV : Hid (Blk (W.drewN nq) g 48 (recC r a)) := HK.out.drewN nq
  rw [hV] at HSV HFV HKV ⊢
  clear hV HS HF HK HGW y3 z0 z14
  have HGV : Hid (g < V.heap.size) := HKV.out.lt
  obtain ⟨KW, hKW⟩ : ∃ KW : World → Prop, KW = fun w1 => Below V.heap.size V w1 := ⟨_, rfl⟩
  have KF : Hid (∀ w1, KW w1 → Below V.heap.size V w1) := fun w1 k1 => by rw [hKW] at k1; exact k1
  have KC : Hid (∀ w1 w2, KW w1 → Below w1.heap.size w1 w2 → KW w2) := fun w1 w2 k1 k2 => by
    rw [hKW] at k1 ⊢
    exact k1.trans (k2.mono k1.size)
  have hHA : ∀ w1, KW w1 → HrdAt w1 gh h p A c ys := fun w1 k1 => (HSV.out.below (KF.out w1 k1)).blk.hrd
  have F0 : ∀ p9 : InClass KW, p9.w.cell? ⟨gh, 0, none⟩ = some (.int .u64 h.bt) := fun p9 => (hHA _ p9.ok).z0
  have F1 : ∀ p9 : InClass KW, p9.w.cell? ⟨gh, 1, none⟩ = some (.int .u64 h.tm) := fun p9 => (hHA _ p9.ok).z1
  have F2 : ∀ p9 : InClass KW, p9.w.cell? ⟨gh, 2, none⟩ = some (.int .i64 h.vt) := fun p9 => (hHA _ p9.ok).z2
  have F3 : ∀ p9 : InClass KW, p9.w.cell? ⟨gh, 3, none⟩ = some (.int .u64 I0) := fun p9 => by rw [← HI0.out]; exact (hHA _ p9.ok).z3
  have F4 : ∀ p9 : InClass KW, p9.w.cell? ⟨gh, 4, none⟩ = some (.int .u64 h.sh.t) := fun p9 => (hHA _ p9.ok).z4
  have F5 : ∀ p9 : InClass KW, p9.w.cell? ⟨gh, 5, none⟩ = some (.slice p.A0 h.sh.ns.length p.c0) := fun p9 => (hHA _ p9.ok).z5
  have F6 : ∀ p9 : InClass KW, p9.w.cell? ⟨gh, 6, none⟩ = some (.int .i64 h.sh.lim) := fun p9 => (hHA _ p9.ok).z6
  have F7 : ∀ p9 : InClass KW, p9.w.cell? ⟨gh, 7, none⟩ = some (.int .u64 h.sh.nxt) := fun p9 => (hHA _ p9.ok).z7
  have F8 : ∀ p9 : InClass KW, p9.w.cell? ⟨gh, 8, none⟩ = some (.slice p.A1 h.sh.hs.length p.c1) := fun p9 => (hHA _ p9.ok).z8
  have F9 : ∀ p9 : InClass KW, p9.w.cell? ⟨gh, 9, none⟩ = some (.slice p.A2 h.sh.ls.length p.c2) := fun p9 => (hHA _ p9.ok).z9
  have F10 : ∀ p9 : InClass KW, p9.w.cell? ⟨gh, 10, none⟩ = some (.slice A ys.length c) := fun p9 => (hHA _ p9.ok).z10
  have G14 : ∀ p9 : InClass KW, p9.w.cell? ⟨g, 14, none⟩ = some (.int .u64 J) := fun p9 => by rw [← HJ.out]; exact (HKV.out.below (KF.out _ p9.ok) HGV.out).rc.z14
  obtain ⟨t, hbt⟩ : ∃ t : Int × Bool, t = T := ⟨_, rfl⟩
  obtain ⟨T1, T2⟩ := t
  subst hbt
  have CX : Hid (∀ p9 : InClass KW, Calls Try.prog 81 #[.agg #[.int .u64 h.bt, .int .u64 h.tm, .int .i64 h.vt, .int .u64 I0, .int .u64 h.sh.t, .slice p.A0 h.sh.ns.length p.c0, .int .i64 h.sh.lim, .int .u64 h.sh.nxt, .slice p.A1 h.sh.hs.length p.c1, .slice p.A2 h.sh.ls.length p.c2, .slice A ys.length c], .int .u64 J] p9.w fun e w' => e = .returned (.tuple #[.int .u64 T1, .bool T2]) ∧ Below p9.w.heap.size p9.w w') := fun p9 => by
    have := C1'.out p9.w ((HSV.out.below (KF.out _ p9.ok)).inh (by have := HSZ.out; omega))
    rw [HT.out, HI0.out, HJ.out] at this
    exact this
  have K1 : KW V.drew := by rw [hKW]; exact (Below.refl _ _).drew
  haveI NE : Nonempty (InClass KW) := ⟨⟨V.drew, K1⟩⟩
  clear hKW hHA C1'
  go_upto_region 4 with (fail)
  refine wp_region_class_lit KW (by kernel_rfl) (by kernel_rfl) K1 ?_
  repeat (go_big_quiet_step ((go_at_call 81; refine (CX.out _).mono ?_; rintro e8 w8 ⟨he, hB8⟩; exact ⟨he, ⟨w8, KC.out _ w8 (InClass.ok _) hB8⟩, rfl⟩)))
  refine wpQuiet_nil ?_
  intro _ hw9
  obtain ⟨p9, hw9⟩ := hw9
  subst hw9
  have HB9 := Lib.hid (KF.out _ p9.ok)
  clear F0 F1 F2 F3 F4 F5 F6 F7 F8 F9 F10 G14
  have hs5 := HSV.out.below HB9.out
  have HF5 := Lib.hid (HFV.out.trans (Fr.of_below HB9.out))
  have HS5 := Lib.hid hs5
  have hb5 := HKV.out.below HB9.out HGV.out
  have HK5 := Lib.hid hb5
  have z14 := hb5.rc.z14
  rw [HJ.out] at z14
  have z15 := hb5.rc.z15
  have y3 := hs5.blk.hrd.z3
  rw [HI0.out] at y3
  have y10 := hs5.blk.hrd.z10
  have f10 := hs5.blk.frozen 10
  have HBS5 : Hid (B ≤ p9.w.heap.size) := by show _ ≤ _; have := hb5.lt; omega
  clear hs5 hb5 HSV HFV HKV HGV
  generalize p9.w = W5 at z14 z15 y3 y10 f10 HF5 HS5 HK5 HBS5 HB9 ⊢
  clear HB9
  have HOW : Hid (OwE W5 B A c ys) := HS5.out.log.owe (by have := HSZ.out; omega)
  by_cases c2 : T2 = true ∧ T1 = r.sh.t
  · obtain ⟨rfl, c3⟩ := c2
    have d3 : (T1 == r.sh.t) = true := beq_iff_eq.2 c3
    have hJn := HTL.out rfl HC1.out
    have hJ0 := HC1.out
    obtain ⟨k, hk⟩ : ∃ k : Nat, (k : Int) = J - I0 := ⟨(J - I0).toNat, by omega⟩
    have hkn : k ≤ ys.length := by omega
    have hkt : (J - I0).toNat = k := by omega
    have HN : Hid ((h.hrd ys).come r = some { h.hrd ys with log := (h.hrd ys).log.drop k, sh := r.sh }) := by show _ = _; rw [HCM.out, if_neg HC1.out, if_pos ⟨rfl, c3⟩, hkt]
    have q4 : IntKind.u64.wrap (J - I0) = (k : Int) := by have := HIR.out; have := HHI.out; have := HI0.out; have := HJ.out; rw [IntKind.wrap_u64]; omega
    have hcut : ∀ W : World, (Instr.slice 30 (.slice A ys.length c) (some (.int .u64 (k : Int))) none none).run Try.prog W = .ok (.slice (if c = k then A else A.map (·.add (k * 9))) (ys.length - k) (c - k)) W := fun W => cutE_from A hkn W
    obtain ⟨S, hS⟩ : ∃ S, Value.slice A ys.length c = S := ⟨_, rfl⟩
    have hOc := HOW.out.cut k hkn
    obtain ⟨NA, hNA⟩ : ∃ NA, (if c = k then A else A.map (·.add (k * 9))) = NA := ⟨_, rfl⟩
    obtain ⟨NC, hNC⟩ : ∃ NC, c - k = NC := ⟨_, rfl⟩
    have hdl : (ys.drop k).length = ys.length - k := List.length_drop
    obtain ⟨NL, hNL⟩ : ∃ NL, ys.drop k = NL := ⟨_, rfl⟩
    rw [← hdl, hNA, hNC, hNL] at hcut
    rw [hNA, hNC, hNL] at hOc
    rw [hS] at hcut y10
    have HNL : Hid ((h.hrd ys).log.drop k = NL.map (·.e)) := by show _ = _; rw [← hNL]; simp [Hb.hrd]
    have hN2 := HN.out
    rw [HNL.out] at hN2
    have HN := Lib.hid hN2
    have HOC := Lib.hid hOc
    clear hS hk hkn hkt hJn hJ0 c3 hdl hNA hNC hNL hOc hN2
    go_upto_region 6 with (fail)
    go_still_tail 17, (by kernel_rfl)
    change wpList _ _ _ _ _ W5.drew
    have y10' : W5.drew.cell? ⟨gh, 10, none⟩ = some S := y10
    have f10' : W5.drew.frozen? ⟨gh, 10, none⟩ = false := f10
    have HS6 : Hid (HSt W5.drew gh B h p A c ys) := HS5.out.drewN 1
    have HF6 : Hid (Fr w W5.drew gh B) := HF5.out.drewN 1
    have HK6 : Hid (Blk W5.drew g 48 (recC r a)) := HK5.out.drew
    have HBS6 : Hid (B ≤ W5.drew.heap.size) := HBS5.out
    have HO6 : Hid (OwE W5.drew B NA NC NL) := HOC.out.keep ((Below.refl W5.heap.size W5).drew)
    clear y10 f10 z14 z15 y3 HS5 HF5 HK5 HBS5 HOC HOW
    generalize W5.drew = W6 at y10' f10' HS6 HF6 HK6 HBS6 HO6 ⊢
    all_goals
      go_upto_region 8 with (fail)
      change Code.wp _ _ _ _ (setsW W6 gh [(10, Value.slice NA NL.length NC)])
      have hgs := sets_grown (w := W6) gh [(10, Value.slice NA NL.length NC)]
      have hb7 : Blk (setsW W6 gh [(10, Value.slice NA NL.length NC)]) gh 32 (hrdC h p NA NC NL) := by
        have := setsW_blk (w := W6) (g := gh) (l := [Value.int .u64 h.bt, .int .u64 h.tm, .int .i64 h.vt, .int .u64 h.sh.i, .int .u64 h.sh.t, .slice p.A0 h.sh.ns.length p.c0, .int .i64 h.sh.lim, .int .u64 h.sh.nxt, .slice p.A1 h.sh.hs.length p.c1, .slice p.A2 h.sh.ls.length p.c2, .slice A ys.length c]) HS6.out.blk [(10, Value.slice NA NL.length NC)]
        unfold hrdC
        skip
        exact this
      have hF7 := HF6.out.sets [(10, Value.slice NA NL.length NC)]
      have hk7 := setsW_far HK6.out hne.symm [(10, Value.slice NA NL.length NC)]
      have hO7 : OwE (setsW W6 gh [(10, Value.slice NA NL.length NC)]) B NA NC NL := HO6.out.past hgs HS6.out.lt
      have hBs7 : B ≤ (setsW W6 gh [(10, Value.slice NA NL.length NC)]).heap.size := by rw [setsW_size]; exact HBS6.out
      have hltg := HS6.out.lt
      generalize (setsW W6 gh [(10, Value.slice NA NL.length NC)]) = W7 at hb7 hF7 hk7 hO7 hBs7 ⊢
      clear hgs y10' f10'
      have hr7 := (HINF.out W7 hF7).sh
      have X8' := hard_cloneShot_any W7 r.sh a.s hr7 HWS.out
      unfold shtV at X8'
      rw [HJ.out] at X8'
      have X8 := Lib.hid X8'
      have HB7 := Lib.hid hb7
      have HF7 := Lib.hid hF7
      have HO7 := Lib.hid hO7
      obtain ⟨z0, z1, z2, z3, z4, z5, z6, z7, z8, z9, z10, z11, z12, z13, z14, z15, z16, z17, z18, z19, z20⟩ := hk7.rc
      rw [HJ.out] at z14
      clear hr7 X8' hb7 hF7 hk7 hO7
      go_wp2_with fail
      refine X8.out.mono ?_
      rintro e w8 ⟨q, rfl, hsh, hB8⟩
      have hb8 := HB7.out.below hB8 HB7.out.lt
      have hF8 := HF7.out.trans (Fr.of_below (gh := gh) (B := B) hB8)
      have hO8 := HO7.out.keep hB8
      have hsh8 := hsh.lower hBs7
      clear z0 z1 z2 z3 z4 z5 z6 z7 z8 z9 z10 z11 z12 z13 z14 z15 z16 z17 z18 z19 z20 X8 hsh hB8 HB7 HF7 HO7
      have HF8 := Lib.hid hF8
      have HO8 := Lib.hid hO8
      have HSH8 := Lib.hid hsh8
      have HB8 := Lib.hid hb8
      obtain ⟨z0, z1, z2, z3, z4, z5, z6, z7, z8, z9, z10⟩ := hb8.hrd
      have y3 := hb8.frozen 3
      have y4 := hb8.frozen 4
      have y5 := hb8.frozen 5
      have y6 := hb8.frozen 6
      have y7 := hb8.frozen 7
      have y8 := hb8.frozen 8
      have y9 := hb8.frozen 9
      clear hF8 hO8 hsh8 hb8
      go_wp2
      rw [← HQ.out]
      have hgs := sets_grown (w := w8) gh [(3, Value.int .u64 J), (4, .int .u64 r.sh.t), (5, .slice q.A0 r.sh.ns.length q.c0), (6, .int .i64 r.sh.lim), (7, .int .u64 r.sh.nxt), (8, .slice q.A1 r.sh.hs.length q.c1), (9, .slice q.A2 r.sh.ls.length q.c2)]
      refine ⟨⟨h.bt, h.tm, h.vt, r.sh⟩, q, NA, NC, NL, by rw [HN.out]; rfl, (fun y hy => by rw [HN.out] at hy; injection hy), ⟨?_, HSH8.out.past hgs hltg, HO8.out.past hgs hltg⟩, ?_⟩
      · have hC : hrdC ⟨h.bt, h.tm, h.vt, r.sh⟩ q NA NC NL = #[.int .u64 h.bt, .int .u64 h.tm, .int .i64 h.vt, .int .u64 J, .int .u64 r.sh.t, .slice q.A0 r.sh.ns.length q.c0, .int .i64 r.sh.lim, .int .u64 r.sh.nxt, .slice q.A1 r.sh.hs.length q.c1, .slice q.A2 r.sh.ls.length q.c2, .slice NA NL.length NC] := by unfold hrdC; rw [HJ.out]
        rw [hC]
        exact setsW_blk (w := w8) (g := gh) (l := [Value.int .u64 h.bt, .int .u64 h.tm, .int .i64 h.vt, .int .u64 h.sh.i, .int .u64 h.sh.t, .slice p.A0 h.sh.ns.length p.c0, .int .i64 h.sh.lim, .int .u64 h.sh.nxt, .slice p.A1 h.sh.hs.length p.c1, .slice p.A2 h.sh.ls.length p.c2, .slice NA NL.length NC]) HB8.out [(3, Value.int .u64 J), (4, .int .u64 r.sh.t), (5, .slice q.A0 r.sh.ns.length q.c0), (6, .int .i64 r.sh.lim), (7, .int .u64 r.sh.nxt), (8, .slice q.A1 r.sh.hs.length q.c1), (9, .slice q.A2 r.sh.ls.length q.c2)]
      · exact HF8.out.sets [(3, Value.int .u64 J), (4, .int .u64 r.sh.t), (5, .slice q.A0 r.sh.ns.length q.c0), (6, .int .i64 r.sh.lim), (7, .int .u64 r.sh.nxt), (8, .slice q.A1 r.sh.hs.length q.c1), (9, .slice q.A2 r.sh.ls.length q.c2)]
  · have HN : Hid ((h.hrd ys).come r = some { h.hrd ys with log := [], sh := r.sh }) := by show _ = _; rw [HCM.out, if_neg HC1.out, if_neg c2]
    have hcs : T2 = false ∨ (T2 = true ∧ (T1 == r.sh.t) = false) := by
      cases T2
      · exact .inl rfl
      · exact .inr ⟨rfl, beq_eq_false_iff_ne.2 (fun e => c2 ⟨rfl, e⟩)⟩
    clear c2
    rcases hcs with rfl | ⟨rfl, d3⟩
    all_goals
      have y10' := y10
      have f10' := f10
      have HS6 := HS5
      have HF6 := HF5
      have HK6 := HK5
      have HBS6 := HBS5
      have HO6 : Hid (OwE W5 B none 0 []) := ⟨InE.nil, (fun _ e => by cases e), (fun x hx => by cases hx)⟩
      clear y10 f10 z14 y3 HS5 HF5 HK5 HBS5 HOW
      go_upto_region 8 with (fail)
      change Code.wp _ _ _ _ (setsW W5 gh [(10, Value.slice none 0 0)])
      have hgs := sets_grown (w := W5) gh [(10, Value.slice none 0 0)]
      have hb7 : Blk (setsW W5 gh [(10, Value.slice none 0 0)]) gh 32 (hrdC h p none 0 ([] : List Ec)) := by
        have := setsW_blk (w := W5) (g := gh) (l := [Value.int .u64 h.bt, .int .u64 h.tm, .int .i64 h.vt, .int .u64 h.sh.i, .int .u64 h.sh.t, .slice p.A0 h.sh.ns.length p.c0, .int .i64 h.sh.lim, .int .u64 h.sh.nxt, .slice p.A1 h.sh.hs.length p.c1, .slice p.A2 h.sh.ls.length p.c2, .slice A ys.length c]) HS6.out.blk [(10, Value.slice none 0 0)]
        unfold hrdC
        skip
        exact this
      have hF7 := HF6.out.sets [(10, Value.slice none 0 0)]
      have hk7 := setsW_far HK6.out hne.symm [(10, Value.slice none 0 0)]
      have hO7 : OwE (setsW W5 gh [(10, Value.slice none 0 0)]) B none 0 ([] : List Ec) := HO6.out.past hgs HS6.out.lt
      have hBs7 : B ≤ (setsW W5 gh [(10, Value.slice none 0 0)]).heap.size := by rw [setsW_size]; exact HBS6.out
      have hltg := HS6.out.lt
      generalize (setsW W5 gh [(10, Value.slice none 0 0)]) = W7 at hb7 hF7 hk7 hO7 hBs7 ⊢
      clear hgs y10' f10'
      have hr7 := (HINF.out W7 hF7).sh
      have X8' := hard_cloneShot_any W7 r.sh a.s hr7 HWS.out
      unfold shtV at X8'
      rw [HJ.out] at X8'
      have X8 := Lib.hid X8'
      have HB7 := Lib.hid hb7
      have HF7 := Lib.hid hF7
      have HO7 := Lib.hid hO7
      obtain ⟨z0, z1, z2, z3, z4, z5, z6, z7, z8, z9, z10, z11, z12, z13, z14, z15, z16, z17, z18, z19, z20⟩ := hk7.rc
      rw [HJ.out] at z14
      clear hr7 X8' hb7 hF7 hk7 hO7
      go_wp2_with fail
      refine X8.out.mono ?_
      rintro e w8 ⟨q, rfl, hsh, hB8⟩
      have hb8 := HB7.out.below hB8 HB7.out.lt
      have hF8 := HF7.out.trans (Fr.of_below (gh := gh) (B := B) hB8)
      have hO8 := HO7.out.keep hB8
      have hsh8 := hsh.lower hBs7
      clear z0 z1 z2 z3 z4 z5 z6 z7 z8 z9 z10 z11 z12 z13 z14 z15 z16 z17 z18 z19 z20 X8 hsh hB8 HB7 HF7 HO7
      have HF8 := Lib.hid hF8
      have HO8 := Lib.hid hO8
      have HSH8 := Lib.hid hsh8
      have HB8 := Lib.hid hb8
      obtain ⟨z0, z1, z2, z3, z4, z5, z6, z7, z8, z9, z10⟩ := hb8.hrd
      have y3 := hb8.frozen 3
      have y4 := hb8.frozen 4
      have y5 := hb8.frozen 5
      have y6 := hb8.frozen 6
      have y7 := hb8.frozen 7
      have y8 := hb8.frozen 8
      have y9 := hb8.frozen 9
      clear hF8 hO8 hsh8 hb8
      go_wp2
      rw [← HQ.out]
      have hgs := sets_grown (w := w8) gh [(3, Value.int .u64 J), (4, .int .u64 r.sh.t), (5, .slice q.A0 r.sh.ns.length q.c0), (6, .int .i64 r.sh.lim), (7, .int .u64 r.sh.nxt), (8, .slice q.A1 r.sh.hs.length q.c1), (9, .slice q.A2 r.sh.ls.length q.c2)]
      refine ⟨⟨h.bt, h.tm, h.vt, r.sh⟩, q, none, 0, ([] : List Ec), by rw [HN.out]; rfl, (fun y hy => by rw [HN.out] at hy; injection hy), ⟨?_, HSH8.out.past hgs hltg, HO8.out.past hgs hltg⟩, ?_⟩
      · have hC : hrdC ⟨h.bt, h.tm, h.vt, r.sh⟩ q none 0 ([] : List Ec) = #[.int .u64 h.bt, .int .u64 h.tm, .int .i64 h.vt, .int .u64 J, .int .u64 r.sh.t, .slice q.A0 r.sh.ns.length q.c0, .int .i64 r.sh.lim, .int .u64 r.sh.nxt, .slice q.A1 r.sh.hs.length q.c1, .slice q.A2 r.sh.ls.length q.c2, .slice none ([] : List Ec).length 0] := by unfold hrdC; rw [HJ.out]
        rw [hC]
        exact setsW_blk (w := w8) (g := gh) (l := [Value.int .u64 h.bt, .int .u64 h.tm, .int .i64 h.vt, .int .u64 h.sh.i, .int .u64 h.sh.t, .slice p.A0 h.sh.ns.length p.c0, .int .i64 h.sh.lim, .int .u64 h.sh.nxt, .slice p.A1 h.sh.hs.length p.c1, .slice p.A2 h.sh.ls.length p.c2, .slice none ([] : List Ec).length 0]) HB8.out [(3, Value.int .u64 J), (4, .int .u64 r.sh.t), (5, .slice q.A0 r.sh.ns.length q.c0), (6, .int .i64 r.sh.lim), (7, .int .u64 r.sh.nxt), (8, .slice q.A1 r.sh.hs.length q.c1), (9, .slice q.A2 r.sh.ls.length q.c2)]
      · exact HF8.out.sets [(3, Value.int .u64 J), (4, .int .u64 r.sh.t), (5, .slice q.A0 r.sh.ns.length q.c0), (6, .int .i64 r.sh.lim), (7, .int .u64 r.sh.nxt), (8, .slice q.A1 r.sh.hs.length q.c1), (9, .slice q.A2 r.sh.ls.length q.c2)]
end Go.Proofs.Ytadkkhbbempaaaa

/- A record done to what lasts: the code's Do. -/
namespace Go.Proofs.Ytadkkhbbempaaaa
set_option maxRecDepth 100000
open Go.RowKit

theorem hard_come_any (w : World) (gh B : Nat) (h : Hb) (p : Sa) (A : Option Addr) (c : Nat) (ys : List Ec) (r : Rc) (a : Ra) (s : HSt w gh B h p A c ys) (hB : B ≤ w.heap.size) (hs : (ys.length + 1) * 88 ≤ 140737488355328) (hi : 0 ≤ h.sh.i ∧ h.sh.i ≤ 4611686018427387904) (hin : ∀ w1, Fr w w1 gh B → InR w1 r a) (wfr : r.Wf) (m : r.May) :
    Calls Try.prog 43 #[.pointer (some ⟨gh, 0, none⟩), recV r a] w (Come w gh B (h.hrd ys) r) := by
  rcases m.2 with k | k | k | k | k
  · exact hard_come_1 w gh B h p A c ys r a s hB hs k.1
  · exact hard_come_2 w gh B h p A c ys r a s hB hs k.1
  · exact hard_come_3 w gh B h p A c ys r a s hB hs hi (hin w Fr.refl) wfr k.1
  · exact hard_come_4 w gh B h p A c ys r a s hB hs hi wfr k.1
  · exact hard_come_5 w gh B h p A c ys r a s hB hs hi hin wfr k.1
theorem Hrd.come_wf {h y : Hrd} {r : Rc} (wf : h.Wf) (wfr : r.Wf) (e : h.come r = some y) : y.Wf := by
  unfold Hrd.come at e
  split at e
  · split at e
    · cases e
    · injection e with e; subst e; exact ⟨wfr.bt, wf.tm, wf.vt, wf.sh, wf.log⟩
  · split at e
    · split at e
      · cases e
      · injection e with e; subst e; exact ⟨wf.bt, wfr.tm, wfr.v, wf.sh, wf.log⟩
    · split at e
      · split at e
        · injection e with e; subst e
          refine ⟨wf.bt, wf.tm, wf.vt, wf.sh, fun x hx => ?_⟩
          rcases List.mem_append.1 hx with q | q
          · exact wf.log x q
          · rw [List.mem_singleton] at q
            subst q
            exact wfr.en
        · cases e
      · split at e
        · split at e
          · cases e
          · injection e with e; subst e; exact ⟨wf.bt, wf.tm, wf.vt, wf.sh, fun x hx => wf.log x (List.mem_of_mem_take hx)⟩
        · split at e
          · cases e
          · injection e with e; subst e
            refine ⟨wf.bt, wf.tm, wf.vt, wfr.sh, fun x hx => ?_⟩
            simp only at hx
            split at hx
            · exact wf.log x (List.mem_of_mem_drop hx)
            · cases hx
/-- What Do answers, and what it leaves. -/
def DoE (w : World) (H : Hrd) (r : Rc) (e : Ending) (w' : World) : Prop :=
  ∃ h' p' A' c' ys', e = .returned (.tuple #[hrdV h' p' A' c' ys', .int .i64 (errRec (H.done r).isSome)]) ∧ h'.hrd ys' = (H.done r).getD (hb0.hrd []) ∧ OwH w' w.heap.size h' p' A' c' ys' ∧ Below w.heap.size w w'
theorem ow0 (w : World) (B : Nat) : OwH w B hb0 sa0 none 0 [] :=
  ⟨⟨⟨InN.nil, (fun _ e => by cases e)⟩, ⟨InS.nil, (fun _ e => by cases e)⟩, ⟨InS.nil, (fun _ e => by cases e)⟩⟩, ⟨InE.nil, (fun _ e => by cases e), (fun x hx => by cases hx)⟩⟩

set_option maxHeartbeats 8000000 in
theorem hard_Do_any (w : World) (h : Hb) (p : Sa) (PA : Option Addr) (PC : Nat) (xs : List Ec) (r : Rc) (a : Ra) (hin : InH w h p PA PC xs) (wf : (h.hrd xs).Wf) (hinr : InR w r a) (wfr : r.Wf) (hs : (xs.length + 1) * 88 ≤ 140737488355328) :
    Calls Try.prog 21 #[hrdV h p PA PC xs, recV r a] w (DoE w (h.hrd xs) r) := by
  obtain ⟨g, hg⟩ : ∃ g, w.heap.size = g := ⟨_, rfl⟩
  obtain ⟨g1, hg1⟩ : ∃ g1, g + 1 = g1 := ⟨_, rfl⟩
  obtain ⟨g2, hg2⟩ : ∃ g2, g1 + 1 = g2 := ⟨_, rfl⟩
  have hs1 : (w.alloc (.cells (hrdC h p PA PC xs) 32)).heap.size = g1 := by simp [hg, hg1]
  have hs2 : ((w.alloc (.cells (hrdC h p PA PC xs) 32)).alloc (.cells (recC r a) 48)).heap.size = g2 := by simp [hg]; omega
  have hb0 : Blk (((w.alloc (.cells (hrdC h p PA PC xs) 32)).alloc (.cells (recC r a) 48)).alloc (.cells (hrdC Go.Proofs.Ytadkkhbbempaaaa.hb0 sa0 none 0 []) 32)) g 32 (hrdC h p PA PC xs) := ((hg ▸ Blk.new w 32 (hrdC h p PA PC xs) : Blk (w.alloc (.cells (hrdC h p PA PC xs) 32)) g 32 (hrdC h p PA PC xs)).alloc _).alloc _
  have hr0 : Blk (((w.alloc (.cells (hrdC h p PA PC xs) 32)).alloc (.cells (recC r a) 48)).alloc (.cells (hrdC Go.Proofs.Ytadkkhbbempaaaa.hb0 sa0 none 0 []) 32)) g1 48 (recC r a) := (hs1 ▸ Blk.new (w.alloc (.cells (hrdC h p PA PC xs) 32)) 48 (recC r a) : Blk ((w.alloc (.cells (hrdC h p PA PC xs) 32)).alloc (.cells (recC r a) 48)) g1 48 (recC r a)).alloc _
  have hz0 : Blk (((w.alloc (.cells (hrdC h p PA PC xs) 32)).alloc (.cells (recC r a) 48)).alloc (.cells (hrdC Go.Proofs.Ytadkkhbbempaaaa.hb0 sa0 none 0 []) 32)) g2 32 (hrdC Go.Proofs.Ytadkkhbbempaaaa.hb0 sa0 none 0 []) := by
    have := Blk.new ((w.alloc (.cells (hrdC h p PA PC xs) 32)).alloc (.cells (recC r a) 48)) 32 (hrdC Go.Proofs.Ytadkkhbbempaaaa.hb0 sa0 none 0 [])
    rw [hs2] at this
    exact this
  have hB0 : Below g w (((w.alloc (.cells (hrdC h p PA PC xs) 32)).alloc (.cells (recC r a) 48)).alloc (.cells (hrdC Go.Proofs.Ytadkkhbbempaaaa.hb0 sa0 none 0 []) 32)) := (((Below.refl _ _).alloc (by omega) _).alloc (by rw [hs1]; omega) _).alloc (by rw [hs2]; omega) _
  have hsz : g + 3 ≤ (((w.alloc (.cells (hrdC h p PA PC xs) 32)).alloc (.cells (recC r a) 48)).alloc (.cells (hrdC Go.Proofs.Ytadkkhbbempaaaa.hb0 sa0 none 0 []) 32)).heap.size := by simp [hg]
  have HIN := Lib.hid hin
  have HINR := Lib.hid hinr
  have HWF := Lib.hid wf
  have HWR := Lib.hid wfr
  have HSZ := Lib.hid hs
  have C1 := fun W h1 => hard_Check_any W h p PA PC xs h1 wf
  have C2 := fun W h1 => hard_may_any W r a h1 wfr
  have C3 := fun W h1 => hard_clone_any W h p PA PC xs h1 wf
  unfold hrdV at C1 C3
  unfold recV at C2
  have C1' := Lib.hid C1
  have C2' := Lib.hid C2
  have C3' := Lib.hid C3
  obtain ⟨Q, hQ⟩ : ∃ Q, DoE w (h.hrd xs) r = Q := ⟨_, rfl⟩
  have HQ := Lib.hid hQ
  rw [hQ]
  have HG := Lib.hid hg
  clear hs1 hs2 hin hinr wf wfr hs C1 C2 C3 hQ
  unfold hrdV recV
  go_enter Try.func21, Try.ntmps21
  go_upto_region 1 with (fail)
  change Code.wp _ _ _ _ (((w.alloc (.cells (hrdC h p PA PC xs) 32)).alloc (.cells (recC r a) 48)).alloc (.cells (hrdC Go.Proofs.Ytadkkhbbempaaaa.hb0 sa0 none 0 []) 32))
  generalize (((w.alloc (.cells (hrdC h p PA PC xs) 32)).alloc (.cells (recC r a) 48)).alloc (.cells (hrdC Go.Proofs.Ytadkkhbbempaaaa.hb0 sa0 none 0 []) 32)) = W0 at hb0 hr0 hz0 hB0 hsz ⊢
  try rw [hg2]
  have X1' := C1'.out W0 (HIN.out.keep (hg ▸ hB0))
  have HB0 := Lib.hid hB0
  have HR0 := Lib.hid hr0
  have HZ0 := Lib.hid hz0
  have HK0 := Lib.hid hb0
  clear hB0 hr0 hz0 hg C1'
  by_cases ok : (h.hrd xs).Ok
  rotate_left
  · rw [rec_bad ok] at X1'
    have X1 := Lib.hid X1'
    have HN : Hid ((h.hrd xs).done r = none) := by show _ = _; unfold Hrd.done; rw [if_neg (fun q => ok q.1)]
    clear ok X1'
    go_wp2_with (refine wpList_load_row rfl 32 _ rfl g rfl 32 (hrdC h p PA PC xs) hb0 _ Try.underlying32 rfl info_Hard ?_)
    refine X1.out.mono ?_
    rintro e w1 ⟨rfl, hB1⟩
    have HZ1 := Lib.hid (HZ0.out.below hB1 HZ0.out.lt)
    have HB1 := Lib.hid (HB0.out.trans (hB1.mono (by omega)))
    clear hB1 hb0 X1 HZ0 HB0
    go_wp2_with (first | (refine wpList_store_row rfl 32 _ _ rfl g2 (hrdC Go.Proofs.Ytadkkhbbempaaaa.hb0 sa0 none 0 []) rfl rfl 32 (hrdC Go.Proofs.Ytadkkhbbempaaaa.hb0 sa0 none 0 []) HZ1.out info_Hard rfl (hrdC_one _ _ _ _ _) ?_))
    (try simp only [Exit.inBlock, Exit.then])
    refine bodyPost_ret (results_cell rfl rfl (run_loadVar_row _ g2 32 32 _ (0, 0) _ (Blk.row (cs := (hrdC Go.Proofs.Ytadkkhbbempaaaa.hb0 sa0 none 0 [])) HZ1.out) Try.underlying32 rfl info_Hard)) rfl ?_
    rw [← HQ.out]
    exact ⟨Go.Proofs.Ytadkkhbbempaaaa.hb0, sa0, none, 0, [], by rw [HN.out]; rfl, by rw [HN.out]; rfl, ow0 _ _, HG.out.symm ▸ row_below HB1.out (by omega) _⟩
  rw [rec_good ok] at X1'
  have X1 := Lib.hid X1'
  have HOK := Lib.hid ok
  clear ok X1'
  by_cases m : r.May
  rotate_left
  · have HN : Hid ((h.hrd xs).done r = none) := by show _ = _; unfold Hrd.done; rw [if_neg (fun q => m q.2)]
    have dm : decide r.May = false := decide_eq_false m
    rw [dm] at C2'
    clear m dm
    go_wp2_with (refine wpList_load_row rfl 32 _ rfl g rfl 32 (hrdC h p PA PC xs) hb0 _ Try.underlying32 rfl info_Hard ?_)
    refine X1.out.mono ?_
    rintro e w1 ⟨rfl, hB1⟩
    have HZ1 := Lib.hid (HZ0.out.below hB1 HZ0.out.lt)
    have hr1 := HR0.out.below hB1 HR0.out.lt
    have hB1w := HB0.out.trans (hB1.mono (by omega))
    have X2 := Lib.hid (C2'.out w1 (HINR.out.keep (HG.out ▸ hB1w)))
    have HB1 := Lib.hid hB1w
    have hz1 := hB1.size
    clear hB1 hB1w hb0 X1 HZ0 HB0 C2'
    go_wp2_with (refine wpList_load_want (by rfl) 48 _ rfl g1 rfl 48 (recC r a) hr1 _ Try.underlying48 rfl info_Rec ?_)
    refine X2.out.mono ?_
    rintro e w2 ⟨rfl, hB2⟩
    have HZ2 := Lib.hid (HZ1.out.below hB2 HZ1.out.lt)
    have HB2 := Lib.hid (HB1.out.trans (hB2.mono (by omega)))
    clear hB2 hr1 X2 HZ1 HB1
    go_wp2_with (first | (refine wpList_store_row rfl 32 _ _ rfl g2 (hrdC Go.Proofs.Ytadkkhbbempaaaa.hb0 sa0 none 0 []) rfl rfl 32 (hrdC Go.Proofs.Ytadkkhbbempaaaa.hb0 sa0 none 0 []) HZ2.out info_Hard rfl (hrdC_one _ _ _ _ _) ?_))
    (try simp only [Exit.inBlock, Exit.then])
    refine bodyPost_ret (results_cell rfl rfl (run_loadVar_row _ g2 32 32 _ (0, 0) _ (Blk.row (cs := (hrdC Go.Proofs.Ytadkkhbbempaaaa.hb0 sa0 none 0 [])) HZ2.out) Try.underlying32 rfl info_Hard)) rfl ?_
    rw [← HQ.out]
    exact ⟨Go.Proofs.Ytadkkhbbempaaaa.hb0, sa0, none, 0, [], by rw [HN.out]; rfl, by rw [HN.out]; rfl, ow0 _ _, HG.out.symm ▸ row_below HB2.out (by omega) _⟩
  have dm : decide r.May = true := decide_eq_true m
  have HM := Lib.hid m
  rw [dm] at C2'
  clear m dm
  go_wp2_with (refine wpList_load_row rfl 32 _ rfl g rfl 32 (hrdC h p PA PC xs) hb0 _ Try.underlying32 rfl info_Hard ?_)
  refine X1.out.mono ?_
  rintro e w1 ⟨rfl, hB1⟩
  have HZ1 := Lib.hid (HZ0.out.below hB1 HZ0.out.lt)
  have hr1 := HR0.out.below hB1 HR0.out.lt
  have HK1 := Lib.hid (HK0.out.below hB1 HK0.out.lt)
  have hB1w := HB0.out.trans (hB1.mono (by omega))
  have X2 := Lib.hid (C2'.out w1 (HINR.out.keep (HG.out ▸ hB1w)))
  have HB1 := Lib.hid hB1w
  have hz1 := hB1.size
  clear hB1 hB1w hb0 X1 HZ0 HB0 C2' HR0 HK0
  go_wp2_with (refine wpList_load_want (by rfl) 48 _ rfl g1 rfl 48 (recC r a) hr1 _ Try.underlying48 rfl info_Rec ?_)
  refine X2.out.mono ?_
  rintro e w2 ⟨rfl, hB2⟩
  have HZ2 := Lib.hid (HZ1.out.below hB2 HZ1.out.lt)
  have HR2 := Lib.hid (hr1.below hB2 hr1.lt)
  have hb2 := HK1.out.below hB2 HK1.out.lt
  have hB2w := HB1.out.trans (hB2.mono (by omega))
  have X3 := Lib.hid (C3'.out w2 (HIN.out.keep (HG.out ▸ hB2w)))
  have HB2 := Lib.hid hB2w
  have hz2 := hB2.size
  have HK2 := Lib.hid hb2
  clear hB2 hB2w hr1 X2 HZ1 HB1 HK1 C3'
  go_wp2_with (refine wpList_load_row rfl 32 _ rfl g rfl 32 (hrdC h p PA PC xs) hb2 _ Try.underlying32 rfl info_Hard ?_)
  refine X3.out.mono ?_
  rintro e w3 ⟨q, A, c, ys, rfl, hym, hlog, hshf, hB3⟩
  have hz3 := hB3.size
  obtain ⟨B, hBB⟩ : ∃ B, w2.heap.size = B := ⟨_, rfl⟩
  rw [hBB] at hlog hshf hB3 hz3 hz2
  have hyl : ys.length = xs.length := by
    have := congrArg List.length hym
    simpa using this
  have hhy : h.hrd ys = h.hrd xs := by unfold Hb.hrd; rw [hym]
  have hb3 : Blk w3 g 32 (hrdC h p PA PC xs) := HK2.out.below hB3 (by omega)
  have hS4 : HSt (w3.setRow g (hrdC h q A c ys)) g B h q A c ys := ⟨Blk.row hb3, hlog.past (row_grown g _) (by omega), hshf.past (row_grown g _) (by omega), by omega⟩
  have hr4 : Blk (w3.setRow g (hrdC h q A c ys)) g1 48 (recC r a) := Blk.rowFar (HR2.out.below hB3 (by omega)) (by omega)
  have hz4 : Blk (w3.setRow g (hrdC h q A c ys)) g2 32 (hrdC Go.Proofs.Ytadkkhbbempaaaa.hb0 sa0 none 0 []) := Blk.rowFar (HZ2.out.below hB3 (by omega)) (by omega)
  have hB4 : Below g w (w3.setRow g (hrdC h q A c ys)) := row_below (HB2.out.trans (hB3.mono (by omega))) (Nat.le_refl _) _
  have hsz4 : B ≤ (w3.setRow g (hrdC h q A c ys)).heap.size := by rw [row_size]; exact hz3
  have HB3 := Lib.hid hb3
  have HHY := Lib.hid hhy
  have HYL := Lib.hid hyl
  clear hb2 hb3 hlog hshf hB3 X3 HZ2 HR2 HB2 HK2 hBB hym hhy hyl
  go_upto_region 4 with (refine wpList_store_row rfl 32 _ _ rfl g (hrdC h q A c ys) rfl rfl 32 (hrdC h p PA PC xs) HB3.out info_Hard rfl (hrdC_one _ _ _ _ _) ?_)
  change Code.wp _ _ _ _ (w3.setRow g (hrdC h q A c ys))
  generalize (w3.setRow g (hrdC h q A c ys)) = W4 at hS4 hr4 hz4 hB4 hsz4 ⊢
  have X4' := hard_come_any W4 g B h q A c ys r a hS4 hsz4 (by rw [HYL.out]; exact HSZ.out) ⟨HWF.out.sh.i.1, HOK.out.i⟩ (fun w1 f => HINR.out.keep (HG.out.symm ▸ Fr.below hB4 f (by omega) (Nat.le_refl _) (by omega))) HWR.out HM.out
  rw [HHY.out] at X4'
  unfold recV at X4'
  have X4 := Lib.hid X4'
  have HZ4 := Lib.hid hz4
  have HB4 := Lib.hid hB4
  have HSz4 := Lib.hid hsz4
  clear X4' hS4 hz4 hB4 hsz4 HB3
  go_wp2_with (refine wpList_load_row rfl 48 _ rfl g1 rfl 48 (recC r a) hr4 _ Try.underlying48 rfl info_Rec ?_)
  refine X4.out.mono ?_
  rintro e w5 ⟨h', p', A', c', ys', rfl, hcm, hsr, hfr⟩
  have HZ5 := Lib.hid (hfr.blk HZ4.out (by omega) (by omega))
  have hB5 := Fr.below HB4.out hfr (show g ≤ B by omega) (Nat.le_refl _) (by have := HSz4.out; omega)
  have HB5 := Lib.hid hB5
  have HSR := Lib.hid hsr
  have HCM := Lib.hid hcm
  have hz5 : g + 3 ≤ w5.heap.size := by have := hfr.size; have := HSz4.out; omega
  have hb5 := hsr.blk
  clear hr4 hfr hB5 hsr hcm X4 HZ4 HB4 HSz4
  obtain ⟨CM, hCM⟩ : ∃ CM, (h.hrd xs).come r = CM := ⟨_, rfl⟩
  have HC := Lib.hid hCM
  rw [hCM]
  clear hCM
  cases CM with
  | none =>
    have HN : Hid ((h.hrd xs).done r = none) := by show _ = _; unfold Hrd.done; rw [if_pos ⟨HOK.out, HM.out⟩, HC.out]
    clear hb5
    go_wp2_with (first | (refine wpList_store_row rfl 32 _ _ rfl g2 (hrdC Go.Proofs.Ytadkkhbbempaaaa.hb0 sa0 none 0 []) rfl rfl 32 (hrdC Go.Proofs.Ytadkkhbbempaaaa.hb0 sa0 none 0 []) HZ5.out info_Hard rfl (hrdC_one _ _ _ _ _) ?_))
    (try simp only [Exit.inBlock, Exit.then])
    refine bodyPost_ret (results_cell rfl rfl (run_loadVar_row _ g2 32 32 _ (0, 0) _ (Blk.row (cs := (hrdC Go.Proofs.Ytadkkhbbempaaaa.hb0 sa0 none 0 [])) HZ5.out) Try.underlying32 rfl info_Hard)) rfl ?_
    rw [← HQ.out]
    exact ⟨Go.Proofs.Ytadkkhbbempaaaa.hb0, sa0, none, 0, [], by rw [HN.out]; rfl, by rw [HN.out]; rfl, ow0 _ _, HG.out.symm ▸ row_below HB5.out (by omega) _⟩
  | some y =>
    have hy := HCM.out y HC.out
    have hwy : y.Wf := Hrd.come_wf HWF.out HWR.out HC.out
    have X5' := hard_Check_any w5 h' p' A' c' ys' HSR.out.own.inh (by rw [hy]; exact hwy)
    rw [hy] at X5'
    unfold hrdV at X5'
    have HY := Lib.hid hy
    clear hy hwy
    by_cases oky : y.Ok
    rotate_left
    · rw [rec_bad oky] at X5'
      have X5 := Lib.hid X5'
      have HN : Hid ((h.hrd xs).done r = none) := by show _ = _; unfold Hrd.done; rw [if_pos ⟨HOK.out, HM.out⟩, HC.out]; simp only; rw [if_neg oky]
      clear oky X5'
      go_wp2_with (refine wpList_load_want (by rfl) 32 _ rfl g rfl 32 (hrdC h' p' A' c' ys') hb5 _ Try.underlying32 rfl info_Hard ?_)
      refine X5.out.mono ?_
      rintro e w6 ⟨rfl, hB6⟩
      have HZ6 := Lib.hid (HZ5.out.below hB6 HZ5.out.lt)
      have HB6 := Lib.hid (HB5.out.trans (hB6.mono (by omega)))
      clear hB6 hb5 X5 HZ5 HB5
      go_wp2_with (first | (refine wpList_store_row rfl 32 _ _ rfl g2 (hrdC Go.Proofs.Ytadkkhbbempaaaa.hb0 sa0 none 0 []) rfl rfl 32 (hrdC Go.Proofs.Ytadkkhbbempaaaa.hb0 sa0 none 0 []) HZ6.out info_Hard rfl (hrdC_one _ _ _ _ _) ?_))
      (try simp only [Exit.inBlock, Exit.then])
      refine bodyPost_ret (results_cell rfl rfl (run_loadVar_row _ g2 32 32 _ (0, 0) _ (Blk.row (cs := (hrdC Go.Proofs.Ytadkkhbbempaaaa.hb0 sa0 none 0 [])) HZ6.out) Try.underlying32 rfl info_Hard)) rfl ?_
      rw [← HQ.out]
      exact ⟨Go.Proofs.Ytadkkhbbempaaaa.hb0, sa0, none, 0, [], by rw [HN.out]; rfl, by rw [HN.out]; rfl, ow0 _ _, HG.out.symm ▸ row_below HB6.out (by omega) _⟩
    · rw [rec_good oky] at X5'
      have X5 := Lib.hid X5'
      have HN : Hid ((h.hrd xs).done r = some y) := Hrd.done_of HOK.out HM.out HC.out oky
      clear oky X5'
      go_wp2_with (refine wpList_load_want (by rfl) 32 _ rfl g rfl 32 (hrdC h' p' A' c' ys') hb5 _ Try.underlying32 rfl info_Hard ?_)
      refine X5.out.mono ?_
      rintro e w6 ⟨rfl, hB6⟩
      have HZ6 := Lib.hid (HZ5.out.below hB6 HZ5.out.lt)
      have HB6 := Lib.hid (HB5.out.trans (hB6.mono (by omega)))
      have hb6 := hb5.below hB6 hb5.lt
      have HO6 := Lib.hid (HSR.out.own.keep hB6)
      clear hB6 hb5 X5 HZ5 HB5 HSR
      go_wp2_with (first | (refine wpList_load_row rfl 32 _ rfl g rfl 32 (hrdC h' p' A' c' ys') hb6 _ Try.underlying32 rfl info_Hard ?_) | (refine wpList_store_row rfl 32 _ _ rfl g2 (hrdC h' p' A' c' ys') rfl rfl 32 (hrdC Go.Proofs.Ytadkkhbbempaaaa.hb0 sa0 none 0 []) HZ6.out info_Hard rfl (hrdC_one _ _ _ _ _) ?_))
      (try simp only [Exit.inBlock, Exit.then])
      refine bodyPost_ret (results_cell rfl rfl (run_loadVar_row _ g2 32 32 _ (0, 0) _ (Blk.row (cs := hrdC h' p' A' c' ys') HZ6.out) Try.underlying32 rfl info_Hard)) rfl ?_
      rw [← HQ.out]
      exact ⟨h', p', A', c', ys', by rw [HN.out]; rfl, by rw [HN.out]; exact HY.out, (HO6.out.past (row_grown g2 _) (by omega)).lower (by have := HG.out; omega), HG.out.symm ▸ row_below HB6.out (by omega) _⟩
end Go.Proofs.Ytadkkhbbempaaaa

/- For the laws over Do: what records make, plain; the example; a struct read out of a row. -/
namespace Go.Proofs.Ytadkkhbbempaaaa
set_option maxRecDepth 100000
open Go.RowKit

/-! ### Plain -/
theorem Hrd.done_wf {h y : Hrd} {r : Rc} (wf : h.Wf) (wfr : r.Wf) (e : h.done r = some y) : y.Wf := Hrd.come_wf wf wfr (Hrd.done_some e).2.2.1
theorem Hrd.come_len {h y : Hrd} {r : Rc} (e : h.come r = some y) : y.log.length ≤ h.log.length + 1 := by
  unfold Hrd.come at e
  (repeat' split at e) <;> first
    | (cases e; done)
    | (injection e with e; subst e; simp only [List.length_append, List.length_take, List.length_singleton]; omega)
    | (injection e with e; subst e; simp only [List.length_drop, List.length_nil]; omega)
theorem Hrd.all_len {h y : Hrd} {l : List Rc} (e : h.all l = some y) : y.log.length ≤ h.log.length + l.length := by
  induction l generalizing h with
  | nil => injection e with e; subst e; exact Nat.le_refl _
  | cons r l ih =>
    unfold Hrd.all at e
    cases hd : h.done r with
    | none => rw [hd] at e; cases e
    | some x =>
      rw [hd] at e
      have h1 := ih e
      have h2 := Hrd.come_len (Hrd.done_some hd).2.2.1
      simp only [List.length_cons]
      omega
theorem Hrd.all_wf {h y : Hrd} {l : List Rc} (wf : h.Wf) (wfl : ∀ r ∈ l, r.Wf) (e : h.all l = some y) : y.Wf := by
  induction l generalizing h with
  | nil => injection e with e; subst e; exact wf
  | cons r l ih =>
    unfold Hrd.all at e
    cases hd : h.done r with
    | none => rw [hd] at e; cases e
    | some x =>
      rw [hd] at e
      exact ih (Hrd.done_wf wf (wfl r List.mem_cons_self) hd) (fun x hx => wfl x (List.mem_cons_of_mem r hx)) e
/-- Where all of them may be done, the next one may. -/
theorem Hrd.all_next {h z : Hrd} {l : List Rc} (e : h.all l = some z) {k : Nat} (hk : k < l.length) {x : Hrd} (ex : h.all (l.take k) = some x) : ∃ y, x.done l[k] = some y ∧ h.all (l.take (k + 1)) = some y := by
  have h1 : l = l.take k ++ (l[k] :: l.drop (k + 1)) := by rw [← List.drop_eq_getElem_cons hk, List.take_append_drop]
  rw [h1, Hrd.all_app, ex] at e
  simp only [Option.bind_some] at e
  unfold Hrd.all at e
  cases hd : x.done l[k] with
  | none => rw [hd] at e; cases e
  | some y =>
    refine ⟨y, rfl, ?_⟩
    rw [List.take_succ_eq_append_getElem hk, Hrd.all_app, ex]
    simp only [Option.bind_some, Hrd.all]
    rw [hd]
theorem addL_wf (i : Int) (l : List En) (hi : 0 ≤ i) (hl : i + l.length < 18446744073709551616) (wf : ∀ e ∈ l, e.Wf) : ∀ r ∈ addL i l, r.Wf := by
  induction l generalizing i with
  | nil => intro r hr; cases hr
  | cons e l ih =>
    intro r hr
    simp only [List.length_cons] at hl
    rcases List.mem_cons.1 hr with q | q
    · subst q
      exact rc3_wf (i + 1) e (by omega) (by omega) (wf e List.mem_cons_self)
    · exact ih (i + 1) (by omega) (by omega) (fun x hx => wf x (List.mem_cons_of_mem e hx)) r q
theorem en0_wfB : en0.Wf := ⟨⟨by decide, by decide⟩, by decide, by decide, by decide, by decide, ⟨by decide, by decide⟩, ⟨by decide, by decide⟩, ⟨by decide, by decide⟩, ⟨by decide, by decide⟩⟩
theorem Hrd.base_wf {h : Hrd} (ok : h.Ok) (wf : h.Wf) : ∀ r ∈ h.base, r.Wf := by
  intro r hr
  unfold Hrd.base base2 base1 at hr
  rcases List.mem_append.1 hr with q | q
  · rcases List.mem_append.1 q with q | q
    · split at q
      · rw [List.mem_singleton] at q
        subst q
        exact ⟨(by show (Lit.int .i64 1).wf = true; decide), (by show (Lit.int .i64 0).wf = true; decide), wf.bt, (by show (0 : Int) ≤ 0 ∧ (0 : Int) < 18446744073709551616; decide), (by show (0 : Int) ≤ 0 ∧ (0 : Int) < 18446744073709551616; decide), en0_wfB, sh0_wfB⟩
      · cases q
    · split at q
      · rw [List.mem_singleton] at q
        subst q
        exact ⟨(by show (Lit.int .i64 2).wf = true; decide), wf.vt, (by show (0 : Int) ≤ 0 ∧ (0 : Int) < 18446744073709551616; decide), wf.tm, (by show (0 : Int) ≤ 0 ∧ (0 : Int) < 18446744073709551616; decide), en0_wfB, sh0_wfB⟩
      · cases q
  · exact addL_wf h.sh.i h.log wf.sh.i.1 (by have := ok.last; omega) wf.log r q
theorem start_wf {h : Hrd} (wf : h.Wf) : h.start.Wf := ⟨(by show (0 : Int) ≤ 0 ∧ (0 : Int) < 18446744073709551616; decide), wf.sh.t, (by show (Lit.int .i64 0).wf = true; decide), wf.sh, (fun _ q => by cases q)⟩
theorem hrd_parts {a b : Hb} {xs ys : List Ec} (e : a.hrd xs = b.hrd ys) : a = b ∧ xs.map (·.e) = ys.map (·.e) := by
  unfold Hb.hrd at e
  injection e with e1 e2 e3 e4 e5
  refine ⟨?_, e5⟩
  cases a
  cases b
  simp only at e1 e2 e3 e4
  subst e1 e2 e3 e4
  rfl

/-! ### A struct read out of a row -/
theorem wpList_load_at {P : Program} {ops : Array Oper} {rest : List Oper} {o : Oper} {a : Act} {w : World} {Q : Exit → Act → World → Prop} (hgd : o.guard = none) (ty : TypeId) (x : Operand) (ho : o.op = .load ty x)
    (b f : Nat) (hx : a.eval x = .pointer (some ⟨b, f, none⟩)) (l : List Value) (hc : ∀ j v, l[j]? = some v → w.cell? ⟨b, f + j, none⟩ = some v) (d : TypeDesc) (hu : P.underlying ty = some d) (hd : d.isRow = true) (hi : (P.info? ty).map (·.size) = some l.length)
    (h : wpList P ops Q rest (a.put o.dst (.agg l.toArray)) w) : wpList P ops Q (o :: rest) a w :=
  wpList_plain hgd fun _ hK => by
    have hl : (loadVar ty ⟨b, f, none⟩).run P w = .ok (.agg l.toArray) w := run_loadVar_mid (P := P) w b f ty l d hc hu hd hi
    unfold Oper.wp execOp
    simp only [ho, hx, Instr.loadAt, Instr.sureAddr, Sem.run_bind, Sem.run_pure, Result.andThen_ok, hl]
    exact hK _ _ h

/-! ### The example -/
def rc1 : Rc := ⟨1, 0, 3, 0, 0, en0, sh0⟩
theorem rc1_wf : rc1.Wf := ⟨by decide, by decide, ⟨by decide, by decide⟩, ⟨by decide, by decide⟩, ⟨by decide, by decide⟩, en0_wfB, sh0_wfB⟩
theorem hb1_wf : (hb1.hrd []).Wf := ⟨⟨by decide, by decide⟩, ⟨by decide, by decide⟩, by decide, sh1_wf, (fun _ h => by cases h)⟩
theorem hb1_ok : (hb1.hrd []).Ok := ⟨by decide, sh1_ok, by decide, by decide, by decide, by decide, fun _ => rfl, rfl, by decide⟩
theorem live_done : (hb1.hrd []).done rc1 = some (hb3.hrd []) := by
  refine Hrd.done_of hb1_ok (may_1 3 (by decide)) ?_ hb3_ok
  unfold Hrd.come
  rw [if_pos (show rc1.k = 1 from rfl), if_neg (show ¬ rc1.bt ≤ (hb1.hrd []).bt by decide)]
  rfl

set_option maxHeartbeats 4000000 in
theorem live_any13 (w : World) : Calls Try.prog 23 #[] w fun e w' => e = .returned (.bool true) ∧ Below w.heap.size w w' := by
  have C2 := fun W b h1 => hard_Do_any W hb1 (sa1 b) none 0 [] rc1 ra0 h1 hb1_wf ⟨InN.nil, InSh.zero W⟩ rc1_wf (by decide)
  unfold DoE at C2
  rw [live_done] at C2
  unfold hrdV recV at C2
  simp only [hb1, sh1, sa1, rc1, ra0, sa0, en0, sh0, List.length_nil, List.length_singleton, Option.isSome_some, Option.getD_some] at C2
  have C2' := Lib.hid C2
  clear C2
  have X1' := zero_any w
  unfold hrdV at X1'
  simp only [hb1, sh1, sa1, List.length_nil, List.length_singleton] at X1'
  have X1 := Lib.hid X1'
  clear X1'
  obtain ⟨g, hg⟩ : ∃ g, w.heap.size = g := ⟨_, rfl⟩
  rw [hg]
  have HG := Lib.hid hg
  clear hg
  go_enter Try.func23, Try.ntmps23
  go_wp2_with fail
  refine X1.out.mono ?_
  rintro e w1 ⟨b, rfl, hn1, hB1⟩
  have X2 := Lib.hid (C2'.out w1 b ⟨sh1_in hn1, InE.nil⟩)
  have HB1 := Lib.hid hB1
  clear hn1 hB1 X1 C2'
  go_wp2_with fail
  refine X2.out.mono ?_
  rintro e w2 ⟨h', p', A', c', ys', rfl, hh, _, hB2⟩
  obtain ⟨bt', tm', vt', sh'⟩ := h'
  have hbt : bt' = 3 := congrArg Hrd.bt hh
  subst hbt
  have HB2 := Lib.hid (HB1.out.trans (hB2.mono HB1.out.size))
  have HS2 := Lib.hid hB2.size
  clear hh hB2 X2 HB1
  rw [show errRec true = 0 from rfl]
  go_wp2
  go_ret
  exact ⟨rfl, HG.out ▸ HB2.out.alloc (by have := HB2.out.size; omega) _⟩
end Go.Proofs.Ytadkkhbbempaaaa

/- What lasts, compared by the document: two that are the same. -/
namespace Go.Proofs.Ytadkkhbbempaaaa
set_option maxRecDepth 100000
open Go.RowKit

set_option maxHeartbeats 8000000 in
theorem r04_SameEntries_eq (w : World) (A1 : Option Addr) (c1 : Nat) (xs : List Ec) (A2 : Option Addr) (c2 : Nat) (ys : List Ec) (h1 : InE w A1 c1 xs) (h2 : InE w A2 c2 ys) (he : xs.map (·.e) = ys.map (·.e)) :
    Calls Try.prog 39 #[.slice A1 xs.length c1, .slice A2 ys.length c2] w fun e w' => e = .returned (.bool true) ∧ Below w.heap.size w w' := by
  have hlen : ys.length = xs.length := by
    have := congrArg List.length he
    simpa using this.symm
  rw [hlen]
  obtain ⟨g, hg⟩ : ∃ g, w.heap.size = g := ⟨_, rfl⟩
  rw [hg]
  have H1 := Lib.hid h1
  have H2 := Lib.hid h2
  have HLEN := Lib.hid hlen
  have HEQ := Lib.hid he
  have hsm := h1.small
  obtain ⟨n, hn⟩ : ∃ n, xs.length = n := ⟨_, rfl⟩
  have HN := Lib.hid hn
  rw [hn] at hsm ⊢
  clear h1 h2 he hlen hn
  go_enter Try.func39, Try.ntmps39
  go_wp2_with fail
  go_loopw [5, 13] (fun _ iv wr => ∃ k : Nat, iv = .int .i64 (k : Int) ∧ k ≤ n ∧ Below g w wr) (fun _ iv _ => n - (intOf iv).toNat)
  case atStart => exact ⟨0, rfl, by omega, Below.refl _ _⟩
  case round =>
    obtain ⟨k, rfl, hk, hB⟩ := hrel
    have HB := Lib.hid hB
    clear hB
    by_cases hkl : k < n
    · have hk1 : k < xs.length := by have := HN.out; omega
      have hk2 : k < ys.length := by have := HLEN.out; omega
      obtain ⟨b, off, rfl, hbb, hat1⟩ := H1.out.rows.ec (by omega)
      obtain ⟨b2, off2, rfl, hbb2, hat2⟩ := H2.out.rows.ec (by omega)
      have hxy : ys[k].e = xs[k].e := by
        have h3 : (xs.map (·.e))[k]? = (ys.map (·.e))[k]? := by rw [HEQ.out]
        simp only [List.getElem?_map, List.getElem?_eq_getElem hk1, List.getElem?_eq_getElem hk2, Option.map_some, Option.some.injEq] at h3
        exact h3.symm
      have a1 := hat1 k hk1
      have a2 := hat2 k hk2
      have i1 := H1.out.inn _ (List.getElem_mem hk1)
      have i2 := H2.out.inn _ (List.getElem_mem hk2)
      obtain ⟨x, hx⟩ : ∃ x, xs[k] = x := ⟨_, rfl⟩
      obtain ⟨y, hy⟩ : ∃ y, ys[k] = y := ⟨_, rfl⟩
      rw [hx] at a1 i1 hxy
      rw [hy] at a2 i2 hxy
      obtain ⟨xa, xc, xe⟩ := x
      obtain ⟨ya, yc, ye⟩ := y
      simp only at hxy i1 i2
      subst hxy
      obtain ⟨x, hx2⟩ : ∃ x : Ec, x = ⟨xa, xc, ye⟩ := ⟨_, rfl⟩
      obtain ⟨y, hy2⟩ : ∃ y : Ec, y = ⟨ya, yc, ye⟩ := ⟨_, rfl⟩
      have hye : y.e = x.e := by rw [hx2, hy2]
      rw [← hx2] at a1
      rw [← hy2] at a2
      have i1' : InN .i64 w x.A x.c x.e.l := by rw [hx2]; exact i1
      have i2' : InN .i64 w y.A y.c x.e.l := by rw [hx2, hy2]; exact i2
      obtain ⟨KW, hKW⟩ : ∃ KW : World → Prop, KW = fun w1 => Below g w w1 := ⟨_, rfl⟩
      have KF : Hid (∀ w1, KW w1 → Below g w w1) := fun w1 k1 => by rw [hKW] at k1; exact k1
      have KC : Hid (∀ w1 w2, KW w1 → Below w1.heap.size w1 w2 → KW w2) := fun w1 w2 k1 k2 => by
        rw [hKW] at k1 ⊢
        exact k1.trans (k2.mono (by have := k1.size; omega))
      have HX : Hid (∀ w1, KW w1 → EcAt w1 b (off + k * 9) x) := fun w1 k1 => by
        have kb := KF.out _ k1
        have hc : ∀ o, w1.cell? ⟨b, o, none⟩ = w.cell? ⟨b, o, none⟩ := fun o => kb.cell (p := ⟨b, o, none⟩) (by show b < g; omega)
        exact ⟨(hc _).trans a1.c0, (hc _).trans a1.c1, (hc _).trans a1.c2, (hc _).trans a1.c3, (hc _).trans a1.c4, (hc _).trans a1.c5, (hc _).trans a1.c6, (hc _).trans a1.c7, (hc _).trans a1.c8⟩
      have HY : Hid (∀ w1, KW w1 → EcAt w1 b2 (off2 + k * 9) ⟨y.A, y.c, x.e⟩) := fun w1 k1 => by
        have kb := KF.out _ k1
        have hc : ∀ o, w1.cell? ⟨b2, o, none⟩ = w.cell? ⟨b2, o, none⟩ := fun o => kb.cell (p := ⟨b2, o, none⟩) (by show b2 < g; omega)
        rw [← hye]
        exact ⟨(hc _).trans a2.c0, (hc _).trans a2.c1, (hc _).trans a2.c2, (hc _).trans a2.c3, (hc _).trans a2.c4, (hc _).trans a2.c5, (hc _).trans a2.c6, (hc _).trans a2.c7, (hc _).trans a2.c8⟩
      have F0 : ∀ p : InClass KW, p.w.cell? ⟨b, off + k * 9, none⟩ = some (.int .u64 x.e.tm) := fun p => (HX.out _ p.ok).c0
      have F1 : ∀ p : InClass KW, p.w.cell? ⟨b, off + k * 9 + 1, none⟩ = some (.int .i64 x.e.k) := fun p => (HX.out _ p.ok).c1
      have F2 : ∀ p : InClass KW, p.w.cell? ⟨b, off + k * 9 + 2, none⟩ = some (.int .i64 x.e.n) := fun p => (HX.out _ p.ok).c2
      have F3 : ∀ p : InClass KW, p.w.cell? ⟨b, off + k * 9 + 3, none⟩ = some (.int .i64 x.e.t) := fun p => (HX.out _ p.ok).c3
      have F4 : ∀ p : InClass KW, p.w.cell? ⟨b, off + k * 9 + 4, none⟩ = some (.slice x.A x.e.l.length x.c) := fun p => (HX.out _ p.ok).c4
      have F5 : ∀ p : InClass KW, p.w.cell? ⟨b, off + k * 9 + 5, none⟩ = some (.int .u64 x.e.b) := fun p => (HX.out _ p.ok).c5
      have F6 : ∀ p : InClass KW, p.w.cell? ⟨b, off + k * 9 + 6, none⟩ = some (.int .u64 x.e.q) := fun p => (HX.out _ p.ok).c6
      have F7 : ∀ p : InClass KW, p.w.cell? ⟨b, off + k * 9 + 7, none⟩ = some (.int .u64 x.e.s) := fun p => (HX.out _ p.ok).c7
      have F8 : ∀ p : InClass KW, p.w.cell? ⟨b, off + k * 9 + 8, none⟩ = some (.int .u64 x.e.m) := fun p => (HX.out _ p.ok).c8
      have G0 : ∀ p : InClass KW, p.w.cell? ⟨b2, off2 + k * 9, none⟩ = some (.int .u64 x.e.tm) := fun p => (HY.out _ p.ok).c0
      have G1 : ∀ p : InClass KW, p.w.cell? ⟨b2, off2 + k * 9 + 1, none⟩ = some (.int .i64 x.e.k) := fun p => (HY.out _ p.ok).c1
      have G2 : ∀ p : InClass KW, p.w.cell? ⟨b2, off2 + k * 9 + 2, none⟩ = some (.int .i64 x.e.n) := fun p => (HY.out _ p.ok).c2
      have G3 : ∀ p : InClass KW, p.w.cell? ⟨b2, off2 + k * 9 + 3, none⟩ = some (.int .i64 x.e.t) := fun p => (HY.out _ p.ok).c3
      have G4 : ∀ p : InClass KW, p.w.cell? ⟨b2, off2 + k * 9 + 4, none⟩ = some (.slice y.A x.e.l.length y.c) := fun p => (HY.out _ p.ok).c4
      have G5 : ∀ p : InClass KW, p.w.cell? ⟨b2, off2 + k * 9 + 5, none⟩ = some (.int .u64 x.e.b) := fun p => (HY.out _ p.ok).c5
      have G6 : ∀ p : InClass KW, p.w.cell? ⟨b2, off2 + k * 9 + 6, none⟩ = some (.int .u64 x.e.q) := fun p => (HY.out _ p.ok).c6
      have G7 : ∀ p : InClass KW, p.w.cell? ⟨b2, off2 + k * 9 + 7, none⟩ = some (.int .u64 x.e.s) := fun p => (HY.out _ p.ok).c7
      have G8 : ∀ p : InClass KW, p.w.cell? ⟨b2, off2 + k * 9 + 8, none⟩ = some (.int .u64 x.e.m) := fun p => (HY.out _ p.ok).c8
      have CX : Hid (∀ p : InClass KW, Calls Try.prog 46 #[.agg #[.int .i64 x.e.k, .int .i64 x.e.n, .int .i64 x.e.t, .slice x.A x.e.l.length x.c, .int .u64 x.e.b, .int .u64 x.e.q, .int .u64 x.e.s, .int .u64 x.e.m], .agg #[.int .i64 x.e.k, .int .i64 x.e.n, .int .i64 x.e.t, .slice y.A x.e.l.length y.c, .int .u64 x.e.b, .int .u64 x.e.q, .int .u64 x.e.s, .int .u64 x.e.m]] p.w fun e w' => e = .returned (.bool true) ∧ Below p.w.heap.size p.w w') := fun p => by
        have kb := KF.out _ p.ok
        have := ref_Same_any p.w x.e.k x.e.n x.e.t x.A x.c x.e.l x.e.b x.e.q x.e.s x.e.m x.e.k x.e.n x.e.t y.A y.c x.e.l x.e.b x.e.q x.e.s x.e.m (i1'.keep (hg ▸ kb)) (i2'.keep (hg ▸ kb))
        rw [sameB_refl] at this
        exact this
      have K1 : KW wr.drew := by rw [hKW]; exact HB.out.drew
      haveI NE : Nonempty (InClass KW) := ⟨⟨wr.drew, K1⟩⟩
      clear a1 a2 i1 i2 i1' i2' hx hy hx2 hy2 hye hat1 hat2 hKW
      go_wp2_with fail
      refine wp_region_class_lit KW (by kernel_rfl) (by kernel_rfl) K1 ?_
      repeat (go_big_quiet_step ((go_at_call 46; refine (CX.out _).mono ?_; rintro e8 w8 ⟨he, hB8⟩; exact ⟨he, ⟨w8, KC.out _ w8 (InClass.ok _) hB8⟩, rfl⟩)))
      refine wpQuiet_nil ?_
      intro _ hw9
      obtain ⟨p9, hw9⟩ := hw9
      subst hw9
      have HB9 := Lib.hid (KF.out _ p9.ok)
      clear F0 F1 F2 F3 F4 F5 F6 F7 F8 G0 G1 G2 G3 G4 G5 G6 G7 G8
      go_wp2
      go_roundw
      case rel => exact ⟨k + 1, by go_num, by omega, HB9.out⟩
      case measure => simp [intOf]; omega
    · obtain rfl : k = n := by omega
      go_wp2
      go_ret
      exact ⟨rfl, HB.out⟩

set_option maxHeartbeats 8000000 in
theorem r13_Same_eq (w : World) (h : Hb) (p : Sa) (PA : Option Addr) (PC : Nat) (xs : List Ec) (q : Sa) (QA : Option Addr) (QC : Nat) (ys : List Ec) (h1 : InH w h p PA PC xs) (h2 : InH w h q QA QC ys) (he : xs.map (·.e) = ys.map (·.e)) :
    Calls Try.prog 15 #[hrdV h p PA PC xs, hrdV h q QA QC ys] w fun e w' => e = .returned (.bool true) ∧ Below w.heap.size w w' := by
  obtain ⟨g, hg⟩ : ∃ g, w.heap.size = g := ⟨_, rfl⟩
  rw [hg]
  obtain ⟨gr, hgr⟩ : ∃ gr, g + 1 = gr := ⟨_, rfl⟩
  have hBx : Below g w ((w.alloc (.cells (hrdC h p PA PC xs) 32)).alloc (.cells (hrdC h q QA QC ys) 32)) := ((Below.refl _ _).alloc (by omega) _).alloc (by simp; omega) _
  have hsz : (w.alloc (.cells (hrdC h p PA PC xs) 32)).heap.size = gr := by simp [hg, hgr]
  have hb1 : Blk ((w.alloc (.cells (hrdC h p PA PC xs) 32)).alloc (.cells (hrdC h q QA QC ys) 32)) g 32 (hrdC h p PA PC xs) := (hg ▸ Blk.new w 32 (hrdC h p PA PC xs) : Blk (w.alloc (.cells (hrdC h p PA PC xs) 32)) g 32 (hrdC h p PA PC xs)).alloc _
  have hr1 : Blk ((w.alloc (.cells (hrdC h p PA PC xs) 32)).alloc (.cells (hrdC h q QA QC ys) 32)) gr 32 (hrdC h q QA QC ys) := hsz ▸ Blk.new _ _ _
  have C1 := fun W (k1 : InSh W h.sh p) (k2 : InSh W h.sh q) => r06_Same_eq W h.sh.i h.sh.t p.A0 p.c0 q.A0 q.c0 h.sh.ns h.sh.lim h.sh.nxt p.A1 p.c1 q.A1 q.c1 h.sh.hs p.A2 p.c2 q.A2 q.c2 h.sh.ls k1.n k2.n k1.h k2.h k1.l k2.l
  have C2 := fun W (k1 : InE W PA PC xs) (k2 : InE W QA QC ys) => r04_SameEntries_eq W PA PC xs QA QC ys k1 k2 he
  unfold shV at C1
  have C1 := Lib.hid C1
  have C2 := Lib.hid C2
  have H1 := Lib.hid h1
  have H2 := Lib.hid h2
  clear hsz h1 h2 he
  unfold hrdV
  go_enter Try.func15, Try.ntmps15
  go_upto_region 1 with (fail)
  change Code.wp _ _ _ _ ((w.alloc (.cells (hrdC h p PA PC xs) 32)).alloc (.cells (hrdC h q QA QC ys) 32))
  generalize ((w.alloc (.cells (hrdC h p PA PC xs) 32)).alloc (.cells (hrdC h q QA QC ys) 32)) = W at hb1 hr1 hBx ⊢
  try rw [hgr]
  have HB := Lib.hid hBx
  obtain ⟨z0, z1, z2, z3, z4, z5, z6, z7, z8, z9, z10⟩ := hb1.hrd
  obtain ⟨q0, q1, q2, q3, q4, q5, q6, q7, q8, q9, q10⟩ := hr1.hrd
  have X1 := Lib.hid (C1.out W (H1.out.sh.keep (hg ▸ hBx)) (H2.out.sh.keep (hg ▸ hBx)))
  have hz1 := hb1.lt
  have hz2 := hr1.lt
  clear hBx C1
  go_wp2_with fail
  refine X1.out.mono ?_
  rintro e w1 ⟨rfl, hB1⟩
  have hb2 := hb1.below hB1 hz1
  have hr2 := hr1.below hB1 hz2
  have HB1 := Lib.hid (HB.out.trans (hB1.mono (Nat.le_of_lt hz1)))
  have X2 := Lib.hid (C2.out w1 (H1.out.log.keep (hg ▸ HB1.out)) (H2.out.log.keep (hg ▸ HB1.out)))
  have hz3 := hb2.lt
  clear hB1 hb1 hr1 z0 z1 z2 z3 z4 z5 z6 z7 z8 z9 z10 q0 q1 q2 q3 q4 q5 q6 q7 q8 q9 q10 X1 C2 HB
  have z10 := hb2.hrd.z10
  have q10 := hr2.hrd.z10
  clear hb2 hr2
  go_wp2_with fail
  refine X2.out.mono ?_
  rintro e w2 ⟨rfl, hB2⟩
  have HB2 := Lib.hid (HB1.out.trans (hB2.mono (Nat.le_of_lt hz3)))
  clear hB2 z10 q10 X2
  go_wp2
  go_ret
  exact ⟨rfl, HB2.out⟩
end Go.Proofs.Ytadkkhbbempaaaa
