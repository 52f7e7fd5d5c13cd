/- Pools in memory; leave, first, at, of: the pool's small methods. -/
import Derived.Test.YtidkhekekfennaaPlV
import Derived.Test.YtidkhekekfennaaPlD
import Derived.Test.YtidkhekekfennaaPlB
import Derived.Test.YtidkhekekfennaaPlI
namespace Go.Proofs.Ytidkhekekfennaa
set_option maxRecDepth 100000
set_option linter.unusedVariables false
open Go.RowKit

def linC (v : Value) (ws : List Int) : Array Value := plC v (ws.getD 0 0) (ws.getD 1 0) (ws.getD 2 0) (ws.getD 3 0) ws.length
theorem leave_any (w : World) (g : Nat) (v : Value) (ws : List Int) (i : Nat) (hb : Blk w g 49 (linC v ws)) (h4 : ws.length ≤ 4) (hi : i < ws.length) :
    Calls Try.prog 38 #[.pointer (some ⟨g, 0, none⟩), .int .i64 i] w fun e w' => e = .returned (.tuple #[]) ∧ Blk w' g 49 (linC v (ws.eraseIdx i)) ∧ w.grownBy w' (some g) := by
  match ws, h4, hi, hb with
  | [a], _, hi, hb =>
    match i, hi with
    | 0, _ => exact leave_1_0 w g v a hb
    | n + 1, hi => exact absurd hi (by simp)
  | [a, b], _, hi, hb =>
    match i, hi with
    | 0, _ => exact leave_2_0 w g v a b hb
    | 1, _ => exact leave_2_1 w g v a b hb
    | n + 2, hi => exact absurd hi (by simp)
  | [a, b, c], _, hi, hb =>
    match i, hi with
    | 0, _ => exact leave_3_0 w g v a b c hb
    | 1, _ => exact leave_3_1 w g v a b c hb
    | 2, _ => exact leave_3_2 w g v a b c hb
    | n + 3, hi => exact absurd hi (by simp)
  | [a, b, c, d], _, hi, hb =>
    match i, hi with
    | 0, _ => exact leave_4_0 w g v a b c d hb
    | 1, _ => exact leave_4_1 w g v a b c d hb
    | 2, _ => exact leave_4_2 w g v a b c d hb
    | 3, _ => exact leave_4_3 w g v a b c d hb
    | n + 4, hi => exact absurd hi (by simp)
  | [], _, hi, _ => exact absurd hi (by simp)
  | a :: b :: c :: d :: e :: l, h4, _, _ => exact absurd h4 (by simp)
/-- A pool: its connections, who waits. -/
structure PlAt (w : World) (base g : Nat) (v : Value) (cs : List Cn) (ws : List Int) : Prop where
  blk : Blk w g 49 (linC v ws)
  row : w.ownsRow base 38 2 v cs.length (cs.flatMap cnC)
  gb : base ≤ g
  c8 : cs.length ≤ 8
  w4 : ws.length ≤ 4
  wr : ∀ x ∈ ws, 1 ≤ x ∧ x ≤ 6
/-- The blocks of a pool. -/
def PB (g : Nat) (v : Value) (j : Nat) : Prop := j = g ∨ v.ownBlock = some j
section
variable {w w1 : World} {base base' g : Nat} {v : Value} {cs : List Cn} {ws : List Int} {Q : Nat → Prop}
theorem PlAt.ne (h : PlAt w base g v cs ws) : v.ownBlock ≠ some g := own_blk_ne h.row h.blk (by decide)
theorem PlAt.lt (h : PlAt w base g v cs ws) : g < w.heap.size := h.blk.lt
theorem PlAt.lts (h : PlAt w base g v cs ws) : ∀ j, PB g v j → base ≤ j ∧ j < w.heap.size := by
  rintro j (rfl | e)
  · exact ⟨h.gb, h.lt⟩
  · exact h.row.lt j e
theorem PlAt.tr (h : PlAt w base g v cs ws) (k : Tr w w1 Q) (hp : ∀ j, PB g v j → ¬ Q j) : PlAt w1 base g v cs ws :=
  ⟨h.blk.tr k (hp g (Or.inl rfl)), own_tr h.row k (fun b e => hp b (Or.inr e)), h.gb, h.c8, h.w4, h.wr⟩
theorem PlAt.keep (h : PlAt w base g v cs ws) (k : Below w.heap.size w w1) : PlAt w1 base g v cs ws := h.tr (Q := fun _ => False) (Tr.of_below k) (fun _ _ q => q)
theorem PlAt.lower (h : PlAt w base g v cs ws) (hb : base' ≤ base) : PlAt w base' g v cs ws := ⟨h.blk, own_lower h.row hb, Nat.le_trans hb h.gb, h.c8, h.w4, h.wr⟩
theorem PlAt.inn (h : PlAt w base g v cs ws) : InN .i64 w (some ⟨g, 1, none⟩) 4 ws := by
  have hw4 := h.w4
  have hwf : Wfs .i64 ws := fun x hx => by
    have := h.wr x hx
    have e1 : IntKind.i64.min = -9223372036854775808 := by decide
    have e2 : IntKind.i64.max = 9223372036854775807 := by decide
    show (decide (IntKind.i64.min ≤ x) && decide (x ≤ IntKind.i64.max)) = true
    rw [e1, e2, decide_eq_true (by omega), decide_eq_true (by omega)]
    rfl
  refine ⟨⟨by simp [nums], fun h0 => ⟨g, 1, rfl, h.lt, fun j u hu => ?_⟩⟩, hwf, hw4, by omega⟩
  have hb := h.blk
  clear h hwf
  rw [hb.cell]
  match ws, hw4, hu with
  | [a], _, hu => match j, hu with
    | 0, hu => exact hu
  | [a, b], _, hu => match j, hu with
    | 0, hu => exact hu
    | 1, hu => exact hu
  | [a, b, c], _, hu => match j, hu with
    | 0, hu => exact hu
    | 1, hu => exact hu
    | 2, hu => exact hu
  | [a, b, c, d], _, hu => match j, hu with
    | 0, hu => exact hu
    | 1, hu => exact hu
    | 2, hu => exact hu
    | 3, hu => exact hu
  | a :: b :: c :: d :: e :: l, h4, _ => exact absurd h4 (by simp)
theorem PlAt.ins (h : PlAt w base g v cs ws) : ∃ A c, v = .slice A cs.length c ∧ InS cnC 2 w A c cs := InS.own h.row (by have := h.c8; omega)
end
/-! ### first -/
theorem first_any (w : World) (base g : Nat) (v : Value) (cs : List Cn) (ws : List Int) (h : PlAt w base g v cs ws) :
    Calls Try.prog 30 #[.pointer (some ⟨g, 0, none⟩)] w fun e w' => e = .returned (.int .i64 (ws.headD 0)) ∧ PlAt w' base g v cs ws.tail ∧ w.grownBy w' (some g) := by
  have hw4 := h.w4
  match ws, h, hw4 with
  | [], h, _ =>
    have HH := Lib.hid h
    have z5 : w.cell? ⟨g, 5, none⟩ = some (.int .i64 0) := h.blk.pl.z5
    clear h
    go_enter Try.func30, Try.ntmps30
    go_wp2
    go_ret
    exact ⟨rfl, HH.out, World.grownBy.refl _ _⟩
  | a :: ws, h, hw4 =>
    have C := leave_any w g v (a :: ws) 0 h.blk h.w4 (by simp)
    have hn : ((ws.length : Int) + 1 == 0) = false := by simp; omega
    have z5 : w.cell? ⟨g, 5, none⟩ = some (.int .i64 ((ws.length : Int) + 1)) := by
      have := h.blk.pl.z5
      simpa using this
    have z1 : w.cell? ⟨g, 1, none⟩ = some (.int .i64 a) := h.blk.pl.z1
    have HH := Lib.hid h
    have C := Lib.hid C
    clear h hw4
    go_enter Try.func30, Try.ntmps30
    go_wp2_with fail
    refine C.out.mono ?_
    rintro e w1 ⟨rfl, hb1, hg1⟩
    have HB := Lib.hid hb1
    have HG := Lib.hid hg1
    clear hb1 hg1 z5 z1 C
    go_wp2
    go_ret
    refine ⟨rfl, ⟨HB.out, own_tr HH.out.row (Tr.of_grown (P := fun j => j = g) HG.out (fun k e _ => by injection e with e; exact e.symm)) (fun b e q => HH.out.ne (q ▸ e)), HH.out.gb, HH.out.c8, ?_, fun x hx => HH.out.wr x (List.mem_cons_of_mem _ hx)⟩, HG.out⟩
    have := HH.out.w4
    simp at this ⊢
    omega
/-! ### at, of -/
theorem at_any (w : World) (base g : Nat) (v : Value) (cs : List Cn) (ws : List Int) (h : PlAt w base g v cs ws) (hs : Srt cs) (t : Int) :
    Calls Try.prog 29 #[.pointer (some ⟨g, 0, none⟩), .int .i64 t] w fun e w' => e = .returned (.tuple #[.int .i64 (lbT cs t : Nat), .bool (hasT cs t)]) ∧ Below w.heap.size w w' := by
  have z0 : w.cell? ⟨g, 0, none⟩ = some v := h.blk.pl.z0
  obtain ⟨A, c, rfl, hin⟩ := h.ins
  have C := bsf_any w A c cs t hin hs (by have := h.c8; omega)
  obtain ⟨X, hX⟩ : ∃ X, ((lbT cs t : Nat) : Int) = X := ⟨_, rfl⟩
  obtain ⟨Y, hY⟩ : ∃ Y, hasT cs t = Y := ⟨_, rfl⟩
  obtain ⟨n, hn⟩ : ∃ n, cs.length = n := ⟨_, rfl⟩
  rw [hX, hY, hn] at C
  rw [hX, hY]
  rw [hn] at z0
  have C := Lib.hid C
  clear hX hY hin h hs hn
  go_enter Try.func29, Try.ntmps29
  go_wp2_with fail
  refine C.out.mono ?_
  rintro e w1 ⟨rfl, hB1⟩
  have HB := Lib.hid hB1
  clear hB1 z0 C
  go_wp2
  go_ret2
  exact ⟨rfl, HB.out⟩
theorem of_any (w : World) (base g : Nat) (v : Value) (cs : List Cn) (ws : List Int) (h : PlAt w base g v cs ws) (s : Int) :
    Calls Try.prog 27 #[.pointer (some ⟨g, 0, none⟩), .int .i64 s] w fun e w' => e = .returned (.int .i64 (ofI cs s)) ∧ Below w.heap.size w w' := by
  have hB : Below w.heap.size w (w.alloc (.cells #[.int .i64 s] 3)) := (Below.refl _ _).alloc (Nat.le_refl _) _
  have hx := Blk.new w 3 #[.int .i64 s]
  have h1 := h.keep hB
  have z0 : (w.alloc (.cells #[.int .i64 s] 3)).cell? ⟨g, 0, none⟩ = some v := h1.blk.pl.z0
  have hmf : ∀ (w : World) (p : Value), (Instr.makeFunc (.func 42) #[] #[p]).run Try.prog w = .ok (.func (.func 42) #[] #[p]) w := fun w p => rfl
  obtain ⟨A, c, rfl, hin⟩ := h1.ins
  obtain ⟨G, hG⟩ : ∃ G, w.heap.size = G := ⟨_, rfl⟩
  have C := ixf_any _ A c cs s G hin (by rw [← hG, hx.cell]; rfl)
  obtain ⟨X, hX⟩ : ∃ X, ofI cs s = X := ⟨_, rfl⟩
  obtain ⟨n, hn⟩ : ∃ n, cs.length = n := ⟨_, rfl⟩
  rw [hX, hn] at C
  rw [hX]
  rw [hn] at z0
  have C := Lib.hid C
  have HB := Lib.hid hB
  clear hX hin h h1 hn hx hB
  go_enter Try.func27, Try.ntmps27
  go_upto_region 1 with (fail)
  change Code.wp _ _ _ _ (w.alloc (.cells #[.int .i64 s] 3))
  generalize (w.alloc (.cells #[.int .i64 s] 3)) = W at z0 C HB ⊢
  try rw [hG]
  have HG := Lib.hid hG
  clear hG
  go_wp2_with fail
  refine C.out.mono ?_
  rintro e w1 ⟨rfl, hB1⟩
  have HB := Lib.hid (HB.out.trans (hB1.mono HB.out.size))
  clear hB1 z0 C
  go_wp2
  go_ret
  exact ⟨rfl, HB.out⟩
end Go.Proofs.Ytidkhekekfennaa
