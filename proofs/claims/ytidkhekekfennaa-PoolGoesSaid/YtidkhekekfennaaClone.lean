/- slices.Clone of a list of numbers. -/
import Derived.Test.YtidkhekekfennaaSame3
import Derived.Lib.SliceRun
namespace Go.Proofs.Ytidkhekekfennaa
set_option maxRecDepth 100000
open Go.RowKit

theorem own_empty (W : World) (base : Nat) (e : TypeId) (hb : base ≤ W.heap.size) : (W.alloc (.cells #[] e)).ownsRow base e 1 (.slice (some ⟨W.heap.size, 0, none⟩) 0 0) 0 [] :=
  ⟨by simp, .inr ⟨W.heap.size, 0, #[], rfl, hb, heap_alloc_new W _, by simp, by unfold maxLen; omega, by simp, by simp⟩⟩
/-- A copy: its cells are the call's own. -/
structure Cop (w w' : World) (A : Option Addr) (c : Nat) (l : List Int) : Prop where
  inn : InN .i64 w' A c l
  own : ∀ b, (Value.slice A l.length c).ownBlock = some b → w.heap.size ≤ b
theorem Cop.of_own {w w' : World} {base : Nat} {v : Value} {l : List Int} (h : OwnN .i64 3 w' base v l) (hb : w.heap.size ≤ base) (hl : Wfs .i64 l) (hs : l.length ≤ 140737488355328) : ∃ A c, v = .slice A l.length c ∧ Cop w w' A c l := by
  obtain ⟨A, c, rfl, hin⟩ := InN.own h hl hs
  exact ⟨A, c, rfl, hin, fun b e => Nat.le_trans hb (World.ownsRow.lt h b e).1⟩

set_option maxHeartbeats 1000000 in
theorem clone_any (w : World) (A : Option Addr) (c : Nat) (l : List Int) (h : InN .i64 w A c l) (hs : l.length ≤ 17592186043904) :
    Calls Try.prog 26 #[.slice A l.length c] w fun e w' => ∃ A' c', e = .returned (.slice A' l.length c') ∧ Cop w w' A' c' l ∧ Below w.heap.size w w' := by
  have q22 : ∀ (w : World) (a : Option Addr) (n c n' c' : Nat), (binOp .eql 28 (.slice a n c) (.slice none n' c')).run Try.prog w = .ok (.bool a.isNone) w := fun w a n c n' c' => Lib.run_eql_slice_nil w _ _ a n c n' c' Try.underlying28
  cases A with
  | none =>
    have h0 : l.length = 0 := by
      rcases Nat.eq_zero_or_pos l.length with h0 | h0
      · exact h0
      · obtain ⟨b, off, e, _⟩ := h.reads.2 h0
        cases e
    have hnil : l = [] := List.eq_nil_of_length_eq_zero h0
    subst hnil
    clear h hs h0
    go_enter Try.func26, Try.ntmps26
    go_wp2
    go_ret
    exact ⟨none, 0, rfl, ⟨InN.nil, fun b e => by simp [Value.ownBlock] at e⟩, Below.refl _ _⟩
  | some ad =>
    have HIN := Lib.hid h
    have hcap := h.cap
    clear h
    have HOE := Lib.hid (own_empty w w.heap.size 3 (Nat.le_refl _))
    have hB0 : Below w.heap.size w (w.alloc (.cells #[] 3)) := (Below.refl _ _).alloc (Nat.le_refl _) _
    have HB0 := Lib.hid hB0
    have HR := Lib.hid (HIN.out.keep hB0).reads
    clear hB0
    go_enter Try.func26, Try.ntmps26
    go_wp2_with (at_builtin; refine app_own (w0 := w) w.heap.size rfl _ _ 28 3 (.int .i64 0) 8 rfl Try.underlying28 1 info_int rfl (by omega) (by omega) _ [] 0 rfl _ _ _ _ (nums .i64 l) rfl HOE.out HR.out (nums_one_cell .i64 l) HB0.out HB0.out.size (by omega) ?_; intro v1 w1 ho1 hB1 _ _; have hO1 : OwnN .i64 3 w1 w.heap.size v1 l := (by simpa [OwnN] using ho1); have HO1 := Lib.hid hO1; have HB1 := Lib.hid hB1; clear ho1 hB1 hO1)
    go_ret
    obtain ⟨A1, c1, rfl, hc⟩ := Cop.of_own (w := w) HO1.out (Nat.le_refl _) HIN.out.wf (by omega)
    exact ⟨A1, c1, rfl, hc, HB1.out⟩
end Go.Proofs.Ytidkhekekfennaa
