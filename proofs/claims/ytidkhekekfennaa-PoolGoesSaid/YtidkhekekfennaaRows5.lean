/- Rows of structs in memory: slices of structs that are read (InS), or are the call's own. -/
import Derived.Test.YtidkhekekfennaaMemN
namespace Go.Proofs.Ytidkhekekfennaa
open Go.RowKit

theorem flat_len {α : Type} {f : α → List Value} {s : Nat} (hf : ∀ x, (f x).length = s) : ∀ l : List α, (l.flatMap f).length = l.length * s := by
  intro l
  induction l with
  | nil => simp
  | cons x l ih => rw [List.flatMap_cons, List.length_append, ih, hf, List.length_cons, Nat.add_mul, Nat.one_mul, Nat.add_comm]
theorem flat_get {α : Type} {f : α → List Value} {s : Nat} (hf : ∀ x, (f x).length = s) : ∀ (l : List α) (j : Nat) (hj : j < l.length) (i : Nat), i < s → (l.flatMap f)[j * s + i]? = (f l[j])[i]? := by
  intro l
  induction l with
  | nil => intro j hj; simp at hj
  | cons x l ih =>
    intro j hj i hi
    rw [List.flatMap_cons]
    cases j with
    | zero =>
      rw [Nat.zero_mul, Nat.zero_add, List.getElem?_append_left (by rw [hf]; exact hi)]
      rfl
    | succ j =>
      have hl : (f x).length ≤ (j + 1) * s + i := by rw [hf, Nat.add_mul]; omega
      rw [List.getElem?_append_right hl, hf, show (j + 1) * s + i - s = j * s + i by rw [Nat.add_mul]; omega]
      exact ih j (by simpa using hj) i hi
/-- A slice of structs that is read: each element's cells are f's, s of them. -/
structure InS {α : Type} (f : α → List Value) (s : Nat) (w : World) (A : Option Addr) (c : Nat) (l : List α) : Prop where
  reads : Reads w w.heap.size s A l.length (l.flatMap f)
  cap : l.length ≤ c
  small : l.length * (8 * s) ≤ 140737488355328
section
variable {α : Type} {f : α → List Value} {s : Nat} {w w1 : World} {A : Option Addr} {c : Nat} {l : List α}
theorem InS.all (h : InS f s w A c l) (hf : ∀ x, (f x).length = s) (h0 : 0 < l.length) : ∃ b off, A = some ⟨b, off, none⟩ ∧ b < w.heap.size ∧ ∀ (j : Nat) (hj : j < l.length) (i : Nat) (u : Value), i < s → (f l[j])[i]? = some u → w.cell? ⟨b, off + (j * s + i), none⟩ = some u := by
  obtain ⟨b, off, e, hb, hc⟩ := h.reads.2 h0
  exact ⟨b, off, e, hb, fun j hj i u hi hu => hc _ _ ((flat_get hf l j hj i hi).trans hu)⟩
theorem InS.keep (h : InS f s w A c l) (hb : Below w.heap.size w w1) : InS f s w1 A c l := ⟨(h.reads.below hb).more hb.size, h.cap, h.small⟩
theorem InS.drewN (h : InS f s w A c l) (k : Nat) : InS f s (w.drewN k) A c l := ⟨h.reads.drewN k, h.cap, h.small⟩
theorem InS.nil : InS f s w none 0 [] := ⟨Reads.none_, Nat.le_refl _, by simp⟩
theorem InS.own {e : TypeId} {base : Nat} {v : Value} (h : w.ownsRow base e s v l.length (l.flatMap f)) (hs : l.length * (8 * s) ≤ 140737488355328) : ∃ A c, v = .slice A l.length c ∧ InS f s w A c l := by
  obtain ⟨A, c, rfl, h1, _, hr⟩ := own_open h
  exact ⟨A, c, rfl, hr, h1, hs⟩
theorem InS.own_at {e : TypeId} {base : Nat} (h : w.ownsRow base e s (.slice A l.length c) l.length (l.flatMap f)) (hs : l.length * (8 * s) ≤ 140737488355328) : InS f s w A c l := by
  obtain ⟨_, _, q, h2⟩ := InS.own h hs
  injection q with q1 _ q3
  subst q1 q3
  exact h2
theorem InS.far (h : InS f s w A c l) {p : Addr} (hp : ∀ b off, A = some ⟨b, off, none⟩ → p.block ≠ b) (u : Value) : InS f s (w.setCell p u) A c l := by
  refine ⟨⟨h.reads.1, fun h0 => ?_⟩, h.cap, h.small⟩
  obtain ⟨b, off, e, hb, hc⟩ := h.reads.2 h0
  refine ⟨b, off, e, by simpa [World.setCell] using hb, fun j u' hu => ?_⟩
  rw [World.cell?_setCell_other w p _ u (fun hh => hp b off e (by rw [hh]))]
  exact hc j u' hu
end
/-- A row of a ledger's Held. -/
structure Hd where
  tok : Int
  nod : Int
  bt : Int
  ser : Int
  stp : Int
/-- A row of a ledger's Last. -/
structure Ls where
  nod : Int
  bt : Int
  sq : Int
  cod : Int
  tok : Int
  ser : Int
def hdC (h : Hd) : List Value := [.int .i64 h.tok, .int .i64 h.nod, .int .u64 h.bt, .int .u64 h.ser, .int .u64 h.stp]
def lsC (x : Ls) : List Value := [.int .i64 x.nod, .int .u64 x.bt, .int .u64 x.sq, .int .i64 x.cod, .int .i64 x.tok, .int .u64 x.ser]
theorem hdC_len (h : Hd) : (hdC h).length = 5 := rfl
theorem lsC_len (x : Ls) : (lsC x).length = 6 := rfl
structure Hd.Wf (h : Hd) : Prop where
  tok : (Lit.int .i64 h.tok).wf = true
  nod : (Lit.int .i64 h.nod).wf = true
  bt : 0 ≤ h.bt ∧ h.bt < 18446744073709551616
  ser : 0 ≤ h.ser ∧ h.ser < 18446744073709551616
  stp : 0 ≤ h.stp ∧ h.stp < 18446744073709551616
structure Ls.Wf (x : Ls) : Prop where
  nod : (Lit.int .i64 x.nod).wf = true
  bt : 0 ≤ x.bt ∧ x.bt < 18446744073709551616
  sq : 0 ≤ x.sq ∧ x.sq < 18446744073709551616
  cod : (Lit.int .i64 x.cod).wf = true
  tok : (Lit.int .i64 x.tok).wf = true
  ser : 0 ≤ x.ser ∧ x.ser < 18446744073709551616
structure HdAt (w : World) (b o : Nat) (h : Hd) : Prop where
  c0 : w.cell? ⟨b, o, none⟩ = some (.int .i64 h.tok)
  c1 : w.cell? ⟨b, o + 1, none⟩ = some (.int .i64 h.nod)
  c2 : w.cell? ⟨b, o + 2, none⟩ = some (.int .u64 h.bt)
  c3 : w.cell? ⟨b, o + 3, none⟩ = some (.int .u64 h.ser)
  c4 : w.cell? ⟨b, o + 4, none⟩ = some (.int .u64 h.stp)
structure LsAt (w : World) (b o : Nat) (x : Ls) : Prop where
  c0 : w.cell? ⟨b, o, none⟩ = some (.int .i64 x.nod)
  c1 : w.cell? ⟨b, o + 1, none⟩ = some (.int .u64 x.bt)
  c2 : w.cell? ⟨b, o + 2, none⟩ = some (.int .u64 x.sq)
  c3 : w.cell? ⟨b, o + 3, none⟩ = some (.int .i64 x.cod)
  c4 : w.cell? ⟨b, o + 4, none⟩ = some (.int .i64 x.tok)
  c5 : w.cell? ⟨b, o + 5, none⟩ = some (.int .u64 x.ser)
theorem InS.hd {w : World} {A : Option Addr} {c : Nat} {l : List Hd} (h : InS hdC 5 w A c l) (h0 : 0 < l.length) : ∃ b off, A = some ⟨b, off, none⟩ ∧ b < w.heap.size ∧ ∀ (j : Nat) (hj : j < l.length), HdAt w b (off + j * 5) l[j] := by
  obtain ⟨b, off, e, hb, hc⟩ := h.all hdC_len h0
  refine ⟨b, off, e, hb, fun j hj => ⟨?_, ?_, ?_, ?_, ?_⟩⟩
  · exact hc j hj 0 _ (by omega) rfl
  · rw [Nat.add_assoc]; exact hc j hj 1 _ (by omega) rfl
  · rw [Nat.add_assoc]; exact hc j hj 2 _ (by omega) rfl
  · rw [Nat.add_assoc]; exact hc j hj 3 _ (by omega) rfl
  · rw [Nat.add_assoc]; exact hc j hj 4 _ (by omega) rfl
theorem InS.ls {w : World} {A : Option Addr} {c : Nat} {l : List Ls} (h : InS lsC 6 w A c l) (h0 : 0 < l.length) : ∃ b off, A = some ⟨b, off, none⟩ ∧ b < w.heap.size ∧ ∀ (j : Nat) (hj : j < l.length), LsAt w b (off + j * 6) l[j] := by
  obtain ⟨b, off, e, hb, hc⟩ := h.all lsC_len h0
  refine ⟨b, off, e, hb, fun j hj => ⟨?_, ?_, ?_, ?_, ?_, ?_⟩⟩
  · exact hc j hj 0 _ (by omega) rfl
  · rw [Nat.add_assoc]; exact hc j hj 1 _ (by omega) rfl
  · rw [Nat.add_assoc]; exact hc j hj 2 _ (by omega) rfl
  · rw [Nat.add_assoc]; exact hc j hj 3 _ (by omega) rfl
  · rw [Nat.add_assoc]; exact hc j hj 4 _ (by omega) rfl
  · rw [Nat.add_assoc]; exact hc j hj 5 _ (by omega) rfl
theorem flat_one {α : Type} {f : α → List Value} (hf : ∀ x, ∀ u ∈ f x, u.oneCell' = true) (l : List α) : ∀ u ∈ l.flatMap f, u.oneCell' = true := by
  intro u hu
  obtain ⟨x, _, hx⟩ := List.mem_flatMap.1 hu
  exact hf x u hx
theorem hdC_one (h : Hd) : ∀ u ∈ hdC h, u.oneCell' = true := by
  intro u hu
  simp only [hdC, List.mem_cons, List.not_mem_nil, or_false] at hu
  rcases hu with rfl | rfl | rfl | rfl | rfl <;> rfl
theorem lsC_one (x : Ls) : ∀ u ∈ lsC x, u.oneCell' = true := by
  intro u hu
  simp only [lsC, List.mem_cons, List.not_mem_nil, or_false] at hu
  rcases hu with rfl | rfl | rfl | rfl | rfl | rfl <;> rfl
end Go.Proofs.Ytidkhekekfennaa
