/- Numbers of any kind in memory: rows of the call's own (OwnN), slices that are read (InN). -/
import Derived.Test.YtidkhekekfennaaMem
namespace Go.Proofs.Ytidkhekekfennaa
set_option maxRecDepth 100000
open Go.RowKit

def nums (k : IntKind) (l : List Int) : List Value := l.map (Value.int k)
theorem nums_length (k : IntKind) (l : List Int) : (nums k l).length = l.length := by simp [nums]
theorem nums_append (k : IntKind) (l m : List Int) : nums k (l ++ m) = nums k l ++ nums k m := by simp [nums]
theorem nums_get {k : IntKind} {l : List Int} {i : Nat} (h : i < l.length) : (nums k l)[i]? = some (.int k (l[i])) := by simp [nums, h]
theorem nums_one_cell (k : IntKind) (l : List Int) : ∀ u ∈ nums k l, u.oneCell' = true := by
  intro u hu
  simp only [nums, List.mem_map] at hu
  obtain ⟨x, _, rfl⟩ := hu
  rfl
/-- All of them are numbers of the kind. -/
def Wfs (k : IntKind) (l : List Int) : Prop := ∀ x ∈ l, (Lit.int k x).wf = true
theorem Wfs.get {k : IntKind} {l : List Int} (h : Wfs k l) {j : Nat} (hj : j < l.length) : (Lit.int k (l[j])).wf = true := h _ (List.getElem_mem hj)
theorem Wfs.app {k : IntKind} {l m : List Int} (h : Wfs k l) (h2 : Wfs k m) : Wfs k (l ++ m) := fun x hx => (List.mem_append.1 hx).elim (h x) (h2 x)
theorem Wfs.nil (k : IntKind) : Wfs k [] := fun _ h => by cases h

/-- In new memory: the slice v, owned from block base on, holds l. -/
def OwnN (k : IntKind) (e : TypeId) (w : World) (base : Nat) (v : Value) (l : List Int) : Prop := w.ownsRow base e 1 v l.length (nums k l)
/-- Numbers that are read. -/
structure InN (k : IntKind) (w : World) (A : Option Addr) (c : Nat) (l : List Int) : Prop where
  reads : Reads w w.heap.size 1 A l.length (nums k l)
  wf : Wfs k l
  cap : l.length ≤ c
  small : l.length ≤ 140737488355328
theorem InN.all {k : IntKind} {w : World} {A : Option Addr} {c : Nat} {l : List Int} (h : InN k w A c l) (h0 : 0 < l.length) : ∃ b off, A = some ⟨b, off, none⟩ ∧ ∀ j (hj : j < l.length), w.cell? ⟨b, off + j, none⟩ = some (.int k (l[j])) := by
  obtain ⟨b, off, e, _, hc⟩ := h.reads.2 h0
  exact ⟨b, off, e, fun j hj => hc j _ (nums_get hj)⟩
theorem InN.keep {k : IntKind} {w w1 : World} {A : Option Addr} {c : Nat} {l : List Int} (h : InN k w A c l) (hb : Below w.heap.size w w1) : InN k w1 A c l := ⟨(h.reads.below hb).more hb.size, h.wf, h.cap, h.small⟩
theorem InN.nil {k : IntKind} {w : World} : InN k w none 0 [] := ⟨Reads.none_, Wfs.nil k, Nat.le_refl _, by simp⟩
theorem InN.lit {k : IntKind} {e : TypeId} (w : World) (l : List Int) (hl : Wfs k l) (hs : l.length ≤ 140737488355328) (cs : Array Value) (fr : Nat × Nat) (hcs : cs = (nums k l).toArray) : InN k (w.alloc (.cells cs e fr)) (some ⟨w.heap.size, 0, none⟩) l.length l := by
  subst hcs
  refine ⟨⟨by simp [nums], fun h => ⟨w.heap.size, 0, rfl, by simp, fun j u hu => ?_⟩⟩, hl, Nat.le_refl _, hs⟩
  rw [Nat.zero_add, World.cell?_alloc_mark]
  simpa using hu
theorem InN.own {k : IntKind} {e : TypeId} {w : World} {base : Nat} {v : Value} {l : List Int} (h : OwnN k e w base v l) (hl : Wfs k l) (hs : l.length ≤ 140737488355328) : ∃ A c, v = .slice A l.length c ∧ InN k w A c l := by
  obtain ⟨A, c, rfl, h1, _, hr⟩ := own_open h
  exact ⟨A, c, rfl, hr, hl, h1, hs⟩
theorem InN.own_at {k : IntKind} {e : TypeId} {w : World} {base : Nat} {A : Option Addr} {c : Nat} {l : List Int} (h : OwnN k e w base (.slice A l.length c) l) (hl : Wfs k l) (hs : l.length ≤ 140737488355328) : InN k w A c l := by
  obtain ⟨_, _, q, h2⟩ := InN.own h hl hs
  injection q with q1 _ q3
  subst q1 q3
  exact h2
theorem InN.far {k : IntKind} {w : World} {A : Option Addr} {c n : Nat} {l : List Int} (h : InN k w A c l) {p : Addr} (hp : ∀ b, (Value.slice A n c).ownBlock = some b → p.block ≠ b) (u : Value) : InN k (w.setCell p u) A c l := by
  refine ⟨⟨h.reads.1, fun h0 => ?_⟩, h.wf, h.cap, h.small⟩
  obtain ⟨b, off, e, hb, hc⟩ := h.reads.2 h0
  subst e
  have hne : p.block ≠ b := hp b rfl
  refine ⟨b, off, rfl, by simpa [World.setCell] using hb, fun j v hj => ?_⟩
  rw [← hc j v hj]
  exact World.cell?_of_block (Below.heap_setCell w p u b (fun e => hne e.symm))
end Go.Proofs.Ytidkhekekfennaa
