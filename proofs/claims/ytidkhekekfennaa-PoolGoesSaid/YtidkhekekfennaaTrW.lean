/- What has turned: a frame as a set of blocks. -/
import Derived.Test.YtidkhekekfennaaWd
namespace Go.Proofs.Ytidkhekekfennaa
set_option maxRecDepth 100000
open Go.RowKit

/-- What has turned lies in the blocks P. -/
structure Tr (w w' : World) (P : Nat → Prop) : Prop where
  os : w'.os = w.os
  tape : w'.tape = w.tape
  output : w'.output = w.output
  size : w.heap.size ≤ w'.heap.size
  block : ∀ k, k < w.heap.size → ¬ P k → w'.heap[k]? = w.heap[k]?
section
variable {w w1 w2 : World} {P Q : Nat → Prop}
theorem Tr.refl (w : World) (P : Nat → Prop) : Tr w w P := ⟨rfl, rfl, rfl, Nat.le_refl _, fun _ _ _ => rfl⟩
theorem Tr.trans (h : Tr w w1 P) (k : Tr w1 w2 P) : Tr w w2 P :=
  ⟨k.os.trans h.os, k.tape.trans h.tape, k.output.trans h.output, Nat.le_trans h.size k.size, fun i hi hp => (k.block i (Nat.lt_of_lt_of_le hi h.size) hp).trans (h.block i hi hp)⟩
theorem Tr.imp (h : Tr w w1 P) (hi : ∀ k, k < w.heap.size → P k → Q k) : Tr w w1 Q := ⟨h.os, h.tape, h.output, h.size, fun k hk hq => h.block k hk (fun hp => hq (hi k hk hp))⟩
theorem Tr.below {B : Nat} (h : Tr w w1 P) (hp : ∀ k, k < w.heap.size → P k → B ≤ k) (hB : B ≤ w.heap.size) : Below B w w1 :=
  ⟨h.os, h.tape, h.output, h.size, fun k hk => h.block k (by omega) (fun q => by have := hp k (by omega) q; omega)⟩
theorem Tr.of_below (h : Below w.heap.size w w1) : Tr w w1 P := ⟨h.os, h.tape, h.output, h.size, fun k hk _ => h.block k hk⟩
theorem Tr.of_grown {row : Option Nat} (h : w.grownBy w1 row) (hr : ∀ k, row = some k → k < w.heap.size → P k) : Tr w w1 P :=
  ⟨h.os, h.tape, h.output, h.size, fun k hk hp => h.block k hk (fun e => hp (hr k e.symm hk))⟩
theorem Tr.alloc (h : Tr w w1 P) (o : Obj) : Tr w (w1.alloc o) P := h.trans (Tr.of_below ((Below.refl _ _).alloc (Nat.le_refl _) o))
theorem Tr.drew (h : Tr w w1 P) : Tr w w1.drew P := ⟨h.os, h.tape, h.output, h.size, h.block⟩
theorem Tr.drewN (h : Tr w w1 P) (n : Nat) : Tr w (w1.drewN n) P := ⟨h.os, h.tape, h.output, h.size, h.block⟩
theorem Tr.setCell (h : Tr w w1 P) {a : Addr} (ha : a.block < w.heap.size → P a.block) (u : Value) : Tr w (w1.setCell a u) P :=
  ⟨h.os, h.tape, h.output, by have := h.size; simpa [World.setCell] using this, fun k hk hp => (Below.heap_setCell w1 a u k (fun e => hp (e ▸ ha (e ▸ hk)))).trans (h.block k hk hp)⟩
/-- Behind further steps that turn what is newer. -/
theorem Tr.more (h : Tr w w1 P) (k : Tr w1 w2 Q) (hq : ∀ j, j < w.heap.size → Q j → P j) : Tr w w2 P :=
  ⟨k.os.trans h.os, k.tape.trans h.tape, k.output.trans h.output, Nat.le_trans h.size k.size, fun i hi hp => (k.block i (Nat.lt_of_lt_of_le hi h.size) (fun q => hp (hq i hi q))).trans (h.block i hi hp)⟩
end
theorem Tr.grown {w w1 : World} {P : Nat → Prop} {g : Nat} (h : Tr w w1 P) (hp : ∀ k, k < w.heap.size → P k → k = g) : w.grownBy w1 (some g) :=
  ⟨h.os, h.tape, h.output, h.size, fun k hk hne => h.block k hk (fun q => hne (by rw [hp k hk q]))⟩
theorem Blk.tr {w w1 : World} {P : Nat → Prop} {g : Nat} {t : TypeId} {cs : Array Value} (h : Blk w g t cs) (k : Tr w w1 P) (hp : ¬ P g) : Blk w1 g t cs := (k.block g h.lt hp).trans h
theorem own_tr {w w1 : World} {P : Nat → Prop} {base n size : Nat} {e : TypeId} {v : Value} {xs : List Value} (h : w.ownsRow base e size v n xs) (k : Tr w w1 P) (hp : ∀ b, v.ownBlock = some b → ¬ P b) : w1.ownsRow base e size v n xs := by
  refine ⟨h.1, ?_⟩
  rcases h.2 with h2 | ⟨g, cap, cur, hv, hg, hh, r⟩
  · exact .inl h2
  · refine .inr ⟨g, cap, cur, hv, hg, ?_, r⟩
    have hlt : g < w.heap.size := by
      rcases Nat.lt_or_ge g w.heap.size with h1 | h1
      · exact h1
      · rw [Array.getElem?_eq_none h1] at hh; cases hh
    exact (k.block g hlt (hp g (by rw [hv]; rfl))).trans hh
end Go.Proofs.Ytidkhekekfennaa
