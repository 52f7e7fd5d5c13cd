/- Keepers: in memory; the small functions time, NewKeeper; what has turned. -/
import Derived.Test.YtfkaggdjhopjpaaMapR
import Derived.Test.YtfkaggdjhopjpaaLedR
import Derived.Test.YtfkaggdjhopjpaaShCp
import Derived.Lib.MinMax
namespace Go.Proofs.Ytfkaggdjhopjpaa
set_option maxRecDepth 100000
open Go.RowKit Go.Maps

/-- What has turned lies in the blocks P. -/
structure Tr (w w' : World) (P : Nat → Prop) : Prop where
  os : w'.os = w.os
  tape : w'.tape = w.tape
  output : w'.output = w.output
  size : w.heap.size ≤ w'.heap.size
  block : ∀ k, k < w.heap.size → ¬ P k → w'.heap[k]? = w.heap[k]?
section
variable {w w1 w2 : World} {P Q : Nat → Prop}
theorem Tr.refl (w : World) (P : Nat → Prop) : Tr w w P := ⟨rfl, rfl, rfl, Nat.le_refl _, fun _ _ _ => rfl⟩
theorem Tr.trans (h : Tr w w1 P) (k : Tr w1 w2 P) : Tr w w2 P :=
  ⟨k.os.trans h.os, k.tape.trans h.tape, k.output.trans h.output, Nat.le_trans h.size k.size, fun i hi hp => (k.block i (Nat.lt_of_lt_of_le hi h.size) hp).trans (h.block i hi hp)⟩
theorem Tr.imp (h : Tr w w1 P) (hi : ∀ k, k < w.heap.size → P k → Q k) : Tr w w1 Q := ⟨h.os, h.tape, h.output, h.size, fun k hk hq => h.block k hk (fun hp => hq (hi k hk hp))⟩
theorem Tr.below {B : Nat} (h : Tr w w1 P) (hp : ∀ k, k < w.heap.size → P k → B ≤ k) (hB : B ≤ w.heap.size) : Below B w w1 :=
  ⟨h.os, h.tape, h.output, h.size, fun k hk => h.block k (by omega) (fun q => by have := hp k (by omega) q; omega)⟩
theorem Tr.of_below (h : Below w.heap.size w w1) : Tr w w1 P := ⟨h.os, h.tape, h.output, h.size, fun k hk _ => h.block k hk⟩
theorem Tr.of_grown {row : Option Nat} (h : w.grownBy w1 row) (hr : ∀ k, row = some k → k < w.heap.size → P k) : Tr w w1 P :=
  ⟨h.os, h.tape, h.output, h.size, fun k hk hp => h.block k hk (fun e => hp (hr k e.symm hk))⟩
theorem Tr.alloc (h : Tr w w1 P) (o : Obj) : Tr w (w1.alloc o) P := h.trans (Tr.of_below ((Below.refl _ _).alloc (Nat.le_refl _) o))
theorem Tr.drew (h : Tr w w1 P) : Tr w w1.drew P := ⟨h.os, h.tape, h.output, h.size, h.block⟩
theorem Tr.drewN (h : Tr w w1 P) (n : Nat) : Tr w (w1.drewN n) P := ⟨h.os, h.tape, h.output, h.size, h.block⟩
theorem Tr.setCell (h : Tr w w1 P) {a : Addr} (ha : a.block < w.heap.size → P a.block) (u : Value) : Tr w (w1.setCell a u) P :=
  ⟨h.os, h.tape, h.output, by have := h.size; simpa [World.setCell] using this, fun k hk hp => (Below.heap_setCell w1 a u k (fun e => hp (e ▸ ha (e ▸ hk)))).trans (h.block k hk hp)⟩
/-- Behind further steps that turn what is newer. -/
theorem Tr.more (h : Tr w w1 P) (k : Tr w1 w2 Q) (hq : ∀ j, j < w.heap.size → Q j → P j) : Tr w w2 P :=
  ⟨k.os.trans h.os, k.tape.trans h.tape, k.output.trans h.output, Nat.le_trans h.size k.size, fun i hi hp => (k.block i (Nat.lt_of_lt_of_le hi h.size) (fun q => hp (hq i hi q))).trans (h.block i hi hp)⟩
end
/-- A map's block is no row of cells. -/
theorem ownsMap_cells {w : World} {P : Program} {k : TypeId} {R : Value → Option (DataW Unit × List MemPlace)} {b n : Nat} {D : DataW Unit} (h : w.ownsMap P k R b n D) {a : Addr} {u : Value} (hc : w.cell? a = some u) : b ≠ a.block := by
  obtain ⟨es, clock, hb, _⟩ := h
  intro e
  subst e
  simp [World.cell?, hb] at hc
theorem MapF.apart {w : World} {M n : Nat} {f : Rw → Option Int} (h : MapF w M n f) {a : Addr} {u : Value} (hc : w.cell? a = some u) : M ≠ a.block := by
  obtain ⟨D, h1, _⟩ := h
  exact ownsMap_cells h1 hc
theorem InS.kept {α : Type} {f : α → List Value} {s : Nat} {w w1 : World} {A : Option Addr} {c : Nat} {l : List α} (h : InS f s w A c l) (hs : w.heap.size ≤ w1.heap.size) (hk : ∀ a : Addr, ∀ u, w.cell? a = some u → w1.cell? a = some u) : InS f s w1 A c l :=
  ⟨⟨h.reads.1, fun h0 => by
    obtain ⟨b, off, e, hb, hc⟩ := h.reads.2 h0
    exact ⟨b, off, e, by omega, fun j u hu => hk _ _ (hc j u hu)⟩⟩, h.cap, h.small⟩

/-- A time as it counts. -/
def tmC (n : Int) : Int := max 0 (min n 4611686018427387904)
theorem tmC_lo (n : Int) : 0 ≤ tmC n := by unfold tmC; omega
theorem tmC_hi (n : Int) : tmC n ≤ 4611686018427387904 := by unfold tmC; omega
theorem tmC_id {n : Int} (h0 : 0 ≤ n) (h1 : n ≤ 4611686018427387904) : tmC n = n := by unfold tmC; omega
theorem lease_time_any (w : World) (n : Int) : Calls Try.prog 45 #[.int .i64 n] w fun e w' => e = .returned (.int .i64 (tmC n)) ∧ w' = w := by
  unfold tmC
  go_enter Try.func45, Try.ntmps45
  go_wp2
  go_ret
  exact ⟨rfl, rfl⟩
def kpC (L : Int) (rv mv : Value) : Array Value := #[.int .i64 L, rv, mv]
structure KpAt (w : World) (g : Nat) (L : Int) (rv mv : Value) : Prop where
  k0 : w.cell? ⟨g, 0, none⟩ = some (.int .i64 L)
  k1 : w.cell? ⟨g, 1, none⟩ = some rv
  k2 : w.cell? ⟨g, 2, none⟩ = some mv
theorem Blk.kp {w : World} {g : Nat} {T : TypeId} {L : Int} {rv mv : Value} (h : Blk w g T (kpC L rv mv)) : KpAt w g L rv mv := by
  constructor <;> (rw [h.cell]; rfl)
/-- NewKeeper, in this world, of this lease. -/
def NewE (w : World) (n : Int) (e : Ending) (w' : World) : Prop :=
  if 1 ≤ n ∧ n ≤ 1073741824 then e = .returned (.tuple #[.pointer (some ⟨w.heap.size, 0, none⟩), .int .i64 0]) ∧ w' = w.alloc (.cells (kpC n (.slice none 0 0) (.map none)) 98)
  else e = .returned (.tuple #[.pointer none, .int .i64 1]) ∧ w' = w
theorem lease_NewKeeper_any (w : World) (n : Int) : Calls Try.prog 8 #[.int .i64 n] w (NewE w n) := by
  by_cases e1 : 1 ≤ n ∧ n ≤ 1073741824
  · suffices h : Calls Try.prog 8 #[.int .i64 n] w fun e w' => e = .returned (.tuple #[.pointer (some ⟨w.heap.size, 0, none⟩), .int .i64 0]) ∧ w' = w.alloc (.cells (kpC n (.slice none 0 0) (.map none)) 98) from
      h.mono fun e w' hh => by unfold NewE; rw [if_pos e1]; exact hh
    have h1 : 1 ≤ n := e1.1
    have h2 : n ≤ 1073741824 := e1.2
    clear e1
    unfold kpC
    go_enter Try.func8, Try.ntmps8
    go_wp2
    go_ret2
    exact ⟨rfl, rfl⟩
  · suffices h : Calls Try.prog 8 #[.int .i64 n] w fun e w' => e = .returned (.tuple #[.pointer none, .int .i64 1]) ∧ w' = w from
      h.mono fun e w' hh => by unfold NewE; rw [if_neg e1]; exact hh
    by_cases h1 : n < 1
    · clear e1
      go_enter Try.func8, Try.ntmps8
      go_wp2
      go_ret2
      exact ⟨rfl, rfl⟩
    · have h2 : 1073741824 < n := by omega
      clear e1
      go_enter Try.func8, Try.ntmps8
      go_wp2
      go_ret2
      exact ⟨rfl, rfl⟩

/-- Where a keeper's rows and its map stand. -/
structure Ka where
  A : Option Addr
  c : Nat
  mv : Value
/-- A keeper in memory: its block, the rows it knows, since when. -/
structure KS (w : World) (gk : Nat) (a : Ka) (L : Int) (rs : List Rw) (f : Rw → Option Int) (n : Nat) : Prop where
  blk : Blk w gk 98 (kpC L (.slice a.A rs.length a.c) a.mv)
  rows : InS rwC 3 w a.A a.c rs
  map : (a.mv = .map none ∧ (∀ r, f r = none) ∧ rs = []) ∨ ∃ M, a.mv = .map (some M) ∧ MapF w M n f
  wf : ∀ r ∈ rs, r.Wf
  rng : ∀ r v, f r = some v → 0 ≤ v ∧ v ≤ 4611686018427387904
section
variable {w w1 : World} {gk : Nat} {a : Ka} {L : Int} {rs : List Rw} {f : Rw → Option Int} {n : Nat} {P : Nat → Prop}
theorem KS.tr (h : KS w gk a L rs f n) (ht : Tr w w1 P) (hg : ¬ P gk) (hm : ∀ M, a.mv = .map (some M) → ¬ P M) (hr : 0 < rs.length → ∀ q, a.A = some q → ¬ P q.block) : KS w1 gk a L rs f n := by
  refine ⟨(ht.block gk h.blk.lt hg).trans h.blk, ⟨⟨h.rows.reads.1, fun h0 => ?_⟩, h.rows.cap, h.rows.small⟩, ?_, h.wf, h.rng⟩
  · obtain ⟨b, off, e, hbb, hc⟩ := h.rows.reads.2 h0
    exact ⟨b, off, e, Nat.lt_of_lt_of_le hbb ht.size, fun j u hu => (World.cell?_of_block (ht.block b hbb (hr h0 _ e))).trans (hc j u hu)⟩
  · rcases h.map with h1 | ⟨M, e, D, ⟨es, cl, hm1, h3⟩, h2⟩
    · exact .inl h1
    · exact .inr ⟨M, e, D, ⟨es, cl, (ht.block M (Array.getElem?_eq_some_iff.1 hm1).1 (hm M e)).trans hm1, h3⟩, h2⟩
theorem KS.keep (h : KS w gk a L rs f n) (hb : Below w.heap.size w w1) : KS w1 gk a L rs f n :=
  h.tr (P := fun _ => False) (Tr.of_below hb) (fun q => q) (fun _ _ q => q) (fun _ _ _ q => q)
theorem KS.lt (h : KS w gk a L rs f n) : gk < w.heap.size := h.blk.lt
theorem KS.mapS (h : KS w gk a L rs f n) {M : Nat} (e : a.mv = .map (some M)) : MapF w M n f := by
  rcases h.map with ⟨h1, _⟩ | ⟨M', e', h1⟩
  · rw [e] at h1
    cases h1
  · rw [e] at e'
    injection e' with e'
    injection e' with e'
    subst e'
    exact h1
theorem KS.start (w : World) (L : Int) : KS (w.alloc (.cells (kpC L (.slice none 0 0) (.map none)) 98)) w.heap.size ⟨none, 0, .map none⟩ L [] (fun _ => none) 0 :=
  ⟨Blk.new _ _ _, InS.nil, .inl ⟨rfl, fun _ => rfl, rfl⟩, (fun _ h => by cases h), (fun _ _ h => by cases h)⟩
end
/-- .. its map alone. -/
structure KS0 (w : World) (gk : Nat) (rv mv : Value) (L : Int) (f : Rw → Option Int) (n : Nat) : Prop where
  blk : Blk w gk 98 (kpC L rv mv)
  map : (mv = .map none ∧ (∀ r, f r = none)) ∨ ∃ M, mv = .map (some M) ∧ MapF w M n f
  rng : ∀ r v, f r = some v → 0 ≤ v ∧ v ≤ 4611686018427387904
section
variable {w w1 : World} {gk : Nat} {rv mv : Value} {L : Int} {f : Rw → Option Int} {n : Nat}
theorem KS0.lt (h : KS0 w gk rv mv L f n) : gk < w.heap.size := h.blk.lt
theorem KS0.keep (h : KS0 w gk rv mv L f n) (hb : Below w.heap.size w w1) : KS0 w1 gk rv mv L f n := by
  refine ⟨h.blk.below hb h.blk.lt, ?_, h.rng⟩
  rcases h.map with h1 | ⟨M, e, h1⟩
  · exact .inl h1
  · exact .inr ⟨M, e, h1.below hb h1.lt⟩
theorem KS.ks0 {a : Ka} {rs : List Rw} (h : KS w gk a L rs f n) : KS0 w gk (.slice a.A rs.length a.c) a.mv L f n := by
  refine ⟨h.blk, ?_, h.rng⟩
  rcases h.map with ⟨h1, h2, _⟩ | h1
  · exact .inl ⟨h1, h2⟩
  · exact .inr h1
end
/-- Rows in memory, one by one. -/
structure RwAt (w : World) (b o : Nat) (r : Rw) : Prop where
  c0 : w.cell? ⟨b, o, none⟩ = some (.int .i64 r.tok)
  c1 : w.cell? ⟨b, o + 1, none⟩ = some (.int .u64 r.ser)
  c2 : w.cell? ⟨b, o + 2, none⟩ = some (.int .u64 r.stp)
end Go.Proofs.Ytfkaggdjhopjpaa
