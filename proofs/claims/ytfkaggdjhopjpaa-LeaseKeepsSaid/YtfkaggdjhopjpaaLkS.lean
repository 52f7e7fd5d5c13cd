/- Both keepers in memory, beside what a round of the law has made. -/
import Derived.Test.YtfkaggdjhopjpaaLkP
import Derived.Test.YtfkaggdjhopjpaaOpenSee
import Derived.Test.YtfkaggdjhopjpaaLedCp
namespace Go.Proofs.Ytfkaggdjhopjpaa
set_option maxRecDepth 100000
open Go.RowKit

def KB (gk : Nat) (a : Ka) (rs : List Rw) (j : Nat) : Prop := j = gk ∨ a.mv = .map (some j) ∨ (0 < rs.length ∧ ∃ q, a.A = some q ∧ q.block = j)
def RB (gx : Nat) (A : Option Addr) (j : Nat) : Prop := j = gx ∨ ∃ q, A = some q ∧ q.block = j
section
variable {w w1 w2 : World} {gk : Nat} {a a' : Ka} {L : Int} {rs : List Rw} {f : Rw → Option Int} {n : Nat} {P : Nat → Prop} {gx : Nat} {A A' : Option Addr} {c c' : Nat} {xs : List Rk}
theorem KS.lts (h : KS w gk a L rs f n) : ∀ j, KB gk a rs j → j < w.heap.size := by
  rintro j (rfl | e | ⟨h0, q, e, rfl⟩)
  · exact h.lt
  · exact (h.mapS e).lt
  · obtain ⟨b, off, e', hb, _⟩ := h.rows.reads.2 h0
    rw [e] at e'
    injection e' with e'
    subst e'
    exact hb
theorem KS.trB (h : KS w gk a L rs f n) (ht : Tr w w1 P) (hp : ∀ j, KB gk a rs j → ¬ P j) : KS w1 gk a L rs f n :=
  h.tr ht (hp gk (Or.inl rfl)) (fun M e => hp M (Or.inr (Or.inl e))) (fun h0 q e => hp _ (Or.inr (Or.inr ⟨h0, q, e, rfl⟩)))
theorem RS.lts (h : RS w gx A c L xs) : ∀ j, RB gx A j → j < w.heap.size := by
  rintro j (rfl | ⟨q, e, rfl⟩)
  · exact h.lt
  · exact h.alt q e
theorem RS.trB (h : RS w gx A c L xs) (ht : Tr w w1 P) (hp : ∀ j, RB gx A j → ¬ P j) : RS w1 gx A c L xs :=
  h.tr ht (hp gx (Or.inl rfl)) (fun q e => hp _ (Or.inr ⟨q, e, rfl⟩))
end
/-- Both keepers. -/
structure St (w : World) (g gk : Nat) (a : Ka) (L : Int) (f : Rw → Option Int) (n gx : Nat) (A : Option Addr) (c : Nat) (xs : List Rk) : Prop where
  ks : KS w gk a L (rows xs) f n
  rs : RS w gx A c L xs
  cp : Cpl f xs
  ap : (rows xs).Pairwise (· ≠ ·)
  len : xs.length ≤ 64
  sep : ∀ j, KB gk a (rows xs) j → ¬ RB gx A j
  kge : ∀ j, KB gk a (rows xs) j → g ≤ j
  rge : ∀ j, RB gx A j → g ≤ j
section
variable {w w1 w2 : World} {g gk : Nat} {a a' : Ka} {L : Int} {f : Rw → Option Int} {n gx : Nat} {A A' : Option Addr} {c c' : Nat} {xs : List Rk} {P : Nat → Prop}
theorem St.tr (h : St w g gk a L f n gx A c xs) (ht : Tr w w1 P) (hk : ∀ j, KB gk a (rows xs) j → ¬ P j) (hr : ∀ j, RB gx A j → ¬ P j) : St w1 g gk a L f n gx A c xs :=
  ⟨h.ks.trB ht hk, h.rs.trB ht hr, h.cp, h.ap, h.len, h.sep, h.kge, h.rge⟩
theorem St.keep (h : St w g gk a L f n gx A c xs) (hb : Below w.heap.size w w1) : St w1 g gk a L f n gx A c xs :=
  h.tr (P := fun _ => False) (Tr.of_below hb) (fun _ _ q => q) (fun _ _ q => q)
/-- Behind a Sees or a Leads of both. -/
theorem St.see (h : St w g gk a L f n gx A c xs) {hs : List Hd} (hl : hs.length ≤ 64) (hap : (hs.map Hd.rw).Pairwise (· ≠ ·)) (t : Int) {f0 : Rw → Option Int} {ys : List Rk} (hcp : Cpl f0 ys)
    (k1 : KS w1 gk a' L (hs.map Hd.rw) (seeF f0 t hs hs.length) hs.length) (hM : ∃ M, a'.mv = .map (some M) ∧ w.heap.size ≤ M) (hA : ∀ q, a'.A = some q → w.heap.size ≤ q.block) (t1 : Tr w w1 (fun j => j = gk))
    (r2 : RS w2 gx A' c' L (seeR ys t hs)) (hA2 : ∀ q, A' = some q → w1.heap.size ≤ q.block) (t2 : Tr w1 w2 (fun j => j = gx)) (hg : g ≤ w.heap.size) :
    St w2 g gk a' L (seeF f0 t hs hs.length) hs.length gx A' c' (seeR ys t hs) ∧ Tr w w2 (fun j => j = gk ∨ j = gx) ∧ (∀ j, KB gk a' (rows (seeR ys t hs)) j → j = gk ∨ w.heap.size ≤ j) ∧ (∀ j, RB gx A' j → j = gx ∨ w.heap.size ≤ j) := by
  have hgg : gk ≠ gx := fun e => h.sep gk (Or.inl rfl) (Or.inl e)
  have hxl : gx < w.heap.size := h.rs.lt
  have hz1 := t1.size
  have hKB : ∀ j, KB gk a' (rows (seeR ys t hs)) j → j = gk ∨ w.heap.size ≤ j := by
    rintro j (e | e | ⟨_, q, e, rfl⟩)
    · exact Or.inl e
    · obtain ⟨M, e', hm⟩ := hM
      rw [e] at e'
      injection e' with e'
      injection e' with e'
      subst e'
      exact Or.inr hm
    · exact Or.inr (hA q e)
  have hRB : ∀ j, RB gx A' j → j = gx ∨ w1.heap.size ≤ j := by
    rintro j (e | ⟨q, e, rfl⟩)
    · exact Or.inl e
    · exact Or.inr (hA2 q e)
  have hrw : rows (seeR ys t hs) = hs.map Hd.rw := rows_see ys t hs
  have k1' : KS w1 gk a' L (rows (seeR ys t hs)) (seeF f0 t hs hs.length) hs.length := by rw [hrw]; exact k1
  have hKlt := k1'.lts
  refine ⟨⟨k1'.trB t2 (fun j hj e => ?_), r2, hcp.see t hs, by rw [hrw]; exact hap, by simp [seeR]; exact hl, fun j hj hr => ?_, fun j hj => ?_, fun j hj => ?_⟩, ?_, hKB, fun j hj => ?_⟩
  · rcases hKB j hj with q | q
    · omega
    · omega
  · have h1 := hKlt j hj
    rcases hKB j hj with q | q <;> rcases hRB j hr with p | p <;> omega
  · rcases hKB j hj with q | q
    · rw [q]
      exact h.kge gk (Or.inl rfl)
    · omega
  · rcases hRB j hj with q | q
    · rw [q]
      exact h.rge gx (Or.inl rfl)
    · omega
  · exact (t1.imp (fun _ _ q => Or.inl q)).trans (t2.imp (fun _ _ q => Or.inr q))
  · rcases hRB j hj with q | q
    · exact Or.inl q
    · exact Or.inr (by omega)
/-- Behind a Due of both. -/
theorem St.due (h : St w g gk a L f n gx A c xs) (t : Int) (k1 : KS w1 gk a L (rows xs) (dueK L t (rows xs) f (rows xs).length).1 (n + (rows xs).length)) (t1 : Tr w w1 (fun j => a.mv = .map (some j)))
    (r2 : RS w2 gx A c L (xs.map (updR L t))) (t2 : Tr w1 w2 (fun j => (Value.slice A xs.length c).ownBlock = some j)) :
    St w2 g gk a L (dueK L t (rows xs) f (rows xs).length).1 (n + 64) gx A c (xs.map (updR L t)) ∧ Tr w w2 (fun j => KB gk a (rows xs) j ∨ RB gx A j) := by
  have hrw := rows_upd L t xs
  have hb : ∀ j, (Value.slice A xs.length c).ownBlock = some j → RB gx A j := by
    intro j e
    cases A with
    | none => cases e
    | some q => injection e with e; exact Or.inr ⟨q, rfl, e⟩
  have k2 : KS w2 gk a L (rows xs) (dueK L t (rows xs) f (rows xs).length).1 (n + 64) := by
    have := k1.trB t2 (fun j hj e => h.sep j hj (hb j e))
    refine ⟨this.blk, this.rows, ?_, this.wf, this.rng⟩
    rcases this.map with q | ⟨M, e, q⟩
    · exact Or.inl q
    · exact Or.inr ⟨M, e, q.mono (by have := h.len; rw [rows_len]; omega)⟩
  refine ⟨⟨by rw [hrw]; exact k2, r2, (h.cp.due_all h.ap L t).2, by rw [hrw]; exact h.ap, by rw [List.length_map]; exact h.len, by rw [hrw]; exact h.sep, by rw [hrw]; exact h.kge, h.rge⟩, ?_⟩
  exact (t1.imp (fun j _ q => Or.inl (Or.inr (Or.inl q)))).trans (t2.imp (fun j _ q => Or.inr (hb j q)))
end
/-- What a round of the law has made: its call, the ledger of its own. -/
structure It (w : World) (B0 B1 g11 g12 : Nat) (x : Se) (Ao : Option Addr) (co : Nat) (Bo : Option Addr) (cb : Nat) : Prop where
  b11 : Blk w g11 50 (seA x)
  b12 : Blk w g12 26 (ledC x.l.lim x.l.nxt (.slice Ao x.l.hs.length co) (.slice Bo x.l.ls.length cb))
  row : w.ownsRow B0 55 5 (.slice Ao x.l.hs.length co) x.l.hs.length (x.l.hs.flatMap hdC)
  ll : InS lsC 6 w Bo cb x.l.ls
  l11 : B0 ≤ g11 ∧ g11 < B1
  l12 : B0 ≤ g12 ∧ g12 < B1
  lr : ∀ q, Ao = some q → q.block < B1
  ll2 : 0 < x.l.ls.length → ∀ q, Bo = some q → B0 ≤ q.block ∧ q.block < B1
section
variable {w w1 : World} {B0 B1 g11 g12 : Nat} {x : Se} {Ao : Option Addr} {co : Nat} {Bo : Option Addr} {cb : Nat} {P : Nat → Prop}
theorem It.tr (h : It w B0 B1 g11 g12 x Ao co Bo cb) (ht : Tr w w1 P) (hp : ∀ j, P j → j < B0 ∨ B1 ≤ j) : It w1 B0 B1 g11 g12 x Ao co Bo cb := by
  have f : ∀ j, B0 ≤ j → j < B1 → ¬ P j := fun j h1 h2 q => by rcases hp j q with q | q <;> omega
  refine ⟨(ht.block _ h.b11.lt (f _ h.l11.1 h.l11.2)).trans h.b11, (ht.block _ h.b12.lt (f _ h.l12.1 h.l12.2)).trans h.b12, own_tr h.row ht (fun j e => ?_), ?_, h.l11, h.l12, h.lr, h.ll2⟩
  · have h1 := own_base h.row j e
    cases Ao with
    | none => cases e
    | some q =>
      injection e with e
      have := h.lr q rfl
      exact f j h1 (by omega)
  · refine ⟨⟨h.ll.reads.1, fun h0 => ?_⟩, h.ll.cap, h.ll.small⟩
    obtain ⟨b, off, e, hb, hc⟩ := h.ll.reads.2 h0
    have := h.ll2 h0 _ e
    exact ⟨b, off, e, Nat.lt_of_lt_of_le hb ht.size, fun j u hu => (World.cell?_of_block (ht.block b hb (f _ this.1 this.2))).trans (hc j u hu)⟩
theorem It.keep (h : It w B0 B1 g11 g12 x Ao co Bo cb) (hb : Below w.heap.size w w1) : It w1 B0 B1 g11 g12 x Ao co Bo cb := h.tr (P := fun _ => False) (Tr.of_below hb) (fun _ q => q.elim)
theorem It.inh (h : It w B0 B1 g11 g12 x Ao co Bo cb) (hl : x.l.hs.length ≤ 64) : InS hdC 5 w Ao co x.l.hs := InS.own_at h.row (by omega)
end
end Go.Proofs.Ytfkaggdjhopjpaa
