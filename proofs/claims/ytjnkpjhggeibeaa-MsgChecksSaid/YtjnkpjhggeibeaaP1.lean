/- Texts drawn together (12 of them): words, plain laws and walks that the row leans on. -/
import Derived.WalkKit
import Derived.WalkSpells
import Derived.WalkLawsBesides
import Derived.Below
import Derived.Lib.Hide
import Derived.Laws.OwnMore
import Derived.Deep.AppendLies
import Derived.Deep.Draws
import Derived.Laws.Rows
import Derived.Maps.AppendAt
import Derived.RegionTactic
import Derived.OwnWalk
import Derived.Deep.OwnRows
import Derived.ChangeSame
import Derived.Laws.BytesArg
import Derived.Laws.MakeOwn
import Derived.Deep.QuietTactic
import Derived.BigQuiet
import Derived.Deep.LoopGhost
import Derived.Deep.DeepMust
import Derived.Deep.DeepFit
import Derived.IntWalk
import Derived.KernelRfl
import Derived.Test.YtjnkpjhggeibeaaProg
import Derived.Laws.Tables
import Derived.Deep.MidRow
import Derived.Lib.BitFns
import Derived.Lib.AppendStr
import Derived.Lib.SlBytesConst
import Derived.Deep.DeepCutAuto
import Derived.ProofKit
import Derived.OpenShut
import Derived.SizedLaws
/- Words for memory (after the guide's own blocks that are given to be copied): a slice that reads as a list, a block known whole, append onto a row of the call's own, frames. -/
namespace Go.Proofs.Ytjnkpjhggeibeaa
set_option maxRecDepth 100000
open Go.RowKit

theorem add_plain (g o j : Nat) : (⟨g, o, none⟩ : Addr).add j = ⟨g, o + j, none⟩ := by
  unfold Addr.add
  split
  · rename_i h; subst h; rfl
  · rfl
/-- The slice with address A and n elements (of 'size' cells) reads as the cells xs, in a block below B. -/
def Reads (w : World) (B size : Nat) (A : Option Addr) (n : Nat) (xs : List Value) : Prop :=
  xs.length = n * size ∧ (0 < n → ∃ b off, A = some ⟨b, off, none⟩ ∧ b < B ∧ ∀ j u, xs[j]? = some u → w.cell? ⟨b, off + j, none⟩ = some u)

section
variable {w w' : World} {B B' size n : Nat} {A : Option Addr} {xs : List Value}
theorem Reads.none_ : Reads w B size A 0 [] := ⟨by simp, fun h => absurd h (by omega)⟩
theorem Reads.keep (h : Reads w B size A n xs) (hk : ∀ p : Addr, p.block < B → w'.cell? p = w.cell? p) : Reads w' B size A n xs :=
  ⟨h.1, fun hn => by
    obtain ⟨b, off, e, hb, hc⟩ := h.2 hn
    exact ⟨b, off, e, hb, fun j u hu => (hk _ hb).trans (hc j u hu)⟩⟩
theorem Reads.more (h : Reads w B size A n xs) (hB : B ≤ B') : Reads w B' size A n xs :=
  ⟨h.1, fun hn => by
    obtain ⟨b, off, e, hb, hc⟩ := h.2 hn
    exact ⟨b, off, e, by omega, hc⟩⟩
theorem Reads.below (h : Reads w B size A n xs) (hb : Below B w w') : Reads w' B size A n xs := h.keep fun _ hp => hb.cell hp
theorem Reads.drew (h : Reads w B size A n xs) : Reads w.drew B size A n xs := h
theorem Reads.drewN (h : Reads w B size A n xs) (k : Nat) : Reads (w.drewN k) B size A n xs := h
theorem Reads.alloc (h : Reads w B size A n xs) (hB : B ≤ w.heap.size) (o : Obj) : Reads (w.alloc o) B size A n xs := h.keep fun p hp => World.cell?_alloc_lt w o p (by omega)
theorem Reads.setCell (h : Reads w B size A n xs) {p : Addr} (hB : B ≤ p.block) (u : Value) : Reads (w.setCell p u) B size A n xs :=
  h.keep fun q hq => World.cell?_setCell_other w p q u (fun e => by subst e; omega)
theorem Reads.grown (h : Reads w B size A n xs) {row : Option Nat} (hg : w.grownBy w' row) (hB : B ≤ w.heap.size) (hr : ∀ g, row = some g → B ≤ g) : Reads w' B size A n xs :=
  h.keep fun p hp => World.cell?_of_block (hg.block p.block (by omega) (fun e => by have := hr _ e.symm; omega))
theorem Reads.cut (h : Reads w B size A n xs) {k cap : Nat} (hk : k ≤ n) (hc : n ≤ cap) :
    Reads w B size (if cap = k then A else A.map (·.add (k * size))) (n - k) (xs.drop (k * size)) := by
  refine ⟨by rw [List.length_drop, h.1, Nat.sub_mul], fun hn => ?_⟩
  obtain ⟨b, off, rfl, hb, hcell⟩ := h.2 (by omega)
  rw [if_neg (by omega)]
  refine ⟨b, off + k * size, by simp [add_plain], hb, fun j u hu => ?_⟩
  rw [Nat.add_assoc]
  exact hcell _ u (by rw [← hu, List.getElem?_drop])
theorem Reads.take (h : Reads w B size A n xs) {k : Nat} (hk : k ≤ n) : Reads w B size A k (xs.take (k * size)) := by
  refine ⟨by rw [List.length_take, h.1]; have := Nat.mul_le_mul_right size hk; omega, fun hn => ?_⟩
  obtain ⟨b, off, e, hb, hc⟩ := h.2 (by omega)
  refine ⟨b, off, e, hb, fun j u hu => hc j u ?_⟩
  rw [List.getElem?_take] at hu
  split at hu
  · exact hu
  · cases hu
theorem Reads.of_own {base : Nat} {e : TypeId} {c : Nat} (h : w.ownsRow base e size (.slice A n c) n xs) : Reads w w.heap.size size A n xs := by
  refine ⟨h.1, fun hn => ?_⟩
  obtain ⟨g, cap, hv, _, hlt⟩ := h.form hn
  have hA : A = some ⟨g, 0, none⟩ := by injection hv
  subst hA
  refine ⟨g, 0, rfl, hlt, fun j u hu => ?_⟩
  have := h.cells (g := g) rfl j u hu
  rwa [add_plain] at this
/-- Out of cells told by 'Addr.add' (arguments that were opened). -/
theorem Reads.of_add {a : Addr} (hl : xs.length = n * size) (hb : a.block < B) (h : ∀ j u, xs[j]? = some u → w.cell? (a.add j) = some u) (hs : 0 < size) : Reads w B size (some a) n xs := by
  refine ⟨hl, fun hn => ?_⟩
  have h0 : 0 < xs.length := by rw [hl]; exact Nat.mul_pos hn hs
  obtain ⟨b, off, spot⟩ := a
  have hspot : spot = none := by simpa [Addr.add] using World.cell?_spot (h 0 _ (List.getElem?_eq_getElem h0))
  subst hspot
  exact ⟨b, off, rfl, hb, fun j u hu => by rw [← add_plain]; exact h j u hu⟩
end

def Blk (w : World) (g : Nat) (t : TypeId) (cs : Array Value) : Prop := w.heap[g]? = some (.cells cs t (0, 0))

section
variable {w w' : World} {g : Nat} {t : TypeId} {cs : Array Value}
theorem Blk.lt (h : Blk w g t cs) : g < w.heap.size := by
  rcases Nat.lt_or_ge g w.heap.size with hlt | hge
  · exact hlt
  · unfold Blk at h; rw [Array.getElem?_eq_none hge] at h; cases h
theorem Blk.cell (h : Blk w g t cs) (i : Nat) : w.cell? ⟨g, i, none⟩ = cs[i]? := cell_of_row w g i cs t (0, 0) h
theorem Blk.frozen (h : Blk w g t cs) (i : Nat) : w.frozen? ⟨g, i, none⟩ = false := by
  unfold Blk at h
  simp [World.frozen?, h]
theorem Blk.new (w : World) (t : TypeId) (cs : Array Value) : Blk (w.alloc (.cells cs t)) w.heap.size t cs := heap_alloc_new w _
theorem Blk.drew (h : Blk w g t cs) : Blk w.drew g t cs := h
theorem Blk.drewN (h : Blk w g t cs) (n : Nat) : Blk (w.drewN n) g t cs := h
theorem Blk.alloc (h : Blk w g t cs) (o : Obj) : Blk (w.alloc o) g t cs := (Below.heap_alloc w o g h.lt).trans h
theorem Blk.set_ (h : Blk w g t cs) (i : Nat) (u : Value) : Blk (w.setCell ⟨g, i, none⟩ u) g t (cs.setIfInBounds i u) := by
  unfold Blk at h ⊢
  simp [World.setCell, Array.getElem?_modify, h]
theorem Blk.far (h : Blk w g t cs) {p : Addr} (hp : g ≠ p.block) (u : Value) : Blk (w.setCell p u) g t cs := (Below.heap_setCell w p u g hp).trans h
theorem Blk.below {B : Nat} (h : Blk w g t cs) (hb : Below B w w') (hg : g < B) : Blk w' g t cs := (hb.block g hg).trans h
theorem Blk.grown {row : Option Nat} (h : Blk w g t cs) (hb : w.grownBy w' row) (hg : some g ≠ row) : Blk w' g t cs := (hb.block g h.lt hg).trans h
theorem Blk.ne_ {g' : Nat} {t' : TypeId} {cs' : Array Value} (h : Blk w g t cs) (h' : Blk w g' t' cs') (hne : t ≠ t') : g ≠ g' := by
  rintro rfl
  unfold Blk at h h'
  rw [h] at h'
  injection h' with h'
  injection h' with _ ht
  exact hne ht
theorem own_blk_ne {base : Nat} {e : TypeId} {size n : Nat} {v : Value} {xs : List Value} (h : w.ownsRow base e size v n xs) (hg : Blk w g t cs) (hne : e ≠ t) : v.ownBlock ≠ some g := by
  rcases h.2 with ⟨rfl, _⟩ | ⟨g', cap, cur, rfl, _, hh, _⟩
  · simp [Value.ownBlock]
  · intro he
    have : g' = g := by simpa [Value.ownBlock] using he
    subst this
    exact Blk.ne_ (t := e) hh hg hne rfl
end

section
variable {P : Program} (w : World)

theorem run_append_of_nil (base : Nat) (t ty e : TypeId) (i : TypeInfo) (size : Nat) (ht : P.underlying t = some (.slice e)) (hi : P.info? e = some i)
    (v : Value) (n : Nat) (xs : List Value) (hown : w.ownsRow base e size v n xs) (c : Nat) : (Builtin.append_ #[t, t] ty #[v, .slice none 0 c]).run P w = .ok v w := by
  rcases hown.2 with ⟨rfl, rfl⟩ | ⟨g, cap, cur, rfl, _, _, hnc, _⟩
  · simp [Builtin.append_, run_underlying ht, sizeOf, typeInfo, hi, Builtin.lenOf, Builtin.firstCells]
  · simp [Builtin.append_, run_underlying ht, sizeOf, typeInfo, hi, Builtin.lenOf, Builtin.firstCells, hnc, storeCells]

theorem run_append_any (base : Nat) (t ty e : TypeId) (i : TypeInfo) (z : Value) (size bytes : Nat) (ht : P.underlying t = some (.slice e)) (hi : P.info? e = some i) (hz : i.zero = some z)
    (hsize : i.size = size) (hby : i.bytes = bytes) (hzs : z.cells.size = size) (hsz : 0 < size)
    (v : Value) (n : Nat) (xs : List Value) (hown : w.ownsRow base e size v n xs)
    (B : Nat) (A : Option Addr) (m c : Nat) (news : List Value) (hr : Reads w B size A m news) (h1 : ∀ u ∈ news, u.oneCell' = true)
    (h63 : n + m ≤ maxLen) (hbytes : (n + m) * bytes ≤ 140737488355328) (hbase : base ≤ w.heap.size) :
    ∃ v' w', (Builtin.append_ #[t, t] ty #[v, .slice A m c]).run P w = .ok v' w' ∧ w'.ownsRow base e size v' (n + m) (xs ++ news) ∧ w.grownBy w' v.ownBlock ∧
      (v'.ownBlock = v.ownBlock ∨ v'.ownBlock = some w.heap.size) := by
  rcases A with _ | ad
  · have hm : m = 0 := by
      rcases Nat.eq_zero_or_pos m with h0 | h0
      · exact h0
      · obtain ⟨b, off, h, _⟩ := hr.2 h0
        cases h
    subst hm
    have hn : news = [] := List.eq_nil_of_length_eq_zero (by simpa using hr.1)
    subst hn
    exact ⟨v, w, run_append_of_nil w base t ty e i size ht hi v n xs hown c, by simpa using hown, World.grownBy.refl w _, .inl rfl⟩
  · have hcells : ∀ j u, news[j]? = some u → w.cell? (ad.add j) = some u := by
      intro j u hu
      rcases Nat.eq_zero_or_pos m with h0 | h0
      · subst h0
        have hn : news = [] := List.eq_nil_of_length_eq_zero (by simpa using hr.1)
        subst hn
        simp at hu
      · obtain ⟨b, off, h, _, hc⟩ := hr.2 h0
        injection h with h
        subst h
        rw [add_plain]
        exact hc j u hu
    obtain ⟨v', w', hrun, h2, h3, _, h5⟩ := run_append_own_at (P := P) w base t ty e i z size bytes ht hi hz hsize hby hzs hsz v n xs hown ad m c news hr.1 hcells h1 h63 hbytes hbase
    exact ⟨v', w', hrun, h2, h3, h5⟩

theorem wp_append_any {o : Oper} {a : Act} {K : Act → World → Prop} {Q : Exit → Act → World → Prop} (s x : Operand) (t : TypeId)
    (ho : o.op = .call { callee := .builtin .append, args := #[s, x], argTypes := #[t, t] })
    (base : Nat) (e : TypeId) (i : TypeInfo) (z : Value) (size bytes : Nat) (ht : P.underlying t = some (.slice e)) (hi : P.info? e = some i) (hz : i.zero = some z)
    (hsize : i.size = size) (hby : i.bytes = bytes) (hzs : z.cells.size = size) (hsz : 0 < size)
    (v : Value) (n : Nat) (xs : List Value) (hs : a.eval s = v) (hown : w.ownsRow base e size v n xs)
    (B : Nat) (A : Option Addr) (m c : Nat) (news : List Value) (hx : a.eval x = .slice A m c) (hr : Reads w B size A m news) (h1 : ∀ u ∈ news, u.oneCell' = true)
    (h63 : n + m ≤ maxLen) (hbytes : (n + m) * bytes ≤ 140737488355328) (hbase : base ≤ w.heap.size)
    (h : ∀ v' w', w'.ownsRow base e size v' (n + m) (xs ++ news) → w.grownBy w' v.ownBlock → (v'.ownBlock = v.ownBlock ∨ v'.ownBlock = some w.heap.size) → K (a.put o.dst v') w') : o.wp P a w K Q := by
  obtain ⟨v', w', hrun, h2, h3, h4⟩ := run_append_any (P := P) w base t o.type e i z size bytes ht hi hz hsize hby hzs hsz v n xs hown B A m c news hr h1 h63 hbytes hbase
  unfold Oper.wp execOp
  simp only [ho, resolve, invoke, builtin, Sem.run_bind, Sem.run_pure, Result.andThen_ok, List.map_toArray, List.map_cons, List.map_nil, hs, hx, hrun]
  exact h v' w' h2 h3 h4

theorem wpList_append_any {ops : Array Oper} {rest : List Oper} {o : Oper} {a : Act} {Q : Exit → Act → World → Prop} (hgd : o.guard = none) (s x : Operand) (t : TypeId)
    (ho : o.op = .call { callee := .builtin .append, args := #[s, x], argTypes := #[t, t] })
    (base : Nat) (e : TypeId) (i : TypeInfo) (z : Value) (size bytes : Nat) (ht : P.underlying t = some (.slice e)) (hi : P.info? e = some i) (hz : i.zero = some z)
    (hsize : i.size = size) (hby : i.bytes = bytes) (hzs : z.cells.size = size) (hsz : 0 < size)
    (v : Value) (n : Nat) (xs : List Value) (hs : a.eval s = v) (hown : w.ownsRow base e size v n xs)
    (B : Nat) (A : Option Addr) (m c : Nat) (news : List Value) (hx : a.eval x = .slice A m c) (hr : Reads w B size A m news) (h1 : ∀ u ∈ news, u.oneCell' = true)
    (h63 : n + m ≤ maxLen) (hbytes : (n + m) * bytes ≤ 140737488355328) (hbase : base ≤ w.heap.size)
    (h : ∀ v' w', w'.ownsRow base e size v' (n + m) (xs ++ news) → w.grownBy w' v.ownBlock → (v'.ownBlock = v.ownBlock ∨ v'.ownBlock = some w.heap.size) → wpList P ops Q rest (a.put o.dst v') w') : wpList P ops Q (o :: rest) a w :=
  wpList_plain hgd fun _ hK => wp_append_any w s x t ho base e i z size bytes ht hi hz hsize hby hzs hsz v n xs hs hown B A m c news hx hr h1 h63 hbytes hbase fun v' w' h2 h3 h4 => hK _ _ (h v' w' h2 h3 h4)

theorem step_append_any {ops : Array Oper} {o : Oper} {a : Act} {K : Act → World → Prop} {Q : Exit → Act → World → Prop} {E : Prop} (hgd : o.guard = none) (s x : Operand) (t : TypeId)
    (ho : o.op = .call { callee := .builtin .append, args := #[s, x], argTypes := #[t, t] })
    (base : Nat) (e : TypeId) (i : TypeInfo) (z : Value) (size bytes : Nat) (ht : P.underlying t = some (.slice e)) (hi : P.info? e = some i) (hz : i.zero = some z)
    (hsize : i.size = size) (hby : i.bytes = bytes) (hzs : z.cells.size = size) (hsz : 0 < size)
    (v : Value) (n : Nat) (xs : List Value) (hs : a.eval s = v) (hown : w.ownsRow base e size v n xs)
    (B : Nat) (A : Option Addr) (m c : Nat) (news : List Value) (hx : a.eval x = .slice A m c) (hr : Reads w B size A m news) (h1 : ∀ u ∈ news, u.oneCell' = true)
    (h63 : n + m ≤ maxLen) (hbytes : (n + m) * bytes ≤ 140737488355328) (hbase : base ≤ w.heap.size)
    (h : ∀ v' w', w'.ownsRow base e size v' (n + m) (xs ++ news) → w.grownBy w' v.ownBlock → (v'.ownBlock = v.ownBlock ∨ v'.ownBlock = some w.heap.size) → K (a.put o.dst v') w') :
    if Region.wanted o (yielded ops a.tmps) = true then Oper.wp P o a w K Q else E := by
  have hw : Region.wanted o (yielded ops a.tmps) = true := by simp [Region.wanted, hgd]
  rw [if_pos hw]
  exact wp_append_any w s x t ho base e i z size bytes ht hi hz hsize hby hzs hsz v n xs hs hown B A m c news hx hr h1 h63 hbytes hbase h
end

theorem hide {p : Prop} (h : p) : Hid p := h
theorem unhide {p : Prop} (h : Hid p) : p := h

theorem quiet_add {P : Program} {f : FuncId} {args : Array Value} {w : World} {a n : Nat} {v : Value}
    (h : Calls P f args (w.drewN (a + n)) fun e w' => e = .returned v ∧ ∃ m, w' = (w.drewN (a + n)).drewN m) :
    Calls P f args (w.drewN (a + n)) fun e w'' => e = .returned v ∧ ∃ m, w'' = w.drewN (a + m) :=
  h.mono fun _ _ ⟨he, m, hm⟩ => ⟨he, n + m, by rw [hm, World.drewN_drewN, Nat.add_assoc]⟩
theorem quiet_add_same {P : Program} {f : FuncId} {args : Array Value} {w : World} {a n : Nat} {v : Value}
    (h : Calls P f args (w.drewN (a + n)) fun e w' => e = .returned v ∧ w' = w.drewN (a + n)) :
    Calls P f args (w.drewN (a + n)) fun e w'' => e = .returned v ∧ ∃ m, w'' = w.drewN (a + m) :=
  h.mono fun _ _ ⟨he, hm⟩ => ⟨he, n, hm⟩
theorem quiet_add_left {P : Program} {f : FuncId} {args : Array Value} {w : World} {a n : Nat} {v : Value}
    (h : Calls P f args (w.drewN (a + n)) fun e w' => e = .returned v ∧ w.drewN (a + n) = w') :
    Calls P f args (w.drewN (a + n)) fun e w'' => e = .returned v ∧ ∃ m, w'' = w.drewN (a + m) :=
  h.mono fun _ _ ⟨he, hm⟩ => ⟨he, n, hm.symm⟩
theorem quiet_left {P : Program} {f : FuncId} {args : Array Value} {w : World} {n : Nat} {v : Value}
    (h : Calls P f args (w.drewN n) fun e w' => e = .returned v ∧ w.drewN n = w') : Calls P f args (w.drewN n) fun e w'' => e = .returned v ∧ ∃ m, w'' = w.drewN m :=
  h.mono fun _ _ ⟨he, hm⟩ => ⟨he, n, hm.symm⟩

theorem below_drewN {B : Nat} {a w : World} (h : Below B a w) (n : Nat) : Below B a (w.drewN n) := ⟨h.os, h.tape, h.output, h.size, h.block⟩
theorem rowIs_drewN {w : World} {b : Nat} {t : TypeId} {n : Nat} {f : Nat → Value} (h : w.rowIs b t n f) (k : Nat) : (w.drewN k).rowIs b t n f := h
theorem grown_trans {a b c : World} (h : Grown a b) (k : Grown b c) : Grown a c :=
  ⟨World.keptBut_trans h.1 k.1, fun x => (k.2.1 x).trans (h.2.1 x), Nat.le_trans h.2.2 k.2.2⟩

theorem only_drewN {a w : World} {row : Option Nat} (h : a.grownBy w row) (n : Nat) : a.grownBy (w.drewN n) row := ⟨h.os, h.tape, h.output, h.size, h.block⟩
theorem only_drew {a w : World} {row : Option Nat} (h : a.grownBy w row) : a.grownBy w.drew row := ⟨h.os, h.tape, h.output, h.size, h.block⟩
theorem only_alloc {a w : World} {row : Option Nat} (h : a.grownBy w row) (o : Obj) : a.grownBy (w.alloc o) row :=
  ⟨h.os, h.tape, h.output, Nat.le_trans h.size (by simp), fun i hi hne => (Below.heap_alloc w o i (Nat.lt_of_lt_of_le hi h.size)).trans (h.block i hi hne)⟩
theorem only_setCell {a w : World} {g : Nat} (h : a.grownBy w (some g)) {p : Addr} (hp : p.block = g ∨ a.heap.size ≤ p.block) (u : Value) : a.grownBy (w.setCell p u) (some g) :=
  ⟨h.os, h.tape, h.output, by simpa [World.setCell] using h.size, fun i hi hne => (Below.heap_setCell w p u i (by
    rintro rfl
    rcases hp with hp | hp
    · exact hne (by rw [hp])
    · omega)).trans (h.block i hi hne)⟩
theorem only_of_below {a w : World} (h : Below a.heap.size a w) (row : Option Nat) : a.grownBy w row := ⟨h.os, h.tape, h.output, h.size, fun i hi _ => h.block i hi⟩


/-! ### A row of the call's own: its base may be lowered; one element appended, as the walk meets it (its new cell in a block of its own) -/
theorem own_lower {w : World} {base base' : Nat} {e : TypeId} {size n : Nat} {v : Value} {xs : List Value} (h : w.ownsRow base e size v n xs) (hb : base' ≤ base) : w.ownsRow base' e size v n xs := by
  refine ⟨h.1, ?_⟩
  rcases h.2 with h2 | ⟨g, cap, cur, hv, hg, r⟩
  · exact .inl h2
  · exact .inr ⟨g, cap, cur, hv, by omega, r⟩
theorem own_below {w w1 : World} {base : Nat} {e : TypeId} {size n : Nat} {v : Value} {xs : List Value} (h : w.ownsRow base e size v n xs) (hb : Below w.heap.size w w1) : w1.ownsRow base e size v n xs :=
  h.kept (only_of_below hb none) (by cases v.ownBlock <;> simp)
theorem own_base {w : World} {base : Nat} {e : TypeId} {size n : Nat} {v : Value} {xs : List Value} (h : w.ownsRow base e size v n xs) (k : Nat) (hk : v.ownBlock = some k) : base ≤ k := (h.lt k hk).1
theorem own_slice {w : World} {base n : Nat} {e : TypeId} {size : Nat} {v : Value} {xs : List Value} (h : w.ownsRow base e size v n xs) : ∃ A c, v = .slice A n c := by
  rcases h.2 with ⟨rfl, rfl⟩ | ⟨g, cap, cur, rfl, _⟩
  · exact ⟨none, 0, rfl⟩
  · exact ⟨_, cap, rfl⟩
/-- A slice value of a row of the call's own, opened: its shape, its capacity, how it reads. -/
theorem own_open {w : World} {base n : Nat} {e : TypeId} {size : Nat} {v : Value} {xs : List Value} (h : w.ownsRow base e size v n xs) : ∃ A c, v = .slice A n c ∧ n ≤ c ∧ c ≤ maxLen ∧ Reads w w.heap.size size A n xs := by
  obtain ⟨A, c, rfl⟩ := own_slice h
  refine ⟨A, c, rfl, ?_, ?_, Reads.of_own h⟩
  all_goals
    rcases h.2 with ⟨e, rfl⟩ | ⟨g, cap, cur, e, _, _, h1, h2, _⟩
    · injection e with _ _ e; subst e; simp
    · injection e with _ _ e; subst e; first | exact h1 | exact h2
theorem own_nil (W : World) (base : Nat) (e : TypeId) (size : Nat) : W.ownsRow base e size (.slice none 0 0) 0 [] := ⟨by simp, .inl ⟨rfl, rfl⟩⟩
/-- A slice literal of one cell. -/
theorem own_lit1 (W : World) (base : Nat) (e : TypeId) (y : Value) (hb : base ≤ W.heap.size) : (W.alloc (.cells #[y] e)).ownsRow base e 1 (.slice (some ⟨W.heap.size, 0, none⟩) 1 1) 1 [y] :=
  ⟨by simp, .inr ⟨W.heap.size, 1, #[y], rfl, hb, heap_alloc_new W _, by omega, by unfold maxLen; omega, by simp, by simp⟩⟩
/-- Below, over what comes behind. -/
theorem below_then {B : Nat} {w w1 w2 : World} (h : Below B w w1) (hB : B ≤ w1.heap.size) (k : Below w1.heap.size w1 w2) : Below B w w2 := h.trans (k.mono hB)
section
variable {P : Program} {ops : Array Oper} {rest : List Oper} {o : Oper} {a : Act} {Q : Exit → Act → World → Prop}
theorem push_own {w0 W : World} (base : Nat) (hgd : o.guard = none) (s x : Operand) (t e : TypeId) (z : Value) (bytes : Nat)
    (ho : o.op = .call { callee := .builtin .append, args := #[s, x], argTypes := #[t, t] })
    (ht : P.underlying t = some (.slice e)) (hinfo : (P.info? e).map (fun i => (i.zero, i.size, i.bytes)) = some (some z, 1, bytes)) (hz : z.cells.size = 1) (hb0 : 0 < bytes)
    (v : Value) (xs : List Value) (y : Value) (n : Nat) (hn : n = xs.length) (hs : a.eval s = v) (hx : a.eval x = .slice (some ⟨W.heap.size, 0, none⟩) 1 1) (h1 : y.oneCell' = true)
    (HO : W.ownsRow base e 1 v n xs) (HB : Below base w0 W) (hbase : base ≤ W.heap.size) (hl : (n + 1) * bytes ≤ 140737488355328)
    (h : ∀ v1 w1, w1.ownsRow base e 1 v1 (n + 1) (xs ++ [y]) → Below base w0 w1 → W.grownBy w1 v.ownBlock → (v1.ownBlock = v.ownBlock ∨ ∃ b, v1.ownBlock = some b ∧ W.heap.size ≤ b) → wpList P ops Q rest (a.put o.dst v1) w1) :
    wpList P ops Q (o :: rest) a (W.alloc (.cells #[y] e)) := by
  subst hn
  obtain ⟨i0, hi, hzz⟩ := Option.map_eq_some_iff.1 hinfo
  simp only [Prod.mk.injEq] at hzz
  obtain ⟨hz0, hz1, hz2⟩ := hzz
  have hlen : xs.length + 1 ≤ 140737488355328 := Nat.le_trans (Nat.le_mul_of_pos_right _ hb0) hl
  refine wpList_append_own_at (W.alloc (.cells #[y] e)) hgd s x t ho base e i0 z 1 bytes ht hi hz0 hz1 hz2 hz (by omega) v xs.length xs hs (HO.alloc _) ⟨W.heap.size, 0, none⟩ 1 1 [y] hx rfl
    (World.news_of_block (cs := #[y]) (t := e) (fr := (0, 0)) (heap_alloc_new W _)) (by simpa using h1) (by simp only [maxLen]; omega) hl (by simp; omega) ?_
  intro v1 w1 hown hg _ hat
  refine h v1 w1 hown ((HB.alloc hbase _).grown hg (by simp; omega) (own_base HO)) (World.grownBy.trans (World.grownBy_alloc W _ _) hg) ?_
  rcases hat with hat | hat
  · exact .inl hat
  · exact .inr ⟨_, hat, by simp⟩
theorem app_own {w0 W : World} (base : Nat) (hgd : o.guard = none) (s x : Operand) (t e : TypeId) (z : Value) (bytes : Nat)
    (ho : o.op = .call { callee := .builtin .append, args := #[s, x], argTypes := #[t, t] })
    (ht : P.underlying t = some (.slice e)) (size : Nat) (hinfo : (P.info? e).map (fun i => (i.zero, i.size, i.bytes)) = some (some z, size, bytes)) (hz : z.cells.size = size) (hs0 : 0 < size) (hb0 : 0 < bytes)
    (v : Value) (xs : List Value) (n : Nat) (hs : a.eval s = v) (B : Nat) (A : Option Addr) (m c : Nat) (news : List Value) (hx : a.eval x = .slice A m c)
    (HO : W.ownsRow base e size v n xs) (hr : Reads W B size A m news) (h1 : ∀ u ∈ news, u.oneCell' = true) (HB : Below base w0 W) (hbase : base ≤ W.heap.size) (hl : (n + m) * bytes ≤ 140737488355328)
    (h : ∀ v1 w1, w1.ownsRow base e size v1 (n + m) (xs ++ news) → Below base w0 w1 → W.grownBy w1 v.ownBlock → (v1.ownBlock = v.ownBlock ∨ ∃ b, v1.ownBlock = some b ∧ W.heap.size ≤ b) → wpList P ops Q rest (a.put o.dst v1) w1) :
    wpList P ops Q (o :: rest) a W := by
  obtain ⟨i0, hi, hzz⟩ := Option.map_eq_some_iff.1 hinfo
  simp only [Prod.mk.injEq] at hzz
  obtain ⟨hz0, hz1, hz2⟩ := hzz
  have hlen : n + m ≤ 140737488355328 := Nat.le_trans (Nat.le_mul_of_pos_right _ hb0) hl
  refine wpList_append_any W hgd s x t ho base e i0 z size bytes ht hi hz0 hz1 hz2 hz hs0 v n xs hs HO B A m c news hx hr h1 (by simp only [maxLen]; omega) hl hbase ?_
  intro v1 w1 hown hg hat
  refine h v1 w1 hown (HB.grown hg hbase (own_base HO)) hg ?_
  rcases hat with hat | hat
  · exact .inl hat
  · exact .inr ⟨_, hat, Nat.le_refl _⟩
end

end Go.Proofs.Ytjnkpjhggeibeaa

/- What the program says of int; a block's cell set; a function's result that lies in a cell. -/
namespace Go.Proofs.Ytjnkpjhggeibeaa
set_option maxRecDepth 100000
open Go.RowKit

theorem info_int : (Try.prog.info? 3).map (fun i => (i.zero, i.size, i.bytes)) = some (some (.int .i64 0), 1, 8) := by kernel_rfl
theorem Blk.setL {w : World} {g : Nat} {T : TypeId} {l : List Value} (h : Blk w g T l.toArray) (i : Nat) (u : Value) : Blk (w.setCell ⟨g, i, none⟩ u) g T (l.set i u).toArray := by
  have := h.set_ i u
  rwa [List.setIfInBounds_toArray] at this
theorem results_cell1 {fn : Func} {t : Tmp} {ty : TypeId} (h : fn.results = #[.cell t ty]) {tmps : Array Value} {P : Program} {w : World} {a : Addr} {v : Value} (ha : tmps.getD t undef = .pointer (some a)) (hl : (loadVar ty a).run P w = .ok v w) :
    (results fn tmps).run P w = .ok v w := by
  have ha2 : tmps[t]?.getD undef = .pointer (some a) := by simpa using ha
  have e : (asAddr (.pointer (some a))).run P w = .ok a w := rfl
  simp [results, h, ha2, e, hl]
theorem results_cell {fn : Func} {t u : Tmp} {ty : TypeId} (h : fn.results = #[.cell t ty, .tmp u]) {tmps : Array Value} {P : Program} {w : World} {a : Addr} {v : Value} (ha : tmps.getD t undef = .pointer (some a)) (hl : (loadVar ty a).run P w = .ok v w) :
    (results fn tmps).run P w = .ok (.tuple #[v, tmps.getD u undef]) w := by
  have ha2 : tmps[t]?.getD undef = .pointer (some a) := by simpa using ha
  have e : (asAddr (.pointer (some a))).run P w = .ok a w := rfl
  simp [results, h, ha2, e, hl]
theorem results_cell2 {fn : Func} {t u : Tmp} {ty : TypeId} (h : fn.results = #[.cell t ty, .tmp u]) {tmps : Array Value} {P : Program} {w : World} {a : Addr} {v : Value} (ha : tmps.getD t undef = .pointer (some a)) (hl : (loadVar ty a).run P w = .ok v w) :
    (results fn tmps).run P w = .ok (.tuple #[v, tmps.getD u undef]) w := results_cell h ha hl
end Go.Proofs.Ytjnkpjhggeibeaa

/- Many cells of a block set. -/
namespace Go.Proofs.Ytjnkpjhggeibeaa
set_option maxRecDepth 100000
open Go.RowKit

def setsW (w : World) (g : Nat) (ps : List (Nat × Value)) : World := ps.foldl (fun w p => w.setCell ⟨g, p.1, none⟩ p.2) w
theorem setsW_any {w : World} {q : Nat} (P : World → Prop) (h : P w) (hs : ∀ (j : Nat) (W : World) (u : Value), P W → P (W.setCell ⟨q, j, none⟩ u)) (ps : List (Nat × Value)) : P (setsW w q ps) := by
  induction ps generalizing w with
  | nil => exact h
  | cons p ps ih => exact ih (hs p.1 w p.2 h)
theorem setsW_blk {w : World} {g : Nat} {T : TypeId} {l : List Value} (h : Blk w g T l.toArray) (ps : List (Nat × Value)) : Blk (setsW w g ps) g T (ps.foldl (fun c p => c.set p.1 p.2) l).toArray := by
  induction ps generalizing w l with
  | nil => exact h
  | cons p ps ih => exact ih (h.setL p.1 p.2)
theorem setsW_far {w : World} {g q : Nat} {T : TypeId} {cs : Array Value} (h : Blk w g T cs) (hne : g ≠ q) (ps : List (Nat × Value)) : Blk (setsW w q ps) g T cs :=
  setsW_any (fun W => Blk W g T cs) h (fun j _ u k => k.far (p := ⟨q, j, none⟩) hne u) ps
theorem setsW_below {w W : World} {B q : Nat} (h : Below B w W) (hB : B ≤ q) (ps : List (Nat × Value)) : Below B w (setsW W q ps) :=
  setsW_any (fun X => Below B w X) h (fun j _ u k => k.setCell (p := ⟨q, j, none⟩) hB u) ps
theorem setsW_size (w : World) (q : Nat) (ps : List (Nat × Value)) : (setsW w q ps).heap.size = w.heap.size :=
  setsW_any (fun X => X.heap.size = w.heap.size) rfl (fun j _ u k => by simp [World.setCell, k]) ps
/-! ### A whole row stored -/
theorem Blk.row {w : World} {g : Nat} {T : TypeId} {old cs : Array Value} (h : Blk w g T old) : Blk (w.setRow g cs) g T cs := setRow_heap w g old cs T (0, 0) h
theorem row_block {w : World} {q : Nat} {cs : Array Value} (g : Nat) (hne : g ≠ q) : (w.setRow q cs).heap[g]? = w.heap[g]? := by
  simp only [World.setRow]
  rw [Array.getElem?_modify, if_neg (fun e => hne e.symm)]
theorem Blk.rowFar {w : World} {g q : Nat} {T : TypeId} {old cs : Array Value} (h : Blk w g T old) (hne : g ≠ q) : Blk (w.setRow q cs) g T old := (row_block g hne).trans h
theorem row_below {B : Nat} {w W : World} (h : Below B w W) {q : Nat} (hq : B ≤ q) (cs : Array Value) : Below B w (W.setRow q cs) :=
  ⟨h.os, h.tape, h.output, by simpa [World.setRow] using h.size, fun i hi => (row_block i (by omega)).trans (h.block i hi)⟩
theorem row_grown {w : World} (q : Nat) (cs : Array Value) : w.grownBy (w.setRow q cs) (some q) :=
  ⟨rfl, rfl, rfl, by simp [World.setRow], fun i _ hne => row_block i (fun e => hne (by rw [e]))⟩
/-! ### A whole struct read -/
theorem wp_load_row {P : Program} {o : Oper} {a : Act} {w : World} {K : Act → World → Prop} {Q : Exit → Act → World → Prop} (ty : TypeId) (x : Operand) (ho : o.op = .load ty x)
    (g : Nat) (hx : a.eval x = .pointer (some ⟨g, 0, none⟩)) (t : TypeId) (cells : Array Value) (hb : Blk w g t cells) (d : TypeDesc) (hu : P.underlying ty = some d) (hd : d.isRow = true) (hi : (P.info? ty).map (·.size) = some cells.size)
    (h : K (a.put o.dst (.agg cells)) w) : o.wp P a w K Q := by
  have hl : (loadVar ty ⟨g, 0, none⟩).run P w = .ok (.agg cells) w := by
    have := run_loadVar_mid (P := P) w g 0 ty cells.toList d (fun j v hj => by rw [Nat.zero_add, hb.cell]; simpa using hj) hu hd (by simpa using hi)
    simpa using this
  unfold Oper.wp execOp
  simp only [ho, hx, Instr.loadAt, Instr.sureAddr, Sem.run_bind, Sem.run_pure, Result.andThen_ok, hl]
  exact h
theorem wpList_load_row {P : Program} {ops : Array Oper} {rest : List Oper} {o : Oper} {a : Act} {w : World} {Q : Exit → Act → World → Prop} (hgd : o.guard = none) (ty : TypeId) (x : Operand) (ho : o.op = .load ty x)
    (g : Nat) (hx : a.eval x = .pointer (some ⟨g, 0, none⟩)) (t : TypeId) (cells : Array Value) (hb : Blk w g t cells) (d : TypeDesc) (hu : P.underlying ty = some d) (hd : d.isRow = true) (hi : (P.info? ty).map (·.size) = some cells.size)
    (h : wpList P ops Q rest (a.put o.dst (.agg cells)) w) : wpList P ops Q (o :: rest) a w :=
  wpList_plain hgd fun _ hK => wp_load_row ty x ho g hx t cells hb d hu hd hi (hK _ _ h)
theorem yields_row {P : Program} {ops : Array Oper} {S : World → Prop} {op : Oper} {a : Act} (hw : Region.wanted op (yielded ops a.tmps) = true) (ty : TypeId) (x : Operand) (ho : op.op = .load ty x)
    (g : Nat) (hx : a.eval x = .pointer (some ⟨g, 0, none⟩)) (t : TypeId) (cells : Array Value) (hS : ∀ w, S w → Blk w g t cells) (d : TypeDesc)
    (hu : P.underlying ty = some d) (hd : d.isRow = true) (hi : (P.info? ty).map (·.size) = some cells.size) : YieldsIf P ops S op (.agg cells) a := by
  have h := yieldsIf_load_mid (P := P) (ops := ops) (S := S) (op := op) (a := a) hw ty x ho g 0 hx cells.toList d (fun w hw' j v hj => by rw [Nat.zero_add, (hS w hw').cell]; simpa using hj) hu hd (by simpa using hi)
  simpa using h
theorem from_row {P : Program} {w : World} {g : Nat} {t : TypeId} {cells : Array Value} (hb : Blk w g t cells) (n : Nat) (hn : cells.size = n) : (loadCellsFrom ⟨g, 0, none⟩ 0 n #[]).run P w = .ok cells w := by
  subst hn
  have := run_loadCells_list (P := P) w ⟨g, 0, none⟩ cells.toList (fun j v hv => by rw [add_plain, Nat.zero_add, hb.cell]; simpa using hv)
  simpa [loadCells] using this
theorem at_row {P : Program} {w : World} {g : Nat} {ty t : TypeId} {cells : Array Value} (hb : Blk w g t cells) {d : TypeDesc} (hu : P.underlying ty = some d) (hd : d.isRow = true) (hi : (P.info? ty).map (·.size) = some cells.size) :
    (Instr.loadAt ty (.pointer (some ⟨g, 0, none⟩))).run P w = .ok (.agg cells) w := by
  have := run_loadAt_mid (P := P) w g 0 ty cells.toList d (fun j v hj => by rw [Nat.zero_add, hb.cell]; simpa using hj) hu hd (by simpa using hi)
  simpa using this
theorem step_load_row {P : Program} {ops : Array Oper} {o : Oper} {a : Act} {w : World} {K : Act → World → Prop} {Q : Exit → Act → World → Prop} {E : Prop} (hgd : o.guard = none) (ty : TypeId) (x : Operand) (ho : o.op = .load ty x)
    (g : Nat) (hx : a.eval x = .pointer (some ⟨g, 0, none⟩)) (t : TypeId) (cells : Array Value) (hb : Blk w g t cells) (d : TypeDesc) (hu : P.underlying ty = some d) (hd : d.isRow = true) (hi : (P.info? ty).map (·.size) = some cells.size)
    (h : K (a.put o.dst (.agg cells)) w) : if Region.wanted o (yielded ops a.tmps) = true then Oper.wp P o a w K Q else E := by
  have hw : Region.wanted o (yielded ops a.tmps) = true := by simp [Region.wanted, hgd]
  rw [if_pos hw]
  exact wp_load_row ty x ho g hx t cells hb d hu hd hi h
theorem step_store_row {P : Program} {ops : Array Oper} {o : Oper} {a : Act} {w : World} {K : Act → World → Prop} {Q : Exit → Act → World → Prop} {E : Prop} (hgd : o.guard = none) (ty : TypeId) (x y : Operand) (ho : o.op = .store ty x y)
    (g : Nat) (cells : Array Value) (hx : a.eval x = .pointer (some ⟨g, 0, none⟩)) (hy : a.eval y = .agg cells)
    (t : TypeId) (old : Array Value) (hg : Blk w g t old) (hi : (P.info? ty).map (·.size) = some cells.size) (hold : old.size = cells.size) (h1 : cells.all (·.oneCell') = true)
    (h : K (a.put o.dst undef) (w.setRow g cells)) : if Region.wanted o (yielded ops a.tmps) = true then Oper.wp P o a w K Q else E := by
  have hw : Region.wanted o (yielded ops a.tmps) = true := by simp [Region.wanted, hgd]
  rw [if_pos hw]
  exact wp_store_row ty x y ho g cells hx hy t old hg hi hold h1 h
theorem row_size (w : World) (q : Nat) (cs : Array Value) : (w.setRow q cs).heap.size = w.heap.size := by simp [World.setRow]
end Go.Proofs.Ytjnkpjhggeibeaa

/- The plain mathematics of layer 1: a number's bytes, the highest first, and reading them back; lists of whole numbers alone, no program. -/
namespace Go.Proofs.Ytjnkpjhggeibeaa
set_option maxRecDepth 100000
open Go.RowKit

/-- Bytes as cells. -/
def u8s (l : List Int) : List Value := l.map (Value.int .u8)
theorem u8s_length (l : List Int) : (u8s l).length = l.length := by simp [u8s]
theorem u8s_append (l m : List Int) : u8s (l ++ m) = u8s l ++ u8s m := by simp [u8s]
theorem u8s_one (x : Int) : u8s [x] = [Value.int .u8 x] := rfl
theorem u8s_get {l : List Int} {j : Nat} (h : j < l.length) : (u8s l)[j]? = some (Value.int .u8 l[j]) := by
  simp [u8s, h]
/-- Every number is a byte. -/
def Byt (l : List Int) : Prop := ∀ x ∈ l, 0 ≤ x ∧ x ≤ 255
theorem Byt.nil : Byt [] := fun _ h => by cases h
theorem Byt.append {l m : List Int} (h : Byt l) (k : Byt m) : Byt (l ++ m) := fun x hx => by
  rcases List.mem_append.1 hx with hx | hx
  · exact h x hx
  · exact k x hx
theorem Byt.cons {x : Int} {l : List Int} (h : 0 ≤ x ∧ x ≤ 255) (k : Byt l) : Byt (x :: l) := fun y hy => by
  rcases List.mem_cons.1 hy with rfl | hy
  · exact h
  · exact k y hy
theorem Byt.take {l : List Int} (h : Byt l) (n : Nat) : Byt (l.take n) := fun x hx => h x (List.mem_of_mem_take hx)
theorem Byt.drop {l : List Int} (h : Byt l) (n : Nat) : Byt (l.drop n) := fun x hx => h x (List.mem_of_mem_drop hx)
theorem Byt.tail {l : List Int} (h : Byt l) : Byt l.tail := fun x hx => h x (List.mem_of_mem_tail hx)
theorem Byt.get {l : List Int} (h : Byt l) {j : Nat} (hj : j < l.length) : 0 ≤ l[j] ∧ l[j] ≤ 255 := h _ (List.getElem_mem hj)

/-- The k lowest bytes of n, the highest first. -/
def digs (n : Nat) : Nat → List Int
  | 0 => []
  | k + 1 => ((n / 256 ^ k % 256 : Nat) : Int) :: digs n k
theorem digs_length (n k : Nat) : (digs n k).length = k := by induction k <;> simp [digs, *]
theorem digs_byt (n k : Nat) : Byt (digs n k) := by
  induction k with
  | zero => exact Byt.nil
  | succ k ih => exact Byt.cons (by omega) ih
theorem digs_take_succ (n k m : Nat) (h : m < k) : (digs n k).take (m + 1) = (digs n k).take m ++ [((n / 256 ^ (k - 1 - m) % 256 : Nat) : Int)] := by
  induction k generalizing m with
  | zero => omega
  | succ k ih =>
    cases m with
    | zero => simp [digs]
    | succ m =>
      simp only [digs, List.take_succ_cons, List.cons_append]
      rw [ih m (by omega)]
      have : k + 1 - 1 - (m + 1) = k - 1 - m := by omega
      rw [this]

/-- How many bytes a number needs. -/
def blen : Nat → Nat → Nat
  | 0, _ => 0
  | f + 1, n => if n = 0 then 0 else blen f (n / 256) + 1
/-- A number's bytes, the highest first, as few as hold it. -/
def be (n : Nat) : List Int := digs n (blen 8 n)
/-- P1.1: how many, and these. -/
def numB (n : Nat) : List Int := (blen 8 n : Int) :: be n
theorem blen_le (f n : Nat) : blen f n ≤ f := by
  induction f generalizing n with
  | zero => simp [blen]
  | succ f ih => unfold blen; have := ih (n / 256); split <;> omega
theorem blen_lt (f n : Nat) (h : n < 256 ^ f) : n < 256 ^ blen f n := by
  induction f generalizing n with
  | zero => simp [blen]; simpa using h
  | succ f ih =>
    unfold blen
    split
    · omega
    · have h1 := ih (n / 256) (by rw [Nat.pow_succ] at h; omega)
      rw [Nat.pow_succ]
      omega
theorem blen_ge (f n : Nat) (h0 : n ≠ 0) (h : n < 256 ^ f) : 1 ≤ blen f n ∧ 256 ^ (blen f n - 1) ≤ n := by
  induction f generalizing n with
  | zero => simp at h; omega
  | succ f ih =>
    unfold blen
    rw [if_neg h0]
    refine ⟨by omega, ?_⟩
    simp only [Nat.add_sub_cancel]
    by_cases hq : n / 256 = 0
    · have : blen f (n / 256) = 0 := by
        cases f with
        | zero => simp [blen]
        | succ f => unfold blen; rw [if_pos hq]
      rw [this]
      simp
      omega
    · have h1 := ih (n / 256) hq (by rw [Nat.pow_succ] at h; omega)
      have h2 : 256 ^ blen f (n / 256) = 256 ^ (blen f (n / 256) - 1) * 256 := by
        rw [← Nat.pow_succ]; congr 1; omega
      rw [h2]
      omega
theorem blen_zero (f : Nat) : blen f 0 = 0 := by cases f <;> simp [blen]
theorem be_length (n : Nat) : (be n).length = blen 8 n := digs_length _ _
theorem be_le (n : Nat) : (be n).length ≤ 8 := by rw [be_length]; exact blen_le 8 n
theorem be_byt (n : Nat) : Byt (be n) := digs_byt _ _
theorem numB_length (n : Nat) : (numB n).length = blen 8 n + 1 := by simp [numB, be_length]
theorem numB_le (n : Nat) : (numB n).length ≤ 9 := by rw [numB_length]; have := blen_le 8 n; omega
theorem numB_byt (n : Nat) : Byt (numB n) := Byt.cons (by have := blen_le 8 n; omega) (be_byt n)
theorem numB_pos (n : Nat) : 1 ≤ (numB n).length := by rw [numB_length]; omega

/-- bits.Len64's answer, in bytes. -/
theorem bitLenAux_bytes : ∀ f n, n < 256 ^ f → (Lib.bitLenAux (8 * f) n + 7) / 8 = blen f n := by
  intro f
  induction f with
  | zero => intro n h; simp at h; subst h; simp [Lib.bitLenAux, blen]
  | succ f ih =>
    intro n h
    have step : ∀ g x, Lib.bitLenAux (g + 1) x = if x = 0 then 0 else 1 + Lib.bitLenAux g (x / 2) := fun g x => rfl
    have z : ∀ g, Lib.bitLenAux g 0 = 0 := by intro g; cases g <;> simp [Lib.bitLenAux]
    unfold blen
    by_cases h0 : n = 0
    · subst h0; simp [z]
    rw [if_neg h0]
    have e8 : 8 * (f + 1) = 8 * f + 8 := by omega
    rw [e8]
    have hq := ih (n / 256) (by rw [Nat.pow_succ] at h; omega)
    have d2 : n / 2 / 2 / 2 / 2 / 2 / 2 / 2 / 2 = n / 256 := by omega
    by_cases hs : n / 256 = 0
    · rw [hs, blen_zero]
      rw [step, if_neg h0, step]
      split
      · omega
      rw [step]
      split
      · omega
      rw [step]
      split
      · omega
      rw [step]
      split
      · omega
      rw [step]
      split
      · omega
      rw [step]
      split
      · omega
      rw [step]
      split
      · omega
      rw [d2, hs, z]
    · rw [step, if_neg h0, step, if_neg (by omega), step, if_neg (by omega), step, if_neg (by omega), step, if_neg (by omega), step, if_neg (by omega), step, if_neg (by omega), step, if_neg (by omega), d2]
      omega
theorem bitLen_bytes (n : Nat) (h : n < 18446744073709551616) : (Lib.bitLen n + 7) / 8 = blen 8 n := bitLenAux_bytes 8 n (by simpa using h)
theorem bitLenAux_le (f n : Nat) : Lib.bitLenAux f n ≤ f := by
  induction f generalizing n with
  | zero => simp [Lib.bitLenAux]
  | succ f ih => unfold Lib.bitLenAux; have := ih (n / 2); split <;> omega
theorem bitLen_le (n : Nat) : Lib.bitLen n ≤ 64 := bitLenAux_le 64 n

theorem digs_snoc (n k : Nat) : digs n (k + 1) = digs (n / 256) k ++ [((n % 256 : Nat) : Int)] := by
  induction k with
  | zero => simp [digs]
  | succ k ih =>
    rw [digs, ih]
    simp only [digs, List.cons_append]
    congr 2
    rw [Nat.div_div_eq_div_mul]
    have : 256 ^ (k + 1) = 256 * 256 ^ k := by rw [Nat.pow_succ]; omega
    rw [this]
/-- The bytes by halving, with as many rounds as f allows. -/
def beF (f n : Nat) : List Int := digs n (blen f n)
theorem beF_zero (f : Nat) : beF f 0 = [] := by simp [beF, blen_zero, digs]
theorem beF_succ (f n : Nat) (h : n ≠ 0) : beF (f + 1) n = beF f (n / 256) ++ [((n % 256 : Nat) : Int)] := by
  unfold beF
  rw [blen, if_neg h, digs_snoc]
theorem beF_length (f n : Nat) : (beF f n).length ≤ f := by unfold beF; rw [digs_length]; exact blen_le f n

/-- What bytes make. -/
def fold (l : List Int) : Nat := l.foldl (fun n c => n * 256 + c.toNat) 0
theorem fold_from (l : List Int) (a : Nat) : l.foldl (fun n c => n * 256 + c.toNat) a = a * 256 ^ l.length + fold l := by
  induction l generalizing a with
  | nil => simp [fold]
  | cons c l ih =>
    unfold fold
    simp only [List.foldl_cons, List.length_cons]
    rw [ih, ih (0 * 256 + c.toNat), Nat.pow_succ]
    simp only [Nat.zero_mul, Nat.zero_add, Nat.add_mul, Nat.add_assoc, Nat.mul_assoc]
    rw [Nat.mul_comm 256 (256 ^ l.length)]
theorem fold_nil : fold [] = 0 := rfl
theorem fold_cons (c : Int) (l : List Int) : fold (c :: l) = c.toNat * 256 ^ l.length + fold l := by
  unfold fold
  simp only [List.foldl_cons]
  rw [fold_from]
  simp [fold]
theorem fold_snoc (l : List Int) (c : Int) : fold (l ++ [c]) = fold l * 256 + c.toNat := by
  simp [fold, List.foldl_append]
theorem fold_lt (l : List Int) (h : Byt l) : fold l < 256 ^ l.length := by
  induction l with
  | nil => simp [fold]
  | cons c l ih =>
    rw [fold_cons, List.length_cons, Nat.pow_succ]
    have h1 := ih fun x hx => h x (List.mem_cons_of_mem _ hx)
    have h2 := h c List.mem_cons_self
    have h3 : c.toNat * 256 ^ l.length ≤ 255 * 256 ^ l.length := Nat.mul_le_mul_right _ (by omega)
    omega
theorem fold_digs (n k : Nat) : fold (digs n k) = n % 256 ^ k := by
  induction k with
  | zero => simp [digs, fold, Nat.mod_one]
  | succ k ih =>
    rw [digs, fold_cons, digs_length, ih, Int.toNat_natCast, Nat.pow_succ, Nat.mod_mul]
    rw [Nat.mul_comm, Nat.add_comm]
theorem fold_be (n : Nat) (h : n < 18446744073709551616) : fold (be n) = n := by
  unfold be
  rw [fold_digs, Nat.mod_eq_of_lt]
  exact blen_lt 8 n (by simpa using h)
/-- The digits of what bytes make are these bytes. -/
theorem digs_fold (l : List Int) (h : Byt l) : digs (fold l) l.length = l := by
  induction l with
  | nil => rfl
  | cons c l ih =>
    have h1 : Byt l := fun x hx => h x (List.mem_cons_of_mem _ hx)
    have h2 := h c List.mem_cons_self
    have h3 := fold_lt l h1
    have hm : ∀ (n m k : Nat), digs (m * 256 ^ k + n) k = digs n k := by
      intro n m k
      have : ∀ j, j ≤ k → digs (m * 256 ^ k + n) j = digs n j := by
        intro j
        induction j with
        | zero => intro _; rfl
        | succ j ihj =>
          intro hj
          simp only [digs]
          rw [ihj (by omega)]
          congr 2
          have e : 256 ^ k = 256 ^ (k - j - 1) * 256 * 256 ^ j := by
            rw [← Nat.pow_succ, ← Nat.pow_add]; congr 1; omega
          rw [e, ← Nat.mul_assoc, Nat.add_comm, Nat.add_mul_div_right _ _ (Nat.pow_pos (by omega)), ← Nat.mul_assoc, Nat.add_mul_mod_self_right]
      exact this k (Nat.le_refl _)
    rw [List.length_cons, digs, fold_cons, hm, ih h1]
    congr 1
    rw [Nat.add_comm, Nat.add_mul_div_right _ _ (Nat.pow_pos (by omega)), Nat.div_eq_of_lt h3]
    omega

/-- P1.2's answer: what is read, how many bytes, the error. -/
def readN (b : List Int) : Int × Int × Int :=
  if b.length = 0 then (0, 0, 10)
  else if b.getD 0 0 > 8 then (0, 0, 11)
  else if (b.length : Int) < 1 + b.getD 0 0 then (0, 0, 10)
  else if 1 + b.getD 0 0 > 1 ∧ b.getD 1 0 = 0 then (0, 0, 11)
  else (fold (b.tail.take (b.getD 0 0).toNat), 1 + b.getD 0 0, 0)
theorem readN_ok (l : List Int) (hl : Byt l) (h : (readN l).2.2 = 0) : 1 ≤ (readN l).2.1 ∧ (readN l).2.1 ≤ l.length ∧ (readN l).2.1 ≤ 9 ∧ 0 ≤ (readN l).1 ∧ (readN l).1 < 18446744073709551616 := by
  unfold readN at h ⊢
  by_cases h0 : l.length = 0
  · rw [if_pos h0] at h; simp at h
  rw [if_neg h0] at h ⊢
  by_cases h8 : l.getD 0 0 > 8
  · rw [if_pos h8] at h; simp at h
  rw [if_neg h8] at h ⊢
  by_cases hs : (l.length : Int) < 1 + l.getD 0 0
  · rw [if_pos hs] at h; simp at h
  rw [if_neg hs] at h ⊢
  by_cases hz : 1 + l.getD 0 0 > 1 ∧ l.getD 1 0 = 0
  · rw [if_pos hz] at h; simp at h
  rw [if_neg hz]
  have hd : l.getD 0 0 = l[0]'(by omega) := by simp [List.getD_eq_getElem?_getD, show 0 < l.length by omega]
  have hb := hl.get (j := 0) (by omega)
  rw [← hd] at hb
  refine ⟨by simp only; omega, by simp only; omega, by simp only; omega, by simp only; omega, ?_⟩
  simp only
  have h1 := fold_lt _ (hl.tail.take (l.getD 0 0).toNat)
  have h2 : (l.tail.take (l.getD 0 0).toNat).length ≤ 8 := by rw [List.length_take]; omega
  have h3 : 256 ^ (l.tail.take (l.getD 0 0).toNat).length ≤ 256 ^ 8 := Nat.pow_le_pow_right (by omega) h2
  omega

/-- P1.3's answer: the text, how many bytes, the error. -/
def readT (l : List Int) (most : Int) : ByteArray × Int × Int :=
  if (readN l).2.2 ≠ 0 then (ByteArray.empty, 0, (readN l).2.2)
  else if most < 0 then (ByteArray.empty, 0, 2)
  else if (readN l).1 > most then (ByteArray.empty, 0, 2)
  else if (readN l).1 > l.length - (readN l).2.1 then (ByteArray.empty, 0, 10)
  else (strOfNums ((l.drop (readN l).2.1.toNat).take (readN l).1.toNat), (readN l).2.1 + (readN l).1, 0)
end Go.Proofs.Ytjnkpjhggeibeaa

/- Bytes in memory: rows of the call's own (Own8), slices that are read (In8), strings made of them. -/
namespace Go.Proofs.Ytjnkpjhggeibeaa
set_option maxRecDepth 100000
open Go.RowKit

theorem info_u8 : (Try.prog.info? 5).map (fun i => (i.zero, i.size, i.bytes)) = some (some (.int .u8 0), 1, 1) := by kernel_rfl

/-- Bytes in new memory: the slice v, owned from block base on, holds l. -/
def Own8 (w : World) (base : Nat) (v : Value) (l : List Int) : Prop := w.ownsRow base 5 1 v l.length (u8s l)

theorem u8s_one_cell (l : List Int) : ∀ u ∈ u8s l, u.oneCell' = true := by
  intro u hu
  simp only [u8s, List.mem_map] at hu
  obtain ⟨x, _, rfl⟩ := hu
  rfl
theorem own8_one (W : World) (base : Nat) (x : Int) (hb : base ≤ W.heap.size) : Own8 (W.alloc (.cells #[.int .u8 x] 5)) base (.slice (some ⟨W.heap.size, 0, none⟩) 1 1) [x] :=
  ⟨by simp [u8s], .inr ⟨W.heap.size, 1, #[.int .u8 x], rfl, hb, heap_alloc_new W _, by simp, by unfold maxLen; omega, by simp, by simp [u8s]⟩⟩

/-- Bytes that are read. -/
structure In8 (w : World) (A : Option Addr) (c : Nat) (l : List Int) : Prop where
  reads : Reads w w.heap.size 1 A l.length (u8s l)
  byt : Byt l
  cap : l.length ≤ c
  small : l.length ≤ 140737488355328
theorem In8.all {w : World} {A : Option Addr} {c : Nat} {l : List Int} (h : In8 w A c l) (h0 : 0 < l.length) : ∃ b off, A = some ⟨b, off, none⟩ ∧ ∀ k (hk : k < l.length), w.cell? ⟨b, off + k, none⟩ = some (.int .u8 (l[k])) := by
  obtain ⟨b, off, e, _, hc⟩ := h.reads.2 h0
  exact ⟨b, off, e, fun k hk => hc k _ (u8s_get hk)⟩

/-- A string's bytes. -/
def bytes (s : ByteArray) : List Int := s.data.toList.map fun b => (b.toNat : Int)
theorem bytes_length (s : ByteArray) : (bytes s).length = s.size := by simp [bytes]
theorem bytes_byt (s : ByteArray) : Byt (bytes s) := by
  intro x hx
  simp only [bytes, List.mem_map] at hx
  obtain ⟨b, _, rfl⟩ := hx
  have := b.toNat_lt
  omega
theorem strCells_u8s (s : ByteArray) : Lib.strCells s = u8s (bytes s) := by
  simp [Lib.strCells, u8s, bytes]
theorem str_bytes (s : ByteArray) : strOfNums (bytes s) = s := by
  have : ∀ l : List UInt8, (l.map fun b => (b.toNat : Int)).map (fun n => UInt8.ofNat n.toNat) = l := by
    intro l
    rw [List.map_map]
    conv => rhs; rw [← List.map_id l]
    apply List.map_congr_left
    intro a _
    simp
  obtain ⟨⟨l⟩⟩ := s
  simp [strOfNums, bytes, this l]
theorem bytes_str (l : List Int) (h : Byt l) : bytes (strOfNums l) = l := by
  simp only [bytes, strOfNums, List.map_map]
  conv => rhs; rw [← List.map_id l]
  apply List.map_congr_left
  intro a ha
  have := h a ha
  simp
  omega
theorem str_inj {l m : List Int} (hl : Byt l) (hm : Byt m) (h : strOfNums l = strOfNums m) : l = m := by
  rw [← bytes_str l hl, ← bytes_str m hm, h]

theorem In8.keep {w w1 : World} {A : Option Addr} {c : Nat} {l : List Int} (h : In8 w A c l) (hb : Below w.heap.size w w1) : In8 w1 A c l := ⟨(h.reads.below hb).more hb.size, h.byt, h.cap, h.small⟩
theorem In8.lit (w : World) (l : List Int) (hl : Byt l) (hs : l.length ≤ 140737488355328) (cs : Array Value) (fr : Nat × Nat) (hcs : cs = (u8s l).toArray) : In8 (w.alloc (.cells cs 5 fr)) (some ⟨w.heap.size, 0, none⟩) l.length l := by
  subst hcs
  refine ⟨⟨by simp [u8s], fun h => ⟨w.heap.size, 0, rfl, by simp, fun j u hu => ?_⟩⟩, hl, Nat.le_refl _, hs⟩
  rw [Nat.zero_add, World.cell?_alloc_mark]
  simpa using hu
theorem In8.own {w : World} {base : Nat} {v : Value} {l : List Int} (h : Own8 w base v l) (hl : Byt l) (hs : l.length ≤ 140737488355328) : ∃ A c, v = .slice A l.length c ∧ In8 w A c l := by
  obtain ⟨A, c, rfl, h1, _, hr⟩ := own_open h
  exact ⟨A, c, rfl, hr, hl, h1, hs⟩
end Go.Proofs.Ytjnkpjhggeibeaa

/- Numbers of any kind in memory: rows of the call's own (OwnN), slices that are read (InN). -/
namespace Go.Proofs.Ytjnkpjhggeibeaa
set_option maxRecDepth 100000
open Go.RowKit

def nums (k : IntKind) (l : List Int) : List Value := l.map (Value.int k)
theorem nums_length (k : IntKind) (l : List Int) : (nums k l).length = l.length := by simp [nums]
theorem nums_append (k : IntKind) (l m : List Int) : nums k (l ++ m) = nums k l ++ nums k m := by simp [nums]
theorem nums_get {k : IntKind} {l : List Int} {i : Nat} (h : i < l.length) : (nums k l)[i]? = some (.int k (l[i])) := by simp [nums, h]
theorem nums_one_cell (k : IntKind) (l : List Int) : ∀ u ∈ nums k l, u.oneCell' = true := by
  intro u hu
  simp only [nums, List.mem_map] at hu
  obtain ⟨x, _, rfl⟩ := hu
  rfl
/-- All of them are numbers of the kind. -/
def Wfs (k : IntKind) (l : List Int) : Prop := ∀ x ∈ l, (Lit.int k x).wf = true
theorem Wfs.get {k : IntKind} {l : List Int} (h : Wfs k l) {j : Nat} (hj : j < l.length) : (Lit.int k (l[j])).wf = true := h _ (List.getElem_mem hj)
theorem Wfs.app {k : IntKind} {l m : List Int} (h : Wfs k l) (h2 : Wfs k m) : Wfs k (l ++ m) := fun x hx => (List.mem_append.1 hx).elim (h x) (h2 x)
theorem Wfs.nil (k : IntKind) : Wfs k [] := fun _ h => by cases h

/-- In new memory: the slice v, owned from block base on, holds l. -/
def OwnN (k : IntKind) (e : TypeId) (w : World) (base : Nat) (v : Value) (l : List Int) : Prop := w.ownsRow base e 1 v l.length (nums k l)
/-- Numbers that are read. -/
structure InN (k : IntKind) (w : World) (A : Option Addr) (c : Nat) (l : List Int) : Prop where
  reads : Reads w w.heap.size 1 A l.length (nums k l)
  wf : Wfs k l
  cap : l.length ≤ c
  small : l.length ≤ 140737488355328
theorem InN.all {k : IntKind} {w : World} {A : Option Addr} {c : Nat} {l : List Int} (h : InN k w A c l) (h0 : 0 < l.length) : ∃ b off, A = some ⟨b, off, none⟩ ∧ ∀ j (hj : j < l.length), w.cell? ⟨b, off + j, none⟩ = some (.int k (l[j])) := by
  obtain ⟨b, off, e, _, hc⟩ := h.reads.2 h0
  exact ⟨b, off, e, fun j hj => hc j _ (nums_get hj)⟩
theorem InN.keep {k : IntKind} {w w1 : World} {A : Option Addr} {c : Nat} {l : List Int} (h : InN k w A c l) (hb : Below w.heap.size w w1) : InN k w1 A c l := ⟨(h.reads.below hb).more hb.size, h.wf, h.cap, h.small⟩
theorem InN.nil {k : IntKind} {w : World} : InN k w none 0 [] := ⟨Reads.none_, Wfs.nil k, Nat.le_refl _, by simp⟩
theorem InN.lit {k : IntKind} {e : TypeId} (w : World) (l : List Int) (hl : Wfs k l) (hs : l.length ≤ 140737488355328) (cs : Array Value) (fr : Nat × Nat) (hcs : cs = (nums k l).toArray) : InN k (w.alloc (.cells cs e fr)) (some ⟨w.heap.size, 0, none⟩) l.length l := by
  subst hcs
  refine ⟨⟨by simp [nums], fun h => ⟨w.heap.size, 0, rfl, by simp, fun j u hu => ?_⟩⟩, hl, Nat.le_refl _, hs⟩
  rw [Nat.zero_add, World.cell?_alloc_mark]
  simpa using hu
theorem InN.own {k : IntKind} {e : TypeId} {w : World} {base : Nat} {v : Value} {l : List Int} (h : OwnN k e w base v l) (hl : Wfs k l) (hs : l.length ≤ 140737488355328) : ∃ A c, v = .slice A l.length c ∧ InN k w A c l := by
  obtain ⟨A, c, rfl, h1, _, hr⟩ := own_open h
  exact ⟨A, c, rfl, hr, hl, h1, hs⟩
theorem InN.own_at {k : IntKind} {e : TypeId} {w : World} {base : Nat} {A : Option Addr} {c : Nat} {l : List Int} (h : OwnN k e w base (.slice A l.length c) l) (hl : Wfs k l) (hs : l.length ≤ 140737488355328) : InN k w A c l := by
  obtain ⟨_, _, q, h2⟩ := InN.own h hl hs
  injection q with q1 _ q3
  subst q1 q3
  exact h2
theorem InN.far {k : IntKind} {w : World} {A : Option Addr} {c n : Nat} {l : List Int} (h : InN k w A c l) {p : Addr} (hp : ∀ b, (Value.slice A n c).ownBlock = some b → p.block ≠ b) (u : Value) : InN k (w.setCell p u) A c l := by
  refine ⟨⟨h.reads.1, fun h0 => ?_⟩, h.wf, h.cap, h.small⟩
  obtain ⟨b, off, e, hb, hc⟩ := h.reads.2 h0
  subst e
  have hne : p.block ≠ b := hp b rfl
  refine ⟨b, off, rfl, by simpa [World.setCell] using hb, fun j v hj => ?_⟩
  rw [← hc j v hj]
  exact World.cell?_of_block (Below.heap_setCell w p u b (fun e => hne e.symm))
end Go.Proofs.Ytjnkpjhggeibeaa

/- Walks over sets of nodes: nodes.of, nodes.Check, the document's Check; what they answer is 'setB'. -/
namespace Go.Proofs.Ytjnkpjhggeibeaa
set_option maxRecDepth 100000
open Go.RowKit

/-- The first k of l are numbers from 1 to 7 and rise. -/
def Good (l : List Int) (k : Nat) : Prop := ∀ i (hi : i < l.length), i < k → 1 ≤ l[i] ∧ l[i] ≤ 7 ∧ (0 < i → l[i - 1] < l[i])
/-- A set of nodes. -/
def IsSet (l : List Int) : Prop := 0 < l.length ∧ Good l l.length
noncomputable instance (l : List Int) : Decidable (IsSet l) := Classical.propDecidable _
theorem Good.zero (l : List Int) : Good l 0 := fun _ _ h => by omega
theorem Good.step {l : List Int} {k : Nat} (h : Good l k) (hk : k < l.length) (h1 : 1 ≤ l[k]) (h7 : l[k] ≤ 7) (hr : 0 < k → l[k - 1] < l[k]) : Good l (k + 1) := by
  intro i hi hik
  rcases Nat.lt_or_ge i k with hlt | hge
  · exact h i hi hlt
  · obtain rfl : i = k := by omega
    exact ⟨h1, h7, hr⟩
theorem not_set {l : List Int} {k : Nat} (hk : k < l.length) (h : l[k] < 1 ∨ 7 < l[k] ∨ (0 < k ∧ l[k] ≤ l[k - 1])) : ¬ IsSet l := by
  intro ⟨_, hg⟩
  have := hg k hk hk
  omega

/-- Eight bools in a block of the call's own. -/
def Row8 (w : World) (g : Nat) (t : TypeId) (bs : List Bool) : Prop := bs.length = 8 ∧ Blk w g t (bs.map Value.bool).toArray
theorem Row8.set_ {w : World} {g : Nat} {t : TypeId} {bs : List Bool} (h : Row8 w g t bs) (n : Nat) (b : Bool) : Row8 (w.setCell ⟨g, n, none⟩ (.bool b)) g t (bs.set n b) := by
  refine ⟨by simp [h.1], ?_⟩
  have := h.2.set_ n (.bool b)
  rw [List.map_set]
  simpa using this
theorem Row8.cells {w : World} {g : Nat} {t : TypeId} {bs : List Bool} (h : Row8 w g t bs) : ∃ b0 b1 b2 b3 b4 b5 b6 b7, bs = [b0, b1, b2, b3, b4, b5, b6, b7] ∧
    (w.cell? ⟨g, 0, none⟩ = some (.bool b0) ∧ w.cell? ⟨g, 1, none⟩ = some (.bool b1) ∧ w.cell? ⟨g, 2, none⟩ = some (.bool b2) ∧ w.cell? ⟨g, 3, none⟩ = some (.bool b3) ∧
     w.cell? ⟨g, 4, none⟩ = some (.bool b4) ∧ w.cell? ⟨g, 5, none⟩ = some (.bool b5) ∧ w.cell? ⟨g, 6, none⟩ = some (.bool b6) ∧ w.cell? ⟨g, 7, none⟩ = some (.bool b7)) ∧
    (w.frozen? ⟨g, 0, none⟩ = false ∧ w.frozen? ⟨g, 1, none⟩ = false ∧ w.frozen? ⟨g, 2, none⟩ = false ∧ w.frozen? ⟨g, 3, none⟩ = false ∧
     w.frozen? ⟨g, 4, none⟩ = false ∧ w.frozen? ⟨g, 5, none⟩ = false ∧ w.frozen? ⟨g, 6, none⟩ = false ∧ w.frozen? ⟨g, 7, none⟩ = false) := by
  obtain ⟨hl, hb⟩ := h
  match bs, hl with
  | [b0, b1, b2, b3, b4, b5, b6, b7], _ =>
    refine ⟨b0, b1, b2, b3, b4, b5, b6, b7, rfl, ⟨?_, ?_, ?_, ?_, ?_, ?_, ?_, ?_⟩, hb.frozen 0, hb.frozen 1, hb.frozen 2, hb.frozen 3, hb.frozen 4, hb.frozen 5, hb.frozen 6, hb.frozen 7⟩
    all_goals exact (hb.cell _).trans rfl
theorem below_row8 {w wr : World} {g : Nat} (hB : Below g w wr) (b0 b1 b2 b3 b4 b5 b6 b7 : Bool) : Below g w ((((((((wr.setCell ⟨g, 0, none⟩ (.bool b0)).setCell ⟨g, 1, none⟩ (.bool b1)).setCell ⟨g, 2, none⟩ (.bool b2)).setCell ⟨g, 3, none⟩ (.bool b3)).setCell ⟨g, 4, none⟩ (.bool b4)).setCell ⟨g, 5, none⟩ (.bool b5)).setCell ⟨g, 6, none⟩ (.bool b6)).setCell ⟨g, 7, none⟩ (.bool b7)) := by
  exact ((((((((hB.setCell (p := ⟨g, 0, none⟩) (Nat.le_refl _) _).setCell (p := ⟨g, 1, none⟩) (Nat.le_refl _) _).setCell (p := ⟨g, 2, none⟩) (Nat.le_refl _) _).setCell (p := ⟨g, 3, none⟩) (Nat.le_refl _) _).setCell (p := ⟨g, 4, none⟩) (Nat.le_refl _) _).setCell (p := ⟨g, 5, none⟩) (Nat.le_refl _) _).setCell (p := ⟨g, 6, none⟩) (Nat.le_refl _) _).setCell (p := ⟨g, 7, none⟩) (Nat.le_refl _) _)
theorem below_row8_at {w wr : World} {g k : Nat} (hB : Below g w wr) (hk : g ≤ k) (b0 b1 b2 b3 b4 b5 b6 b7 : Bool) : Below g w ((((((((wr.setCell ⟨k, 0, none⟩ (.bool b0)).setCell ⟨k, 1, none⟩ (.bool b1)).setCell ⟨k, 2, none⟩ (.bool b2)).setCell ⟨k, 3, none⟩ (.bool b3)).setCell ⟨k, 4, none⟩ (.bool b4)).setCell ⟨k, 5, none⟩ (.bool b5)).setCell ⟨k, 6, none⟩ (.bool b6)).setCell ⟨k, 7, none⟩ (.bool b7)) :=
  ((((((((hB.setCell (p := ⟨k, 0, none⟩) hk _).setCell (p := ⟨k, 1, none⟩) hk _).setCell (p := ⟨k, 2, none⟩) hk _).setCell (p := ⟨k, 3, none⟩) hk _).setCell (p := ⟨k, 4, none⟩) hk _).setCell (p := ⟨k, 5, none⟩) hk _).setCell (p := ⟨k, 6, none⟩) hk _).setCell (p := ⟨k, 7, none⟩) hk _)
theorem row8_all {w : World} {g : Nat} {t : TypeId} {bs : List Bool} (h : Row8 w g t bs) (b0 b1 b2 b3 b4 b5 b6 b7 : Bool) : ∃ bs', Row8 ((((((((w.setCell ⟨g, 0, none⟩ (.bool b0)).setCell ⟨g, 1, none⟩ (.bool b1)).setCell ⟨g, 2, none⟩ (.bool b2)).setCell ⟨g, 3, none⟩ (.bool b3)).setCell ⟨g, 4, none⟩ (.bool b4)).setCell ⟨g, 5, none⟩ (.bool b5)).setCell ⟨g, 6, none⟩ (.bool b6)).setCell ⟨g, 7, none⟩ (.bool b7)) g t bs' := ⟨_, ((((((((h.set_ 0 b0).set_ 1 b1).set_ 2 b2).set_ 3 b3).set_ 4 b4).set_ 5 b5).set_ 6 b6).set_ 7 b7)⟩
theorem info_row : (Try.prog.info? 69).map (·.size) = some 8 := by kernel_rfl
/-- Eight bools as one value. -/
def Agg8 (v : Value) : Prop := ∃ b0 b1 b2 b3 b4 b5 b6 b7, v = .agg #[.bool b0, .bool b1, .bool b2, .bool b3, .bool b4, .bool b5, .bool b6, .bool b7]
theorem Row8.load {w : World} {g : Nat} {bs : List Bool} (h : Row8 w g 69 bs) : ∃ v, (loadVar 69 ⟨g, 0, none⟩).run Try.prog w = .ok v w ∧ Agg8 v := by
  obtain ⟨b0, b1, b2, b3, b4, b5, b6, b7, rfl, _, _⟩ := h.cells
  exact ⟨_, run_loadVar_row w g _ _ _ (0, 0) _ h.2 Try.underlying69 rfl info_row, b0, b1, b2, b3, b4, b5, b6, b7, rfl⟩
theorem Row8.at_ {w : World} {g : Nat} {t : TypeId} {bs : List Bool} (h : Row8 w g t bs) (n : Nat) (hn : n < 8) : ∃ b, w.cell? ⟨g, n, none⟩ = some (.bool b) := by
  have hl := h.1
  refine ⟨bs[n], ?_⟩
  rw [h.2.cell]
  simp [show n < bs.length by omega]

set_option maxHeartbeats 1000000 in
theorem nodes_of_any (w : World) (A : Option Addr) (c : Nat) (l : List Int) (h : InN .i64 w A c l) :
    Calls Try.prog 38 #[.slice A l.length c] w fun e w' => ∃ r, Agg8 r ∧ e = .returned (.tuple #[r, .bool (decide (IsSet l))]) ∧ Below w.heap.size w w' := by
  have hs := h.small
  have hcap := h.cap
  have HIN := Lib.hid h
  obtain ⟨B, hB⟩ : ∃ B, decide (IsSet l) = B := ⟨_, rfl⟩
  have HS := Lib.hid hB
  rw [hB]
  clear h hB
  go_enter Try.func38, Try.ntmps38
  go_wp2
  have hb0 : Row8 (w.alloc (.cells #[.bool false, .bool false, .bool false, .bool false, .bool false, .bool false, .bool false, .bool false] 69)) w.heap.size 69 [false, false, false, false, false, false, false, false] := ⟨rfl, Blk.new _ _ _⟩
  have hB0 : Below w.heap.size w (w.alloc (.cells #[.bool false, .bool false, .bool false, .bool false, .bool false, .bool false, .bool false, .bool false] 69)) := (Below.refl _ _).alloc (Nat.le_refl _) _
  go_loopw [4, 5, 8] (fun x y i wr => ∃ (k : Nat) (bs : List Bool), k ≤ l.length ∧ i = .int .i64 k ∧ Good l k ∧ Row8 wr w.heap.size 69 bs ∧ Below w.heap.size w wr) (fun _ _ i _ => l.length - (intOf i).toNat)
  case atStart => exact ⟨0, _, by omega, rfl, Good.zero l, hb0, hB0⟩
  case round =>
    clear hb0 hB0
    obtain ⟨k, bs, hk, rfl, hgd, hrow, hB⟩ := hrel
    obtain ⟨g, hg⟩ : ∃ g, w.heap.size = g := ⟨_, rfl⟩
    rw [hg] at hrow hB ⊢
    by_cases hlt : k < l.length
    · obtain ⟨b, off, rfl, hcell⟩ := (HIN.out.keep (hg ▸ hB)).all (by omega)
      have hck := hcell k hlt
      have hck1 : 0 < k → wr.cell? ⟨b, off + (k - 1), none⟩ = some (.int .i64 (l[k - 1])) := fun _ => hcell (k - 1) (by omega)
      obtain ⟨z, hz⟩ : ∃ z, l[k] = z := ⟨_, rfl⟩
      rw [hz] at hck
      have HZ := Lib.hid hz
      have NOT : (z < 1 ∨ 7 < z ∨ (0 < k ∧ z ≤ l[k - 1])) → Hid (false = B) := fun h => by
        show _ = _
        rw [← HS.out]
        have := not_set hlt (by rw [HZ.out]; exact h)
        exact (decide_eq_false this).symm
      clear hcell
      have HH : ∀ b0 b1 b2 b3 b4 b5 b6 b7 : Bool, Below g w ((((((((wr.setCell ⟨g, 0, none⟩ (.bool b0)).setCell ⟨g, 1, none⟩ (.bool b1)).setCell ⟨g, 2, none⟩ (.bool b2)).setCell ⟨g, 3, none⟩ (.bool b3)).setCell ⟨g, 4, none⟩ (.bool b4)).setCell ⟨g, 5, none⟩ (.bool b5)).setCell ⟨g, 6, none⟩ (.bool b6)).setCell ⟨g, 7, none⟩ (.bool b7)) := below_row8 hB
      by_cases h1 : z < 1
      · have NB := NOT (.inl h1)
        obtain ⟨b0, b1, b2, b3, b4, b5, b6, b7, rfl, ⟨c0, c1, c2, c3, c4, c5, c6, c7⟩, f0, f1, f2, f3, f4, f5, f6, f7⟩ := hrow.cells
        go_wp2
        (try simp only [Exit.inBlock, Exit.then])
        obtain ⟨_, hr8⟩ := row8_all hrow false false false false false false false false
        obtain ⟨lv, hlv, hag⟩ := hr8.load
        refine bodyPost_ret (results_cell rfl rfl hlv) rfl ?_
        have hfin := HH false false false false false false false false
        rw [← hg] at hfin
        rw [← NB.out]
        first | exact ⟨lv, hag, rfl, by simpa only [hg] using hfin⟩ | exact ⟨⟨lv, hag, rfl⟩, by simpa only [hg] using hfin⟩
      by_cases h7 : 7 < z
      · have NB := NOT (.inr (.inl h7))
        obtain ⟨b0, b1, b2, b3, b4, b5, b6, b7, rfl, ⟨c0, c1, c2, c3, c4, c5, c6, c7⟩, f0, f1, f2, f3, f4, f5, f6, f7⟩ := hrow.cells
        go_wp2
        (try simp only [Exit.inBlock, Exit.then])
        obtain ⟨_, hr8⟩ := row8_all hrow false false false false false false false false
        obtain ⟨lv, hlv, hag⟩ := hr8.load
        refine bodyPost_ret (results_cell rfl rfl hlv) rfl ?_
        have hfin := HH false false false false false false false false
        rw [← hg] at hfin
        rw [← NB.out]
        first | exact ⟨lv, hag, rfl, by simpa only [hg] using hfin⟩ | exact ⟨⟨lv, hag, rfl⟩, by simpa only [hg] using hfin⟩
      obtain ⟨n, rfl⟩ : ∃ n : Nat, z = (n : Int) := ⟨z.toNat, by omega⟩
      obtain ⟨bn, hcn⟩ := hrow.at_ n (by omega)
      have hfn := hrow.2.frozen n
      have hset := hrow.set_ n true
      have hB2 : Below g w (wr.setCell ⟨g, n, none⟩ (.bool true)) := hB.setCell (p := ⟨g, n, none⟩) (Nat.le_refl _) _
      by_cases h0 : 0 < k
      · have hckk := hck1 h0
        obtain ⟨y, hy⟩ : ∃ y, l[k - 1] = y := ⟨_, rfl⟩
        rw [hy] at hckk NOT
        have HY := Lib.hid hy
        clear hck1 hy
        obtain ⟨j, rfl⟩ : ∃ j, k = j + 1 := ⟨k - 1, by omega⟩
        simp only [Nat.add_sub_cancel] at hckk HY
        by_cases hge : (n : Int) ≤ y
        · have NB := NOT (.inr (.inr ⟨h0, hge⟩))
          obtain ⟨b0, b1, b2, b3, b4, b5, b6, b7, rfl, ⟨c0, c1, c2, c3, c4, c5, c6, c7⟩, f0, f1, f2, f3, f4, f5, f6, f7⟩ := hrow.cells
          clear hcn hfn hset hB2
          go_wp2
          (try simp only [Exit.inBlock, Exit.then])
          obtain ⟨_, hr8⟩ := row8_all hrow false false false false false false false false
          obtain ⟨lv, hlv, hag⟩ := hr8.load
          refine bodyPost_ret (results_cell rfl rfl hlv) rfl ?_
          have hfin := HH false false false false false false false false
          rw [← hg] at hfin
          rw [← NB.out]
          first | exact ⟨lv, hag, rfl, by simpa only [hg] using hfin⟩ | exact ⟨⟨lv, hag, rfl⟩, by simpa only [hg] using hfin⟩
        · go_wp2
          go_roundw
          case rel => exact ⟨j + 1 + 1, _, by omega, by go_num, hgd.step hlt (by rw [HZ.out]; omega) (by rw [HZ.out]; omega) (fun _ => by show l[j] < l[j + 1]; rw [HZ.out, HY.out]; omega), hset, hB2⟩
          case measure => simp [intOf]; omega
      · obtain rfl : k = 0 := by omega
        clear hck1
        rw [Nat.add_zero] at hck
        go_wp2
        go_roundw
        case rel => exact ⟨0 + 1, _, by omega, by go_num, hgd.step hlt (by rw [HZ.out]; omega) (by rw [HZ.out]; omega) (fun hh => absurd hh (by omega)), hset, hB2⟩
        case measure => simp [intOf]; omega
    · obtain rfl : k = l.length := by omega
      have HE : Hid (decide (0 < l.length) = B) := by
        show _ = _
        rw [← HS.out]
        exact decide_eq_decide.2 ⟨fun h => ⟨h, hgd⟩, fun h => h.1⟩
      have HH : ∀ b0 b1 b2 b3 b4 b5 b6 b7 : Bool, Below g w ((((((((wr.setCell ⟨g, 0, none⟩ (.bool b0)).setCell ⟨g, 1, none⟩ (.bool b1)).setCell ⟨g, 2, none⟩ (.bool b2)).setCell ⟨g, 3, none⟩ (.bool b3)).setCell ⟨g, 4, none⟩ (.bool b4)).setCell ⟨g, 5, none⟩ (.bool b5)).setCell ⟨g, 6, none⟩ (.bool b6)).setCell ⟨g, 7, none⟩ (.bool b7)) := below_row8 hB
      obtain ⟨b0, b1, b2, b3, b4, b5, b6, b7, rfl, ⟨c0, c1, c2, c3, c4, c5, c6, c7⟩, f0, f1, f2, f3, f4, f5, f6, f7⟩ := hrow.cells
      go_wp2
      (try simp only [Exit.inBlock, Exit.then])
      obtain ⟨_, hr8⟩ := row8_all hrow b0 b1 b2 b3 b4 b5 b6 b7
      obtain ⟨lv, hlv, hag⟩ := hr8.load
      refine bodyPost_ret (results_cell rfl rfl hlv) rfl ?_
      have hfin := HH b0 b1 b2 b3 b4 b5 b6 b7
      rw [← hg] at hfin
      rw [← HE.out]
      first | exact ⟨lv, hag, by simp, by simpa only [hg] using hfin⟩ | exact ⟨⟨lv, hag, by simp⟩, by simpa only [hg] using hfin⟩

end Go.Proofs.Ytjnkpjhggeibeaa

/- Messages: which fields a kind has. -/
namespace Go.Proofs.Ytjnkpjhggeibeaa
set_option maxRecDepth 100000
open Go.RowKit

def mT (k : Int) : Bool := k == 1 || k == 2 || k == 3 || k == 4 || k == 5
def mI (k : Int) : Bool := k == 1 || k == 3 || k == 4
def mL (k : Int) : Bool := k == 1 || k == 3
def mC (k : Int) : Bool := k == 3
def mF (k : Int) : Bool := k == 2 || k == 4
def mE (k : Int) : Bool := k == 3 || k == 6
def mS (k : Int) : Bool := k == 5
def mK (k : Int) : Bool := mT k || k == 6
theorem mkinds (k : Int) : k = 1 ∨ k = 2 ∨ k = 3 ∨ k = 4 ∨ k = 5 ∨ k = 6 ∨ (k ≠ 1 ∧ k ≠ 2 ∧ k ≠ 3 ∧ k ≠ 4 ∧ k ≠ 5 ∧ k ≠ 6) := by omega
def hasA (a b c d e f g : Bool) : Array Value := #[.bool a, .bool b, .bool c, .bool d, .bool e, .bool f, .bool g]
theorem hasA_one (a b c d e f g : Bool) : (hasA a b c d e f g).all (·.oneCell') = true := by simp [hasA, Value.oneCell']
theorem info_Has : (Try.prog.info? 41).map (·.size) = some 7 := by kernel_rfl
def hasK (k : Int) : Array Value := hasA (mT k) (mI k) (mL k) (mC k) (mF k) (mE k) (mS k)
set_option maxHeartbeats 4000000 in
theorem msg_of_any (w : World) (k : Int) :
    Calls Try.prog 10 #[.int .i64 k] w fun e w' => e = .returned (.tuple #[.agg (hasK k), .bool (mK k)]) ∧ Below w.heap.size w w' := by
  obtain ⟨g, hg⟩ : ∃ g, w.heap.size = g := ⟨_, rfl⟩
  have hb0 : Blk (w.alloc (.cells (hasA false false false false false false false) 41)) g 41 (hasA false false false false false false false) := hg ▸ Blk.new _ _ _
  have hB0 : Below g w (w.alloc (.cells (hasA false false false false false false false) 41)) := (Below.refl _ _).alloc (by omega) _
  rw [hg]
  have HB := Lib.hid hB0
  have HK := Lib.hid hb0
  have hcs := mkinds k
  rcases hcs with rfl | rfl | rfl | rfl | rfl | rfl | ⟨h1, h2, h3, h4, h5, h6⟩
  · have eK : hasK 1 = hasA true true true false false false false := rfl
    have eM : mK 1 = true := rfl
    rw [eK, eM]
    clear eK eM
    clear hb0 hB0
    go_enter Try.func10, Try.ntmps10
    go_upto_region 1 with (fail)
    change Code.wp _ _ _ _ (w.alloc (.cells (hasA false false false false false false false) 41))
    generalize (w.alloc (.cells (hasA false false false false false false false) 41)) = W at HK HB ⊢
    try rw [hg]
    go_wp2_with (refine wpList_store_row rfl 41 _ _ rfl g (hasA true true true false false false false) rfl rfl 41 (hasA false false false false false false false) HK.out info_Has rfl (hasA_one _ _ _ _ _ _ _) ?_)
    (try simp only [Exit.inBlock, Exit.then])
    refine bodyPost_ret (results_cell rfl rfl (run_loadVar_row _ g 41 41 _ (0, 0) _ (Blk.row (cs := hasA true true true false false false false) HK.out) Try.underlying41 rfl info_Has)) rfl ?_
    exact ⟨rfl, row_below HB.out (Nat.le_refl _) _⟩
  · have eK : hasK 2 = hasA true false false false true false false := rfl
    have eM : mK 2 = true := rfl
    rw [eK, eM]
    clear eK eM
    clear hb0 hB0
    go_enter Try.func10, Try.ntmps10
    go_upto_region 1 with (fail)
    change Code.wp _ _ _ _ (w.alloc (.cells (hasA false false false false false false false) 41))
    generalize (w.alloc (.cells (hasA false false false false false false false) 41)) = W at HK HB ⊢
    try rw [hg]
    go_wp2_with (refine wpList_store_row rfl 41 _ _ rfl g (hasA true false false false true false false) rfl rfl 41 (hasA false false false false false false false) HK.out info_Has rfl (hasA_one _ _ _ _ _ _ _) ?_)
    (try simp only [Exit.inBlock, Exit.then])
    refine bodyPost_ret (results_cell rfl rfl (run_loadVar_row _ g 41 41 _ (0, 0) _ (Blk.row (cs := hasA true false false false true false false) HK.out) Try.underlying41 rfl info_Has)) rfl ?_
    exact ⟨rfl, row_below HB.out (Nat.le_refl _) _⟩
  · have eK : hasK 3 = hasA true true true true false true false := rfl
    have eM : mK 3 = true := rfl
    rw [eK, eM]
    clear eK eM
    clear hb0 hB0
    go_enter Try.func10, Try.ntmps10
    go_upto_region 1 with (fail)
    change Code.wp _ _ _ _ (w.alloc (.cells (hasA false false false false false false false) 41))
    generalize (w.alloc (.cells (hasA false false false false false false false) 41)) = W at HK HB ⊢
    try rw [hg]
    go_wp2_with (refine wpList_store_row rfl 41 _ _ rfl g (hasA true true true true false true false) rfl rfl 41 (hasA false false false false false false false) HK.out info_Has rfl (hasA_one _ _ _ _ _ _ _) ?_)
    (try simp only [Exit.inBlock, Exit.then])
    refine bodyPost_ret (results_cell rfl rfl (run_loadVar_row _ g 41 41 _ (0, 0) _ (Blk.row (cs := hasA true true true true false true false) HK.out) Try.underlying41 rfl info_Has)) rfl ?_
    exact ⟨rfl, row_below HB.out (Nat.le_refl _) _⟩
  · have eK : hasK 4 = hasA true true false false true false false := rfl
    have eM : mK 4 = true := rfl
    rw [eK, eM]
    clear eK eM
    clear hb0 hB0
    go_enter Try.func10, Try.ntmps10
    go_upto_region 1 with (fail)
    change Code.wp _ _ _ _ (w.alloc (.cells (hasA false false false false false false false) 41))
    generalize (w.alloc (.cells (hasA false false false false false false false) 41)) = W at HK HB ⊢
    try rw [hg]
    go_wp2_with (refine wpList_store_row rfl 41 _ _ rfl g (hasA true true false false true false false) rfl rfl 41 (hasA false false false false false false false) HK.out info_Has rfl (hasA_one _ _ _ _ _ _ _) ?_)
    (try simp only [Exit.inBlock, Exit.then])
    refine bodyPost_ret (results_cell rfl rfl (run_loadVar_row _ g 41 41 _ (0, 0) _ (Blk.row (cs := hasA true true false false true false false) HK.out) Try.underlying41 rfl info_Has)) rfl ?_
    exact ⟨rfl, row_below HB.out (Nat.le_refl _) _⟩
  · have eK : hasK 5 = hasA true false false false false false true := rfl
    have eM : mK 5 = true := rfl
    rw [eK, eM]
    clear eK eM
    clear hb0 hB0
    go_enter Try.func10, Try.ntmps10
    go_upto_region 1 with (fail)
    change Code.wp _ _ _ _ (w.alloc (.cells (hasA false false false false false false false) 41))
    generalize (w.alloc (.cells (hasA false false false false false false false) 41)) = W at HK HB ⊢
    try rw [hg]
    go_wp2_with (refine wpList_store_row rfl 41 _ _ rfl g (hasA true false false false false false true) rfl rfl 41 (hasA false false false false false false false) HK.out info_Has rfl (hasA_one _ _ _ _ _ _ _) ?_)
    (try simp only [Exit.inBlock, Exit.then])
    refine bodyPost_ret (results_cell rfl rfl (run_loadVar_row _ g 41 41 _ (0, 0) _ (Blk.row (cs := hasA true false false false false false true) HK.out) Try.underlying41 rfl info_Has)) rfl ?_
    exact ⟨rfl, row_below HB.out (Nat.le_refl _) _⟩
  · have eK : hasK 6 = hasA false false false false false true false := rfl
    have eM : mK 6 = true := rfl
    rw [eK, eM]
    clear eK eM
    clear hb0 hB0
    go_enter Try.func10, Try.ntmps10
    go_upto_region 1 with (fail)
    change Code.wp _ _ _ _ (w.alloc (.cells (hasA false false false false false false false) 41))
    generalize (w.alloc (.cells (hasA false false false false false false false) 41)) = W at HK HB ⊢
    try rw [hg]
    go_wp2_with (refine wpList_store_row rfl 41 _ _ rfl g (hasA false false false false false true false) rfl rfl 41 (hasA false false false false false false false) HK.out info_Has rfl (hasA_one _ _ _ _ _ _ _) ?_)
    (try simp only [Exit.inBlock, Exit.then])
    refine bodyPost_ret (results_cell rfl rfl (run_loadVar_row _ g 41 41 _ (0, 0) _ (Blk.row (cs := hasA false false false false false true false) HK.out) Try.underlying41 rfl info_Has)) rfl ?_
    exact ⟨rfl, row_below HB.out (Nat.le_refl _) _⟩
  · have e1 : (k == 1) = false := by simpa using h1
    have e2 : (k == 2) = false := by simpa using h2
    have e3 : (k == 3) = false := by simpa using h3
    have e4 : (k == 4) = false := by simpa using h4
    have e5 : (k == 5) = false := by simpa using h5
    have e6 : (k == 6) = false := by simpa using h6
    have eK : hasK k = hasA false false false false false false false := by simp only [hasK, mT, mI, mL, mC, mF, mE, mS, e1, e2, e3, e4, e5, e6]; rfl
    have eM : mK k = false := by simp only [mK, mT, e1, e2, e3, e4, e5, e6]; rfl
    rw [eK, eM]
    clear h1 h2 h3 h4 h5 h6 eK eM
    clear hb0 hB0
    go_enter Try.func10, Try.ntmps10
    go_upto_region 1 with (fail)
    change Code.wp _ _ _ _ (w.alloc (.cells (hasA false false false false false false false) 41))
    generalize (w.alloc (.cells (hasA false false false false false false false) 41)) = W at HK HB ⊢
    try rw [hg]
    go_wp2_with (refine wpList_store_row rfl 41 _ _ rfl g (hasA false false false false false false false) rfl rfl 41 (hasA false false false false false false false) HK.out info_Has rfl (hasA_one _ _ _ _ _ _ _) ?_)
    (try simp only [Exit.inBlock, Exit.then])
    refine bodyPost_ret (results_cell rfl rfl (run_loadVar_row _ g 41 41 _ (0, 0) _ (Blk.row (cs := hasA false false false false false false false) HK.out) Try.underlying41 rfl info_Has)) rfl ?_
    exact ⟨rfl, row_below HB.out (Nat.le_refl _) _⟩
end Go.Proofs.Ytjnkpjhggeibeaa

/- Walks over sets of nodes, second part: nodes.Check and the document's Check. -/
namespace Go.Proofs.Ytjnkpjhggeibeaa
set_option maxRecDepth 100000
open Go.RowKit

/-- The two answers of a check. -/
def errArg (b : Bool) : Int := if b then 0 else 1

set_option maxHeartbeats 1000000 in
theorem nodes_Check_any (w : World) (A : Option Addr) (c : Nat) (l : List Int) (h : InN .i64 w A c l) :
    Calls Try.prog 28 #[.slice A l.length c] w fun e w' => e = .returned (.int .i64 (errArg (decide (IsSet l)))) ∧ Below w.heap.size w w' := by
  have C1 := Lib.hid (nodes_of_any w A c l h)
  obtain ⟨B, hB⟩ : ∃ B, decide (IsSet l) = B := ⟨_, rfl⟩
  rw [hB] at C1 ⊢
  clear h hB
  cases B
  all_goals
    go_enter Try.func28, Try.ntmps28
    go_wp2_with fail
    refine C1.out.mono ?_
    rintro e w1 ⟨r, ⟨b0, b1, b2, b3, b4, b5, b6, b7, rfl⟩, rfl, hB1⟩
    go_wp2
    go_ret
    exact ⟨rfl, hB1.alloc hB1.size _⟩

set_option maxHeartbeats 1000000 in
theorem ref_setCheck_any (w : World) (A : Option Addr) (c : Nat) (l : List Int) (h : InN .i64 w A c l) :
    Calls Try.prog 32 #[.slice A l.length c] w fun e w' => e = .returned (.int .i64 (errArg (decide (IsSet l)))) ∧ w' = w := by
  have hs := h.small
  have hcap := h.cap
  have HIN := Lib.hid h
  clear h
  by_cases h0 : l.length = 0
  · have HE : Hid (errArg (decide (IsSet l)) = 1) := by
      show _ = _
      rw [decide_eq_false (fun hh => by have := hh.1; omega)]
      rfl
    rw [HE.out, h0]
    go_enter Try.func32, Try.ntmps32
    go_wp2
    go_ret
    exact ⟨rfl, rfl⟩
  have e0 : ((l.length : Int) == 0) = false := by rw [beq_eq_false_iff_ne]; omega
  obtain ⟨E, hE⟩ : ∃ E, errArg (decide (IsSet l)) = E := ⟨_, rfl⟩
  have HE := Lib.hid hE
  rw [hE]
  clear hE
  obtain ⟨b, off, rfl, hcell⟩ := HIN.out.all (by omega)
  have HC := Lib.hid hcell
  clear hcell
  go_enter Try.func32, Try.ntmps32
  go_wp2
  go_loop [3, 4, 10] (fun x y i => ∃ k : Nat, k ≤ l.length ∧ i = .int .i64 k ∧ Good l k) (fun _ _ i => l.length - (intOf i).toNat)
  case atStart => exact ⟨0, by omega, rfl, Good.zero l⟩
  case round =>
    obtain ⟨k, hk, rfl, hgd⟩ := hrel
    by_cases hlt : k < l.length
    · have hck := HC.out k hlt
      have hck1 : 0 < k → w.cell? ⟨b, off + (k - 1), none⟩ = some (.int .i64 (l[k - 1])) := fun _ => HC.out (k - 1) (by omega)
      obtain ⟨z, hz⟩ : ∃ z, l[k] = z := ⟨_, rfl⟩
      rw [hz] at hck
      have HZ := Lib.hid hz
      have NOT : (z < 1 ∨ 7 < z ∨ (0 < k ∧ z ≤ l[k - 1])) → Hid (E = 1) := fun h => by
        show _ = _
        rw [← HE.out]
        have := not_set hlt (by rw [HZ.out]; exact h)
        rw [decide_eq_false this]
        rfl
      by_cases h1 : z < 1
      · have NB := NOT (.inl h1)
        go_wp2
        go_ret
        rw [NB.out]
        exact ⟨rfl, rfl⟩
      by_cases h7 : 7 < z
      · have NB := NOT (.inr (.inl h7))
        go_wp2
        go_ret
        rw [NB.out]
        exact ⟨rfl, rfl⟩
      by_cases h0 : 0 < k
      · have hckk := hck1 h0
        obtain ⟨y, hy⟩ : ∃ y, l[k - 1] = y := ⟨_, rfl⟩
        rw [hy] at hckk NOT
        have HY := Lib.hid hy
        clear hck1 hy
        obtain ⟨j, rfl⟩ : ∃ j, k = j + 1 := ⟨k - 1, by omega⟩
        simp only [Nat.add_sub_cancel] at hckk HY
        by_cases hge : z ≤ y
        · have NB := NOT (.inr (.inr ⟨h0, hge⟩))
          go_wp2
          go_ret
          rw [NB.out]
          exact ⟨rfl, rfl⟩
        · go_wp2
          go_round
          case rel => exact ⟨j + 1 + 1, by omega, by go_num, hgd.step hlt (by rw [HZ.out]; omega) (by rw [HZ.out]; omega) (fun _ => by show l[j] < l[j + 1]; rw [HZ.out, HY.out]; omega)⟩
          case measure => simp [intOf]; omega
      · obtain rfl : k = 0 := by omega
        clear hck1
        rw [Nat.add_zero] at hck
        go_wp2
        go_round
        case rel => exact ⟨0 + 1, by omega, by go_num, hgd.step hlt (by rw [HZ.out]; omega) (by rw [HZ.out]; omega) (fun hh => absurd hh (by omega))⟩
        case measure => simp [intOf]; omega
    · obtain rfl : k = l.length := by omega
      have NE : Hid (E = 0) := by
        show _ = _
        have hset : IsSet l := ⟨by omega, hgd⟩
        rw [← HE.out, decide_eq_true hset]
        rfl
      go_wp2
      go_ret
      rw [NE.out]
      exact ⟨rfl, rfl⟩
end Go.Proofs.Ytjnkpjhggeibeaa

/- Walks over commands: which fields a kind has, by the code and by the document. -/
namespace Go.Proofs.Ytjnkpjhggeibeaa
set_option maxRecDepth 100000
open Go.RowKit

def kN (k : Int) : Bool := decide (k = 2)
def kR (k : Int) : Bool := decide (k = 3 ∨ k = 4 ∨ k = 5)
def kT (k : Int) : Bool := decide (k = 4 ∨ k = 5 ∨ k = 6)
def kS (k : Int) : Bool := decide (k = 6)
def kI (k : Int) : Bool := decide (1 ≤ k ∧ k ≤ 6)
theorem info_which : (Try.prog.info? 79).map (·.size) = some 5 := by kernel_rfl
theorem kinds (k : Int) : k = 1 ∨ k = 2 ∨ k = 3 ∨ k = 4 ∨ k = 5 ∨ k = 6 ∨ (k ≠ 1 ∧ k ≠ 2 ∧ k ≠ 3 ∧ k ≠ 4 ∧ k ≠ 5 ∧ k ≠ 6) := by omega
theorem load_which (w : World) (b0 b1 b2 b3 b4 : Bool) : (loadVar 79 ⟨w.heap.size, 0, none⟩).run Try.prog (w.alloc (.cells #[.bool b0, .bool b1, .bool b2, .bool b3, .bool b4] 79)) = .ok (.agg #[.bool b0, .bool b1, .bool b2, .bool b3, .bool b4]) (w.alloc (.cells #[.bool b0, .bool b1, .bool b2, .bool b3, .bool b4] 79)) :=
  run_loadVar_row _ _ _ _ _ (0, 0) _ (Blk.new _ _ _) Try.underlying79 rfl info_which
/-- Which fields a kind has, as the code's row. -/
def which (k : Int) : Value := .agg #[.bool (kN k), .bool (kR k), .bool (kT k), .bool (kS k), .bool (kI k)]

set_option maxHeartbeats 1000000 in
theorem cmd_of_any (w : World) (k : Int) :
    Calls Try.prog 41 #[.int .i64 k] w fun e w' => e = .returned (which k) ∧ Below w.heap.size w w' := by
  rcases kinds k with rfl | rfl | rfl | rfl | rfl | rfl | ⟨h1, h2, h3, h4, h5, h6⟩
  case inr.inr.inr.inr.inr.inr =>
    have e1 : which k = .agg #[.bool false, .bool false, .bool false, .bool false, .bool false] := by
      simp [which, kN, kR, kT, kS, kI, h2, h3, h4, h5, h6]
      omega
    rw [e1]
    clear e1
    go_enter Try.func41, Try.ntmps41
    go_wp2
    (try simp only [Exit.inBlock, Exit.then])
    refine bodyPost_ret (results_cell1 rfl rfl (load_which w _ _ _ _ _)) rfl ?_
    exact ⟨rfl, (Below.refl _ _).alloc (Nat.le_refl _) _⟩
  all_goals
    go_enter Try.func41, Try.ntmps41
    go_wp2
    (try simp only [Exit.inBlock, Exit.then])
    refine bodyPost_ret (results_cell1 rfl rfl (load_which w _ _ _ _ _)) rfl ?_
    exact ⟨rfl, (Below.refl _ _).alloc (Nat.le_refl _) _⟩

/-- The document's letters of a kind. -/
def fld (k : Int) : ByteArray := if k = 2 then ⟨#[108]⟩ else if k = 3 then ⟨#[110, 98, 113]⟩ else if k = 4 ∨ k = 5 then ⟨#[110, 98, 113, 116, 115]⟩ else if k = 6 then ⟨#[116, 115, 109]⟩ else ⟨#[]⟩
set_option maxHeartbeats 1000000 in
theorem ref_fields_any (w : World) (k : Int) :
    Calls Try.prog 42 #[.int .i64 k] w fun e w' => e = .returned (.tuple #[.string (fld k), .bool (kI k)]) ∧ w' = w := by
  rcases kinds k with rfl | rfl | rfl | rfl | rfl | rfl | ⟨h1, h2, h3, h4, h5, h6⟩
  case inr.inr.inr.inr.inr.inr =>
    have e1 : fld k = ⟨#[]⟩ := by simp [fld, h2, h3, h4, h5, h6]
    have e2 : kI k = false := by simp [kI]; omega
    rw [e1, e2]
    clear e1 e2
    go_enter Try.func42, Try.ntmps42
    go_wp2
    go_ret2
    exact ⟨rfl, rfl⟩
  all_goals
    go_enter Try.func42, Try.ntmps42
    go_wp2
    go_ret2
    exact ⟨rfl, rfl⟩

theorem bytes_get {s : ByteArray} {k : Nat} (h : k < s.size) : (bytes s)[k]'(by rw [bytes_length]; exact h) = (s[k].toNat : Int) := by
  simp [bytes]
  rfl
/-- A letter is among some. -/
def hasB (s : ByteArray) (c : Int) : Bool := (bytes s).contains c
theorem ref_has_any (w : World) (s : ByteArray) (c : Int) (hs : s.size ≤ 140737488351232) :
    Calls Try.prog 44 #[.string s, .int .u8 c] w fun e w' => e = .returned (.bool (hasB s c)) ∧ w' = w := by
  obtain ⟨X, hX⟩ : ∃ X, hasB s c = X := ⟨_, rfl⟩
  have HX := Lib.hid hX
  rw [hX]
  clear hX
  go_enter Try.func44, Try.ntmps44
  go_wp2
  go_loop [4, 5] (fun b i => ∃ k : Nat, k ≤ s.size ∧ b = .bool false ∧ i = .int .i64 k ∧ ∀ j (hj : j < (bytes s).length), j < k → (bytes s)[j] ≠ c) (fun _ i => s.size - (intOf i).toNat)
  case atStart => exact ⟨0, by omega, rfl, rfl, fun j _ h => by omega⟩
  case round =>
    obtain ⟨k, hk, rfl, rfl, hno⟩ := hrel
    have HNO := Lib.hid hno
    clear hno
    by_cases hlt : k < s.size
    · have hbk : (s[k].toNat : Int) = (bytes s)[k]'(by rw [bytes_length]; exact hlt) := (bytes_get hlt).symm
      have HBK := Lib.hid hbk
      clear hbk
      by_cases heq : ((s[k].toNat : Int) == c) = true
      · have HE : Hid (true = X) := by
          show _ = _
          rw [← HX.out]
          have e2 : (bytes s)[k]'(by rw [bytes_length]; exact hlt) = c := by rw [← HBK.out]; simpa using heq
          exact (by simp only [hasB, List.contains_eq_mem, decide_eq_true_eq]; exact e2 ▸ List.getElem_mem _ : hasB s c = true).symm
        go_wp2
        go_ret
        rw [← HE.out]
        exact ⟨rfl, rfl⟩
      · have hef : ((s[k].toNat : Int) == c) = false := by simpa using heq
        clear heq
        go_wp2
        go_round
        case rel =>
          refine ⟨k + 1, by omega, rfl, by go_num, fun j hj hjk => ?_⟩
          rcases Nat.lt_or_ge j k with h1 | h1
          · exact HNO.out j hj h1
          · obtain rfl : j = k := by omega
            rw [← HBK.out]
            simpa using hef
        case measure => simp [intOf]; omega
    · obtain rfl : k = s.size := by omega
      have HE : Hid (false = X) := by
        show _ = _
        rw [← HX.out]
        symm
        simp only [hasB, List.contains_eq_mem, decide_eq_false_iff_not]
        intro hm
        obtain ⟨j, hj, e⟩ := List.getElem_of_mem hm
        exact HNO.out j hj (by rw [bytes_length] at hj; exact hj) e
      go_wp2
      go_ret
      rw [← HE.out]
      exact ⟨rfl, rfl⟩

def rightB (b : Bool) (n hi : Int) : Bool := if b then decide (1 ≤ n) && decide (n ≤ hi) else n == 0
theorem ref_right_any (w : World) (b : Bool) (n hi : Int) :
    Calls Try.prog 43 #[.bool b, .int .u64 n, .int .u64 hi] w fun e w' => e = .returned (.bool (rightB b n hi)) ∧ w' = w := by
  cases b
  · show Calls _ _ _ _ fun e w' => e = .returned (.bool (n == 0)) ∧ w' = w
    go_enter Try.func43, Try.ntmps43
    go_wp2
    go_ret
    exact ⟨rfl, rfl⟩
  · by_cases h1 : 1 ≤ n
    · have e1 : rightB true n hi = decide (n ≤ hi) := by simp [rightB, h1]
      rw [e1]
      clear e1
      go_enter Try.func43, Try.ntmps43
      go_wp2
      go_ret
      exact ⟨rfl, rfl⟩
    · have e1 : rightB true n hi = false := by simp [rightB, h1]
      rw [e1]
      clear e1
      go_enter Try.func43, Try.ntmps43
      go_wp2
      go_ret
      exact ⟨rfl, rfl⟩
end Go.Proofs.Ytjnkpjhggeibeaa

/- Arguments opened: a slice of bytes that came in. -/
namespace Go.Proofs.Ytjnkpjhggeibeaa
set_option maxRecDepth 100000
open Go.ChangeShapes Go.WideShapes Go.ChangeAt Go.RowKit

/-- Numbers of a kind, well formed, are in its bounds. -/
theorem wf_u64 {n : Int} (h : (Lit.int .u64 n).wf = true) : 0 ≤ n ∧ n < 18446744073709551616 := by
  have := bounds_u64 h
  omega
theorem wf_i64 {n : Int} (h : (Lit.int .i64 n).wf = true) : -9223372036854775808 ≤ n ∧ n ≤ 9223372036854775807 := bounds_i64 h
theorem nat_u64 {n : Int} (h : (Lit.int .u64 n).wf = true) : ∃ m : Nat, n = m ∧ m < 18446744073709551616 := by
  have := wf_u64 h
  exact ⟨n.toNat, by omega, by omega⟩

/-- What is known of a slice of bytes that came in. -/
def OpenB (W : World) (v : Value) : Prop := ∃ A c l, v = .slice A l.length c ∧ In8 W A c l ∧ l.length ≤ 140737488351232
end Go.Proofs.Ytjnkpjhggeibeaa

/- Walks over commands: what may be. -/
namespace Go.Proofs.Ytjnkpjhggeibeaa
set_option maxRecDepth 100000
open Go.RowKit

/-- A command. -/
def cmdV (k n t : Int) (sl : Value) (b q s m : Int) : Value := .agg #[.int .i64 k, .int .i64 n, .int .i64 t, sl, .int .u64 b, .int .u64 q, .int .u64 s, .int .u64 m]
/-- What the fields of a kind but the list must be. -/
def numsOk (k n t b q s m : Int) : Bool :=
  kI k && decide (0 ≤ n) && decide (0 ≤ t) && rightB (hasB (fld k) 110) n 7 && rightB (hasB (fld k) 116) t 65535 && rightB (hasB (fld k) 98) b 18446744073709551615 &&
  rightB (hasB (fld k) 113) q 18446744073709551615 && rightB (hasB (fld k) 115) s 18446744073709551615 && rightB (hasB (fld k) 109) m 18446744073709551615
noncomputable def listOk (k : Int) (l : List Int) : Bool := if hasB (fld k) 108 then decide (IsSet l) else decide (l.length = 0)
def errCmd (b : Bool) : Int := if b then 0 else 40
theorem fld_small (k : Int) : (fld k).size ≤ 140737488351232 := by
  unfold fld
  split
  · decide
  split
  · decide
  split
  · decide
  split <;> decide

end Go.Proofs.Ytjnkpjhggeibeaa
