/- Walks over commands: what the code's Decode reads (plain), and what stands in memory while it reads. -/
import Derived.Test.YtnpodnieahokjaaDecN
import Derived.Test.YtnpodnieahokjaaEncC
namespace Go.Proofs.Ytnpodnieahokjaa
open Go.RowKit

theorem wf_i64_of {z : Int} (h1 : -9223372036854775808 ≤ z) (h2 : z ≤ 9223372036854775807) : (Lit.int .i64 z).wf = true := by
  simp [Lit.wf, IntKind.min, IntKind.max, IntKind.bits, IntKind.signed]
  omega
/-! ### Plain: what is read -/
theorem rnum_le {lb : List Int} (hb : Byt lb) {k : Nat} (hk : k ≤ lb.length) (e : Int) {most : Int} (hm : 0 ≤ most) : 0 ≤ (rnum lb k e most).1 ∧ (rnum lb k e most).1 ≤ most ∧ (rnum lb k e most).2.1 ≤ lb.length ∧ (rnum lb k e most).1 < 18446744073709551616 := by
  unfold rnum
  by_cases h1 : e ≠ 0
  · rw [if_pos h1]
    exact ⟨Int.le_refl _, hm, hk, by show (0 : Int) < 18446744073709551616; decide⟩
  rw [if_neg h1]
  by_cases h2 : (readN (lb.drop k)).2.2 ≠ 0
  · rw [if_pos h2]
    exact ⟨Int.le_refl _, hm, hk, by show (0 : Int) < 18446744073709551616; decide⟩
  rw [if_neg h2]
  by_cases h3 : (readN (lb.drop k)).1 > most
  · rw [if_pos h3]
    exact ⟨Int.le_refl _, hm, hk, by show (0 : Int) < 18446744073709551616; decide⟩
  rw [if_neg h3]
  obtain ⟨r1, r2, r3, r4, r5⟩ := readN_ok (lb.drop k) (hb.drop k) (by simpa using h2)
  rw [List.length_drop] at r2
  exact ⟨r4, by simp only; omega, by simp only; omega, r5⟩
/-- A list of so many numbers. -/
def decNodes (lb : List Int) : Nat → Nat → Int → List Int × Nat × Int
  | 0, k, e => ([], k, e)
  | c + 1, k, e => ((rnum lb k e 65535).1 :: (decNodes lb c (rnum lb k e 65535).2.1 (rnum lb k e 65535).2.2).1, (decNodes lb c (rnum lb k e 65535).2.1 (rnum lb k e 65535).2.2).2)
/-- What is read for a field that is there, or not. -/
def fnum (there : Bool) (lb : List Int) (st : Nat × Int) (most : Int) : Int × Nat × Int := if there then rnum lb st.1 st.2 most else (0, st)
/-- The kind; behind it the place and the error. -/
def dK (lb : List Int) : Int × Nat × Int := ((rnum lb 0 0 6).1, (rnum lb 0 0 6).2.1, if (rnum lb 0 0 6).2.2 = 0 ∧ kI (rnum lb 0 0 6).1 = false then 11 else (rnum lb 0 0 6).2.2)
def dL (lb : List Int) : List Int × Nat × Int :=
  if kN (dK lb).1 then decNodes lb (rnum lb (dK lb).2.1 (dK lb).2.2 7).1.toNat (rnum lb (dK lb).2.1 (dK lb).2.2 7).2.1 (rnum lb (dK lb).2.1 (dK lb).2.2 7).2.2 else ([], (dK lb).2)
def dn (lb : List Int) := fnum (kR (dK lb).1) lb (dL lb).2 65535
def db (lb : List Int) := fnum (kR (dK lb).1) lb (dn lb).2 18446744073709551615
def dq (lb : List Int) := fnum (kR (dK lb).1) lb (db lb).2 18446744073709551615
def dt (lb : List Int) := fnum (kT (dK lb).1) lb (dq lb).2 65535
def ds (lb : List Int) := fnum (kT (dK lb).1) lb (dt lb).2 18446744073709551615
def dm (lb : List Int) := fnum (kS (dK lb).1) lb (ds lb).2 18446744073709551615
/-- The error in the end. -/
noncomputable def dE (lb : List Int) : Int := if (dm lb).2.2 = 0 then errCmd (codeOk (dK lb).1 (dn lb).1 (dt lb).1 (dL lb).1 (db lb).1 (dq lb).1 (ds lb).1 (dm lb).1) else (dm lb).2.2

/-! ### In memory -/
structure Ord (g gr gc gw B : Nat) : Prop where
  h1 : g < gr
  h2 : gr < gc
  h3 : gc < gw
  h4 : gw < B
structure ST (w : World) (g gr gc gw B : Nat) (A : Option Addr) (c : Nat) (lb : List Int) (wx : World) (kind n t : Int) (sl : Value) (l : List Int) (b q s m : Int) (k : Nat) (e : Int) : Prop where
  res : Blk wx g 25 (cmdCells 0 0 0 (.slice none 0 0) 0 0 0 0)
  rd : Blk wx gr 53 (rdCells A lb.length c k e)
  cm : Blk wx gc 25 (cmdCells kind n t sl b q s m)
  wh : Blk wx gw 40 #[.bool (kN kind), .bool (kR kind), .bool (kT kind), .bool (kS kind), .bool (kI kind)]
  bel : Below g w wx
  le : k ≤ lb.length
  sz : B ≤ wx.heap.size
  own : OwnN .i64 3 wx B sl l

section
variable {w : World} {g gr gc gw B : Nat} {A : Option Addr} {c : Nat} {lb : List Int} {wx : World} {kind n t : Int} {sl : Value} {l : List Int} {b q s m : Int} {k : Nat} {e : Int}
theorem ST.drew (h : ST w g gr gc gw B A c lb wx kind n t sl l b q s m k e) : ST w g gr gc gw B A c lb wx.drew kind n t sl l b q s m k e :=
  ⟨h.res, h.rd, h.cm, h.wh, h.bel.drew, h.le, h.sz, h.own⟩
theorem ST.num (h : ST w g gr gc gw B A c lb wx kind n t sl l b q s m k e) (o : Ord g gr gc gw B) (hg : w.heap.size = g) (hin : In8 w A c lb) (most : Int) (hm : 0 ≤ most) :
    Calls Try.prog 28 #[.pointer (some ⟨gr, 0, none⟩), .int .u64 most] wx fun x w' => x = .returned (.int .u64 (rnum lb k e most).1) ∧
      ST w g gr gc gw B A c lb w' kind n t sl l b q s m (rnum lb k e most).2.1 (rnum lb k e most).2.2 := by
  refine (num_walk wx gr A c lb k e most (hin.keep (by rw [hg]; exact h.bel)) h.le h.rd).mono fun x w' ⟨hx, hrd, hgr⟩ => ⟨hx, ?_⟩
  have o1 := o.h1
  have o2 := o.h2
  have o3 := o.h3
  have o4 := o.h4
  have hne : ∀ i, i ≠ gr → some i ≠ some gr := fun i hi hh => hi (by injection hh)
  refine ⟨h.res.grown hgr (hne _ (by omega)), hrd, h.cm.grown hgr (hne _ (by omega)), h.wh.grown hgr (hne _ (by omega)), h.bel.grown hgr (by have := h.sz; omega) (fun i hi => by injection hi with hi; omega), (rnum_le hin.byt h.le e hm).2.2.1, Nat.le_trans h.sz hgr.size, World.ownsRow.kept h.own hgr ?_⟩
  cases hv : sl.ownBlock with
  | none => exact .inl rfl
  | some i =>
    have := (World.ownsRow.lt h.own i hv).1
    exact .inr (hne _ (by omega))
theorem ST.setc (h : ST w g gr gc gw B A c lb wx kind n t sl l b q s m k e) (o : Ord g gr gc gw B) (j : Nat) (u : Value) :
    Blk (wx.setCell ⟨gc, j, none⟩ u) g 25 (cmdCells 0 0 0 (.slice none 0 0) 0 0 0 0) ∧ Blk (wx.setCell ⟨gc, j, none⟩ u) gr 53 (rdCells A lb.length c k e) ∧
    Blk (wx.setCell ⟨gc, j, none⟩ u) gc 25 ([Value.int .i64 kind, .int .i64 n, .int .i64 t, sl, .int .u64 b, .int .u64 q, .int .u64 s, .int .u64 m].set j u).toArray ∧
    Blk (wx.setCell ⟨gc, j, none⟩ u) gw 40 #[.bool (kN kind), .bool (kR kind), .bool (kT kind), .bool (kS kind), .bool (kI kind)] ∧
    Below g w (wx.setCell ⟨gc, j, none⟩ u) ∧ B ≤ (wx.setCell ⟨gc, j, none⟩ u).heap.size ∧ OwnN .i64 3 (wx.setCell ⟨gc, j, none⟩ u) B sl l := by
  have o1 := o.h1
  have o2 := o.h2
  have o3 := o.h3
  have o4 := o.h4
  have hgr : wx.grownBy (wx.setCell ⟨gc, j, none⟩ u) (some gc) := only_setCell (p := ⟨gc, j, none⟩) (World.grownBy.refl wx (some gc)) (.inl rfl) u
  have hne : ∀ i, i ≠ gc → some i ≠ some gc := fun i hi hh => hi (by injection hh)
  refine ⟨h.res.grown hgr (hne _ (by omega)), h.rd.grown hgr (hne _ (by omega)), Blk.setL (l := [Value.int .i64 kind, .int .i64 n, .int .i64 t, sl, .int .u64 b, .int .u64 q, .int .u64 s, .int .u64 m]) h.cm j u, h.wh.grown hgr (hne _ (by omega)),
    h.bel.grown hgr (by have := h.sz; omega) (fun i hi => by injection hi with hi; omega), Nat.le_trans h.sz hgr.size, World.ownsRow.kept h.own hgr ?_⟩
  cases hv : sl.ownBlock with
  | none => exact .inl rfl
  | some i =>
    have := (World.ownsRow.lt h.own i hv).1
    exact .inr (hne _ (by omega))
theorem ST.set1 (h : ST w g gr gc gw B A c lb wx kind n t sl l b q s m k e) (o : Ord g gr gc gw B) (u : Int) : ST w g gr gc gw B A c lb (wx.setCell ⟨gc, 1, none⟩ (.int .i64 u)) kind u t sl l b q s m k e := by
  obtain ⟨a1, a2, a3, a4, a5, a6, a7⟩ := h.setc o 1 (.int .i64 u); exact ⟨a1, a2, a3, a4, a5, h.le, a6, a7⟩
theorem ST.set2 (h : ST w g gr gc gw B A c lb wx kind n t sl l b q s m k e) (o : Ord g gr gc gw B) (u : Int) : ST w g gr gc gw B A c lb (wx.setCell ⟨gc, 2, none⟩ (.int .i64 u)) kind n u sl l b q s m k e := by
  obtain ⟨a1, a2, a3, a4, a5, a6, a7⟩ := h.setc o 2 (.int .i64 u); exact ⟨a1, a2, a3, a4, a5, h.le, a6, a7⟩
theorem ST.set4 (h : ST w g gr gc gw B A c lb wx kind n t sl l b q s m k e) (o : Ord g gr gc gw B) (u : Int) : ST w g gr gc gw B A c lb (wx.setCell ⟨gc, 4, none⟩ (.int .u64 u)) kind n t sl l u q s m k e := by
  obtain ⟨a1, a2, a3, a4, a5, a6, a7⟩ := h.setc o 4 (.int .u64 u); exact ⟨a1, a2, a3, a4, a5, h.le, a6, a7⟩
theorem ST.set5 (h : ST w g gr gc gw B A c lb wx kind n t sl l b q s m k e) (o : Ord g gr gc gw B) (u : Int) : ST w g gr gc gw B A c lb (wx.setCell ⟨gc, 5, none⟩ (.int .u64 u)) kind n t sl l b u s m k e := by
  obtain ⟨a1, a2, a3, a4, a5, a6, a7⟩ := h.setc o 5 (.int .u64 u); exact ⟨a1, a2, a3, a4, a5, h.le, a6, a7⟩
theorem ST.set6 (h : ST w g gr gc gw B A c lb wx kind n t sl l b q s m k e) (o : Ord g gr gc gw B) (u : Int) : ST w g gr gc gw B A c lb (wx.setCell ⟨gc, 6, none⟩ (.int .u64 u)) kind n t sl l b q u m k e := by
  obtain ⟨a1, a2, a3, a4, a5, a6, a7⟩ := h.setc o 6 (.int .u64 u); exact ⟨a1, a2, a3, a4, a5, h.le, a6, a7⟩
theorem ST.set7 (h : ST w g gr gc gw B A c lb wx kind n t sl l b q s m k e) (o : Ord g gr gc gw B) (u : Int) : ST w g gr gc gw B A c lb (wx.setCell ⟨gc, 7, none⟩ (.int .u64 u)) kind n t sl l b q s u k e := by
  obtain ⟨a1, a2, a3, a4, a5, a6, a7⟩ := h.setc o 7 (.int .u64 u); exact ⟨a1, a2, a3, a4, a5, h.le, a6, a7⟩
/-- Behind what leaves all below B alone, with a list of its own. -/
theorem ST.app (h : ST w g gr gc gw B A c lb wx kind n t sl l b q s m k e) (o : Ord g gr gc gw B) {w1 : World} (hb : Below B wx w1) {sl' : Value} {l' : List Int} (ho : OwnN .i64 3 w1 B sl' l') :
    ST w g gr gc gw B A c lb (w1.setCell ⟨gc, 3, none⟩ sl') kind n t sl' l' b q s m k e := by
  have o1 := o.h1
  have o2 := o.h2
  have o3 := o.h3
  have o4 := o.h4
  have hgr : w1.grownBy (w1.setCell ⟨gc, 3, none⟩ sl') (some gc) := only_setCell (p := ⟨gc, 3, none⟩) (World.grownBy.refl w1 (some gc)) (.inl rfl) sl'
  have hne : ∀ i, i ≠ gc → some i ≠ some gc := fun i hi hh => hi (by injection hh)
  have hB1 : Below g w w1 := h.bel.trans (hb.mono (by omega))
  refine ⟨(h.res.below hb (by omega)).grown hgr (hne _ (by omega)), (h.rd.below hb (by omega)).grown hgr (hne _ (by omega)), Blk.setL (l := [Value.int .i64 kind, .int .i64 n, .int .i64 t, sl, .int .u64 b, .int .u64 q, .int .u64 s, .int .u64 m]) (h.cm.below hb (by omega)) 3 sl', (h.wh.below hb (by omega)).grown hgr (hne _ (by omega)),
    hB1.grown hgr (by have := h.sz; have := hb.size; omega) (fun i hi => by injection hi with hi; omega), h.le, Nat.le_trans (Nat.le_trans h.sz hb.size) hgr.size, World.ownsRow.kept ho hgr ?_⟩
  cases hv : sl'.ownBlock with
  | none => exact .inl rfl
  | some i =>
    have := (World.ownsRow.lt ho i hv).1
    exact .inr (hne _ (by omega))
theorem ST.err (h : ST w g gr gc gw B A c lb wx kind n t sl l b q s m k e) (o : Ord g gr gc gw B) (e' : Int) : ST w g gr gc gw B A c lb (wx.setCell ⟨gr, 2, none⟩ (.int .i64 e')) kind n t sl l b q s m k e' := by
  have o1 := o.h1
  have o2 := o.h2
  have o3 := o.h3
  have o4 := o.h4
  have hgr : wx.grownBy (wx.setCell ⟨gr, 2, none⟩ (.int .i64 e')) (some gr) := only_setCell (p := ⟨gr, 2, none⟩) (World.grownBy.refl wx (some gr)) (.inl rfl) _
  have hne : ∀ i, i ≠ gr → some i ≠ some gr := fun i hi hh => hi (by injection hh)
  refine ⟨h.res.grown hgr (hne _ (by omega)), Blk.setL (l := [Value.slice A lb.length c, .int .i64 (k : Int), .int .i64 e]) h.rd 2 _, h.cm.grown hgr (hne _ (by omega)), h.wh.grown hgr (hne _ (by omega)),
    h.bel.grown hgr (by have := h.sz; omega) (fun i hi => by injection hi with hi; omega), h.le, Nat.le_trans h.sz hgr.size, World.ownsRow.kept h.own hgr ?_⟩
  cases hv : sl.ownBlock with
  | none => exact .inl rfl
  | some i =>
    have := (World.ownsRow.lt h.own i hv).1
    exact .inr (hne _ (by omega))
theorem ST.below (h : ST w g gr gc gw B A c lb wx kind n t sl l b q s m k e) (o : Ord g gr gc gw B) {w1 : World} (hb : Below wx.heap.size wx w1) : ST w g gr gc gw B A c lb w1 kind n t sl l b q s m k e := by
  have o1 := o.h1
  have o2 := o.h2
  have o3 := o.h3
  have o4 := o.h4
  have hs := h.sz
  exact ⟨h.res.below hb (by omega), h.rd.below hb (by omega), h.cm.below hb (by omega), h.wh.below hb (by omega), h.bel.trans (hb.mono (by omega)), h.le, Nat.le_trans h.sz hb.size, own_below h.own hb⟩
end
/-- append(b, x, ..) for ints: the numbers lie in a block just made. -/
theorem app_litsI {ops : Array Oper} {rest : List Oper} {o : Oper} {a : Act} {Q : Exit → Act → World → Prop} {w0 W : World} {cs : Array Value} (base : Nat) (hgd : o.guard = none) (s x : Operand)
    (ho : o.op = .call { callee := .builtin .append, args := #[s, x], argTypes := #[22, 22] })
    (v : Value) (l news : List Int) (hs : a.eval s = v) (hcs : cs = (nums .i64 news).toArray) (hx : a.eval x = .slice (some ⟨W.heap.size, 0, none⟩) news.length news.length) (HO : OwnN .i64 3 W base v l) (HB : Below base w0 W) (hbase : base ≤ W.heap.size) (hl : l.length + news.length ≤ 1000000)
    (h : ∀ v1 w1, OwnN .i64 3 w1 base v1 (l ++ news) → Below base w0 w1 → wpList Try.prog ops Q rest (a.put o.dst v1) w1) : wpList Try.prog ops Q (o :: rest) a (W.alloc (.cells cs 3)) := by
  have hr : Reads (W.alloc (.cells cs 3)) (W.heap.size + 1) 1 (some ⟨W.heap.size, 0, none⟩) news.length (nums .i64 news) := by
    subst hcs
    refine ⟨by simp [nums], fun h => ⟨W.heap.size, 0, rfl, by omega, fun j u hu => ?_⟩⟩
    rw [Nat.zero_add, World.cell?_alloc_mark]
    simpa using hu
  refine app_own (w0 := w0) base hgd s x 22 3 (.int .i64 0) 8 ho Try.underlying22 1 info_int rfl (by omega) (by omega) v (nums .i64 l) l.length hs (W.heap.size + 1) _ _ _ (nums .i64 news) hx (World.ownsRow.alloc HO _) hr (nums_one_cell .i64 news) (HB.alloc hbase _) (by simp; omega) (by omega) ?_
  intro v1 w1 ho1 hB1 _ _
  refine h v1 w1 ?_ hB1
  unfold OwnN
  rw [List.length_append, nums_append]
  exact ho1
/-- The same as one step of a region that draws its order. -/
theorem step_litsI {ops : Array Oper} {o : Oper} {a : Act} {K : Act → World → Prop} {Q : Exit → Act → World → Prop} {E : Prop} {W : World} {cs : Array Value} (base : Nat) (hgd : o.guard = none) (s x : Operand)
    (ho : o.op = .call { callee := .builtin .append, args := #[s, x], argTypes := #[22, 22] })
    (v : Value) (l news : List Int) (hs : a.eval s = v) (hcs : cs = (nums .i64 news).toArray) (hx : a.eval x = .slice (some ⟨W.heap.size, 0, none⟩) news.length news.length) (HO : OwnN .i64 3 W base v l) (hbase : base ≤ W.heap.size) (hl : l.length + news.length ≤ 1000000)
    (h : ∀ v1 w1, OwnN .i64 3 w1 base v1 (l ++ news) → Below base W w1 → K (a.put o.dst v1) w1) :
    if Region.wanted o (yielded ops a.tmps) = true then Oper.wp Try.prog o a (W.alloc (.cells cs 3)) K Q else E := by
  have hr : Reads (W.alloc (.cells cs 3)) (W.heap.size + 1) 1 (some ⟨W.heap.size, 0, none⟩) news.length (nums .i64 news) := by
    subst hcs
    refine ⟨by simp [nums], fun h => ⟨W.heap.size, 0, rfl, by omega, fun j u hu => ?_⟩⟩
    rw [Nat.zero_add, World.cell?_alloc_mark]
    simpa using hu
  obtain ⟨i0, hi, hz0, hz1, hz2⟩ := info_parts info_int
  have hO := World.ownsRow.alloc HO (.cells cs 3)
  refine step_append_any _ hgd s x 22 ho base 3 i0 (.int .i64 0) 1 8 Try.underlying22 hi hz0 hz1 hz2 rfl (by omega) v l.length (nums .i64 l) hs hO (W.heap.size + 1) _ _ _ (nums .i64 news) hx hr (nums_one_cell .i64 news) (by simp only [maxLen]; omega) (by omega) (by simp; omega) ?_
  intro v1 w1 ho1 hg _
  refine h v1 w1 ?_ (((Below.refl base W).alloc hbase _).grown hg (by simp; omega) (own_base HO))
  unfold OwnN
  rw [List.length_append, nums_append]
  exact ho1
end Go.Proofs.Ytnpodnieahokjaa
