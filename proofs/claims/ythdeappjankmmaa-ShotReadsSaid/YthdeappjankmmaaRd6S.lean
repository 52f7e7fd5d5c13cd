/- The document reads a snapshot: what stands in memory. -/
import Derived.Test.YthdeappjankmmaaSdS
import Derived.Test.YthdeappjankmmaaRefS
namespace Go.Proofs.Ythdeappjankmmaa
set_option maxRecDepth 100000
open Go.RowKit

theorem grown_any {w wx w1 : World} {gr : Nat} {r : Option Nat} (h : w.grownBy wx (some gr)) (hb : wx.grownBy w1 r) (hr : ∀ j, r = some j → j = gr ∨ w.heap.size ≤ j) : w.grownBy w1 (some gr) :=
  ⟨hb.os.trans h.os, hb.tape.trans h.tape, hb.output.trans h.output, Nat.le_trans h.size hb.size, fun i hi hn => (hb.block i (Nat.lt_of_lt_of_le hi h.size) (fun hh => by
    rcases hr i hh.symm with h1 | h1
    · exact hn (by rw [h1])
    · omega)).trans (h.block i hi hn)⟩
theorem RS.grown {w w1 : World} {gr : Nat} {A : Option Addr} {c : Nat} {LB : List Int} {K : Nat} {lb : List Int} {k : Nat} {e : Int} {row : Option Nat} (h : RS w gr A c LB K lb k e) (hg : w.grownBy w1 row) (hne : some gr ≠ row) : RS w1 gr A c LB K lb k e := by
  obtain ⟨hl, k', h1, h2⟩ := h
  exact ⟨hl, k', h1.grown hg hne, h2⟩
/-- append(v, x): one struct, in a block just made. -/
theorem one_own {α : Type} {f : α → List Value} {s bytes : Nat} {T E : TypeId} {z0 : Value} {W : World} (hT : Try.prog.underlying T = some (.slice E)) (hinfo : (Try.prog.info? E).map (fun i => (i.zero, i.size, i.bytes)) = some (some z0, s, bytes)) (hz : z0.cells.size = s) (hs0 : 0 < s) (hfl : ∀ x, (f x).length = s) (hone : ∀ x, ∀ u ∈ f x, u.oneCell' = true)
    {ops : Array Oper} {rest : List Oper} {o : Oper} {a : Act} {Q : Exit → Act → World → Prop} {cs : Array Value} (base : Nat) (hgd : o.guard = none) (sx x : Operand)
    (ho : o.op = .call { callee := .builtin .append, args := #[sx, x], argTypes := #[T, T] })
    (v : Value) (l : List α) (y : α) (hs : a.eval sx = v) (hcs : cs = (f y).toArray) (hx : a.eval x = .slice (some ⟨W.heap.size, 0, none⟩) 1 1) (HO : W.ownsRow base E s v l.length (l.flatMap f)) (hbase : base ≤ W.heap.size) (hl : (l.length + 1) * bytes ≤ 1000000) (hb1 : 1 ≤ bytes)
    (h : ∀ v1 w1, w1.ownsRow base E s v1 (l ++ [y]).length ((l ++ [y]).flatMap f) → W.grownBy w1 v.ownBlock → wpList Try.prog ops Q rest (a.put o.dst v1) w1) :
    wpList Try.prog ops Q (o :: rest) a (W.alloc (.cells cs E)) := by
  have hr : Reads (W.alloc (.cells cs E)) (W.heap.size + 1) s (some ⟨W.heap.size, 0, none⟩) 1 (f y) := by
    subst hcs
    refine ⟨by rw [hfl, Nat.one_mul], fun _ => ⟨W.heap.size, 0, rfl, by omega, fun j u hu => ?_⟩⟩
    rw [Nat.zero_add, World.cell?_alloc_mark]
    simpa using hu
  obtain ⟨i0, hi, hz0, hz1, hz2⟩ := info_parts hinfo
  have hO := World.ownsRow.alloc HO (.cells cs E)
  have hlen : l.length + 1 ≤ (l.length + 1) * bytes := Nat.le_mul_of_pos_right _ hb1
  refine wpList_append_any _ hgd sx x T ho base E i0 z0 s bytes hT hi hz0 hz1 hz2 hz hs0 v l.length (l.flatMap f) hs hO (W.heap.size + 1) _ _ _ (f y) hx hr (hone y) (by simp only [maxLen]; omega) (by omega) (by simp; omega) ?_
  intro v1 w1 ho1 hg _
  refine h v1 w1 ?_ (World.grownBy.trans (World.grownBy_alloc W _ _) hg)
  rw [List.length_append, List.length_singleton, List.flatMap_append, List.flatMap_singleton]
  exact ho1
theorem dHd_err {lb : List Int} {k : Nat} {e : Int} (he : e ≠ 0) : (dHd lb k e).2 = (k, e) := by
  unfold dHd
  simp only [rnum_err he]
theorem dLs_err {lb : List Int} {k : Nat} {e : Int} (he : e ≠ 0) : (dLs lb k e).2 = (k, e) := by
  unfold dLs
  simp only [rnum_err he]
theorem decH_err {lb : List Int} {e : Int} (he : e ≠ 0) : ∀ (c k : Nat), (decH lb c k e).2.2 = e := by
  intro c
  induction c with
  | zero => intro k; rfl
  | succ c ih =>
    intro k
    simp only [decH]
    rw [dHd_err he]
    exact ih k
theorem decL_err {lb : List Int} {e : Int} (he : e ≠ 0) : ∀ (c k : Nat), (decL lb c k e).2.2 = e := by
  intro c
  induction c with
  | zero => intro k; rfl
  | succ c ih =>
    intro k
    simp only [decL]
    rw [dLs_err he]
    exact ih k
structure S6o (w : World) (g gr gs B : Nat) : Prop where
  h1 : gr < g
  h2 : g < gs
  h3 : gs < B
  hg : w.heap.size = g
structure S6 (w : World) (g gr gs B : Nat) (A : Option Addr) (c : Nat) (LB : List Int) (K : Nat) (lb : List Int) (wx : World) (i t : Int) (sn : Value) (ns : List Int) (lim nxt : Int) (sh : Value) (hs : List Hd) (sl : Value) (ls : List Ls) (k : Nat) (e : Int) : Prop where
  res : Blk wx g 29 (shC 0 0 (.slice none 0 0) 0 0 (.slice none 0 0) (.slice none 0 0))
  rd : RS wx gr A c LB K lb k e
  cm : Blk wx gs 29 (shC i t sn lim nxt sh sl)
  grow : w.grownBy wx (some gr)
  sz : B ≤ wx.heap.size
  on : OwnN .i64 3 wx B sn ns
  oh : wx.ownsRow B 54 5 sh hs.length (hs.flatMap hdC)
  ol : wx.ownsRow B 61 6 sl ls.length (ls.flatMap lsC)
section
variable {w : World} {g gr gs B : Nat} {A : Option Addr} {c : Nat} {LB : List Int} {K : Nat} {lb : List Int} {wx : World} {i t : Int} {sn : Value} {ns : List Int} {lim nxt : Int} {sh : Value} {hs : List Hd} {sl : Value} {ls : List Ls} {k : Nat} {e : Int}
theorem S6.drew (h : S6 w g gr gs B A c LB K lb wx i t sn ns lim nxt sh hs sl ls k e) : S6 w g gr gs B A c LB K lb wx.drew i t sn ns lim nxt sh hs sl ls k e :=
  ⟨h.res, h.rd, h.cm, only_drew h.grow, h.sz, h.on, h.oh, h.ol⟩
/-- Behind a call of the reader. -/
theorem S6.call (h : S6 w g gr gs B A c LB K lb wx i t sn ns lim nxt sh hs sl ls k e) (o : S6o w g gr gs B) {w1 : World} {k1 : Nat} {e1 : Int} (hr : RS w1 gr A c LB K lb k1 e1) (hg : wx.grownBy w1 (some gr)) :
    S6 w g gr gs B A c LB K lb w1 i t sn ns lim nxt sh hs sl ls k1 e1 := by
  have o1 := o.h1
  have o2 := o.h2
  have o3 := o.h3
  have o4 := o.hg
  have hz := h.sz
  have hne : ∀ j, j ≠ gr → some j ≠ some gr := fun j hj hh => hj (by injection hh)
  exact ⟨h.res.grown hg (hne _ (by omega)), hr, h.cm.grown hg (hne _ (by omega)), grown_any h.grow hg (fun j hj => by injection hj with hj; omega), Nat.le_trans h.sz hg.size,
    kept_gr h.on hg (by omega), kept_gr h.oh hg (by omega), kept_gr h.ol hg (by omega)⟩
/-- A cell of the snapshot is set; its rows are what they are. -/
theorem S6.setc (h : S6 w g gr gs B A c LB K lb wx i t sn ns lim nxt sh hs sl ls k e) (o : S6o w g gr gs B) (j : Nat) (u : Value) {i' t' lim' nxt' : Int} {sn' sh' sl' : Value}
    (hcs : ([Value.int .u64 i, .int .u64 t, sn, .int .i64 lim, .int .u64 nxt, sh, sl].set j u).toArray = shC i' t' sn' lim' nxt' sh' sl') {ns' : List Int} {hs' : List Hd} {ls' : List Ls}
    (on : OwnN .i64 3 wx B sn' ns') (oh : wx.ownsRow B 54 5 sh' hs'.length (hs'.flatMap hdC)) (ol : wx.ownsRow B 61 6 sl' ls'.length (ls'.flatMap lsC)) :
    S6 w g gr gs B A c LB K lb (wx.setCell ⟨gs, j, none⟩ u) i' t' sn' ns' lim' nxt' sh' hs' sl' ls' k e := by
  have o1 := o.h1
  have o2 := o.h2
  have o3 := o.h3
  have o4 := o.hg
  have hz := h.sz
  have hg : wx.grownBy (wx.setCell ⟨gs, j, none⟩ u) (some gs) := only_setCell (p := ⟨gs, j, none⟩) (World.grownBy.refl wx (some gs)) (.inl rfl) u
  have hne : ∀ j, j ≠ gs → some j ≠ some gs := fun j hj hh => hj (by injection hh)
  exact ⟨h.res.grown hg (hne _ (by omega)), h.rd.grown hg (hne _ (by omega)), hcs ▸ Blk.setL (l := [Value.int .u64 i, .int .u64 t, sn, .int .i64 lim, .int .u64 nxt, sh, sl]) h.cm j u, grown_any h.grow hg (fun j hj => by injection hj with hj; omega),
    Nat.le_trans h.sz hg.size, kept_gr on hg o3, kept_gr oh hg o3, kept_gr ol hg o3⟩
/-- Behind an append to one of the rows (the others' blocks are of other kinds). -/
theorem S6.appN (h : S6 w g gr gs B A c LB K lb wx i t sn ns lim nxt sh hs sl ls k e) (o : S6o w g gr gs B) {w1 : World} {v1 : Value} {ns1 : List Int} (hg : wx.grownBy w1 sn.ownBlock) (ho : OwnN .i64 3 w1 B v1 ns1) :
    S6 w g gr gs B A c LB K lb (w1.setCell ⟨gs, 2, none⟩ v1) i t v1 ns1 lim nxt sh hs sl ls k e := by
  have o1 := o.h1
  have o2 := o.h2
  have o3 := o.h3
  have o4 := o.hg
  have hz := h.sz
  have hb := own_base h.on
  have hne : ∀ j, j < B → some j ≠ sn.ownBlock := fun j hj hh => by have := hb j hh.symm; omega
  have hoh : w1.ownsRow B 54 5 sh hs.length (hs.flatMap hdC) := h.oh.kept hg (by
    cases hv : sh.ownBlock with
    | none => exact .inl rfl
    | some b => exact .inr (fun hh => own_own_ne h.on h.oh t_ih hv hh.symm))
  have hol : w1.ownsRow B 61 6 sl ls.length (ls.flatMap lsC) := h.ol.kept hg (by
    cases hv : sl.ownBlock with
    | none => exact .inl rfl
    | some b => exact .inr (fun hh => own_own_ne h.on h.ol t_il hv hh.symm))
  have hg2 : w1.grownBy (w1.setCell ⟨gs, 2, none⟩ v1) (some gs) := only_setCell (p := ⟨gs, 2, none⟩) (World.grownBy.refl w1 (some gs)) (.inl rfl) v1
  have hne2 : ∀ j, j ≠ gs → some j ≠ some gs := fun j hj hh => hj (by injection hh)
  have hbel : w.grownBy w1 (some gr) := grown_any h.grow hg (fun j hj => by have := hb j hj; omega)
  exact ⟨(h.res.grown hg (hne _ (by omega))).grown hg2 (hne2 _ (by omega)), (h.rd.grown hg (hne _ (by omega))).grown hg2 (hne2 _ (by omega)), Blk.setL (l := [Value.int .u64 i, .int .u64 t, sn, .int .i64 lim, .int .u64 nxt, sh, sl]) (h.cm.grown hg (hne _ (by omega))) 2 v1,
    grown_any hbel hg2 (fun j hj => by injection hj with hj; omega), Nat.le_trans (Nat.le_trans h.sz hg.size) hg2.size, kept_gr ho hg2 o3, kept_gr hoh hg2 o3, kept_gr hol hg2 o3⟩
theorem S6.appH (h : S6 w g gr gs B A c LB K lb wx i t sn ns lim nxt sh hs sl ls k e) (o : S6o w g gr gs B) {w1 : World} {v1 : Value} {hs1 : List Hd} (hg : wx.grownBy w1 sh.ownBlock) (ho : w1.ownsRow B 54 5 v1 hs1.length (hs1.flatMap hdC)) :
    S6 w g gr gs B A c LB K lb (w1.setCell ⟨gs, 5, none⟩ v1) i t sn ns lim nxt v1 hs1 sl ls k e := by
  have o1 := o.h1
  have o2 := o.h2
  have o3 := o.h3
  have o4 := o.hg
  have hz := h.sz
  have hb := own_base h.oh
  have hne : ∀ j, j < B → some j ≠ sh.ownBlock := fun j hj hh => by have := hb j hh.symm; omega
  have hon : OwnN .i64 3 w1 B sn ns := World.ownsRow.kept h.on hg (by
    cases hv : sn.ownBlock with
    | none => exact .inl rfl
    | some b => exact .inr (fun hh => own_own_ne h.oh h.on t_ih.symm hv hh.symm))
  have hol : w1.ownsRow B 61 6 sl ls.length (ls.flatMap lsC) := h.ol.kept hg (by
    cases hv : sl.ownBlock with
    | none => exact .inl rfl
    | some b => exact .inr (fun hh => own_own_ne h.oh h.ol t_hl hv hh.symm))
  have hg2 : w1.grownBy (w1.setCell ⟨gs, 5, none⟩ v1) (some gs) := only_setCell (p := ⟨gs, 5, none⟩) (World.grownBy.refl w1 (some gs)) (.inl rfl) v1
  have hne2 : ∀ j, j ≠ gs → some j ≠ some gs := fun j hj hh => hj (by injection hh)
  have hbel : w.grownBy w1 (some gr) := grown_any h.grow hg (fun j hj => by have := hb j hj; omega)
  exact ⟨(h.res.grown hg (hne _ (by omega))).grown hg2 (hne2 _ (by omega)), (h.rd.grown hg (hne _ (by omega))).grown hg2 (hne2 _ (by omega)), Blk.setL (l := [Value.int .u64 i, .int .u64 t, sn, .int .i64 lim, .int .u64 nxt, sh, sl]) (h.cm.grown hg (hne _ (by omega))) 5 v1,
    grown_any hbel hg2 (fun j hj => by injection hj with hj; omega), Nat.le_trans (Nat.le_trans h.sz hg.size) hg2.size, kept_gr hon hg2 o3, kept_gr ho hg2 o3, kept_gr hol hg2 o3⟩
theorem S6.appL (h : S6 w g gr gs B A c LB K lb wx i t sn ns lim nxt sh hs sl ls k e) (o : S6o w g gr gs B) {w1 : World} {v1 : Value} {ls1 : List Ls} (hg : wx.grownBy w1 sl.ownBlock) (ho : w1.ownsRow B 61 6 v1 ls1.length (ls1.flatMap lsC)) :
    S6 w g gr gs B A c LB K lb (w1.setCell ⟨gs, 6, none⟩ v1) i t sn ns lim nxt sh hs v1 ls1 k e := by
  have o1 := o.h1
  have o2 := o.h2
  have o3 := o.h3
  have o4 := o.hg
  have hz := h.sz
  have hb := own_base h.ol
  have hne : ∀ j, j < B → some j ≠ sl.ownBlock := fun j hj hh => by have := hb j hh.symm; omega
  have hon : OwnN .i64 3 w1 B sn ns := World.ownsRow.kept h.on hg (by
    cases hv : sn.ownBlock with
    | none => exact .inl rfl
    | some b => exact .inr (fun hh => own_own_ne h.ol h.on t_il.symm hv hh.symm))
  have hoh : w1.ownsRow B 54 5 sh hs.length (hs.flatMap hdC) := h.oh.kept hg (by
    cases hv : sh.ownBlock with
    | none => exact .inl rfl
    | some b => exact .inr (fun hh => own_own_ne h.ol h.oh t_hl.symm hv hh.symm))
  have hg2 : w1.grownBy (w1.setCell ⟨gs, 6, none⟩ v1) (some gs) := only_setCell (p := ⟨gs, 6, none⟩) (World.grownBy.refl w1 (some gs)) (.inl rfl) v1
  have hne2 : ∀ j, j ≠ gs → some j ≠ some gs := fun j hj hh => hj (by injection hh)
  have hbel : w.grownBy w1 (some gr) := grown_any h.grow hg (fun j hj => by have := hb j hj; omega)
  exact ⟨(h.res.grown hg (hne _ (by omega))).grown hg2 (hne2 _ (by omega)), (h.rd.grown hg (hne _ (by omega))).grown hg2 (hne2 _ (by omega)), Blk.setL (l := [Value.int .u64 i, .int .u64 t, sn, .int .i64 lim, .int .u64 nxt, sh, sl]) (h.cm.grown hg (hne _ (by omega))) 6 v1,
    grown_any hbel hg2 (fun j hj => by injection hj with hj; omega), Nat.le_trans (Nat.le_trans h.sz hg.size) hg2.size, kept_gr hon hg2 o3, kept_gr hoh hg2 o3, kept_gr ho hg2 o3⟩
/-- A cell of a block apart is set. -/
theorem S6.setX (h : S6 w g gr gs B A c LB K lb wx i t sn ns lim nxt sh hs sl ls k e) (o : S6o w g gr gs B) {gx : Nat} (hx : B ≤ gx) (n1 : sn.ownBlock ≠ some gx) (n2 : sh.ownBlock ≠ some gx) (n3 : sl.ownBlock ≠ some gx) (j : Nat) (u : Value) :
    S6 w g gr gs B A c LB K lb (wx.setCell ⟨gx, j, none⟩ u) i t sn ns lim nxt sh hs sl ls k e := by
  have o1 := o.h1
  have o2 := o.h2
  have o3 := o.h3
  have o4 := o.hg
  have hz := h.sz
  have hg : wx.grownBy (wx.setCell ⟨gx, j, none⟩ u) (some gx) := only_setCell (p := ⟨gx, j, none⟩) (World.grownBy.refl wx (some gx)) (.inl rfl) u
  have hne : ∀ j, j ≠ gx → some j ≠ some gx := fun j hj hh => hj (by injection hh)
  refine ⟨h.res.grown hg (hne _ (by omega)), h.rd.grown hg (hne _ (by omega)), h.cm.grown hg (hne _ (by omega)), grown_any h.grow hg (fun j hj => by injection hj with hj; omega), Nat.le_trans h.sz hg.size, World.ownsRow.kept h.on hg (.inr n1), h.oh.kept hg (.inr n2), h.ol.kept hg (.inr n3)⟩
theorem S6.below (h : S6 w g gr gs B A c LB K lb wx i t sn ns lim nxt sh hs sl ls k e) (o : S6o w g gr gs B) {w1 : World} (hb : Below wx.heap.size wx w1) : S6 w g gr gs B A c LB K lb w1 i t sn ns lim nxt sh hs sl ls k e := by
  have o1 := o.h1
  have o2 := o.h2
  have o3 := o.h3
  have o4 := o.hg
  have hz := h.sz
  exact ⟨h.res.below hb (by omega), h.rd.below hb (by omega), h.cm.below hb (by omega), grown_below h.grow hb (by omega), Nat.le_trans hz hb.size, own_below h.on hb, own_below h.oh hb, own_below h.ol hb⟩
theorem S6.alloc (h : S6 w g gr gs B A c LB K lb wx i t sn ns lim nxt sh hs sl ls k e) (o : S6o w g gr gs B) (ob : Obj) : S6 w g gr gs B A c LB K lb (wx.alloc ob) i t sn ns lim nxt sh hs sl ls k e :=
  h.below o ((Below.refl _ _).alloc (Nat.le_refl _) _)
theorem S6.num (h : S6 w g gr gs B A c LB K lb wx i t sn ns lim nxt sh hs sl ls k e) (o : S6o w g gr gs B) (hI : ∀ W, w.grownBy W (some gr) → In8 W A c LB) :
    Calls Try.prog 49 #[.pointer (some ⟨gr, 0, none⟩)] wx fun x w' => x = .returned (.int .u64 (rnum lb k e 18446744073709551615).1) ∧
      S6 w g gr gs B A c LB K lb w' i t sn ns lim nxt sh hs sl ls (rnum lb k e 18446744073709551615).2.1 (rnum lb k e 18446744073709551615).2.2 :=
  (refR_NumS wx gr A c LB K lb k e (hI _ h.grow) h.rd).mono fun _ _ ⟨hx, hr, hg⟩ => ⟨hx, h.call o hr hg⟩
theorem S6.small (h : S6 w g gr gs B A c LB K lb wx i t sn ns lim nxt sh hs sl ls k e) (o : S6o w g gr gs B) (hI : ∀ W, w.grownBy W (some gr) → In8 W A c LB) (most : Int) (hm : most = 64 ∨ most = 65535) :
    Calls Try.prog 50 #[.pointer (some ⟨gr, 0, none⟩), .int .i64 most] wx fun x w' => x = .returned (.int .i64 (rnum lb k e most).1) ∧
      S6 w g gr gs B A c LB K lb w' i t sn ns lim nxt sh hs sl ls (rnum lb k e most).2.1 (rnum lb k e most).2.2 := by
  obtain ⟨m, rfl⟩ : ∃ m : Nat, most = m := ⟨most.toNat, by omega⟩
  exact (refR_Small wx gr A c LB K lb k e m (by omega) (hI _ h.grow) h.rd).mono fun _ _ ⟨hx, hr, hg⟩ => ⟨hx, h.call o hr hg⟩
theorem S6.numB (h : S6 w g gr gs B A c LB K lb wx i t sn ns lim nxt sh hs sl ls k e) (o : S6o w g gr gs B) (hI : ∀ W, w.grownBy W (some gr) → In8 W A c LB) {gx : Nat} {T : TypeId} {cs : Array Value} (hx : Blk wx gx T cs) (hne : gx ≠ gr) :
    Calls Try.prog 49 #[.pointer (some ⟨gr, 0, none⟩)] wx fun x w' => x = .returned (.int .u64 (rnum lb k e 18446744073709551615).1) ∧
      S6 w g gr gs B A c LB K lb w' i t sn ns lim nxt sh hs sl ls (rnum lb k e 18446744073709551615).2.1 (rnum lb k e 18446744073709551615).2.2 ∧ Blk w' gx T cs :=
  (refR_NumS wx gr A c LB K lb k e (hI _ h.grow) h.rd).mono fun _ _ ⟨hx2, hr, hg⟩ => ⟨hx2, h.call o hr hg, hx.grown hg (fun hh => by injection hh with hh; exact hne hh)⟩
theorem S6.smallB (h : S6 w g gr gs B A c LB K lb wx i t sn ns lim nxt sh hs sl ls k e) (o : S6o w g gr gs B) (hI : ∀ W, w.grownBy W (some gr) → In8 W A c LB) {gx : Nat} {T : TypeId} {cs : Array Value} (hx : Blk wx gx T cs) (hne : gx ≠ gr) :
    Calls Try.prog 50 #[.pointer (some ⟨gr, 0, none⟩), .int .i64 65535] wx fun x w' => x = .returned (.int .i64 (rnum lb k e 65535).1) ∧
      S6 w g gr gs B A c LB K lb w' i t sn ns lim nxt sh hs sl ls (rnum lb k e 65535).2.1 (rnum lb k e 65535).2.2 ∧ Blk w' gx T cs :=
  (refR_Small wx gr A c LB K lb k e 65535 (by omega) (hI _ h.grow) h.rd).mono fun _ _ ⟨hx2, hr, hg⟩ => ⟨hx2, h.call o hr hg, hx.grown hg (fun hh => by injection hh with hh; exact hne hh)⟩
end
end Go.Proofs.Ythdeappjankmmaa
