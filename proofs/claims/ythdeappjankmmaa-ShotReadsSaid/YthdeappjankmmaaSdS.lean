/- Snapshots read: what is read (plain), and what stands in memory while the code reads. -/
import Derived.Test.YthdeappjankmmaaSdN
namespace Go.Proofs.Ythdeappjankmmaa
set_option maxRecDepth 100000
open Go.RowKit

/-! ### Plain -/
/-- A row of Held. -/
def dHd (lb : List Int) (k : Nat) (e : Int) : Hd × Nat × Int :=
  let a := rnum lb k e 65535
  let b := rnum lb a.2.1 a.2.2 65535
  let c := rnum lb b.2.1 b.2.2 18446744073709551615
  let d := rnum lb c.2.1 c.2.2 18446744073709551615
  let f := rnum lb d.2.1 d.2.2 18446744073709551615
  (⟨a.1, b.1, c.1, d.1, f.1⟩, f.2)
def decH (lb : List Int) : Nat → Nat → Int → List Hd × Nat × Int
  | 0, k, e => ([], k, e)
  | c + 1, k, e => ((dHd lb k e).1 :: (decH lb c (dHd lb k e).2.1 (dHd lb k e).2.2).1, (decH lb c (dHd lb k e).2.1 (dHd lb k e).2.2).2)
/-- A row of Last. -/
def dLs (lb : List Int) (k : Nat) (e : Int) : Ls × Nat × Int :=
  let a := rnum lb k e 65535
  let b := rnum lb a.2.1 a.2.2 18446744073709551615
  let c := rnum lb b.2.1 b.2.2 18446744073709551615
  let d := rnum lb c.2.1 c.2.2 65535
  let f := rnum lb d.2.1 d.2.2 65535
  let g := rnum lb f.2.1 f.2.2 18446744073709551615
  (⟨a.1, b.1, c.1, d.1, f.1, g.1⟩, g.2)
def decL (lb : List Int) : Nat → Nat → Int → List Ls × Nat × Int
  | 0, k, e => ([], k, e)
  | c + 1, k, e => ((dLs lb k e).1 :: (decL lb c (dLs lb k e).2.1 (dLs lb k e).2.2).1, (decL lb c (dLs lb k e).2.1 (dLs lb k e).2.2).2)
def sI (lb : List Int) := rnum lb 1 0 18446744073709551615
def sT (lb : List Int) := rnum lb (sI lb).2.1 (sI lb).2.2 18446744073709551615
def sCn (lb : List Int) := rnum lb (sT lb).2.1 (sT lb).2.2 64
def sNs (lb : List Int) := decNodes lb (sCn lb).1.toNat (sCn lb).2.1 (sCn lb).2.2
def sLim (lb : List Int) := rnum lb (sNs lb).2.1 (sNs lb).2.2 65535
def sNxt (lb : List Int) := rnum lb (sLim lb).2.1 (sLim lb).2.2 18446744073709551615
def sCh (lb : List Int) := rnum lb (sNxt lb).2.1 (sNxt lb).2.2 64
def sHs (lb : List Int) := decH lb (sCh lb).1.toNat (sCh lb).2.1 (sCh lb).2.2
def sCl (lb : List Int) := rnum lb (sHs lb).2.1 (sHs lb).2.2 64
def sLs (lb : List Int) := decL lb (sCl lb).1.toNat (sCl lb).2.1 (sCl lb).2.2
/-- The reader's error in the end. -/
def sE1 (lb : List Int) : Int := if (sLs lb).2.2 = 0 ∧ (sLs lb).2.1 < lb.length then 11 else (sLs lb).2.2
/-- The error of the whole. -/
noncomputable def sE (lb : List Int) : Int :=
  if 8192 < lb.length then 2 else if lb.length = 0 then 10 else if lb.head? ≠ some 83 then 11
  else if sE1 lb = 0 then errShot (decide (ShotOk (sI lb).1 (sT lb).1 (sNs lb).1 (sLim lb).1 (sNxt lb).1 (sHs lb).1 (sLs lb).1)) else sE1 lb

/-! ### In memory -/
theorem own_own_ne {w : World} {base base' : Nat} {e e' : TypeId} {s s' n n' : Nat} {v v' : Value} {xs xs' : List Value} (h : w.ownsRow base e s v n xs) (h' : w.ownsRow base' e' s' v' n' xs') (hne : e ≠ e') {b : Nat} (hb : v'.ownBlock = some b) : v.ownBlock ≠ some b := by
  rcases h'.2 with ⟨rfl, _⟩ | ⟨g', cap, cur, rfl, _, hh, _⟩
  · simp [Value.ownBlock] at hb
  · simp only [Value.ownBlock, Option.some.injEq] at hb
    subst hb
    exact own_blk_ne h hh hne
structure SDo (g gr gs B : Nat) : Prop where
  h1 : g < gr
  h2 : gr < gs
  h3 : gs < B
structure SD (w : World) (g gr gs B : Nat) (A0 : Option Addr) (c0 : Nat) (lb : List Int) (wx : World) (i t : Int) (sn : Value) (ns : List Int) (lim nxt : Int) (sh : Value) (hs : List Hd) (sl : Value) (ls : List Ls) (k : Nat) (e : Int) : Prop where
  res : Blk wx g 29 (shC 0 0 (.slice none 0 0) 0 0 (.slice none 0 0) (.slice none 0 0))
  rd : RC wx gr A0 c0 lb k e
  cm : Blk wx gs 29 (shC i t sn lim nxt sh sl)
  bel : Below g w wx
  sz : B ≤ wx.heap.size
  on : OwnN .i64 3 wx B sn ns
  oh : wx.ownsRow B 54 5 sh hs.length (hs.flatMap hdC)
  ol : wx.ownsRow B 61 6 sl ls.length (ls.flatMap lsC)
theorem t_ih : (3 : TypeId) ≠ 54 := by decide
theorem t_il : (3 : TypeId) ≠ 61 := by decide
theorem t_hl : (54 : TypeId) ≠ 61 := by decide
theorem kept_gr {w w1 : World} {B b n s : Nat} {e : TypeId} {v : Value} {xs : List Value} (h : w.ownsRow B e s v n xs) (hg : w.grownBy w1 (some b)) (hb : b < B) : w1.ownsRow B e s v n xs := by
  refine h.kept hg ?_
  cases hv : v.ownBlock with
  | none => exact .inl rfl
  | some i =>
    have := own_base h i hv
    exact .inr (fun hh => by injection hh with hh; omega)

section
variable {w : World} {g gr gs B : Nat} {A0 : Option Addr} {c0 : Nat} {lb : List Int} {wx : World} {i t : Int} {sn : Value} {ns : List Int} {lim nxt : Int} {sh : Value} {hs : List Hd} {sl : Value} {ls : List Ls} {k : Nat} {e : Int}
theorem SD.drew (h : SD w g gr gs B A0 c0 lb wx i t sn ns lim nxt sh hs sl ls k e) : SD w g gr gs B A0 c0 lb wx.drew i t sn ns lim nxt sh hs sl ls k e :=
  ⟨h.res, h.rd, h.cm, h.bel.drew, h.sz, h.on, h.oh, h.ol⟩
/-- Behind a call of the reader. -/
theorem SD.call (h : SD w g gr gs B A0 c0 lb wx i t sn ns lim nxt sh hs sl ls k e) (o : SDo g gr gs B) {w1 : World} {k1 : Nat} {e1 : Int} (hr : RC w1 gr A0 c0 lb k1 e1) (hg : wx.grownBy w1 (some gr)) :
    SD w g gr gs B A0 c0 lb w1 i t sn ns lim nxt sh hs sl ls k1 e1 := by
  have o1 := o.h1
  have o2 := o.h2
  have o3 := o.h3
  have hz := h.sz
  have hne : ∀ j, j ≠ gr → some j ≠ some gr := fun j hj hh => hj (by injection hh)
  exact ⟨h.res.grown hg (hne _ (by omega)), hr, h.cm.grown hg (hne _ (by omega)), h.bel.grown hg (by omega) (fun j hj => by injection hj with hj; omega), Nat.le_trans h.sz hg.size,
    kept_gr h.on hg (by omega), kept_gr h.oh hg (by omega), kept_gr h.ol hg (by omega)⟩
theorem SD.wide (h : SD w g gr gs B A0 c0 lb wx i t sn ns lim nxt sh hs sl ls k e) (o : SDo g gr gs B) (hI : ∀ W, Below g w W → In8 W A0 c0 lb) :
    Calls Try.prog 35 #[.pointer (some ⟨gr, 0, none⟩)] wx fun x w' => x = .returned (.int .u64 (rnum lb k e 18446744073709551615).1) ∧
      SD w g gr gs B A0 c0 lb w' i t sn ns lim nxt sh hs sl ls (rnum lb k e 18446744073709551615).2.1 (rnum lb k e 18446744073709551615).2.2 :=
  (swide_any wx gr A0 c0 lb k e (hI _ h.bel) h.rd).mono fun _ _ ⟨hx, hr, hg⟩ => ⟨hx, h.call o hr hg⟩
theorem SD.many (h : SD w g gr gs B A0 c0 lb wx i t sn ns lim nxt sh hs sl ls k e) (o : SDo g gr gs B) (hI : ∀ W, Below g w W → In8 W A0 c0 lb) :
    Calls Try.prog 36 #[.pointer (some ⟨gr, 0, none⟩)] wx fun x w' => x = .returned (.int .u64 (rnum lb k e 64).1) ∧
      SD w g gr gs B A0 c0 lb w' i t sn ns lim nxt sh hs sl ls (rnum lb k e 64).2.1 (rnum lb k e 64).2.2 :=
  (smany_any wx gr A0 c0 lb k e (hI _ h.bel) h.rd).mono fun _ _ ⟨hx, hr, hg⟩ => ⟨hx, h.call o hr hg⟩
theorem SD.small (h : SD w g gr gs B A0 c0 lb wx i t sn ns lim nxt sh hs sl ls k e) (o : SDo g gr gs B) (hI : ∀ W, Below g w W → In8 W A0 c0 lb) :
    Calls Try.prog 37 #[.pointer (some ⟨gr, 0, none⟩)] wx fun x w' => x = .returned (.int .i64 (rnum lb k e 65535).1) ∧
      SD w g gr gs B A0 c0 lb w' i t sn ns lim nxt sh hs sl ls (rnum lb k e 65535).2.1 (rnum lb k e 65535).2.2 :=
  (ssmall_any wx gr A0 c0 lb k e (hI _ h.bel) h.rd).mono fun _ _ ⟨hx, hr, hg⟩ => ⟨hx, h.call o hr hg⟩
/-- A cell of the snapshot is set; its rows are what they are. -/
theorem SD.setc (h : SD w g gr gs B A0 c0 lb wx i t sn ns lim nxt sh hs sl ls k e) (o : SDo g gr gs B) (j : Nat) (u : Value) {i' t' lim' nxt' : Int} {sn' sh' sl' : Value}
    (hcs : ([Value.int .u64 i, .int .u64 t, sn, .int .i64 lim, .int .u64 nxt, sh, sl].set j u).toArray = shC i' t' sn' lim' nxt' sh' sl') {ns' : List Int} {hs' : List Hd} {ls' : List Ls}
    (on : OwnN .i64 3 wx B sn' ns') (oh : wx.ownsRow B 54 5 sh' hs'.length (hs'.flatMap hdC)) (ol : wx.ownsRow B 61 6 sl' ls'.length (ls'.flatMap lsC)) :
    SD w g gr gs B A0 c0 lb (wx.setCell ⟨gs, j, none⟩ u) i' t' sn' ns' lim' nxt' sh' hs' sl' ls' k e := by
  have o1 := o.h1
  have o2 := o.h2
  have o3 := o.h3
  have hz := h.sz
  have hg : wx.grownBy (wx.setCell ⟨gs, j, none⟩ u) (some gs) := only_setCell (p := ⟨gs, j, none⟩) (World.grownBy.refl wx (some gs)) (.inl rfl) u
  have hne : ∀ j, j ≠ gs → some j ≠ some gs := fun j hj hh => hj (by injection hh)
  exact ⟨h.res.grown hg (hne _ (by omega)), h.rd.grown hg (hne _ (by omega)), hcs ▸ Blk.setL (l := [Value.int .u64 i, .int .u64 t, sn, .int .i64 lim, .int .u64 nxt, sh, sl]) h.cm j u, h.bel.grown hg (by omega) (fun j hj => by injection hj with hj; omega),
    Nat.le_trans h.sz hg.size, kept_gr on hg o3, kept_gr oh hg o3, kept_gr ol hg o3⟩
/-- Behind an append to one of the rows (the others' blocks are of other kinds). -/
theorem SD.appN (h : SD w g gr gs B A0 c0 lb wx i t sn ns lim nxt sh hs sl ls k e) (o : SDo g gr gs B) {w1 : World} {v1 : Value} {ns1 : List Int} (hg : wx.grownBy w1 sn.ownBlock) (ho : OwnN .i64 3 w1 B v1 ns1) :
    SD w g gr gs B A0 c0 lb (w1.setCell ⟨gs, 2, none⟩ v1) i t v1 ns1 lim nxt sh hs sl ls k e := by
  have o1 := o.h1
  have o2 := o.h2
  have o3 := o.h3
  have hz := h.sz
  have hb := own_base h.on
  have hne : ∀ j, j < B → some j ≠ sn.ownBlock := fun j hj hh => by have := hb j hh.symm; omega
  have hoh : w1.ownsRow B 54 5 sh hs.length (hs.flatMap hdC) := h.oh.kept hg (by
    cases hv : sh.ownBlock with
    | none => exact .inl rfl
    | some b => exact .inr (fun hh => own_own_ne h.on h.oh t_ih hv hh.symm))
  have hol : w1.ownsRow B 61 6 sl ls.length (ls.flatMap lsC) := h.ol.kept hg (by
    cases hv : sl.ownBlock with
    | none => exact .inl rfl
    | some b => exact .inr (fun hh => own_own_ne h.on h.ol t_il hv hh.symm))
  have hg2 : w1.grownBy (w1.setCell ⟨gs, 2, none⟩ v1) (some gs) := only_setCell (p := ⟨gs, 2, none⟩) (World.grownBy.refl w1 (some gs)) (.inl rfl) v1
  have hne2 : ∀ j, j ≠ gs → some j ≠ some gs := fun j hj hh => hj (by injection hh)
  have hbel : Below g w w1 := h.bel.grown hg (by omega) (fun j hj => by have := hb j hj; omega)
  exact ⟨(h.res.grown hg (hne _ (by omega))).grown hg2 (hne2 _ (by omega)), (h.rd.grown hg (hne _ (by omega))).grown hg2 (hne2 _ (by omega)), Blk.setL (l := [Value.int .u64 i, .int .u64 t, sn, .int .i64 lim, .int .u64 nxt, sh, sl]) (h.cm.grown hg (hne _ (by omega))) 2 v1,
    hbel.grown hg2 (by have := hg.size; omega) (fun j hj => by injection hj with hj; omega), Nat.le_trans (Nat.le_trans h.sz hg.size) hg2.size, kept_gr ho hg2 o3, kept_gr hoh hg2 o3, kept_gr hol hg2 o3⟩
theorem SD.appH (h : SD w g gr gs B A0 c0 lb wx i t sn ns lim nxt sh hs sl ls k e) (o : SDo g gr gs B) {w1 : World} {v1 : Value} {hs1 : List Hd} (hg : wx.grownBy w1 sh.ownBlock) (ho : w1.ownsRow B 54 5 v1 hs1.length (hs1.flatMap hdC)) :
    SD w g gr gs B A0 c0 lb (w1.setCell ⟨gs, 5, none⟩ v1) i t sn ns lim nxt v1 hs1 sl ls k e := by
  have o1 := o.h1
  have o2 := o.h2
  have o3 := o.h3
  have hz := h.sz
  have hb := own_base h.oh
  have hne : ∀ j, j < B → some j ≠ sh.ownBlock := fun j hj hh => by have := hb j hh.symm; omega
  have hon : OwnN .i64 3 w1 B sn ns := World.ownsRow.kept h.on hg (by
    cases hv : sn.ownBlock with
    | none => exact .inl rfl
    | some b => exact .inr (fun hh => own_own_ne h.oh h.on t_ih.symm hv hh.symm))
  have hol : w1.ownsRow B 61 6 sl ls.length (ls.flatMap lsC) := h.ol.kept hg (by
    cases hv : sl.ownBlock with
    | none => exact .inl rfl
    | some b => exact .inr (fun hh => own_own_ne h.oh h.ol t_hl hv hh.symm))
  have hg2 : w1.grownBy (w1.setCell ⟨gs, 5, none⟩ v1) (some gs) := only_setCell (p := ⟨gs, 5, none⟩) (World.grownBy.refl w1 (some gs)) (.inl rfl) v1
  have hne2 : ∀ j, j ≠ gs → some j ≠ some gs := fun j hj hh => hj (by injection hh)
  have hbel : Below g w w1 := h.bel.grown hg (by omega) (fun j hj => by have := hb j hj; omega)
  exact ⟨(h.res.grown hg (hne _ (by omega))).grown hg2 (hne2 _ (by omega)), (h.rd.grown hg (hne _ (by omega))).grown hg2 (hne2 _ (by omega)), Blk.setL (l := [Value.int .u64 i, .int .u64 t, sn, .int .i64 lim, .int .u64 nxt, sh, sl]) (h.cm.grown hg (hne _ (by omega))) 5 v1,
    hbel.grown hg2 (by have := hg.size; omega) (fun j hj => by injection hj with hj; omega), Nat.le_trans (Nat.le_trans h.sz hg.size) hg2.size, kept_gr hon hg2 o3, kept_gr ho hg2 o3, kept_gr hol hg2 o3⟩
theorem SD.appL (h : SD w g gr gs B A0 c0 lb wx i t sn ns lim nxt sh hs sl ls k e) (o : SDo g gr gs B) {w1 : World} {v1 : Value} {ls1 : List Ls} (hg : wx.grownBy w1 sl.ownBlock) (ho : w1.ownsRow B 61 6 v1 ls1.length (ls1.flatMap lsC)) :
    SD w g gr gs B A0 c0 lb (w1.setCell ⟨gs, 6, none⟩ v1) i t sn ns lim nxt sh hs v1 ls1 k e := by
  have o1 := o.h1
  have o2 := o.h2
  have o3 := o.h3
  have hz := h.sz
  have hb := own_base h.ol
  have hne : ∀ j, j < B → some j ≠ sl.ownBlock := fun j hj hh => by have := hb j hh.symm; omega
  have hon : OwnN .i64 3 w1 B sn ns := World.ownsRow.kept h.on hg (by
    cases hv : sn.ownBlock with
    | none => exact .inl rfl
    | some b => exact .inr (fun hh => own_own_ne h.ol h.on t_il.symm hv hh.symm))
  have hoh : w1.ownsRow B 54 5 sh hs.length (hs.flatMap hdC) := h.oh.kept hg (by
    cases hv : sh.ownBlock with
    | none => exact .inl rfl
    | some b => exact .inr (fun hh => own_own_ne h.ol h.oh t_hl.symm hv hh.symm))
  have hg2 : w1.grownBy (w1.setCell ⟨gs, 6, none⟩ v1) (some gs) := only_setCell (p := ⟨gs, 6, none⟩) (World.grownBy.refl w1 (some gs)) (.inl rfl) v1
  have hne2 : ∀ j, j ≠ gs → some j ≠ some gs := fun j hj hh => hj (by injection hh)
  have hbel : Below g w w1 := h.bel.grown hg (by omega) (fun j hj => by have := hb j hj; omega)
  exact ⟨(h.res.grown hg (hne _ (by omega))).grown hg2 (hne2 _ (by omega)), (h.rd.grown hg (hne _ (by omega))).grown hg2 (hne2 _ (by omega)), Blk.setL (l := [Value.int .u64 i, .int .u64 t, sn, .int .i64 lim, .int .u64 nxt, sh, sl]) (h.cm.grown hg (hne _ (by omega))) 6 v1,
    hbel.grown hg2 (by have := hg.size; omega) (fun j hj => by injection hj with hj; omega), Nat.le_trans (Nat.le_trans h.sz hg.size) hg2.size, kept_gr hon hg2 o3, kept_gr hoh hg2 o3, kept_gr ho hg2 o3⟩
end
theorem nums_flat (l : List Int) : nums .i64 l = l.flatMap fun z => [Value.int .i64 z] := by
  induction l with
  | nil => rfl
  | cons z l ih => rw [List.flatMap_cons, ← ih]; rfl
theorem SD.alloc {w : World} {g gr gs B : Nat} {A0 : Option Addr} {c0 : Nat} {lb : List Int} {wx : World} {i t : Int} {sn : Value} {ns : List Int} {lim nxt : Int} {sh : Value} {hs : List Hd} {sl : Value} {ls : List Ls} {k : Nat} {e : Int} (h : SD w g gr gs B A0 c0 lb wx i t sn ns lim nxt sh hs sl ls k e) (o : SDo g gr gs B) (ob : Obj) : SD w g gr gs B A0 c0 lb (wx.alloc ob) i t sn ns lim nxt sh hs sl ls k e := by
  have o1 := o.h1
  have o2 := o.h2
  have o3 := o.h3
  have hz := h.sz
  have hb : Below wx.heap.size wx (wx.alloc ob) := (Below.refl _ _).alloc (Nat.le_refl _) _
  exact ⟨h.res.alloc ob, h.rd.grown (World.grownBy_alloc _ _ none) (by simp), h.cm.alloc ob, h.bel.trans (hb.mono (by omega)), Nat.le_trans hz hb.size, own_below h.on hb, own_below h.oh hb, own_below h.ol hb⟩
theorem RC.below {w w1 : World} {gr : Nat} {A0 : Option Addr} {c0 : Nat} {lb : List Int} {k : Nat} {e : Int} {B : Nat} (h : RC w gr A0 c0 lb k e) (hb : Below B w w1) (hg : gr < B) : RC w1 gr A0 c0 lb k e := by
  obtain ⟨A, c, h1, h2⟩ := h
  exact ⟨A, c, h1.below hb hg, h2⟩
theorem SD.below {w : World} {g gr gs B : Nat} {A0 : Option Addr} {c0 : Nat} {lb : List Int} {wx : World} {i t : Int} {sn : Value} {ns : List Int} {lim nxt : Int} {sh : Value} {hs : List Hd} {sl : Value} {ls : List Ls} {k : Nat} {e : Int} (h : SD w g gr gs B A0 c0 lb wx i t sn ns lim nxt sh hs sl ls k e) (o : SDo g gr gs B) {w1 : World} (hb : Below wx.heap.size wx w1) : SD w g gr gs B A0 c0 lb w1 i t sn ns lim nxt sh hs sl ls k e := by
  have o1 := o.h1
  have o2 := o.h2
  have o3 := o.h3
  have hz := h.sz
  exact ⟨h.res.below hb (by omega), h.rd.below hb (by omega), h.cm.below hb (by omega), h.bel.trans (hb.mono (by omega)), Nat.le_trans hz hb.size, own_below h.on hb, own_below h.oh hb, own_below h.ol hb⟩
/-- The reader's error is set. -/
theorem SD.err {w : World} {g gr gs B : Nat} {A0 : Option Addr} {c0 : Nat} {lb : List Int} {wx : World} {i t : Int} {sn : Value} {ns : List Int} {lim nxt : Int} {sh : Value} {hs : List Hd} {sl : Value} {ls : List Ls} {k : Nat} {e : Int} (h : SD w g gr gs B A0 c0 lb wx i t sn ns lim nxt sh hs sl ls k e) (o : SDo g gr gs B) (e1 : Int) : SD w g gr gs B A0 c0 lb (wx.setCell ⟨gr, 1, none⟩ (.int .i64 e1)) i t sn ns lim nxt sh hs sl ls k e1 := by
  have hg : wx.grownBy (wx.setCell ⟨gr, 1, none⟩ (.int .i64 e1)) (some gr) := only_setCell (p := ⟨gr, 1, none⟩) (World.grownBy.refl wx (some gr)) (.inl rfl) _
  obtain ⟨A, c, hb, h2⟩ := h.rd
  exact h.call o ⟨A, c, Blk.setL (l := [Value.slice A (lb.length - k) c, .int .i64 e]) hb 1 _, h2⟩ hg
/-- append(v, x): one element, in a block just made; as a step of a region that draws its order. -/
theorem step_one {α : Type} {f : α → List Value} {s bytes : Nat} {T E : TypeId} {z0 : Value} (hT : Try.prog.underlying T = some (.slice E)) (hinfo : (Try.prog.info? E).map (fun i => (i.zero, i.size, i.bytes)) = some (some z0, s, bytes)) (hz : z0.cells.size = s) (hs0 : 0 < s) (hfl : ∀ x, (f x).length = s) (hone : ∀ x, ∀ u ∈ f x, u.oneCell' = true)
    {ops : Array Oper} {o : Oper} {a : Act} {K : Act → World → Prop} {Q : Exit → Act → World → Prop} {EE : Prop} {W : World} {cs : Array Value} (base : Nat) (hgd : o.guard = none) (sx x : Operand)
    (ho : o.op = .call { callee := .builtin .append, args := #[sx, x], argTypes := #[T, T] })
    (v : Value) (l : List α) (y : α) (hs : a.eval sx = v) (hcs : cs = (f y).toArray) (hx : a.eval x = .slice (some ⟨W.heap.size, 0, none⟩) 1 1) (HO : W.ownsRow base E s v l.length (l.flatMap f)) (hbase : base ≤ W.heap.size) (hl : (l.length + 1) * bytes ≤ 1000000) (hb1 : 1 ≤ bytes)
    (h : ∀ v1 w1, w1.ownsRow base E s v1 (l ++ [y]).length ((l ++ [y]).flatMap f) → W.grownBy w1 v.ownBlock → K (a.put o.dst v1) w1) :
    if Region.wanted o (yielded ops a.tmps) = true then Oper.wp Try.prog o a (W.alloc (.cells cs E)) K Q else EE := by
  have hr : Reads (W.alloc (.cells cs E)) (W.heap.size + 1) s (some ⟨W.heap.size, 0, none⟩) 1 (f y) := by
    subst hcs
    refine ⟨by rw [hfl, Nat.one_mul], fun _ => ⟨W.heap.size, 0, rfl, by omega, fun j u hu => ?_⟩⟩
    rw [Nat.zero_add, World.cell?_alloc_mark]
    simpa using hu
  obtain ⟨i0, hi, hz0, hz1, hz2⟩ := info_parts hinfo
  have hO := World.ownsRow.alloc HO (.cells cs E)
  have hlen : l.length + 1 ≤ (l.length + 1) * bytes := Nat.le_mul_of_pos_right _ hb1
  refine step_append_any _ hgd sx x T ho base E i0 z0 s bytes hT hi hz0 hz1 hz2 hz hs0 v l.length (l.flatMap f) hs hO (W.heap.size + 1) _ _ _ (f y) hx hr (hone y) (by simp only [maxLen]; omega) (by omega) (by simp; omega) ?_
  intro v1 w1 ho1 hg _
  refine h v1 w1 ?_ (World.grownBy.trans (World.grownBy_alloc W _ _) hg)
  rw [List.length_append, List.length_singleton, List.flatMap_append, List.flatMap_singleton]
  exact ho1
theorem RC.le {w : World} {gr : Nat} {A0 : Option Addr} {c0 : Nat} {lb : List Int} {k : Nat} {e : Int} (h : RC w gr A0 c0 lb k e) : k ≤ lb.length := by
  obtain ⟨_, _, _, _, h, _⟩ := h
  exact h
section
variable {w : World} {g gr gs B : Nat} {A0 : Option Addr} {c0 : Nat} {lb : List Int} {wx : World} {i t : Int} {sn : Value} {ns : List Int} {lim nxt : Int} {sh : Value} {hs : List Hd} {sl : Value} {ls : List Ls} {k : Nat} {e : Int}
theorem SD.wideB (h : SD w g gr gs B A0 c0 lb wx i t sn ns lim nxt sh hs sl ls k e) (o : SDo g gr gs B) (hI : ∀ W, Below g w W → In8 W A0 c0 lb) {gx : Nat} {T : TypeId} {cs : Array Value} (hx : Blk wx gx T cs) (hne : gx ≠ gr) :
    Calls Try.prog 35 #[.pointer (some ⟨gr, 0, none⟩)] wx fun x w' => x = .returned (.int .u64 (rnum lb k e 18446744073709551615).1) ∧
      SD w g gr gs B A0 c0 lb w' i t sn ns lim nxt sh hs sl ls (rnum lb k e 18446744073709551615).2.1 (rnum lb k e 18446744073709551615).2.2 ∧ Blk w' gx T cs :=
  (swide_any wx gr A0 c0 lb k e (hI _ h.bel) h.rd).mono fun _ _ ⟨hx2, hr, hg⟩ => ⟨hx2, h.call o hr hg, hx.grown hg (fun hh => by injection hh with hh; exact hne hh)⟩
theorem SD.smallB (h : SD w g gr gs B A0 c0 lb wx i t sn ns lim nxt sh hs sl ls k e) (o : SDo g gr gs B) (hI : ∀ W, Below g w W → In8 W A0 c0 lb) {gx : Nat} {T : TypeId} {cs : Array Value} (hx : Blk wx gx T cs) (hne : gx ≠ gr) :
    Calls Try.prog 37 #[.pointer (some ⟨gr, 0, none⟩)] wx fun x w' => x = .returned (.int .i64 (rnum lb k e 65535).1) ∧
      SD w g gr gs B A0 c0 lb w' i t sn ns lim nxt sh hs sl ls (rnum lb k e 65535).2.1 (rnum lb k e 65535).2.2 ∧ Blk w' gx T cs :=
  (ssmall_any wx gr A0 c0 lb k e (hI _ h.bel) h.rd).mono fun _ _ ⟨hx2, hr, hg⟩ => ⟨hx2, h.call o hr hg, hx.grown hg (fun hh => by injection hh with hh; exact hne hh)⟩
/-- A cell of a block apart is set. -/
theorem SD.setX (h : SD w g gr gs B A0 c0 lb wx i t sn ns lim nxt sh hs sl ls k e) (o : SDo g gr gs B) {gx : Nat} (hx : B ≤ gx) (n1 : sn.ownBlock ≠ some gx) (n2 : sh.ownBlock ≠ some gx) (n3 : sl.ownBlock ≠ some gx) (j : Nat) (u : Value) :
    SD w g gr gs B A0 c0 lb (wx.setCell ⟨gx, j, none⟩ u) i t sn ns lim nxt sh hs sl ls k e := by
  have o1 := o.h1
  have o2 := o.h2
  have o3 := o.h3
  have hz := h.sz
  have hg : wx.grownBy (wx.setCell ⟨gx, j, none⟩ u) (some gx) := only_setCell (p := ⟨gx, j, none⟩) (World.grownBy.refl wx (some gx)) (.inl rfl) u
  have hne : ∀ j, j ≠ gx → some j ≠ some gx := fun j hj hh => hj (by injection hh)
  refine ⟨h.res.grown hg (hne _ (by omega)), h.rd.grown hg (hne _ (by omega)), h.cm.grown hg (hne _ (by omega)), h.bel.grown hg (by omega) (fun j hj => by injection hj with hj; omega), Nat.le_trans h.sz hg.size, World.ownsRow.kept h.on hg (.inr n1), h.oh.kept hg (.inr n2), h.ol.kept hg (.inr n3)⟩
end
theorem grown_set7 (w : World) (g : Nat) (u0 u1 u2 u3 u4 u5 u6 : Value) :
    w.grownBy (((((((w.setCell ⟨g, 0, none⟩ u0).setCell ⟨g, 1, none⟩ u1).setCell ⟨g, 2, none⟩ u2).setCell ⟨g, 3, none⟩ u3).setCell ⟨g, 4, none⟩ u4).setCell ⟨g, 5, none⟩ u5).setCell ⟨g, 6, none⟩ u6) (some g) := by
  refine only_setCell (only_setCell (only_setCell (only_setCell (only_setCell (only_setCell (only_setCell (World.grownBy.refl _ _) ?_ _) ?_ _) ?_ _) ?_ _) ?_ _) ?_ _) ?_ _
  all_goals exact .inl rfl
theorem wf_small {z : Int} (h1 : 0 ≤ z) (h2 : z ≤ 65535) : (Lit.int .i64 z).wf = true := by
  simp [Lit.wf, IntKind.min, IntKind.max, IntKind.bits, IntKind.signed]
  omega
theorem dHd_wf {lb : List Int} (hb : Byt lb) {k : Nat} (hk : k ≤ lb.length) (e : Int) : (dHd lb k e).1.Wf ∧ (dHd lb k e).2.1 ≤ lb.length := by
  have a := rnum_le hb hk e (most := 65535) (by decide)
  have b := rnum_le hb a.2.2.1 (rnum lb k e 65535).2.2 (most := 65535) (by decide)
  unfold dHd
  simp only
  obtain ⟨⟨a1, ka, ea⟩, ra⟩ : ∃ r, rnum lb k e 65535 = r := ⟨_, rfl⟩
  rw [ra] at a b ⊢
  simp only at a b ⊢
  have c := rnum_le hb b.2.2.1 (rnum lb ka ea 65535).2.2 (most := 18446744073709551615) (by decide)
  obtain ⟨⟨b1, kb, eb⟩, rb⟩ : ∃ r, rnum lb ka ea 65535 = r := ⟨_, rfl⟩
  rw [rb] at b c ⊢
  simp only at b c ⊢
  have d := rnum_le hb c.2.2.1 (rnum lb kb eb 18446744073709551615).2.2 (most := 18446744073709551615) (by decide)
  obtain ⟨⟨c1, kc, ec⟩, rc⟩ : ∃ r, rnum lb kb eb 18446744073709551615 = r := ⟨_, rfl⟩
  rw [rc] at c d ⊢
  simp only at c d ⊢
  have f := rnum_le hb d.2.2.1 (rnum lb kc ec 18446744073709551615).2.2 (most := 18446744073709551615) (by decide)
  obtain ⟨⟨d1, kd, ed⟩, rd⟩ : ∃ r, rnum lb kc ec 18446744073709551615 = r := ⟨_, rfl⟩
  rw [rd] at d f ⊢
  simp only at d f ⊢
  exact ⟨⟨wf_small a.1 a.2.1, wf_small b.1 b.2.1, ⟨c.1, c.2.2.2⟩, ⟨d.1, d.2.2.2⟩, ⟨f.1, f.2.2.2⟩⟩, f.2.2.1⟩
theorem decH_mem {lb : List Int} (hb : Byt lb) : ∀ (c k : Nat) (e : Int), k ≤ lb.length → (decH lb c k e).1.length = c ∧ (∀ h ∈ (decH lb c k e).1, h.Wf) ∧ (decH lb c k e).2.1 ≤ lb.length := by
  intro c
  induction c with
  | zero => intro k e hk; exact ⟨rfl, (fun z hz => by cases hz), hk⟩
  | succ c ih =>
    intro k e hk
    obtain ⟨r1, r2⟩ := dHd_wf hb hk e
    obtain ⟨i1, i2, i3⟩ := ih (dHd lb k e).2.1 (dHd lb k e).2.2 r2
    refine ⟨by simp [decH, i1], fun z hz => ?_, i3⟩
    simp only [decH, List.mem_cons] at hz
    rcases hz with rfl | hz
    · exact r1
    · exact i2 z hz
theorem dLs_wf {lb : List Int} (hb : Byt lb) {k : Nat} (hk : k ≤ lb.length) (e : Int) : (dLs lb k e).1.Wf ∧ (dLs lb k e).2.1 ≤ lb.length := by
  have a := rnum_le hb hk e (most := 65535) (by decide)
  have b := rnum_le hb a.2.2.1 (rnum lb k e 65535).2.2 (most := 18446744073709551615) (by decide)
  unfold dLs
  simp only
  obtain ⟨⟨a1, ka, ea⟩, ra⟩ : ∃ r, rnum lb k e 65535 = r := ⟨_, rfl⟩
  rw [ra] at a b ⊢
  simp only at a b ⊢
  have c := rnum_le hb b.2.2.1 (rnum lb ka ea 18446744073709551615).2.2 (most := 18446744073709551615) (by decide)
  obtain ⟨⟨b1, kb, eb⟩, rb⟩ : ∃ r, rnum lb ka ea 18446744073709551615 = r := ⟨_, rfl⟩
  rw [rb] at b c ⊢
  simp only at b c ⊢
  have d := rnum_le hb c.2.2.1 (rnum lb kb eb 18446744073709551615).2.2 (most := 65535) (by decide)
  obtain ⟨⟨c1, kc, ec⟩, rc⟩ : ∃ r, rnum lb kb eb 18446744073709551615 = r := ⟨_, rfl⟩
  rw [rc] at c d ⊢
  simp only at c d ⊢
  have f := rnum_le hb d.2.2.1 (rnum lb kc ec 65535).2.2 (most := 65535) (by decide)
  obtain ⟨⟨d1, kd, ed⟩, rd⟩ : ∃ r, rnum lb kc ec 65535 = r := ⟨_, rfl⟩
  rw [rd] at d f ⊢
  simp only at d f ⊢
  have q := rnum_le hb f.2.2.1 (rnum lb kd ed 65535).2.2 (most := 18446744073709551615) (by decide)
  obtain ⟨⟨f1, kf, ef⟩, rf⟩ : ∃ r, rnum lb kd ed 65535 = r := ⟨_, rfl⟩
  rw [rf] at f q ⊢
  simp only at f q ⊢
  exact ⟨⟨wf_small a.1 a.2.1, ⟨b.1, b.2.2.2⟩, ⟨c.1, c.2.2.2⟩, wf_small d.1 d.2.1, wf_small f.1 f.2.1, ⟨q.1, q.2.2.2⟩⟩, q.2.2.1⟩
theorem decL_mem {lb : List Int} (hb : Byt lb) : ∀ (c k : Nat) (e : Int), k ≤ lb.length → (decL lb c k e).1.length = c ∧ (∀ h ∈ (decL lb c k e).1, h.Wf) ∧ (decL lb c k e).2.1 ≤ lb.length := by
  intro c
  induction c with
  | zero => intro k e hk; exact ⟨rfl, (fun z hz => by cases hz), hk⟩
  | succ c ih =>
    intro k e hk
    obtain ⟨r1, r2⟩ := dLs_wf hb hk e
    obtain ⟨i1, i2, i3⟩ := ih (dLs lb k e).2.1 (dLs lb k e).2.2 r2
    refine ⟨by simp [decL, i1], fun z hz => ?_, i3⟩
    simp only [decL, List.mem_cons] at hz
    rcases hz with rfl | hz
    · exact r1
    · exact i2 z hz
theorem step_oneN {ops : Array Oper} {o : Oper} {a : Act} {K : Act → World → Prop} {Q : Exit → Act → World → Prop} {EE : Prop} {W : World} {cs : Array Value} (base : Nat) (hgd : o.guard = none) (sx x : Operand)
    (ho : o.op = .call { callee := .builtin .append, args := #[sx, x], argTypes := #[22, 22] })
    (v : Value) (l : List Int) (y : Int) (hs : a.eval sx = v) (hcs : cs = #[.int .i64 y]) (hx : a.eval x = .slice (some ⟨W.heap.size, 0, none⟩) 1 1) (HO : OwnN .i64 3 W base v l) (hbase : base ≤ W.heap.size) (hl : l.length ≤ 100)
    (h : ∀ v1 w1, OwnN .i64 3 w1 base v1 (l ++ [y]) → W.grownBy w1 v.ownBlock → K (a.put o.dst v1) w1) :
    if Region.wanted o (yielded ops a.tmps) = true then Oper.wp Try.prog o a (W.alloc (.cells cs 3)) K Q else EE := by
  unfold OwnN at HO h
  rw [nums_flat] at HO
  refine step_one (f := fun z => [Value.int .i64 z]) Try.underlying22 info_int rfl (by omega) (fun _ => rfl) (fun _ u hu => by simp only [List.mem_singleton] at hu; subst hu; rfl) base hgd sx x ho v l y hs hcs hx HO hbase (by omega) (by omega) (fun v1 w1 h1 h2 => h v1 w1 ?_ h2)
  rw [nums_flat]
  exact h1
theorem step_oneH {ops : Array Oper} {o : Oper} {a : Act} {K : Act → World → Prop} {Q : Exit → Act → World → Prop} {EE : Prop} {W : World} {cs : Array Value} (base : Nat) (hgd : o.guard = none) (sx x : Operand)
    (ho : o.op = .call { callee := .builtin .append, args := #[sx, x], argTypes := #[24, 24] })
    (v : Value) (l : List Hd) (y : Hd) (hs : a.eval sx = v) (hcs : cs = hdA y) (hx : a.eval x = .slice (some ⟨W.heap.size, 0, none⟩) 1 1) (HO : W.ownsRow base 54 5 v l.length (l.flatMap hdC)) (hbase : base ≤ W.heap.size) (hl : l.length ≤ 100)
    (h : ∀ v1 w1, w1.ownsRow base 54 5 v1 (l ++ [y]).length ((l ++ [y]).flatMap hdC) → W.grownBy w1 v.ownBlock → K (a.put o.dst v1) w1) :
    if Region.wanted o (yielded ops a.tmps) = true then Oper.wp Try.prog o a (W.alloc (.cells cs 54)) K Q else EE :=
  step_one (f := hdC) Try.underlying24 info_Held rfl (by omega) hdC_len hdC_one base hgd sx x ho v l y hs hcs hx HO hbase (by omega) (by omega) h
theorem step_oneL {ops : Array Oper} {o : Oper} {a : Act} {K : Act → World → Prop} {Q : Exit → Act → World → Prop} {EE : Prop} {W : World} {cs : Array Value} (base : Nat) (hgd : o.guard = none) (sx x : Operand)
    (ho : o.op = .call { callee := .builtin .append, args := #[sx, x], argTypes := #[25, 25] })
    (v : Value) (l : List Ls) (y : Ls) (hs : a.eval sx = v) (hcs : cs = lsA y) (hx : a.eval x = .slice (some ⟨W.heap.size, 0, none⟩) 1 1) (HO : W.ownsRow base 61 6 v l.length (l.flatMap lsC)) (hbase : base ≤ W.heap.size) (hl : l.length ≤ 100)
    (h : ∀ v1 w1, w1.ownsRow base 61 6 v1 (l ++ [y]).length ((l ++ [y]).flatMap lsC) → W.grownBy w1 v.ownBlock → K (a.put o.dst v1) w1) :
    if Region.wanted o (yielded ops a.tmps) = true then Oper.wp Try.prog o a (W.alloc (.cells cs 61)) K Q else EE :=
  step_one (f := lsC) Try.underlying25 info_Last rfl (by omega) lsC_len lsC_one base hgd sx x ho v l y hs hcs hx HO hbase (by omega) (by omega) h
end Go.Proofs.Ythdeappjankmmaa
