/- Walks over commands: what the document's reader reads, letter by letter (plain), and what stands in memory while it reads. -/
import Derived.Test.YtnpodnieahokjaaRefL
import Derived.Test.YtnpodnieahokjaaEncR
namespace Go.Proofs.Ytnpodnieahokjaa
open Go.RowKit

/-- What has been read. -/
structure FS where
  n : Int
  t : Int
  l : List Int
  b : Int
  q : Int
  s : Int
  m : Int
  k : Nat
  e : Int
/-- A letter's field is read. -/
def fstep (lb : List Int) : FS → Int → FS
  | ⟨n, t, l, b, q, s, m, k, e⟩, x =>
    if x = 108 then ⟨n, t, (decNodes lb (rnum lb k e 7).1.toNat (rnum lb k e 7).2.1 (rnum lb k e 7).2.2).1, b, q, s, m, (decNodes lb (rnum lb k e 7).1.toNat (rnum lb k e 7).2.1 (rnum lb k e 7).2.2).2.1, (decNodes lb (rnum lb k e 7).1.toNat (rnum lb k e 7).2.1 (rnum lb k e 7).2.2).2.2⟩
    else if x = 110 then ⟨(rnum lb k e 65535).1, t, l, b, q, s, m, (rnum lb k e 65535).2.1, (rnum lb k e 65535).2.2⟩
    else if x = 116 then ⟨n, (rnum lb k e 65535).1, l, b, q, s, m, (rnum lb k e 65535).2.1, (rnum lb k e 65535).2.2⟩
    else if x = 98 then ⟨n, t, l, (rnum lb k e 18446744073709551615).1, q, s, m, (rnum lb k e 18446744073709551615).2.1, (rnum lb k e 18446744073709551615).2.2⟩
    else if x = 113 then ⟨n, t, l, b, (rnum lb k e 18446744073709551615).1, s, m, (rnum lb k e 18446744073709551615).2.1, (rnum lb k e 18446744073709551615).2.2⟩
    else if x = 115 then ⟨n, t, l, b, q, (rnum lb k e 18446744073709551615).1, m, (rnum lb k e 18446744073709551615).2.1, (rnum lb k e 18446744073709551615).2.2⟩
    else ⟨n, t, l, b, q, s, (rnum lb k e 18446744073709551615).1, (rnum lb k e 18446744073709551615).2.1, (rnum lb k e 18446744073709551615).2.2⟩
def fin (lb : List Int) : FS := (bytes (fld (dK lb).1)).foldl (fstep lb) ⟨0, 0, [], 0, 0, 0, 0, (dK lb).2.1, (dK lb).2.2⟩
theorem fin_eq (lb : List Int) : fin lb = ⟨(dn lb).1, (dt lb).1, (dL lb).1, (db lb).1, (dq lb).1, (ds lb).1, (dm lb).1, (dm lb).2.1, (dm lb).2.2⟩ := by
  unfold fin dm ds dt dq db dn dL
  obtain ⟨⟨kd, k, e⟩, h⟩ : ∃ r, dK lb = r := ⟨_, rfl⟩
  simp only [h]
  rcases kinds kd with rfl | rfl | rfl | rfl | rfl | rfl | ⟨h1, h2, h3, h4, h5, h6⟩
  case inr.inr.inr.inr.inr.inr =>
    have e1 : bytes (fld kd) = [] := by simp [fld, h2, h3, h4, h5, h6, bytes]
    have e2 : kN kd = false := by simp [kN]; omega
    have e3 : kR kd = false := by simp [kR]; omega
    have e4 : kT kd = false := by simp [kT]; omega
    have e5 : kS kd = false := by simp [kS]; omega
    rw [e1, e2, e3, e4, e5]
    rfl
  case inl =>
    rw [show bytes (fld 1) = [] from rfl, show kN 1 = false from rfl, show kR 1 = false from rfl, show kT 1 = false from rfl, show kS 1 = false from rfl]
    rfl
  case inr.inl =>
    rw [show bytes (fld 2) = [108] from rfl, show kN 2 = true from rfl, show kR 2 = false from rfl, show kT 2 = false from rfl, show kS 2 = false from rfl]
    rfl
  case inr.inr.inl =>
    rw [show bytes (fld 3) = [110, 98, 113] from rfl, show kN 3 = false from rfl, show kR 3 = true from rfl, show kT 3 = false from rfl, show kS 3 = false from rfl]
    rfl
  case inr.inr.inr.inl =>
    rw [show bytes (fld 4) = [110, 98, 113, 116, 115] from rfl, show kN 4 = false from rfl, show kR 4 = true from rfl, show kT 4 = true from rfl, show kS 4 = false from rfl]
    rfl
  case inr.inr.inr.inr.inl =>
    rw [show bytes (fld 5) = [110, 98, 113, 116, 115] from rfl, show kN 5 = false from rfl, show kR 5 = true from rfl, show kT 5 = true from rfl, show kS 5 = false from rfl]
    rfl
  case inr.inr.inr.inr.inr.inl =>
    rw [show bytes (fld 6) = [116, 115, 109] from rfl, show kN 6 = false from rfl, show kR 6 = false from rfl, show kT 6 = true from rfl, show kS 6 = true from rfl]
    rfl

/-! ### In memory -/
structure OR (w : World) (gr g gc gb : Nat) : Prop where
  h1 : gr < g
  h2 : g < gc
  h3 : gc < gb
  hg : w.heap.size = g
structure SR (w : World) (gr g gc gb : Nat) (fl : List Int) (A : Option Addr) (c : Nat) (lb : List Int) (wx : World) (kind n t : Int) (sl : Value) (L l : List Int) (b q s m : Int) (k : Nat) (e : Int) : Prop where
  res : Blk wx g 25 (cmdCells 0 0 0 (.slice none 0 0) 0 0 0 0)
  rd : RS wx gr A c lb k e
  cm : Blk wx gc 25 (cmdCells kind n t sl b q s m)
  lets : ∀ j (hj : j < fl.length), wx.cell? ⟨gb, j, none⟩ = some (.int .u8 fl[j])
  grow : w.grownBy wx (some gr)
  own : OwnN .i64 3 wx gb sl L
  len : L.length ≤ 7
  wf : Wfs .i64 L
  eq : e = 0 → L = l
  ltb : gb < wx.heap.size

theorem rnum_zero {lb : List Int} {k : Nat} {e most : Int} (h : (rnum lb k e most).2.2 = 0) : e = 0 := by
  by_cases he : e = 0
  · exact he
  · rw [rnum_err he] at h
    exact h
theorem decNodes_zero {lb : List Int} : ∀ {c k : Nat} {e : Int}, (decNodes lb c k e).2.2 = 0 → e = 0 := by
  intro c
  induction c with
  | zero => intro k e h; exact h
  | succ c ih =>
    intro k e h
    exact rnum_zero (ih h)
section
variable {w : World} {gr g gc gb : Nat} {fl : List Int} {A : Option Addr} {c : Nat} {lb : List Int} {wx : World} {kind n t : Int} {sl : Value} {L l : List Int} {b q s m : Int} {k : Nat} {e : Int}
/-- Behind a call that has only the reader's cells and new blocks. -/
theorem SR.call (h : SR w gr g gc gb fl A c lb wx kind n t sl L l b q s m k e) (o : OR w gr g gc gb) {w1 : World} {k1 : Nat} {e1 : Int} (hr : RS w1 gr A c lb k1 e1) (hg : wx.grownBy w1 (some gr)) (h0 : e1 = 0 → e = 0) :
    SR w gr g gc gb fl A c lb w1 kind n t sl L l b q s m k1 e1 := by
  have o1 := o.h1
  have o2 := o.h2
  have o3 := o.h3
  have hne : ∀ i, i ≠ gr → some i ≠ some gr := fun i hi hh => hi (by injection hh)
  exact ⟨h.res.grown hg (hne _ (by omega)), hr, h.cm.grown hg (hne _ (by omega)), fun j hj => (World.cell?_of_block (hg.block gb h.ltb (hne _ (by omega)))).trans (h.lets j hj), World.grownBy.trans h.grow hg,
    own_gr h.own hg (by omega), h.len, h.wf, fun he => h.eq (h0 he), Nat.lt_of_lt_of_le h.ltb hg.size⟩
theorem SR.num (h : SR w gr g gc gb fl A c lb wx kind n t sl L l b q s m k e) (o : OR w gr g gc gb) (hI : ∀ W, w.grownBy W (some gr) → In8 W A c lb) :
    Calls Try.prog 37 #[.pointer (some ⟨gr, 0, none⟩)] wx fun x w' => x = .returned (.int .u64 (rnum lb k e 18446744073709551615).1) ∧
      SR w gr g gc gb fl A c lb w' kind n t sl L l b q s m (rnum lb k e 18446744073709551615).2.1 (rnum lb k e 18446744073709551615).2.2 :=
  (refR_NumS wx gr A c lb k e (hI _ h.grow) h.rd).mono fun _ _ ⟨hx, hr, hg⟩ => ⟨hx, h.call o hr hg rnum_zero⟩
theorem SR.small (h : SR w gr g gc gb fl A c lb wx kind n t sl L l b q s m k e) (o : OR w gr g gc gb) (hI : ∀ W, w.grownBy W (some gr) → In8 W A c lb) :
    Calls Try.prog 34 #[.pointer (some ⟨gr, 0, none⟩), .int .i64 65535] wx fun x w' => x = .returned (.int .i64 (rnum lb k e 65535).1) ∧
      SR w gr g gc gb fl A c lb w' kind n t sl L l b q s m (rnum lb k e 65535).2.1 (rnum lb k e 65535).2.2 := by
  have C := refR_Small wx gr A c lb k e 65535 (by omega) (hI _ h.grow) h.rd
  have e6 : ((65535 : Nat) : Int) = 65535 := rfl
  rw [e6] at C
  exact C.mono fun x w' ⟨hx, hr, hg⟩ => ⟨hx, h.call o hr hg rnum_zero⟩
theorem SR.nodes (h : SR w gr g gc gb fl A c lb wx kind n t sl L l b q s m k e) (o : OR w gr g gc gb) (hI : ∀ W, w.grownBy W (some gr) → In8 W A c lb) {l2 : List Int} {k2 : Nat} {e2 : Int}
    (hd : decNodes lb (rnum lb k e 7).1.toNat (rnum lb k e 7).2.1 (rnum lb k e 7).2.2 = (l2, k2, e2)) :
    Calls Try.prog 36 #[.pointer (some ⟨gr, 0, none⟩)] wx fun x w' => ∃ v L', x = .returned v ∧ OwnN .i64 3 w' gb v L' ∧ L'.length ≤ 7 ∧ Wfs .i64 L' ∧ (e2 = 0 → L' = l2) ∧
      SR w gr g gc gb fl A c lb w' kind n t sl L l b q s m k2 e2 :=
  (refR_Nodes wx gr A c lb k e (fun W hW => hI W (World.grownBy.trans h.grow hW)) h.rd l2 k2 e2 hd).mono fun x w' ⟨v, L', hx, h1, h2, h3, h4, hr, hg⟩ =>
    ⟨v, L', hx, own_lower h1 (Nat.le_of_lt h.ltb), h2, h3, h4, h.call o hr hg fun h0 => rnum_zero (decNodes_zero (by rw [hd]; exact h0))⟩
theorem SR.setc (h : SR w gr g gc gb fl A c lb wx kind n t sl L l b q s m k e) (o : OR w gr g gc gb) (j : Nat) (u : Value) {cs : Array Value} (hcs : ([Value.int .i64 kind, .int .i64 n, .int .i64 t, sl, .int .u64 b, .int .u64 q, .int .u64 s, .int .u64 m].set j u).toArray = cs)
    {v : Value} {L' : List Int} (ho : OwnN .i64 3 wx gb v L') :
    Blk (wx.setCell ⟨gc, j, none⟩ u) g 25 (cmdCells 0 0 0 (.slice none 0 0) 0 0 0 0) ∧ RS (wx.setCell ⟨gc, j, none⟩ u) gr A c lb k e ∧
    Blk (wx.setCell ⟨gc, j, none⟩ u) gc 25 cs ∧ (∀ j' (hj : j' < fl.length), (wx.setCell ⟨gc, j, none⟩ u).cell? ⟨gb, j', none⟩ = some (.int .u8 fl[j'])) ∧
    w.grownBy (wx.setCell ⟨gc, j, none⟩ u) (some gr) ∧ OwnN .i64 3 (wx.setCell ⟨gc, j, none⟩ u) gb v L' ∧ gb < (wx.setCell ⟨gc, j, none⟩ u).heap.size := by
  have o1 := o.h1
  have o2 := o.h2
  have o3 := o.h3
  have o4 := o.hg
  have hgr : wx.grownBy (wx.setCell ⟨gc, j, none⟩ u) (some gc) := only_setCell (p := ⟨gc, j, none⟩) (World.grownBy.refl wx (some gc)) (.inl rfl) u
  have hne : ∀ i, i ≠ gc → some i ≠ some gc := fun i hi hh => hi (by injection hh)
  subst hcs
  refine ⟨h.res.grown hgr (hne _ (by omega)), ?_, Blk.setL (l := [Value.int .i64 kind, .int .i64 n, .int .i64 t, sl, .int .u64 b, .int .u64 q, .int .u64 s, .int .u64 m]) h.cm j u, fun j' hj => (World.cell?_of_block (hgr.block gb h.ltb (hne _ (by omega)))).trans (h.lets j' hj),
    ⟨hgr.os.trans h.grow.os, hgr.tape.trans h.grow.tape, hgr.output.trans h.grow.output, Nat.le_trans h.grow.size hgr.size, fun i hi hn => (hgr.block i (Nat.lt_of_lt_of_le hi h.grow.size) (hne _ (by omega))).trans (h.grow.block i hi hn)⟩,
    own_gr ho hgr (by omega), Nat.lt_of_lt_of_le h.ltb hgr.size⟩
  obtain ⟨k', h1, h2⟩ := h.rd
  exact ⟨k', h1.grown hgr (hne _ (by omega)), h2⟩
theorem SR.set0 (h : SR w gr g gc gb fl A c lb wx kind n t sl L l b q s m k e) (o : OR w gr g gc gb) (u : Int) : SR w gr g gc gb fl A c lb (wx.setCell ⟨gc, 0, none⟩ (.int .i64 u)) u n t sl L l b q s m k e := by
  obtain ⟨a1, a2, a3, a4, a5, a6, a7⟩ := h.setc o 0 (.int .i64 u) rfl h.own; exact ⟨a1, a2, a3, a4, a5, a6, h.len, h.wf, h.eq, a7⟩
theorem SR.set1 (h : SR w gr g gc gb fl A c lb wx kind n t sl L l b q s m k e) (o : OR w gr g gc gb) (u : Int) : SR w gr g gc gb fl A c lb (wx.setCell ⟨gc, 1, none⟩ (.int .i64 u)) kind u t sl L l b q s m k e := by
  obtain ⟨a1, a2, a3, a4, a5, a6, a7⟩ := h.setc o 1 (.int .i64 u) rfl h.own; exact ⟨a1, a2, a3, a4, a5, a6, h.len, h.wf, h.eq, a7⟩
theorem SR.set2 (h : SR w gr g gc gb fl A c lb wx kind n t sl L l b q s m k e) (o : OR w gr g gc gb) (u : Int) : SR w gr g gc gb fl A c lb (wx.setCell ⟨gc, 2, none⟩ (.int .i64 u)) kind n u sl L l b q s m k e := by
  obtain ⟨a1, a2, a3, a4, a5, a6, a7⟩ := h.setc o 2 (.int .i64 u) rfl h.own; exact ⟨a1, a2, a3, a4, a5, a6, h.len, h.wf, h.eq, a7⟩
theorem SR.set3 (h : SR w gr g gc gb fl A c lb wx kind n t sl L l b q s m k e) (o : OR w gr g gc gb) {v : Value} {L' l2 : List Int} (ho : OwnN .i64 3 wx gb v L') (hl : L'.length ≤ 7) (hw : Wfs .i64 L') (he : e = 0 → L' = l2) :
    SR w gr g gc gb fl A c lb (wx.setCell ⟨gc, 3, none⟩ v) kind n t v L' l2 b q s m k e := by
  obtain ⟨a1, a2, a3, a4, a5, a6, a7⟩ := h.setc o 3 v rfl ho; exact ⟨a1, a2, a3, a4, a5, a6, hl, hw, he, a7⟩
theorem SR.set4 (h : SR w gr g gc gb fl A c lb wx kind n t sl L l b q s m k e) (o : OR w gr g gc gb) (u : Int) : SR w gr g gc gb fl A c lb (wx.setCell ⟨gc, 4, none⟩ (.int .u64 u)) kind n t sl L l u q s m k e := by
  obtain ⟨a1, a2, a3, a4, a5, a6, a7⟩ := h.setc o 4 (.int .u64 u) rfl h.own; exact ⟨a1, a2, a3, a4, a5, a6, h.len, h.wf, h.eq, a7⟩
theorem SR.set5 (h : SR w gr g gc gb fl A c lb wx kind n t sl L l b q s m k e) (o : OR w gr g gc gb) (u : Int) : SR w gr g gc gb fl A c lb (wx.setCell ⟨gc, 5, none⟩ (.int .u64 u)) kind n t sl L l b u s m k e := by
  obtain ⟨a1, a2, a3, a4, a5, a6, a7⟩ := h.setc o 5 (.int .u64 u) rfl h.own; exact ⟨a1, a2, a3, a4, a5, a6, h.len, h.wf, h.eq, a7⟩
theorem SR.set6 (h : SR w gr g gc gb fl A c lb wx kind n t sl L l b q s m k e) (o : OR w gr g gc gb) (u : Int) : SR w gr g gc gb fl A c lb (wx.setCell ⟨gc, 6, none⟩ (.int .u64 u)) kind n t sl L l b q u m k e := by
  obtain ⟨a1, a2, a3, a4, a5, a6, a7⟩ := h.setc o 6 (.int .u64 u) rfl h.own; exact ⟨a1, a2, a3, a4, a5, a6, h.len, h.wf, h.eq, a7⟩
theorem SR.set7 (h : SR w gr g gc gb fl A c lb wx kind n t sl L l b q s m k e) (o : OR w gr g gc gb) (u : Int) : SR w gr g gc gb fl A c lb (wx.setCell ⟨gc, 7, none⟩ (.int .u64 u)) kind n t sl L l b q s u k e := by
  obtain ⟨a1, a2, a3, a4, a5, a6, a7⟩ := h.setc o 7 (.int .u64 u) rfl h.own; exact ⟨a1, a2, a3, a4, a5, a6, h.len, h.wf, h.eq, a7⟩
end
end Go.Proofs.Ytnpodnieahokjaa
