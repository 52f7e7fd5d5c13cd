/- Entries of a log, what lasts: plain, and in memory. -/
import Derived.Test.YtadkkhbbempaaaaCmdP
import Derived.Test.YtadkkhbbempaaaaShM
import Derived.Test.YtadkkhbbempaaaaShCp
namespace Go.Proofs.Ytadkkhbbempaaaa
set_option maxRecDepth 100000
open Go.RowKit

/-! ### Plain -/
/-- An entry: its term, its command. -/
structure En where
  tm : Int
  k : Int
  n : Int
  t : Int
  l : List Int
  b : Int
  q : Int
  s : Int
  m : Int
noncomputable def En.ok (e : En) : Bool := codeOk e.k e.n e.t e.l e.b e.q e.s e.m
structure En.Wf (e : En) : Prop where
  tm : 0 ≤ e.tm ∧ e.tm < 18446744073709551616
  k : (Lit.int .i64 e.k).wf = true
  n : (Lit.int .i64 e.n).wf = true
  t : (Lit.int .i64 e.t).wf = true
  l : e.l.length ≤ 17592186043904
  b : 0 ≤ e.b ∧ e.b < 18446744073709551616
  q : 0 ≤ e.q ∧ e.q < 18446744073709551616
  s : 0 ≤ e.s ∧ e.s < 18446744073709551616
  m : 0 ≤ e.m ∧ e.m < 18446744073709551616
/-- An entry, and where its list stands. -/
structure Ec where
  A : Option Addr
  c : Nat
  e : En
def ecC (x : Ec) : List Value := [.int .u64 x.e.tm, .int .i64 x.e.k, .int .i64 x.e.n, .int .i64 x.e.t, .slice x.A x.e.l.length x.c, .int .u64 x.e.b, .int .u64 x.e.q, .int .u64 x.e.s, .int .u64 x.e.m]
def ecA (x : Ec) : Array Value := #[.int .u64 x.e.tm, .int .i64 x.e.k, .int .i64 x.e.n, .int .i64 x.e.t, .slice x.A x.e.l.length x.c, .int .u64 x.e.b, .int .u64 x.e.q, .int .u64 x.e.s, .int .u64 x.e.m]
theorem ecC_len (x : Ec) : (ecC x).length = 9 := rfl
theorem ecC_one (x : Ec) : ∀ u ∈ ecC x, u.oneCell' = true := by
  intro u hu
  simp only [ecC, List.mem_cons, List.not_mem_nil, or_false] at hu
  rcases hu with rfl | rfl | rfl | rfl | rfl | rfl | rfl | rfl | rfl <;> rfl
/-- Entries whose terms do not fall below one that was ahead, all of whose commands may be. -/
noncomputable def logOk : Int → List En → Bool
  | _, [] => true
  | a, e :: l => decide (a ≤ e.tm ∧ 1 ≤ e.tm) && e.ok && logOk e.tm l
/-- The last term. -/
def lastTm : Int → List En → Int
  | a, [] => a
  | _, e :: l => lastTm e.tm l
theorem lastTm_app (a : Int) (l : List En) (e : En) : lastTm a (l ++ [e]) = e.tm := by
  induction l generalizing a with
  | nil => rfl
  | cons x l ih => exact ih x.tm
theorem logOk_app (a : Int) (l : List En) (e : En) : logOk a (l ++ [e]) = (logOk a l && (decide (lastTm a l ≤ e.tm ∧ 1 ≤ e.tm) && e.ok)) := by
  induction l generalizing a with
  | nil =>
    simp only [List.nil_append, logOk, lastTm, Bool.and_true, Bool.true_and]
    rfl
  | cons x l ih =>
    rw [List.cons_append]
    simp only [logOk, lastTm]
    rw [ih]
    simp only [Bool.and_assoc]
    rfl
/-- A snapshot. -/
structure Sh where
  i : Int
  t : Int
  ns : List Int
  lim : Int
  nxt : Int
  hs : List Hd
  ls : List Ls
def Sh.Ok (s : Sh) : Prop := ShotOk s.i s.t s.ns s.lim s.nxt s.hs s.ls
structure Sh.Wf (s : Sh) : Prop where
  i : 0 ≤ s.i ∧ s.i < 18446744073709551616
  t : 0 ≤ s.t ∧ s.t < 18446744073709551616
  ns : s.ns.length ≤ 17592186043904
  lim : (Lit.int .i64 s.lim).wf = true
  nxt : 0 ≤ s.nxt ∧ s.nxt < 18446744073709551616
  hs : ∀ h ∈ s.hs, h.Wf
  ls : ∀ x ∈ s.ls, x.Wf
/-- What lasts of a node. -/
structure Hrd where
  bt : Int
  tm : Int
  vt : Int
  sh : Sh
  log : List En
structure Hrd.Ok (h : Hrd) : Prop where
  bt : h.bt ≤ 4611686018427387904
  sh : h.sh.Ok
  i : h.sh.i ≤ 4611686018427387904
  last : h.sh.i + h.log.length ≤ 4611686018427387904
  v0 : 0 ≤ h.vt
  v7 : h.vt ≤ 7
  tv : h.tm = 0 → h.vt = 0
  log : logOk h.sh.t h.log = true
  tm : lastTm h.sh.t h.log ≤ h.tm
noncomputable instance (h : Hrd) : Decidable h.Ok := Classical.propDecidable _
structure Hrd.Wf (h : Hrd) : Prop where
  bt : 0 ≤ h.bt ∧ h.bt < 18446744073709551616
  tm : 0 ≤ h.tm ∧ h.tm < 18446744073709551616
  vt : (Lit.int .i64 h.vt).wf = true
  sh : h.sh.Wf
  log : ∀ e ∈ h.log, e.Wf
def errRec (b : Bool) : Int := if b then 0 else 130
theorem rec_bad {p : Prop} [Decidable p] (h : ¬ p) : errRec (decide p) = 130 := by rw [decide_eq_false h]; rfl
theorem rec_good {p : Prop} [Decidable p] (h : p) : errRec (decide p) = 0 := by rw [decide_eq_true h]; rfl

/-! ### In memory -/
structure EcAt (w : World) (b o : Nat) (x : Ec) : Prop where
  c0 : w.cell? ⟨b, o, none⟩ = some (.int .u64 x.e.tm)
  c1 : w.cell? ⟨b, o + 1, none⟩ = some (.int .i64 x.e.k)
  c2 : w.cell? ⟨b, o + 2, none⟩ = some (.int .i64 x.e.n)
  c3 : w.cell? ⟨b, o + 3, none⟩ = some (.int .i64 x.e.t)
  c4 : w.cell? ⟨b, o + 4, none⟩ = some (.slice x.A x.e.l.length x.c)
  c5 : w.cell? ⟨b, o + 5, none⟩ = some (.int .u64 x.e.b)
  c6 : w.cell? ⟨b, o + 6, none⟩ = some (.int .u64 x.e.q)
  c7 : w.cell? ⟨b, o + 7, none⟩ = some (.int .u64 x.e.s)
  c8 : w.cell? ⟨b, o + 8, none⟩ = some (.int .u64 x.e.m)
theorem InS.ec {w : World} {A : Option Addr} {c : Nat} {l : List Ec} (h : InS ecC 9 w A c l) (h0 : 0 < l.length) : ∃ b off, A = some ⟨b, off, none⟩ ∧ b < w.heap.size ∧ ∀ (j : Nat) (hj : j < l.length), EcAt w b (off + j * 9) l[j] := by
  obtain ⟨b, off, e, hb, hc⟩ := h.all ecC_len h0
  refine ⟨b, off, e, hb, fun j hj => ⟨?_, ?_, ?_, ?_, ?_, ?_, ?_, ?_, ?_⟩⟩
  · exact hc j hj 0 _ (by omega) rfl
  · rw [Nat.add_assoc]; exact hc j hj 1 _ (by omega) rfl
  · rw [Nat.add_assoc]; exact hc j hj 2 _ (by omega) rfl
  · rw [Nat.add_assoc]; exact hc j hj 3 _ (by omega) rfl
  · rw [Nat.add_assoc]; exact hc j hj 4 _ (by omega) rfl
  · rw [Nat.add_assoc]; exact hc j hj 5 _ (by omega) rfl
  · rw [Nat.add_assoc]; exact hc j hj 6 _ (by omega) rfl
  · rw [Nat.add_assoc]; exact hc j hj 7 _ (by omega) rfl
  · rw [Nat.add_assoc]; exact hc j hj 8 _ (by omega) rfl
theorem Blk.ec {w : World} {g : Nat} {T : TypeId} {x : Ec} (hb : Blk w g T (ecA x)) : EcAt w g 0 x := by
  constructor <;> (rw [hb.cell]; rfl)
/-- Entries that are read: their row, and each one's list. -/
structure InE (w : World) (A : Option Addr) (c : Nat) (xs : List Ec) : Prop where
  rows : InS ecC 9 w A c xs
  inn : ∀ x ∈ xs, InN .i64 w x.A x.c x.e.l
  small : xs.length * 88 ≤ 140737488355328
theorem InE.keep {w w1 : World} {A : Option Addr} {c : Nat} {xs : List Ec} (h : InE w A c xs) (hb : Below w.heap.size w w1) : InE w1 A c xs := ⟨h.rows.keep hb, fun x hx => (h.inn x hx).keep hb, h.small⟩
theorem InE.nil {w : World} : InE w none 0 [] := ⟨InS.nil, (fun x hx => by cases hx), by simp⟩
/-- Where a snapshot's slices stand. -/
structure Sa where
  A0 : Option Addr
  c0 : Nat
  A1 : Option Addr
  c1 : Nat
  A2 : Option Addr
  c2 : Nat
structure InSh (w : World) (s : Sh) (a : Sa) : Prop where
  n : InN .i64 w a.A0 a.c0 s.ns
  h : InS hdC 5 w a.A1 a.c1 s.hs
  l : InS lsC 6 w a.A2 a.c2 s.ls
theorem InSh.keep {w w1 : World} {s : Sh} {a : Sa} (h : InSh w s a) (hb : Below w.heap.size w w1) : InSh w1 s a := ⟨h.n.keep hb, h.h.keep hb, h.l.keep hb⟩
def shtV (s : Sh) (a : Sa) : Value := .agg #[.int .u64 s.i, .int .u64 s.t, .slice a.A0 s.ns.length a.c0, .int .i64 s.lim, .int .u64 s.nxt, .slice a.A1 s.hs.length a.c1, .slice a.A2 s.ls.length a.c2]
def shtC (s : Sh) (a : Sa) : Array Value := #[.int .u64 s.i, .int .u64 s.t, .slice a.A0 s.ns.length a.c0, .int .i64 s.lim, .int .u64 s.nxt, .slice a.A1 s.hs.length a.c1, .slice a.A2 s.ls.length a.c2]
/-- Without its log, which stands beside it with its lists' places. -/
structure Hb where
  bt : Int
  tm : Int
  vt : Int
  sh : Sh
def Hb.hrd (h : Hb) (xs : List Ec) : Hrd := ⟨h.bt, h.tm, h.vt, h.sh, xs.map (·.e)⟩
structure InH (w : World) (h : Hb) (p : Sa) (PA : Option Addr) (PC : Nat) (xs : List Ec) : Prop where
  sh : InSh w h.sh p
  log : InE w PA PC xs
theorem InH.keep {w w1 : World} {h : Hb} {p : Sa} {PA : Option Addr} {PC : Nat} {xs : List Ec} (k : InH w h p PA PC xs) (hb : Below w.heap.size w w1) : InH w1 h p PA PC xs := ⟨k.sh.keep hb, k.log.keep hb⟩
def hrdC (h : Hb) (p : Sa) (PA : Option Addr) (PC : Nat) (xs : List Ec) : Array Value := #[.int .u64 h.bt, .int .u64 h.tm, .int .i64 h.vt, .int .u64 h.sh.i, .int .u64 h.sh.t, .slice p.A0 h.sh.ns.length p.c0, .int .i64 h.sh.lim, .int .u64 h.sh.nxt, .slice p.A1 h.sh.hs.length p.c1, .slice p.A2 h.sh.ls.length p.c2, .slice PA xs.length PC]
def hrdV (h : Hb) (p : Sa) (PA : Option Addr) (PC : Nat) (xs : List Ec) : Value := .agg #[.int .u64 h.bt, .int .u64 h.tm, .int .i64 h.vt, .int .u64 h.sh.i, .int .u64 h.sh.t, .slice p.A0 h.sh.ns.length p.c0, .int .i64 h.sh.lim, .int .u64 h.sh.nxt, .slice p.A1 h.sh.hs.length p.c1, .slice p.A2 h.sh.ls.length p.c2, .slice PA xs.length PC]
structure HrdAt (w : World) (g : Nat) (h : Hb) (p : Sa) (PA : Option Addr) (PC : Nat) (xs : List Ec) : Prop where
  z0 : w.cell? ⟨g, 0, none⟩ = some (.int .u64 h.bt)
  z1 : w.cell? ⟨g, 1, none⟩ = some (.int .u64 h.tm)
  z2 : w.cell? ⟨g, 2, none⟩ = some (.int .i64 h.vt)
  z3 : w.cell? ⟨g, 3, none⟩ = some (.int .u64 h.sh.i)
  z4 : w.cell? ⟨g, 4, none⟩ = some (.int .u64 h.sh.t)
  z5 : w.cell? ⟨g, 5, none⟩ = some (.slice p.A0 h.sh.ns.length p.c0)
  z6 : w.cell? ⟨g, 6, none⟩ = some (.int .i64 h.sh.lim)
  z7 : w.cell? ⟨g, 7, none⟩ = some (.int .u64 h.sh.nxt)
  z8 : w.cell? ⟨g, 8, none⟩ = some (.slice p.A1 h.sh.hs.length p.c1)
  z9 : w.cell? ⟨g, 9, none⟩ = some (.slice p.A2 h.sh.ls.length p.c2)
  z10 : w.cell? ⟨g, 10, none⟩ = some (.slice PA xs.length PC)
theorem Blk.hrd {w : World} {g : Nat} {T : TypeId} {h : Hb} {p : Sa} {PA : Option Addr} {PC : Nat} {xs : List Ec} (k : Blk w g T (hrdC h p PA PC xs)) : HrdAt w g h p PA PC xs := by
  constructor <;> (rw [k.cell]; rfl)
theorem info_Hard : (Try.prog.info? 32).map (·.size) = some 11 := by kernel_rfl
theorem info_Entry : (Try.prog.info? 46).map (fun i => (i.zero, i.size, i.bytes)) = some (some (.agg #[.int .u64 0, .int .i64 0, .int .i64 0, .int .i64 0, .slice none 0 0, .int .u64 0, .int .u64 0, .int .u64 0, .int .u64 0]), 9, 88) := by kernel_rfl
end Go.Proofs.Ytadkkhbbempaaaa
