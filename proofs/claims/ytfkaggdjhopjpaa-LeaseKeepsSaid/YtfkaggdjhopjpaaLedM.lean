/- Ledgers: a map that counts serials, in memory and plain. -/
import Derived.Test.YtfkaggdjhopjpaaLedA
import Derived.Maps.Own
import Derived.Maps.OwnOps
import Derived.Maps.OwnSet
import Derived.Maps.Views
import Derived.Maps.Keyed
import Derived.Carry
namespace Go.Proofs.Ytfkaggdjhopjpaa
set_option maxRecDepth 100000
open Go.RowKit Go.Maps

theorem lawU : Keyed Try.prog 22 := int_keyed Try.underlying22
/-- Block M is a map of at most n entries that counts f. -/
def Cnt (w : World) (M n : Nat) (f : Int → Nat) : Prop :=
  ∃ D : DataW Unit, w.ownsMap Try.prog 22 (plainElem Try.prog 3) M n D ∧ ∀ s, D.atKey (.int .u64 s) (.lit (.int .i64 0)) = .lit (.int .i64 (f s : Int))
theorem Cnt.made (w : World) : Cnt (w.alloc (.map #[] 0)) w.heap.size 0 (fun _ => 0) := ⟨_, World.ownsMap_made _ _ _ _, fun _ => rfl⟩
theorem Cnt.kept {w w' : World} {M n : Nat} {f : Int → Nat} {row : Option Nat} (h : Cnt w M n f) (hg : w.grownBy w' row) (hne : some M ≠ row) : Cnt w' M n f := by
  obtain ⟨D, h1, h2⟩ := h
  exact ⟨D, h1.kept hg hne, h2⟩
theorem Cnt.alloc {w : World} {M n : Nat} {f : Int → Nat} (h : Cnt w M n f) (o : Obj) : Cnt (w.alloc o) M n f := by
  obtain ⟨D, h1, h2⟩ := h
  exact ⟨D, h1.alloc o, h2⟩
theorem Cnt.lt {w : World} {M n : Nat} {f : Int → Nat} (h : Cnt w M n f) : M < w.heap.size := by
  obtain ⟨D, h1, _⟩ := h
  exact h1.lt
def cntS (l : List Hd) (k : Nat) (s : Int) : Nat := ((l.take k).filter fun h => h.ser == s).length
theorem cntS_zero (l : List Hd) : cntS l 0 = fun _ => 0 := rfl
theorem cntS_le (l : List Hd) (k : Nat) (s : Int) : cntS l k s ≤ k := by
  have h1 := List.length_filter_le (fun h : Hd => h.ser == s) (l.take k)
  have h2 : (l.take k).length ≤ k := by rw [List.length_take]; omega
  unfold cntS
  omega
theorem cntS_succ {l : List Hd} {k : Nat} (hk : k < l.length) : cntS l (k + 1) = fun x => if x = l[k].ser then cntS l k l[k].ser + 1 else cntS l k x := by
  funext x
  unfold cntS
  rw [← List.take_append_getElem hk, List.filter_append, List.length_append]
  by_cases hx : x = l[k].ser
  · subst hx
    simp
  · have : (l[k].ser == x) = false := beq_eq_false_iff_ne.2 (fun e => hx e.symm)
    simp [this, hx]
theorem cntS_none {l : List Hd} {k : Nat} {s : Int} : cntS l k s = 0 ↔ ∀ j (hj : j < l.length), j < k → l[j].ser ≠ s := by
  unfold cntS
  rw [List.length_eq_zero_iff, List.filter_eq_nil_iff]
  constructor
  · intro h j hj hjk
    have hm : l[j] ∈ l.take k := by
      rw [List.mem_take_iff_getElem]
      exact ⟨j, by omega, rfl⟩
    have := h _ hm
    simpa using this
  · intro h x hx
    rw [List.mem_take_iff_getElem] at hx
    obtain ⟨j, hj, rfl⟩ := hx
    have := h j (by omega) (by omega)
    simpa using this
/-- The token of the row ahead of k. -/
def prevT (l : List Hd) : Nat → Int
  | 0 => 0
  | k + 1 => ((l[k]?).map Hd.tok).getD 0
theorem prevT_succ {l : List Hd} {k : Nat} (hk : k < l.length) : prevT l (k + 1) = l[k].tok := by simp [prevT, hk]
def prevN (l : List Ls) : Nat → Int
  | 0 => 0
  | k + 1 => ((l[k]?).map Ls.nod).getD 0
theorem prevN_succ {l : List Ls} {k : Nat} (hk : k < l.length) : prevN l (k + 1) = l[k].nod := by simp [prevN, hk]
/-- As the code asks. -/
def hdB (lim nxt T : Int) (cnt : Nat) (h : Hd) : Bool := decide (T < h.tok) && (decide (h.tok ≤ lim) && (decide (1 ≤ h.nod ∧ h.nod ≤ 7) && (decide (1 ≤ h.bt) && (decide (1 ≤ h.stp) && (decide (1 ≤ h.ser) && (decide (h.ser < nxt) && decide ((cnt : Int) = 0)))))))
theorem hdB_iff {lim nxt : Int} {l : List Hd} {k : Nat} (hp : HdsOk lim nxt l k) (hk : k < l.length) : hdB lim nxt (prevT l k) (cntS l k l[k].ser) l[k] = true ↔ HdOk lim nxt l k l[k] := by
  have hT : 0 ≤ prevT l k := by
    cases k with
    | zero => exact Int.le_refl _
    | succ k =>
      rw [prevT_succ (by omega)]
      have := (hp k (by omega) (by omega)).tok1
      omega
  simp only [hdB, Bool.and_eq_true, decide_eq_true_eq]
  constructor
  · rintro ⟨h1, h2, ⟨h3, h4⟩, h5, h6, h7, h8, h9⟩
    refine ⟨fun h0 hl => ?_, by omega, h2, h3, h4, h5, h6, h7, h8, cntS_none.1 (by omega)⟩
    obtain ⟨k, rfl⟩ : ∃ m, k = m + 1 := ⟨k - 1, by omega⟩
    rw [prevT_succ (by omega)] at h1
    exact h1
  · intro h
    have h9 := cntS_none.2 h.once
    refine ⟨?_, h.tok2, ⟨h.nod1, h.nod2⟩, h.bt, h.stp, h.ser1, h.ser2, by omega⟩
    cases k with
    | zero =>
      have := h.tok1
      show (0 : Int) < _
      omega
    | succ k =>
      rw [prevT_succ (by omega)]
      exact h.rise (by omega) (by omega)
def lsB (lim nxt T : Int) (x : Ls) : Bool := decide (T < x.nod) && (decide (1 ≤ x.nod ∧ x.nod ≤ 7) && (decide (1 ≤ x.bt) && (decide (1 ≤ x.sq) && ansOk lim nxt x.cod x.tok x.ser)))
theorem lsB_iff {lim nxt : Int} {l : List Ls} {k : Nat} (hk : k < l.length) : lsB lim nxt (prevN l k) l[k] = true ↔ LsOk lim nxt l k l[k] := by
  simp only [lsB, Bool.and_eq_true, decide_eq_true_eq]
  constructor
  · rintro ⟨h1, ⟨h3, h4⟩, h5, h6, h7⟩
    refine ⟨fun h0 hl => ?_, h3, h4, h5, h6, h7⟩
    obtain ⟨k, rfl⟩ : ∃ m, k = m + 1 := ⟨k - 1, by omega⟩
    rw [prevN_succ (by omega)] at h1
    exact h1
  · intro h
    refine ⟨?_, ⟨h.nod1, h.nod2⟩, h.bt, h.sq, h.ans⟩
    cases k with
    | zero =>
      have := h.nod1
      show (0 : Int) < _
      omega
    | succ k =>
      rw [prevN_succ (by omega)]
      exact h.rise (by omega) (by omega)
def headB (lim nxt : Int) (n : Nat) : Bool := decide (1 ≤ lim) && (decide (lim ≤ 65535) && (decide (1 ≤ nxt) && decide ((n : Int) ≤ 64)))
theorem headB_iff {lim nxt : Int} {n : Nat} : headB lim nxt n = true ↔ HeadOk lim nxt n := by
  simp only [headB, Bool.and_eq_true, decide_eq_true_eq]
  exact ⟨fun ⟨h1, h2, h3, h4⟩ => ⟨h1, h2, h3, by omega⟩, fun ⟨h1, h2, h3, h4⟩ => ⟨h1, h2, h3, by omega⟩⟩
end Go.Proofs.Ytfkaggdjhopjpaa
