/- Texts drawn together (14 of them): words, plain laws and walks that the row leans on. -/
import Derived.Test.YtadkkhbbempaaaaP1
import Derived.Maps.Own
import Derived.Maps.OwnOps
import Derived.Maps.OwnSet
import Derived.Maps.Views
import Derived.Maps.Keyed
import Derived.Carry
import Derived.Deep.DeepCutAuto
import Derived.Lib.SliceRun
import Derived.Deep.RegionLaw
import Derived.Laws.Tables
import Derived.Deep.MidRow
/- Ledgers: which answers may stand in a Last, by the code and by the document. -/
namespace Go.Proofs.Ytadkkhbbempaaaa
set_option maxRecDepth 100000
open Go.RowKit

theorem wrap_pred {x : Int} (h1 : 1 ≤ x) (h2 : x < 18446744073709551616) : IntKind.u64.wrap (x - 1) = x - 1 := by
  rw [IntKind.wrap_u64]
  omega
theorem wrap_pred0 : IntKind.u64.wrap (-1) = 18446744073709551615 := by
  rw [IntKind.wrap_u64]
  rfl

set_option maxRecDepth 100000 in
set_option maxHeartbeats 4000000 in
theorem ledger_answer_any (w : World) (lim nxt : Int) (hl ll : Value) (cod tok ser : Int) (hn : 1 ≤ nxt ∧ nxt < 18446744073709551616) (hs : 0 ≤ ser ∧ ser < 18446744073709551616) :
    Calls Try.prog 98 #[ledV lim nxt hl ll, .agg #[.int .i64 cod, .int .i64 tok, .int .u64 ser]] w fun e w' => e = .returned (.bool (ansOk lim nxt cod tok ser)) ∧ Below w.heap.size w w' := by
  have hB : Below w.heap.size w ((w.alloc (.cells #[.int .i64 lim, .int .u64 nxt, hl, ll] 27)).alloc (.cells #[.int .i64 cod, .int .i64 tok, .int .u64 ser] 121)) := ((Below.refl _ _).alloc (Nat.le_refl _) _).alloc (by simp) _
  have HB := Lib.hid hB
  have en := wrap_pred hn.1 hn.2
  unfold ledV
  clear hB
  by_cases hc : cod = 1
  · subst hc
    have hgen : ansOk lim nxt 1 tok ser = decide (1 ≤ tok ∧ tok ≤ lim ∧ 1 ≤ ser ∧ ser < nxt) := by simp [ansOk]
    rw [hgen]
    clear hgen
    by_cases h1 : 1 ≤ tok
    rotate_left
    · rw [decide_eq_false (by omega)]
      go_enter Try.func98, Try.ntmps98
      go_wp2
      go_ret
      exact ⟨rfl, HB.out⟩
    by_cases h2 : tok ≤ lim
    rotate_left
    · rw [decide_eq_false (by omega)]
      go_enter Try.func98, Try.ntmps98
      go_wp2
      go_ret
      exact ⟨rfl, HB.out⟩
    by_cases h3 : ser = 0
    · subst h3
      have e0 := wrap_pred0
      rw [decide_eq_false (by omega)]
      have hd : decide ((18446744073709551615 : Int) < nxt - 1) = false := decide_eq_false (by omega)
      go_enter Try.func98, Try.ntmps98
      go_wp2
      go_ret
      exact ⟨rfl, HB.out⟩
    · have e0 := wrap_pred (x := ser) (by omega) hs.2
      have hd : decide (1 ≤ tok ∧ tok ≤ lim ∧ 1 ≤ ser ∧ ser < nxt) = decide (IntKind.u64.wrap (ser - 1) < IntKind.u64.wrap (nxt - 1)) := by
        rw [e0, en]
        exact decide_eq_decide.2 (by omega)
      rw [hd]
      clear hd h3 hs hn e0 en
      go_enter Try.func98, Try.ntmps98
      go_wp2
      go_ret
      exact ⟨rfl, HB.out⟩
  · have hgen : ansOk lim nxt cod tok ser = decide (2 ≤ cod ∧ cod ≤ 5 ∧ tok = 0 ∧ ser = 0) := by simp [ansOk, hc]
    rw [hgen]
    clear hgen en
    by_cases h1 : 1 < cod
    rotate_left
    · rw [decide_eq_false (by omega)]
      go_enter Try.func98, Try.ntmps98
      go_wp2
      go_ret
      exact ⟨rfl, HB.out⟩
    by_cases h2 : cod < 6
    rotate_left
    · rw [decide_eq_false (by omega)]
      go_enter Try.func98, Try.ntmps98
      go_wp2
      go_ret
      exact ⟨rfl, HB.out⟩
    by_cases h3 : tok = 0
    rotate_left
    · rw [decide_eq_false (by omega)]
      go_enter Try.func98, Try.ntmps98
      go_wp2
      go_ret
      exact ⟨rfl, HB.out⟩
    subst h3
    by_cases h4 : ser = 0
    rotate_left
    · rw [decide_eq_false (by omega)]
      go_enter Try.func98, Try.ntmps98
      go_wp2
      go_ret
      exact ⟨rfl, HB.out⟩
    subst h4
    rw [decide_eq_true (by omega)]
    go_enter Try.func98, Try.ntmps98
    go_wp2
    go_ret
    exact ⟨rfl, HB.out⟩

set_option maxRecDepth 100000 in
set_option maxHeartbeats 4000000 in
theorem r05_answer_any (w : World) (lim nxt : Int) (hl ll : Value) (cod tok ser : Int) :
    Calls Try.prog 99 #[ledV lim nxt hl ll, .agg #[.int .i64 cod, .int .i64 tok, .int .u64 ser]] w fun e w' => e = .returned (.bool (ansOk lim nxt cod tok ser)) ∧ Below w.heap.size w w' := by
  have hB : Below w.heap.size w ((w.alloc (.cells #[.int .i64 lim, .int .u64 nxt, hl, ll] 27)).alloc (.cells #[.int .i64 cod, .int .i64 tok, .int .u64 ser] 121)) := ((Below.refl _ _).alloc (Nat.le_refl _) _).alloc (by simp) _
  have HB := Lib.hid hB
  unfold ledV
  clear hB
  by_cases hc : cod = 1
  · subst hc
    have hgen : ansOk lim nxt 1 tok ser = (decide (1 ≤ tok) && (decide (tok ≤ lim) && (decide (1 ≤ ser) && decide (ser < nxt)))) := by
      simp only [ansOk, if_pos]
      rw [← Bool.decide_and, ← Bool.decide_and, ← Bool.decide_and]
    rw [hgen]
    clear hgen
    by_cases h1 : 1 ≤ tok
    rotate_left
    · rw [decide_eq_false h1, Bool.false_and]
      go_enter Try.func99, Try.ntmps99
      go_wp2
      go_ret
      exact ⟨rfl, HB.out⟩
    rw [decide_eq_true h1, Bool.true_and]
    by_cases h2 : tok ≤ lim
    rotate_left
    · rw [decide_eq_false h2, Bool.false_and]
      go_enter Try.func99, Try.ntmps99
      go_wp2
      go_ret
      exact ⟨rfl, HB.out⟩
    rw [decide_eq_true h2, Bool.true_and]
    by_cases h3 : 1 ≤ ser
    rotate_left
    · rw [decide_eq_false h3, Bool.false_and]
      go_enter Try.func99, Try.ntmps99
      go_wp2
      go_ret
      exact ⟨rfl, HB.out⟩
    rw [decide_eq_true h3, Bool.true_and]
    go_enter Try.func99, Try.ntmps99
    go_wp2
    go_ret
    exact ⟨rfl, HB.out⟩
  · by_cases h2 : 2 ≤ cod ∧ cod ≤ 5
    · have hgen : ansOk lim nxt cod tok ser = (decide (tok = 0) && decide (ser = 0)) := by
        simp only [ansOk, if_neg hc]
        rw [← Bool.decide_and]
        exact decide_eq_decide.2 (by omega)
      rw [hgen]
      clear hgen
      have hcs : cod = 2 ∨ cod = 3 ∨ cod = 4 ∨ cod = 5 := by omega
      clear hc h2
      rcases hcs with rfl | rfl | rfl | rfl
      all_goals
        by_cases h3 : tok = 0
        · subst h3
          rw [decide_eq_true rfl, Bool.true_and]
          go_enter Try.func99, Try.ntmps99
          go_wp2
          go_ret
          exact ⟨rfl, HB.out⟩
        · rw [decide_eq_false h3, Bool.false_and]
          go_enter Try.func99, Try.ntmps99
          go_wp2
          go_ret
          exact ⟨rfl, HB.out⟩
    · have hgen : ansOk lim nxt cod tok ser = false := by
        simp only [ansOk, if_neg hc]
        exact decide_eq_false (by omega)
      rw [hgen]
      have n2 : ¬ cod = 2 := by omega
      have n3 : ¬ cod = 3 := by omega
      have n4 : ¬ cod = 4 := by omega
      have n5 : ¬ cod = 5 := by omega
      clear hgen h2
      go_enter Try.func99, Try.ntmps99
      go_wp2
      go_ret
      exact ⟨rfl, HB.out⟩
end Go.Proofs.Ytadkkhbbempaaaa

/- Ledgers: a map that counts serials, in memory and plain. -/
namespace Go.Proofs.Ytadkkhbbempaaaa
set_option maxRecDepth 100000
open Go.RowKit Go.Maps

theorem lawU : Keyed Try.prog 22 := int_keyed Try.underlying22
/-- Block M is a map of at most n entries that counts f. -/
def Cnt (w : World) (M n : Nat) (f : Int → Nat) : Prop :=
  ∃ D : DataW Unit, w.ownsMap Try.prog 22 (plainElem Try.prog 3) M n D ∧ ∀ s, D.atKey (.int .u64 s) (.lit (.int .i64 0)) = .lit (.int .i64 (f s : Int))
theorem Cnt.made (w : World) : Cnt (w.alloc (.map #[] 0)) w.heap.size 0 (fun _ => 0) := ⟨_, World.ownsMap_made _ _ _ _, fun _ => rfl⟩
theorem Cnt.kept {w w' : World} {M n : Nat} {f : Int → Nat} {row : Option Nat} (h : Cnt w M n f) (hg : w.grownBy w' row) (hne : some M ≠ row) : Cnt w' M n f := by
  obtain ⟨D, h1, h2⟩ := h
  exact ⟨D, h1.kept hg hne, h2⟩
theorem Cnt.alloc {w : World} {M n : Nat} {f : Int → Nat} (h : Cnt w M n f) (o : Obj) : Cnt (w.alloc o) M n f := by
  obtain ⟨D, h1, h2⟩ := h
  exact ⟨D, h1.alloc o, h2⟩
theorem Cnt.lt {w : World} {M n : Nat} {f : Int → Nat} (h : Cnt w M n f) : M < w.heap.size := by
  obtain ⟨D, h1, _⟩ := h
  exact h1.lt
theorem Cnt.look {w : World} {M n : Nat} {f : Int → Nat} (h : Cnt w M n f) {s : Int} (hs : (Lit.int .u64 s).wf = true) :
    (Instr.lookup 139 (.map (some M)) (.int .u64 s) false).run Try.prog w = .ok (.int .i64 (f s : Int)) w := by
  obtain ⟨D, h1, h2⟩ := h
  obtain ⟨c, hrun, hat, _⟩ := h1.lookup_int lawU Try.underlying139 Try.underlying3 (by kernel_rfl) (keyOf_int_mk Try.underlying22 hs)
  rw [h2] at hat
  injection hat with hat
  injection hat with _ hat
  rw [hat]
  exact hrun
theorem Cnt.upd {w : World} {M n : Nat} {f : Int → Nat} (h : Cnt w M n f) {s : Int} (hs : (Lit.int .u64 s).wf = true) (hn : n < maxLen) (hf : f s < 1000000000000000) :
    ∃ w', (Instr.mapUpdate 139 (.map (some M)) (.int .u64 s) (.int .i64 ((f s : Int) + 1))).run Try.prog w = .ok () w' ∧ Cnt w' M (n + 1) (fun x => if x = s then f s + 1 else f x) ∧ w.grownBy w' (some M) := by
  obtain ⟨D, h1, h2⟩ := h
  have hv : (Lit.int .i64 ((f s : Int) + 1)).wf = true := by
    simp [Lit.wf, IntKind.min, IntKind.max, IntKind.bits, IntKind.signed]
    omega
  obtain ⟨w', hrun, h3, h4⟩ := h1.update lawU Try.underlying139 hn (keyOf_int_mk Try.underlying22 hs) (plainElem_int Try.underlying3 hv)
  refine ⟨w', hrun, ⟨_, h3, fun x => ?_⟩, h4⟩
  show DataW.atKey _ _ _ = DataW.lit (Lit.int .i64 ((if x = s then f s + 1 else f x : Nat) : Int))
  by_cases hx : x = s
  · subst hx
    rw [if_pos rfl, atKey_put_same h1.isMap (show Go.WideAt.IsKeyLit (.int .u64 x) from trivial)]
    rfl
  · rw [if_neg hx, atKey_put_other (fun e => hx (by injection e)), h2]

/-! ### Plain: how often a serial stands among the first k -/
def cntS (l : List Hd) (k : Nat) (s : Int) : Nat := ((l.take k).filter fun h => h.ser == s).length
theorem cntS_zero (l : List Hd) : cntS l 0 = fun _ => 0 := rfl
theorem cntS_le (l : List Hd) (k : Nat) (s : Int) : cntS l k s ≤ k := by
  have h1 := List.length_filter_le (fun h : Hd => h.ser == s) (l.take k)
  have h2 : (l.take k).length ≤ k := by rw [List.length_take]; omega
  unfold cntS
  omega
theorem cntS_succ {l : List Hd} {k : Nat} (hk : k < l.length) : cntS l (k + 1) = fun x => if x = l[k].ser then cntS l k l[k].ser + 1 else cntS l k x := by
  funext x
  unfold cntS
  rw [← List.take_append_getElem hk, List.filter_append, List.length_append]
  by_cases hx : x = l[k].ser
  · subst hx
    simp
  · have : (l[k].ser == x) = false := beq_eq_false_iff_ne.2 (fun e => hx e.symm)
    simp [this, hx]
theorem cntS_none {l : List Hd} {k : Nat} {s : Int} : cntS l k s = 0 ↔ ∀ j (hj : j < l.length), j < k → l[j].ser ≠ s := by
  unfold cntS
  rw [List.length_eq_zero_iff, List.filter_eq_nil_iff]
  constructor
  · intro h j hj hjk
    have hm : l[j] ∈ l.take k := by
      rw [List.mem_take_iff_getElem]
      exact ⟨j, by omega, rfl⟩
    have := h _ hm
    simpa using this
  · intro h x hx
    rw [List.mem_take_iff_getElem] at hx
    obtain ⟨j, hj, rfl⟩ := hx
    have := h j (by omega) (by omega)
    simpa using this
/-- The token of the row ahead of k. -/
def prevT (l : List Hd) : Nat → Int
  | 0 => 0
  | k + 1 => ((l[k]?).map Hd.tok).getD 0
theorem prevT_succ {l : List Hd} {k : Nat} (hk : k < l.length) : prevT l (k + 1) = l[k].tok := by simp [prevT, hk]
def prevN (l : List Ls) : Nat → Int
  | 0 => 0
  | k + 1 => ((l[k]?).map Ls.nod).getD 0
theorem prevN_succ {l : List Ls} {k : Nat} (hk : k < l.length) : prevN l (k + 1) = l[k].nod := by simp [prevN, hk]
/-- As the code asks. -/
def hdB (lim nxt T : Int) (cnt : Nat) (h : Hd) : Bool := decide (T < h.tok) && (decide (h.tok ≤ lim) && (decide (1 ≤ h.nod ∧ h.nod ≤ 7) && (decide (1 ≤ h.bt) && (decide (1 ≤ h.stp) && (decide (1 ≤ h.ser) && (decide (h.ser < nxt) && decide ((cnt : Int) = 0)))))))
theorem hdB_iff {lim nxt : Int} {l : List Hd} {k : Nat} (hp : HdsOk lim nxt l k) (hk : k < l.length) : hdB lim nxt (prevT l k) (cntS l k l[k].ser) l[k] = true ↔ HdOk lim nxt l k l[k] := by
  have hT : 0 ≤ prevT l k := by
    cases k with
    | zero => exact Int.le_refl _
    | succ k =>
      rw [prevT_succ (by omega)]
      have := (hp k (by omega) (by omega)).tok1
      omega
  simp only [hdB, Bool.and_eq_true, decide_eq_true_eq]
  constructor
  · rintro ⟨h1, h2, ⟨h3, h4⟩, h5, h6, h7, h8, h9⟩
    refine ⟨fun h0 hl => ?_, by omega, h2, h3, h4, h5, h6, h7, h8, cntS_none.1 (by omega)⟩
    obtain ⟨k, rfl⟩ : ∃ m, k = m + 1 := ⟨k - 1, by omega⟩
    rw [prevT_succ (by omega)] at h1
    exact h1
  · intro h
    have h9 := cntS_none.2 h.once
    refine ⟨?_, h.tok2, ⟨h.nod1, h.nod2⟩, h.bt, h.stp, h.ser1, h.ser2, by omega⟩
    cases k with
    | zero =>
      have := h.tok1
      show (0 : Int) < _
      omega
    | succ k =>
      rw [prevT_succ (by omega)]
      exact h.rise (by omega) (by omega)
def lsB (lim nxt T : Int) (x : Ls) : Bool := decide (T < x.nod) && (decide (1 ≤ x.nod ∧ x.nod ≤ 7) && (decide (1 ≤ x.bt) && (decide (1 ≤ x.sq) && ansOk lim nxt x.cod x.tok x.ser)))
theorem lsB_iff {lim nxt : Int} {l : List Ls} {k : Nat} (hk : k < l.length) : lsB lim nxt (prevN l k) l[k] = true ↔ LsOk lim nxt l k l[k] := by
  simp only [lsB, Bool.and_eq_true, decide_eq_true_eq]
  constructor
  · rintro ⟨h1, ⟨h3, h4⟩, h5, h6, h7⟩
    refine ⟨fun h0 hl => ?_, h3, h4, h5, h6, h7⟩
    obtain ⟨k, rfl⟩ : ∃ m, k = m + 1 := ⟨k - 1, by omega⟩
    rw [prevN_succ (by omega)] at h1
    exact h1
  · intro h
    refine ⟨?_, ⟨h.nod1, h.nod2⟩, h.bt, h.sq, h.ans⟩
    cases k with
    | zero =>
      have := h.nod1
      show (0 : Int) < _
      omega
    | succ k =>
      rw [prevN_succ (by omega)]
      exact h.rise (by omega) (by omega)
def headB (lim nxt : Int) (n : Nat) : Bool := decide (1 ≤ lim) && (decide (lim ≤ 65535) && (decide (1 ≤ nxt) && decide ((n : Int) ≤ 64)))
theorem headB_iff {lim nxt : Int} {n : Nat} : headB lim nxt n = true ↔ HeadOk lim nxt n := by
  simp only [headB, Bool.and_eq_true, decide_eq_true_eq]
  exact ⟨fun ⟨h1, h2, h3, h4⟩ => ⟨h1, h2, h3, by omega⟩, fun ⟨h1, h2, h3, h4⟩ => ⟨h1, h2, h3, by omega⟩⟩
end Go.Proofs.Ytadkkhbbempaaaa

/- Ledgers: the code's Check. -/
namespace Go.Proofs.Ytadkkhbbempaaaa
set_option maxRecDepth 100000
open Go.RowKit

set_option maxRecDepth 100000 in
set_option maxHeartbeats 8000000 in
theorem ledger_Check_any (w : World) (lim nxt : Int) (Ah : Option Addr) (ch : Nat) (hs : List Hd) (Al : Option Addr) (cl : Nat) (ls : List Ls) (hh : InS hdC 5 w Ah ch hs) (hl : InS lsC 6 w Al cl ls)
    (hw1 : ∀ h ∈ hs, h.Wf) (hw2 : ∀ x ∈ ls, x.Wf) (hn : nxt < 18446744073709551616) :
    Calls Try.prog 67 #[ledV lim nxt (.slice Ah hs.length ch) (.slice Al ls.length cl)] w fun e w' => e = .returned (.int .i64 (errLed (decide (LedOk lim nxt hs ls)))) ∧ Below w.heap.size w w' := by
  have HH := Lib.hid hh
  have HL := Lib.hid hl
  have HW1 := Lib.hid hw1
  have HW2 := Lib.hid hw2
  have HN := Lib.hid hn
  have hsz1 := hh.small
  have hsz2 := hl.small
  have hcp1 := hh.cap
  have hcp2 := hl.cap
  obtain ⟨B, hB⟩ : ∃ B, decide (LedOk lim nxt hs ls) = B := ⟨_, rfl⟩
  rw [hB]
  have HOK := Lib.hid hB
  obtain ⟨g, hg⟩ : ∃ g, w.heap.size = g := ⟨_, rfl⟩
  rw [hg]
  have hb0 : Blk (w.alloc (.cells (ledC lim nxt (.slice Ah hs.length ch) (.slice Al ls.length cl)) 27)) g 27 (ledC lim nxt (.slice Ah hs.length ch) (.slice Al ls.length cl)) := hg ▸ Blk.new _ _ _
  have hB0 : Below g w (w.alloc (.cells (ledC lim nxt (.slice Ah hs.length ch) (.slice Al ls.length cl)) 27)) := (Below.refl _ _).alloc (by omega) _
  clear hB hh hl hw1 hw2 hn
  have CN := Lib.hid (fun W n => ledger_node_any W n)
  have CA := fun W hl ll cod tok ser h1 h2 => ledger_answer_any W lim nxt hl ll cod tok ser h1 h2
  unfold ledV at CA ⊢
  have CA := Lib.hid CA
  go_enter Try.func67, Try.ntmps67
  go_upto_region 1 with (fail)
  change Code.wp _ _ _ _ (w.alloc (.cells (ledC lim nxt (.slice Ah hs.length ch) (.slice Al ls.length cl)) 27))
  generalize (w.alloc (.cells (ledC lim nxt (.slice Ah hs.length ch) (.slice Al ls.length cl)) 27)) = W at hb0 hB0 ⊢
  obtain ⟨q0, q1, q2, q3⟩ := hb0.led
  go_cut [3] (fun x wx => x = .bool (headB lim nxt hs.length) ∧ wx = W)
  case first =>
    by_cases h1 : 1 ≤ lim
    rotate_left
    · go_wp2
      go_meet
      case rel => exact ⟨by rw [headB, show decide (1 ≤ lim) = false from decide_eq_false (by omega)]; rfl, rfl⟩
    by_cases h2 : lim ≤ 65535
    rotate_left
    · go_wp2
      go_meet
      case rel => exact ⟨by rw [headB, show decide (1 ≤ lim) = true from decide_eq_true (by omega), show decide (lim ≤ 65535) = false from decide_eq_false (by omega)]; rfl, rfl⟩
    by_cases h3 : 1 ≤ nxt
    rotate_left
    · go_wp2
      go_meet
      case rel => exact ⟨by rw [headB, show decide (1 ≤ lim) = true from decide_eq_true (by omega), show decide (lim ≤ 65535) = true from decide_eq_true (by omega), show decide (1 ≤ nxt) = false from decide_eq_false (by omega)]; rfl, rfl⟩
    go_wp2
    go_meet
    case rel => exact ⟨by rw [headB, show decide (1 ≤ lim) = true from decide_eq_true (by omega), show decide (lim ≤ 65535) = true from decide_eq_true (by omega), show decide (1 ≤ nxt) = true from decide_eq_true (by omega)]; rfl, rfl⟩
  case rest =>
  obtain ⟨rfl, hcw⟩ := hcut
  obtain rfl := hcw.symm
  obtain ⟨HB, hHB⟩ : ∃ HB, headB lim nxt hs.length = HB := ⟨_, rfl⟩
  rw [hHB]
  have HHB := Lib.hid hHB
  clear hHB q0 q1 q2 q3
  have hmm := @run_makeMap Try.prog
  obtain ⟨M, hM⟩ : ∃ M, W.heap.size = M := ⟨_, rfl⟩
  have hltM : g < M := hM ▸ hb0.lt
  have hb1 := hb0.alloc (.map #[] 0)
  have hB1 : Below g w (W.alloc (.map #[] 0)) := hB0.alloc (by omega) _
  have H0 : Hid (Cnt (W.alloc (.map #[] 0)) M 0 (cntS hs 0)) := hM ▸ Cnt.made W
  clear hB0 hb0
  go_upto_region 3 with (fail)
  change Code.wp _ _ _ _ (W.alloc (.map #[] 0))
  generalize W.alloc (.map #[] 0) = W1 at hb1 hB1 H0 ⊢
  try rw [hM]
  clear hM hmm

  obtain ⟨q0, q1, q2, q3⟩ := hb1.led
  go_wp2_with fail
  clear q0 q1 q2 q3
  go_loopw [3, 5, 7, 34] (fun gd tk _ i wr => ∃ (k : Nat) (G : Bool), gd = .bool G ∧ tk = .int .i64 (prevT hs k) ∧ i = .int .i64 (k : Int) ∧ k ≤ hs.length ∧ (G = true ↔ (HB = true ∧ HdsOk lim nxt hs k)) ∧ Cnt wr M k (cntS hs k) ∧ Blk wr g 27 (ledC lim nxt (.slice Ah hs.length ch) (.slice Al ls.length cl)) ∧ Below g w wr) (fun _ _ _ i _ => hs.length - (intOf i).toNat)
  case atStart => exact ⟨0, HB, rfl, rfl, rfl, by omega, ⟨fun h => ⟨h, HdsOk.zero⟩, fun h => h.1⟩, H0.out, hb1, hB1⟩
  case round =>
    clear H0 hb1 hB1
    obtain ⟨k, G, rfl, rfl, rfl, hk, hG, hcn, hbr, hBr⟩ := hrel
    have HG := Lib.hid hG
    have HBB := Lib.hid hBr
    by_cases hlt : k < hs.length
    · obtain ⟨b, off, rfl, hbl, hall⟩ := (HH.out.keep (by rw [hg]; exact hBr)).hd (by omega)
      have hd := hall k hlt
      have hwx := HW1.out _ (List.getElem_mem hlt)
      obtain ⟨x, hx⟩ : ∃ x, hs[k] = x := ⟨_, rfl⟩
      rw [hx] at hd hwx
      have HX := Lib.hid hx
      obtain ⟨q0, q1, q2, q3⟩ := hbr.led
      obtain ⟨c0, c1, c2, c3, c4⟩ := hd
      obtain ⟨gh, hgh⟩ : ∃ gh, wr.heap.size = gh := ⟨_, rfl⟩
      have hlt0 : g < gh := hgh ▸ hbr.lt
      have hlM : M < gh := hgh ▸ hcn.lt
      have hnew : Blk (wr.alloc (.cells (hdA x) 98)) gh 98 (hdA x) := hgh ▸ Blk.new _ _ _
      have hbr2 := hbr.alloc (.cells (hdA x) 98)
      have hcn2 := hcn.alloc (.cells (hdA x) 98)
      have hBr2 := hBr.alloc (by omega) (.cells (hdA x) 98)
      have hws : (Lit.int .u64 x.ser).wf = true := by
        have := hwx.ser
        simp [Lit.wf, IntKind.min, IntKind.max, IntKind.bits, IntKind.signed]
        omega
      clear hall hG hcn hBr hbr hx hwx
      go_upto_region 7 with (fail)
      change Code.wp _ _ _ _ (wr.alloc (.cells (hdA x) 98))
      generalize wr.alloc (.cells (hdA x) 98) = W2 at hnew hbr2 hcn2 hBr2 ⊢
      try rw [hgh]
      clear c0 c1 c2 c3 c4 q0 q1 q2 q3 hgh hbl
      obtain ⟨q0, q1, q2, q3⟩ := hbr2.led
      have d0 : W2.cell? ⟨gh, 0, none⟩ = some (.int .i64 x.tok) := (hnew.cell 0).trans rfl
      have d1 : W2.cell? ⟨gh, 1, none⟩ = some (.int .i64 x.nod) := (hnew.cell 1).trans rfl
      have d2 : W2.cell? ⟨gh, 2, none⟩ = some (.int .u64 x.bt) := (hnew.cell 2).trans rfl
      have d3 : W2.cell? ⟨gh, 3, none⟩ = some (.int .u64 x.ser) := (hnew.cell 3).trans rfl
      have d4 : W2.cell? ⟨gh, 4, none⟩ = some (.int .u64 x.stp) := (hnew.cell 4).trans rfl
      have hlook := hcn2.look hws
      have hcle := cntS_le hs k x.ser
      obtain ⟨w3, hupd, hc3, hg3⟩ := hcn2.upd hws (by unfold maxLen; omega) (by omega)
      have HC3 : Hid (Cnt w3 M (k + 1) (cntS hs (k + 1))) := by
        show Cnt _ _ _ _
        rw [cntS_succ hlt, HX.out]
        exact hc3
      have HB3 : Hid (Blk w3 g 27 (ledC lim nxt (.slice (some ⟨b, off, none⟩) hs.length ch) (.slice Al ls.length cl))) := hbr2.grown hg3 (fun hh => by injection hh with hh; omega)
      have HBE3 : Hid (Below g w w3) := hBr2.grown hg3 (by have := hbr2.lt; omega) (fun i hi => by injection hi with hi; omega)
      have d5 : w3.cell? ⟨gh, 0, none⟩ = some (.int .i64 x.tok) := hg3.cell d0 (show some gh ≠ some M from fun hh => by injection hh with hh; omega)
      obtain ⟨cn, hcnE⟩ : ∃ cn, cntS hs k x.ser = cn := ⟨_, rfl⟩
      rw [hcnE] at hlook hupd hcle
      have HCN := Lib.hid hcnE
      obtain ⟨T, hT⟩ : ∃ T, prevT hs k = T := ⟨_, rfl⟩
      rw [hT]
      have HT := Lib.hid hT
      have hwr : IntKind.i64.wrap ((cn : Int) + 1) = (cn : Int) + 1 := by simp [IntKind.wrap_i64]; omega
      clear hcn2 hbr2 hBr2 hnew hc3 hg3 hcnE hT
      go_cut [3] (fun y wx => y = .bool (G && hdB lim nxt T cn x) ∧ wx = W2)
      case first =>
        clear hupd hwr d5
        cases G
        · go_wp2
          go_meet
          case rel => exact ⟨rfl, rfl⟩
        by_cases h1 : T < x.tok
        rotate_left
        · have H1 : Hid (decide (T < x.tok) = false) := decide_eq_false h1
          have e1 : decide (T < x.tok) = false := H1.out
          go_wp2
          go_meet
          case rel => exact ⟨by rw [Bool.true_and, hdB, H1.out]; rfl, rfl⟩
        have H1 : Hid (decide (T < x.tok) = true) := decide_eq_true h1
        have e1 : decide (T < x.tok) = true := H1.out
        by_cases h2 : x.tok ≤ lim
        rotate_left
        · have H2 : Hid (decide (x.tok ≤ lim) = false) := decide_eq_false h2
          have e2 : decide (x.tok ≤ lim) = false := H2.out
          go_wp2
          go_meet
          case rel => exact ⟨by rw [Bool.true_and, hdB, H1.out, H2.out]; rfl, rfl⟩
        have H2 : Hid (decide (x.tok ≤ lim) = true) := decide_eq_true h2
        have e2 : decide (x.tok ≤ lim) = true := H2.out
        by_cases h3 : 1 ≤ x.nod ∧ x.nod ≤ 7
        rotate_left
        · have H3 : Hid (decide (1 ≤ x.nod ∧ x.nod ≤ 7) = false) := decide_eq_false h3
          have e3 : decide (1 ≤ x.nod ∧ x.nod ≤ 7) = false := H3.out
          go_wp2_with fail
          refine (CN.out _ _).mono ?_
          rintro e w9 ⟨rfl, hw9⟩
          obtain rfl := hw9.symm
          go_wp2
          go_meet
          case rel => exact ⟨by rw [Bool.true_and, hdB, H1.out, H2.out, H3.out]; rfl, rfl⟩
        have H3 : Hid (decide (1 ≤ x.nod ∧ x.nod ≤ 7) = true) := decide_eq_true h3
        have e3 : decide (1 ≤ x.nod ∧ x.nod ≤ 7) = true := H3.out
        by_cases h4 : 1 ≤ x.bt
        rotate_left
        · have H4 : Hid (decide (1 ≤ x.bt) = false) := decide_eq_false h4
          have e4 : decide (1 ≤ x.bt) = false := H4.out
          go_wp2_with fail
          refine (CN.out _ _).mono ?_
          rintro e w9 ⟨rfl, hw9⟩
          obtain rfl := hw9.symm
          go_wp2
          go_meet
          case rel => exact ⟨by rw [Bool.true_and, hdB, H1.out, H2.out, H3.out, H4.out]; rfl, rfl⟩
        have H4 : Hid (decide (1 ≤ x.bt) = true) := decide_eq_true h4
        have e4 : decide (1 ≤ x.bt) = true := H4.out
        by_cases h5 : 1 ≤ x.stp
        rotate_left
        · have H5 : Hid (decide (1 ≤ x.stp) = false) := decide_eq_false h5
          have e5 : decide (1 ≤ x.stp) = false := H5.out
          go_wp2_with fail
          refine (CN.out _ _).mono ?_
          rintro e w9 ⟨rfl, hw9⟩
          obtain rfl := hw9.symm
          go_wp2
          go_meet
          case rel => exact ⟨by rw [Bool.true_and, hdB, H1.out, H2.out, H3.out, H4.out, H5.out]; rfl, rfl⟩
        have H5 : Hid (decide (1 ≤ x.stp) = true) := decide_eq_true h5
        have e5 : decide (1 ≤ x.stp) = true := H5.out
        by_cases h6 : 1 ≤ x.ser
        rotate_left
        · have H6 : Hid (decide (1 ≤ x.ser) = false) := decide_eq_false h6
          have e6 : decide (1 ≤ x.ser) = false := H6.out
          go_wp2_with fail
          refine (CN.out _ _).mono ?_
          rintro e w9 ⟨rfl, hw9⟩
          obtain rfl := hw9.symm
          go_wp2
          go_meet
          case rel => exact ⟨by rw [Bool.true_and, hdB, H1.out, H2.out, H3.out, H4.out, H5.out, H6.out]; rfl, rfl⟩
        have H6 : Hid (decide (1 ≤ x.ser) = true) := decide_eq_true h6
        have e6 : decide (1 ≤ x.ser) = true := H6.out
        by_cases h7 : x.ser < nxt
        rotate_left
        · have H7 : Hid (decide (x.ser < nxt) = false) := decide_eq_false h7
          have e7 : decide (x.ser < nxt) = false := H7.out
          go_wp2_with fail
          refine (CN.out _ _).mono ?_
          rintro e w9 ⟨rfl, hw9⟩
          obtain rfl := hw9.symm
          go_wp2
          go_meet
          case rel => exact ⟨by rw [Bool.true_and, hdB, H1.out, H2.out, H3.out, H4.out, H5.out, H6.out, H7.out]; rfl, rfl⟩
        have H7 : Hid (decide (x.ser < nxt) = true) := decide_eq_true h7
        have e7 : decide (x.ser < nxt) = true := H7.out
        by_cases h8 : (cn : Int) = 0
        rotate_left
        · have H8 : Hid (decide ((cn : Int) = 0) = false) := decide_eq_false h8
          have e8 : decide ((cn : Int) = 0) = false := H8.out
          have f8 : ((cn : Int) == 0) = false := beq_eq_false_iff_ne.2 h8
          go_wp2_with fail
          refine (CN.out _ _).mono ?_
          rintro e w9 ⟨rfl, hw9⟩
          obtain rfl := hw9.symm
          go_wp2
          go_meet
          case rel => exact ⟨by rw [Bool.true_and, hdB, H1.out, H2.out, H3.out, H4.out, H5.out, H6.out, H7.out, H8.out]; rfl, rfl⟩
        have H8 : Hid (decide ((cn : Int) = 0) = true) := decide_eq_true h8
        have e8 : decide ((cn : Int) = 0) = true := H8.out
        go_wp2_with fail
        refine (CN.out _ _).mono ?_
        rintro e w9 ⟨rfl, hw9⟩
        obtain rfl := hw9.symm
        go_wp2
        go_meet
        case rel => exact ⟨by rw [Bool.true_and, hdB, H1.out, H2.out, H3.out, H4.out, H5.out, H6.out, H7.out, H8.out]; rfl, rfl⟩
      case rest =>
      obtain ⟨rfl, hcw⟩ := hcut
      obtain rfl := hcw.symm
      clear q0 q1 q2 q3
      go_wp2
      go_roundw
      case rel =>
        refine ⟨k + 1, _, rfl, by rw [prevT_succ hlt, HX.out], by go_num, by omega, ?_, HC3.out, HB3.out, HBE3.out⟩
        rw [Bool.and_eq_true]
        constructor
        · rintro ⟨hg1, hg2⟩
          obtain ⟨a1, a2⟩ := HG.out.1 hg1
          refine ⟨a1, a2.step hlt ?_⟩
          refine (hdB_iff a2 hlt).1 ?_
          rw [HT.out, HX.out, HCN.out]
          exact hg2
        · rintro ⟨hg1, hg2⟩
          have a2 : HdsOk lim nxt hs k := fun i hi hik => hg2 i hi (by omega)
          refine ⟨HG.out.2 ⟨hg1, a2⟩, ?_⟩
          have := (hdB_iff a2 hlt).2 (hg2 k hlt (by omega))
          rw [HT.out, HX.out, HCN.out] at this
          exact this
      case measure => simp [intOf]; omega
    · obtain rfl : k = hs.length := by omega
      obtain ⟨q0, q1, q2, q3⟩ := hbr.led
      have HBR := Lib.hid hbr
      clear hG hcn hBr hbr hlt hk
      go_wp2_with fail
      clear q0 q1 q2 q3
      go_loopw [3, 8, 10, 97] (fun gd tk _ i wr => ∃ (k : Nat) (G : Bool), gd = .bool G ∧ tk = .int .i64 (prevN ls k) ∧ i = .int .i64 (k : Int) ∧ k ≤ ls.length ∧ (G = true ↔ (HB = true ∧ HdsOk lim nxt hs hs.length ∧ LssOk lim nxt ls k)) ∧ Blk wr g 27 (ledC lim nxt (.slice Ah hs.length ch) (.slice Al ls.length cl)) ∧ Below g w wr) (fun _ _ _ i _ => ls.length - (intOf i).toNat)
      case atStart => exact ⟨0, G, rfl, rfl, rfl, by omega, ⟨fun h => ⟨(HG.out.1 h).1, (HG.out.1 h).2, LssOk.zero⟩, fun h => HG.out.2 ⟨h.1, h.2.1⟩⟩, HBR.out, HBB.out⟩
      case round =>
        clear HBR HBB HG
        obtain ⟨k, G, rfl, rfl, rfl, hk, hG, hbr, hBr⟩ := hrel
        have HG := Lib.hid hG
        have HBB := Lib.hid hBr
        by_cases hlt : k < ls.length
        · obtain ⟨b, off, rfl, hbl, hall⟩ := (HL.out.keep (by rw [hg]; exact hBr)).ls (by omega)
          have hd := hall k hlt
          have hwx := HW2.out _ (List.getElem_mem hlt)
          obtain ⟨x, hx⟩ : ∃ x, ls[k] = x := ⟨_, rfl⟩
          rw [hx] at hd hwx
          have HX := Lib.hid hx
          obtain ⟨q0, q1, q2, q3⟩ := hbr.led
          obtain ⟨c0, c1, c2, c3, c4, c5⟩ := hd
          obtain ⟨gh, hgh⟩ : ∃ gh, wr.heap.size = gh := ⟨_, rfl⟩
          have hlt0 : g < gh := hgh ▸ hbr.lt
          have hnew : Blk (wr.alloc (.cells (lsA x) 123)) gh 123 (lsA x) := hgh ▸ Blk.new _ _ _
          have hbr2 := hbr.alloc (.cells (lsA x) 123)
          have hBr2 := hBr.alloc (by omega) (.cells (lsA x) 123)
          have hn1 : G = true → 1 ≤ nxt ∧ nxt < 18446744073709551616 := fun h => ⟨(headB_iff.1 (HHB.out.trans (hG.1 h).1)).n1, HN.out⟩
          have hser := hwx.ser
          clear hall hG hBr hbr hx hwx
          go_upto_region 15 with (fail)
          change Code.wp _ _ _ _ (wr.alloc (.cells (lsA x) 123))
          generalize wr.alloc (.cells (lsA x) 123) = W2 at hnew hbr2 hBr2 ⊢
          try rw [hgh]
          clear c0 c1 c2 c3 c4 c5 q0 q1 q2 q3 hgh hbl
          obtain ⟨q0, q1, q2, q3⟩ := hbr2.led
          have d0 : W2.cell? ⟨gh, 0, none⟩ = some (.int .i64 x.nod) := (hnew.cell 0).trans rfl
          have d1 : W2.cell? ⟨gh, 1, none⟩ = some (.int .u64 x.bt) := (hnew.cell 1).trans rfl
          have d2 : W2.cell? ⟨gh, 2, none⟩ = some (.int .u64 x.sq) := (hnew.cell 2).trans rfl
          have d3 : W2.cell? ⟨gh, 3, none⟩ = some (.int .i64 x.cod) := (hnew.cell 3).trans rfl
          have d4 : W2.cell? ⟨gh, 4, none⟩ = some (.int .i64 x.tok) := (hnew.cell 4).trans rfl
          have d5 : W2.cell? ⟨gh, 5, none⟩ = some (.int .u64 x.ser) := (hnew.cell 5).trans rfl
          have CA2 := fun h => CA.out W2 (.slice Ah hs.length ch) (.slice (some ⟨b, off, none⟩) ls.length cl) x.cod x.tok x.ser h hser
          obtain ⟨T, hT⟩ : ∃ T, prevN ls k = T := ⟨_, rfl⟩
          rw [hT]
          have HT := Lib.hid hT
          have HN1 := Lib.hid hn1
          have CA2 := Lib.hid CA2
          have HNW := Lib.hid hnew
          have HB2 := Lib.hid hbr2
          have HBE2 := Lib.hid hBr2
          clear hbr2 hBr2 hnew hT hn1
          go_cut [3] (fun y wx => y = .bool (G && lsB lim nxt T x) ∧ Blk wx gh 123 (lsA x) ∧ Blk wx g 27 (ledC lim nxt (.slice Ah hs.length ch) (.slice (some ⟨b, off, none⟩) ls.length cl)) ∧ Below g w wx)
          case first =>
            cases G
            · go_wp2
              go_meet
              case rel => exact ⟨rfl, HNW.out, HB2.out, HBE2.out⟩
            by_cases h1 : T < x.nod
            rotate_left
            · have H1 : Hid (decide (T < x.nod) = false) := decide_eq_false h1
              have e1 : decide (T < x.nod) = false := H1.out
              go_wp2
              go_meet
              case rel => exact ⟨by rw [Bool.true_and, lsB, H1.out]; rfl, HNW.out, HB2.out, HBE2.out⟩
            have H1 : Hid (decide (T < x.nod) = true) := decide_eq_true h1
            have e1 : decide (T < x.nod) = true := H1.out
            by_cases h2 : 1 ≤ x.nod ∧ x.nod ≤ 7
            rotate_left
            · have H2 : Hid (decide (1 ≤ x.nod ∧ x.nod ≤ 7) = false) := decide_eq_false h2
              have e2 : decide (1 ≤ x.nod ∧ x.nod ≤ 7) = false := H2.out
              go_wp2_with fail
              refine (CN.out _ _).mono ?_
              rintro e w9 ⟨rfl, hw9⟩
              obtain rfl := hw9.symm
              go_wp2
              go_meet
              case rel => exact ⟨by rw [Bool.true_and, lsB, H1.out, H2.out]; rfl, HNW.out, HB2.out, HBE2.out⟩
            have H2 : Hid (decide (1 ≤ x.nod ∧ x.nod ≤ 7) = true) := decide_eq_true h2
            have e2 : decide (1 ≤ x.nod ∧ x.nod ≤ 7) = true := H2.out
            by_cases h3 : 1 ≤ x.bt
            rotate_left
            · have H3 : Hid (decide (1 ≤ x.bt) = false) := decide_eq_false h3
              have e3 : decide (1 ≤ x.bt) = false := H3.out
              go_wp2_with fail
              refine (CN.out _ _).mono ?_
              rintro e w9 ⟨rfl, hw9⟩
              obtain rfl := hw9.symm
              go_wp2
              go_meet
              case rel => exact ⟨by rw [Bool.true_and, lsB, H1.out, H2.out, H3.out]; rfl, HNW.out, HB2.out, HBE2.out⟩
            have H3 : Hid (decide (1 ≤ x.bt) = true) := decide_eq_true h3
            have e3 : decide (1 ≤ x.bt) = true := H3.out
            by_cases h4 : 1 ≤ x.sq
            rotate_left
            · have H4 : Hid (decide (1 ≤ x.sq) = false) := decide_eq_false h4
              have e4 : decide (1 ≤ x.sq) = false := H4.out
              go_wp2_with fail
              refine (CN.out _ _).mono ?_
              rintro e w9 ⟨rfl, hw9⟩
              obtain rfl := hw9.symm
              go_wp2
              go_meet
              case rel => exact ⟨by rw [Bool.true_and, lsB, H1.out, H2.out, H3.out, H4.out]; rfl, HNW.out, HB2.out, HBE2.out⟩
            have H4 : Hid (decide (1 ≤ x.sq) = true) := decide_eq_true h4
            have e4 : decide (1 ≤ x.sq) = true := H4.out
            go_wp2_with fail
            refine (CN.out _ _).mono ?_
            rintro e w9 ⟨rfl, hw9⟩
            obtain rfl := hw9.symm
            go_wp2_with fail
            refine (CA2.out (HN1.out (by trivial))).mono ?_
            rintro e w8 ⟨rfl, hB8⟩
            have HNW8 := Lib.hid (HNW.out.below hB8 HNW.out.lt)
            have HB8 := Lib.hid (HB2.out.below hB8 HB2.out.lt)
            have HBE8 := Lib.hid (HBE2.out.trans (hB8.mono (Nat.le_of_lt HB2.out.lt)))
            clear hB8 d0 d1 d2 d3 d4 d5 q0 q1 q2 q3
            go_wp2
            go_meet
            case rel => exact ⟨by rw [Bool.true_and, lsB, H1.out, H2.out, H3.out, H4.out]; rfl, HNW8.out, HB8.out, HBE8.out⟩
          case rest =>
          obtain ⟨rfl, hnw, hbw, hBw⟩ := hcut
          clear q0 q1 q2 q3 d0 d1 d2 d3 d4 d5 CA2 HNW HB2 HBE2
          have d0 : wc.cell? ⟨gh, 0, none⟩ = some (.int .i64 x.nod) := (hnw.cell 0).trans rfl
          have HB9 := Lib.hid hbw
          have HBE9 := Lib.hid hBw
          clear hnw hbw hBw
          go_wp2
          go_roundw
          case rel =>
            refine ⟨k + 1, _, rfl, by rw [prevN_succ hlt, HX.out], by go_num, by omega, ?_, HB9.out, HBE9.out⟩
            rw [Bool.and_eq_true]
            constructor
            · rintro ⟨hg1, hg2⟩
              obtain ⟨a1, a2, a3⟩ := HG.out.1 hg1
              refine ⟨a1, a2, a3.step hlt ?_⟩
              refine (lsB_iff hlt).1 ?_
              rw [HT.out, HX.out]
              exact hg2
            · rintro ⟨hg1, hg2, hg3⟩
              have a3 : LssOk lim nxt ls k := fun i hi hik => hg3 i hi (by omega)
              refine ⟨HG.out.2 ⟨hg1, hg2, a3⟩, ?_⟩
              have := (lsB_iff hlt).2 (hg3 k hlt (by omega))
              rw [HT.out, HX.out] at this
              exact this
          case measure => simp [intOf]; omega
        · obtain rfl : k = ls.length := by omega
          have HBG : Hid (B = G) := by
            show _ = _
            rw [← HOK.out, Bool.eq_iff_iff, HG.out, decide_eq_true_iff]
            exact ⟨fun h => ⟨HHB.out.symm.trans (headB_iff.2 h.head), h.hds, h.lss⟩, fun h => ⟨headB_iff.1 (HHB.out.trans h.1), h.2.1, h.2.2⟩⟩
          clear hG hBr hbr
          cases G
          · go_wp2
            go_ret
            exact ⟨by rw [HBG.out]; rfl, HBB.out⟩
          · go_wp2
            go_ret
            exact ⟨by rw [HBG.out]; rfl, HBB.out⟩
end Go.Proofs.Ytadkkhbbempaaaa

/- slices.Clone of a list of numbers. -/
namespace Go.Proofs.Ytadkkhbbempaaaa
set_option maxRecDepth 100000
open Go.RowKit

theorem own_empty (W : World) (base : Nat) (e : TypeId) (hb : base ≤ W.heap.size) : (W.alloc (.cells #[] e)).ownsRow base e 1 (.slice (some ⟨W.heap.size, 0, none⟩) 0 0) 0 [] :=
  ⟨by simp, .inr ⟨W.heap.size, 0, #[], rfl, hb, heap_alloc_new W _, by simp, by unfold maxLen; omega, by simp, by simp⟩⟩
/-- A copy: its cells are the call's own. -/
structure Cop (w w' : World) (A : Option Addr) (c : Nat) (l : List Int) : Prop where
  inn : InN .i64 w' A c l
  own : ∀ b, (Value.slice A l.length c).ownBlock = some b → w.heap.size ≤ b
theorem Cop.of_own {w w' : World} {base : Nat} {v : Value} {l : List Int} (h : OwnN .i64 3 w' base v l) (hb : w.heap.size ≤ base) (hl : Wfs .i64 l) (hs : l.length ≤ 140737488355328) : ∃ A c, v = .slice A l.length c ∧ Cop w w' A c l := by
  obtain ⟨A, c, rfl, hin⟩ := InN.own h hl hs
  exact ⟨A, c, rfl, hin, fun b e => Nat.le_trans hb (World.ownsRow.lt h b e).1⟩

set_option maxHeartbeats 1000000 in
theorem clone_any (w : World) (A : Option Addr) (c : Nat) (l : List Int) (h : InN .i64 w A c l) (hs : l.length ≤ 17592186043904) :
    Calls Try.prog 77 #[.slice A l.length c] w fun e w' => ∃ A' c', e = .returned (.slice A' l.length c') ∧ Cop w w' A' c' l ∧ Below w.heap.size w w' := by
  have q22 : ∀ (w : World) (a : Option Addr) (n c n' c' : Nat), (binOp .eql 23 (.slice a n c) (.slice none n' c')).run Try.prog w = .ok (.bool a.isNone) w := fun w a n c n' c' => Lib.run_eql_slice_nil w _ _ a n c n' c' Try.underlying23
  cases A with
  | none =>
    have h0 : l.length = 0 := by
      rcases Nat.eq_zero_or_pos l.length with h0 | h0
      · exact h0
      · obtain ⟨b, off, e, _⟩ := h.reads.2 h0
        cases e
    have hnil : l = [] := List.eq_nil_of_length_eq_zero h0
    subst hnil
    clear h hs h0
    go_enter Try.func77, Try.ntmps77
    go_wp2
    go_ret
    exact ⟨none, 0, rfl, ⟨InN.nil, fun b e => by simp [Value.ownBlock] at e⟩, Below.refl _ _⟩
  | some ad =>
    have HIN := Lib.hid h
    have hcap := h.cap
    clear h
    have HOE := Lib.hid (own_empty w w.heap.size 3 (Nat.le_refl _))
    have hB0 : Below w.heap.size w (w.alloc (.cells #[] 3)) := (Below.refl _ _).alloc (Nat.le_refl _) _
    have HB0 := Lib.hid hB0
    have HR := Lib.hid (HIN.out.keep hB0).reads
    clear hB0
    go_enter Try.func77, Try.ntmps77
    go_wp2_with (at_builtin; refine app_own (w0 := w) w.heap.size rfl _ _ 23 3 (.int .i64 0) 8 rfl Try.underlying23 1 info_int rfl (by omega) (by omega) _ [] 0 rfl _ _ _ _ (nums .i64 l) rfl HOE.out HR.out (nums_one_cell .i64 l) HB0.out HB0.out.size (by omega) ?_; intro v1 w1 ho1 hB1 _ _; have hO1 : OwnN .i64 3 w1 w.heap.size v1 l := (by simpa [OwnN] using ho1); have HO1 := Lib.hid hO1; have HB1 := Lib.hid hB1; clear ho1 hB1 hO1)
    go_ret
    obtain ⟨A1, c1, rfl, hc⟩ := Cop.of_own (w := w) HO1.out (Nat.le_refl _) HIN.out.wf (by omega)
    exact ⟨A1, c1, rfl, hc, HB1.out⟩
end Go.Proofs.Ytadkkhbbempaaaa

/- Walks over snapshots: a new snapshot, by the code and by the document. -/
namespace Go.Proofs.Ytadkkhbbempaaaa
set_option maxRecDepth 100000
open Go.RowKit

theorem step_copyI {ops : Array Oper} {o : Oper} {a : Act} {K : Act → World → Prop} {Q : Exit → Act → World → Prop} {E : Prop} {W : World} (base : Nat) (hgd : o.guard = none) (s x : Operand)
    (ho : o.op = .call { callee := .builtin .append, args := #[s, x], argTypes := #[23, 23] })
    (hs : a.eval s = .slice none 0 0) (A : Option Addr) (c : Nat) (l : List Int) (hx : a.eval x = .slice A l.length c) (hin : InN .i64 W A c l) (hbase : base ≤ W.heap.size) (hl : l.length ≤ 17592186043904)
    (h : ∀ v1 w1, OwnN .i64 3 w1 base v1 l → Below base W w1 → K (a.put o.dst v1) w1) :
    if Region.wanted o (yielded ops a.tmps) = true then Oper.wp Try.prog o a W K Q else E := by
  obtain ⟨i0, hi, hz0, hz1, hz2⟩ := info_parts info_int
  refine step_append_any _ hgd s x 23 ho base 3 i0 (.int .i64 0) 1 8 Try.underlying23 hi hz0 hz1 hz2 rfl (by omega) (.slice none 0 0) 0 [] hs (own_nil _ _ _ _) W.heap.size A l.length c (nums .i64 l) hx hin.reads (nums_one_cell .i64 l) (by simp only [maxLen]; omega) (by omega) hbase ?_
  intro v1 w1 ho1 hg _
  refine h v1 w1 (by simpa [OwnN] using ho1) ((Below.refl base W).grown hg hbase (fun k e => by simp [Value.ownBlock] at e))

def shotV (i t : Int) (sl : Value) (lim nxt : Int) : Value := .agg #[.int .u64 i, .int .u64 t, sl, .int .i64 lim, .int .u64 nxt, .slice none 0 0, .slice none 0 0]
def shotCells (i t : Int) (sl : Value) (lim nxt : Int) : Array Value := #[.int .u64 i, .int .u64 t, sl, .int .i64 lim, .int .u64 nxt, .slice none 0 0, .slice none 0 0]
structure ShotAt (w : World) (g : Nat) (i t : Int) (sl : Value) (lim nxt : Int) : Prop where
  z0 : w.cell? ⟨g, 0, none⟩ = some (.int .u64 i)
  z1 : w.cell? ⟨g, 1, none⟩ = some (.int .u64 t)
  z2 : w.cell? ⟨g, 2, none⟩ = some sl
  z3 : w.cell? ⟨g, 3, none⟩ = some (.int .i64 lim)
  z4 : w.cell? ⟨g, 4, none⟩ = some (.int .u64 nxt)
  z5 : w.cell? ⟨g, 5, none⟩ = some (.slice none 0 0)
  z6 : w.cell? ⟨g, 6, none⟩ = some (.slice none 0 0)
theorem Blk.shot {w : World} {g : Nat} {T : TypeId} {i t : Int} {sl : Value} {lim nxt : Int} (h : Blk w g T (shotCells i t sl lim nxt)) : ShotAt w g i t sl lim nxt := by
  constructor <;> (rw [h.cell]; rfl)
structure LedgerAt (w : World) (g : Nat) (lim nxt : Int) : Prop where
  q0 : w.cell? ⟨g, 0, none⟩ = some (.int .i64 lim)
  q1 : w.cell? ⟨g, 1, none⟩ = some (.int .u64 nxt)
  q2 : w.cell? ⟨g, 2, none⟩ = some (.slice none 0 0)
  q3 : w.cell? ⟨g, 3, none⟩ = some (.slice none 0 0)
def ledgerCells (lim nxt : Int) : Array Value := #[.int .i64 lim, .int .u64 nxt, .slice none 0 0, .slice none 0 0]
theorem Blk.ledger {w : World} {g : Nat} {T : TypeId} {lim nxt : Int} (h : Blk w g T (ledgerCells lim nxt)) : LedgerAt w g lim nxt := by
  constructor <;> (rw [h.cell]; rfl)
theorem Blk.set7 {w : World} {g : Nat} {T : TypeId} {v0 v1 v2 v3 v4 v5 v6 : Value} (h : Blk w g T #[v0, v1, v2, v3, v4, v5, v6]) (u0 u1 u2 u3 u4 u5 u6 : Value) :
    Blk (((((((w.setCell ⟨g, 0, none⟩ u0).setCell ⟨g, 1, none⟩ u1).setCell ⟨g, 2, none⟩ u2).setCell ⟨g, 3, none⟩ u3).setCell ⟨g, 4, none⟩ u4).setCell ⟨g, 5, none⟩ u5).setCell ⟨g, 6, none⟩ u6) g T #[u0, u1, u2, u3, u4, u5, u6] :=
  (((((((h.setL 0 u0).setL 1 u1).setL 2 u2).setL 3 u3).setL 4 u4).setL 5 u5).setL 6 u6)
theorem Cop.far {w w' : World} {A : Option Addr} {c : Nat} {l : List Int} (h : Cop w w' A c l) {g : Nat} (hg : g < w.heap.size) (i : Nat) (u : Value) : Cop w (w'.setCell ⟨g, i, none⟩ u) A c l :=
  ⟨InN.far (n := l.length) h.inn (fun b hb => by have := h.own b hb; show g ≠ b; omega) u, h.own⟩

theorem Cop.mono {w w1 w' : World} {A : Option Addr} {c : Nat} {l : List Int} (h : Cop w1 w' A c l) (hw : w.heap.size ≤ w1.heap.size) : Cop w w' A c l := ⟨h.inn, fun b e => Nat.le_trans hw (h.own b e)⟩
end Go.Proofs.Ytadkkhbbempaaaa

/- What the program says of ledgers and snapshots. -/
namespace Go.Proofs.Ytadkkhbbempaaaa
set_option maxRecDepth 100000
open Go.RowKit

theorem info_Ledger : (Try.prog.info? 27).map (·.size) = some 4 := by kernel_rfl
theorem info_Shot : (Try.prog.info? 29).map (·.size) = some 7 := by kernel_rfl
end Go.Proofs.Ytadkkhbbempaaaa

/- Snapshots and ledgers in new memory: the document's Copy. -/
namespace Go.Proofs.Ytadkkhbbempaaaa
set_option maxRecDepth 100000
open Go.RowKit

/-- A slice of structs that is read and whose block is the call's own, from base on. -/
structure OwS {α : Type} (f : α → List Value) (s : Nat) (w : World) (base : Nat) (A : Option Addr) (c : Nat) (l : List α) : Prop where
  inn : InS f s w A c l
  own : ∀ a, A = some a → base ≤ a.block
section
variable {α : Type} {f : α → List Value} {s : Nat} {w w1 : World} {base : Nat} {A : Option Addr} {c : Nat} {l : List α}
theorem OwS.of {e : TypeId} {v : Value} (h : w.ownsRow base e s v l.length (l.flatMap f)) (hs : l.length * (8 * s) ≤ 140737488355328) : ∃ A c, v = .slice A l.length c ∧ OwS f s w base A c l := by
  obtain ⟨A, c, rfl, hin⟩ := InS.own h hs
  exact ⟨A, c, rfl, hin, fun a e => own_base h a.block (by rw [e]; rfl)⟩
theorem OwS.keep (h : OwS f s w base A c l) (hb : Below w.heap.size w w1) : OwS f s w1 base A c l := ⟨h.inn.keep hb, h.own⟩
theorem OwS.set (h : OwS f s w base A c l) {p : Addr} (hp : p.block < base) (u : Value) : OwS f s (w.setCell p u) base A c l := ⟨h.inn.far (fun b off e => by have := h.own _ e; simp only at this; omega) u, h.own⟩
end
/-- The same of ints. -/
structure OwI (w : World) (base : Nat) (A : Option Addr) (c : Nat) (l : List Int) : Prop where
  inn : InN .i64 w A c l
  own : ∀ a, A = some a → base ≤ a.block
theorem OwI.of {w : World} {base : Nat} {e : TypeId} {v : Value} {l : List Int} (h : OwnN .i64 e w base v l) (hl : Wfs .i64 l) (hs : l.length ≤ 140737488355328) : ∃ A c, v = .slice A l.length c ∧ OwI w base A c l := by
  obtain ⟨A, c, rfl, hin⟩ := InN.own h hl hs
  exact ⟨A, c, rfl, hin, fun a e => own_base h a.block (by rw [e]; rfl)⟩
theorem OwI.keep {w w1 : World} {base : Nat} {A : Option Addr} {c : Nat} {l : List Int} (h : OwI w base A c l) (hb : Below w.heap.size w w1) : OwI w1 base A c l := ⟨h.inn.keep hb, h.own⟩
theorem OwI.set {w : World} {base : Nat} {A : Option Addr} {c : Nat} {l : List Int} (h : OwI w base A c l) {p : Addr} (hp : p.block < base) (u : Value) : OwI (w.setCell p u) base A c l := by
  refine ⟨InN.far (n := l.length) h.inn (fun b hb => ?_) u, h.own⟩
  cases A with
  | none => simp [Value.ownBlock] at hb
  | some a =>
    have := h.own a rfl
    simp only [Value.ownBlock, Option.some.injEq] at hb
    omega
theorem info_Held : (Try.prog.info? 98).map (fun i => (i.zero, i.size, i.bytes)) = some (some (.agg #[.int .i64 0, .int .i64 0, .int .u64 0, .int .u64 0, .int .u64 0]), 5, 40) := by kernel_rfl
theorem info_Last : (Try.prog.info? 123).map (fun i => (i.zero, i.size, i.bytes)) = some (some (.agg #[.int .i64 0, .int .u64 0, .int .u64 0, .int .i64 0, .int .i64 0, .int .u64 0]), 6, 48) := by kernel_rfl
/-- What is known of a ledger's slices: read, and from block base on. -/
structure LedIn (w : World) (base : Nat) (Ah : Option Addr) (ch : Nat) (hs : List Hd) (Al : Option Addr) (cl : Nat) (ls : List Ls) : Prop where
  hh : OwS hdC 5 w base Ah ch hs
  hl : OwS lsC 6 w base Al cl ls
theorem LedIn.keep {w w1 : World} {base : Nat} {Ah : Option Addr} {ch : Nat} {hs : List Hd} {Al : Option Addr} {cl : Nat} {ls : List Ls} (h : LedIn w base Ah ch hs Al cl ls) (hb : Below w.heap.size w w1) : LedIn w1 base Ah ch hs Al cl ls := ⟨h.hh.keep hb, h.hl.keep hb⟩
theorem LedIn.set {w : World} {base : Nat} {Ah : Option Addr} {ch : Nat} {hs : List Hd} {Al : Option Addr} {cl : Nat} {ls : List Ls} (h : LedIn w base Ah ch hs Al cl ls) {p : Addr} (hp : p.block < base) (u : Value) : LedIn (w.setCell p u) base Ah ch hs Al cl ls := ⟨h.hh.set hp u, h.hl.set hp u⟩
theorem LedIn.lower {w : World} {base base' : Nat} {Ah : Option Addr} {ch : Nat} {hs : List Hd} {Al : Option Addr} {cl : Nat} {ls : List Ls} (h : LedIn w base Ah ch hs Al cl ls) (hb : base' ≤ base) : LedIn w base' Ah ch hs Al cl ls := ⟨⟨h.hh.inn, fun a e => Nat.le_trans hb (h.hh.own a e)⟩, ⟨h.hl.inn, fun a e => Nat.le_trans hb (h.hl.own a e)⟩⟩
theorem below_of_grown {w w1 : World} {A : Value} (h : w.grownBy w1 A.ownBlock) (hA : A.ownBlock = none := by rfl) : Below w.heap.size w w1 := ⟨h.os, h.tape, h.output, h.size, fun i hi => h.block i hi (by rw [hA]; simp)⟩
theorem Blk.set4 {w : World} {g : Nat} {T : TypeId} {v0 v1 v2 v3 : Value} (h : Blk w g T #[v0, v1, v2, v3]) (u0 u1 u2 u3 : Value) :
    Blk ((((w.setCell ⟨g, 0, none⟩ u0).setCell ⟨g, 1, none⟩ u1).setCell ⟨g, 2, none⟩ u2).setCell ⟨g, 3, none⟩ u3) g T #[u0, u1, u2, u3] :=
  ((((h.setL 0 u0).setL 1 u1).setL 2 u2).setL 3 u3)

set_option maxRecDepth 100000 in
set_option maxHeartbeats 4000000 in
theorem r05_Copy_any (w : World) (lim nxt : Int) (Ah : Option Addr) (ch : Nat) (hs : List Hd) (Al : Option Addr) (cl : Nat) (ls : List Ls) (hh : InS hdC 5 w Ah ch hs) (hl : InS lsC 6 w Al cl ls) :
    Calls Try.prog 63 #[ledV lim nxt (.slice Ah hs.length ch) (.slice Al ls.length cl)] w fun e w' => ∃ A1 c1 A2 c2, e = .returned (ledV lim nxt (.slice A1 hs.length c1) (.slice A2 ls.length c2)) ∧
      LedIn w' w.heap.size A1 c1 hs A2 c2 ls ∧ Below w.heap.size w w' := by
  have hsz1 := hh.small
  have hsz2 := hl.small
  obtain ⟨g, hg⟩ : ∃ g, w.heap.size = g := ⟨_, rfl⟩
  rw [hg]
  obtain ⟨gr, hgr⟩ : ∃ gr, g + 1 = gr := ⟨_, rfl⟩
  have hBx : Below g w ((w.alloc (.cells (ledC lim nxt (.slice Ah hs.length ch) (.slice Al ls.length cl)) 27)).alloc (.cells (ledC 0 0 (.slice none 0 0) (.slice none 0 0)) 27)) := ((Below.refl _ _).alloc (by omega) _).alloc (by simp; omega) _
  have hs1 : (w.alloc (.cells (ledC lim nxt (.slice Ah hs.length ch) (.slice Al ls.length cl)) 27)).heap.size = gr := by simp [hg, hgr]
  have hb1 : Blk ((w.alloc (.cells (ledC lim nxt (.slice Ah hs.length ch) (.slice Al ls.length cl)) 27)).alloc (.cells (ledC 0 0 (.slice none 0 0) (.slice none 0 0)) 27)) g 27 (ledC lim nxt (.slice Ah hs.length ch) (.slice Al ls.length cl)) := (hg ▸ Blk.new w 27 (ledC lim nxt (.slice Ah hs.length ch) (.slice Al ls.length cl)) : Blk (w.alloc (.cells (ledC lim nxt (.slice Ah hs.length ch) (.slice Al ls.length cl)) 27)) g 27 (ledC lim nxt (.slice Ah hs.length ch) (.slice Al ls.length cl))).alloc _
  have hr1 : Blk ((w.alloc (.cells (ledC lim nxt (.slice Ah hs.length ch) (.slice Al ls.length cl)) 27)).alloc (.cells (ledC 0 0 (.slice none 0 0) (.slice none 0 0)) 27)) gr 27 (ledC 0 0 (.slice none 0 0) (.slice none 0 0)) := hs1 ▸ Blk.new _ _ _
  have hz1 : ((w.alloc (.cells (ledC lim nxt (.slice Ah hs.length ch) (.slice Al ls.length cl)) 27)).alloc (.cells (ledC 0 0 (.slice none 0 0) (.slice none 0 0)) 27)).heap.size = g + 2 := by simp [hg]
  have HH := Lib.hid (hh.keep (hg ▸ hBx))
  have HL0 := Lib.hid hl
  have HL := Lib.hid (hl.keep (hg ▸ hBx))
  clear hs1 hh hl
  unfold ledV
  go_enter Try.func63, Try.ntmps63
  go_upto_region 1 with (fail)
  change Code.wp _ _ _ _ ((w.alloc (.cells (ledC lim nxt (.slice Ah hs.length ch) (.slice Al ls.length cl)) 27)).alloc (.cells (ledC 0 0 (.slice none 0 0) (.slice none 0 0)) 27))
  generalize ((w.alloc (.cells (ledC lim nxt (.slice Ah hs.length ch) (.slice Al ls.length cl)) 27)).alloc (.cells (ledC 0 0 (.slice none 0 0) (.slice none 0 0)) 27)) = W at hb1 hr1 hBx hz1 HH HL ⊢
  try rw [hgr]
  have HB := Lib.hid hBx
  obtain ⟨q0, q1, q2, q3⟩ := hb1.led
  have y2 := hb1.frozen 2
  clear hBx
  go_upto_region 2 with ((at_builtin; refine app_own (w0 := W) (g + 2) rfl _ _ 24 98 _ 40 rfl Try.underlying24 5 info_Held rfl (by omega) (by omega) (.slice none 0 0) [] 0 rfl _ _ _ _ (hs.flatMap hdC) rfl (own_nil _ _ _ _) HH.out.reads (flat_one hdC_one hs) (Below.refl _ _) (by omega) (by omega) ?_; intro v1 w1 ho1 hB1 _ _; obtain ⟨A1, c1, rfl, hin1⟩ := OwS.of (f := hdC) (l := hs) (by simpa using ho1) (by omega); have HO1 := Lib.hid hin1; have hb2 := hb1.below hB1 (by omega); have hr2 := hr1.below hB1 (by omega); have HBB := Lib.hid (HB.out.trans (hB1.mono (by omega))); have HL1 := Lib.hid (HL.out.keep (hz1 ▸ hB1)); have hsz3 := hB1.size; clear q0 q1 q2 q3 y2 hB1 ho1 hin1 hb1 hr1; obtain ⟨q0, q1, q2, q3⟩ := hb2.led; have y2 := hb2.frozen 2))
  have hb3 : Blk (w1.setCell ⟨g, 2, none⟩ (.slice A1 hs.length c1)) g 27 (ledC lim nxt (.slice A1 hs.length c1) (.slice Al ls.length cl)) := Blk.setL (l := [Value.int .i64 lim, .int .u64 nxt, .slice Ah hs.length ch, .slice Al ls.length cl]) hb2 2 _
  have hr3 := hr2.far (p := ⟨g, 2, none⟩) (by show gr ≠ g; omega) (.slice A1 hs.length c1)
  have hB3 := HBB.out.setCell (p := ⟨g, 2, none⟩) (Nat.le_refl _) (.slice A1 hs.length c1)
  have HO3 := Lib.hid (HO1.out.set (p := ⟨g, 2, none⟩) (by show g < g + 2; omega) (.slice A1 hs.length c1))
  have hz3 : g + 2 ≤ (w1.setCell ⟨g, 2, none⟩ (.slice A1 hs.length c1)).heap.size := by simp [World.setCell]; omega
  generalize w1.setCell ⟨g, 2, none⟩ (.slice A1 hs.length c1) = W3 at hb3 hr3 hB3 HO3 hz3 ⊢
  have HL3 := Lib.hid (HL0.out.keep (hg ▸ hB3))
  have HB3 := Lib.hid hB3
  clear q0 q1 q2 q3 y2 hB3 hb2 hr2 HBB HO1 HL1 HL
  obtain ⟨q0, q1, q2, q3⟩ := hb3.led
  have y3 := hb3.frozen 3
  go_upto_region 3 with ((at_builtin; refine app_own (w0 := W3) (g + 2) rfl _ _ 25 123 _ 48 rfl Try.underlying25 6 info_Last rfl (by omega) (by omega) (.slice none 0 0) [] 0 rfl _ _ _ _ (ls.flatMap lsC) rfl (own_nil _ _ _ _) HL3.out.reads (flat_one lsC_one ls) (Below.refl _ _) (by omega) (by omega) ?_; intro v4 w4 ho4 hB4 hg4 _; obtain ⟨A2, c2, rfl, hin4⟩ := OwS.of (f := lsC) (l := ls) (by simpa using ho4) (by omega); have HO4 := Lib.hid hin4; have hb4 := hb3.below hB4 (by omega); have hr4 := hr3.below hB4 (by omega); have HBB := Lib.hid (HB3.out.trans (hB4.mono (by omega))); have HO5 := Lib.hid (HO3.out.keep (below_of_grown hg4)); have hsz5 := hB4.size; clear q0 q1 q2 q3 y3 hB4 ho4 hin4 hb3 hr3 hg4; obtain ⟨q0, q1, q2, q3⟩ := hb4.led; have y3 := hb4.frozen 3))
  have hb5 : Blk (w4.setCell ⟨g, 3, none⟩ (.slice A2 ls.length c2)) g 27 (ledC lim nxt (.slice A1 hs.length c1) (.slice A2 ls.length c2)) := Blk.setL (l := [Value.int .i64 lim, .int .u64 nxt, .slice A1 hs.length c1, .slice Al ls.length cl]) hb4 3 _
  have hr5 := hr4.far (p := ⟨g, 3, none⟩) (by show gr ≠ g; omega) (.slice A2 ls.length c2)
  have hB5 := HBB.out.setCell (p := ⟨g, 3, none⟩) (Nat.le_refl _) (.slice A2 ls.length c2)
  have hI5 : LedIn (w4.setCell ⟨g, 3, none⟩ (.slice A2 ls.length c2)) (g + 2) A1 c1 hs A2 c2 ls := ⟨HO5.out.set (p := ⟨g, 3, none⟩) (by show g < g + 2; omega) _, HO4.out.set (p := ⟨g, 3, none⟩) (by show g < g + 2; omega) _⟩
  generalize w4.setCell ⟨g, 3, none⟩ (.slice A2 ls.length c2) = W5 at hb5 hr5 hB5 hI5 ⊢
  clear q0 q1 q2 q3 y3 hb4 hr4 HBB HO5 HO4 HO3 HL3 HB3
  have HI5 := Lib.hid hI5
  have HB5 := Lib.hid hB5
  have HR5 := Lib.hid hr5
  obtain ⟨q0, q1, q2, q3⟩ := hb5.led
  obtain ⟨z0, z1, z2, z3⟩ := hr5.led
  have y0 := hr5.frozen 0
  have y1 := hr5.frozen 1
  have y2 := hr5.frozen 2
  have y3 := hr5.frozen 3
  have hn : g ≠ gr := by omega
  clear hI5 hB5 hb5 hr5
  go_wp2
  have hrF := Blk.set4 HR5.out (.int .i64 lim) (.int .u64 nxt) (.slice A1 hs.length c1) (.slice A2 ls.length c2)
  refine bodyPost_ret (results_cell1 rfl rfl (run_loadVar_row _ _ _ _ _ (0, 0) _ hrF Try.underlying27 rfl info_Ledger)) rfl ?_
  have f := fun (i : Nat) (W : World) (u : Value) (h : LedIn W (g + 2) A1 c1 hs A2 c2 ls) => h.set (p := ⟨gr, i, none⟩) (by show gr < g + 2; omega) u
  have s := fun (i : Nat) (W : World) (u : Value) (h : Below g w W) => h.setCell (p := ⟨gr, i, none⟩) (by show g ≤ gr; omega) u
  exact ⟨A1, c1, A2, c2, rfl, LedIn.lower (f _ _ _ (f _ _ _ (f _ _ _ (f _ _ _ HI5.out)))) (by omega), s _ _ _ (s _ _ _ (s _ _ _ (s _ _ _ HB5.out)))⟩
/-! ### Snapshots -/
def shV (i t : Int) (sl : Value) (lim nxt : Int) (hl ll : Value) : Value := .agg #[.int .u64 i, .int .u64 t, sl, .int .i64 lim, .int .u64 nxt, hl, ll]
def shC (i t : Int) (sl : Value) (lim nxt : Int) (hl ll : Value) : Array Value := #[.int .u64 i, .int .u64 t, sl, .int .i64 lim, .int .u64 nxt, hl, ll]
structure ShAt (w : World) (g : Nat) (i t : Int) (sl : Value) (lim nxt : Int) (hl ll : Value) : Prop where
  z0 : w.cell? ⟨g, 0, none⟩ = some (.int .u64 i)
  z1 : w.cell? ⟨g, 1, none⟩ = some (.int .u64 t)
  z2 : w.cell? ⟨g, 2, none⟩ = some sl
  z3 : w.cell? ⟨g, 3, none⟩ = some (.int .i64 lim)
  z4 : w.cell? ⟨g, 4, none⟩ = some (.int .u64 nxt)
  z5 : w.cell? ⟨g, 5, none⟩ = some hl
  z6 : w.cell? ⟨g, 6, none⟩ = some ll
theorem Blk.sh {w : World} {g : Nat} {T : TypeId} {i t : Int} {sl : Value} {lim nxt : Int} {hl ll : Value} (h : Blk w g T (shC i t sl lim nxt hl ll)) : ShAt w g i t sl lim nxt hl ll := by
  constructor <;> (rw [h.cell]; rfl)
/-- What is known of a snapshot's slices. -/
structure ShIn (w : World) (base : Nat) (An : Option Addr) (cn : Nat) (ns : List Int) (Ah : Option Addr) (ch : Nat) (hs : List Hd) (Al : Option Addr) (cl : Nat) (ls : List Ls) : Prop where
  hn : OwI w base An cn ns
  led : LedIn w base Ah ch hs Al cl ls
section
variable {w w1 : World} {base base' : Nat} {An : Option Addr} {cn : Nat} {ns : List Int} {Ah : Option Addr} {ch : Nat} {hs : List Hd} {Al : Option Addr} {cl : Nat} {ls : List Ls}
theorem ShIn.keep (h : ShIn w base An cn ns Ah ch hs Al cl ls) (hb : Below w.heap.size w w1) : ShIn w1 base An cn ns Ah ch hs Al cl ls := ⟨h.hn.keep hb, h.led.keep hb⟩
theorem ShIn.set (h : ShIn w base An cn ns Ah ch hs Al cl ls) {p : Addr} (hp : p.block < base) (u : Value) : ShIn (w.setCell p u) base An cn ns Ah ch hs Al cl ls := ⟨h.hn.set hp u, h.led.set hp u⟩
theorem ShIn.lower (h : ShIn w base An cn ns Ah ch hs Al cl ls) (hb : base' ≤ base) : ShIn w base' An cn ns Ah ch hs Al cl ls := ⟨⟨h.hn.inn, fun a e => Nat.le_trans hb (h.hn.own a e)⟩, h.led.lower hb⟩
end

set_option maxRecDepth 100000 in
set_option maxHeartbeats 4000000 in
theorem r06_Copy_any (w : World) (i t : Int) (An : Option Addr) (cn : Nat) (ns : List Int) (lim nxt : Int) (Ah : Option Addr) (ch : Nat) (hs : List Hd) (Al : Option Addr) (cl : Nat) (ls : List Ls) (hn : InN .i64 w An cn ns) (hns : ns.length ≤ 17592186043904) (hh : InS hdC 5 w Ah ch hs) (hl : InS lsC 6 w Al cl ls) :
    Calls Try.prog 30 #[shV i t (.slice An ns.length cn) lim nxt (.slice Ah hs.length ch) (.slice Al ls.length cl)] w fun e w' => ∃ A0 c0 A1 c1 A2 c2, e = .returned (shV i t (.slice A0 ns.length c0) lim nxt (.slice A1 hs.length c1) (.slice A2 ls.length c2)) ∧
      ShIn w' w.heap.size A0 c0 ns A1 c1 hs A2 c2 ls ∧ Below w.heap.size w w' := by
  obtain ⟨g, hg⟩ : ∃ g, w.heap.size = g := ⟨_, rfl⟩
  rw [hg]
  obtain ⟨gr, hgr⟩ : ∃ gr, g + 1 = gr := ⟨_, rfl⟩
  have hBx : Below g w ((w.alloc (.cells (shC i t (.slice An ns.length cn) lim nxt (.slice Ah hs.length ch) (.slice Al ls.length cl)) 29)).alloc (.cells (shC 0 0 (.slice none 0 0) 0 0 (.slice none 0 0) (.slice none 0 0)) 29)) := ((Below.refl _ _).alloc (by omega) _).alloc (by simp; omega) _
  have hs1 : (w.alloc (.cells (shC i t (.slice An ns.length cn) lim nxt (.slice Ah hs.length ch) (.slice Al ls.length cl)) 29)).heap.size = gr := by simp [hg, hgr]
  have hb1 : Blk ((w.alloc (.cells (shC i t (.slice An ns.length cn) lim nxt (.slice Ah hs.length ch) (.slice Al ls.length cl)) 29)).alloc (.cells (shC 0 0 (.slice none 0 0) 0 0 (.slice none 0 0) (.slice none 0 0)) 29)) g 29 (shC i t (.slice An ns.length cn) lim nxt (.slice Ah hs.length ch) (.slice Al ls.length cl)) := (hg ▸ Blk.new w 29 (shC i t (.slice An ns.length cn) lim nxt (.slice Ah hs.length ch) (.slice Al ls.length cl)) : Blk (w.alloc (.cells (shC i t (.slice An ns.length cn) lim nxt (.slice Ah hs.length ch) (.slice Al ls.length cl)) 29)) g 29 (shC i t (.slice An ns.length cn) lim nxt (.slice Ah hs.length ch) (.slice Al ls.length cl))).alloc _
  have hr1 : Blk ((w.alloc (.cells (shC i t (.slice An ns.length cn) lim nxt (.slice Ah hs.length ch) (.slice Al ls.length cl)) 29)).alloc (.cells (shC 0 0 (.slice none 0 0) 0 0 (.slice none 0 0) (.slice none 0 0)) 29)) gr 29 (shC 0 0 (.slice none 0 0) 0 0 (.slice none 0 0) (.slice none 0 0)) := hs1 ▸ Blk.new _ _ _
  have hz1 : ((w.alloc (.cells (shC i t (.slice An ns.length cn) lim nxt (.slice Ah hs.length ch) (.slice Al ls.length cl)) 29)).alloc (.cells (shC 0 0 (.slice none 0 0) 0 0 (.slice none 0 0) (.slice none 0 0)) 29)).heap.size = g + 2 := by simp [hg]
  have HN := Lib.hid (hn.keep (hg ▸ hBx))
  have HH := Lib.hid hh
  have HL := Lib.hid hl
  have hwf := hn.wf
  clear hs1 hh hl hn
  unfold shV
  go_enter Try.func30, Try.ntmps30
  go_upto_region 1 with (fail)
  change Code.wp _ _ _ _ ((w.alloc (.cells (shC i t (.slice An ns.length cn) lim nxt (.slice Ah hs.length ch) (.slice Al ls.length cl)) 29)).alloc (.cells (shC 0 0 (.slice none 0 0) 0 0 (.slice none 0 0) (.slice none 0 0)) 29))
  generalize ((w.alloc (.cells (shC i t (.slice An ns.length cn) lim nxt (.slice Ah hs.length ch) (.slice Al ls.length cl)) 29)).alloc (.cells (shC 0 0 (.slice none 0 0) 0 0 (.slice none 0 0) (.slice none 0 0)) 29)) = W at hb1 hr1 hBx hz1 HN ⊢
  try rw [hgr]
  have HB := Lib.hid hBx
  have HWF := Lib.hid hwf
  obtain ⟨q0, q1, q2, q3, q4, q5, q6⟩ := hb1.sh
  have y2 := hb1.frozen 2
  clear hBx hwf
  go_upto_region 2 with ((at_builtin; refine app_own (w0 := W) (g + 2) rfl _ _ 23 3 _ 8 rfl Try.underlying23 1 info_int rfl (by omega) (by omega) (.slice none 0 0) [] 0 rfl _ _ _ _ (nums .i64 ns) rfl (own_nil _ _ _ _) HN.out.reads (nums_one_cell .i64 ns) (Below.refl _ _) (by omega) (by omega) ?_; intro v1 w1 ho1 hB1 _ _; obtain ⟨A1, c1, rfl, hin1⟩ := OwI.of (l := ns) (by simpa [OwnN] using ho1) HWF.out (by omega); have HO1 := Lib.hid hin1; have hb2 := hb1.below hB1 (by omega); have hr2 := hr1.below hB1 (by omega); have HBB := Lib.hid (HB.out.trans (hB1.mono (by omega))); have hsz3 := hB1.size; clear q0 q1 q2 q3 q4 q5 q6 y2 hB1 ho1 hin1 hb1 hr1; obtain ⟨q0, q1, q2, q3, q4, q5, q6⟩ := hb2.sh; have y2 := hb2.frozen 2))
  have hb3 : Blk (w1.setCell ⟨g, 2, none⟩ (.slice A1 ns.length c1)) g 29 (shC i t (.slice A1 ns.length c1) lim nxt (.slice Ah hs.length ch) (.slice Al ls.length cl)) := Blk.setL (l := [Value.int .u64 i, .int .u64 t, (.slice An ns.length cn), .int .i64 lim, .int .u64 nxt, (.slice Ah hs.length ch), (.slice Al ls.length cl)]) hb2 2 _
  have hr3 := hr2.far (p := ⟨g, 2, none⟩) (by show gr ≠ g; omega) (.slice A1 ns.length c1)
  have hB3 := HBB.out.setCell (p := ⟨g, 2, none⟩) (Nat.le_refl _) (.slice A1 ns.length c1)
  have HO3 := Lib.hid (HO1.out.set (p := ⟨g, 2, none⟩) (by show g < g + 2; omega) (.slice A1 ns.length c1))
  have hz3 : g + 2 ≤ (w1.setCell ⟨g, 2, none⟩ (.slice A1 ns.length c1)).heap.size := by simp [World.setCell]; omega
  generalize w1.setCell ⟨g, 2, none⟩ (.slice A1 ns.length c1) = W3 at hb3 hr3 hB3 HO3 hz3 ⊢
  have HB3 := Lib.hid hB3
  have CP := r05_Copy_any W3 lim nxt Ah ch hs Al cl ls (HH.out.keep (hg ▸ hB3)) (HL.out.keep (hg ▸ hB3))
  unfold ledV at CP
  have CP := Lib.hid CP
  clear q0 q1 q2 q3 q4 q5 q6 y2 hB3 hb2 hr2 HBB HO1
  obtain ⟨q0, q1, q2, q3, q4, q5, q6⟩ := hb3.sh
  go_wp2_with fail
  refine CP.out.mono ?_
  rintro e w4 ⟨A3, c3, A4, c4, rfl, hin4, hB4⟩
  have hb4 := hb3.below hB4 hb3.lt
  have hr4 := hr3.below hB4 hr3.lt
  have HB4 := Lib.hid (HB3.out.trans (hB4.mono (by omega)))
  have HI4 : Hid (ShIn w4 (g + 2) A1 c1 ns A3 c3 hs A4 c4 ls) := ⟨HO3.out.keep hB4, hin4.lower (by omega)⟩
  clear q0 q1 q2 q3 q4 q5 q6 hb3 hr3 hB4 hin4 HO3 HB3
  obtain ⟨q0, q1, q2, q3, q4, q5, q6⟩ := hb4.sh
  have y3 := hb4.frozen 3
  have y4 := hb4.frozen 4
  have y5 := hb4.frozen 5
  have y6 := hb4.frozen 6
  go_upto_region 3 with (fail)
  have hb5 : Blk ((((w4.setCell ⟨g, 3, none⟩ (.int .i64 lim)).setCell ⟨g, 4, none⟩ (.int .u64 nxt)).setCell ⟨g, 5, none⟩ (.slice A3 hs.length c3)).setCell ⟨g, 6, none⟩ (.slice A4 ls.length c4)) g 29 (shC i t (.slice A1 ns.length c1) lim nxt (.slice A3 hs.length c3) (.slice A4 ls.length c4)) :=
    ((((Blk.setL (l := [Value.int .u64 i, .int .u64 t, .slice A1 ns.length c1, .int .i64 lim, .int .u64 nxt, .slice Ah hs.length ch, .slice Al ls.length cl]) hb4 3 _).setL 4 _).setL 5 _).setL 6 _)
  have hr5 := (((hr4.far (p := ⟨g, 3, none⟩) (by show gr ≠ g; omega) (.int .i64 lim)).far (p := ⟨g, 4, none⟩) (by show gr ≠ g; omega) (.int .u64 nxt)).far (p := ⟨g, 5, none⟩) (by show gr ≠ g; omega) (.slice A3 hs.length c3)).far (p := ⟨g, 6, none⟩) (by show gr ≠ g; omega) (.slice A4 ls.length c4)
  have f0 := fun (j : Nat) (W : World) (u : Value) (h : ShIn W (g + 2) A1 c1 ns A3 c3 hs A4 c4 ls) => h.set (p := ⟨g, j, none⟩) (by show g < g + 2; omega) u
  have s0 := fun (j : Nat) (W : World) (u : Value) (h : Below g w W) => h.setCell (p := ⟨g, j, none⟩) (Nat.le_refl _) u
  have HI5 : Hid (ShIn ((((w4.setCell ⟨g, 3, none⟩ (.int .i64 lim)).setCell ⟨g, 4, none⟩ (.int .u64 nxt)).setCell ⟨g, 5, none⟩ (.slice A3 hs.length c3)).setCell ⟨g, 6, none⟩ (.slice A4 ls.length c4)) (g + 2) A1 c1 ns A3 c3 hs A4 c4 ls) := f0 _ _ _ (f0 _ _ _ (f0 _ _ _ (f0 _ _ _ HI4.out)))
  have HB5 : Hid (Below g w ((((w4.setCell ⟨g, 3, none⟩ (.int .i64 lim)).setCell ⟨g, 4, none⟩ (.int .u64 nxt)).setCell ⟨g, 5, none⟩ (.slice A3 hs.length c3)).setCell ⟨g, 6, none⟩ (.slice A4 ls.length c4))) := s0 _ _ _ (s0 _ _ _ (s0 _ _ _ (s0 _ _ _ HB4.out)))
  generalize ((((w4.setCell ⟨g, 3, none⟩ (.int .i64 lim)).setCell ⟨g, 4, none⟩ (.int .u64 nxt)).setCell ⟨g, 5, none⟩ (.slice A3 hs.length c3)).setCell ⟨g, 6, none⟩ (.slice A4 ls.length c4)) = W5 at hb5 hr5 HI5 HB5 ⊢
  clear q0 q1 q2 q3 q4 q5 q6 y3 y4 y5 y6 hb4 hr4 HB4 HI4 f0 s0
  have HR5 := Lib.hid hr5
  obtain ⟨q0, q1, q2, q3, q4, q5, q6⟩ := hb5.sh
  obtain ⟨z0, z1, z2, z3, z4, z5, z6⟩ := hr5.sh
  have y0 := hr5.frozen 0
  have y1 := hr5.frozen 1
  have y2 := hr5.frozen 2
  have y3 := hr5.frozen 3
  have y4 := hr5.frozen 4
  have y5 := hr5.frozen 5
  have y6 := hr5.frozen 6
  have hne : g ≠ gr := by omega
  clear hb5 hr5
  go_wp2
  have hrF := Blk.set7 HR5.out (.int .u64 i) (.int .u64 t) (.slice A1 ns.length c1) (.int .i64 lim) (.int .u64 nxt) (.slice A3 hs.length c3) (.slice A4 ls.length c4)
  refine bodyPost_ret (results_cell1 rfl rfl (run_loadVar_row _ _ _ _ _ (0, 0) _ hrF Try.underlying29 rfl info_Shot)) rfl ?_
  have f := fun (j : Nat) (W : World) (u : Value) (h : ShIn W (g + 2) A1 c1 ns A3 c3 hs A4 c4 ls) => h.set (p := ⟨gr, j, none⟩) (by show gr < g + 2; omega) u
  have s := fun (j : Nat) (W : World) (u : Value) (h : Below g w W) => h.setCell (p := ⟨gr, j, none⟩) (by show g ≤ gr; omega) u
  exact ⟨A1, c1, A3, c3, A4, c4, rfl, ShIn.lower (f _ _ _ (f _ _ _ (f _ _ _ (f _ _ _ (f _ _ _ (f _ _ _ (f _ _ _ HI5.out))))))) (by omega), s _ _ _ (s _ _ _ (s _ _ _ (s _ _ _ (s _ _ _ (s _ _ _ (s _ _ _ HB5.out))))))⟩
end Go.Proofs.Ytadkkhbbempaaaa

/- Snapshots: which may be, by the code. -/
namespace Go.Proofs.Ytadkkhbbempaaaa
set_option maxRecDepth 100000
open Go.RowKit

/-! ### Plain -/
structure ShotOk (i t : Int) (ns : List Int) (lim nxt : Int) (hs : List Hd) (ls : List Ls) : Prop where
  late : ∀ h ∈ hs, h.stp ≤ i
  set : IsSet ns
  led : LedOk lim nxt hs ls
  zero : i = 0 ↔ t = 0
noncomputable instance (i t : Int) (ns : List Int) (lim nxt : Int) (hs : List Hd) (ls : List Ls) : Decidable (ShotOk i t ns lim nxt hs ls) := Classical.propDecidable _
def errShot (b : Bool) : Int := if b then 0 else 60
/-- One that is late is there. -/
def lateB (i : Int) (hs : List Hd) : Bool := hs.any fun h => decide (i < h.stp)
theorem lateB_false {i : Int} {hs : List Hd} : lateB i hs = false ↔ ∀ h ∈ hs, h.stp ≤ i := by
  unfold lateB
  rw [List.any_eq_false]
  constructor
  · intro h x hx
    have := h x hx
    simp only [decide_eq_true_eq] at this
    omega
  · intro h x hx
    have := h x hx
    simp only [decide_eq_true_eq]
    omega
theorem shot_bad {i t : Int} {ns : List Int} {lim nxt : Int} {hs : List Hd} {ls : List Ls} (h : ¬ ShotOk i t ns lim nxt hs ls) : errShot (decide (ShotOk i t ns lim nxt hs ls)) = 60 := by rw [decide_eq_false h]; rfl

/-! ### The walk -/
def hdV (h : Hd) : Value := .agg #[.int .i64 h.tok, .int .i64 h.nod, .int .u64 h.bt, .int .u64 h.ser, .int .u64 h.stp]
def lateF (g : Nat) : Value := .func (.func 65) #[] #[.pointer (some ⟨g, 0, none⟩)]
/-- The closure: is this row late. -/
theorem late_any (w : World) (g : Nat) (i : Int) (h : Hd) (hc : w.cell? ⟨g, 0, none⟩ = some (.int .u64 i)) (hlt : g < w.heap.size) :
    Calls Try.prog 65 #[hdV h, .pointer (some ⟨g, 0, none⟩)] w fun e w' => e = .returned (.bool (decide (i < h.stp))) ∧ Below w.heap.size w w' := by
  have hB : Below w.heap.size w (w.alloc (.cells (hdA h) 98)) := (Below.refl _ _).alloc (Nat.le_refl _) _
  have HB := Lib.hid hB
  have hc2 : (w.alloc (.cells (hdA h) 98)).cell? ⟨g, 0, none⟩ = some (.int .u64 i) := (World.cell?_alloc_lt w _ ⟨g, 0, none⟩ hlt).trans hc
  have hn : Blk (w.alloc (.cells (hdA h) 98)) w.heap.size 98 (hdA h) := Blk.new _ _ _
  have hgn : g ≠ w.heap.size := by omega
  obtain ⟨gh, hgh⟩ : ∃ gh, w.heap.size = gh := ⟨_, rfl⟩
  unfold hdV
  rw [hgh] at hn HB ⊢
  clear hB
  go_enter Try.func65, Try.ntmps65
  go_upto_region 1 with (fail)
  change Code.wp _ _ _ _ (w.alloc (.cells (hdA h) 98))
  generalize w.alloc (.cells (hdA h) 98) = W at HB hc2 hn ⊢
  try rw [hgh]
  have d4 : W.cell? ⟨gh, 4, none⟩ = some (.int .u64 h.stp) := (hn.cell 4).trans rfl
  clear hn hc
  go_wp2
  go_ret
  exact ⟨rfl, HB.out⟩

set_option maxRecDepth 100000 in
theorem late_index (w : World) (g : Nat) (i : Int) (A : Option Addr) (c : Nat) (hs : List Hd) (hh : InS hdC 5 w A c hs) (T : TypeId) (cs : Array Value) (hb : Blk w g T cs) (hc : cs[0]? = some (.int .u64 i)) :
    Calls Try.prog 95 #[.slice A hs.length c, lateF g] w fun e w' => ∃ z, e = .returned (.int .i64 z) ∧ decide (0 ≤ z) = lateB i hs ∧ Below w.heap.size w w' := by
  have HH := Lib.hid hh
  have hsz := hh.small
  have hcp := hh.cap
  have HBK := Lib.hid hb
  have hlt0 := hb.lt
  obtain ⟨s, hs0⟩ : ∃ s, w.heap.size = s := ⟨_, rfl⟩
  have CL := Lib.hid (fun W h (hB : Below s w W) => late_any W g i h ((World.cell?_of_block (hB.block g (hs0 ▸ hlt0))).trans ((hb.cell 0).trans hc)) (by have := hB.size; omega))
  rw [hs0] at hlt0 ⊢
  clear hh hb hc
  unfold lateF
  go_enter Try.func95, Try.ntmps95
  go_wp2_with fail
  go_loopw [5, 8] (fun _ j wr => ∃ (k : Nat), j = .int .i64 (k : Int) ∧ k ≤ hs.length ∧ (∀ a (ha : a < hs.length), a < k → hs[a].stp ≤ i) ∧ Below s w wr) (fun _ j _ => hs.length - (intOf j).toNat)
  case atStart => exact ⟨0, rfl, by omega, (fun _ _ h => absurd h (by omega)), Below.refl _ _⟩
  case round =>
    obtain ⟨k, rfl, hk, hgd, hBr⟩ := hrel
    have HG := Lib.hid hgd
    have HB := Lib.hid hBr
    by_cases hlt : k < hs.length
    · obtain ⟨b, off, rfl, _, hall⟩ := (HH.out.keep (hs0 ▸ hBr)).hd (by omega)
      obtain ⟨c0, c1, c2, c3, c4⟩ := hall k hlt
      obtain ⟨x, hx⟩ : ∃ x, hs[k] = x := ⟨_, rfl⟩
      rw [hx] at c0 c1 c2 c3 c4
      have HX := Lib.hid hx
      have CX := CL.out wr x hBr
      unfold hdV at CX
      have hz : s ≤ wr.heap.size := by have := hBr.size; omega
      by_cases hl : i < x.stp
      · rw [decide_eq_true hl] at CX
        have CX := Lib.hid CX
        have HL : Hid (lateB i hs = true) := by
          show _ = _
          unfold lateB
          rw [List.any_eq_true]
          exact ⟨hs[k], List.getElem_mem hlt, by rw [hx]; exact decide_eq_true hl⟩
        clear hall hgd hBr hx hl
        go_wp2_with fail
        refine CX.out.mono ?_
        rintro e w2 ⟨rfl, hB2⟩
        have HB2 := Lib.hid (HB.out.trans (hB2.mono hz))
        clear hB2 c0 c1 c2 c3 c4
        go_wp2
        (try simp only [Exit.inBlock, Exit.then])
        go_ret
        exact ⟨(k : Int), rfl, by rw [HL.out]; exact decide_eq_true (by omega), HB2.out⟩
      · rw [decide_eq_false hl] at CX
        have CX := Lib.hid CX
        have HL := Lib.hid hl
        clear hall hgd hBr hx hl
        go_wp2_with fail
        refine CX.out.mono ?_
        rintro e w2 ⟨rfl, hB2⟩
        have HB2 := Lib.hid (HB.out.trans (hB2.mono hz))
        clear hB2 c0 c1 c2 c3 c4
        go_wp2
        go_roundw
        case rel =>
          refine ⟨k + 1, by go_num, by omega, fun a ha hak => ?_, HB2.out⟩
          rcases Nat.lt_or_ge a k with h1 | h1
          · exact HG.out a ha h1
          · obtain rfl : a = k := by omega
            rw [HX.out]
            have := HL.out
            omega
        case measure => simp [intOf]; omega
    · obtain rfl : k = hs.length := by omega
      have HL : Hid (lateB i hs = false) := lateB_false.2 (fun x hx => by
        obtain ⟨a, ha, rfl⟩ := List.getElem_of_mem hx
        exact hgd a ha ha)
      clear hgd hBr
      go_wp2
      go_ret
      exact ⟨-1, rfl, by rw [HL.out]; rfl, HB.out⟩

theorem late_contains (w : World) (g : Nat) (i : Int) (A : Option Addr) (c : Nat) (hs : List Hd) (hh : InS hdC 5 w A c hs) (T : TypeId) (cs : Array Value) (hb : Blk w g T cs) (hc : cs[0]? = some (.int .u64 i)) :
    Calls Try.prog 64 #[.slice A hs.length c, lateF g] w fun e w' => e = .returned (.bool (lateB i hs)) ∧ Below w.heap.size w w' := by
  have C := Lib.hid (late_index w g i A c hs hh T cs hb hc)
  clear hh hb hc
  go_enter Try.func64, Try.ntmps64
  go_wp2_with fail
  refine C.out.mono ?_
  rintro e w2 ⟨z, rfl, hz, hB2⟩
  have HB2 := Lib.hid hB2
  have HZ := Lib.hid hz
  clear hB2 hz
  go_wp2
  go_ret
  exact ⟨by rw [← HZ.out]; rfl, HB2.out⟩
end Go.Proofs.Ytadkkhbbempaaaa

/- A region that draws its order, whose operations only read or call what leaves a class of worlds: one walk of the text's order serves every order. -/
namespace Go.Proofs.Ytadkkhbbempaaaa
set_option maxRecDepth 100000
open Go.RowKit

/-- A world of a class. -/
structure InClass (K : World → Prop) where
  w : World
  ok : K w
theorem wp_region_class_lit {P : Program} {id : Nat} {Q : Exit → Act → World → Prop} {a : Act} {w : World} {l : List Oper} (K : World → Prop) (hm : P.follows .mixedOrders = true) (hB : Region.lexB .any l.toArray = true) (h0 : K w.drew)
    (h : wpQuiet P l.toArray (fun w' => ∃ p : InClass K, w' = p.w) (fun a' => ∀ w', (∃ p : InClass K, w' = p.w) → Q .normal a' w') l a) : (Code.region id l.toArray true).wp P Q a w :=
  wp_region_quiet (C := fun w' => ∃ p : InClass K, w' = p.w) hm hB ⟨⟨w.drew, h0⟩, rfl⟩ (by simpa using h)
end Go.Proofs.Ytadkkhbbempaaaa

/- Ledgers: the document's Check. -/
namespace Go.Proofs.Ytadkkhbbempaaaa
set_option maxRecDepth 100000
open Go.RowKit

/-- What stands while the document looks at a row of Last. -/
structure KeptX (w : World) (g gh : Nat) (T U : TypeId) (cs ds : Array Value) (pb po : Nat) (pv : Value) (w1 : World) : Prop where
  h1 : Blk w1 g T cs
  h2 : Blk w1 gh U ds
  h3 : Below g w w1
  h4 : w1.cell? ⟨pb, po, none⟩ = some pv
  h5 : pb < w1.heap.size
theorem KeptX.call {w : World} {g gh : Nat} {T U : TypeId} {lim nxt : Int} {hl ll : Value} {x : Ls} {pb po : Nat} {pv : Value} {w1 w2 : World} (hb : Below w1.heap.size w1 w2) (h : KeptX w g gh T U (ledC lim nxt hl ll) (lsA x) pb po pv w1) :
    KeptX w g gh T U (ledC lim nxt hl ll) (lsA x) pb po pv w2 ∧ w2.cell? ⟨g, 0, none⟩ = some (.int .i64 lim) ∧ w2.cell? ⟨g, 1, none⟩ = some (.int .u64 nxt) ∧ w2.cell? ⟨g, 2, none⟩ = some hl ∧ w2.cell? ⟨g, 3, none⟩ = some ll ∧
      w2.cell? ⟨gh, 0, none⟩ = some (.int .i64 x.nod) ∧ w2.cell? ⟨gh, 1, none⟩ = some (.int .u64 x.bt) ∧ w2.cell? ⟨gh, 2, none⟩ = some (.int .u64 x.sq) ∧ w2.cell? ⟨gh, 3, none⟩ = some (.int .i64 x.cod) ∧ w2.cell? ⟨gh, 4, none⟩ = some (.int .i64 x.tok) ∧ w2.cell? ⟨gh, 5, none⟩ = some (.int .u64 x.ser) ∧ w2.cell? ⟨pb, po, none⟩ = some pv := by
  obtain ⟨h1, h2, h3, h4, h5⟩ := h
  have k1 := h1.below hb h1.lt
  have k2 := h2.below hb h2.lt
  have k4 := (hb.cell (p := ⟨pb, po, none⟩) h5).trans h4
  exact ⟨⟨k1, k2, h3.trans (hb.mono (Nat.le_of_lt h1.lt)), k4, Nat.lt_of_lt_of_le h5 hb.size⟩, k1.led.q0, k1.led.q1, k1.led.q2, k1.led.q3, (k2.cell 0).trans rfl, (k2.cell 1).trans rfl, (k2.cell 2).trans rfl, (k2.cell 3).trans rfl, (k2.cell 4).trans rfl, (k2.cell 5).trans rfl, k4⟩
/-- What the document asks of row i, but that its serial is its own. -/
structure LocH (lim nxt : Int) (l : List Hd) (i : Nat) (h : Hd) : Prop where
  rise : 0 < i → ∀ (hl : i - 1 < l.length), l[i - 1].tok < h.tok
  tok1 : 1 ≤ h.tok
  tok2 : h.tok ≤ lim
  nod1 : 1 ≤ h.nod
  nod2 : h.nod ≤ 7
  bt : 1 ≤ h.bt
  stp : 1 ≤ h.stp
  ser1 : 1 ≤ h.ser
  ser2 : h.ser < nxt

set_option maxRecDepth 100000 in
set_option maxHeartbeats 8000000 in
theorem r05_Check_any (w : World) (lim nxt : Int) (Ah : Option Addr) (ch : Nat) (hs : List Hd) (Al : Option Addr) (cl : Nat) (ls : List Ls) (hh : InS hdC 5 w Ah ch hs) (hl : InS lsC 6 w Al cl ls) :
    Calls Try.prog 70 #[ledV lim nxt (.slice Ah hs.length ch) (.slice Al ls.length cl)] w fun e w' => e = .returned (.int .i64 (errLed (decide (LedOk lim nxt hs ls)))) ∧ Below w.heap.size w w' := by
  have HH := Lib.hid hh
  have HL := Lib.hid hl
  have hsz1 := hh.small
  have hsz2 := hl.small
  have hcp1 := hh.cap
  have hcp2 := hl.cap
  obtain ⟨B, hB⟩ : ∃ B, decide (LedOk lim nxt hs ls) = B := ⟨_, rfl⟩
  rw [hB]
  have HOK := Lib.hid hB
  have BAD : Hid (¬ LedOk lim nxt hs ls → errLed B = 50) := fun h => by rw [← hB, decide_eq_false h]; rfl
  obtain ⟨E, hE⟩ : ∃ E, errLed B = E := ⟨_, rfl⟩
  rw [hE] at BAD ⊢
  have HE := Lib.hid hE
  obtain ⟨g, hg⟩ : ∃ g, w.heap.size = g := ⟨_, rfl⟩
  rw [hg]
  have hb0 : Blk (w.alloc (.cells (ledC lim nxt (.slice Ah hs.length ch) (.slice Al ls.length cl)) 27)) g 27 (ledC lim nxt (.slice Ah hs.length ch) (.slice Al ls.length cl)) := hg ▸ Blk.new _ _ _
  have hB0 : Below g w (w.alloc (.cells (ledC lim nxt (.slice Ah hs.length ch) (.slice Al ls.length cl)) 27)) := (Below.refl _ _).alloc (by omega) _
  clear hB hE hh hl
  have CA := fun W hl ll cod tok ser => r05_answer_any W lim nxt hl ll cod tok ser
  unfold ledV at CA ⊢
  have CA := Lib.hid CA
  go_enter Try.func70, Try.ntmps70
  go_upto_region 1 with (fail)
  change Code.wp _ _ _ _ (w.alloc (.cells (ledC lim nxt (.slice Ah hs.length ch) (.slice Al ls.length cl)) 27))
  generalize (w.alloc (.cells (ledC lim nxt (.slice Ah hs.length ch) (.slice Al ls.length cl)) 27)) = W at hb0 hB0 ⊢
  obtain ⟨q0, q1, q2, q3⟩ := hb0.led
  have HB0 := Lib.hid hB0
  by_cases h1 : lim < 1
  · have e1 : decide (lim < 1) = true := decide_eq_true h1
    have HV1 : Hid (E = 50) := BAD.out (fun h => by have := h.head.l1; omega)
    go_wp2
    go_ret
    exact ⟨by rw [HV1.out]; rfl, HB0.out⟩
  have e1 : decide (lim < 1) = false := decide_eq_false h1
  by_cases h2 : 65535 < lim
  · have e2 : decide (65535 < lim) = true := decide_eq_true h2
    have HV1 : Hid (E = 50) := BAD.out (fun h => by have := h.head.l2; omega)
    go_wp2
    go_ret
    exact ⟨by rw [HV1.out]; rfl, HB0.out⟩
  have e2 : decide (65535 < lim) = false := decide_eq_false h2
  by_cases h3 : nxt < 1
  · have e3 : decide (nxt < 1) = true := decide_eq_true h3
    have HV1 : Hid (E = 50) := BAD.out (fun h => by have := h.head.n1; omega)
    go_wp2
    go_ret
    exact ⟨by rw [HV1.out]; rfl, HB0.out⟩
  have e3 : decide (nxt < 1) = false := decide_eq_false h3
  by_cases h4 : (64 : Int) < hs.length
  · have e4 : decide ((64 : Int) < hs.length) = true := decide_eq_true h4
    have HV1 : Hid (E = 50) := BAD.out (fun h => by have := h.head.len; omega)
    go_wp2
    go_ret
    exact ⟨by rw [HV1.out]; rfl, HB0.out⟩
  have e4 : decide ((64 : Int) < hs.length) = false := decide_eq_false h4
  have HHEAD : Hid (HeadOk lim nxt hs.length) := ⟨by omega, by omega, by omega, by omega⟩
  go_wp2_with fail
  clear h1 h2 h3 e1 e2 e3 e4 q0 q1 q2 q3 HB0
  go_loopw [3, 4, 31] (fun _ _ i wr => ∃ (k : Nat), i = .int .i64 (k : Int) ∧ k ≤ hs.length ∧ HdsOk lim nxt hs k ∧ Blk wr g 27 (ledC lim nxt (.slice Ah hs.length ch) (.slice Al ls.length cl)) ∧ Below g w wr) (fun _ _ i _ => hs.length - (intOf i).toNat)
  case atStart => exact ⟨0, rfl, by omega, HdsOk.zero, hb0, hB0⟩
  case round =>
    clear hb0 hB0
    obtain ⟨k, rfl, hk, hok, hbr, hBr⟩ := hrel
    have HOKS := Lib.hid hok
    have HBB := Lib.hid hBr
    by_cases hlt : k < hs.length
    · obtain ⟨b, off, rfl, hbl, hall⟩ := (HH.out.keep (by rw [hg]; exact hBr)).hd (by omega)
      have hd := hall k hlt
      obtain ⟨x, hx⟩ : ∃ x, hs[k] = x := ⟨_, rfl⟩
      rw [hx] at hd
      have HX := Lib.hid hx
      obtain ⟨q0, q1, q2, q3⟩ := hbr.led
      obtain ⟨c0, c1, c2, c3, c4⟩ := hd
      obtain ⟨gh, hgh⟩ : ∃ gh, wr.heap.size = gh := ⟨_, rfl⟩
      have hlt0 : g < gh := hgh ▸ hbr.lt
      have hltb : b < gh := hgh ▸ hbl
      have hnew : Blk (wr.alloc (.cells (hdA x) 98)) gh 98 (hdA x) := hgh ▸ Blk.new _ _ _
      have hbr2 := hbr.alloc (.cells (hdA x) 98)
      have hBr2 := hBr.alloc (by omega) (.cells (hdA x) 98)
      have hpv : ∀ j (hj : j < hs.length), k = j + 1 → (wr.alloc (.cells (hdA x) 98)).cell? ⟨b, off + j * 5, none⟩ = some (.int .i64 hs[j].tok) := fun j hj _ => (World.cell?_alloc_lt wr _ ⟨b, off + j * 5, none⟩ hbl).trans (hall j hj).c0
      have NOT : Hid (¬ HdOk lim nxt hs k x → E = 50) := fun h => BAD.out (not_hds hlt (by rw [hx]; exact h))
      clear hall hok hBr hbr hx
      go_upto_region 6 with (fail)
      change Code.wp _ _ _ _ (wr.alloc (.cells (hdA x) 98))
      generalize wr.alloc (.cells (hdA x) 98) = W2 at hnew hbr2 hBr2 hpv ⊢
      try rw [hgh]
      clear c0 c1 c2 c3 c4 q0 q1 q2 q3 hgh hbl
      obtain ⟨q0, q1, q2, q3⟩ := hbr2.led
      have d0 : W2.cell? ⟨gh, 0, none⟩ = some (.int .i64 x.tok) := (hnew.cell 0).trans rfl
      have d1 : W2.cell? ⟨gh, 1, none⟩ = some (.int .i64 x.nod) := (hnew.cell 1).trans rfl
      have d2 : W2.cell? ⟨gh, 2, none⟩ = some (.int .u64 x.bt) := (hnew.cell 2).trans rfl
      have d3 : W2.cell? ⟨gh, 3, none⟩ = some (.int .u64 x.ser) := (hnew.cell 3).trans rfl
      have d4 : W2.cell? ⟨gh, 4, none⟩ = some (.int .u64 x.stp) := (hnew.cell 4).trans rfl
      have HNW := Lib.hid hnew
      have HB2 := Lib.hid hbr2
      have HBE2 := Lib.hid hBr2
      have HPV := Lib.hid hpv
      clear hnew hbr2 hBr2 hpv
      go_cut [93] (fun y wx => ∃ bd : Bool, y = .bool bd ∧ (bd = true → E = 50) ∧ (bd = false → LocH lim nxt hs k x) ∧ Blk wx gh 98 (hdA x) ∧ Blk wx g 27 (ledC lim nxt (.slice (some ⟨b, off, none⟩) hs.length ch) (.slice Al ls.length cl)) ∧ Below g w wx)
      case first =>
        cases k with
        | zero =>
          by_cases h1 : x.tok < 1
          · have e1 : decide (x.tok < 1) = true := decide_eq_true h1
            have HV1 : Hid (E = 50) := NOT.out (fun h => by have := h.tok1; omega)
            go_wp2_with fail
            go_quiet (fail)
            go_wp2
            go_meet
            case rel => exact ⟨true, rfl, fun _ => HV1.out, (fun h => by cases h), HNW.out.drewN _, HB2.out.drewN _, below_drewN HBE2.out _⟩
          have e1 : decide (x.tok < 1) = false := decide_eq_false h1
          by_cases h2 : lim < x.tok
          · have e2 : decide (lim < x.tok) = true := decide_eq_true h2
            have HV1 : Hid (E = 50) := NOT.out (fun h => by have := h.tok2; omega)
            go_wp2_with fail
            go_quiet (fail)
            go_wp2
            go_meet
            case rel => exact ⟨true, rfl, fun _ => HV1.out, (fun h => by cases h), HNW.out.drewN _, HB2.out.drewN _, below_drewN HBE2.out _⟩
          have e2 : decide (lim < x.tok) = false := decide_eq_false h2
          by_cases h3 : x.nod < 1
          · have e3 : decide (x.nod < 1) = true := decide_eq_true h3
            have HV1 : Hid (E = 50) := NOT.out (fun h => by have := h.nod1; omega)
            go_wp2_with fail
            go_quiet (fail)
            go_wp2
            go_meet
            case rel => exact ⟨true, rfl, fun _ => HV1.out, (fun h => by cases h), HNW.out.drewN _, HB2.out.drewN _, below_drewN HBE2.out _⟩
          have e3 : decide (x.nod < 1) = false := decide_eq_false h3
          by_cases h4 : 7 < x.nod
          · have e4 : decide (7 < x.nod) = true := decide_eq_true h4
            have HV1 : Hid (E = 50) := NOT.out (fun h => by have := h.nod2; omega)
            go_wp2_with fail
            go_quiet (fail)
            go_wp2
            go_meet
            case rel => exact ⟨true, rfl, fun _ => HV1.out, (fun h => by cases h), HNW.out.drewN _, HB2.out.drewN _, below_drewN HBE2.out _⟩
          have e4 : decide (7 < x.nod) = false := decide_eq_false h4
          by_cases h5 : x.bt < 1
          · have e5 : decide (x.bt < 1) = true := decide_eq_true h5
            have HV1 : Hid (E = 50) := NOT.out (fun h => by have := h.bt; omega)
            go_wp2_with fail
            go_quiet (fail)
            go_wp2
            go_meet
            case rel => exact ⟨true, rfl, fun _ => HV1.out, (fun h => by cases h), HNW.out.drewN _, HB2.out.drewN _, below_drewN HBE2.out _⟩
          have e5 : decide (x.bt < 1) = false := decide_eq_false h5
          by_cases h6 : x.stp < 1
          · have e6 : decide (x.stp < 1) = true := decide_eq_true h6
            have HV1 : Hid (E = 50) := NOT.out (fun h => by have := h.stp; omega)
            go_wp2_with fail
            go_quiet (fail)
            go_wp2
            go_meet
            case rel => exact ⟨true, rfl, fun _ => HV1.out, (fun h => by cases h), HNW.out.drewN _, HB2.out.drewN _, below_drewN HBE2.out _⟩
          have e6 : decide (x.stp < 1) = false := decide_eq_false h6
          by_cases h7 : x.ser < 1
          · have e7 : decide (x.ser < 1) = true := decide_eq_true h7
            have HV1 : Hid (E = 50) := NOT.out (fun h => by have := h.ser1; omega)
            go_wp2_with fail
            go_quiet (fail)
            go_wp2
            go_meet
            case rel => exact ⟨true, rfl, fun _ => HV1.out, (fun h => by cases h), HNW.out.drewN _, HB2.out.drewN _, below_drewN HBE2.out _⟩
          have e7 : decide (x.ser < 1) = false := decide_eq_false h7
          by_cases h8 : nxt ≤ x.ser
          · have e8 : decide (nxt ≤ x.ser) = true := decide_eq_true h8
            have HV1 : Hid (E = 50) := NOT.out (fun h => by have := h.ser2; omega)
            go_wp2_with fail
            go_quiet (fail)
            go_wp2
            go_meet
            case rel => exact ⟨true, rfl, fun _ => HV1.out, (fun h => by cases h), HNW.out.drewN _, HB2.out.drewN _, below_drewN HBE2.out _⟩
          have e8 : decide (nxt ≤ x.ser) = false := decide_eq_false h8
          go_wp2_with fail
          go_quiet (fail)
          go_wp2
          go_meet
          case rel => exact ⟨false, rfl, (fun h => by cases h), fun _ => ⟨fun h => absurd h (by omega), by omega, by omega, by omega, by omega, by omega, by omega, by omega, by omega⟩, HNW.out.drewN _, HB2.out.drewN _, below_drewN HBE2.out _⟩
        | succ j =>
          have p0 := HPV.out j (by omega) rfl
          obtain ⟨P, hP⟩ : ∃ P, hs[j].tok = P := ⟨_, rfl⟩
          rw [hP] at p0
          have HP := Lib.hid hP
          clear hP
          have s1 : IntKind.i64.wrap ((j : Int) + 1 - 1) = (j : Int) := by simp [IntKind.wrap_i64]; omega
          have s2 : decide ((0 : Int) < (j : Int) + 1) = true := decide_eq_true (by omega)
          have s3 : IntKind.i64.wrap (j : Int) = (j : Int) := by simp [IntKind.wrap_i64]; omega
          have hj : j < hs.length := by omega
          by_cases h0 : x.tok ≤ P
          · have e0 : decide (x.tok ≤ P) = true := decide_eq_true h0
            have HV1 : Hid (E = 50) := NOT.out (fun h => by have := h.rise (by omega) hj; have e := HP.out; simp only [Nat.add_sub_cancel] at this; omega)
            go_wp2_with fail
            go_quiet (fail)
            go_wp2
            go_meet
            case rel => exact ⟨true, rfl, fun _ => HV1.out, (fun h => by cases h), HNW.out.drewN _, HB2.out.drewN _, below_drewN HBE2.out _⟩
          have e0 : decide (x.tok ≤ P) = false := decide_eq_false h0
          by_cases h1 : x.tok < 1
          · have e1 : decide (x.tok < 1) = true := decide_eq_true h1
            have HV1 : Hid (E = 50) := NOT.out (fun h => by have := h.tok1; omega)
            go_wp2_with fail
            go_quiet (fail)
            go_wp2
            go_meet
            case rel => exact ⟨true, rfl, fun _ => HV1.out, (fun h => by cases h), HNW.out.drewN _, HB2.out.drewN _, below_drewN HBE2.out _⟩
          have e1 : decide (x.tok < 1) = false := decide_eq_false h1
          by_cases h2 : lim < x.tok
          · have e2 : decide (lim < x.tok) = true := decide_eq_true h2
            have HV1 : Hid (E = 50) := NOT.out (fun h => by have := h.tok2; omega)
            go_wp2_with fail
            go_quiet (fail)
            go_wp2
            go_meet
            case rel => exact ⟨true, rfl, fun _ => HV1.out, (fun h => by cases h), HNW.out.drewN _, HB2.out.drewN _, below_drewN HBE2.out _⟩
          have e2 : decide (lim < x.tok) = false := decide_eq_false h2
          by_cases h3 : x.nod < 1
          · have e3 : decide (x.nod < 1) = true := decide_eq_true h3
            have HV1 : Hid (E = 50) := NOT.out (fun h => by have := h.nod1; omega)
            go_wp2_with fail
            go_quiet (fail)
            go_wp2
            go_meet
            case rel => exact ⟨true, rfl, fun _ => HV1.out, (fun h => by cases h), HNW.out.drewN _, HB2.out.drewN _, below_drewN HBE2.out _⟩
          have e3 : decide (x.nod < 1) = false := decide_eq_false h3
          by_cases h4 : 7 < x.nod
          · have e4 : decide (7 < x.nod) = true := decide_eq_true h4
            have HV1 : Hid (E = 50) := NOT.out (fun h => by have := h.nod2; omega)
            go_wp2_with fail
            go_quiet (fail)
            go_wp2
            go_meet
            case rel => exact ⟨true, rfl, fun _ => HV1.out, (fun h => by cases h), HNW.out.drewN _, HB2.out.drewN _, below_drewN HBE2.out _⟩
          have e4 : decide (7 < x.nod) = false := decide_eq_false h4
          by_cases h5 : x.bt < 1
          · have e5 : decide (x.bt < 1) = true := decide_eq_true h5
            have HV1 : Hid (E = 50) := NOT.out (fun h => by have := h.bt; omega)
            go_wp2_with fail
            go_quiet (fail)
            go_wp2
            go_meet
            case rel => exact ⟨true, rfl, fun _ => HV1.out, (fun h => by cases h), HNW.out.drewN _, HB2.out.drewN _, below_drewN HBE2.out _⟩
          have e5 : decide (x.bt < 1) = false := decide_eq_false h5
          by_cases h6 : x.stp < 1
          · have e6 : decide (x.stp < 1) = true := decide_eq_true h6
            have HV1 : Hid (E = 50) := NOT.out (fun h => by have := h.stp; omega)
            go_wp2_with fail
            go_quiet (fail)
            go_wp2
            go_meet
            case rel => exact ⟨true, rfl, fun _ => HV1.out, (fun h => by cases h), HNW.out.drewN _, HB2.out.drewN _, below_drewN HBE2.out _⟩
          have e6 : decide (x.stp < 1) = false := decide_eq_false h6
          by_cases h7 : x.ser < 1
          · have e7 : decide (x.ser < 1) = true := decide_eq_true h7
            have HV1 : Hid (E = 50) := NOT.out (fun h => by have := h.ser1; omega)
            go_wp2_with fail
            go_quiet (fail)
            go_wp2
            go_meet
            case rel => exact ⟨true, rfl, fun _ => HV1.out, (fun h => by cases h), HNW.out.drewN _, HB2.out.drewN _, below_drewN HBE2.out _⟩
          have e7 : decide (x.ser < 1) = false := decide_eq_false h7
          by_cases h8 : nxt ≤ x.ser
          · have e8 : decide (nxt ≤ x.ser) = true := decide_eq_true h8
            have HV1 : Hid (E = 50) := NOT.out (fun h => by have := h.ser2; omega)
            go_wp2_with fail
            go_quiet (fail)
            go_wp2
            go_meet
            case rel => exact ⟨true, rfl, fun _ => HV1.out, (fun h => by cases h), HNW.out.drewN _, HB2.out.drewN _, below_drewN HBE2.out _⟩
          have e8 : decide (nxt ≤ x.ser) = false := decide_eq_false h8
          go_wp2_with fail
          go_quiet (fail)
          go_wp2
          go_meet
          case rel => exact ⟨false, rfl, (fun h => by cases h), fun _ => ⟨fun _ hl => by have e := HP.out; simp only [Nat.add_sub_cancel]; omega, by omega, by omega, by omega, by omega, by omega, by omega, by omega, by omega⟩, HNW.out.drewN _, HB2.out.drewN _, below_drewN HBE2.out _⟩
      case rest =>
      obtain ⟨bd, rfl, hbE, hbL, hnw, hbw, hBw⟩ := hcut
      clear q0 q1 q2 q3 d0 d1 d2 d3 d4 HNW HB2 HBE2 HPV
      have HBW := Lib.hid hBw
      cases bd
      rotate_left
      · have HV1 : Hid (E = 50) := hbE rfl
        clear hbE hbL hnw hbw hBw
        go_wp2
        (try simp only [Exit.inBlock, Exit.then])
        go_ret
        exact ⟨by rw [HV1.out]; rfl, HBW.out⟩
      have HLOC := Lib.hid (hbL rfl)
      obtain ⟨q0, q1, q2, q3⟩ := hbw.led
      have HN0 : Hid (Blk wc gh 98 (hdA x)) := hnw
      have HB0 := Lib.hid hbw
      clear hbE hbL hnw hbw hBw
      go_wp2_with fail
      clear q0 q1 q2 q3
      go_loopw [6, 99] (fun _ i wr => ∃ (j : Nat), i = .int .i64 (j : Int) ∧ j ≤ k ∧ (∀ a (ha : a < hs.length), a < j → hs[a].ser ≠ x.ser) ∧ Blk wr gh 98 (hdA x) ∧ Blk wr g 27 (ledC lim nxt (.slice (some ⟨b, off, none⟩) hs.length ch) (.slice Al ls.length cl)) ∧ Below g w wr) (fun _ i _ => k - (intOf i).toNat)
      case atStart => exact ⟨0, rfl, by omega, fun _ _ h => absurd h (by omega), HN0.out, HB0.out, HBW.out⟩
      case round =>
        clear HN0 HB0 HBW
        obtain ⟨j, rfl, hj, hser, hnw, hbw, hBw⟩ := hrel
        have HSER := Lib.hid hser
        by_cases hjk : j < k
        · obtain ⟨b', off', hA', hbl, hall⟩ := (HH.out.keep (by rw [hg]; exact hBw)).hd (by omega)
          injection hA' with hA'
          injection hA' with hA1 hA2 _
          subst hA1 hA2
          have hd := hall j (by omega)
          obtain ⟨y, hy⟩ : ∃ y, hs[j] = y := ⟨_, rfl⟩
          rw [hy] at hd
          have HY := Lib.hid hy
          obtain ⟨c0, c1, c2, c3, c4⟩ := hd
          have f3 : wr.cell? ⟨gh, 3, none⟩ = some (.int .u64 x.ser) := (hnw.cell 3).trans rfl
          have HNW := Lib.hid (hnw.alloc (.cells (hdA y) 98))
          have HB2 := Lib.hid (hbw.alloc (.cells (hdA y) 98))
          have HBX := fun o => hBw.alloc (by have := hbw.lt; omega) o
          have HBE2 := Lib.hid (HBX (.cells (hdA y) 98))
          have hltw := hnw.lt
          clear hall hser hnw hbw hBw hy
          have HBC : Hid (∀ cs, Below g w (wr.alloc (.cells cs 98))) := fun cs => HBX (.cells cs 98)
          by_cases hq : y.ser = x.ser
          · have HV1 : Hid (E = 50) := NOT.out (fun h => h.once j (by omega) hjk (by rw [HY.out]; exact hq))
            have e1 : (y.ser == x.ser) = true := by simp [hq]
            clear HBX
            go_wp2
            (try simp only [Exit.inBlock, Exit.then])
            go_ret
            exact ⟨by rw [HV1.out]; rfl, HBC.out _⟩
          · have e1 : (y.ser == x.ser) = false := beq_eq_false_iff_ne.2 hq
            have HQ := Lib.hid hq
            clear HBX
            go_wp2
            go_roundw
            case rel =>
              refine ⟨j + 1, by go_num, by omega, fun a ha haj => ?_, HNW.out, HB2.out, HBE2.out⟩
              rcases Nat.lt_or_ge a j with h1 | h1
              · exact HSER.out a ha h1
              · obtain rfl : a = j := by omega
                rw [HY.out]
                exact HQ.out
            case measure => simp [intOf]; omega
        · obtain rfl : j = k := by omega
          have HB2 := Lib.hid hbw
          have HBE2 := Lib.hid hBw
          clear hser hnw hbw hBw
          go_wp2
          go_roundw
          case rel =>
            have l := HLOC.out
            exact ⟨j + 1, by go_num, by omega, HOKS.out.step hlt (by rw [HX.out]; exact ⟨l.rise, l.tok1, l.tok2, l.nod1, l.nod2, l.bt, l.stp, l.ser1, l.ser2, HSER.out⟩), HB2.out, HBE2.out⟩
          case measure => simp [intOf]; omega
    · obtain rfl : k = hs.length := by omega
      obtain ⟨q0, q1, q2, q3⟩ := hbr.led
      have HBR := Lib.hid hbr
      clear hok hBr hbr hlt hk
      go_wp2_with fail
      clear q0 q1 q2 q3
      go_loopw [7, 8, 113] (fun _ _ i wr => ∃ (k : Nat), i = .int .i64 (k : Int) ∧ k ≤ ls.length ∧ LssOk lim nxt ls k ∧ Blk wr g 27 (ledC lim nxt (.slice Ah hs.length ch) (.slice Al ls.length cl)) ∧ Below g w wr) (fun _ _ i _ => ls.length - (intOf i).toNat)
      case atStart => exact ⟨0, rfl, by omega, LssOk.zero, HBR.out, HBB.out⟩
      case round =>
        clear HBR HBB
        obtain ⟨k, rfl, hk, hok, hbr, hBr⟩ := hrel
        have HOKL := Lib.hid hok
        have HBB := Lib.hid hBr
        by_cases hlt : k < ls.length
        · obtain ⟨b, off, rfl, hbl, hall⟩ := (HL.out.keep (by rw [hg]; exact hBr)).ls (by omega)
          have hd := hall k hlt
          obtain ⟨x, hx⟩ : ∃ x, ls[k] = x := ⟨_, rfl⟩
          rw [hx] at hd
          have HX := Lib.hid hx
          obtain ⟨q0, q1, q2, q3⟩ := hbr.led
          obtain ⟨c0, c1, c2, c3, c4, c5⟩ := hd
          obtain ⟨gh, hgh⟩ : ∃ gh, wr.heap.size = gh := ⟨_, rfl⟩
          have hlt0 : g < gh := hgh ▸ hbr.lt
          have hltb : b < gh := hgh ▸ hbl
          have hnew : Blk (wr.alloc (.cells (lsA x) 123)) gh 123 (lsA x) := hgh ▸ Blk.new _ _ _
          have hbr2 := hbr.alloc (.cells (lsA x) 123)
          have hBr2 := hBr.alloc (by omega) (.cells (lsA x) 123)
          have hpv : ∀ j (hj : j < ls.length), k = j + 1 → (wr.alloc (.cells (lsA x) 123)).cell? ⟨b, off + j * 6, none⟩ = some (.int .i64 ls[j].nod) := fun j hj _ => (World.cell?_alloc_lt wr _ ⟨b, off + j * 6, none⟩ hbl).trans (hall j hj).c0
          have NOT : Hid (¬ LsOk lim nxt ls k x → E = 50) := fun h => BAD.out (not_lss hlt (by rw [hx]; exact h))
          clear hall hok hBr hbr hx
          go_upto_region 18 with (fail)
          change Code.wp _ _ _ _ (wr.alloc (.cells (lsA x) 123))
          generalize wr.alloc (.cells (lsA x) 123) = W2 at hnew hbr2 hBr2 hpv ⊢
          try rw [hgh]
          clear c0 c1 c2 c3 c4 c5 q0 q1 q2 q3 hgh hbl
          obtain ⟨q0, q1, q2, q3⟩ := hbr2.led
          have d0 : W2.cell? ⟨gh, 0, none⟩ = some (.int .i64 x.nod) := (hnew.cell 0).trans rfl
          have d1 : W2.cell? ⟨gh, 1, none⟩ = some (.int .u64 x.bt) := (hnew.cell 1).trans rfl
          have d2 : W2.cell? ⟨gh, 2, none⟩ = some (.int .u64 x.sq) := (hnew.cell 2).trans rfl
          have d3 : W2.cell? ⟨gh, 3, none⟩ = some (.int .i64 x.cod) := (hnew.cell 3).trans rfl
          have d4 : W2.cell? ⟨gh, 4, none⟩ = some (.int .i64 x.tok) := (hnew.cell 4).trans rfl
          have d5 : W2.cell? ⟨gh, 5, none⟩ = some (.int .u64 x.ser) := (hnew.cell 5).trans rfl
          have HNW := Lib.hid hnew
          have HB2 := Lib.hid hbr2
          have HBE2 := Lib.hid hBr2
          have HPV := Lib.hid hpv
          have CX := fun W => CA.out W (.slice Ah hs.length ch) (.slice (some ⟨b, off, none⟩) ls.length cl) x.cod x.tok x.ser
          clear hnew hbr2 hBr2 hpv
          go_cut [158] (fun y wx => ∃ bd : Bool, y = .bool bd ∧ (bd = true → E = 50) ∧ (bd = false → LsOk lim nxt ls k x) ∧ Blk wx g 27 (ledC lim nxt (.slice Ah hs.length ch) (.slice (some ⟨b, off, none⟩) ls.length cl)) ∧ Below g w wx)
          case first =>
            cases k with
            | zero =>
              by_cases h1 : x.nod < 1
              · have e1 : decide (x.nod < 1) = true := decide_eq_true h1
                have HV1 : Hid (E = 50) := NOT.out (fun h => by have := h.nod1; omega)
                go_wp2_with fail
                go_quiet (fail)
                go_wp2
                go_meet
                case rel => exact ⟨true, rfl, fun _ => HV1.out, (fun h => by cases h), HB2.out.drewN _, below_drewN HBE2.out _⟩
              have e1 : decide (x.nod < 1) = false := decide_eq_false h1
              by_cases h2 : 7 < x.nod
              · have e2 : decide (7 < x.nod) = true := decide_eq_true h2
                have HV1 : Hid (E = 50) := NOT.out (fun h => by have := h.nod2; omega)
                go_wp2_with fail
                go_quiet (fail)
                go_wp2
                go_meet
                case rel => exact ⟨true, rfl, fun _ => HV1.out, (fun h => by cases h), HB2.out.drewN _, below_drewN HBE2.out _⟩
              have e2 : decide (7 < x.nod) = false := decide_eq_false h2
              by_cases h3 : x.bt < 1
              · have e3 : decide (x.bt < 1) = true := decide_eq_true h3
                have HV1 : Hid (E = 50) := NOT.out (fun h => by have := h.bt; omega)
                go_wp2_with fail
                go_quiet (fail)
                go_wp2
                go_meet
                case rel => exact ⟨true, rfl, fun _ => HV1.out, (fun h => by cases h), HB2.out.drewN _, below_drewN HBE2.out _⟩
              have e3 : decide (x.bt < 1) = false := decide_eq_false h3
              by_cases h4 : x.sq < 1
              · have e4 : decide (x.sq < 1) = true := decide_eq_true h4
                have HV1 : Hid (E = 50) := NOT.out (fun h => by have := h.sq; omega)
                go_wp2_with fail
                go_quiet (fail)
                go_wp2
                go_meet
                case rel => exact ⟨true, rfl, fun _ => HV1.out, (fun h => by cases h), HB2.out.drewN _, below_drewN HBE2.out _⟩
              have e4 : decide (x.sq < 1) = false := decide_eq_false h4
              obtain ⟨an, han⟩ : ∃ an, ansOk lim nxt x.cod x.tok x.ser = an := ⟨_, rfl⟩
              simp only [han] at CX
              have CX := Lib.hid CX
              have HAN := Lib.hid han
              clear han
              have K0 : KeptX w g gh 27 123 (ledC lim nxt (.slice Ah hs.length ch) (.slice (some ⟨b, off, none⟩) ls.length cl)) (lsA x) g 0 (.int .i64 lim) W2 := ⟨HB2.out, HNW.out, HBE2.out, q0, HB2.out.lt⟩
              obtain ⟨KW, hKW⟩ : ∃ KW : World → Prop, KW = KeptX w g gh 27 123 (ledC lim nxt (.slice Ah hs.length ch) (.slice (some ⟨b, off, none⟩) ls.length cl)) (lsA x) g 0 (.int .i64 lim) := ⟨_, rfl⟩
              have KC : ∀ w1 w2, KW w1 → Below w1.heap.size w1 w2 → KW w2 := fun w1 w2 h hb => by rw [hKW] at h ⊢; exact (KeptX.call hb h).1
              have KF : ∀ w1, KW w1 → KeptX w g gh 27 123 (ledC lim nxt (.slice Ah hs.length ch) (.slice (some ⟨b, off, none⟩) ls.length cl)) (lsA x) g 0 (.int .i64 lim) w1 := fun w1 h => by rw [hKW] at h; exact h
              have K1 : KW W2.drew := KC W2 _ (by rw [hKW]; exact K0) (Below.refl _ _).drew
              have F0 : ∀ p : InClass KW, p.w.cell? ⟨g, 0, none⟩ = some (.int .i64 lim) := fun p => (KF _ p.ok).h1.led.q0
              have F1 : ∀ p : InClass KW, p.w.cell? ⟨g, 1, none⟩ = some (.int .u64 nxt) := fun p => (KF _ p.ok).h1.led.q1
              have F2 : ∀ p : InClass KW, p.w.cell? ⟨g, 2, none⟩ = some (.slice Ah hs.length ch) := fun p => (KF _ p.ok).h1.led.q2
              have F3 : ∀ p : InClass KW, p.w.cell? ⟨g, 3, none⟩ = some (.slice (some ⟨b, off, none⟩) ls.length cl) := fun p => (KF _ p.ok).h1.led.q3
              have G0 : ∀ p : InClass KW, p.w.cell? ⟨gh, 0, none⟩ = some (.int .i64 x.nod) := fun p => ((KF _ p.ok).h2.cell 0).trans rfl
              have G1 : ∀ p : InClass KW, p.w.cell? ⟨gh, 1, none⟩ = some (.int .u64 x.bt) := fun p => ((KF _ p.ok).h2.cell 1).trans rfl
              have G2 : ∀ p : InClass KW, p.w.cell? ⟨gh, 2, none⟩ = some (.int .u64 x.sq) := fun p => ((KF _ p.ok).h2.cell 2).trans rfl
              have G3 : ∀ p : InClass KW, p.w.cell? ⟨gh, 3, none⟩ = some (.int .i64 x.cod) := fun p => ((KF _ p.ok).h2.cell 3).trans rfl
              have G4 : ∀ p : InClass KW, p.w.cell? ⟨gh, 4, none⟩ = some (.int .i64 x.tok) := fun p => ((KF _ p.ok).h2.cell 4).trans rfl
              have G5 : ∀ p : InClass KW, p.w.cell? ⟨gh, 5, none⟩ = some (.int .u64 x.ser) := fun p => ((KF _ p.ok).h2.cell 5).trans rfl
              have G6 : ∀ p : InClass KW, p.w.cell? ⟨g, 0, none⟩ = some (.int .i64 lim) := fun p => (KF _ p.ok).h4
              haveI NE : Nonempty (InClass KW) := ⟨⟨W2.drew, K1⟩⟩
              have KC := Lib.hid KC
              have KF := Lib.hid KF
              clear hKW K0 q0 q1 q2 q3 d0 d1 d2 d3 d4 d5
              go_wp2_with fail
              refine wp_region_class_lit KW (by kernel_rfl) (by kernel_rfl) K1 ?_
              repeat (go_big_quiet_step ((go_at_call 99; refine (CX.out _).mono ?_; rintro e8 w8 ⟨he, hB8⟩; exact ⟨he, ⟨w8, KC.out _ w8 (InClass.ok _) hB8⟩, rfl⟩)))
              refine wpQuiet_nil ?_
              intro _ hw9
              obtain ⟨p9, hw9⟩ := hw9
              subst hw9
              have k9 := KF.out _ p9.ok
              have HB8 := Lib.hid k9.h1
              have HBE8 := Lib.hid k9.h3
              clear k9 F0 F1 F2 F3 G0 G1 G2 G3 G4 G5 G6
              go_wp2
              go_meet
              case rel => exact ⟨!an, rfl, (fun h => NOT.out (fun hh => by rw [HAN.out.symm.trans hh.ans] at h; cases h)), (fun h => ⟨fun h => absurd h (by omega), by omega, by omega, by omega, by omega, HAN.out.trans (by simpa using h)⟩), HB8.out, HBE8.out⟩
            | succ j =>
              have p0 := HPV.out j (by omega) rfl
              obtain ⟨P, hP⟩ : ∃ P, ls[j].nod = P := ⟨_, rfl⟩
              rw [hP] at p0
              have HP := Lib.hid hP
              clear hP
              have s1 : IntKind.i64.wrap ((j : Int) + 1 - 1) = (j : Int) := by simp [IntKind.wrap_i64]; omega
              have s2 : decide ((0 : Int) < (j : Int) + 1) = true := decide_eq_true (by omega)
              have s3 : IntKind.i64.wrap (j : Int) = (j : Int) := by simp [IntKind.wrap_i64]; omega
              have hj : j < ls.length := by omega
              by_cases h0 : x.nod ≤ P
              · have e0 : decide (x.nod ≤ P) = true := decide_eq_true h0
                have HV1 : Hid (E = 50) := NOT.out (fun h => by have := h.rise (by omega) hj; have e := HP.out; simp only [Nat.add_sub_cancel] at this; omega)
                go_wp2_with fail
                go_quiet (fail)
                go_wp2
                go_meet
                case rel => exact ⟨true, rfl, fun _ => HV1.out, (fun h => by cases h), HB2.out.drewN _, below_drewN HBE2.out _⟩
              have e0 : decide (x.nod ≤ P) = false := decide_eq_false h0
              by_cases h1 : x.nod < 1
              · have e1 : decide (x.nod < 1) = true := decide_eq_true h1
                have HV1 : Hid (E = 50) := NOT.out (fun h => by have := h.nod1; omega)
                go_wp2_with fail
                go_quiet (fail)
                go_wp2
                go_meet
                case rel => exact ⟨true, rfl, fun _ => HV1.out, (fun h => by cases h), HB2.out.drewN _, below_drewN HBE2.out _⟩
              have e1 : decide (x.nod < 1) = false := decide_eq_false h1
              by_cases h2 : 7 < x.nod
              · have e2 : decide (7 < x.nod) = true := decide_eq_true h2
                have HV1 : Hid (E = 50) := NOT.out (fun h => by have := h.nod2; omega)
                go_wp2_with fail
                go_quiet (fail)
                go_wp2
                go_meet
                case rel => exact ⟨true, rfl, fun _ => HV1.out, (fun h => by cases h), HB2.out.drewN _, below_drewN HBE2.out _⟩
              have e2 : decide (7 < x.nod) = false := decide_eq_false h2
              by_cases h3 : x.bt < 1
              · have e3 : decide (x.bt < 1) = true := decide_eq_true h3
                have HV1 : Hid (E = 50) := NOT.out (fun h => by have := h.bt; omega)
                go_wp2_with fail
                go_quiet (fail)
                go_wp2
                go_meet
                case rel => exact ⟨true, rfl, fun _ => HV1.out, (fun h => by cases h), HB2.out.drewN _, below_drewN HBE2.out _⟩
              have e3 : decide (x.bt < 1) = false := decide_eq_false h3
              by_cases h4 : x.sq < 1
              · have e4 : decide (x.sq < 1) = true := decide_eq_true h4
                have HV1 : Hid (E = 50) := NOT.out (fun h => by have := h.sq; omega)
                go_wp2_with fail
                go_quiet (fail)
                go_wp2
                go_meet
                case rel => exact ⟨true, rfl, fun _ => HV1.out, (fun h => by cases h), HB2.out.drewN _, below_drewN HBE2.out _⟩
              have e4 : decide (x.sq < 1) = false := decide_eq_false h4
              obtain ⟨an, han⟩ : ∃ an, ansOk lim nxt x.cod x.tok x.ser = an := ⟨_, rfl⟩
              simp only [han] at CX
              have CX := Lib.hid CX
              have HAN := Lib.hid han
              clear han
              have K0 : KeptX w g gh 27 123 (ledC lim nxt (.slice Ah hs.length ch) (.slice (some ⟨b, off, none⟩) ls.length cl)) (lsA x) b (off + j * 6) (.int .i64 P) W2 := ⟨HB2.out, HNW.out, HBE2.out, p0, (by have := HNW.out.lt; omega)⟩
              obtain ⟨KW, hKW⟩ : ∃ KW : World → Prop, KW = KeptX w g gh 27 123 (ledC lim nxt (.slice Ah hs.length ch) (.slice (some ⟨b, off, none⟩) ls.length cl)) (lsA x) b (off + j * 6) (.int .i64 P) := ⟨_, rfl⟩
              have KC : ∀ w1 w2, KW w1 → Below w1.heap.size w1 w2 → KW w2 := fun w1 w2 h hb => by rw [hKW] at h ⊢; exact (KeptX.call hb h).1
              have KF : ∀ w1, KW w1 → KeptX w g gh 27 123 (ledC lim nxt (.slice Ah hs.length ch) (.slice (some ⟨b, off, none⟩) ls.length cl)) (lsA x) b (off + j * 6) (.int .i64 P) w1 := fun w1 h => by rw [hKW] at h; exact h
              have K1 : KW W2.drew := KC W2 _ (by rw [hKW]; exact K0) (Below.refl _ _).drew
              have F0 : ∀ p : InClass KW, p.w.cell? ⟨g, 0, none⟩ = some (.int .i64 lim) := fun p => (KF _ p.ok).h1.led.q0
              have F1 : ∀ p : InClass KW, p.w.cell? ⟨g, 1, none⟩ = some (.int .u64 nxt) := fun p => (KF _ p.ok).h1.led.q1
              have F2 : ∀ p : InClass KW, p.w.cell? ⟨g, 2, none⟩ = some (.slice Ah hs.length ch) := fun p => (KF _ p.ok).h1.led.q2
              have F3 : ∀ p : InClass KW, p.w.cell? ⟨g, 3, none⟩ = some (.slice (some ⟨b, off, none⟩) ls.length cl) := fun p => (KF _ p.ok).h1.led.q3
              have G0 : ∀ p : InClass KW, p.w.cell? ⟨gh, 0, none⟩ = some (.int .i64 x.nod) := fun p => ((KF _ p.ok).h2.cell 0).trans rfl
              have G1 : ∀ p : InClass KW, p.w.cell? ⟨gh, 1, none⟩ = some (.int .u64 x.bt) := fun p => ((KF _ p.ok).h2.cell 1).trans rfl
              have G2 : ∀ p : InClass KW, p.w.cell? ⟨gh, 2, none⟩ = some (.int .u64 x.sq) := fun p => ((KF _ p.ok).h2.cell 2).trans rfl
              have G3 : ∀ p : InClass KW, p.w.cell? ⟨gh, 3, none⟩ = some (.int .i64 x.cod) := fun p => ((KF _ p.ok).h2.cell 3).trans rfl
              have G4 : ∀ p : InClass KW, p.w.cell? ⟨gh, 4, none⟩ = some (.int .i64 x.tok) := fun p => ((KF _ p.ok).h2.cell 4).trans rfl
              have G5 : ∀ p : InClass KW, p.w.cell? ⟨gh, 5, none⟩ = some (.int .u64 x.ser) := fun p => ((KF _ p.ok).h2.cell 5).trans rfl
              have G6 : ∀ p : InClass KW, p.w.cell? ⟨b, (off + j * 6), none⟩ = some (.int .i64 P) := fun p => (KF _ p.ok).h4
              haveI NE : Nonempty (InClass KW) := ⟨⟨W2.drew, K1⟩⟩
              have KC := Lib.hid KC
              have KF := Lib.hid KF
              clear hKW K0 q0 q1 q2 q3 d0 d1 d2 d3 d4 d5
              go_wp2_with fail
              refine wp_region_class_lit KW (by kernel_rfl) (by kernel_rfl) K1 ?_
              repeat (go_big_quiet_step ((go_at_call 99; refine (CX.out _).mono ?_; rintro e8 w8 ⟨he, hB8⟩; exact ⟨he, ⟨w8, KC.out _ w8 (InClass.ok _) hB8⟩, rfl⟩)))
              refine wpQuiet_nil ?_
              intro _ hw9
              obtain ⟨p9, hw9⟩ := hw9
              subst hw9
              have k9 := KF.out _ p9.ok
              have HB8 := Lib.hid k9.h1
              have HBE8 := Lib.hid k9.h3
              clear k9 F0 F1 F2 F3 G0 G1 G2 G3 G4 G5 G6
              go_wp2
              go_meet
              case rel => exact ⟨!an, rfl, (fun h => NOT.out (fun hh => by rw [HAN.out.symm.trans hh.ans] at h; cases h)), (fun h => ⟨fun _ hl => by have e := HP.out; simp only [Nat.add_sub_cancel]; omega, by omega, by omega, by omega, by omega, HAN.out.trans (by simpa using h)⟩), HB8.out, HBE8.out⟩
          case rest =>
          obtain ⟨bd, rfl, hbE, hbL, hbw, hBw⟩ := hcut
          clear q0 q1 q2 q3 d0 d1 d2 d3 d4 d5 HNW HB2 HBE2 HPV CX
          have HBW := Lib.hid hBw
          have HB2 := Lib.hid hbw
          cases bd
          rotate_left
          · have HV1 : Hid (E = 50) := hbE rfl
            clear hbE hbL hbw hBw
            go_wp2
            (try simp only [Exit.inBlock, Exit.then])
            go_ret
            exact ⟨by rw [HV1.out]; rfl, HBW.out⟩
          have HLOC := Lib.hid (hbL rfl)
          clear hbE hbL hbw hBw
          go_wp2
          go_roundw
          case rel => exact ⟨k + 1, by go_num, by omega, HOKL.out.step hlt (by rw [HX.out]; exact HLOC.out), HB2.out, HBW.out⟩
          case measure => simp [intOf]; omega
        · obtain rfl : k = ls.length := by omega
          have HEE : Hid (E = 0) := by
            show _ = _
            rw [← HE.out, ← HOK.out, decide_eq_true (show LedOk lim nxt hs ls from ⟨HHEAD.out, HOKS.out, HOKL.out⟩)]
            rfl
          clear hok hbr hBr
          go_wp2
          go_ret
          exact ⟨by rw [HEE.out]; rfl, HBB.out⟩
end Go.Proofs.Ytadkkhbbempaaaa

/- Snapshots: which may be, by the code and by the document. -/
namespace Go.Proofs.Ytadkkhbbempaaaa
set_option maxRecDepth 100000
open Go.RowKit

set_option maxRecDepth 100000 in
set_option maxHeartbeats 4000000 in
theorem shot_Check_any (w : World) (i t : Int) (An : Option Addr) (cn : Nat) (ns : List Int) (lim nxt : Int) (Ah : Option Addr) (ch : Nat) (hs : List Hd) (Al : Option Addr) (cl : Nat) (ls : List Ls) (hn : InN .i64 w An cn ns) (hh : InS hdC 5 w Ah ch hs) (hl : InS lsC 6 w Al cl ls)
    (hw1 : ∀ h ∈ hs, h.Wf) (hw2 : ∀ x ∈ ls, x.Wf) (hnx : nxt < 18446744073709551616) :
    Calls Try.prog 32 #[shV i t (.slice An ns.length cn) lim nxt (.slice Ah hs.length ch) (.slice Al ls.length cl)] w fun e w' => e = .returned (.int .i64 (errShot (decide (ShotOk i t ns lim nxt hs ls)))) ∧ Below w.heap.size w w' := by
  obtain ⟨E, hE⟩ : ∃ E, errShot (decide (ShotOk i t ns lim nxt hs ls)) = E := ⟨_, rfl⟩
  have BAD : Hid (¬ ShotOk i t ns lim nxt hs ls → E = 60) := fun h => by rw [← hE]; exact shot_bad h
  have GOOD : Hid (ShotOk i t ns lim nxt hs ls → E = 0) := fun h => by rw [← hE, decide_eq_true h]; rfl
  rw [hE]
  clear hE
  obtain ⟨g, hg⟩ : ∃ g, w.heap.size = g := ⟨_, rfl⟩
  rw [hg]
  have hBx : Below g w (w.alloc (.cells (shC i t (.slice An ns.length cn) lim nxt (.slice Ah hs.length ch) (.slice Al ls.length cl)) 29)) := (Below.refl _ _).alloc (by omega) _
  have hb1 : Blk (w.alloc (.cells (shC i t (.slice An ns.length cn) lim nxt (.slice Ah hs.length ch) (.slice Al ls.length cl)) 29)) g 29 (shC i t (.slice An ns.length cn) lim nxt (.slice Ah hs.length ch) (.slice Al ls.length cl)) := hg ▸ Blk.new _ _ _
  have HN := Lib.hid hn
  have HH := Lib.hid hh
  have HL := Lib.hid hl
  have CF := Lib.hid (fun W hin T cs hb hc => late_contains W g i Ah ch hs hin T cs hb hc)
  have CK := fun W hin => nodes_Check_any W An cn ns hin
  have CL := fun W h1 h2 => ledger_Check_any W lim nxt Ah ch hs Al cl ls h1 h2 hw1 hw2 hnx
  unfold ledV at CL
  have CL := Lib.hid CL
  have CK := Lib.hid CK
  have hmf : ∀ (fn : Fn) (first cap : Array Value) (w : World), (Instr.makeFunc fn first cap).run Try.prog w = .ok (.func fn first cap) w := fun _ _ _ _ => rfl
  clear hn hh hl hw1 hw2 hnx
  unfold shV
  go_enter Try.func32, Try.ntmps32
  go_upto_region 1 with (fail)
  change Code.wp _ _ _ _ (w.alloc (.cells (shC i t (.slice An ns.length cn) lim nxt (.slice Ah hs.length ch) (.slice Al ls.length cl)) 29))
  generalize (w.alloc (.cells (shC i t (.slice An ns.length cn) lim nxt (.slice Ah hs.length ch) (.slice Al ls.length cl)) 29)) = W at hb1 hBx ⊢
  try rw [hg]
  have CX := CF.out W (HH.out.keep (hg ▸ hBx)) _ _ hb1 rfl
  unfold lateF at CX
  have CX := Lib.hid CX
  obtain ⟨q0, q1, q2, q3, q4, q5, q6⟩ := hb1.sh
  go_wp2_with fail
  refine CX.out.mono ?_
  rintro e w1 ⟨rfl, hB1⟩
  have hb2 := hb1.below hB1 hb1.lt
  have hBw1 := hBx.trans (hB1.mono (Nat.le_of_lt hb1.lt))
  clear q0 q1 q2 q3 q4 q5 q6 hb1 hBx hB1 hmf CX
  obtain ⟨q0, q1, q2, q3, q4, q5, q6⟩ := hb2.sh
  have HB1 := Lib.hid hBw1
  have hgl := hb2.lt
  obtain ⟨L, hL⟩ : ∃ L, lateB i hs = L := ⟨_, rfl⟩
  rw [hL]
  have HLT := Lib.hid hL
  have HB2 := Lib.hid hb2
  clear hL hBw1 hb2
  cases L
  rotate_left
  · have HV1 : Hid (E = 60) := BAD.out (fun h => by have := lateB_false.2 h.late; rw [HLT.out] at this; cases this)
    go_wp2
    go_ret
    exact ⟨by rw [HV1.out]; rfl, HB1.out⟩
  have CK1 := CK.out w1 (HN.out.keep (hg ▸ HB1.out))
  by_cases hset : IsSet ns
  rotate_left
  · rw [decide_eq_false hset, show errArg false = 1 from rfl] at CK1
    have CK1 := Lib.hid CK1
    have HV1 : Hid (E = 60) := BAD.out (fun h => hset h.set)
    clear hset
    go_wp2_with fail
    refine CK1.out.mono ?_
    rintro e w2 ⟨rfl, hB2⟩
    have HBB := Lib.hid (HB1.out.trans (hB2.mono (Nat.le_of_lt hgl)))
    clear hB2
    go_wp2
    go_ret
    exact ⟨by rw [HV1.out]; rfl, HBB.out⟩
  rw [decide_eq_true hset, show errArg true = 0 from rfl] at CK1
  have CK1 := Lib.hid CK1
  have HSET := Lib.hid hset
  clear hset
  go_wp2_with fail
  refine CK1.out.mono ?_
  rintro e w2 ⟨rfl, hB2⟩
  have hb3 := HB2.out.below hB2 hgl
  have HBB := Lib.hid (HB1.out.trans (hB2.mono (Nat.le_of_lt hgl)))
  clear hB2 q0 q1 q2 q3 q4 q5 q6 hgl
  have CL2 := CL.out w2 (HH.out.keep (hg ▸ HBB.out)) (HL.out.keep (hg ▸ HBB.out))
  obtain ⟨q0, q1, q2, q3, q4, q5, q6⟩ := hb3.sh
  have HB3 := Lib.hid hb3
  have hgl := hb3.lt
  clear hb3
  by_cases hled : LedOk lim nxt hs ls
  rotate_left
  · rw [decide_eq_false hled, show errLed false = 50 from rfl] at CL2
    have CL2 := Lib.hid CL2
    have HV1 : Hid (E = 60) := BAD.out (fun h => hled h.led)
    clear hled
    go_wp2_with fail
    refine CL2.out.mono ?_
    rintro e w3 ⟨rfl, hB3⟩
    have HBC := Lib.hid (HBB.out.trans (hB3.mono (Nat.le_of_lt hgl)))
    clear hB3
    go_wp2
    go_ret
    exact ⟨by rw [HV1.out]; rfl, HBC.out⟩
  rw [decide_eq_true hled, show errLed true = 0 from rfl] at CL2
  have CL2 := Lib.hid CL2
  have HLED := Lib.hid hled
  clear hled
  go_wp2_with fail
  refine CL2.out.mono ?_
  rintro e w3 ⟨rfl, hB3⟩
  have hb4 := HB3.out.below hB3 hgl
  have HBC := Lib.hid (HBB.out.trans (hB3.mono (Nat.le_of_lt hgl)))
  clear hB3 q0 q1 q2 q3 q4 q5 q6
  obtain ⟨q0, q1, q2, q3, q4, q5, q6⟩ := hb4.sh
  clear hb4
  have mk : (i = 0 ↔ t = 0) → ShotOk i t ns lim nxt hs ls := fun h => ⟨lateB_false.1 HLT.out, HSET.out, HLED.out, h⟩
  by_cases hi : i = 0
  · by_cases ht : t = 0
    · have HV1 : Hid (E = 0) := GOOD.out (mk ⟨fun _ => ht, fun _ => hi⟩)
      subst hi
      subst ht
      clear mk
      go_wp2
      go_ret
      exact ⟨by rw [HV1.out]; rfl, HBC.out⟩
    · have HV1 : Hid (E = 60) := BAD.out (fun h => ht (h.zero.1 hi))
      have e2 : (t == 0) = false := beq_eq_false_iff_ne.2 ht
      subst hi
      clear mk ht
      go_wp2
      go_ret
      exact ⟨by rw [HV1.out]; rfl, HBC.out⟩
  · have e1 : (i == 0) = false := beq_eq_false_iff_ne.2 hi
    by_cases ht : t = 0
    · have HV1 : Hid (E = 60) := BAD.out (fun h => hi (h.zero.2 ht))
      subst ht
      clear mk hi
      go_wp2
      go_ret
      exact ⟨by rw [HV1.out]; rfl, HBC.out⟩
    · have HV1 : Hid (E = 0) := GOOD.out (mk ⟨fun h => absurd h hi, fun h => absurd h ht⟩)
      have e2 : (t == 0) = false := beq_eq_false_iff_ne.2 ht
      clear mk ht hi
      go_wp2
      go_ret
      exact ⟨by rw [HV1.out]; rfl, HBC.out⟩
end Go.Proofs.Ytadkkhbbempaaaa

/- Snapshots: which may be, by the document. -/
namespace Go.Proofs.Ytadkkhbbempaaaa
set_option maxRecDepth 100000
open Go.RowKit

/-- What is asked ahead of the rows. -/
noncomputable def preB (i t : Int) (ns : List Int) (lim nxt : Int) (hs : List Hd) (ls : List Ls) : Bool := decide (IsSet ns) && (decide (LedOk lim nxt hs ls) && ((i == 0) == (t == 0)))
theorem preB_iff {i t : Int} {ns : List Int} {lim nxt : Int} {hs : List Hd} {ls : List Ls} : ShotOk i t ns lim nxt hs ls ↔ (preB i t ns lim nxt hs ls = true ∧ ∀ a (ha : a < hs.length), hs[a].stp ≤ i) := by
  unfold preB
  rw [Bool.and_eq_true, Bool.and_eq_true, decide_eq_true_iff, decide_eq_true_iff]
  constructor
  · intro h
    refine ⟨⟨h.set, h.led, ?_⟩, fun a ha => h.late _ (List.getElem_mem ha)⟩
    by_cases hi : i = 0
    · have ht := h.zero.1 hi
      simp [hi, ht]
    · have ht : ¬ t = 0 := fun e => hi (h.zero.2 e)
      rw [beq_eq_false_iff_ne.2 hi, beq_eq_false_iff_ne.2 ht]
      rfl
  · rintro ⟨⟨h1, h2, h3⟩, h4⟩
    refine ⟨fun x hx => ?_, h1, h2, ?_⟩
    · obtain ⟨a, ha, rfl⟩ := List.getElem_of_mem hx
      exact h4 a ha
    · by_cases hi : i = 0
      · by_cases ht : t = 0
        · exact ⟨fun _ => ht, fun _ => hi⟩
        · simp [hi, ht] at h3
      · by_cases ht : t = 0
        · simp [hi, ht] at h3
        · exact ⟨fun e => absurd e hi, fun e => absurd e ht⟩

set_option maxRecDepth 100000 in
set_option maxHeartbeats 4000000 in
theorem r06_Check_any (w : World) (i t : Int) (An : Option Addr) (cn : Nat) (ns : List Int) (lim nxt : Int) (Ah : Option Addr) (ch : Nat) (hs : List Hd) (Al : Option Addr) (cl : Nat) (ls : List Ls) (hn : InN .i64 w An cn ns) (hh : InS hdC 5 w Ah ch hs) (hl : InS lsC 6 w Al cl ls) :
    Calls Try.prog 35 #[shV i t (.slice An ns.length cn) lim nxt (.slice Ah hs.length ch) (.slice Al ls.length cl)] w fun e w' => e = .returned (.int .i64 (errShot (decide (ShotOk i t ns lim nxt hs ls)))) ∧ Below w.heap.size w w' := by
  obtain ⟨E, hE⟩ : ∃ E, errShot (decide (ShotOk i t ns lim nxt hs ls)) = E := ⟨_, rfl⟩
  have HE := Lib.hid hE
  rw [hE]
  clear hE
  have hsz := hh.small
  have hcp := hh.cap
  obtain ⟨g, hg⟩ : ∃ g, w.heap.size = g := ⟨_, rfl⟩
  rw [hg]
  have hBx : Below g w (w.alloc (.cells (shC i t (.slice An ns.length cn) lim nxt (.slice Ah hs.length ch) (.slice Al ls.length cl)) 29)) := (Below.refl _ _).alloc (by omega) _
  have hb1 : Blk (w.alloc (.cells (shC i t (.slice An ns.length cn) lim nxt (.slice Ah hs.length ch) (.slice Al ls.length cl)) 29)) g 29 (shC i t (.slice An ns.length cn) lim nxt (.slice Ah hs.length ch) (.slice Al ls.length cl)) := hg ▸ Blk.new _ _ _
  have HN := Lib.hid hn
  have HH := Lib.hid hh
  have HL := Lib.hid hl
  have CK := fun W hin => ref_setCheck_any W An cn ns hin
  have CL := fun W h1 h2 => r05_Check_any W lim nxt Ah ch hs Al cl ls h1 h2
  unfold ledV at CL
  have CL := Lib.hid CL
  have CK := Lib.hid CK
  clear hn hh hl
  unfold shV
  go_enter Try.func35, Try.ntmps35
  go_upto_region 1 with (fail)
  change Code.wp _ _ _ _ (w.alloc (.cells (shC i t (.slice An ns.length cn) lim nxt (.slice Ah hs.length ch) (.slice Al ls.length cl)) 29))
  generalize (w.alloc (.cells (shC i t (.slice An ns.length cn) lim nxt (.slice Ah hs.length ch) (.slice Al ls.length cl)) 29)) = W at hb1 hBx ⊢
  try rw [hg]
  obtain ⟨q0, q1, q2, q3, q4, q5, q6⟩ := hb1.sh
  have HB1 := Lib.hid hb1
  have HX1 := Lib.hid hBx
  have hgl := hb1.lt
  have CK1 := CK.out W (HN.out.keep (hg ▸ hBx))
  clear hb1 hBx
  go_cut [3] (fun y wx => y = .bool (preB i t ns lim nxt hs ls) ∧ Blk wx g 29 (shC i t (.slice An ns.length cn) lim nxt (.slice Ah hs.length ch) (.slice Al ls.length cl)) ∧ Below g w wx)
  case first =>
    by_cases hset : IsSet ns
    rotate_left
    · rw [decide_eq_false hset, show errArg false = 1 from rfl] at CK1
      have CK1 := Lib.hid CK1
      have HP : Hid (preB i t ns lim nxt hs ls = false) := by
        show _ = _
        rw [preB, decide_eq_false hset, Bool.false_and]
      clear hset
      go_wp2_with fail
      refine CK1.out.mono ?_
      rintro e w2 ⟨rfl, hw2⟩
      obtain rfl := hw2.symm
      go_wp2
      go_meet
      case rel => exact ⟨by rw [HP.out], HB1.out, HX1.out⟩
    rw [decide_eq_true hset, show errArg true = 0 from rfl] at CK1
    have CK1 := Lib.hid CK1
    have HSET : Hid (preB i t ns lim nxt hs ls = (decide (LedOk lim nxt hs ls) && ((i == 0) == (t == 0)))) := by
      show _ = _
      rw [preB, decide_eq_true hset, Bool.true_and]
    clear hset
    have CL2 := CL.out W (HH.out.keep (hg ▸ HX1.out)) (HL.out.keep (hg ▸ HX1.out))
    by_cases hled : LedOk lim nxt hs ls
    rotate_left
    · rw [decide_eq_false hled, show errLed false = 50 from rfl] at CL2
      have CL2 := Lib.hid CL2
      have HP : Hid (preB i t ns lim nxt hs ls = false) := by
        show _ = _
        rw [HSET.out, decide_eq_false hled, Bool.false_and]
      clear hled
      go_wp2_with fail
      refine CK1.out.mono ?_
      rintro e w2 ⟨rfl, hw2⟩
      obtain rfl := hw2.symm
      go_wp2_with fail
      refine CL2.out.mono ?_
      rintro e w3 ⟨rfl, hB3⟩
      have HB3 := Lib.hid (HB1.out.below hB3 hgl)
      have HX3 := Lib.hid (HX1.out.trans (hB3.mono (Nat.le_of_lt hgl)))
      clear hB3
      go_wp2
      go_meet
      case rel => exact ⟨by rw [HP.out], HB3.out, HX3.out⟩
    rw [decide_eq_true hled, show errLed true = 0 from rfl] at CL2
    have CL2 := Lib.hid CL2
    have HLED : Hid (preB i t ns lim nxt hs ls = ((i == 0) == (t == 0))) := by
      show _ = _
      rw [HSET.out, decide_eq_true hled, Bool.true_and]
    clear hled
    go_wp2_with fail
    refine CK1.out.mono ?_
    rintro e w2 ⟨rfl, hw2⟩
    obtain rfl := hw2.symm
    go_wp2_with fail
    refine CL2.out.mono ?_
    rintro e w3 ⟨rfl, hB3⟩
    have hb3 := HB1.out.below hB3 hgl
    have HB3 := Lib.hid hb3
    have HX3 := Lib.hid (HX1.out.trans (hB3.mono (Nat.le_of_lt hgl)))
    clear hB3 q0 q1 q2 q3 q4 q5 q6
    obtain ⟨q0, q1, q2, q3, q4, q5, q6⟩ := hb3.sh
    clear hb3
    by_cases hi : i = 0
    · subst hi
      by_cases ht : t = 0
      · subst ht
        go_wp2
        go_meet
        case rel => exact ⟨by rw [HLED.out]; rfl, HB3.out, HX3.out⟩
      · have e2 : (t == 0) = false := beq_eq_false_iff_ne.2 ht
        have HT := Lib.hid e2
        clear ht
        go_wp2
        go_meet
        case rel => exact ⟨by rw [HLED.out, HT.out]; rfl, HB3.out, HX3.out⟩
    · have e1 : (i == 0) = false := beq_eq_false_iff_ne.2 hi
      have HI := Lib.hid e1
      clear hi
      by_cases ht : t = 0
      · subst ht
        go_wp2
        go_meet
        case rel => exact ⟨by rw [HLED.out, HI.out]; rfl, HB3.out, HX3.out⟩
      · have e2 : (t == 0) = false := beq_eq_false_iff_ne.2 ht
        have HT := Lib.hid e2
        clear ht
        go_wp2
        go_meet
        case rel => exact ⟨by rw [HLED.out, HI.out, HT.out]; rfl, HB3.out, HX3.out⟩
  case rest =>
  obtain ⟨rfl, hb2, hB2⟩ := hcut
  obtain ⟨P, hP⟩ : ∃ P, preB i t ns lim nxt hs ls = P := ⟨_, rfl⟩
  rw [hP]
  have HP := Lib.hid hP
  clear hP q0 q1 q2 q3 q4 q5 q6 HB1 HX1 CK1
  obtain ⟨q0, q1, q2, q3, q4, q5, q6⟩ := hb2.sh
  go_wp2_with fail
  clear q0 q1 q2 q3 q4 q5 q6
  go_loopw [3, 5, 29] (fun gd _ j wr => ∃ (k : Nat) (G : Bool), gd = .bool G ∧ j = .int .i64 (k : Int) ∧ k ≤ hs.length ∧ (G = true ↔ (P = true ∧ ∀ a (ha : a < hs.length), a < k → hs[a].stp ≤ i)) ∧ Blk wr g 29 (shC i t (.slice An ns.length cn) lim nxt (.slice Ah hs.length ch) (.slice Al ls.length cl)) ∧ Below g w wr) (fun _ _ j _ => hs.length - (intOf j).toNat)
  case atStart => exact ⟨0, P, rfl, rfl, by omega, ⟨fun h => ⟨h, fun _ _ h => absurd h (by omega)⟩, fun h => h.1⟩, hb2, hB2⟩
  case round =>
    clear hb2 hB2
    obtain ⟨k, G, rfl, rfl, hk, hG, hbr, hBr⟩ := hrel
    have HG := Lib.hid hG
    have HBR := Lib.hid hBr
    by_cases hlt : k < hs.length
    · obtain ⟨b, off, rfl, hbl, hall⟩ := (HH.out.keep (hg ▸ hBr)).hd (by omega)
      obtain ⟨c0, c1, c2, c3, c4⟩ := hall k hlt
      obtain ⟨x, hx⟩ : ∃ x, hs[k] = x := ⟨_, rfl⟩
      rw [hx] at c0 c1 c2 c3 c4
      have HX := Lib.hid hx
      obtain ⟨gh, hgh⟩ : ∃ gh, wr.heap.size = gh := ⟨_, rfl⟩
      have hlt0 : g < gh := hgh ▸ hbr.lt
      have hnew : Blk (wr.alloc (.cells (hdA x) 98)) gh 98 (hdA x) := hgh ▸ Blk.new _ _ _
      have hbr2 := hbr.alloc (.cells (hdA x) 98)
      have hBr2 := hBr.alloc (by omega) (.cells (hdA x) 98)
      clear hall hG hbr hBr hx
      go_upto_region 5 with (fail)
      change Code.wp _ _ _ _ (wr.alloc (.cells (hdA x) 98))
      generalize wr.alloc (.cells (hdA x) 98) = W2 at hnew hbr2 hBr2 ⊢
      try rw [hgh]
      clear c0 c1 c2 c3 c4 hgh hbl
      obtain ⟨q0, q1, q2, q3, q4, q5, q6⟩ := hbr2.sh
      have d4 : W2.cell? ⟨gh, 4, none⟩ = some (.int .u64 x.stp) := (hnew.cell 4).trans rfl
      have HB2 := Lib.hid hbr2
      have HX2 := Lib.hid hBr2
      clear hnew hbr2 hBr2
      have FIN : Hid (∀ G2, G2 = (G && decide (x.stp ≤ i)) → (G2 = true ↔ (P = true ∧ ∀ a (ha : a < hs.length), a < k + 1 → hs[a].stp ≤ i))) := by
        rintro G2 rfl
        rw [Bool.and_eq_true, HG.out, decide_eq_true_iff]
        constructor
        · rintro ⟨⟨h1, h2⟩, h3⟩
          refine ⟨h1, fun a ha hak => ?_⟩
          rcases Nat.lt_or_ge a k with h | h
          · exact h2 a ha h
          · obtain rfl : a = k := by omega
            rw [HX.out]
            exact h3
        · rintro ⟨h1, h2⟩
          refine ⟨⟨h1, fun a ha hak => h2 a ha (by omega)⟩, ?_⟩
          have := h2 k hlt (by omega)
          rw [HX.out] at this
          exact this
      cases G
      · go_wp2
        go_roundw
        case rel => exact ⟨k + 1, false, rfl, by go_num, by omega, FIN.out _ rfl, HB2.out, HX2.out⟩
        case measure => simp [intOf]; omega
      · go_wp2
        go_roundw
        case rel => exact ⟨k + 1, _, rfl, by go_num, by omega, FIN.out _ rfl, HB2.out, HX2.out⟩
        case measure => simp [intOf]; omega
    · obtain rfl : k = hs.length := by omega
      clear hG hbr hBr
      cases G
      · have HV1 : Hid (E = 60) := by
          show _ = _
          rw [← HE.out]
          refine shot_bad fun h => ?_
          obtain ⟨h1, h2⟩ := preB_iff.1 h
          have := HG.out.2 ⟨HP.out.symm.trans h1, fun a ha _ => h2 a ha⟩
          cases this
        go_wp2
        go_ret
        exact ⟨by rw [HV1.out]; rfl, HBR.out⟩
      · have HV1 : Hid (E = 0) := by
          show _ = _
          obtain ⟨h1, h2⟩ := HG.out.1 rfl
          rw [← HE.out, decide_eq_true (preB_iff.2 ⟨HP.out.trans h1, fun a ha => h2 a ha ha⟩)]
          rfl
        go_wp2
        go_ret
        exact ⟨by rw [HV1.out]; rfl, HBR.out⟩
end Go.Proofs.Ytadkkhbbempaaaa

/- Entries of a log, what lasts: plain, and in memory. -/
namespace Go.Proofs.Ytadkkhbbempaaaa
set_option maxRecDepth 100000
open Go.RowKit

/-! ### Plain -/
/-- An entry: its term, its command. -/
structure En where
  tm : Int
  k : Int
  n : Int
  t : Int
  l : List Int
  b : Int
  q : Int
  s : Int
  m : Int
noncomputable def En.ok (e : En) : Bool := codeOk e.k e.n e.t e.l e.b e.q e.s e.m
structure En.Wf (e : En) : Prop where
  tm : 0 ≤ e.tm ∧ e.tm < 18446744073709551616
  k : (Lit.int .i64 e.k).wf = true
  n : (Lit.int .i64 e.n).wf = true
  t : (Lit.int .i64 e.t).wf = true
  l : e.l.length ≤ 17592186043904
  b : 0 ≤ e.b ∧ e.b < 18446744073709551616
  q : 0 ≤ e.q ∧ e.q < 18446744073709551616
  s : 0 ≤ e.s ∧ e.s < 18446744073709551616
  m : 0 ≤ e.m ∧ e.m < 18446744073709551616
/-- An entry, and where its list stands. -/
structure Ec where
  A : Option Addr
  c : Nat
  e : En
def ecC (x : Ec) : List Value := [.int .u64 x.e.tm, .int .i64 x.e.k, .int .i64 x.e.n, .int .i64 x.e.t, .slice x.A x.e.l.length x.c, .int .u64 x.e.b, .int .u64 x.e.q, .int .u64 x.e.s, .int .u64 x.e.m]
def ecA (x : Ec) : Array Value := #[.int .u64 x.e.tm, .int .i64 x.e.k, .int .i64 x.e.n, .int .i64 x.e.t, .slice x.A x.e.l.length x.c, .int .u64 x.e.b, .int .u64 x.e.q, .int .u64 x.e.s, .int .u64 x.e.m]
theorem ecC_len (x : Ec) : (ecC x).length = 9 := rfl
theorem ecC_one (x : Ec) : ∀ u ∈ ecC x, u.oneCell' = true := by
  intro u hu
  simp only [ecC, List.mem_cons, List.not_mem_nil, or_false] at hu
  rcases hu with rfl | rfl | rfl | rfl | rfl | rfl | rfl | rfl | rfl <;> rfl
/-- Entries whose terms do not fall below one that was ahead, all of whose commands may be. -/
noncomputable def logOk : Int → List En → Bool
  | _, [] => true
  | a, e :: l => decide (a ≤ e.tm ∧ 1 ≤ e.tm) && e.ok && logOk e.tm l
/-- The last term. -/
def lastTm : Int → List En → Int
  | a, [] => a
  | _, e :: l => lastTm e.tm l
theorem lastTm_app (a : Int) (l : List En) (e : En) : lastTm a (l ++ [e]) = e.tm := by
  induction l generalizing a with
  | nil => rfl
  | cons x l ih => exact ih x.tm
theorem logOk_app (a : Int) (l : List En) (e : En) : logOk a (l ++ [e]) = (logOk a l && (decide (lastTm a l ≤ e.tm ∧ 1 ≤ e.tm) && e.ok)) := by
  induction l generalizing a with
  | nil =>
    simp only [List.nil_append, logOk, lastTm, Bool.and_true, Bool.true_and]
    rfl
  | cons x l ih =>
    rw [List.cons_append]
    simp only [logOk, lastTm]
    rw [ih]
    simp only [Bool.and_assoc]
    rfl
/-- A snapshot. -/
structure Sh where
  i : Int
  t : Int
  ns : List Int
  lim : Int
  nxt : Int
  hs : List Hd
  ls : List Ls
def Sh.Ok (s : Sh) : Prop := ShotOk s.i s.t s.ns s.lim s.nxt s.hs s.ls
structure Sh.Wf (s : Sh) : Prop where
  i : 0 ≤ s.i ∧ s.i < 18446744073709551616
  t : 0 ≤ s.t ∧ s.t < 18446744073709551616
  ns : s.ns.length ≤ 17592186043904
  lim : (Lit.int .i64 s.lim).wf = true
  nxt : 0 ≤ s.nxt ∧ s.nxt < 18446744073709551616
  hs : ∀ h ∈ s.hs, h.Wf
  ls : ∀ x ∈ s.ls, x.Wf
/-- What lasts of a node. -/
structure Hrd where
  bt : Int
  tm : Int
  vt : Int
  sh : Sh
  log : List En
structure Hrd.Ok (h : Hrd) : Prop where
  bt : h.bt ≤ 4611686018427387904
  sh : h.sh.Ok
  i : h.sh.i ≤ 4611686018427387904
  last : h.sh.i + h.log.length ≤ 4611686018427387904
  v0 : 0 ≤ h.vt
  v7 : h.vt ≤ 7
  tv : h.tm = 0 → h.vt = 0
  log : logOk h.sh.t h.log = true
  tm : lastTm h.sh.t h.log ≤ h.tm
noncomputable instance (h : Hrd) : Decidable h.Ok := Classical.propDecidable _
structure Hrd.Wf (h : Hrd) : Prop where
  bt : 0 ≤ h.bt ∧ h.bt < 18446744073709551616
  tm : 0 ≤ h.tm ∧ h.tm < 18446744073709551616
  vt : (Lit.int .i64 h.vt).wf = true
  sh : h.sh.Wf
  log : ∀ e ∈ h.log, e.Wf
def errRec (b : Bool) : Int := if b then 0 else 130
theorem rec_bad {p : Prop} [Decidable p] (h : ¬ p) : errRec (decide p) = 130 := by rw [decide_eq_false h]; rfl
theorem rec_good {p : Prop} [Decidable p] (h : p) : errRec (decide p) = 0 := by rw [decide_eq_true h]; rfl

/-! ### In memory -/
structure EcAt (w : World) (b o : Nat) (x : Ec) : Prop where
  c0 : w.cell? ⟨b, o, none⟩ = some (.int .u64 x.e.tm)
  c1 : w.cell? ⟨b, o + 1, none⟩ = some (.int .i64 x.e.k)
  c2 : w.cell? ⟨b, o + 2, none⟩ = some (.int .i64 x.e.n)
  c3 : w.cell? ⟨b, o + 3, none⟩ = some (.int .i64 x.e.t)
  c4 : w.cell? ⟨b, o + 4, none⟩ = some (.slice x.A x.e.l.length x.c)
  c5 : w.cell? ⟨b, o + 5, none⟩ = some (.int .u64 x.e.b)
  c6 : w.cell? ⟨b, o + 6, none⟩ = some (.int .u64 x.e.q)
  c7 : w.cell? ⟨b, o + 7, none⟩ = some (.int .u64 x.e.s)
  c8 : w.cell? ⟨b, o + 8, none⟩ = some (.int .u64 x.e.m)
theorem InS.ec {w : World} {A : Option Addr} {c : Nat} {l : List Ec} (h : InS ecC 9 w A c l) (h0 : 0 < l.length) : ∃ b off, A = some ⟨b, off, none⟩ ∧ b < w.heap.size ∧ ∀ (j : Nat) (hj : j < l.length), EcAt w b (off + j * 9) l[j] := by
  obtain ⟨b, off, e, hb, hc⟩ := h.all ecC_len h0
  refine ⟨b, off, e, hb, fun j hj => ⟨?_, ?_, ?_, ?_, ?_, ?_, ?_, ?_, ?_⟩⟩
  · exact hc j hj 0 _ (by omega) rfl
  · rw [Nat.add_assoc]; exact hc j hj 1 _ (by omega) rfl
  · rw [Nat.add_assoc]; exact hc j hj 2 _ (by omega) rfl
  · rw [Nat.add_assoc]; exact hc j hj 3 _ (by omega) rfl
  · rw [Nat.add_assoc]; exact hc j hj 4 _ (by omega) rfl
  · rw [Nat.add_assoc]; exact hc j hj 5 _ (by omega) rfl
  · rw [Nat.add_assoc]; exact hc j hj 6 _ (by omega) rfl
  · rw [Nat.add_assoc]; exact hc j hj 7 _ (by omega) rfl
  · rw [Nat.add_assoc]; exact hc j hj 8 _ (by omega) rfl
theorem Blk.ec {w : World} {g : Nat} {T : TypeId} {x : Ec} (hb : Blk w g T (ecA x)) : EcAt w g 0 x := by
  constructor <;> (rw [hb.cell]; rfl)
/-- Entries that are read: their row, and each one's list. -/
structure InE (w : World) (A : Option Addr) (c : Nat) (xs : List Ec) : Prop where
  rows : InS ecC 9 w A c xs
  inn : ∀ x ∈ xs, InN .i64 w x.A x.c x.e.l
  small : xs.length * 88 ≤ 140737488355328
theorem InE.keep {w w1 : World} {A : Option Addr} {c : Nat} {xs : List Ec} (h : InE w A c xs) (hb : Below w.heap.size w w1) : InE w1 A c xs := ⟨h.rows.keep hb, fun x hx => (h.inn x hx).keep hb, h.small⟩
theorem InE.nil {w : World} : InE w none 0 [] := ⟨InS.nil, (fun x hx => by cases hx), by simp⟩
/-- Where a snapshot's slices stand. -/
structure Sa where
  A0 : Option Addr
  c0 : Nat
  A1 : Option Addr
  c1 : Nat
  A2 : Option Addr
  c2 : Nat
structure InSh (w : World) (s : Sh) (a : Sa) : Prop where
  n : InN .i64 w a.A0 a.c0 s.ns
  h : InS hdC 5 w a.A1 a.c1 s.hs
  l : InS lsC 6 w a.A2 a.c2 s.ls
theorem InSh.keep {w w1 : World} {s : Sh} {a : Sa} (h : InSh w s a) (hb : Below w.heap.size w w1) : InSh w1 s a := ⟨h.n.keep hb, h.h.keep hb, h.l.keep hb⟩
def shtV (s : Sh) (a : Sa) : Value := .agg #[.int .u64 s.i, .int .u64 s.t, .slice a.A0 s.ns.length a.c0, .int .i64 s.lim, .int .u64 s.nxt, .slice a.A1 s.hs.length a.c1, .slice a.A2 s.ls.length a.c2]
def shtC (s : Sh) (a : Sa) : Array Value := #[.int .u64 s.i, .int .u64 s.t, .slice a.A0 s.ns.length a.c0, .int .i64 s.lim, .int .u64 s.nxt, .slice a.A1 s.hs.length a.c1, .slice a.A2 s.ls.length a.c2]
/-- Without its log, which stands beside it with its lists' places. -/
structure Hb where
  bt : Int
  tm : Int
  vt : Int
  sh : Sh
def Hb.hrd (h : Hb) (xs : List Ec) : Hrd := ⟨h.bt, h.tm, h.vt, h.sh, xs.map (·.e)⟩
structure InH (w : World) (h : Hb) (p : Sa) (PA : Option Addr) (PC : Nat) (xs : List Ec) : Prop where
  sh : InSh w h.sh p
  log : InE w PA PC xs
theorem InH.keep {w w1 : World} {h : Hb} {p : Sa} {PA : Option Addr} {PC : Nat} {xs : List Ec} (k : InH w h p PA PC xs) (hb : Below w.heap.size w w1) : InH w1 h p PA PC xs := ⟨k.sh.keep hb, k.log.keep hb⟩
def hrdC (h : Hb) (p : Sa) (PA : Option Addr) (PC : Nat) (xs : List Ec) : Array Value := #[.int .u64 h.bt, .int .u64 h.tm, .int .i64 h.vt, .int .u64 h.sh.i, .int .u64 h.sh.t, .slice p.A0 h.sh.ns.length p.c0, .int .i64 h.sh.lim, .int .u64 h.sh.nxt, .slice p.A1 h.sh.hs.length p.c1, .slice p.A2 h.sh.ls.length p.c2, .slice PA xs.length PC]
def hrdV (h : Hb) (p : Sa) (PA : Option Addr) (PC : Nat) (xs : List Ec) : Value := .agg #[.int .u64 h.bt, .int .u64 h.tm, .int .i64 h.vt, .int .u64 h.sh.i, .int .u64 h.sh.t, .slice p.A0 h.sh.ns.length p.c0, .int .i64 h.sh.lim, .int .u64 h.sh.nxt, .slice p.A1 h.sh.hs.length p.c1, .slice p.A2 h.sh.ls.length p.c2, .slice PA xs.length PC]
structure HrdAt (w : World) (g : Nat) (h : Hb) (p : Sa) (PA : Option Addr) (PC : Nat) (xs : List Ec) : Prop where
  z0 : w.cell? ⟨g, 0, none⟩ = some (.int .u64 h.bt)
  z1 : w.cell? ⟨g, 1, none⟩ = some (.int .u64 h.tm)
  z2 : w.cell? ⟨g, 2, none⟩ = some (.int .i64 h.vt)
  z3 : w.cell? ⟨g, 3, none⟩ = some (.int .u64 h.sh.i)
  z4 : w.cell? ⟨g, 4, none⟩ = some (.int .u64 h.sh.t)
  z5 : w.cell? ⟨g, 5, none⟩ = some (.slice p.A0 h.sh.ns.length p.c0)
  z6 : w.cell? ⟨g, 6, none⟩ = some (.int .i64 h.sh.lim)
  z7 : w.cell? ⟨g, 7, none⟩ = some (.int .u64 h.sh.nxt)
  z8 : w.cell? ⟨g, 8, none⟩ = some (.slice p.A1 h.sh.hs.length p.c1)
  z9 : w.cell? ⟨g, 9, none⟩ = some (.slice p.A2 h.sh.ls.length p.c2)
  z10 : w.cell? ⟨g, 10, none⟩ = some (.slice PA xs.length PC)
theorem Blk.hrd {w : World} {g : Nat} {T : TypeId} {h : Hb} {p : Sa} {PA : Option Addr} {PC : Nat} {xs : List Ec} (k : Blk w g T (hrdC h p PA PC xs)) : HrdAt w g h p PA PC xs := by
  constructor <;> (rw [k.cell]; rfl)
theorem info_Hard : (Try.prog.info? 32).map (·.size) = some 11 := by kernel_rfl
theorem info_Entry : (Try.prog.info? 46).map (fun i => (i.zero, i.size, i.bytes)) = some (some (.agg #[.int .u64 0, .int .i64 0, .int .i64 0, .int .i64 0, .slice none 0 0, .int .u64 0, .int .u64 0, .int .u64 0, .int .u64 0]), 9, 88) := by kernel_rfl
end Go.Proofs.Ytadkkhbbempaaaa

/- Many cells of a block set. -/
namespace Go.Proofs.Ytadkkhbbempaaaa
set_option maxRecDepth 100000
open Go.RowKit

def setsW (w : World) (g : Nat) (ps : List (Nat × Value)) : World := ps.foldl (fun w p => w.setCell ⟨g, p.1, none⟩ p.2) w
theorem setsW_any {w : World} {q : Nat} (P : World → Prop) (h : P w) (hs : ∀ (j : Nat) (W : World) (u : Value), P W → P (W.setCell ⟨q, j, none⟩ u)) (ps : List (Nat × Value)) : P (setsW w q ps) := by
  induction ps generalizing w with
  | nil => exact h
  | cons p ps ih => exact ih (hs p.1 w p.2 h)
theorem setsW_blk {w : World} {g : Nat} {T : TypeId} {l : List Value} (h : Blk w g T l.toArray) (ps : List (Nat × Value)) : Blk (setsW w g ps) g T (ps.foldl (fun c p => c.set p.1 p.2) l).toArray := by
  induction ps generalizing w l with
  | nil => exact h
  | cons p ps ih => exact ih (h.setL p.1 p.2)
theorem setsW_far {w : World} {g q : Nat} {T : TypeId} {cs : Array Value} (h : Blk w g T cs) (hne : g ≠ q) (ps : List (Nat × Value)) : Blk (setsW w q ps) g T cs :=
  setsW_any (fun W => Blk W g T cs) h (fun j _ u k => k.far (p := ⟨q, j, none⟩) hne u) ps
theorem setsW_below {w W : World} {B q : Nat} (h : Below B w W) (hB : B ≤ q) (ps : List (Nat × Value)) : Below B w (setsW W q ps) :=
  setsW_any (fun X => Below B w X) h (fun j _ u k => k.setCell (p := ⟨q, j, none⟩) hB u) ps
theorem setsW_size (w : World) (q : Nat) (ps : List (Nat × Value)) : (setsW w q ps).heap.size = w.heap.size :=
  setsW_any (fun X => X.heap.size = w.heap.size) rfl (fun j _ u k => by simp [World.setCell, k]) ps
/-! ### A whole row stored -/
theorem Blk.row {w : World} {g : Nat} {T : TypeId} {old cs : Array Value} (h : Blk w g T old) : Blk (w.setRow g cs) g T cs := setRow_heap w g old cs T (0, 0) h
theorem row_block {w : World} {q : Nat} {cs : Array Value} (g : Nat) (hne : g ≠ q) : (w.setRow q cs).heap[g]? = w.heap[g]? := by
  simp only [World.setRow]
  rw [Array.getElem?_modify, if_neg (fun e => hne e.symm)]
theorem Blk.rowFar {w : World} {g q : Nat} {T : TypeId} {old cs : Array Value} (h : Blk w g T old) (hne : g ≠ q) : Blk (w.setRow q cs) g T old := (row_block g hne).trans h
theorem row_below {B : Nat} {w W : World} (h : Below B w W) {q : Nat} (hq : B ≤ q) (cs : Array Value) : Below B w (W.setRow q cs) :=
  ⟨h.os, h.tape, h.output, by simpa [World.setRow] using h.size, fun i hi => (row_block i (by omega)).trans (h.block i hi)⟩
theorem row_grown {w : World} (q : Nat) (cs : Array Value) : w.grownBy (w.setRow q cs) (some q) :=
  ⟨rfl, rfl, rfl, by simp [World.setRow], fun i _ hne => row_block i (fun e => hne (by rw [e]))⟩
/-! ### A whole struct read -/
theorem wp_load_row {P : Program} {o : Oper} {a : Act} {w : World} {K : Act → World → Prop} {Q : Exit → Act → World → Prop} (ty : TypeId) (x : Operand) (ho : o.op = .load ty x)
    (g : Nat) (hx : a.eval x = .pointer (some ⟨g, 0, none⟩)) (t : TypeId) (cells : Array Value) (hb : Blk w g t cells) (d : TypeDesc) (hu : P.underlying ty = some d) (hd : d.isRow = true) (hi : (P.info? ty).map (·.size) = some cells.size)
    (h : K (a.put o.dst (.agg cells)) w) : o.wp P a w K Q := by
  have hl : (loadVar ty ⟨g, 0, none⟩).run P w = .ok (.agg cells) w := by
    have := run_loadVar_mid (P := P) w g 0 ty cells.toList d (fun j v hj => by rw [Nat.zero_add, hb.cell]; simpa using hj) hu hd (by simpa using hi)
    simpa using this
  unfold Oper.wp execOp
  simp only [ho, hx, Instr.loadAt, Instr.sureAddr, Sem.run_bind, Sem.run_pure, Result.andThen_ok, hl]
  exact h
theorem wpList_load_row {P : Program} {ops : Array Oper} {rest : List Oper} {o : Oper} {a : Act} {w : World} {Q : Exit → Act → World → Prop} (hgd : o.guard = none) (ty : TypeId) (x : Operand) (ho : o.op = .load ty x)
    (g : Nat) (hx : a.eval x = .pointer (some ⟨g, 0, none⟩)) (t : TypeId) (cells : Array Value) (hb : Blk w g t cells) (d : TypeDesc) (hu : P.underlying ty = some d) (hd : d.isRow = true) (hi : (P.info? ty).map (·.size) = some cells.size)
    (h : wpList P ops Q rest (a.put o.dst (.agg cells)) w) : wpList P ops Q (o :: rest) a w :=
  wpList_plain hgd fun _ hK => wp_load_row ty x ho g hx t cells hb d hu hd hi (hK _ _ h)
theorem yields_row {P : Program} {ops : Array Oper} {S : World → Prop} {op : Oper} {a : Act} (hw : Region.wanted op (yielded ops a.tmps) = true) (ty : TypeId) (x : Operand) (ho : op.op = .load ty x)
    (g : Nat) (hx : a.eval x = .pointer (some ⟨g, 0, none⟩)) (t : TypeId) (cells : Array Value) (hS : ∀ w, S w → Blk w g t cells) (d : TypeDesc)
    (hu : P.underlying ty = some d) (hd : d.isRow = true) (hi : (P.info? ty).map (·.size) = some cells.size) : YieldsIf P ops S op (.agg cells) a := by
  have h := yieldsIf_load_mid (P := P) (ops := ops) (S := S) (op := op) (a := a) hw ty x ho g 0 hx cells.toList d (fun w hw' j v hj => by rw [Nat.zero_add, (hS w hw').cell]; simpa using hj) hu hd (by simpa using hi)
  simpa using h
theorem from_row {P : Program} {w : World} {g : Nat} {t : TypeId} {cells : Array Value} (hb : Blk w g t cells) (n : Nat) (hn : cells.size = n) : (loadCellsFrom ⟨g, 0, none⟩ 0 n #[]).run P w = .ok cells w := by
  subst hn
  have := run_loadCells_list (P := P) w ⟨g, 0, none⟩ cells.toList (fun j v hv => by rw [add_plain, Nat.zero_add, hb.cell]; simpa using hv)
  simpa [loadCells] using this
theorem at_row {P : Program} {w : World} {g : Nat} {ty t : TypeId} {cells : Array Value} (hb : Blk w g t cells) {d : TypeDesc} (hu : P.underlying ty = some d) (hd : d.isRow = true) (hi : (P.info? ty).map (·.size) = some cells.size) :
    (Instr.loadAt ty (.pointer (some ⟨g, 0, none⟩))).run P w = .ok (.agg cells) w := by
  have := run_loadAt_mid (P := P) w g 0 ty cells.toList d (fun j v hj => by rw [Nat.zero_add, hb.cell]; simpa using hj) hu hd (by simpa using hi)
  simpa using this
theorem step_load_row {P : Program} {ops : Array Oper} {o : Oper} {a : Act} {w : World} {K : Act → World → Prop} {Q : Exit → Act → World → Prop} {E : Prop} (hgd : o.guard = none) (ty : TypeId) (x : Operand) (ho : o.op = .load ty x)
    (g : Nat) (hx : a.eval x = .pointer (some ⟨g, 0, none⟩)) (t : TypeId) (cells : Array Value) (hb : Blk w g t cells) (d : TypeDesc) (hu : P.underlying ty = some d) (hd : d.isRow = true) (hi : (P.info? ty).map (·.size) = some cells.size)
    (h : K (a.put o.dst (.agg cells)) w) : if Region.wanted o (yielded ops a.tmps) = true then Oper.wp P o a w K Q else E := by
  have hw : Region.wanted o (yielded ops a.tmps) = true := by simp [Region.wanted, hgd]
  rw [if_pos hw]
  exact wp_load_row ty x ho g hx t cells hb d hu hd hi h
theorem step_store_row {P : Program} {ops : Array Oper} {o : Oper} {a : Act} {w : World} {K : Act → World → Prop} {Q : Exit → Act → World → Prop} {E : Prop} (hgd : o.guard = none) (ty : TypeId) (x y : Operand) (ho : o.op = .store ty x y)
    (g : Nat) (cells : Array Value) (hx : a.eval x = .pointer (some ⟨g, 0, none⟩)) (hy : a.eval y = .agg cells)
    (t : TypeId) (old : Array Value) (hg : Blk w g t old) (hi : (P.info? ty).map (·.size) = some cells.size) (hold : old.size = cells.size) (h1 : cells.all (·.oneCell') = true)
    (h : K (a.put o.dst undef) (w.setRow g cells)) : if Region.wanted o (yielded ops a.tmps) = true then Oper.wp P o a w K Q else E := by
  have hw : Region.wanted o (yielded ops a.tmps) = true := by simp [Region.wanted, hgd]
  rw [if_pos hw]
  exact wp_store_row ty x y ho g cells hx hy t old hg hi hold h1 h
theorem row_size (w : World) (q : Nat) (cs : Array Value) : (w.setRow q cs).heap.size = w.heap.size := by simp [World.setRow]
end Go.Proofs.Ytadkkhbbempaaaa
