/- Ledgers: which may be (plain), and the small functions: node, answer. -/
import Derived.Test.YtfkaggdjhopjpaaRows5
import Derived.Test.YtfkaggdjhopjpaaNodes
namespace Go.Proofs.Ytfkaggdjhopjpaa
set_option maxRecDepth 100000
open Go.RowKit

/-! ### Plain -/
/-- Which answers may stand in a Last. -/
def ansOk (lim nxt cod tok ser : Int) : Bool := if cod = 1 then decide (1 ≤ tok ∧ tok ≤ lim ∧ 1 ≤ ser ∧ ser < nxt) else decide (2 ≤ cod ∧ cod ≤ 5 ∧ tok = 0 ∧ ser = 0)
/-- Row i of Held may be, behind those ahead of it. -/
structure HdOk (lim nxt : Int) (l : List Hd) (i : Nat) (h : Hd) : Prop where
  rise : 0 < i → ∀ (hl : i - 1 < l.length), l[i - 1].tok < h.tok
  tok1 : 1 ≤ h.tok
  tok2 : h.tok ≤ lim
  nod1 : 1 ≤ h.nod
  nod2 : h.nod ≤ 7
  bt : 1 ≤ h.bt
  stp : 1 ≤ h.stp
  ser1 : 1 ≤ h.ser
  ser2 : h.ser < nxt
  once : ∀ j (hj : j < l.length), j < i → l[j].ser ≠ h.ser
structure LsOk (lim nxt : Int) (l : List Ls) (i : Nat) (x : Ls) : Prop where
  rise : 0 < i → ∀ (hl : i - 1 < l.length), l[i - 1].nod < x.nod
  nod1 : 1 ≤ x.nod
  nod2 : x.nod ≤ 7
  bt : 1 ≤ x.bt
  sq : 1 ≤ x.sq
  ans : ansOk lim nxt x.cod x.tok x.ser = true
def HdsOk (lim nxt : Int) (l : List Hd) (k : Nat) : Prop := ∀ i (hi : i < l.length), i < k → HdOk lim nxt l i l[i]
def LssOk (lim nxt : Int) (l : List Ls) (k : Nat) : Prop := ∀ i (hi : i < l.length), i < k → LsOk lim nxt l i l[i]
structure HeadOk (lim nxt : Int) (n : Nat) : Prop where
  l1 : 1 ≤ lim
  l2 : lim ≤ 65535
  n1 : 1 ≤ nxt
  len : n ≤ 64
/-- A ledger that may be. -/
structure LedOk (lim nxt : Int) (hs : List Hd) (ls : List Ls) : Prop where
  head : HeadOk lim nxt hs.length
  hds : HdsOk lim nxt hs hs.length
  lss : LssOk lim nxt ls ls.length
noncomputable instance (lim nxt : Int) (hs : List Hd) (ls : List Ls) : Decidable (LedOk lim nxt hs ls) := Classical.propDecidable _
def errLed (b : Bool) : Int := if b then 0 else 50
theorem HdsOk.zero {lim nxt : Int} {l : List Hd} : HdsOk lim nxt l 0 := fun _ _ h => by omega
theorem LssOk.zero {lim nxt : Int} {l : List Ls} : LssOk lim nxt l 0 := fun _ _ h => by omega
theorem HdsOk.step {lim nxt : Int} {l : List Hd} {k : Nat} (h : HdsOk lim nxt l k) (hk : k < l.length) (h1 : HdOk lim nxt l k l[k]) : HdsOk lim nxt l (k + 1) := by
  intro i hi hik
  rcases Nat.lt_or_ge i k with hlt | hge
  · exact h i hi hlt
  · obtain rfl : i = k := by omega
    exact h1
theorem LssOk.step {lim nxt : Int} {l : List Ls} {k : Nat} (h : LssOk lim nxt l k) (hk : k < l.length) (h1 : LsOk lim nxt l k l[k]) : LssOk lim nxt l (k + 1) := by
  intro i hi hik
  rcases Nat.lt_or_ge i k with hlt | hge
  · exact h i hi hlt
  · obtain rfl : i = k := by omega
    exact h1
theorem not_hds {lim nxt : Int} {hs : List Hd} {ls : List Ls} {k : Nat} (hk : k < hs.length) (h : ¬ HdOk lim nxt hs k hs[k]) : ¬ LedOk lim nxt hs ls := fun hl => h (hl.hds k hk hk)
theorem not_lss {lim nxt : Int} {hs : List Hd} {ls : List Ls} {k : Nat} (hk : k < ls.length) (h : ¬ LsOk lim nxt ls k ls[k]) : ¬ LedOk lim nxt hs ls := fun hl => h (hl.lss k hk hk)

/-! ### In memory -/
def ledV (lim nxt : Int) (hl ll : Value) : Value := .agg #[.int .i64 lim, .int .u64 nxt, hl, ll]
def ledC (lim nxt : Int) (hl ll : Value) : Array Value := #[.int .i64 lim, .int .u64 nxt, hl, ll]
structure LedAt (w : World) (g : Nat) (lim nxt : Int) (hl ll : Value) : Prop where
  q0 : w.cell? ⟨g, 0, none⟩ = some (.int .i64 lim)
  q1 : w.cell? ⟨g, 1, none⟩ = some (.int .u64 nxt)
  q2 : w.cell? ⟨g, 2, none⟩ = some hl
  q3 : w.cell? ⟨g, 3, none⟩ = some ll
theorem Blk.led {w : World} {g : Nat} {T : TypeId} {lim nxt : Int} {hl ll : Value} (h : Blk w g T (ledC lim nxt hl ll)) : LedAt w g lim nxt hl ll := by
  constructor <;> (rw [h.cell]; rfl)
def hdA (h : Hd) : Array Value := #[.int .i64 h.tok, .int .i64 h.nod, .int .u64 h.bt, .int .u64 h.ser, .int .u64 h.stp]
def lsA (x : Ls) : Array Value := #[.int .i64 x.nod, .int .u64 x.bt, .int .u64 x.sq, .int .i64 x.cod, .int .i64 x.tok, .int .u64 x.ser]
theorem Blk.hd {w : World} {g : Nat} {T : TypeId} {h : Hd} (hb : Blk w g T (hdA h)) : HdAt w g 0 h := by
  constructor <;> (rw [hb.cell]; rfl)
theorem Blk.ls {w : World} {g : Nat} {T : TypeId} {x : Ls} (hb : Blk w g T (lsA x)) : LsAt w g 0 x := by
  constructor <;> (rw [hb.cell]; rfl)

end Go.Proofs.Ytfkaggdjhopjpaa
