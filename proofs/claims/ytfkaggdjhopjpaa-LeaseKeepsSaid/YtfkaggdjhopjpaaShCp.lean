/- Snapshots and ledgers in new memory: the document's Copy. -/
import Derived.Test.YtfkaggdjhopjpaaCom
import Derived.Test.YtfkaggdjhopjpaaLedP
import Derived.Test.YtfkaggdjhopjpaaShotW
import Derived.Test.YtfkaggdjhopjpaaComS
import Derived.Deep.DeepCutAuto
namespace Go.Proofs.Ytfkaggdjhopjpaa
set_option maxRecDepth 100000
open Go.RowKit

/-- A slice of structs that is read and whose block is the call's own, from base on. -/
structure OwS {α : Type} (f : α → List Value) (s : Nat) (w : World) (base : Nat) (A : Option Addr) (c : Nat) (l : List α) : Prop where
  inn : InS f s w A c l
  own : ∀ a, A = some a → base ≤ a.block
section
variable {α : Type} {f : α → List Value} {s : Nat} {w w1 : World} {base : Nat} {A : Option Addr} {c : Nat} {l : List α}
theorem OwS.of {e : TypeId} {v : Value} (h : w.ownsRow base e s v l.length (l.flatMap f)) (hs : l.length * (8 * s) ≤ 140737488355328) : ∃ A c, v = .slice A l.length c ∧ OwS f s w base A c l := by
  obtain ⟨A, c, rfl, hin⟩ := InS.own h hs
  exact ⟨A, c, rfl, hin, fun a e => own_base h a.block (by rw [e]; rfl)⟩
theorem OwS.keep (h : OwS f s w base A c l) (hb : Below w.heap.size w w1) : OwS f s w1 base A c l := ⟨h.inn.keep hb, h.own⟩
theorem OwS.set (h : OwS f s w base A c l) {p : Addr} (hp : p.block < base) (u : Value) : OwS f s (w.setCell p u) base A c l := ⟨h.inn.far (fun b off e => by have := h.own _ e; simp only at this; omega) u, h.own⟩
end
/-- The same of ints. -/
structure OwI (w : World) (base : Nat) (A : Option Addr) (c : Nat) (l : List Int) : Prop where
  inn : InN .i64 w A c l
  own : ∀ a, A = some a → base ≤ a.block
theorem OwI.of {w : World} {base : Nat} {e : TypeId} {v : Value} {l : List Int} (h : OwnN .i64 e w base v l) (hl : Wfs .i64 l) (hs : l.length ≤ 140737488355328) : ∃ A c, v = .slice A l.length c ∧ OwI w base A c l := by
  obtain ⟨A, c, rfl, hin⟩ := InN.own h hl hs
  exact ⟨A, c, rfl, hin, fun a e => own_base h a.block (by rw [e]; rfl)⟩
theorem OwI.keep {w w1 : World} {base : Nat} {A : Option Addr} {c : Nat} {l : List Int} (h : OwI w base A c l) (hb : Below w.heap.size w w1) : OwI w1 base A c l := ⟨h.inn.keep hb, h.own⟩
theorem OwI.set {w : World} {base : Nat} {A : Option Addr} {c : Nat} {l : List Int} (h : OwI w base A c l) {p : Addr} (hp : p.block < base) (u : Value) : OwI (w.setCell p u) base A c l := by
  refine ⟨InN.far (n := l.length) h.inn (fun b hb => ?_) u, h.own⟩
  cases A with
  | none => simp [Value.ownBlock] at hb
  | some a =>
    have := h.own a rfl
    simp only [Value.ownBlock, Option.some.injEq] at hb
    omega
theorem info_Held : (Try.prog.info? 55).map (fun i => (i.zero, i.size, i.bytes)) = some (some (.agg #[.int .i64 0, .int .i64 0, .int .u64 0, .int .u64 0, .int .u64 0]), 5, 40) := by kernel_rfl
theorem info_Last : (Try.prog.info? 100).map (fun i => (i.zero, i.size, i.bytes)) = some (some (.agg #[.int .i64 0, .int .u64 0, .int .u64 0, .int .i64 0, .int .i64 0, .int .u64 0]), 6, 48) := by kernel_rfl
/-- What is known of a ledger's slices: read, and from block base on. -/
structure LedIn (w : World) (base : Nat) (Ah : Option Addr) (ch : Nat) (hs : List Hd) (Al : Option Addr) (cl : Nat) (ls : List Ls) : Prop where
  hh : OwS hdC 5 w base Ah ch hs
  hl : OwS lsC 6 w base Al cl ls
theorem LedIn.keep {w w1 : World} {base : Nat} {Ah : Option Addr} {ch : Nat} {hs : List Hd} {Al : Option Addr} {cl : Nat} {ls : List Ls} (h : LedIn w base Ah ch hs Al cl ls) (hb : Below w.heap.size w w1) : LedIn w1 base Ah ch hs Al cl ls := ⟨h.hh.keep hb, h.hl.keep hb⟩
theorem LedIn.set {w : World} {base : Nat} {Ah : Option Addr} {ch : Nat} {hs : List Hd} {Al : Option Addr} {cl : Nat} {ls : List Ls} (h : LedIn w base Ah ch hs Al cl ls) {p : Addr} (hp : p.block < base) (u : Value) : LedIn (w.setCell p u) base Ah ch hs Al cl ls := ⟨h.hh.set hp u, h.hl.set hp u⟩
theorem LedIn.lower {w : World} {base base' : Nat} {Ah : Option Addr} {ch : Nat} {hs : List Hd} {Al : Option Addr} {cl : Nat} {ls : List Ls} (h : LedIn w base Ah ch hs Al cl ls) (hb : base' ≤ base) : LedIn w base' Ah ch hs Al cl ls := ⟨⟨h.hh.inn, fun a e => Nat.le_trans hb (h.hh.own a e)⟩, ⟨h.hl.inn, fun a e => Nat.le_trans hb (h.hl.own a e)⟩⟩
theorem below_of_grown {w w1 : World} {A : Value} (h : w.grownBy w1 A.ownBlock) (hA : A.ownBlock = none := by rfl) : Below w.heap.size w w1 := ⟨h.os, h.tape, h.output, h.size, fun i hi => h.block i hi (by rw [hA]; simp)⟩
theorem Blk.set4 {w : World} {g : Nat} {T : TypeId} {v0 v1 v2 v3 : Value} (h : Blk w g T #[v0, v1, v2, v3]) (u0 u1 u2 u3 : Value) :
    Blk ((((w.setCell ⟨g, 0, none⟩ u0).setCell ⟨g, 1, none⟩ u1).setCell ⟨g, 2, none⟩ u2).setCell ⟨g, 3, none⟩ u3) g T #[u0, u1, u2, u3] :=
  ((((h.setL 0 u0).setL 1 u1).setL 2 u2).setL 3 u3)

set_option maxRecDepth 100000 in
set_option maxHeartbeats 4000000 in
theorem r05_Copy_any (w : World) (lim nxt : Int) (Ah : Option Addr) (ch : Nat) (hs : List Hd) (Al : Option Addr) (cl : Nat) (ls : List Ls) (hh : InS hdC 5 w Ah ch hs) (hl : InS lsC 6 w Al cl ls) :
    Calls Try.prog 13 #[ledV lim nxt (.slice Ah hs.length ch) (.slice Al ls.length cl)] w fun e w' => ∃ A1 c1 A2 c2, e = .returned (ledV lim nxt (.slice A1 hs.length c1) (.slice A2 ls.length c2)) ∧
      LedIn w' w.heap.size A1 c1 hs A2 c2 ls ∧ Below w.heap.size w w' := by
  have hsz1 := hh.small
  have hsz2 := hl.small
  obtain ⟨g, hg⟩ : ∃ g, w.heap.size = g := ⟨_, rfl⟩
  rw [hg]
  obtain ⟨gr, hgr⟩ : ∃ gr, g + 1 = gr := ⟨_, rfl⟩
  have hBx : Below g w ((w.alloc (.cells (ledC lim nxt (.slice Ah hs.length ch) (.slice Al ls.length cl)) 26)).alloc (.cells (ledC 0 0 (.slice none 0 0) (.slice none 0 0)) 26)) := ((Below.refl _ _).alloc (by omega) _).alloc (by simp; omega) _
  have hs1 : (w.alloc (.cells (ledC lim nxt (.slice Ah hs.length ch) (.slice Al ls.length cl)) 26)).heap.size = gr := by simp [hg, hgr]
  have hb1 : Blk ((w.alloc (.cells (ledC lim nxt (.slice Ah hs.length ch) (.slice Al ls.length cl)) 26)).alloc (.cells (ledC 0 0 (.slice none 0 0) (.slice none 0 0)) 26)) g 26 (ledC lim nxt (.slice Ah hs.length ch) (.slice Al ls.length cl)) := (hg ▸ Blk.new w 26 (ledC lim nxt (.slice Ah hs.length ch) (.slice Al ls.length cl)) : Blk (w.alloc (.cells (ledC lim nxt (.slice Ah hs.length ch) (.slice Al ls.length cl)) 26)) g 26 (ledC lim nxt (.slice Ah hs.length ch) (.slice Al ls.length cl))).alloc _
  have hr1 : Blk ((w.alloc (.cells (ledC lim nxt (.slice Ah hs.length ch) (.slice Al ls.length cl)) 26)).alloc (.cells (ledC 0 0 (.slice none 0 0) (.slice none 0 0)) 26)) gr 26 (ledC 0 0 (.slice none 0 0) (.slice none 0 0)) := hs1 ▸ Blk.new _ _ _
  have hz1 : ((w.alloc (.cells (ledC lim nxt (.slice Ah hs.length ch) (.slice Al ls.length cl)) 26)).alloc (.cells (ledC 0 0 (.slice none 0 0) (.slice none 0 0)) 26)).heap.size = g + 2 := by simp [hg]
  have HH := Lib.hid (hh.keep (hg ▸ hBx))
  have HL0 := Lib.hid hl
  have HL := Lib.hid (hl.keep (hg ▸ hBx))
  clear hs1 hh hl
  unfold ledV
  go_enter Try.func13, Try.ntmps13
  go_upto_region 1 with (fail)
  change Code.wp _ _ _ _ ((w.alloc (.cells (ledC lim nxt (.slice Ah hs.length ch) (.slice Al ls.length cl)) 26)).alloc (.cells (ledC 0 0 (.slice none 0 0) (.slice none 0 0)) 26))
  generalize ((w.alloc (.cells (ledC lim nxt (.slice Ah hs.length ch) (.slice Al ls.length cl)) 26)).alloc (.cells (ledC 0 0 (.slice none 0 0) (.slice none 0 0)) 26)) = W at hb1 hr1 hBx hz1 HH HL ⊢
  try rw [hgr]
  have HB := Lib.hid hBx
  obtain ⟨q0, q1, q2, q3⟩ := hb1.led
  have y2 := hb1.frozen 2
  clear hBx
  go_upto_region 2 with ((at_builtin; refine app_own (w0 := W) (g + 2) rfl _ _ 23 55 _ 40 rfl Try.underlying23 5 info_Held rfl (by omega) (by omega) (.slice none 0 0) [] 0 rfl _ _ _ _ (hs.flatMap hdC) rfl (own_nil _ _ _ _) HH.out.reads (flat_one hdC_one hs) (Below.refl _ _) (by omega) (by omega) ?_; intro v1 w1 ho1 hB1 _ _; obtain ⟨A1, c1, rfl, hin1⟩ := OwS.of (f := hdC) (l := hs) (by simpa using ho1) (by omega); have HO1 := Lib.hid hin1; have hb2 := hb1.below hB1 (by omega); have hr2 := hr1.below hB1 (by omega); have HBB := Lib.hid (HB.out.trans (hB1.mono (by omega))); have HL1 := Lib.hid (HL.out.keep (hz1 ▸ hB1)); have hsz3 := hB1.size; clear q0 q1 q2 q3 y2 hB1 ho1 hin1 hb1 hr1; obtain ⟨q0, q1, q2, q3⟩ := hb2.led; have y2 := hb2.frozen 2))
  have hb3 : Blk (w1.setCell ⟨g, 2, none⟩ (.slice A1 hs.length c1)) g 26 (ledC lim nxt (.slice A1 hs.length c1) (.slice Al ls.length cl)) := Blk.setL (l := [Value.int .i64 lim, .int .u64 nxt, .slice Ah hs.length ch, .slice Al ls.length cl]) hb2 2 _
  have hr3 := hr2.far (p := ⟨g, 2, none⟩) (by show gr ≠ g; omega) (.slice A1 hs.length c1)
  have hB3 := HBB.out.setCell (p := ⟨g, 2, none⟩) (Nat.le_refl _) (.slice A1 hs.length c1)
  have HO3 := Lib.hid (HO1.out.set (p := ⟨g, 2, none⟩) (by show g < g + 2; omega) (.slice A1 hs.length c1))
  have hz3 : g + 2 ≤ (w1.setCell ⟨g, 2, none⟩ (.slice A1 hs.length c1)).heap.size := by simp [World.setCell]; omega
  generalize w1.setCell ⟨g, 2, none⟩ (.slice A1 hs.length c1) = W3 at hb3 hr3 hB3 HO3 hz3 ⊢
  have HL3 := Lib.hid (HL0.out.keep (hg ▸ hB3))
  have HB3 := Lib.hid hB3
  clear q0 q1 q2 q3 y2 hB3 hb2 hr2 HBB HO1 HL1 HL
  obtain ⟨q0, q1, q2, q3⟩ := hb3.led
  have y3 := hb3.frozen 3
  go_upto_region 3 with ((at_builtin; refine app_own (w0 := W3) (g + 2) rfl _ _ 24 100 _ 48 rfl Try.underlying24 6 info_Last rfl (by omega) (by omega) (.slice none 0 0) [] 0 rfl _ _ _ _ (ls.flatMap lsC) rfl (own_nil _ _ _ _) HL3.out.reads (flat_one lsC_one ls) (Below.refl _ _) (by omega) (by omega) ?_; intro v4 w4 ho4 hB4 hg4 _; obtain ⟨A2, c2, rfl, hin4⟩ := OwS.of (f := lsC) (l := ls) (by simpa using ho4) (by omega); have HO4 := Lib.hid hin4; have hb4 := hb3.below hB4 (by omega); have hr4 := hr3.below hB4 (by omega); have HBB := Lib.hid (HB3.out.trans (hB4.mono (by omega))); have HO5 := Lib.hid (HO3.out.keep (below_of_grown hg4)); have hsz5 := hB4.size; clear q0 q1 q2 q3 y3 hB4 ho4 hin4 hb3 hr3 hg4; obtain ⟨q0, q1, q2, q3⟩ := hb4.led; have y3 := hb4.frozen 3))
  have hb5 : Blk (w4.setCell ⟨g, 3, none⟩ (.slice A2 ls.length c2)) g 26 (ledC lim nxt (.slice A1 hs.length c1) (.slice A2 ls.length c2)) := Blk.setL (l := [Value.int .i64 lim, .int .u64 nxt, .slice A1 hs.length c1, .slice Al ls.length cl]) hb4 3 _
  have hr5 := hr4.far (p := ⟨g, 3, none⟩) (by show gr ≠ g; omega) (.slice A2 ls.length c2)
  have hB5 := HBB.out.setCell (p := ⟨g, 3, none⟩) (Nat.le_refl _) (.slice A2 ls.length c2)
  have hI5 : LedIn (w4.setCell ⟨g, 3, none⟩ (.slice A2 ls.length c2)) (g + 2) A1 c1 hs A2 c2 ls := ⟨HO5.out.set (p := ⟨g, 3, none⟩) (by show g < g + 2; omega) _, HO4.out.set (p := ⟨g, 3, none⟩) (by show g < g + 2; omega) _⟩
  generalize w4.setCell ⟨g, 3, none⟩ (.slice A2 ls.length c2) = W5 at hb5 hr5 hB5 hI5 ⊢
  clear q0 q1 q2 q3 y3 hb4 hr4 HBB HO5 HO4 HO3 HL3 HB3
  have HI5 := Lib.hid hI5
  have HB5 := Lib.hid hB5
  have HR5 := Lib.hid hr5
  obtain ⟨q0, q1, q2, q3⟩ := hb5.led
  obtain ⟨z0, z1, z2, z3⟩ := hr5.led
  have y0 := hr5.frozen 0
  have y1 := hr5.frozen 1
  have y2 := hr5.frozen 2
  have y3 := hr5.frozen 3
  have hn : g ≠ gr := by omega
  clear hI5 hB5 hb5 hr5
  go_wp2
  have hrF := Blk.set4 HR5.out (.int .i64 lim) (.int .u64 nxt) (.slice A1 hs.length c1) (.slice A2 ls.length c2)
  refine bodyPost_ret (results_cell1 rfl rfl (run_loadVar_row _ _ _ _ _ (0, 0) _ hrF Try.underlying26 rfl info_Ledger)) rfl ?_
  have f := fun (i : Nat) (W : World) (u : Value) (h : LedIn W (g + 2) A1 c1 hs A2 c2 ls) => h.set (p := ⟨gr, i, none⟩) (by show gr < g + 2; omega) u
  have s := fun (i : Nat) (W : World) (u : Value) (h : Below g w W) => h.setCell (p := ⟨gr, i, none⟩) (by show g ≤ gr; omega) u
  exact ⟨A1, c1, A2, c2, rfl, LedIn.lower (f _ _ _ (f _ _ _ (f _ _ _ (f _ _ _ HI5.out)))) (by omega), s _ _ _ (s _ _ _ (s _ _ _ (s _ _ _ HB5.out)))⟩
/-! ### Snapshots -/
def shV (i t : Int) (sl : Value) (lim nxt : Int) (hl ll : Value) : Value := .agg #[.int .u64 i, .int .u64 t, sl, .int .i64 lim, .int .u64 nxt, hl, ll]
def shC (i t : Int) (sl : Value) (lim nxt : Int) (hl ll : Value) : Array Value := #[.int .u64 i, .int .u64 t, sl, .int .i64 lim, .int .u64 nxt, hl, ll]
structure ShAt (w : World) (g : Nat) (i t : Int) (sl : Value) (lim nxt : Int) (hl ll : Value) : Prop where
  z0 : w.cell? ⟨g, 0, none⟩ = some (.int .u64 i)
  z1 : w.cell? ⟨g, 1, none⟩ = some (.int .u64 t)
  z2 : w.cell? ⟨g, 2, none⟩ = some sl
  z3 : w.cell? ⟨g, 3, none⟩ = some (.int .i64 lim)
  z4 : w.cell? ⟨g, 4, none⟩ = some (.int .u64 nxt)
  z5 : w.cell? ⟨g, 5, none⟩ = some hl
  z6 : w.cell? ⟨g, 6, none⟩ = some ll
theorem Blk.sh {w : World} {g : Nat} {T : TypeId} {i t : Int} {sl : Value} {lim nxt : Int} {hl ll : Value} (h : Blk w g T (shC i t sl lim nxt hl ll)) : ShAt w g i t sl lim nxt hl ll := by
  constructor <;> (rw [h.cell]; rfl)
/-- What is known of a snapshot's slices. -/
structure ShIn (w : World) (base : Nat) (An : Option Addr) (cn : Nat) (ns : List Int) (Ah : Option Addr) (ch : Nat) (hs : List Hd) (Al : Option Addr) (cl : Nat) (ls : List Ls) : Prop where
  hn : OwI w base An cn ns
  led : LedIn w base Ah ch hs Al cl ls
section
variable {w w1 : World} {base base' : Nat} {An : Option Addr} {cn : Nat} {ns : List Int} {Ah : Option Addr} {ch : Nat} {hs : List Hd} {Al : Option Addr} {cl : Nat} {ls : List Ls}
theorem ShIn.keep (h : ShIn w base An cn ns Ah ch hs Al cl ls) (hb : Below w.heap.size w w1) : ShIn w1 base An cn ns Ah ch hs Al cl ls := ⟨h.hn.keep hb, h.led.keep hb⟩
theorem ShIn.set (h : ShIn w base An cn ns Ah ch hs Al cl ls) {p : Addr} (hp : p.block < base) (u : Value) : ShIn (w.setCell p u) base An cn ns Ah ch hs Al cl ls := ⟨h.hn.set hp u, h.led.set hp u⟩
theorem ShIn.lower (h : ShIn w base An cn ns Ah ch hs Al cl ls) (hb : base' ≤ base) : ShIn w base' An cn ns Ah ch hs Al cl ls := ⟨⟨h.hn.inn, fun a e => Nat.le_trans hb (h.hn.own a e)⟩, h.led.lower hb⟩
end

end Go.Proofs.Ytfkaggdjhopjpaa
