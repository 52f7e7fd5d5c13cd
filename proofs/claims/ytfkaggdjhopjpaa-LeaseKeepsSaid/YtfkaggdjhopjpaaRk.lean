/- The document's keeper: in memory; Time, NewKeeper, Sees, Leads. -/
import Derived.Test.YtfkaggdjhopjpaaKdue
import Derived.Test.YtfkaggdjhopjpaaSets
namespace Go.Proofs.Ytfkaggdjhopjpaa
set_option maxRecDepth 100000
open Go.RowKit

/-! ### Plain -/
/-- A row that the document's keeper knows, since when. -/
structure Rk where
  h : Hd
  s : Int
/-- Since when a row is known, or d. -/
noncomputable def lastS (xs : List Rk) (r : Rw) (d : Int) : Int := xs.foldl (fun s x => if x.h.rw = r then x.s else s) d
noncomputable def seeR (xs : List Rk) (t : Int) (hs : List Hd) : List Rk := hs.map fun h => ⟨h, lastS xs h.rw t⟩
theorem lastS_succ (xs : List Rk) (r : Rw) (d : Int) (k : Nat) (hk : k < xs.length) : lastS (xs.take (k + 1)) r d = if xs[k].h.rw = r then xs[k].s else lastS (xs.take k) r d := by
  unfold lastS
  rw [← List.take_append_getElem hk, List.foldl_append]
  rfl
theorem lastS_rng (xs : List Rk) (r : Rw) (d : Int) (hd : 0 ≤ d ∧ d ≤ 4611686018427387904) (hx : ∀ x ∈ xs, 0 ≤ x.s ∧ x.s ≤ 4611686018427387904) : 0 ≤ lastS xs r d ∧ lastS xs r d ≤ 4611686018427387904 := by
  unfold lastS
  induction xs generalizing d with
  | nil => exact hd
  | cons x xs ih =>
    rw [List.foldl_cons]
    apply ih
    · split
      · exact hx x (by simp)
      · exact hd
    · exact fun y hy => hx y (by simp [hy])
theorem rw_eq {a b : Rw} : a = b ↔ a.tok = b.tok ∧ a.ser = b.ser ∧ a.stp = b.stp := by
  constructor
  · rintro rfl
    exact ⟨rfl, rfl, rfl⟩
  · obtain ⟨p, q, r⟩ := a
    obtain ⟨p', q', r'⟩ := b
    rintro ⟨h1, h2, h3⟩
    dsimp only at h1 h2 h3
    subst h1 h2 h3
    rfl

/-! ### In memory -/
def rkC (x : Rk) : List Value := [.int .i64 x.h.tok, .int .i64 x.h.nod, .int .u64 x.h.bt, .int .u64 x.h.ser, .int .u64 x.h.stp, .int .i64 x.s]
def rkA (x : Rk) : Array Value := #[.int .i64 x.h.tok, .int .i64 x.h.nod, .int .u64 x.h.bt, .int .u64 x.h.ser, .int .u64 x.h.stp, .int .i64 x.s]
theorem rkC_len (x : Rk) : (rkC x).length = 6 := rfl
theorem rkC_one (x : Rk) : ∀ u ∈ rkC x, u.oneCell' = true := by
  intro u hu
  simp only [rkC, List.mem_cons, List.not_mem_nil, or_false] at hu
  rcases hu with rfl | rfl | rfl | rfl | rfl | rfl <;> rfl
theorem info_Rk : (Try.prog.info? 116).map (fun i => (i.zero, i.size, i.bytes)) = some (some (.agg #[.int .i64 0, .int .i64 0, .int .u64 0, .int .u64 0, .int .u64 0, .int .i64 0]), 6, 48) := by kernel_rfl
def rkpC (L : Int) (rv : Value) : Array Value := #[.int .i64 L, rv]
structure RkAt (w : World) (b o : Nat) (x : Rk) : Prop where
  c0 : w.cell? ⟨b, o, none⟩ = some (.int .i64 x.h.tok)
  c1 : w.cell? ⟨b, o + 1, none⟩ = some (.int .i64 x.h.nod)
  c2 : w.cell? ⟨b, o + 2, none⟩ = some (.int .u64 x.h.bt)
  c3 : w.cell? ⟨b, o + 3, none⟩ = some (.int .u64 x.h.ser)
  c4 : w.cell? ⟨b, o + 4, none⟩ = some (.int .u64 x.h.stp)
  c5 : w.cell? ⟨b, o + 5, none⟩ = some (.int .i64 x.s)
theorem Blk.rk {w : World} {g : Nat} {T : TypeId} {x : Rk} (h : Blk w g T (rkA x)) : RkAt w g 0 x := by
  constructor <;> (rw [h.cell]; rfl)
theorem InS.rk {w : World} {A : Option Addr} {c : Nat} {l : List Rk} (h : InS rkC 6 w A c l) (h0 : 0 < l.length) : ∃ b off, A = some ⟨b, off, none⟩ ∧ b < w.heap.size ∧ ∀ (j : Nat) (hj : j < l.length), RkAt w b (off + j * 6) l[j] := by
  obtain ⟨b, off, e, hb, hc⟩ := h.all rkC_len h0
  refine ⟨b, off, e, hb, fun j hj => ⟨?_, ?_, ?_, ?_, ?_, ?_⟩⟩
  · exact hc j hj 0 _ (by omega) rfl
  · rw [Nat.add_assoc]; exact hc j hj 1 _ (by omega) rfl
  · rw [Nat.add_assoc]; exact hc j hj 2 _ (by omega) rfl
  · rw [Nat.add_assoc]; exact hc j hj 3 _ (by omega) rfl
  · rw [Nat.add_assoc]; exact hc j hj 4 _ (by omega) rfl
  · rw [Nat.add_assoc]; exact hc j hj 5 _ (by omega) rfl
/-- The document's keeper in memory. -/
structure RS (w : World) (gr : Nat) (A : Option Addr) (c : Nat) (L : Int) (xs : List Rk) : Prop where
  blk : Blk w gr 114 (rkpC L (.slice A xs.length c))
  row : w.ownsRow 0 116 6 (.slice A xs.length c) xs.length (xs.flatMap rkC)
  wf : ∀ x ∈ xs, x.h.Wf
  rng : ∀ x ∈ xs, 0 ≤ x.s ∧ x.s ≤ 4611686018427387904
theorem own_tr {w w1 : World} {base : Nat} {e : TypeId} {s n : Nat} {v : Value} {xs : List Value} {P : Nat → Prop} (h : w.ownsRow base e s v n xs) (ht : Tr w w1 P) (hp : ∀ j, v.ownBlock = some j → ¬ P j) : w1.ownsRow base e s v n xs := by
  rcases h.2 with h1 | ⟨g', cap, cur, rfl, hb, hh, h3⟩
  · exact ⟨h.1, .inl h1⟩
  · exact ⟨h.1, .inr ⟨g', cap, cur, rfl, hb, (ht.block g' (Array.getElem?_eq_some_iff.1 hh).1 (hp g' rfl)).trans hh, h3⟩⟩
section
variable {w w1 : World} {gr : Nat} {A : Option Addr} {c : Nat} {L : Int} {xs : List Rk} {P : Nat → Prop}
theorem RS.tr (h : RS w gr A c L xs) (ht : Tr w w1 P) (hg : ¬ P gr) (hp : ∀ q, A = some q → ¬ P q.block) : RS w1 gr A c L xs :=
  ⟨(ht.block gr h.blk.lt hg).trans h.blk, own_tr h.row ht (fun j e => by
    cases A with
    | none => cases e
    | some q => injection e with e; rw [← e]; exact hp q rfl), h.wf, h.rng⟩
theorem RS.keep (h : RS w gr A c L xs) (hb : Below w.heap.size w w1) : RS w1 gr A c L xs := h.tr (P := fun _ => False) (Tr.of_below hb) (fun q => q) (fun _ _ q => q)
theorem RS.lt (h : RS w gr A c L xs) : gr < w.heap.size := h.blk.lt
theorem RS.alt (h : RS w gr A c L xs) : ∀ q, A = some q → q.block < w.heap.size := fun q e => (World.ownsRow.lt h.row q.block (by rw [e]; rfl)).2
theorem RS.inS (h : RS w gr A c L xs) (hl : xs.length ≤ 64) : InS rkC 6 w A c xs := InS.own_at h.row (by omega)
end
theorem ref_Time_any (w : World) (n : Int) : Calls Try.prog 51 #[.int .i64 n] w fun e w' => e = .returned (.int .i64 (tmC n)) ∧ w' = w := by
  have e : tmC n = min (max n 0) 4611686018427387904 := by unfold tmC; omega
  rw [e]
  clear e
  go_enter Try.func51, Try.ntmps51
  go_wp2
  go_ret
  exact ⟨rfl, rfl⟩
def RNewE (w : World) (n : Int) (e : Ending) (w' : World) : Prop :=
  if 1 ≤ n ∧ n ≤ 1073741824 then e = .returned (.tuple #[.pointer (some ⟨w.heap.size, 0, none⟩), .int .i64 0]) ∧ w' = w.alloc (.cells (rkpC n (.slice none 0 0)) 114)
  else e = .returned (.tuple #[.pointer none, .int .i64 1]) ∧ w' = w
theorem ref_NewKeeper_any (w : World) (n : Int) : Calls Try.prog 15 #[.int .i64 n] w (RNewE w n) := by
  by_cases e1 : 1 ≤ n ∧ n ≤ 1073741824
  · suffices h : Calls Try.prog 15 #[.int .i64 n] w fun e w' => e = .returned (.tuple #[.pointer (some ⟨w.heap.size, 0, none⟩), .int .i64 0]) ∧ w' = w.alloc (.cells (rkpC n (.slice none 0 0)) 114) from
      h.mono fun e w' hh => by unfold RNewE; rw [if_pos e1]; exact hh
    have h1 : 1 ≤ n := e1.1
    have h2 : n ≤ 1073741824 := e1.2
    clear e1
    unfold rkpC
    go_enter Try.func15, Try.ntmps15
    go_wp2
    go_ret2
    exact ⟨rfl, rfl⟩
  · suffices h : Calls Try.prog 15 #[.int .i64 n] w fun e w' => e = .returned (.tuple #[.pointer none, .int .i64 1]) ∧ w' = w from
      h.mono fun e w' hh => by unfold RNewE; rw [if_neg e1]; exact hh
    by_cases h1 : n < 1
    · clear e1
      go_enter Try.func15, Try.ntmps15
      go_wp2
      go_ret2
      exact ⟨rfl, rfl⟩
    · have h2 : 1073741824 < n := by omega
      clear e1
      go_enter Try.func15, Try.ntmps15
      go_wp2
      go_ret2
      exact ⟨rfl, rfl⟩
theorem RS.start (w : World) (L : Int) : RS (w.alloc (.cells (rkpC L (.slice none 0 0)) 114)) w.heap.size none 0 L [] :=
  ⟨Blk.new _ _ _, own_nil _ _ _ _, (fun _ h => by cases h), (fun _ h => by cases h)⟩
end Go.Proofs.Ytfkaggdjhopjpaa
