/- Pools: the model, and in memory. -/
import Derived.Test.YtidkhekekfennaaSlG
import Derived.Test.YtidkhekekfennaaTrW
import Derived.Test.YtidkhekekfennaaClone
namespace Go.Proofs.Ytidkhekekfennaa
set_option maxRecDepth 100000
open Go.RowKit

/-- A connection: its token, its session. -/
structure Cn where
  t : Int
  s : Int
def cnC (c : Cn) : List Value := [.int .i64 c.t, .int .i64 c.s]
theorem cnC_len (c : Cn) : (cnC c).length = 2 := rfl
theorem cnC_one (c : Cn) : ∀ u ∈ cnC c, u.oneCell' = true := by
  intro u hu
  simp only [cnC, List.mem_cons, List.not_mem_nil, or_false] at hu
  rcases hu with rfl | rfl <;> rfl
structure CnAt (w : World) (b o : Nat) (c : Cn) : Prop where
  c0 : w.cell? ⟨b, o, none⟩ = some (.int .i64 c.t)
  c1 : w.cell? ⟨b, o + 1, none⟩ = some (.int .i64 c.s)
theorem InS.cn {w : World} {A : Option Addr} {c : Nat} {l : List Cn} (h : InS cnC 2 w A c l) (h0 : 0 < l.length) : ∃ b off, A = some ⟨b, off, none⟩ ∧ b < w.heap.size ∧ ∀ (j : Nat) (hj : j < l.length), CnAt w b (off + j * 2) l[j] := by
  obtain ⟨b, off, e, hb, hc⟩ := h.all cnC_len h0
  refine ⟨b, off, e, hb, fun j hj => ⟨?_, ?_⟩⟩
  · exact hc j hj 0 _ (by omega) rfl
  · rw [Nat.add_assoc]; exact hc j hj 1 _ (by omega) rfl
theorem info_Conn : (Try.prog.info? 38).map (fun i => (i.zero, i.size, i.bytes)) = some (some (.agg #[.int .i64 0, .int .i64 0]), 2, 16) := by kernel_rfl
/-! ### Plain: search -/
/-- How many connections stand ahead of a token. -/
def lbT (l : List Cn) (t : Int) : Nat := (l.takeWhile (fun c => decide (c.t < t))).length
def hasT (l : List Cn) (t : Int) : Bool := match l[lbT l t]? with
  | some c => c.t == t
  | none => false
def Srt (l : List Cn) : Prop := l.Pairwise (fun a b => a.t < b.t)
theorem lb_le (l : List Cn) (t : Int) : lbT l t ≤ l.length := by
  unfold lbT
  exact (List.takeWhile_sublist _).length_le
theorem lb_eq : ∀ (l : List Cn) (t : Int) (k : Nat), k ≤ l.length → (∀ j (hj : j < l.length), j < k → l[j].t < t) → (∀ j (hj : j < l.length), k ≤ j → ¬ l[j].t < t) → lbT l t = k
  | [], t, k, hk, _, _ => by simp at hk; subst hk; rfl
  | c :: l, t, 0, _, _, h2 => by
    have := h2 0 (by simp) (Nat.le_refl _)
    simp only [List.getElem_cons_zero] at this
    simp [lbT, this]
  | c :: l, t, k + 1, hk, h1, h2 => by
    have h0 := h1 0 (by simp) (by omega)
    simp only [List.getElem_cons_zero] at h0
    have ih := lb_eq l t k (by simpa using hk) (fun j hj hjk => by have := h1 (j + 1) (by simpa using hj) (by omega); simpa using this) (fun j hj hjk => by have := h2 (j + 1) (by simpa using hj) (by omega); simpa using this)
    unfold lbT at ih ⊢
    simp [h0, ih]
theorem Srt.lt {l : List Cn} (h : Srt l) {i j : Nat} (hi : i < l.length) (hj : j < l.length) (hij : i < j) : l[i].t < l[j].t := List.pairwise_iff_getElem.1 h i j hi hj hij
def cmpI (x y : Int) : Int := if x < y then -1 else if y < x then 1 else 0
theorem cmpI_lt {x y : Int} : cmpI x y < 0 ↔ x < y := by unfold cmpI; split <;> (try split) <;> omega
theorem cmpI_eq {x y : Int} : cmpI x y = 0 ↔ x = y := by unfold cmpI; split <;> (try split) <;> omega
/-! ### The small functions -/
theorem isNaN_any (w : World) (x : Int) : Calls Try.prog 48 #[.int .i64 x] w fun e w' => e = .returned (.bool false) ∧ w' = w := by
  go_enter Try.func48, Try.ntmps48
  go_wp2
  go_ret
  exact ⟨rfl, rfl⟩
theorem cmp_any (w : World) (x y : Int) : Calls Try.prog 45 #[.int .i64 x, .int .i64 y] w fun e w' => e = .returned (.int .i64 (cmpI x y)) ∧ w' = w := by
  unfold cmpI
  by_cases h1 : x < y
  · rw [if_pos h1]
    go_enter Try.func45, Try.ntmps45
    go_wp2_with (first | (go_at_call 48; refine (isNaN_any _ _).mono ?_; rintro e w' ⟨rfl, rfl⟩))
    go_ret
    exact ⟨rfl, rfl⟩
  · rw [if_neg h1]
    by_cases h2 : y < x
    · rw [if_pos h2]
      go_enter Try.func45, Try.ntmps45
      go_wp2_with (first | (go_at_call 48; refine (isNaN_any _ _).mono ?_; rintro e w' ⟨rfl, rfl⟩))
      go_ret
      exact ⟨rfl, rfl⟩
    · rw [if_neg h2]
      go_enter Try.func45, Try.ntmps45
      go_wp2_with (first | (go_at_call 48; refine (isNaN_any _ _).mono ?_; rintro e w' ⟨rfl, rfl⟩))
      go_ret
      exact ⟨rfl, rfl⟩
theorem at1_any (w : World) (c : Cn) (t : Int) : Calls Try.prog 44 #[.agg #[.int .i64 c.t, .int .i64 c.s], .int .i64 t] w fun e w' => e = .returned (.int .i64 (cmpI c.t t)) ∧ Below w.heap.size w w' := by
  obtain ⟨X, hX⟩ : ∃ X, cmpI c.t t = X := ⟨_, rfl⟩
  have C := fun W => cmp_any W c.t t
  rw [hX] at C ⊢
  have C := Lib.hid C
  clear hX
  go_enter Try.func44, Try.ntmps44
  go_wp2_with fail
  refine (C.out _).mono ?_
  rintro e w1 ⟨rfl, rfl⟩
  go_wp2
  go_ret
  exact ⟨rfl, (Below.refl _ _).alloc (Nat.le_refl _) _⟩
theorem of1_any (w : World) (c : Cn) (s : Int) (g : Nat) (hg : w.cell? ⟨g, 0, none⟩ = some (.int .i64 s)) : Calls Try.prog 42 #[.agg #[.int .i64 c.t, .int .i64 c.s], .pointer (some ⟨g, 0, none⟩)] w fun e w' => e = .returned (.bool (c.s == s)) ∧ Below w.heap.size w w' := by
  have hlt : g < w.heap.size := by have := World.block_lt_of_cell? w _ hg; simpa using this
  have h2 : ∀ o, (w.alloc o).cell? ⟨g, 0, none⟩ = some (.int .i64 s) := fun o => (World.cell?_alloc_lt w o _ hlt).trans hg
  clear hg
  go_enter Try.func42, Try.ntmps42
  go_wp2
  go_ret
  exact ⟨rfl, (Below.refl _ _).alloc (Nat.le_refl _) _⟩
end Go.Proofs.Ytidkhekekfennaa
