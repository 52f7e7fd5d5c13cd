/- The parts of a snapshot as lists of numbers with their bounds. -/
import Derived.Test.YthdeappjankmmaaSdS
import Derived.Test.YthdeappjankmmaaRnP
namespace Go.Proofs.Ythdeappjankmmaa
set_option maxRecDepth 100000
open Go.RowKit

def hdM : List Int := [65535, 65535, 18446744073709551615, 18446744073709551615, 18446744073709551615]
def lsM : List Int := [65535, 18446744073709551615, 18446744073709551615, 65535, 65535, 18446744073709551615]
theorem dHd_rnums (lb : List Int) (k : Nat) (e : Int) : rnums lb hdM k e = (hdL (dHd lb k e).1, (dHd lb k e).2) := rfl
theorem dLs_rnums (lb : List Int) (k : Nat) (e : Int) : rnums lb lsM k e = (lsL (dLs lb k e).1, (dLs lb k e).2) := rfl
theorem decH_rnums (lb : List Int) : ∀ (c k : Nat) (e : Int), rnums lb (List.replicate c hdM).flatten k e = ((decH lb c k e).1.flatMap hdL, (decH lb c k e).2) := by
  intro c
  induction c with
  | zero => intro k e; rfl
  | succ c ih =>
    intro k e
    rw [List.replicate_succ, List.flatten_cons, rnums_app, dHd_rnums]
    simp only
    rw [ih]
    simp only [decH, List.flatMap_cons]
theorem decL_rnums (lb : List Int) : ∀ (c k : Nat) (e : Int), rnums lb (List.replicate c lsM).flatten k e = ((decL lb c k e).1.flatMap lsL, (decL lb c k e).2) := by
  intro c
  induction c with
  | zero => intro k e; rfl
  | succ c ih =>
    intro k e
    rw [List.replicate_succ, List.flatten_cons, rnums_app, dLs_rnums]
    simp only
    rw [ih]
    simp only [decL, List.flatMap_cons]
theorem hdL_inj {l m : List Hd} (h : l.flatMap hdL = m.flatMap hdL) : l = m := by
  induction l generalizing m with
  | nil =>
    cases m with
    | nil => rfl
    | cons y m => simp [hdL] at h
  | cons x l ih =>
    cases m with
    | nil => simp [hdL] at h
    | cons y m =>
      simp only [List.flatMap_cons, hdL, List.cons_append, List.nil_append, List.cons.injEq] at h
      obtain ⟨h1, h2, h3, h4, h5, h6⟩ := h
      rw [ih h6]
      cases x
      cases y
      simp_all
theorem lsL_inj {l m : List Ls} (h : l.flatMap lsL = m.flatMap lsL) : l = m := by
  induction l generalizing m with
  | nil =>
    cases m with
    | nil => rfl
    | cons y m => simp [lsL] at h
  | cons x l ih =>
    cases m with
    | nil => simp [lsL] at h
    | cons y m =>
      simp only [List.flatMap_cons, lsL, List.cons_append, List.nil_append, List.cons.injEq] at h
      obtain ⟨h1, h2, h3, h4, h5, h6, h7⟩ := h
      rw [ih h7]
      cases x
      cases y
      simp_all
end Go.Proofs.Ythdeappjankmmaa
