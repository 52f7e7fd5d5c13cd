/- A reader of numbers, plain: what is read at a place, up to the first error. -/
import Derived.Test.YthdeappjankmmaaOctPlain
namespace Go.Proofs.Ythdeappjankmmaa
set_option maxRecDepth 100000
open Go.RowKit

/-- What a reader at place k with error e reads: the number, the place, the error. -/
def rnum (lb : List Int) (k : Nat) (e most : Int) : Int × Nat × Int :=
  if e ≠ 0 then (0, k, e)
  else if (readN (lb.drop k)).2.2 ≠ 0 then (0, k, (readN (lb.drop k)).2.2)
  else if (readN (lb.drop k)).1 > most then (0, k, 11)
  else ((readN (lb.drop k)).1, k + (readN (lb.drop k)).2.1.toNat, 0)
theorem rnum_err {lb : List Int} {k : Nat} {e most : Int} (he : e ≠ 0) : rnum lb k e most = (0, k, e) := by
  unfold rnum
  rw [if_pos he]
theorem rnum_zero {lb : List Int} {k : Nat} {e most : Int} (h : (rnum lb k e most).2.2 = 0) : e = 0 := by
  by_cases he : e = 0
  · exact he
  · rw [rnum_err he] at h
    exact h
theorem rnum_le {lb : List Int} (hb : Byt lb) {k : Nat} (hk : k ≤ lb.length) (e : Int) {most : Int} (hm : 0 ≤ most) : 0 ≤ (rnum lb k e most).1 ∧ (rnum lb k e most).1 ≤ most ∧ (rnum lb k e most).2.1 ≤ lb.length ∧ (rnum lb k e most).1 < 18446744073709551616 := by
  unfold rnum
  by_cases h1 : e ≠ 0
  · rw [if_pos h1]
    exact ⟨Int.le_refl _, hm, hk, by show (0 : Int) < 18446744073709551616; decide⟩
  rw [if_neg h1]
  by_cases h2 : (readN (lb.drop k)).2.2 ≠ 0
  · rw [if_pos h2]
    exact ⟨Int.le_refl _, hm, hk, by show (0 : Int) < 18446744073709551616; decide⟩
  rw [if_neg h2]
  by_cases h3 : (readN (lb.drop k)).1 > most
  · rw [if_pos h3]
    exact ⟨Int.le_refl _, hm, hk, by show (0 : Int) < 18446744073709551616; decide⟩
  rw [if_neg h3]
  obtain ⟨r1, r2, r3, r4, r5⟩ := readN_ok (lb.drop k) (hb.drop k) (by simpa using h2)
  rw [List.length_drop] at r2
  exact ⟨r4, by simp only; omega, by simp only; omega, r5⟩
/-- So many numbers. -/
def decNodes (lb : List Int) : Nat → Nat → Int → List Int × Nat × Int
  | 0, k, e => ([], k, e)
  | c + 1, k, e => ((rnum lb k e 65535).1 :: (decNodes lb c (rnum lb k e 65535).2.1 (rnum lb k e 65535).2.2).1, (decNodes lb c (rnum lb k e 65535).2.1 (rnum lb k e 65535).2.2).2)
theorem decNodes_err {lb : List Int} {e : Int} (he : e ≠ 0) : ∀ (c k : Nat), (decNodes lb c k e).2.2 = e := by
  intro c
  induction c with
  | zero => intro k; rfl
  | succ c ih =>
    intro k
    unfold decNodes
    rw [rnum_err he]
    exact ih k
theorem decNodes_zero {lb : List Int} : ∀ {c k : Nat} {e : Int}, (decNodes lb c k e).2.2 = 0 → e = 0 := by
  intro c
  induction c with
  | zero => intro k e h; exact h
  | succ c ih => intro k e h; exact rnum_zero (ih h)
theorem decNodes_mem {lb : List Int} (hb : Byt lb) : ∀ (c k : Nat) (e : Int), k ≤ lb.length → (decNodes lb c k e).1.length = c ∧ (∀ z ∈ (decNodes lb c k e).1, 0 ≤ z ∧ z ≤ 65535) ∧ (decNodes lb c k e).2.1 ≤ lb.length := by
  intro c
  induction c with
  | zero => intro k e hk; exact ⟨rfl, (fun z hz => by cases hz), hk⟩
  | succ c ih =>
    intro k e hk
    obtain ⟨r1, r2, r3, r4⟩ := rnum_le hb hk e (most := 65535) (by decide)
    obtain ⟨i1, i2, i3⟩ := ih (rnum lb k e 65535).2.1 (rnum lb k e 65535).2.2 r3
    refine ⟨by simp [decNodes, i1], fun z hz => ?_, i3⟩
    simp only [decNodes, List.mem_cons] at hz
    rcases hz with rfl | hz
    · exact ⟨r1, r2⟩
    · exact i2 z hz
/-- Read in a longer list of bytes. -/
theorem rnum_shift (LB : List Int) (K k : Nat) (e most : Int) : rnum LB (K + k) e most = ((rnum (LB.drop K) k e most).1, K + (rnum (LB.drop K) k e most).2.1, (rnum (LB.drop K) k e most).2.2) := by
  unfold rnum
  rw [List.drop_drop]
  split
  · rfl
  split
  · rfl
  split
  · rfl
  · simp only [Nat.add_assoc]
end Go.Proofs.Ythdeappjankmmaa
