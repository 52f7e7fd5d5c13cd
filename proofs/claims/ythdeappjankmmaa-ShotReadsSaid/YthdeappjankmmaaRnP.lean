/- Plain laws of a reader of numbers: a list of numbers with their bounds, read one behind the other. -/
import Derived.Test.YthdeappjankmmaaRnum
import Derived.Test.YthdeappjankmmaaOctLaws
import Derived.Test.YthdeappjankmmaaEnc
namespace Go.Proofs.Ythdeappjankmmaa
set_option maxRecDepth 100000
open Go.RowKit

theorem rnumI_hit {lb : List Int} {k : Nat} {z : Int} {rest : List Int} {most : Int} (h : lb.drop k = numB z.toNat ++ rest) (h0 : 0 ≤ z) (hv : z < 18446744073709551616) (hm : z ≤ most) :
    rnum lb k 0 most = (z, k + (numB z.toNat).length, 0) ∧ lb.drop (k + (numB z.toNat).length) = rest := by
  constructor
  · unfold rnum
    rw [if_neg (by simp), h, readN_numB z.toNat (by omega) rest]
    rw [if_neg (by simp), if_neg (by show ¬ ((z.toNat : Int) > most); omega)]
    simp only [Int.toNat_natCast]
    rw [Int.toNat_of_nonneg h0]
  · rw [← List.drop_drop, h]
    simp
theorem rnum_short {lb : List Int} {k v : Nat} {most : Int} (h : lb.drop k = (numB v).take ((numB v).length - 1)) : (rnum lb k 0 most).2.2 = 10 := by
  have h10 := readN_cut v
  rw [← h] at h10
  unfold rnum
  rw [if_neg (by simp), if_pos (by rw [h10]; decide)]
  exact h10
theorem rnum_back {lb : List Int} (hb : Byt lb) {k : Nat} (hk : k ≤ lb.length) {e most : Int} (hm : 0 ≤ most) (h : (rnum lb k e most).2.2 = 0) :
    e = 0 ∧ lb.take (rnum lb k e most).2.1 = lb.take k ++ numB (rnum lb k e most).1.toNat ∧ (rnum lb k e most).2.1 ≤ lb.length := by
  have hle := (rnum_le hb hk e hm).2.2.1
  by_cases he : e = 0
  · refine ⟨he, ?_, hle⟩
    subst he
    unfold rnum at h ⊢
    rw [if_neg (by simp)] at h ⊢
    by_cases h2 : (readN (lb.drop k)).2.2 ≠ 0
    · rw [if_pos h2] at h
      exact absurd h h2
    rw [if_neg h2] at h ⊢
    by_cases h3 : (readN (lb.drop k)).1 > most
    · rw [if_pos h3] at h
      simp at h
    rw [if_neg h3]
    obtain ⟨n1, n2⟩ := numB_readN (lb.drop k) (hb.drop k) (by simpa using h2)
    simp only
    rw [n1, List.take_add]
  · rw [rnum_err he] at h
    exact absurd h he
theorem cut_front {a b : List Int} (hb : 1 ≤ b.length) : (a ++ b).take ((a ++ b).length - 1) = a ++ b.take (b.length - 1) := by
  rw [List.length_append, List.take_append, List.take_of_length_le (by omega), show a.length + b.length - 1 - a.length = b.length - 1 by omega]
/-- Numbers, each with its bound. -/
def rnums (lb : List Int) : List Int → Nat → Int → List Int × Nat × Int
  | [], k, e => ([], k, e)
  | m :: ms, k, e => ((rnum lb k e m).1 :: (rnums lb ms (rnum lb k e m).2.1 (rnum lb k e m).2.2).1, (rnums lb ms (rnum lb k e m).2.1 (rnum lb k e m).2.2).2)
theorem rnums_app (lb : List Int) : ∀ (a b : List Int) (k : Nat) (e : Int), rnums lb (a ++ b) k e = ((rnums lb a k e).1 ++ (rnums lb b (rnums lb a k e).2.1 (rnums lb a k e).2.2).1, (rnums lb b (rnums lb a k e).2.1 (rnums lb a k e).2.2).2) := by
  intro a
  induction a with
  | nil => intro b k e; rfl
  | cons m a ih =>
    intro b k e
    rw [List.cons_append]
    simp only [rnums]
    rw [ih b]
    rfl
theorem rnums_err {lb : List Int} {e : Int} (he : e ≠ 0) : ∀ (ms : List Int) (k : Nat), (rnums lb ms k e).2 = (k, e) := by
  intro ms
  induction ms with
  | nil => intro k; rfl
  | cons m ms ih =>
    intro k
    simp only [rnums]
    rw [rnum_err he]
    exact ih k
/-- Numbers that a list of bounds lets in. -/
inductive Fits : List Int → List Int → Prop
  | nil : Fits [] []
  | cons {z m : Int} {l ms : List Int} (h0 : 0 ≤ z) (h1 : z < 18446744073709551616) (h2 : z ≤ m) (h : Fits l ms) : Fits (z :: l) (m :: ms)
theorem Fits.app {a b ma mb : List Int} (h : Fits a ma) (k : Fits b mb) : Fits (a ++ b) (ma ++ mb) := by
  induction h with
  | nil => exact k
  | cons h0 h1 h2 _ ih => exact .cons h0 h1 h2 ih
theorem Fits.rep {l : List Int} {m : Int} (hm : m < 18446744073709551616) (h : ∀ z ∈ l, 0 ≤ z ∧ z ≤ m) : Fits l (List.replicate l.length m) := by
  induction l with
  | nil => exact .nil
  | cons z l ih =>
    have := h z (by simp)
    exact .cons this.1 (by omega) this.2 (ih fun y hy => h y (by simp [hy]))
theorem Fits.flat {α : Type} {f : α → List Int} {ms : List Int} {l : List α} (h : ∀ x ∈ l, Fits (f x) ms) : Fits (l.flatMap f) (List.replicate l.length ms).flatten := by
  induction l with
  | nil => exact .nil
  | cons z l ih =>
    rw [List.flatMap_cons, List.length_cons, List.replicate_succ, List.flatten_cons]
    exact (h z (by simp)).app (ih fun y hy => h y (by simp [hy]))
theorem Fits.len {l ms : List Int} (h : Fits l ms) : l.length = ms.length := by
  induction h with
  | nil => rfl
  | cons _ _ _ _ ih => simp [ih]
theorem rnums_hit {lb : List Int} {l ms : List Int} (hf : Fits l ms) : ∀ (k : Nat) (rest : List Int), lb.drop k = numsB l ++ rest →
    rnums lb ms k 0 = (l, k + (numsB l).length, 0) ∧ lb.drop (k + (numsB l).length) = rest := by
  induction hf with
  | nil => intro k rest h; exact ⟨by simp [rnums, numsB], by simpa [numsB] using h⟩
  | cons h0 h1 h2 _ ih =>
    intro k rest h
    rw [numsB_cons, List.append_assoc] at h
    obtain ⟨a1, a2⟩ := rnumI_hit h h0 h1 h2
    obtain ⟨i1, i2⟩ := ih _ rest a2
    rw [numsB_cons, List.length_append, ← Nat.add_assoc]
    refine ⟨?_, i2⟩
    simp only [rnums]
    rw [a1]
    simp only
    rw [i1]
theorem numsB_pos {l : List Int} (h : 0 < l.length) : 1 ≤ (numsB l).length := by
  cases l with
  | nil => simp at h
  | cons y l =>
    rw [numsB_cons, List.length_append]
    have := numB_pos y.toNat
    omega
theorem rnums_short {lb : List Int} {l ms : List Int} (hf : Fits l ms) : ∀ (k : Nat), 0 < l.length → lb.drop k = (numsB l).take ((numsB l).length - 1) → (rnums lb ms k 0).2.2 = 10 := by
  induction hf with
  | nil => intro k h0; simp at h0
  | @cons z m l ms h0 h1 h2 hf ih =>
    intro k _ h
    simp only [rnums]
    rcases Nat.eq_zero_or_pos l.length with hl0 | hl0
    · have hl : l = [] := List.eq_nil_of_length_eq_zero hl0
      subst hl
      have e1 : numsB [z] = numB z.toNat := by simp [numsB]
      rw [e1] at h
      have h10 := rnum_short (most := m) h
      rw [rnums_err (by rw [h10]; decide)]
      exact h10
    · have hp := numsB_pos hl0
      rw [numsB_cons, cut_front hp] at h
      obtain ⟨a1, a2⟩ := rnumI_hit h h0 h1 h2
      rw [a1]
      exact ih _ hl0 a2
theorem rnums_back {lb : List Int} (hb : Byt lb) : ∀ (ms : List Int) (k : Nat) (e : Int), (∀ m ∈ ms, 0 ≤ m) → k ≤ lb.length → (rnums lb ms k e).2.2 = 0 →
    e = 0 ∧ lb.take (rnums lb ms k e).2.1 = lb.take k ++ numsB (rnums lb ms k e).1 ∧ (rnums lb ms k e).2.1 ≤ lb.length := by
  intro ms
  induction ms with
  | nil => intro k e _ hk h; exact ⟨h, by simp [rnums, numsB], hk⟩
  | cons m ms ih =>
    intro k e hm hk h
    have hm0 := hm m (by simp)
    obtain ⟨i1, i2, i3⟩ := ih (rnum lb k e m).2.1 (rnum lb k e m).2.2 (fun y hy => hm y (by simp [hy])) ((rnum_le hb hk e hm0).2.2.1) h
    obtain ⟨r1, r2, r3⟩ := rnum_back hb hk hm0 i1
    refine ⟨r1, ?_, i3⟩
    simp only [rnums]
    rw [i2, r2, numsB_cons, List.append_assoc]
theorem rnums_le {lb : List Int} (hb : Byt lb) : ∀ (ms : List Int) (k : Nat) (e : Int), (∀ m ∈ ms, 0 ≤ m) → k ≤ lb.length → (rnums lb ms k e).2.1 ≤ lb.length := by
  intro ms
  induction ms with
  | nil => intro k e _ hk; exact hk
  | cons m ms ih =>
    intro k e hm hk
    exact ih _ _ (fun y hy => hm y (by simp [hy])) ((rnum_le hb hk e (hm m (by simp))).2.2.1)
/-- A number that is read lies within its bound. -/
theorem rnums_fits {lb : List Int} (hb : Byt lb) : ∀ (ms : List Int) (k : Nat) (e : Int), (∀ m ∈ ms, 0 ≤ m) → k ≤ lb.length → Fits (rnums lb ms k e).1 ms := by
  intro ms
  induction ms with
  | nil => intro k e _ _; exact .nil
  | cons m ms ih =>
    intro k e hm hk
    obtain ⟨r1, r2, r3, r4⟩ := rnum_le hb hk e (hm m (by simp))
    exact .cons r1 r4 r2 (ih _ _ (fun y hy => hm y (by simp [hy])) r3)
theorem decNodes_rnums (lb : List Int) : ∀ (c k : Nat) (e : Int), rnums lb (List.replicate c 65535) k e = decNodes lb c k e := by
  intro c
  induction c with
  | zero => intro k e; rfl
  | succ c ih =>
    intro k e
    rw [List.replicate_succ]
    simp only [rnums, decNodes]
    rw [ih]
end Go.Proofs.Ythdeappjankmmaa
