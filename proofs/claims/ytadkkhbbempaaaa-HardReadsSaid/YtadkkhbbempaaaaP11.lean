/- Texts drawn together (9 of them): words, plain laws and walks that the row leans on. -/
import Derived.Test.YtadkkhbbempaaaaP8
import Derived.Test.YtadkkhbbempaaaaP7
import Derived.Test.YtadkkhbbempaaaaP3
import Derived.Deep.DeepCutAuto
import Derived.Test.YtadkkhbbempaaaaP4
import Derived.Deep.RegionLaw
import Derived.Deep.RegionHeld3
import Derived.Deep.CutBlock
/- What is read of bytes that go on, or are cut behind what was read. -/
namespace Go.Proofs.Ytadkkhbbempaaaa
set_option maxRecDepth 100000
open Go.RowKit

theorem getD_app {a b : List Int} {i : Nat} (h : i < a.length) : (a ++ b).getD i 0 = a.getD i 0 := by
  simp [List.getD_eq_getElem?_getD, List.getElem?_append_left h]
theorem tail_app {a b : List Int} (n : Nat) (h : n + 1 ≤ a.length) : (a ++ b).tail.take n = a.tail.take n := by
  match a, h with
  | x :: a, h =>
    rw [List.cons_append, List.tail_cons, List.tail_cons, List.take_append_of_le_length (by rw [List.length_cons] at h; omega)]
theorem readN_conds {a : List Int} (h : (readN a).2.2 = 0) : ¬ a.length = 0 ∧ ¬ a.getD 0 0 > 8 ∧ ¬ (a.length : Int) < 1 + a.getD 0 0 ∧ ¬ (1 + a.getD 0 0 > 1 ∧ a.getD 1 0 = 0) := by
  unfold readN at h
  by_cases h0 : a.length = 0
  · rw [if_pos h0] at h; exact absurd h (by simp)
  rw [if_neg h0] at h
  by_cases h8 : a.getD 0 0 > 8
  · rw [if_pos h8] at h; exact absurd h (by simp)
  rw [if_neg h8] at h
  by_cases hs : (a.length : Int) < 1 + a.getD 0 0
  · rw [if_pos hs] at h; exact absurd h (by simp)
  rw [if_neg hs] at h
  by_cases hz : 1 + a.getD 0 0 > 1 ∧ a.getD 1 0 = 0
  · rw [if_pos hz] at h; exact absurd h (by simp)
  exact ⟨h0, h8, hs, hz⟩
theorem readN_val {a : List Int} (h : ¬ a.length = 0 ∧ ¬ a.getD 0 0 > 8 ∧ ¬ (a.length : Int) < 1 + a.getD 0 0 ∧ ¬ (1 + a.getD 0 0 > 1 ∧ a.getD 1 0 = 0)) : readN a = ((fold (a.tail.take (a.getD 0 0).toNat) : Int), 1 + a.getD 0 0, 0) := by
  unfold readN
  rw [if_neg h.1, if_neg h.2.1, if_neg h.2.2.1, if_neg h.2.2.2]
theorem head_nn {a : List Int} (ha : Byt a) (h0 : ¬ a.length = 0) : 0 ≤ a.getD 0 0 := by
  match a, h0 with
  | x :: a, _ => exact (ha x (List.mem_cons_self ..)).1
theorem readN_app {a b : List Int} (ha : Byt a) (h : (readN a).2.2 = 0) : readN (a ++ b) = readN a := by
  have hc := readN_conds h
  have hx := head_nn ha hc.1
  obtain ⟨h0, h8, hs, hz⟩ := hc
  have hl : (a ++ b).length = a.length + b.length := List.length_append
  have g0 : (a ++ b).getD 0 0 = a.getD 0 0 := getD_app (by omega)
  have hz2 : ¬ (1 + (a ++ b).getD 0 0 > 1 ∧ (a ++ b).getD 1 0 = 0) := by
    rintro ⟨p, q⟩
    rw [g0] at p
    rw [getD_app (by omega)] at q
    exact hz ⟨p, q⟩
  rw [readN_val ⟨h0, h8, hs, hz⟩, readN_val ⟨by omega, by rw [g0]; exact h8, by rw [g0]; omega, hz2⟩, g0, tail_app _ (by omega)]
theorem readN_cut2 {a b : List Int} (hab : Byt (a ++ b)) (h : (readN (a ++ b)).2.2 = 0) (hl : (readN (a ++ b)).2.1 ≤ a.length) : readN a = readN (a ++ b) := by
  obtain ⟨k1, _⟩ := readN_ok (a ++ b) hab h
  have h0 : ¬ a.length = 0 := by omega
  have ha : Byt a := fun x hx => hab x (List.mem_append_left _ hx)
  have hx := head_nn ha h0
  have hc := readN_conds h
  have hv := readN_val hc
  rw [hv] at hl
  simp only at hl
  obtain ⟨c0, c8, cs, cz⟩ := hc
  have g0 : (a ++ b).getD 0 0 = a.getD 0 0 := getD_app (by omega)
  rw [g0] at c8 hl
  have hz2 : ¬ (1 + a.getD 0 0 > 1 ∧ a.getD 1 0 = 0) := by
    rintro ⟨p, q⟩
    exact cz ⟨by rw [g0]; exact p, by rw [getD_app (by omega)]; exact q⟩
  rw [hv, readN_val ⟨h0, c8, by omega, hz2⟩, g0, tail_app _ (by omega)]
theorem rnum_val {l : List Int} {k : Nat} {most : Int} (h : (readN (l.drop k)).2.2 = 0) : rnum l k 0 most = if (readN (l.drop k)).1 > most then (0, k, 11) else ((readN (l.drop k)).1, k + (readN (l.drop k)).2.1.toNat, 0) := by
  unfold rnum
  rw [if_neg (by simp), if_neg (by rw [h]; simp)]
theorem rnum_read {l : List Int} {k : Nat} {most : Int} (h : (rnum l k 0 most).2.2 = 0) : (readN (l.drop k)).2.2 = 0 := by
  by_cases q : (readN (l.drop k)).2.2 = 0
  · exact q
  · unfold rnum at h
    rw [if_neg (by simp), if_pos q] at h
    exact absurd h q
theorem drop_split {l : List Int} {j k : Nat} (hk : k ≤ j) (hj : j ≤ l.length) : l.drop k = (l.take j).drop k ++ l.drop j := by
  conv => lhs; rw [← List.take_append_drop j l]
  rw [List.drop_append_of_le_length (by rw [List.length_take]; omega)]
/-- What was read of the first j bytes is read of all. -/
theorem rnum_pre {l : List Int} (hb : Byt l) {j k : Nat} (hk : k ≤ j) {e most : Int} (h : (rnum (l.take j) k e most).2.2 = 0) : rnum l k e most = rnum (l.take j) k e most := by
  have he := rnum_zero h
  subst he
  rcases Nat.lt_or_ge l.length j with q | q
  · rw [List.take_of_length_le (Nat.le_of_lt q)]
  have h2 := rnum_read h
  have h3 : readN (l.drop k) = readN ((l.take j).drop k) := by
    rw [drop_split hk q]
    exact readN_app ((hb.take j).drop k) h2
  rw [rnum_val h2, rnum_val (by rw [h3]; exact h2), h3]
/-- What was read of all, ahead of j, is read of the first j bytes. -/
theorem rnum_cut {l : List Int} (hb : Byt l) {j k : Nat} (hk : k ≤ j) {e most : Int} (h : (rnum l k e most).2.2 = 0) (hj : (rnum l k e most).2.1 ≤ j) : rnum (l.take j) k e most = rnum l k e most := by
  have he := rnum_zero h
  subst he
  rcases Nat.lt_or_ge l.length j with q | q
  · rw [List.take_of_length_le (Nat.le_of_lt q)]
  have h2 := rnum_read h
  have hv := rnum_val (most := most) h2
  by_cases h4 : (readN (l.drop k)).1 > most
  · rw [hv, if_pos h4] at h
    exact absurd h (by simp)
  rw [hv, if_neg h4] at hj
  simp only at hj
  have hr := readN_ok (l.drop k) (hb.drop k) h2
  have h3 : readN ((l.take j).drop k) = readN (l.drop k) := by
    have hs := drop_split hk q
    rw [hs] at h2 hj hr ⊢
    exact readN_cut2 (hs ▸ hb.drop k) h2 (by rw [List.length_drop, List.length_take]; omega)
  rw [rnum_val (by rw [h3]; exact h2), hv, h3]
end Go.Proofs.Ytadkkhbbempaaaa

/- A command read of bytes that go on, or are cut behind it; where the code's loop over prefixes ends. -/
namespace Go.Proofs.Ytadkkhbbempaaaa
set_option maxRecDepth 100000
open Go.RowKit

theorem rnum_ge (l : List Int) (k : Nat) (e most : Int) : k ≤ (rnum l k e most).2.1 := by
  unfold rnum
  split
  · exact Nat.le_refl _
  split
  · exact Nat.le_refl _
  split
  · exact Nat.le_refl _
  · exact Nat.le_add_right _ _
theorem fnum_ge (there : Bool) (l : List Int) (k : Nat) (e most : Int) : k ≤ (fnum there l (k, e) most).2.1 := by
  cases there
  · exact Nat.le_refl _
  · exact rnum_ge _ _ _ _
theorem fnum_zero {there : Bool} {l : List Int} {k : Nat} {e most : Int} (h : (fnum there l (k, e) most).2.2 = 0) : e = 0 := by
  cases there
  · exact h
  · exact rnum_zero h
theorem decNodes_ge (l : List Int) : ∀ (c k : Nat) (e : Int), k ≤ (decNodes l c k e).2.1
  | 0, _, _ => Nat.le_refl _
  | c + 1, k, e => Nat.le_trans (rnum_ge l k e 65535) (decNodes_ge l c _ _)
section
variable {l : List Int} {j : Nat}
theorem fnum_pre (hb : Byt l) {there : Bool} {k : Nat} (hk : k ≤ j) {e most : Int} (h : (fnum there (l.take j) (k, e) most).2.2 = 0) : fnum there l (k, e) most = fnum there (l.take j) (k, e) most := by
  cases there
  · rfl
  · exact rnum_pre hb hk h
theorem fnum_cut (hb : Byt l) {there : Bool} {k : Nat} (hk : k ≤ j) {e most : Int} (h : (fnum there l (k, e) most).2.2 = 0) (hj : (fnum there l (k, e) most).2.1 ≤ j) : fnum there (l.take j) (k, e) most = fnum there l (k, e) most := by
  cases there
  · rfl
  · exact rnum_cut hb hk h hj
theorem decNodes_pre (hb : Byt l) : ∀ (c k : Nat) (e : Int), k ≤ (l.take j).length → (decNodes (l.take j) c k e).2.2 = 0 → decNodes l c k e = decNodes (l.take j) c k e
  | 0, k, e, _, _ => rfl
  | c + 1, k, e, hk, h => by
    have hl : (l.take j).length ≤ j := by rw [List.length_take]; omega
    have h1 : (decNodes (l.take j) c (rnum (l.take j) k e 65535).2.1 (rnum (l.take j) k e 65535).2.2).2.2 = 0 := h
    have h2 := rnum_pre hb (by omega) (decNodes_zero h1)
    have h3 := (rnum_le (hb.take j) hk e (most := 65535) (by decide)).2.2.1
    have h4 := decNodes_pre hb c _ _ h3 h1
    show ((rnum l k e 65535).1 :: (decNodes l c (rnum l k e 65535).2.1 (rnum l k e 65535).2.2).1, (decNodes l c (rnum l k e 65535).2.1 (rnum l k e 65535).2.2).2) = ((rnum (l.take j) k e 65535).1 :: (decNodes (l.take j) c (rnum (l.take j) k e 65535).2.1 (rnum (l.take j) k e 65535).2.2).1, (decNodes (l.take j) c (rnum (l.take j) k e 65535).2.1 (rnum (l.take j) k e 65535).2.2).2)
    rw [h2, h4]
theorem decNodes_cut (hb : Byt l) : ∀ (c k : Nat) (e : Int), (decNodes l c k e).2.2 = 0 → (decNodes l c k e).2.1 ≤ j → decNodes (l.take j) c k e = decNodes l c k e
  | 0, k, e, _, _ => rfl
  | c + 1, k, e, h, hj => by
    have h1 : (decNodes l c (rnum l k e 65535).2.1 (rnum l k e 65535).2.2).2.2 = 0 := h
    have hj1 : (decNodes l c (rnum l k e 65535).2.1 (rnum l k e 65535).2.2).2.1 ≤ j := hj
    have g1 := decNodes_ge l c (rnum l k e 65535).2.1 (rnum l k e 65535).2.2
    have g2 := rnum_ge l k e 65535
    have h2 := rnum_cut hb (j := j) (by omega) (decNodes_zero h1) (by omega)
    have h4 := decNodes_cut hb c _ _ h1 hj1
    show ((rnum (l.take j) k e 65535).1 :: (decNodes (l.take j) c (rnum (l.take j) k e 65535).2.1 (rnum (l.take j) k e 65535).2.2).1, (decNodes (l.take j) c (rnum (l.take j) k e 65535).2.1 (rnum (l.take j) k e 65535).2.2).2) = ((rnum l k e 65535).1 :: (decNodes l c (rnum l k e 65535).2.1 (rnum l k e 65535).2.2).1, (decNodes l c (rnum l k e 65535).2.1 (rnum l k e 65535).2.2).2)
    rw [h2, h4]
end
theorem dK_read {l : List Int} (h : (dK l).2.2 = 0) : (rnum l 0 0 6).2.2 = 0 := by
  unfold dK at h
  simp only at h
  split at h
  · exact absurd h (by simp)
  · exact h
theorem dL_zero {l : List Int} (h : (dL l).2.2 = 0) : (dK l).2.2 = 0 := by
  unfold dL at h
  split at h
  · exact rnum_zero (decNodes_zero h)
  · exact h
theorem dL_ge (l : List Int) : (dK l).2.1 ≤ (dL l).2.1 := by
  unfold dL
  split
  · exact Nat.le_trans (rnum_ge _ _ _ _) (decNodes_ge _ _ _ _)
  · exact Nat.le_refl _
/-- All that is read of a command is the same. -/
structure Alike (l u : List Int) : Prop where
  K : dK l = dK u
  L : dL l = dL u
  n : dn l = dn u
  b : db l = db u
  q : dq l = dq u
  t : dt l = dt u
  s : ds l = ds u
  m : dm l = dm u
theorem Alike.err {l u : List Int} (h : Alike l u) : dE l = dE u := by
  unfold dE
  rw [h.K, h.L, h.n, h.b, h.q, h.t, h.s, h.m]
theorem alike_pre {l : List Int} (hb : Byt l) {j : Nat} (h : (dm (l.take j)).2.2 = 0) : Alike l (l.take j) := by
  have hl : (l.take j).length ≤ j := by rw [List.length_take]; omega
  obtain ⟨rK, rL, rn, rb, rq, rt, rs, rm⟩ := ranges (hb.take j)
  have es := fnum_zero (there := kS (dK (l.take j)).1) h
  have et := fnum_zero (there := kT (dK (l.take j)).1) es
  have eq := fnum_zero (there := kT (dK (l.take j)).1) et
  have eb := fnum_zero (there := kR (dK (l.take j)).1) eq
  have en := fnum_zero (there := kR (dK (l.take j)).1) eb
  have eL := fnum_zero (there := kR (dK (l.take j)).1) en
  have eK := dL_zero eL
  have pK : dK l = dK (l.take j) := by
    unfold dK
    rw [rnum_pre hb (Nat.zero_le _) (dK_read eK)]
  have pL : dL l = dL (l.take j) := by
    unfold dL at eL ⊢
    rw [pK]
    cases hN : kN (dK (l.take j)).1
    · rfl
    · rw [hN] at eL
      simp only [if_pos] at eL ⊢
      have e1 := decNodes_zero eL
      have p1 := rnum_pre hb (Nat.le_trans rK.2.2 hl) e1
      rw [p1]
      exact decNodes_pre hb _ _ _ (rnum_le (hb.take j) rK.2.2 (dK (l.take j)).2.2 (most := 7) (by decide)).2.2.1 eL
  have pn : dn l = dn (l.take j) := by
    unfold dn at en ⊢
    rw [pK, pL]
    exact fnum_pre hb (Nat.le_trans rL.1 hl) en
  have pb : db l = db (l.take j) := by
    unfold db at eb ⊢
    rw [pK, pn]
    exact fnum_pre hb (Nat.le_trans rn.2.2 hl) eb
  have pq : dq l = dq (l.take j) := by
    unfold dq at eq ⊢
    rw [pK, pb]
    exact fnum_pre hb (Nat.le_trans rb.2.2 hl) eq
  have pt : dt l = dt (l.take j) := by
    unfold dt at et ⊢
    rw [pK, pq]
    exact fnum_pre hb (Nat.le_trans rq.2.2 hl) et
  have ps : ds l = ds (l.take j) := by
    unfold ds at es ⊢
    rw [pK, pt]
    exact fnum_pre hb (Nat.le_trans rt.2.2 hl) es
  have pm : dm l = dm (l.take j) := by
    unfold dm at h ⊢
    rw [pK, ps]
    exact fnum_pre hb (Nat.le_trans rs.2.2 hl) h
  exact ⟨pK, pL, pn, pb, pq, pt, ps, pm⟩
theorem alike_cut {l : List Int} (hb : Byt l) {j : Nat} (h : (dm l).2.2 = 0) (hj : (dm l).2.1 ≤ j) : Alike (l.take j) l := by
  have es := fnum_zero (there := kS (dK l).1) h
  have et := fnum_zero (there := kT (dK l).1) es
  have eq := fnum_zero (there := kT (dK l).1) et
  have eb := fnum_zero (there := kR (dK l).1) eq
  have en := fnum_zero (there := kR (dK l).1) eb
  have eL := fnum_zero (there := kR (dK l).1) en
  have eK := dL_zero eL
  have gs : (ds l).2.1 ≤ (dm l).2.1 := fnum_ge (kS (dK l).1) l _ (ds l).2.2 _
  have gt : (dt l).2.1 ≤ (ds l).2.1 := fnum_ge (kT (dK l).1) l _ (dt l).2.2 _
  have gq : (dq l).2.1 ≤ (dt l).2.1 := fnum_ge (kT (dK l).1) l _ (dq l).2.2 _
  have gb : (db l).2.1 ≤ (dq l).2.1 := fnum_ge (kR (dK l).1) l _ (db l).2.2 _
  have gn : (dn l).2.1 ≤ (db l).2.1 := fnum_ge (kR (dK l).1) l _ (dn l).2.2 _
  have gL : (dL l).2.1 ≤ (dn l).2.1 := fnum_ge (kR (dK l).1) l _ (dL l).2.2 _
  have gK := dL_ge l
  have js : (ds l).2.1 ≤ j := Nat.le_trans gs hj
  have jt : (dt l).2.1 ≤ j := Nat.le_trans gt js
  have jq : (dq l).2.1 ≤ j := Nat.le_trans gq jt
  have jb : (db l).2.1 ≤ j := Nat.le_trans gb jq
  have jn : (dn l).2.1 ≤ j := Nat.le_trans gn jb
  have jL : (dL l).2.1 ≤ j := Nat.le_trans gL jn
  have jK : (dK l).2.1 ≤ j := Nat.le_trans gK jL
  have pK : dK (l.take j) = dK l := by
    unfold dK
    rw [rnum_cut hb (Nat.zero_le _) (dK_read eK) jK]
  have pL : dL (l.take j) = dL l := by
    unfold dL at eL ⊢
    rw [pK]
    cases hN : kN (dK l).1
    · rfl
    · have gL2 := jL
      unfold dL at gL2
      rw [hN] at eL gL2
      simp only [if_pos] at eL gL2 ⊢
      have e1 := decNodes_zero eL
      have g1 := decNodes_ge l (rnum l (dK l).2.1 (dK l).2.2 7).1.toNat (rnum l (dK l).2.1 (dK l).2.2 7).2.1 (rnum l (dK l).2.1 (dK l).2.2 7).2.2
      have p1 := rnum_cut hb (j := j) jK e1 (Nat.le_trans g1 gL2)
      rw [p1]
      exact decNodes_cut hb _ _ _ eL gL2
  have pn : dn (l.take j) = dn l := by
    unfold dn at en ⊢
    rw [pK, pL]
    exact fnum_cut hb jL en jn
  have pb : db (l.take j) = db l := by
    unfold db at eb ⊢
    rw [pK, pn]
    exact fnum_cut hb jn eb jb
  have pq : dq (l.take j) = dq l := by
    unfold dq at eq ⊢
    rw [pK, pb]
    exact fnum_cut hb jb eq jq
  have pt : dt (l.take j) = dt l := by
    unfold dt at et ⊢
    rw [pK, pq]
    exact fnum_cut hb jq et jt
  have ps : ds (l.take j) = ds l := by
    unfold ds at es ⊢
    rw [pK, pt]
    exact fnum_cut hb jt es js
  have pm : dm (l.take j) = dm l := by
    unfold dm at h ⊢
    rw [pK, ps]
    exact fnum_cut hb js h hj
  exact ⟨pK, pL, pn, pb, pq, pt, ps, pm⟩
theorem readN_err (l : List Int) : (readN l).2.2 = 0 ∨ (readN l).2.2 = 10 ∨ (readN l).2.2 = 11 := by
  unfold readN
  split
  · exact .inr (.inl rfl)
  split
  · exact .inr (.inr rfl)
  split
  · exact .inr (.inl rfl)
  split
  · exact .inr (.inr rfl)
  · exact .inl rfl
theorem rnum_errs (l : List Int) (k : Nat) {e most : Int} (he : e = 0 ∨ e = 10 ∨ e = 11) : (rnum l k e most).2.2 = 0 ∨ (rnum l k e most).2.2 = 10 ∨ (rnum l k e most).2.2 = 11 := by
  unfold rnum
  split
  · exact he
  split
  · exact readN_err _
  split
  · exact .inr (.inr rfl)
  · exact .inl rfl
theorem fnum_errs (there : Bool) (l : List Int) (k : Nat) {e most : Int} (he : e = 0 ∨ e = 10 ∨ e = 11) : (fnum there l (k, e) most).2.2 = 0 ∨ (fnum there l (k, e) most).2.2 = 10 ∨ (fnum there l (k, e) most).2.2 = 11 := by
  cases there
  · exact he
  · exact rnum_errs l k he
theorem decNodes_errs (l : List Int) : ∀ (c k : Nat) (e : Int), (e = 0 ∨ e = 10 ∨ e = 11) → ((decNodes l c k e).2.2 = 0 ∨ (decNodes l c k e).2.2 = 10 ∨ (decNodes l c k e).2.2 = 11)
  | 0, _, _, he => he
  | c + 1, k, _, he => decNodes_errs l c _ _ (rnum_errs l k he)
theorem dm_errs (l : List Int) : (dm l).2.2 = 0 ∨ (dm l).2.2 = 10 ∨ (dm l).2.2 = 11 := by
  have hK : (dK l).2.2 = 0 ∨ (dK l).2.2 = 10 ∨ (dK l).2.2 = 11 := by
    unfold dK
    simp only
    split
    · exact .inr (.inr rfl)
    · exact rnum_errs l 0 (.inl rfl)
  have hL : (dL l).2.2 = 0 ∨ (dL l).2.2 = 10 ∨ (dL l).2.2 = 11 := by
    unfold dL
    split
    · exact decNodes_errs l _ _ _ (rnum_errs l _ hK)
    · exact hK
  exact fnum_errs _ l _ (fnum_errs _ l _ (fnum_errs _ l _ (fnum_errs _ l _ (fnum_errs _ l _ (fnum_errs _ l _ hL)))))
/-- Where the command may not be, the loop over prefixes tells whether something stands behind it. -/
theorem aE_eq {l : List Int} (hb : Byt l) (h : dE l = 40) : aE l = if (dm l).2.1 < l.length then 11 else 130 := by
  have hm : (dm l).2.2 = 0 := by
    rcases dm_errs l with q | q | q
    · exact q
    · unfold dE at h
      rw [if_neg (by omega), q] at h
      exact absurd h (by decide)
    · unfold dE at h
      rw [if_neg (by omega), q] at h
      exact absurd h (by decide)
  have hp : 1 ≤ (dm l).2.1 := by
    have h0 := dK_read (dL_zero (fnum_zero (there := kR (dK l).1) (fnum_zero (there := kR (dK l).1) (fnum_zero (there := kR (dK l).1) (fnum_zero (there := kT (dK l).1) (fnum_zero (there := kT (dK l).1) (fnum_zero (there := kS (dK l).1) hm)))))))
    have gs : (ds l).2.1 ≤ (dm l).2.1 := fnum_ge (kS (dK l).1) l _ (ds l).2.2 _
    have gt : (dt l).2.1 ≤ (ds l).2.1 := fnum_ge (kT (dK l).1) l _ (dt l).2.2 _
    have gq : (dq l).2.1 ≤ (dt l).2.1 := fnum_ge (kT (dK l).1) l _ (dq l).2.2 _
    have gb : (db l).2.1 ≤ (dq l).2.1 := fnum_ge (kR (dK l).1) l _ (db l).2.2 _
    have gn : (dn l).2.1 ≤ (db l).2.1 := fnum_ge (kR (dK l).1) l _ (dn l).2.2 _
    have gL : (dL l).2.1 ≤ (dn l).2.1 := fnum_ge (kR (dK l).1) l _ (dL l).2.2 _
    have gK := dL_ge l
    have gg : (dK l).2.1 ≤ (dm l).2.1 := Nat.le_trans gK (Nat.le_trans gL (Nat.le_trans gn (Nat.le_trans gb (Nat.le_trans gq (Nat.le_trans gt gs)))))
    have h2 := rnum_read h0
    have hr := readN_ok (l.drop 0) (hb.drop 0) h2
    have hv := rnum_val (most := 6) h2
    have h3 : (dK l).2.1 = (rnum l 0 0 6).2.1 := rfl
    by_cases h4 : (readN (l.drop 0)).1 > 6
    · rw [hv, if_pos h4] at h0
      exact absurd h0 (by simp)
    · rw [hv, if_neg h4] at h3
      simp only at h3
      omega
  unfold aE
  by_cases hk : (dm l).2.1 < l.length
  · rw [if_pos hk, if_pos ⟨(dm l).2.1, hp, hk, by rw [(alike_cut hb hm (Nat.le_refl _)).err]; exact h⟩]
  · rw [if_neg hk, if_neg]
    rintro ⟨j, h1, h2, h3⟩
    have hmj : (dm (l.take j)).2.2 = 0 := by
      rcases dm_errs (l.take j) with q | q | q
      · exact q
      · unfold dE at h3
        rw [if_neg (by omega), q] at h3
        exact absurd h3 (by decide)
      · unfold dE at h3
        rw [if_neg (by omega), q] at h3
        exact absurd h3 (by decide)
    have ha := alike_pre hb hmj
    have hle : (dm (l.take j)).2.1 ≤ (l.take j).length := (ranges (hb.take j)).m.2.2
    rw [← ha.m, List.length_take] at hle
    omega
end Go.Proofs.Ytadkkhbbempaaaa

/- Walks over commands: the document's reader: Fail, Num, Small. -/
namespace Go.Proofs.Ytadkkhbbempaaaa
set_option maxRecDepth 100000
open Go.RowKit

theorem ref_Fail_any (w : World) (gr : Nat) (A : Option Addr) (n c k : Nat) (e e' : Int) (hb : Blk w gr 90 (rdCells A n c k e)) :
    Calls Try.prog 62 #[.pointer (some ⟨gr, 0, none⟩), .int .i64 e'] w fun x w' => x = .returned (.tuple #[]) ∧
      Blk w' gr 90 (rdCells A n c k (if e = 0 then e' else e)) ∧ w.grownBy w' (some gr) := by
  have hb3 : Blk w gr 90 [Value.slice A n c, .int .i64 (k : Int), .int .i64 e].toArray := hb
  have hc2 : w.cell? ⟨gr, 2, none⟩ = some (.int .i64 e) := by rw [hb3.cell]; rfl
  have f2 := hb3.frozen 2
  have HB := Lib.hid hb
  by_cases he : e = 0
  · rw [if_pos he]
    have hE : (e == 0) = true := by simp [he]
    clear he hb
    go_enter Try.func62, Try.ntmps62
    go_wp2
    go_end0
    exact ⟨rfl, hb3.setL 2 _, only_setCell (p := ⟨gr, 2, none⟩) (World.grownBy.refl w (some gr)) (.inl rfl) _⟩
  · rw [if_neg he]
    have hE : (e == 0) = false := beq_eq_false_iff_ne.2 he
    clear he hb
    go_enter Try.func62, Try.ntmps62
    go_wp2
    go_end0
    exact ⟨rfl, HB.out, World.grownBy.refl _ _⟩

set_option maxRecDepth 100000 in
set_option maxHeartbeats 4000000 in
theorem refR_Num (w : World) (gr : Nat) (A : Option Addr) (c : Nat) (lb : List Int) (k : Nat) (e : Int) (h : In8 w A c lb) (hk : k ≤ lb.length) (hb : Blk w gr 90 (rdCells A lb.length c k e)) :
    Calls Try.prog 58 #[.pointer (some ⟨gr, 0, none⟩)] w fun x w' => x = .returned (.int .u64 (rnum lb k e 18446744073709551615).1) ∧
      Blk w' gr 90 (rdCells A lb.length c (rnum lb k e 18446744073709551615).2.1 (rnum lb k e 18446744073709551615).2.2) ∧ w.grownBy w' (some gr) := by
  have hs := h.small
  have hcap := h.cap
  unfold rdCells
  unfold rdCells at hb
  obtain ⟨A', c', hcut, hin⟩ := cut8 (A := A) (c := c) hk hcap
  obtain ⟨S, hS⟩ : ∃ S, Value.slice A lb.length c = S := ⟨_, rfl⟩
  rw [hS] at hb hcut ⊢
  have HS := Lib.hid hS
  have hb3 : Blk w gr 90 [S, .int .i64 (k : Int), .int .i64 e].toArray := hb
  have hc0 : w.cell? ⟨gr, 0, none⟩ = some S := by rw [hb3.cell]; rfl
  have hc1 : w.cell? ⟨gr, 1, none⟩ = some (.int .i64 (k : Int)) := by rw [hb3.cell]; rfl
  have hc2 : w.cell? ⟨gr, 2, none⟩ = some (.int .i64 e) := by rw [hb3.cell]; rfl
  have f1 := hb3.frozen 1
  have f2 := hb3.frozen 2
  by_cases he : e = 0
  rotate_left
  · have hne : (e != 0) = true := bne_iff_ne.2 he
    have hr0 : rnum lb k e 18446744073709551615 = (0, k, e) := by
      unfold rnum
      rw [if_pos he]
    have HR := Lib.hid hr0
    clear hr0
    clear he h hS hcut hin
    go_enter Try.func58, Try.ntmps58
    go_wp2
    go_ret
    rw [HR.out]
    exact ⟨rfl, hb, World.grownBy.refl _ _⟩
  subst he
  have C1 := fun j => refReadNum_any A' c' (lb.drop k) (w.drewN j) (hin _ (h.keep (below_drewN (Below.refl _ _) j)))
  have hrok := readN_ok (lb.drop k) (h.byt.drop k)
  have hrn : rnum lb k 0 18446744073709551615 = rnum lb k 0 18446744073709551615 := rfl
  conv at hrn => rhs; unfold rnum
  rw [if_neg (by simp)] at hrn
  simp only [List.length_drop] at hcut
  simp only [List.length_drop] at C1
  obtain ⟨⟨n, kk, x⟩, hr⟩ : ∃ r, readN (lb.drop k) = r := ⟨_, rfl⟩
  rw [hr] at hrok hrn
  simp only [hr] at C1
  simp only at C1 hrok hrn
  have C1 := fun j => Lib.hid (C1 j)
  clear hr hin h hS
  by_cases hx : x = 0
  rotate_left
  · rw [if_pos hx] at hrn
    have HR := Lib.hid hrn
    have hxe : (x == 0) = false := beq_eq_false_iff_ne.2 hx
    have hxn : (x != 0) = true := bne_iff_ne.2 hx
    clear hrn hrok hx
    go_enter Try.func58, Try.ntmps58
    go_wp2_with fail
    go_quiet ((go_at_call 93; exact Calls.quiet_of_same (C1 _).out))
    have CF := ref_Fail_any (w.drewN nq) gr A lb.length c k 0 x (by rw [← HS.out] at hb; exact hb)
    rw [if_pos rfl] at CF
    have CF := Lib.hid CF
    go_wp2_with fail
    refine CF.out.mono ?_
    rintro z w5 ⟨rfl, hb5, hg5⟩
    have hb6 : Blk w5 gr 90 #[S, .int .i64 (k : Int), .int .i64 x] := by
      unfold rdCells at hb5
      rw [HS.out] at hb5
      exact hb5
    have H6 := Lib.hid hb6
    have G6 : Hid (w.grownBy w5 (some gr)) := ⟨hg5.os, hg5.tape, hg5.output, hg5.size, hg5.block⟩
    clear hb5 hg5 hb6 CF
    go_wp2
    go_ret
    rw [HR.out]
    exact ⟨rfl, H6.out, G6.out⟩
  subst hx
  obtain ⟨hk1, hk2, hk3, hn1, hn2⟩ := hrok rfl
  rw [if_neg (by simp)] at hrn
  clear hrok
  have hm : ¬ n > 18446744073709551615 := by omega
  · rw [if_neg hm] at hrn
    obtain ⟨j, rfl⟩ := Int.eq_ofNat_of_zero_le (show 0 ≤ kk by omega)
    rw [Int.toNat_natCast] at hrn
    have HR := Lib.hid hrn
    rw [List.length_drop] at hk2
    have HSUM : Hid ((k : Int) + (j : Int) = ((k + j : Nat) : Int)) := by
      show _ = _
      omega
    have hkj : (k : Int) + (j : Int) ≤ 140737488355328 := by omega
    clear hk2 hk1 hk3
    clear hrn hn1 hn2 hm
    go_enter Try.func58, Try.ntmps58
    go_wp2_with fail
    go_quiet ((go_at_call 93; exact Calls.quiet_of_same (C1 _).out))
    go_wp2
    go_ret
    rw [HR.out]
    refine ⟨rfl, ?_, only_setCell (p := ⟨gr, 1, none⟩) (only_drewN (World.grownBy.refl w (some gr)) nq) (.inl rfl) _⟩
    have := Blk.setL (hb3.drewN nq) 1 (.int .i64 ((k : Int) + (j : Int)))
    rw [HSUM.out] at this ⊢
    exact this

theorem refR_Num_err (w : World) (gr : Nat) (A : Option Addr) (n c k : Nat) (e : Int) (hb : Blk w gr 90 (rdCells A n c k e)) (he : e ≠ 0) :
    Calls Try.prog 58 #[.pointer (some ⟨gr, 0, none⟩)] w fun x w' => x = .returned (.int .u64 0) ∧ w' = w := by
  have hc2 : w.cell? ⟨gr, 2, none⟩ = some (.int .i64 e) := by rw [hb.cell]; rfl
  have hne : (e != 0) = true := bne_iff_ne.2 he
  clear he hb
  go_enter Try.func58, Try.ntmps58
  go_wp2
  go_ret
  exact ⟨rfl, rfl⟩
end Go.Proofs.Ytadkkhbbempaaaa

/- Walks over commands: the document's reader: Small, Nodes. -/
namespace Go.Proofs.Ytadkkhbbempaaaa
set_option maxRecDepth 100000
open Go.RowKit

theorem rnum_small (lb : List Int) (hb : Byt lb) (k : Nat) (e most : Int) (hm0 : 0 ≤ most) :
    ((rnum lb k e 18446744073709551615).1 > most → rnum lb k e most = (0, k, 11) ∧ (rnum lb k e 18446744073709551615).2.2 = 0) ∧
    (¬ (rnum lb k e 18446744073709551615).1 > most → rnum lb k e most = rnum lb k e 18446744073709551615) := by
  unfold rnum
  by_cases h1 : e ≠ 0
  · rw [if_pos h1, if_pos h1]
    exact ⟨fun h => by simp only at h; omega, fun _ => rfl⟩
  rw [if_neg h1, if_neg h1]
  by_cases h2 : (readN (lb.drop k)).2.2 ≠ 0
  · rw [if_pos h2, if_pos h2]
    exact ⟨fun h => by simp only at h; omega, fun _ => rfl⟩
  rw [if_neg h2, if_neg h2]
  obtain ⟨r1, r2, r3, r4, r5⟩ := readN_ok (lb.drop k) (hb.drop k) (by simpa using h2)
  have h3 : ¬ (readN (lb.drop k)).1 > 18446744073709551615 := by omega
  rw [if_neg h3]
  refine ⟨fun h => ⟨by rw [if_pos h], rfl⟩, fun h => by rw [if_neg h]⟩
/-- The document's reader (of the bytes LB, from place K on: these are lb) stands where the code's does, as long as there is no error. -/
def RS (w : World) (gr : Nat) (A : Option Addr) (c : Nat) (LB : List Int) (K : Nat) (lb : List Int) (k : Nat) (e : Int) : Prop :=
  LB.drop K = lb ∧ ∃ k', Blk w gr 90 (rdCells A LB.length c k' e) ∧ k' ≤ LB.length + 1 ∧ (e = 0 → k' = K + k ∧ k' ≤ LB.length)
theorem RS.num_le {w : World} {gr : Nat} {A : Option Addr} {c : Nat} {LB : List Int} {K : Nat} {lb : List Int} {k : Nat} {e : Int} (h : RS w gr A c LB K lb k e) (hb : Byt LB) {most : Int} (hm : 0 ≤ most) :
    0 ≤ (rnum lb k e most).1 ∧ (rnum lb k e most).1 ≤ most ∧ (rnum lb k e most).1 < 18446744073709551616 := by
  obtain ⟨hlb, k', _, _, hk⟩ := h
  by_cases he : e = 0
  · obtain ⟨h1, h2⟩ := hk he
    subst hlb
    have := rnum_le (hb.drop K) (show k ≤ (LB.drop K).length by rw [List.length_drop]; omega) e hm
    exact ⟨this.1, this.2.1, this.2.2.2⟩
  · rw [rnum_err he]
    exact ⟨Int.le_refl _, hm, by show (0 : Int) < 18446744073709551616; decide⟩
theorem refR_NumS (w : World) (gr : Nat) (A : Option Addr) (c : Nat) (LB : List Int) (K : Nat) (lb : List Int) (k : Nat) (e : Int) (h : In8 w A c LB) (hb : RS w gr A c LB K lb k e) :
    Calls Try.prog 58 #[.pointer (some ⟨gr, 0, none⟩)] w fun x w' => x = .returned (.int .u64 (rnum lb k e 18446744073709551615).1) ∧
      RS w' gr A c LB K lb (rnum lb k e 18446744073709551615).2.1 (rnum lb k e 18446744073709551615).2.2 ∧ w.grownBy w' (some gr) := by
  obtain ⟨hlb, k', hb, hkl, hk⟩ := hb
  by_cases he : e = 0
  · subst he
    obtain ⟨rfl, hle⟩ := hk rfl
    have sh := rnum_shift LB K k 0 18446744073709551615
    have hl := rnum_le h.byt hle 0 (most := 18446744073709551615) (by decide)
    have C := refR_Num w gr A c LB (K + k) 0 h hle hb
    rw [hlb] at sh
    rw [sh] at C hl
    exact C.mono fun x w' ⟨h1, h2, h3⟩ => ⟨h1, ⟨hlb, _, h2, Nat.le_succ_of_le hl.2.2.1, fun _ => ⟨rfl, hl.2.2.1⟩⟩, h3⟩
  · rw [rnum_err he]
    exact (refR_Num_err w gr A LB.length c k' e hb he).mono fun x w' ⟨h1, h2⟩ => ⟨h1, by rw [h2]; exact ⟨hlb, k', hb, hkl, fun h0 => absurd h0 he⟩, by rw [h2]; exact World.grownBy.refl _ _⟩

set_option maxRecDepth 100000 in
set_option maxHeartbeats 4000000 in
theorem refR_Small (w : World) (gr : Nat) (A : Option Addr) (c : Nat) (LB : List Int) (K : Nat) (lb : List Int) (k : Nat) (e : Int) (most : Nat) (hmost : most ≤ 65535) (h : In8 w A c LB) (hb : RS w gr A c LB K lb k e) :
    Calls Try.prog 59 #[.pointer (some ⟨gr, 0, none⟩), .int .i64 most] w fun x w' => x = .returned (.int .i64 (rnum lb k e most).1) ∧
      RS w' gr A c LB K lb (rnum lb k e most).2.1 (rnum lb k e most).2.2 ∧ w.grownBy w' (some gr) := by
  have C1 := refR_NumS w gr A c LB K lb k e h hb
  obtain ⟨s1, s2⟩ := rnum_small lb (hb.1 ▸ h.byt.drop K) k e most (by omega)
  have hle : 0 ≤ (rnum lb k e 18446744073709551615).1 ∧ (rnum lb k e 18446744073709551615).1 < 18446744073709551616 := by
    have := hb.num_le h.byt (most := 18446744073709551615) (by decide)
    exact ⟨this.1, this.2.2⟩
  obtain ⟨⟨v, k1, e1⟩, hr⟩ : ∃ r, rnum lb k e 18446744073709551615 = r := ⟨_, rfl⟩
  rw [hr] at C1 s1 s2 hle
  simp only at C1 s1 s2 hle
  have C1 := Lib.hid C1
  have wm : IntKind.u64.wrap (most : Int) = (most : Int) := by simp [IntKind.wrap_u64]; omega
  clear hb h hr
  by_cases hv : v > most
  · obtain ⟨t1, t2⟩ := s1 hv
    rw [t1]
    subst t2
    have hd : decide (v > (most : Int)) = true := decide_eq_true hv
    clear s1 s2 t1 hv hle
    go_enter Try.func59, Try.ntmps59
    go_wp2_with fail
    refine C1.out.mono ?_
    rintro x w1 ⟨rfl, ⟨hlb, k', hb1, hk1, hl1⟩, hg1⟩
    have CF := ref_Fail_any w1 gr A LB.length c k' 0 11 hb1
    rw [if_pos rfl] at CF
    have CF := Lib.hid CF
    have HG := Lib.hid hg1
    have HLB := Lib.hid hlb
    clear hb1 hg1 hl1 hlb
    go_wp2_with fail
    refine CF.out.mono ?_
    rintro x w2 ⟨rfl, hb2, hg2⟩
    have HB2 := Lib.hid hb2
    have HG2 : Hid (w.grownBy w2 (some gr)) := World.grownBy.trans HG.out hg2
    clear hb2 hg2
    go_wp2
    go_ret
    exact ⟨rfl, ⟨HLB.out, k', HB2.out, hk1, fun h => absurd h (by decide)⟩, HG2.out⟩
  · rw [s2 hv]
    have hd : decide (v > (most : Int)) = false := decide_eq_false hv
    have wv : IntKind.i64.wrap v = v := by simp [IntKind.wrap_i64]; omega
    clear s1 s2 hv hle
    go_enter Try.func59, Try.ntmps59
    go_wp2_with fail
    refine C1.out.mono ?_
    rintro x w1 ⟨rfl, hrs, hg1⟩
    have HRS := Lib.hid hrs
    have HG := Lib.hid hg1
    clear hrs hg1
    go_wp2
    go_ret
    exact ⟨rfl, HRS.out, HG.out⟩
theorem RS.lt {w : World} {gr : Nat} {A : Option Addr} {c : Nat} {LB : List Int} {K : Nat} {lb : List Int} {k : Nat} {e : Int} (h : RS w gr A c LB K lb k e) : gr < w.heap.size := by
  obtain ⟨_, k', hb, _⟩ := h
  exact hb.lt
theorem RS.below {w w1 : World} {gr : Nat} {A : Option Addr} {c : Nat} {LB : List Int} {K : Nat} {lb : List Int} {k : Nat} {e : Int} (h : RS w gr A c LB K lb k e) {B : Nat} (hb : Below B w w1) (hg : gr < B) : RS w1 gr A c LB K lb k e := by
  obtain ⟨hl, k', h1, h2⟩ := h
  exact ⟨hl, k', h1.below hb hg, h2⟩
theorem RS.err {w : World} {gr : Nat} {A : Option Addr} {c : Nat} {LB : List Int} {K : Nat} {lb : List Int} {k k2 : Nat} {e : Int} (h : RS w gr A c LB K lb k e) (he : e ≠ 0) : RS w gr A c LB K lb k2 e := by
  obtain ⟨hl, k', h1, h2, h3⟩ := h
  exact ⟨hl, k', h1, h2, fun h0 => absurd h0 he⟩
theorem RS.cell2 {w : World} {gr : Nat} {A : Option Addr} {c : Nat} {LB : List Int} {K : Nat} {lb : List Int} {k : Nat} {e : Int} (h : RS w gr A c LB K lb k e) : w.cell? ⟨gr, 2, none⟩ = some (.int .i64 e) := by
  obtain ⟨_, k', h1, _⟩ := h
  rw [h1.cell]
  rfl
theorem grown_below {w W w1 : World} {gr B : Nat} (h : w.grownBy W (some gr)) (hb : Below B W w1) (hB : w.heap.size ≤ B) : w.grownBy w1 (some gr) :=
  ⟨hb.os.trans h.os, hb.tape.trans h.tape, hb.output.trans h.output, Nat.le_trans h.size hb.size, fun i hi hne => (hb.block i (by omega)).trans (h.block i hi hne)⟩
theorem own_gr {w w1 : World} {gr B : Nat} {v : Value} {l : List Int} (h : OwnN .i64 3 w B v l) (hg : w.grownBy w1 (some gr)) (hB : gr < B) : OwnN .i64 3 w1 B v l := by
  refine World.ownsRow.kept h hg ?_
  cases hv : v.ownBlock with
  | none => exact .inl rfl
  | some i =>
    have := (World.ownsRow.lt h i hv).1
    exact .inr (fun hh => by injection hh with hh; omega)

end Go.Proofs.Ytadkkhbbempaaaa

/- Walks over commands: the document's reader reads a list. -/
namespace Go.Proofs.Ytadkkhbbempaaaa
set_option maxRecDepth 100000
open Go.RowKit

set_option maxRecDepth 100000 in
set_option maxHeartbeats 4000000 in
theorem refR_Nodes (w : World) (gr : Nat) (A : Option Addr) (c : Nat) (LB : List Int) (K : Nat) (lb : List Int) (k : Nat) (e : Int) (h : ∀ W, w.grownBy W (some gr) → In8 W A c LB) (hb : RS w gr A c LB K lb k e)
    (L : List Int) (k2 : Nat) (e2 : Int) (hd : decNodes lb (rnum lb k e 7).1.toNat (rnum lb k e 7).2.1 (rnum lb k e 7).2.2 = (L, k2, e2)) :
    Calls Try.prog 94 #[.pointer (some ⟨gr, 0, none⟩)] w fun x w' => ∃ v L', x = .returned v ∧ OwnN .i64 3 w' w.heap.size v L' ∧ L'.length ≤ 7 ∧ Wfs .i64 L' ∧ (e2 = 0 → L' = L) ∧
      RS w' gr A c LB K lb k2 e2 ∧ w.grownBy w' (some gr) := by
  have HIN := Lib.hid h
  have hbyt := (h w (World.grownBy.refl _ _)).byt
  have hgr := hb.lt
  have C1 := refR_Small w gr A c LB K lb k e 7 (by omega) (h w (World.grownBy.refl _ _)) hb
  have hle : 0 ≤ (rnum lb k e 7).1 ∧ (rnum lb k e 7).1 ≤ 7 := by
    have := hb.num_le hbyt (most := 7) (by decide)
    exact ⟨this.1, this.2.1⟩
  obtain ⟨⟨cnt, k1, e1⟩, hr⟩ : ∃ r, rnum lb k e 7 = r := ⟨_, rfl⟩
  have e7 : ((7 : Nat) : Int) = 7 := rfl
  rw [e7] at C1
  rw [hr] at C1 hle hd
  simp only at C1 hle hd
  obtain ⟨cn, rfl⟩ := Int.eq_ofNat_of_zero_le hle.1
  rw [Int.toNat_natCast] at hd
  have HD := Lib.hid hd
  have C1 := Lib.hid C1
  have hcn : cn ≤ 7 := by omega
  obtain ⟨B, hB⟩ : ∃ B, w.heap.size = B := ⟨_, rfl⟩
  rw [hB]
  rw [hB] at hgr
  have HB := Lib.hid hB
  clear hb h hr hd hle hB e7
  go_enter Try.func94, Try.ntmps94
  go_wp2_with fail
  refine C1.out.mono ?_
  rintro x w1 ⟨rfl, hrs, hg1⟩
  have HRS := Lib.hid hrs
  have HG := Lib.hid hg1
  have hnil : OwnN .i64 3 w1 B (.slice none 0 0) [] := own_nil _ _ _ _
  have HN := Lib.hid hnil
  clear hrs hg1 C1 hnil
  go_wp2_with fail
  go_loopw [3, 4, 5] (fun out kk z wr => ∃ (rem : Nat) (Lj : List Int) (kj : Nat) (ej : Int), kk = .int .i64 (rem : Int) ∧ rem ≤ cn ∧ Lj.length + rem = cn ∧ Wfs .i64 Lj ∧ OwnN .i64 3 wr B out Lj ∧ RS wr gr A c LB K lb kj ej ∧ w.grownBy wr (some gr) ∧ (L, k2, e2) = (Lj ++ (decNodes lb rem kj ej).1, (decNodes lb rem kj ej).2)) (fun _ kk _ _ => (intOf kk).toNat)
  case atStart => exact ⟨cn, [], k1, e1, rfl, by omega, by simp, Wfs.nil _, HN.out, HRS.out, HG.out, by rw [HD.out]; simp⟩
  case round =>
    clear HN HRS HG
    obtain ⟨rem, Lj, kj, ej, rfl, hrem, hlen, hwf, hown, hrs, hg, heq⟩ := hrel
    have HWF := Lib.hid hwf
    have HO := Lib.hid hown
    have HRS := Lib.hid hrs
    have HG := Lib.hid hg
    have HEQ := Lib.hid heq
    have r2 := hrs.cell2
    have HLEN := Lib.hid hlen
    clear hwf hown hrs hg heq hlen
    cases rem with
    | zero =>
      have hgt : decide (((0 : Nat) : Int) > 0) = false := by decide
      have hfin := HEQ.out
      simp only [decNodes, List.append_nil, Prod.mk.injEq] at hfin
      have HF := Lib.hid hfin
      clear hfin
      go_wp2
      go_ret
      refine ⟨_, Lj, rfl, HO.out, by have := HLEN.out; omega, HWF.out, fun _ => HF.out.1.symm, ?_, HG.out⟩
      rw [HF.out.2.1, HF.out.2.2]
      exact HRS.out
    | succ rem =>
      have hgt : decide (((rem + 1 : Nat) : Int) > 0) = true := decide_eq_true (by omega)
      by_cases he : ej = 0
      · have hE : (ej == 0) = true := by simp [he]
        have HE := Lib.hid he
        clear he
        have C2 := refR_Small wr gr A c LB K lb kj ej 65535 (by omega) (HIN.out _ HG.out) HRS.out
        have hb7 : 0 ≤ (rnum lb kj ej 65535).1 ∧ (rnum lb kj ej 65535).1 ≤ 65535 := by
          have := HRS.out.num_le hbyt (most := 65535) (by decide)
          exact ⟨this.1, this.2.1⟩
        have hdd : decNodes lb (rem + 1) kj ej = ((rnum lb kj ej 65535).1 :: (decNodes lb rem (rnum lb kj ej 65535).2.1 (rnum lb kj ej 65535).2.2).1, (decNodes lb rem (rnum lb kj ej 65535).2.1 (rnum lb kj ej 65535).2.2).2) := rfl
        have e6 : ((65535 : Nat) : Int) = 65535 := rfl
        rw [e6] at C2
        obtain ⟨⟨v7, k7, e7⟩, hr7⟩ : ∃ r, rnum lb kj ej 65535 = r := ⟨_, rfl⟩
        rw [hr7] at C2 hb7 hdd
        simp only at C2 hb7 hdd
        have C2 := Lib.hid C2
        have HDD := Lib.hid hdd
        have HV := Lib.hid hb7
        clear hr7 hdd hb7 e6
        go_wp2_with fail
        refine C2.out.mono ?_
        rintro x w5 ⟨rfl, hrs5, hg5⟩
        have hO5 := own_gr HO.out hg5 hgr
        have HO5 := Lib.hid hO5
        have HR5 := Lib.hid hrs5
        have HG5 : Hid (w.grownBy w5 (some gr)) := World.grownBy.trans HG.out hg5
        have hsz5 : B ≤ w5.heap.size := by have := HG5.out.size; have := HB.out; omega
        clear r2 hO5 hrs5 hg5
        go_wp2_with (at_builtin; refine app_litsI (w0 := w5) B rfl _ _ rfl _ Lj [v7] rfl rfl rfl HO5.out (Below.refl _ _) hsz5 (by have := HLEN.out; simp; omega) ?_; intro v8 w8 ho8 hB8; have HO8 := Lib.hid ho8; have HB8 := Lib.hid hB8; clear ho8 hB8)
        go_roundw
        case rel =>
          refine ⟨rem, Lj ++ [v7], k7, e7, by go_num, by omega, by have := HLEN.out; simp; omega, HWF.out.app (fun z hz => ?_), HO8.out, HR5.out.below HB8.out hgr, grown_below HG5.out HB8.out (by have := HB.out; omega), by rw [HEQ.out, HDD.out]; simp⟩
          simp only [List.mem_singleton] at hz
          subst hz
          have := HV.out
          exact wf_i64_of (by omega) (by omega)
        case measure => simp [intOf]
      · have hE : (ej == 0) = false := beq_eq_false_iff_ne.2 he
        have hfin := HEQ.out
        have h2 := decNodes_err (lb := lb) he (rem + 1) kj
        simp only [Prod.mk.injEq] at hfin
        have HF : Hid (e2 = ej) := by
          show _ = _
          rw [← h2, ← hfin.2]
        have HE := Lib.hid he
        clear hfin h2 he
        go_wp2
        go_ret
        refine ⟨_, Lj, rfl, HO.out, by have := HLEN.out; omega, HWF.out, fun h0 => absurd (HF.out ▸ h0) HE.out, ?_, HG.out⟩
        rw [HF.out]
        exact HRS.out.err HE.out
end Go.Proofs.Ytadkkhbbempaaaa

/- Walks over commands: what the document's reader reads, letter by letter (plain), and what stands in memory while it reads. -/
namespace Go.Proofs.Ytadkkhbbempaaaa
set_option maxRecDepth 100000
open Go.RowKit

/-- What has been read. -/
structure FS where
  n : Int
  t : Int
  l : List Int
  b : Int
  q : Int
  s : Int
  m : Int
  k : Nat
  e : Int
/-- A letter's field is read. -/
def fstep (lb : List Int) : FS → Int → FS
  | ⟨n, t, l, b, q, s, m, k, e⟩, x =>
    if x = 108 then ⟨n, t, (decNodes lb (rnum lb k e 7).1.toNat (rnum lb k e 7).2.1 (rnum lb k e 7).2.2).1, b, q, s, m, (decNodes lb (rnum lb k e 7).1.toNat (rnum lb k e 7).2.1 (rnum lb k e 7).2.2).2.1, (decNodes lb (rnum lb k e 7).1.toNat (rnum lb k e 7).2.1 (rnum lb k e 7).2.2).2.2⟩
    else if x = 110 then ⟨(rnum lb k e 65535).1, t, l, b, q, s, m, (rnum lb k e 65535).2.1, (rnum lb k e 65535).2.2⟩
    else if x = 116 then ⟨n, (rnum lb k e 65535).1, l, b, q, s, m, (rnum lb k e 65535).2.1, (rnum lb k e 65535).2.2⟩
    else if x = 98 then ⟨n, t, l, (rnum lb k e 18446744073709551615).1, q, s, m, (rnum lb k e 18446744073709551615).2.1, (rnum lb k e 18446744073709551615).2.2⟩
    else if x = 113 then ⟨n, t, l, b, (rnum lb k e 18446744073709551615).1, s, m, (rnum lb k e 18446744073709551615).2.1, (rnum lb k e 18446744073709551615).2.2⟩
    else if x = 115 then ⟨n, t, l, b, q, (rnum lb k e 18446744073709551615).1, m, (rnum lb k e 18446744073709551615).2.1, (rnum lb k e 18446744073709551615).2.2⟩
    else ⟨n, t, l, b, q, s, (rnum lb k e 18446744073709551615).1, (rnum lb k e 18446744073709551615).2.1, (rnum lb k e 18446744073709551615).2.2⟩
def finC (lb : List Int) : FS := (bytes (fld (dK lb).1)).foldl (fstep lb) ⟨0, 0, [], 0, 0, 0, 0, (dK lb).2.1, (dK lb).2.2⟩
theorem fin_eq (lb : List Int) : finC lb = ⟨(dn lb).1, (dt lb).1, (dL lb).1, (db lb).1, (dq lb).1, (ds lb).1, (dm lb).1, (dm lb).2.1, (dm lb).2.2⟩ := by
  unfold finC dm ds dt dq db dn dL
  obtain ⟨⟨kd, k, e⟩, h⟩ : ∃ r, dK lb = r := ⟨_, rfl⟩
  simp only [h]
  rcases kinds kd with rfl | rfl | rfl | rfl | rfl | rfl | ⟨h1, h2, h3, h4, h5, h6⟩
  case inr.inr.inr.inr.inr.inr =>
    have e1 : bytes (fld kd) = [] := by simp [fld, h2, h3, h4, h5, h6, bytes]
    have e2 : kN kd = false := by simp [kN]; omega
    have e3 : kR kd = false := by simp [kR]; omega
    have e4 : kT kd = false := by simp [kT]; omega
    have e5 : kS kd = false := by simp [kS]; omega
    rw [e1, e2, e3, e4, e5]
    rfl
  case inl =>
    rw [show bytes (fld 1) = [] from rfl, show kN 1 = false from rfl, show kR 1 = false from rfl, show kT 1 = false from rfl, show kS 1 = false from rfl]
    rfl
  case inr.inl =>
    rw [show bytes (fld 2) = [108] from rfl, show kN 2 = true from rfl, show kR 2 = false from rfl, show kT 2 = false from rfl, show kS 2 = false from rfl]
    rfl
  case inr.inr.inl =>
    rw [show bytes (fld 3) = [110, 98, 113] from rfl, show kN 3 = false from rfl, show kR 3 = true from rfl, show kT 3 = false from rfl, show kS 3 = false from rfl]
    rfl
  case inr.inr.inr.inl =>
    rw [show bytes (fld 4) = [110, 98, 113, 116, 115] from rfl, show kN 4 = false from rfl, show kR 4 = true from rfl, show kT 4 = true from rfl, show kS 4 = false from rfl]
    rfl
  case inr.inr.inr.inr.inl =>
    rw [show bytes (fld 5) = [110, 98, 113, 116, 115] from rfl, show kN 5 = false from rfl, show kR 5 = true from rfl, show kT 5 = true from rfl, show kS 5 = false from rfl]
    rfl
  case inr.inr.inr.inr.inr.inl =>
    rw [show bytes (fld 6) = [116, 115, 109] from rfl, show kN 6 = false from rfl, show kR 6 = false from rfl, show kT 6 = true from rfl, show kS 6 = true from rfl]
    rfl

/-! ### In memory -/
structure OR (w : World) (gr g gc gb : Nat) : Prop where
  h1 : gr < g
  h2 : g < gc
  h3 : gc < gb
  hg : w.heap.size = g
structure SR (w : World) (gr g gc gb : Nat) (fl : List Int) (A : Option Addr) (c : Nat) (LB : List Int) (K : Nat) (lb : List Int) (wx : World) (kind n t : Int) (sl : Value) (L l : List Int) (b q s m : Int) (k : Nat) (e : Int) : Prop where
  res : Blk wx g 44 (cmdCells 0 0 0 (.slice none 0 0) 0 0 0 0)
  rd : RS wx gr A c LB K lb k e
  cm : Blk wx gc 44 (cmdCells kind n t sl b q s m)
  lets : ∀ j (hj : j < fl.length), wx.cell? ⟨gb, j, none⟩ = some (.int .u8 fl[j])
  grow : w.grownBy wx (some gr)
  own : OwnN .i64 3 wx gb sl L
  len : L.length ≤ 7
  wf : Wfs .i64 L
  eq : e = 0 → L = l
  ltb : gb < wx.heap.size

section
variable {w : World} {gr g gc gb : Nat} {fl : List Int} {A : Option Addr} {c : Nat} {LB : List Int} {K : Nat} {lb : List Int} {wx : World} {kind n t : Int} {sl : Value} {L l : List Int} {b q s m : Int} {k : Nat} {e : Int}
/-- Behind a call that has only the reader's cells and new blocks. -/
theorem SR.call (h : SR w gr g gc gb fl A c LB K lb wx kind n t sl L l b q s m k e) (o : OR w gr g gc gb) {w1 : World} {k1 : Nat} {e1 : Int} (hr : RS w1 gr A c LB K lb k1 e1) (hg : wx.grownBy w1 (some gr)) (h0 : e1 = 0 → e = 0) :
    SR w gr g gc gb fl A c LB K lb w1 kind n t sl L l b q s m k1 e1 := by
  have o1 := o.h1
  have o2 := o.h2
  have o3 := o.h3
  have hne : ∀ i, i ≠ gr → some i ≠ some gr := fun i hi hh => hi (by injection hh)
  exact ⟨h.res.grown hg (hne _ (by omega)), hr, h.cm.grown hg (hne _ (by omega)), fun j hj => (World.cell?_of_block (hg.block gb h.ltb (hne _ (by omega)))).trans (h.lets j hj), World.grownBy.trans h.grow hg,
    own_gr h.own hg (by omega), h.len, h.wf, fun he => h.eq (h0 he), Nat.lt_of_lt_of_le h.ltb hg.size⟩
theorem SR.num (h : SR w gr g gc gb fl A c LB K lb wx kind n t sl L l b q s m k e) (o : OR w gr g gc gb) (hI : ∀ W, w.grownBy W (some gr) → In8 W A c LB) :
    Calls Try.prog 58 #[.pointer (some ⟨gr, 0, none⟩)] wx fun x w' => x = .returned (.int .u64 (rnum lb k e 18446744073709551615).1) ∧
      SR w gr g gc gb fl A c LB K lb w' kind n t sl L l b q s m (rnum lb k e 18446744073709551615).2.1 (rnum lb k e 18446744073709551615).2.2 :=
  (refR_NumS wx gr A c LB K lb k e (hI _ h.grow) h.rd).mono fun _ _ ⟨hx, hr, hg⟩ => ⟨hx, h.call o hr hg rnum_zero⟩
theorem SR.small (h : SR w gr g gc gb fl A c LB K lb wx kind n t sl L l b q s m k e) (o : OR w gr g gc gb) (hI : ∀ W, w.grownBy W (some gr) → In8 W A c LB) :
    Calls Try.prog 59 #[.pointer (some ⟨gr, 0, none⟩), .int .i64 65535] wx fun x w' => x = .returned (.int .i64 (rnum lb k e 65535).1) ∧
      SR w gr g gc gb fl A c LB K lb w' kind n t sl L l b q s m (rnum lb k e 65535).2.1 (rnum lb k e 65535).2.2 := by
  have C := refR_Small wx gr A c LB K lb k e 65535 (by omega) (hI _ h.grow) h.rd
  have e6 : ((65535 : Nat) : Int) = 65535 := rfl
  rw [e6] at C
  exact C.mono fun x w' ⟨hx, hr, hg⟩ => ⟨hx, h.call o hr hg rnum_zero⟩
theorem SR.nodes (h : SR w gr g gc gb fl A c LB K lb wx kind n t sl L l b q s m k e) (o : OR w gr g gc gb) (hI : ∀ W, w.grownBy W (some gr) → In8 W A c LB) {l2 : List Int} {k2 : Nat} {e2 : Int}
    (hd : decNodes lb (rnum lb k e 7).1.toNat (rnum lb k e 7).2.1 (rnum lb k e 7).2.2 = (l2, k2, e2)) :
    Calls Try.prog 94 #[.pointer (some ⟨gr, 0, none⟩)] wx fun x w' => ∃ v L', x = .returned v ∧ OwnN .i64 3 w' gb v L' ∧ L'.length ≤ 7 ∧ Wfs .i64 L' ∧ (e2 = 0 → L' = l2) ∧
      SR w gr g gc gb fl A c LB K lb w' kind n t sl L l b q s m k2 e2 :=
  (refR_Nodes wx gr A c LB K lb k e (fun W hW => hI W (World.grownBy.trans h.grow hW)) h.rd l2 k2 e2 hd).mono fun x w' ⟨v, L', hx, h1, h2, h3, h4, hr, hg⟩ =>
    ⟨v, L', hx, own_lower h1 (Nat.le_of_lt h.ltb), h2, h3, h4, h.call o hr hg fun h0 => rnum_zero (decNodes_zero (by rw [hd]; exact h0))⟩
theorem SR.setc (h : SR w gr g gc gb fl A c LB K lb wx kind n t sl L l b q s m k e) (o : OR w gr g gc gb) (j : Nat) (u : Value) {cs : Array Value} (hcs : ([Value.int .i64 kind, .int .i64 n, .int .i64 t, sl, .int .u64 b, .int .u64 q, .int .u64 s, .int .u64 m].set j u).toArray = cs)
    {v : Value} {L' : List Int} (ho : OwnN .i64 3 wx gb v L') :
    Blk (wx.setCell ⟨gc, j, none⟩ u) g 44 (cmdCells 0 0 0 (.slice none 0 0) 0 0 0 0) ∧ RS (wx.setCell ⟨gc, j, none⟩ u) gr A c LB K lb k e ∧
    Blk (wx.setCell ⟨gc, j, none⟩ u) gc 44 cs ∧ (∀ j' (hj : j' < fl.length), (wx.setCell ⟨gc, j, none⟩ u).cell? ⟨gb, j', none⟩ = some (.int .u8 fl[j'])) ∧
    w.grownBy (wx.setCell ⟨gc, j, none⟩ u) (some gr) ∧ OwnN .i64 3 (wx.setCell ⟨gc, j, none⟩ u) gb v L' ∧ gb < (wx.setCell ⟨gc, j, none⟩ u).heap.size := by
  have o1 := o.h1
  have o2 := o.h2
  have o3 := o.h3
  have o4 := o.hg
  have hgr : wx.grownBy (wx.setCell ⟨gc, j, none⟩ u) (some gc) := only_setCell (p := ⟨gc, j, none⟩) (World.grownBy.refl wx (some gc)) (.inl rfl) u
  have hne : ∀ i, i ≠ gc → some i ≠ some gc := fun i hi hh => hi (by injection hh)
  subst hcs
  refine ⟨h.res.grown hgr (hne _ (by omega)), ?_, Blk.setL (l := [Value.int .i64 kind, .int .i64 n, .int .i64 t, sl, .int .u64 b, .int .u64 q, .int .u64 s, .int .u64 m]) h.cm j u, fun j' hj => (World.cell?_of_block (hgr.block gb h.ltb (hne _ (by omega)))).trans (h.lets j' hj),
    ⟨hgr.os.trans h.grow.os, hgr.tape.trans h.grow.tape, hgr.output.trans h.grow.output, Nat.le_trans h.grow.size hgr.size, fun i hi hn => (hgr.block i (Nat.lt_of_lt_of_le hi h.grow.size) (hne _ (by omega))).trans (h.grow.block i hi hn)⟩,
    own_gr ho hgr (by omega), Nat.lt_of_lt_of_le h.ltb hgr.size⟩
  obtain ⟨hl, k', h1, h2⟩ := h.rd
  exact ⟨hl, k', h1.grown hgr (hne _ (by omega)), h2⟩
theorem SR.set0 (h : SR w gr g gc gb fl A c LB K lb wx kind n t sl L l b q s m k e) (o : OR w gr g gc gb) (u : Int) : SR w gr g gc gb fl A c LB K lb (wx.setCell ⟨gc, 0, none⟩ (.int .i64 u)) u n t sl L l b q s m k e := by
  obtain ⟨a1, a2, a3, a4, a5, a6, a7⟩ := h.setc o 0 (.int .i64 u) rfl h.own; exact ⟨a1, a2, a3, a4, a5, a6, h.len, h.wf, h.eq, a7⟩
theorem SR.set1 (h : SR w gr g gc gb fl A c LB K lb wx kind n t sl L l b q s m k e) (o : OR w gr g gc gb) (u : Int) : SR w gr g gc gb fl A c LB K lb (wx.setCell ⟨gc, 1, none⟩ (.int .i64 u)) kind u t sl L l b q s m k e := by
  obtain ⟨a1, a2, a3, a4, a5, a6, a7⟩ := h.setc o 1 (.int .i64 u) rfl h.own; exact ⟨a1, a2, a3, a4, a5, a6, h.len, h.wf, h.eq, a7⟩
theorem SR.set2 (h : SR w gr g gc gb fl A c LB K lb wx kind n t sl L l b q s m k e) (o : OR w gr g gc gb) (u : Int) : SR w gr g gc gb fl A c LB K lb (wx.setCell ⟨gc, 2, none⟩ (.int .i64 u)) kind n u sl L l b q s m k e := by
  obtain ⟨a1, a2, a3, a4, a5, a6, a7⟩ := h.setc o 2 (.int .i64 u) rfl h.own; exact ⟨a1, a2, a3, a4, a5, a6, h.len, h.wf, h.eq, a7⟩
theorem SR.set3 (h : SR w gr g gc gb fl A c LB K lb wx kind n t sl L l b q s m k e) (o : OR w gr g gc gb) {v : Value} {L' l2 : List Int} (ho : OwnN .i64 3 wx gb v L') (hl : L'.length ≤ 7) (hw : Wfs .i64 L') (he : e = 0 → L' = l2) :
    SR w gr g gc gb fl A c LB K lb (wx.setCell ⟨gc, 3, none⟩ v) kind n t v L' l2 b q s m k e := by
  obtain ⟨a1, a2, a3, a4, a5, a6, a7⟩ := h.setc o 3 v rfl ho; exact ⟨a1, a2, a3, a4, a5, a6, hl, hw, he, a7⟩
theorem SR.set4 (h : SR w gr g gc gb fl A c LB K lb wx kind n t sl L l b q s m k e) (o : OR w gr g gc gb) (u : Int) : SR w gr g gc gb fl A c LB K lb (wx.setCell ⟨gc, 4, none⟩ (.int .u64 u)) kind n t sl L l u q s m k e := by
  obtain ⟨a1, a2, a3, a4, a5, a6, a7⟩ := h.setc o 4 (.int .u64 u) rfl h.own; exact ⟨a1, a2, a3, a4, a5, a6, h.len, h.wf, h.eq, a7⟩
theorem SR.set5 (h : SR w gr g gc gb fl A c LB K lb wx kind n t sl L l b q s m k e) (o : OR w gr g gc gb) (u : Int) : SR w gr g gc gb fl A c LB K lb (wx.setCell ⟨gc, 5, none⟩ (.int .u64 u)) kind n t sl L l b u s m k e := by
  obtain ⟨a1, a2, a3, a4, a5, a6, a7⟩ := h.setc o 5 (.int .u64 u) rfl h.own; exact ⟨a1, a2, a3, a4, a5, a6, h.len, h.wf, h.eq, a7⟩
theorem SR.set6 (h : SR w gr g gc gb fl A c LB K lb wx kind n t sl L l b q s m k e) (o : OR w gr g gc gb) (u : Int) : SR w gr g gc gb fl A c LB K lb (wx.setCell ⟨gc, 6, none⟩ (.int .u64 u)) kind n t sl L l b q u m k e := by
  obtain ⟨a1, a2, a3, a4, a5, a6, a7⟩ := h.setc o 6 (.int .u64 u) rfl h.own; exact ⟨a1, a2, a3, a4, a5, a6, h.len, h.wf, h.eq, a7⟩
theorem SR.set7 (h : SR w gr g gc gb fl A c LB K lb wx kind n t sl L l b q s m k e) (o : OR w gr g gc gb) (u : Int) : SR w gr g gc gb fl A c LB K lb (wx.setCell ⟨gc, 7, none⟩ (.int .u64 u)) kind n t sl L l b q s u k e := by
  obtain ⟨a1, a2, a3, a4, a5, a6, a7⟩ := h.setc o 7 (.int .u64 u) rfl h.own; exact ⟨a1, a2, a3, a4, a5, a6, h.len, h.wf, h.eq, a7⟩
end
end Go.Proofs.Ytadkkhbbempaaaa

/- Walks over commands: the document's reader reads a command. -/
namespace Go.Proofs.Ytadkkhbbempaaaa
set_option maxRecDepth 100000
open Go.RowKit

theorem grown_out {w wx w1 : World} {gr g : Nat} (h : w.grownBy wx (some gr)) (hb : wx.grownBy w1 (some g)) (hg : w.heap.size ≤ g) : w.grownBy w1 (some gr) :=
  ⟨hb.os.trans h.os, hb.tape.trans h.tape, hb.output.trans h.output, Nat.le_trans h.size hb.size, fun i hi hn => (hb.block i (Nat.lt_of_lt_of_le hi h.size) (fun hh => by injection hh with hh; omega)).trans (h.block i hi hn)⟩
theorem RS.far {w w1 : World} {gr g : Nat} {A : Option Addr} {c : Nat} {LB : List Int} {K : Nat} {lb : List Int} {k : Nat} {e : Int} (h : RS w gr A c LB K lb k e) (hb : w.grownBy w1 (some g)) (hg : gr ≠ g) : RS w1 gr A c LB K lb k e := by
  obtain ⟨hl, k', h1, h2⟩ := h
  exact ⟨hl, k', h1.grown hb (fun hh => hg (by injection hh)), h2⟩
theorem grown_set8 (w : World) (g : Nat) (u0 u1 u2 u3 u4 u5 u6 u7 : Value) :
    w.grownBy ((((((((w.setCell ⟨g, 0, none⟩ u0).setCell ⟨g, 1, none⟩ u1).setCell ⟨g, 2, none⟩ u2).setCell ⟨g, 3, none⟩ u3).setCell ⟨g, 4, none⟩ u4).setCell ⟨g, 5, none⟩ u5).setCell ⟨g, 6, none⟩ u6).setCell ⟨g, 7, none⟩ u7) (some g) := by
  refine only_setCell (only_setCell (only_setCell (only_setCell (only_setCell (only_setCell (only_setCell (only_setCell (World.grownBy.refl _ _) ?_ _) ?_ _) ?_ _) ?_ _) ?_ _) ?_ _) ?_ _) ?_ _
  all_goals exact .inl rfl

set_option maxRecDepth 100000 in
set_option maxHeartbeats 8000000 in
theorem refR_Cmd (w : World) (gr : Nat) (A : Option Addr) (c : Nat) (LB : List Int) (K : Nat) (lb : List Int) (h : ∀ W, w.grownBy W (some gr) → In8 W A c LB) (hb : RS w gr A c LB K lb 0 0) :
    Calls Try.prog 60 #[.pointer (some ⟨gr, 0, none⟩)] w fun x w' => ∃ v L', x = .returned (cmdV (dK lb).1 (finC lb).n (finC lb).t v (finC lb).b (finC lb).q (finC lb).s (finC lb).m) ∧
      OwnN .i64 3 w' w.heap.size v L' ∧ L'.length ≤ 7 ∧ Wfs .i64 L' ∧ ((finC lb).e = 0 → L' = (finC lb).l) ∧ RS w' gr A c LB K lb (finC lb).k (finC lb).e ∧ w.grownBy w' (some gr) := by
  have HIN := Lib.hid h
  have hbyt := (h w (World.grownBy.refl _ _)).byt
  have hlt0 := hb.lt
  obtain ⟨g, hg⟩ : ∃ g, w.heap.size = g := ⟨_, rfl⟩
  rw [hg]
  obtain ⟨gc, hgc⟩ : ∃ gc, g + 1 = gc := ⟨_, rfl⟩
  have hBx : Below g w ((w.alloc (.cells (cmdCells 0 0 0 (.slice none 0 0) 0 0 0 0) 44)).alloc (.cells (cmdCells 0 0 0 (.slice none 0 0) 0 0 0 0) 44)) := ((Below.refl _ _).alloc (by omega) _).alloc (by simp; omega) _
  have hs1 : (w.alloc (.cells (cmdCells 0 0 0 (.slice none 0 0) 0 0 0 0) 44)).heap.size = gc := by simp [hg, hgc]
  have hb1 : Blk ((w.alloc (.cells (cmdCells 0 0 0 (.slice none 0 0) 0 0 0 0) 44)).alloc (.cells (cmdCells 0 0 0 (.slice none 0 0) 0 0 0 0) 44)) g 44 (cmdCells 0 0 0 (.slice none 0 0) 0 0 0 0) := (hg ▸ Blk.new w 44 (cmdCells 0 0 0 (.slice none 0 0) 0 0 0 0) : Blk (w.alloc (.cells (cmdCells 0 0 0 (.slice none 0 0) 0 0 0 0) 44)) g 44 (cmdCells 0 0 0 (.slice none 0 0) 0 0 0 0)).alloc _
  have hc1 : Blk ((w.alloc (.cells (cmdCells 0 0 0 (.slice none 0 0) 0 0 0 0) 44)).alloc (.cells (cmdCells 0 0 0 (.slice none 0 0) 0 0 0 0) 44)) gc 44 (cmdCells 0 0 0 (.slice none 0 0) 0 0 0 0) := hs1 ▸ Blk.new _ _ _
  have hz1 : ((w.alloc (.cells (cmdCells 0 0 0 (.slice none 0 0) 0 0 0 0) 44)).alloc (.cells (cmdCells 0 0 0 (.slice none 0 0) 0 0 0 0) 44)).heap.size = g + 2 := by simp [hg]
  have hr1 := hb.below hBx (by omega)
  have hG1 := only_of_below (hg ▸ hBx) (some gr)
  obtain ⟨F, hF⟩ : ∃ F, finC lb = F := ⟨_, rfl⟩
  rw [hF]
  have HF := Lib.hid hF
  clear hF hs1 hBx h hb
  go_enter Try.func60, Try.ntmps60
  go_upto_region 2 with (fail)
  change Code.wp _ _ _ _ ((w.alloc (.cells (cmdCells 0 0 0 (.slice none 0 0) 0 0 0 0) 44)).alloc (.cells (cmdCells 0 0 0 (.slice none 0 0) 0 0 0 0) 44))
  generalize ((w.alloc (.cells (cmdCells 0 0 0 (.slice none 0 0) 0 0 0 0) 44)).alloc (.cells (cmdCells 0 0 0 (.slice none 0 0) 0 0 0 0) 44)) = W0 at hb1 hc1 hz1 hr1 hG1 ⊢
  try rw [hgc]
  have C1 := refR_Small W0 gr A c LB K lb 0 0 6 (by omega) (HIN.out _ hG1) hr1
  have e6 : ((6 : Nat) : Int) = 6 := rfl
  rw [e6] at C1
  have hr0 := rnum_le (hr1.1 ▸ hbyt.drop K) (show 0 ≤ lb.length by omega) 0 (most := 6) (by decide)
  obtain ⟨⟨kind, k0, e0⟩, hrk⟩ : ∃ r, rnum lb 0 0 6 = r := ⟨_, rfl⟩
  rw [hrk] at C1 hr0
  simp only at C1 hr0
  have hdk : dK lb = (kind, k0, if e0 = 0 ∧ kI kind = false then 11 else e0) := by
    unfold dK
    rw [hrk]
  have HDK := Lib.hid hdk
  have C1 := Lib.hid C1
  have hgr0 : gr < g := by omega
  clear hrk hdk hr1 e6
  go_wp2_with fail
  refine C1.out.mono ?_
  rintro x w1 ⟨rfl, hr2, hg2⟩
  have hne : ∀ i, i ≠ gr → some i ≠ some gr := fun i hi hh => hi (by injection hh)
  have hb2 := hb1.grown hg2 (hne _ (by omega))
  have hc2 := hc1.grown hg2 (hne _ (by omega))
  have hG2 := World.grownBy.trans hG1 hg2
  have hz2 : g + 2 ≤ w1.heap.size := by have := hg2.size; omega
  have y0 := hc2.frozen 0
  have x0 : w1.cell? ⟨gc, 0, none⟩ = some (.int .i64 0) := hc2.cmd.c0
  clear hb1 hc1 hG1 hg2 hz1 C1 hbyt
  go_upto_region 3 with (fail)
  have hGc : w1.grownBy (w1.setCell ⟨gc, 0, none⟩ (.int .i64 kind)) (some gc) := only_setCell (p := ⟨gc, 0, none⟩) (World.grownBy.refl w1 (some gc)) (.inl rfl) _
  have hnc : ∀ i, i ≠ gc → some i ≠ some gc := fun i hi hh => hi (by injection hh)
  have hb3 := hb2.grown hGc (hnc _ (by omega))
  have hc3 : Blk (w1.setCell ⟨gc, 0, none⟩ (.int .i64 kind)) gc 44 (cmdCells kind 0 0 (.slice none 0 0) 0 0 0 0) := Blk.setL (l := [Value.int .i64 0, .int .i64 0, .int .i64 0, .slice none 0 0, .int .u64 0, .int .u64 0, .int .u64 0, .int .u64 0]) hc2 0 _
  have hr3 := hr2.far hGc (by omega)
  have hG3 := grown_out hG2 hGc (by omega)
  have hz3 : g + 2 ≤ (w1.setCell ⟨gc, 0, none⟩ (.int .i64 kind)).heap.size := by have := hGc.size; omega
  generalize w1.setCell ⟨gc, 0, none⟩ (.int .i64 kind) = W3 at hb3 hc3 hr3 hG3 hz3 ⊢
  clear hb2 hc2 hG2 hGc hr2 hz2 x0 y0 hnc
  obtain ⟨c0, c1, c2, c3, c4, c5, c6, c7⟩ := hc3.cmd
  have CF := Lib.hid (fun W => ref_fields_any W kind)
  go_wp2_with fail
  refine (CF.out _).mono ?_
  rintro x w4 ⟨rfl, rfl⟩
  clear CF
  cases hI : kI kind
  · have HDE : Hid (dK lb = (kind, k0, if e0 = 0 then 11 else e0)) := by
      show _ = _
      rw [HDK.out, hI]
      congr 2
      simp
    have hfl : bytes (fld kind) = [] := by
      rcases kinds kind with rfl | rfl | rfl | rfl | rfl | rfl | ⟨h1, h2, h3, h4, h5, h6⟩
      case inr.inr.inr.inr.inr.inr => simp [fld, h2, h3, h4, h5, h6, bytes]
      all_goals exact absurd hI (by decide)
    have HFE : Hid (F = ⟨0, 0, [], 0, 0, 0, 0, k0, if e0 = 0 then 11 else e0⟩) := by
      show _ = _
      rw [← HF.out]
      unfold finC
      rw [HDE.out]
      simp only
      rw [hfl]
      rfl
    obtain ⟨hlb, k', hbr, hle', hk'⟩ := hr3
    have HLB := Lib.hid hlb
    have CX := Lib.hid (ref_Fail_any w4 gr A LB.length c k' e0 11 hbr)
    have HB := Lib.hid hb3
    have HC := Lib.hid hc3
    have HG := Lib.hid hG3
    have HKE := Lib.hid hk'
    clear hbr hb3 hc3 hG3 c0 c1 c2 c3 c4 c5 c6 c7 HDK HF hk' hfl hlb
    go_wp2_with fail
    refine CX.out.mono ?_
    rintro x w5 ⟨rfl, hr5, hg5⟩
    have hb5 := HB.out.grown hg5 (hne _ (by omega))
    have hc5 := HC.out.grown hg5 (hne _ (by omega))
    have HG5 : Hid (w.grownBy w5 (some gr)) := World.grownBy.trans HG.out hg5
    have HR5 : Hid (RS w5 gr A c LB K lb k0 (if e0 = 0 then 11 else e0)) := by
      refine ⟨HLB.out, k', hr5, hle', fun h0 => ?_⟩
      split at h0
      · exact absurd h0 (by decide)
      · exact HKE.out h0
    obtain ⟨c0, c1, c2, c3, c4, c5, c6, c7⟩ := hc5.cmd
    obtain ⟨z0, z1, z2, z3, z4, z5, z6, z7⟩ := hb5.cmd
    have y0 := hb5.frozen 0
    have y1 := hb5.frozen 1
    have y2 := hb5.frozen 2
    have y3 := hb5.frozen 3
    have y4 := hb5.frozen 4
    have y5 := hb5.frozen 5
    have y6 := hb5.frozen 6
    have y7 := hb5.frozen 7
    have HB5 := Lib.hid hb5
    clear hr5 hg5 hb5 hc5 HB HC HG HKE CX
    have hn2 : gc ≠ g := by omega
    have hn4 : g ≠ gc := by omega
    go_wp2
    have hrF := Blk.set8 HB5.out (.int .i64 kind) (.int .i64 0) (.int .i64 0) (.slice none 0 0) (.int .u64 0) (.int .u64 0) (.int .u64 0) (.int .u64 0)
    have hG8 := grown_set8 w5 g (.int .i64 kind) (.int .i64 0) (.int .i64 0) (.slice none 0 0) (.int .u64 0) (.int .u64 0) (.int .u64 0) (.int .u64 0)
    refine bodyPost_ret (results_cell1 rfl rfl (run_loadVar_row _ _ _ _ _ (0, 0) _ hrF Try.underlying44 rfl info_Cmd)) rfl ?_
    rw [HFE.out, HDE.out]
    exact ⟨.slice none 0 0, [], rfl, own_nil _ _ _ _, by simp, Wfs.nil _, fun _ => rfl, HR5.out.far hG8 (by omega), grown_out HG5.out hG8 (by omega)⟩
  have HDE : Hid (dK lb = (kind, k0, e0)) := by
    show _ = _
    rw [HDK.out, hI, if_neg (by simp)]
  obtain ⟨lets, hlets⟩ : ∃ lets, bytes (fld kind) = lets := ⟨_, rfl⟩
  have HFE : Hid (lets.foldl (fstep lb) ⟨0, 0, [], 0, 0, 0, 0, k0, e0⟩ = F) := by
    show _ = _
    rw [← HF.out, ← hlets]
    unfold finC
    rw [HDE.out]
  have kc := fun (s : ByteArray) => Lib.run_convert_string_bytes (P := Try.prog) w4 9 75 5 s Try.underlying9 Try.underlying75 Try.underlying5
  obtain ⟨gb, hgb⟩ : ∃ gb, w4.heap.size = gb := ⟨_, rfl⟩
  have hB5 := Lib.bytesWorld_below w4 5 (fld kind)
  have hgl : gb < (Lib.bytesWorld w4 5 (fld kind)).heap.size := by rw [Lib.bytesWorld_size]; omega
  have hlen : lets.length = (fld kind).size := by rw [← hlets, bytes_length]
  have hcells : ∀ j (hj : j < lets.length), (Lib.bytesWorld w4 5 (fld kind)).cell? ⟨gb, j, none⟩ = some (.int .u8 lets[j]) := fun j hj => by
    subst hlets
    rw [bytes_length] at hj
    rw [← hgb, Lib.bytesWorld_cell w4 _ _ j hj]
    simp [bytes, List.getD_eq_getElem?_getD, Array.getElem?_eq_getElem (show j < (fld kind).data.size from hj)]
  have HO : Hid (OR w gr g gc gb) := ⟨by omega, by omega, by omega, hg⟩
  have H0 : Hid (SR w gr g gc gb lets A c LB K lb (Lib.bytesWorld w4 5 (fld kind)) kind 0 0 (.slice none 0 0) [] [] 0 0 0 0 k0 e0) :=
    ⟨hb3.below hB5 hb3.lt, hr3.below hB5 hr3.lt, hc3.below hB5 hc3.lt, hcells, grown_below hG3 hB5 (by omega), own_nil _ _ _ _, by simp, Wfs.nil _, fun _ => rfl, hgl⟩
  have HTS : Hid (∀ j (hj : j < lets.length), (lets.take (j + 1)).foldl (fstep lb) ⟨0, 0, [], 0, 0, 0, 0, k0, e0⟩ = fstep lb ((lets.take j).foldl (fstep lb) ⟨0, 0, [], 0, 0, 0, 0, k0, e0⟩) lets[j]) := by
    intro j hj
    rw [← List.take_append_getElem hj, List.foldl_append]
    rfl
  have HLX : Hid (∀ x ∈ lets, x = 108 ∨ x = 110 ∨ x = 116 ∨ x = 98 ∨ x = 113 ∨ x = 115 ∨ x = 109) := by
    show ∀ x ∈ lets, _
    rw [← hlets]
    exact letters kind
  have hf5 := fld_len kind
  clear hB5 hgl hcells hb3 hr3 hc3 hG3 HF HDK hlets c0 c1 c2 c3 c4 c5 c6 c7
  go_wp2_with fail
  generalize Lib.bytesWorld w4 5 (fld kind) = W5 at H0 ⊢
  clear kc
  go_loopw [7, 26] (fun _ i wr => ∃ (j : Nat) (n t : Int) (sl : Value) (L l : List Int) (b q s m : Int) (k : Nat) (e : Int), i = .int .i64 (j : Int) ∧ j ≤ (fld kind).size ∧ SR w gr g gc gb lets A c LB K lb wr kind n t sl L l b q s m k e ∧ (lets.take j).foldl (fstep lb) ⟨0, 0, [], 0, 0, 0, 0, k0, e0⟩ = ⟨n, t, l, b, q, s, m, k, e⟩) (fun _ i _ => (fld kind).size - (intOf i).toNat)
  case atStart => exact ⟨0, 0, 0, _, [], [], 0, 0, 0, 0, k0, e0, rfl, by omega, H0.out, rfl⟩
  case round =>
    clear H0
    obtain ⟨j, n, t, sl, L, l, b, q, s, m, k, e, rfl, hj, hst, heq⟩ := hrel
    have HS := Lib.hid hst
    have HQ := Lib.hid heq
    clear hst heq
    by_cases hlt : j < (fld kind).size
    · have hltb : j < lets.length := by rw [hlen]; exact hlt
      have hcl := HS.out.lets j hltb
      have hlx := HLX.out _ (List.getElem_mem hltb)
      have hts := HTS.out j hltb
      rw [HQ.out] at hts
      obtain ⟨x, hx⟩ : ∃ x, lets[j] = x := ⟨_, rfl⟩
      rw [hx] at hcl hlx hts
      have HTJ := Lib.hid hts
      clear hx hts
      rcases hlx with rfl | rfl | rfl | rfl | rfl | rfl | rfl
      · obtain ⟨⟨l2, k2, e2⟩, hd⟩ : ∃ r, decNodes lb (rnum lb k e 7).1.toNat (rnum lb k e 7).2.1 (rnum lb k e 7).2.2 = r := ⟨_, rfl⟩
        have CX := Lib.hid (HS.out.nodes HO.out HIN.out hd)
        have HV : Hid (fstep lb ⟨n, t, l, b, q, s, m, k, e⟩ 108 = ⟨n, t, l2, b, q, s, m, k2, e2⟩) := by
          show _ = _
          simp only [fstep, if_pos, hd]
        clear hd
        go_wp2_with fail
        refine CX.out.mono ?_
        rintro x w6 ⟨v6, L6, rfl, ho6, hl6, hw6, he6, hs6⟩
        have H6 := Lib.hid hs6
        have HO6 := Lib.hid ho6
        have HW6 := Lib.hid hw6
        have HE6 := Lib.hid he6
        have ccc := hs6.cm.cmd.c3
        have ffc := hs6.cm.frozen 3
        obtain ⟨A6, c6, rfl⟩ := own_slice ho6
        clear hs6 ho6 hw6 he6 hcl CX
        go_wp2
        go_roundw
        case rel => exact ⟨j + 1, n, t, _, L6, l2, b, q, s, m, k2, e2, by go_num, by omega, H6.out.set3 HO.out HO6.out hl6 HW6.out HE6.out, by rw [HTJ.out, HV.out]⟩
        case measure => simp [intOf]; omega
      · have CX := HS.out.small HO.out HIN.out
        have hv : fstep lb ⟨n, t, l, b, q, s, m, k, e⟩ 110 = _ := rfl
        conv at hv => rhs; simp only [fstep, if_neg (show ¬ ((110 : Int) = 108) by decide), if_pos, if_neg (show ¬ ((110 : Int) = 0) by decide)]
        obtain ⟨⟨v, k2, e2⟩, hr⟩ : ∃ r, rnum lb k e 65535 = r := ⟨_, rfl⟩
        rw [hr] at CX hv
        simp only at CX hv
        have CX := Lib.hid CX
        have HV : Hid (fstep lb ⟨n, t, l, b, q, s, m, k, e⟩ 110 = ⟨v, t, l, b, q, s, m, k2, e2⟩) := hv
        clear hr hv
        go_wp2_with fail
        refine CX.out.mono ?_
        rintro x w6 ⟨rfl, hs6⟩
        have H6 := Lib.hid hs6
        have ccc := hs6.cm.cmd.c1
        have ffc := hs6.cm.frozen 1
        clear hs6 hcl CX
        go_wp2
        go_roundw
        case rel => exact ⟨j + 1, v, t, sl, L, l, b, q, s, m, k2, e2, by go_num, by omega, H6.out.set1 HO.out v, by rw [HTJ.out, HV.out]⟩
        case measure => simp [intOf]; omega
      · have CX := HS.out.small HO.out HIN.out
        have hv : fstep lb ⟨n, t, l, b, q, s, m, k, e⟩ 116 = _ := rfl
        conv at hv => rhs; simp only [fstep, if_neg (show ¬ ((116 : Int) = 108) by decide), if_neg (show ¬ ((116 : Int) = 110) by decide), if_pos, if_neg (show ¬ ((116 : Int) = 0) by decide)]
        obtain ⟨⟨v, k2, e2⟩, hr⟩ : ∃ r, rnum lb k e 65535 = r := ⟨_, rfl⟩
        rw [hr] at CX hv
        simp only at CX hv
        have CX := Lib.hid CX
        have HV : Hid (fstep lb ⟨n, t, l, b, q, s, m, k, e⟩ 116 = ⟨n, v, l, b, q, s, m, k2, e2⟩) := hv
        clear hr hv
        go_wp2_with fail
        refine CX.out.mono ?_
        rintro x w6 ⟨rfl, hs6⟩
        have H6 := Lib.hid hs6
        have ccc := hs6.cm.cmd.c2
        have ffc := hs6.cm.frozen 2
        clear hs6 hcl CX
        go_wp2
        go_roundw
        case rel => exact ⟨j + 1, n, v, sl, L, l, b, q, s, m, k2, e2, by go_num, by omega, H6.out.set2 HO.out v, by rw [HTJ.out, HV.out]⟩
        case measure => simp [intOf]; omega
      · have CX := HS.out.num HO.out HIN.out
        have hv : fstep lb ⟨n, t, l, b, q, s, m, k, e⟩ 98 = _ := rfl
        conv at hv => rhs; simp only [fstep, if_neg (show ¬ ((98 : Int) = 108) by decide), if_neg (show ¬ ((98 : Int) = 110) by decide), if_neg (show ¬ ((98 : Int) = 116) by decide), if_pos, if_neg (show ¬ ((98 : Int) = 0) by decide)]
        obtain ⟨⟨v, k2, e2⟩, hr⟩ : ∃ r, rnum lb k e 18446744073709551615 = r := ⟨_, rfl⟩
        rw [hr] at CX hv
        simp only at CX hv
        have CX := Lib.hid CX
        have HV : Hid (fstep lb ⟨n, t, l, b, q, s, m, k, e⟩ 98 = ⟨n, t, l, v, q, s, m, k2, e2⟩) := hv
        clear hr hv
        go_wp2_with fail
        refine CX.out.mono ?_
        rintro x w6 ⟨rfl, hs6⟩
        have H6 := Lib.hid hs6
        have ccc := hs6.cm.cmd.c4
        have ffc := hs6.cm.frozen 4
        clear hs6 hcl CX
        go_wp2
        go_roundw
        case rel => exact ⟨j + 1, n, t, sl, L, l, v, q, s, m, k2, e2, by go_num, by omega, H6.out.set4 HO.out v, by rw [HTJ.out, HV.out]⟩
        case measure => simp [intOf]; omega
      · have CX := HS.out.num HO.out HIN.out
        have hv : fstep lb ⟨n, t, l, b, q, s, m, k, e⟩ 113 = _ := rfl
        conv at hv => rhs; simp only [fstep, if_neg (show ¬ ((113 : Int) = 108) by decide), if_neg (show ¬ ((113 : Int) = 110) by decide), if_neg (show ¬ ((113 : Int) = 116) by decide), if_neg (show ¬ ((113 : Int) = 98) by decide), if_pos, if_neg (show ¬ ((113 : Int) = 0) by decide)]
        obtain ⟨⟨v, k2, e2⟩, hr⟩ : ∃ r, rnum lb k e 18446744073709551615 = r := ⟨_, rfl⟩
        rw [hr] at CX hv
        simp only at CX hv
        have CX := Lib.hid CX
        have HV : Hid (fstep lb ⟨n, t, l, b, q, s, m, k, e⟩ 113 = ⟨n, t, l, b, v, s, m, k2, e2⟩) := hv
        clear hr hv
        go_wp2_with fail
        refine CX.out.mono ?_
        rintro x w6 ⟨rfl, hs6⟩
        have H6 := Lib.hid hs6
        have ccc := hs6.cm.cmd.c5
        have ffc := hs6.cm.frozen 5
        clear hs6 hcl CX
        go_wp2
        go_roundw
        case rel => exact ⟨j + 1, n, t, sl, L, l, b, v, s, m, k2, e2, by go_num, by omega, H6.out.set5 HO.out v, by rw [HTJ.out, HV.out]⟩
        case measure => simp [intOf]; omega
      · have CX := HS.out.num HO.out HIN.out
        have hv : fstep lb ⟨n, t, l, b, q, s, m, k, e⟩ 115 = _ := rfl
        conv at hv => rhs; simp only [fstep, if_neg (show ¬ ((115 : Int) = 108) by decide), if_neg (show ¬ ((115 : Int) = 110) by decide), if_neg (show ¬ ((115 : Int) = 116) by decide), if_neg (show ¬ ((115 : Int) = 98) by decide), if_neg (show ¬ ((115 : Int) = 113) by decide), if_pos, if_neg (show ¬ ((115 : Int) = 0) by decide)]
        obtain ⟨⟨v, k2, e2⟩, hr⟩ : ∃ r, rnum lb k e 18446744073709551615 = r := ⟨_, rfl⟩
        rw [hr] at CX hv
        simp only at CX hv
        have CX := Lib.hid CX
        have HV : Hid (fstep lb ⟨n, t, l, b, q, s, m, k, e⟩ 115 = ⟨n, t, l, b, q, v, m, k2, e2⟩) := hv
        clear hr hv
        go_wp2_with fail
        refine CX.out.mono ?_
        rintro x w6 ⟨rfl, hs6⟩
        have H6 := Lib.hid hs6
        have ccc := hs6.cm.cmd.c6
        have ffc := hs6.cm.frozen 6
        clear hs6 hcl CX
        go_wp2
        go_roundw
        case rel => exact ⟨j + 1, n, t, sl, L, l, b, q, v, m, k2, e2, by go_num, by omega, H6.out.set6 HO.out v, by rw [HTJ.out, HV.out]⟩
        case measure => simp [intOf]; omega
      · have CX := HS.out.num HO.out HIN.out
        have hv : fstep lb ⟨n, t, l, b, q, s, m, k, e⟩ 109 = _ := rfl
        conv at hv => rhs; simp only [fstep, if_neg (show ¬ ((109 : Int) = 108) by decide), if_neg (show ¬ ((109 : Int) = 110) by decide), if_neg (show ¬ ((109 : Int) = 116) by decide), if_neg (show ¬ ((109 : Int) = 98) by decide), if_neg (show ¬ ((109 : Int) = 113) by decide), if_neg (show ¬ ((109 : Int) = 115) by decide), if_neg (show ¬ ((109 : Int) = 0) by decide)]
        obtain ⟨⟨v, k2, e2⟩, hr⟩ : ∃ r, rnum lb k e 18446744073709551615 = r := ⟨_, rfl⟩
        rw [hr] at CX hv
        simp only at CX hv
        have CX := Lib.hid CX
        have HV : Hid (fstep lb ⟨n, t, l, b, q, s, m, k, e⟩ 109 = ⟨n, t, l, b, q, s, v, k2, e2⟩) := hv
        clear hr hv
        go_wp2_with fail
        refine CX.out.mono ?_
        rintro x w6 ⟨rfl, hs6⟩
        have H6 := Lib.hid hs6
        have ccc := hs6.cm.cmd.c7
        have ffc := hs6.cm.frozen 7
        clear hs6 hcl CX
        go_wp2
        go_roundw
        case rel => exact ⟨j + 1, n, t, sl, L, l, b, q, s, v, k2, e2, by go_num, by omega, H6.out.set7 HO.out v, by rw [HTJ.out, HV.out]⟩
        case measure => simp [intOf]; omega
    · obtain rfl : j = (fld kind).size := by omega
      have HFF : Hid (F = ⟨n, t, l, b, q, s, m, k, e⟩) := by
        show _ = _
        rw [← HFE.out, ← HQ.out, List.take_of_length_le (by omega)]
      obtain ⟨A9, c9, rfl⟩ := own_slice HS.out.own
      obtain ⟨c0, c1, c2, c3, c4, c5, c6, c7⟩ := HS.out.cm.cmd
      obtain ⟨z0, z1, z2, z3, z4, z5, z6, z7⟩ := HS.out.res.cmd
      have y0 := HS.out.res.frozen 0
      have y1 := HS.out.res.frozen 1
      have y2 := HS.out.res.frozen 2
      have y3 := HS.out.res.frozen 3
      have y4 := HS.out.res.frozen 4
      have y5 := HS.out.res.frozen 5
      have y6 := HS.out.res.frozen 6
      have y7 := HS.out.res.frozen 7
      have hn2 : gc ≠ g := by omega
      have hn4 : g ≠ gc := by omega
      clear HQ HFE HTS HLX
      go_wp2
      have hrF := Blk.set8 HS.out.res (.int .i64 kind) (.int .i64 n) (.int .i64 t) (.slice A9 L.length c9) (.int .u64 b) (.int .u64 q) (.int .u64 s) (.int .u64 m)
      have hG8 := grown_set8 wr g (.int .i64 kind) (.int .i64 n) (.int .i64 t) (.slice A9 L.length c9) (.int .u64 b) (.int .u64 q) (.int .u64 s) (.int .u64 m)
      refine bodyPost_ret (results_cell1 rfl rfl (run_loadVar_row _ _ _ _ _ (0, 0) _ hrF Try.underlying44 rfl info_Cmd)) rfl ?_
      rw [HFF.out, HDE.out]
      have o2 := HO.out.h2
      have o3 := HO.out.h3
      exact ⟨.slice A9 L.length c9, L, rfl, own_lower (own_gr HS.out.own hG8 (by omega)) (by omega), HS.out.len, HS.out.wf, HS.out.eq, HS.out.rd.far hG8 (by omega), grown_out HS.out.grow hG8 (by omega)⟩
end Go.Proofs.Ytadkkhbbempaaaa

/- The document reads a snapshot: what stands in memory. -/
namespace Go.Proofs.Ytadkkhbbempaaaa
set_option maxRecDepth 100000
open Go.RowKit

theorem grown_any {w wx w1 : World} {gr : Nat} {r : Option Nat} (h : w.grownBy wx (some gr)) (hb : wx.grownBy w1 r) (hr : ∀ j, r = some j → j = gr ∨ w.heap.size ≤ j) : w.grownBy w1 (some gr) :=
  ⟨hb.os.trans h.os, hb.tape.trans h.tape, hb.output.trans h.output, Nat.le_trans h.size hb.size, fun i hi hn => (hb.block i (Nat.lt_of_lt_of_le hi h.size) (fun hh => by
    rcases hr i hh.symm with h1 | h1
    · exact hn (by rw [h1])
    · omega)).trans (h.block i hi hn)⟩
theorem RS.grown {w w1 : World} {gr : Nat} {A : Option Addr} {c : Nat} {LB : List Int} {K : Nat} {lb : List Int} {k : Nat} {e : Int} {row : Option Nat} (h : RS w gr A c LB K lb k e) (hg : w.grownBy w1 row) (hne : some gr ≠ row) : RS w1 gr A c LB K lb k e := by
  obtain ⟨hl, k', h1, h2⟩ := h
  exact ⟨hl, k', h1.grown hg hne, h2⟩
/-- append(v, x): one struct, in a block just made. -/
theorem one_own {α : Type} {f : α → List Value} {s bytes : Nat} {T E : TypeId} {z0 : Value} {W : World} (hT : Try.prog.underlying T = some (.slice E)) (hinfo : (Try.prog.info? E).map (fun i => (i.zero, i.size, i.bytes)) = some (some z0, s, bytes)) (hz : z0.cells.size = s) (hs0 : 0 < s) (hfl : ∀ x, (f x).length = s) (hone : ∀ x, ∀ u ∈ f x, u.oneCell' = true)
    {ops : Array Oper} {rest : List Oper} {o : Oper} {a : Act} {Q : Exit → Act → World → Prop} {cs : Array Value} (base : Nat) (hgd : o.guard = none) (sx x : Operand)
    (ho : o.op = .call { callee := .builtin .append, args := #[sx, x], argTypes := #[T, T] })
    (v : Value) (l : List α) (y : α) (hs : a.eval sx = v) (hcs : cs = (f y).toArray) (hx : a.eval x = .slice (some ⟨W.heap.size, 0, none⟩) 1 1) (HO : W.ownsRow base E s v l.length (l.flatMap f)) (hbase : base ≤ W.heap.size) (hl : (l.length + 1) * bytes ≤ 1000000) (hb1 : 1 ≤ bytes)
    (h : ∀ v1 w1, w1.ownsRow base E s v1 (l ++ [y]).length ((l ++ [y]).flatMap f) → W.grownBy w1 v.ownBlock → wpList Try.prog ops Q rest (a.put o.dst v1) w1) :
    wpList Try.prog ops Q (o :: rest) a (W.alloc (.cells cs E)) := by
  have hr : Reads (W.alloc (.cells cs E)) (W.heap.size + 1) s (some ⟨W.heap.size, 0, none⟩) 1 (f y) := by
    subst hcs
    refine ⟨by rw [hfl, Nat.one_mul], fun _ => ⟨W.heap.size, 0, rfl, by omega, fun j u hu => ?_⟩⟩
    rw [Nat.zero_add, World.cell?_alloc_mark]
    simpa using hu
  obtain ⟨i0, hi, hz0, hz1, hz2⟩ := info_parts hinfo
  have hO := World.ownsRow.alloc HO (.cells cs E)
  have hlen : l.length + 1 ≤ (l.length + 1) * bytes := Nat.le_mul_of_pos_right _ hb1
  refine wpList_append_any _ hgd sx x T ho base E i0 z0 s bytes hT hi hz0 hz1 hz2 hz hs0 v l.length (l.flatMap f) hs hO (W.heap.size + 1) _ _ _ (f y) hx hr (hone y) (by simp only [maxLen]; omega) (by omega) (by simp; omega) ?_
  intro v1 w1 ho1 hg _
  refine h v1 w1 ?_ (World.grownBy.trans (World.grownBy_alloc W _ _) hg)
  rw [List.length_append, List.length_singleton, List.flatMap_append, List.flatMap_singleton]
  exact ho1
theorem dHd_err {lb : List Int} {k : Nat} {e : Int} (he : e ≠ 0) : (dHd lb k e).2 = (k, e) := by
  unfold dHd
  simp only [rnum_err he]
theorem dLs_err {lb : List Int} {k : Nat} {e : Int} (he : e ≠ 0) : (dLs lb k e).2 = (k, e) := by
  unfold dLs
  simp only [rnum_err he]
theorem decH_err {lb : List Int} {e : Int} (he : e ≠ 0) : ∀ (c k : Nat), (decH lb c k e).2.2 = e := by
  intro c
  induction c with
  | zero => intro k; rfl
  | succ c ih =>
    intro k
    simp only [decH]
    rw [dHd_err he]
    exact ih k
theorem decL_err {lb : List Int} {e : Int} (he : e ≠ 0) : ∀ (c k : Nat), (decL lb c k e).2.2 = e := by
  intro c
  induction c with
  | zero => intro k; rfl
  | succ c ih =>
    intro k
    simp only [decL]
    rw [dLs_err he]
    exact ih k
structure S6o (w : World) (g gr gs B : Nat) : Prop where
  h1 : gr < g
  h2 : g < gs
  h3 : gs < B
  hg : w.heap.size = g
structure S6 (w : World) (g gr gs B : Nat) (A : Option Addr) (c : Nat) (LB : List Int) (K : Nat) (lb : List Int) (wx : World) (i t : Int) (sn : Value) (ns : List Int) (lim nxt : Int) (sh : Value) (hs : List Hd) (sl : Value) (ls : List Ls) (k : Nat) (e : Int) : Prop where
  res : Blk wx g 29 (shC 0 0 (.slice none 0 0) 0 0 (.slice none 0 0) (.slice none 0 0))
  rd : RS wx gr A c LB K lb k e
  cm : Blk wx gs 29 (shC i t sn lim nxt sh sl)
  grow : w.grownBy wx (some gr)
  sz : B ≤ wx.heap.size
  on : OwnN .i64 3 wx B sn ns
  oh : wx.ownsRow B 98 5 sh hs.length (hs.flatMap hdC)
  ol : wx.ownsRow B 123 6 sl ls.length (ls.flatMap lsC)
section
variable {w : World} {g gr gs B : Nat} {A : Option Addr} {c : Nat} {LB : List Int} {K : Nat} {lb : List Int} {wx : World} {i t : Int} {sn : Value} {ns : List Int} {lim nxt : Int} {sh : Value} {hs : List Hd} {sl : Value} {ls : List Ls} {k : Nat} {e : Int}
theorem S6.drew (h : S6 w g gr gs B A c LB K lb wx i t sn ns lim nxt sh hs sl ls k e) : S6 w g gr gs B A c LB K lb wx.drew i t sn ns lim nxt sh hs sl ls k e :=
  ⟨h.res, h.rd, h.cm, only_drew h.grow, h.sz, h.on, h.oh, h.ol⟩
/-- Behind a call of the reader. -/
theorem S6.call (h : S6 w g gr gs B A c LB K lb wx i t sn ns lim nxt sh hs sl ls k e) (o : S6o w g gr gs B) {w1 : World} {k1 : Nat} {e1 : Int} (hr : RS w1 gr A c LB K lb k1 e1) (hg : wx.grownBy w1 (some gr)) :
    S6 w g gr gs B A c LB K lb w1 i t sn ns lim nxt sh hs sl ls k1 e1 := by
  have o1 := o.h1
  have o2 := o.h2
  have o3 := o.h3
  have o4 := o.hg
  have hz := h.sz
  have hne : ∀ j, j ≠ gr → some j ≠ some gr := fun j hj hh => hj (by injection hh)
  exact ⟨h.res.grown hg (hne _ (by omega)), hr, h.cm.grown hg (hne _ (by omega)), grown_any h.grow hg (fun j hj => by injection hj with hj; omega), Nat.le_trans h.sz hg.size,
    kept_gr h.on hg (by omega), kept_gr h.oh hg (by omega), kept_gr h.ol hg (by omega)⟩
/-- A cell of the snapshot is set; its rows are what they are. -/
theorem S6.setc (h : S6 w g gr gs B A c LB K lb wx i t sn ns lim nxt sh hs sl ls k e) (o : S6o w g gr gs B) (j : Nat) (u : Value) {i' t' lim' nxt' : Int} {sn' sh' sl' : Value}
    (hcs : ([Value.int .u64 i, .int .u64 t, sn, .int .i64 lim, .int .u64 nxt, sh, sl].set j u).toArray = shC i' t' sn' lim' nxt' sh' sl') {ns' : List Int} {hs' : List Hd} {ls' : List Ls}
    (on : OwnN .i64 3 wx B sn' ns') (oh : wx.ownsRow B 98 5 sh' hs'.length (hs'.flatMap hdC)) (ol : wx.ownsRow B 123 6 sl' ls'.length (ls'.flatMap lsC)) :
    S6 w g gr gs B A c LB K lb (wx.setCell ⟨gs, j, none⟩ u) i' t' sn' ns' lim' nxt' sh' hs' sl' ls' k e := by
  have o1 := o.h1
  have o2 := o.h2
  have o3 := o.h3
  have o4 := o.hg
  have hz := h.sz
  have hg : wx.grownBy (wx.setCell ⟨gs, j, none⟩ u) (some gs) := only_setCell (p := ⟨gs, j, none⟩) (World.grownBy.refl wx (some gs)) (.inl rfl) u
  have hne : ∀ j, j ≠ gs → some j ≠ some gs := fun j hj hh => hj (by injection hh)
  exact ⟨h.res.grown hg (hne _ (by omega)), h.rd.grown hg (hne _ (by omega)), hcs ▸ Blk.setL (l := [Value.int .u64 i, .int .u64 t, sn, .int .i64 lim, .int .u64 nxt, sh, sl]) h.cm j u, grown_any h.grow hg (fun j hj => by injection hj with hj; omega),
    Nat.le_trans h.sz hg.size, kept_gr on hg o3, kept_gr oh hg o3, kept_gr ol hg o3⟩
/-- Behind an append to one of the rows (the others' blocks are of other kinds). -/
theorem S6.appN (h : S6 w g gr gs B A c LB K lb wx i t sn ns lim nxt sh hs sl ls k e) (o : S6o w g gr gs B) {w1 : World} {v1 : Value} {ns1 : List Int} (hg : wx.grownBy w1 sn.ownBlock) (ho : OwnN .i64 3 w1 B v1 ns1) :
    S6 w g gr gs B A c LB K lb (w1.setCell ⟨gs, 2, none⟩ v1) i t v1 ns1 lim nxt sh hs sl ls k e := by
  have o1 := o.h1
  have o2 := o.h2
  have o3 := o.h3
  have o4 := o.hg
  have hz := h.sz
  have hb := own_base h.on
  have hne : ∀ j, j < B → some j ≠ sn.ownBlock := fun j hj hh => by have := hb j hh.symm; omega
  have hoh : w1.ownsRow B 98 5 sh hs.length (hs.flatMap hdC) := h.oh.kept hg (by
    cases hv : sh.ownBlock with
    | none => exact .inl rfl
    | some b => exact .inr (fun hh => own_own_ne h.on h.oh t_ih hv hh.symm))
  have hol : w1.ownsRow B 123 6 sl ls.length (ls.flatMap lsC) := h.ol.kept hg (by
    cases hv : sl.ownBlock with
    | none => exact .inl rfl
    | some b => exact .inr (fun hh => own_own_ne h.on h.ol t_il hv hh.symm))
  have hg2 : w1.grownBy (w1.setCell ⟨gs, 2, none⟩ v1) (some gs) := only_setCell (p := ⟨gs, 2, none⟩) (World.grownBy.refl w1 (some gs)) (.inl rfl) v1
  have hne2 : ∀ j, j ≠ gs → some j ≠ some gs := fun j hj hh => hj (by injection hh)
  have hbel : w.grownBy w1 (some gr) := grown_any h.grow hg (fun j hj => by have := hb j hj; omega)
  exact ⟨(h.res.grown hg (hne _ (by omega))).grown hg2 (hne2 _ (by omega)), (h.rd.grown hg (hne _ (by omega))).grown hg2 (hne2 _ (by omega)), Blk.setL (l := [Value.int .u64 i, .int .u64 t, sn, .int .i64 lim, .int .u64 nxt, sh, sl]) (h.cm.grown hg (hne _ (by omega))) 2 v1,
    grown_any hbel hg2 (fun j hj => by injection hj with hj; omega), Nat.le_trans (Nat.le_trans h.sz hg.size) hg2.size, kept_gr ho hg2 o3, kept_gr hoh hg2 o3, kept_gr hol hg2 o3⟩
theorem S6.appH (h : S6 w g gr gs B A c LB K lb wx i t sn ns lim nxt sh hs sl ls k e) (o : S6o w g gr gs B) {w1 : World} {v1 : Value} {hs1 : List Hd} (hg : wx.grownBy w1 sh.ownBlock) (ho : w1.ownsRow B 98 5 v1 hs1.length (hs1.flatMap hdC)) :
    S6 w g gr gs B A c LB K lb (w1.setCell ⟨gs, 5, none⟩ v1) i t sn ns lim nxt v1 hs1 sl ls k e := by
  have o1 := o.h1
  have o2 := o.h2
  have o3 := o.h3
  have o4 := o.hg
  have hz := h.sz
  have hb := own_base h.oh
  have hne : ∀ j, j < B → some j ≠ sh.ownBlock := fun j hj hh => by have := hb j hh.symm; omega
  have hon : OwnN .i64 3 w1 B sn ns := World.ownsRow.kept h.on hg (by
    cases hv : sn.ownBlock with
    | none => exact .inl rfl
    | some b => exact .inr (fun hh => own_own_ne h.oh h.on t_ih.symm hv hh.symm))
  have hol : w1.ownsRow B 123 6 sl ls.length (ls.flatMap lsC) := h.ol.kept hg (by
    cases hv : sl.ownBlock with
    | none => exact .inl rfl
    | some b => exact .inr (fun hh => own_own_ne h.oh h.ol t_hl hv hh.symm))
  have hg2 : w1.grownBy (w1.setCell ⟨gs, 5, none⟩ v1) (some gs) := only_setCell (p := ⟨gs, 5, none⟩) (World.grownBy.refl w1 (some gs)) (.inl rfl) v1
  have hne2 : ∀ j, j ≠ gs → some j ≠ some gs := fun j hj hh => hj (by injection hh)
  have hbel : w.grownBy w1 (some gr) := grown_any h.grow hg (fun j hj => by have := hb j hj; omega)
  exact ⟨(h.res.grown hg (hne _ (by omega))).grown hg2 (hne2 _ (by omega)), (h.rd.grown hg (hne _ (by omega))).grown hg2 (hne2 _ (by omega)), Blk.setL (l := [Value.int .u64 i, .int .u64 t, sn, .int .i64 lim, .int .u64 nxt, sh, sl]) (h.cm.grown hg (hne _ (by omega))) 5 v1,
    grown_any hbel hg2 (fun j hj => by injection hj with hj; omega), Nat.le_trans (Nat.le_trans h.sz hg.size) hg2.size, kept_gr hon hg2 o3, kept_gr ho hg2 o3, kept_gr hol hg2 o3⟩
theorem S6.appL (h : S6 w g gr gs B A c LB K lb wx i t sn ns lim nxt sh hs sl ls k e) (o : S6o w g gr gs B) {w1 : World} {v1 : Value} {ls1 : List Ls} (hg : wx.grownBy w1 sl.ownBlock) (ho : w1.ownsRow B 123 6 v1 ls1.length (ls1.flatMap lsC)) :
    S6 w g gr gs B A c LB K lb (w1.setCell ⟨gs, 6, none⟩ v1) i t sn ns lim nxt sh hs v1 ls1 k e := by
  have o1 := o.h1
  have o2 := o.h2
  have o3 := o.h3
  have o4 := o.hg
  have hz := h.sz
  have hb := own_base h.ol
  have hne : ∀ j, j < B → some j ≠ sl.ownBlock := fun j hj hh => by have := hb j hh.symm; omega
  have hon : OwnN .i64 3 w1 B sn ns := World.ownsRow.kept h.on hg (by
    cases hv : sn.ownBlock with
    | none => exact .inl rfl
    | some b => exact .inr (fun hh => own_own_ne h.ol h.on t_il.symm hv hh.symm))
  have hoh : w1.ownsRow B 98 5 sh hs.length (hs.flatMap hdC) := h.oh.kept hg (by
    cases hv : sh.ownBlock with
    | none => exact .inl rfl
    | some b => exact .inr (fun hh => own_own_ne h.ol h.oh t_hl.symm hv hh.symm))
  have hg2 : w1.grownBy (w1.setCell ⟨gs, 6, none⟩ v1) (some gs) := only_setCell (p := ⟨gs, 6, none⟩) (World.grownBy.refl w1 (some gs)) (.inl rfl) v1
  have hne2 : ∀ j, j ≠ gs → some j ≠ some gs := fun j hj hh => hj (by injection hh)
  have hbel : w.grownBy w1 (some gr) := grown_any h.grow hg (fun j hj => by have := hb j hj; omega)
  exact ⟨(h.res.grown hg (hne _ (by omega))).grown hg2 (hne2 _ (by omega)), (h.rd.grown hg (hne _ (by omega))).grown hg2 (hne2 _ (by omega)), Blk.setL (l := [Value.int .u64 i, .int .u64 t, sn, .int .i64 lim, .int .u64 nxt, sh, sl]) (h.cm.grown hg (hne _ (by omega))) 6 v1,
    grown_any hbel hg2 (fun j hj => by injection hj with hj; omega), Nat.le_trans (Nat.le_trans h.sz hg.size) hg2.size, kept_gr hon hg2 o3, kept_gr hoh hg2 o3, kept_gr ho hg2 o3⟩
/-- A cell of a block apart is set. -/
theorem S6.setX (h : S6 w g gr gs B A c LB K lb wx i t sn ns lim nxt sh hs sl ls k e) (o : S6o w g gr gs B) {gx : Nat} (hx : B ≤ gx) (n1 : sn.ownBlock ≠ some gx) (n2 : sh.ownBlock ≠ some gx) (n3 : sl.ownBlock ≠ some gx) (j : Nat) (u : Value) :
    S6 w g gr gs B A c LB K lb (wx.setCell ⟨gx, j, none⟩ u) i t sn ns lim nxt sh hs sl ls k e := by
  have o1 := o.h1
  have o2 := o.h2
  have o3 := o.h3
  have o4 := o.hg
  have hz := h.sz
  have hg : wx.grownBy (wx.setCell ⟨gx, j, none⟩ u) (some gx) := only_setCell (p := ⟨gx, j, none⟩) (World.grownBy.refl wx (some gx)) (.inl rfl) u
  have hne : ∀ j, j ≠ gx → some j ≠ some gx := fun j hj hh => hj (by injection hh)
  refine ⟨h.res.grown hg (hne _ (by omega)), h.rd.grown hg (hne _ (by omega)), h.cm.grown hg (hne _ (by omega)), grown_any h.grow hg (fun j hj => by injection hj with hj; omega), Nat.le_trans h.sz hg.size, World.ownsRow.kept h.on hg (.inr n1), h.oh.kept hg (.inr n2), h.ol.kept hg (.inr n3)⟩
theorem S6.below (h : S6 w g gr gs B A c LB K lb wx i t sn ns lim nxt sh hs sl ls k e) (o : S6o w g gr gs B) {w1 : World} (hb : Below wx.heap.size wx w1) : S6 w g gr gs B A c LB K lb w1 i t sn ns lim nxt sh hs sl ls k e := by
  have o1 := o.h1
  have o2 := o.h2
  have o3 := o.h3
  have o4 := o.hg
  have hz := h.sz
  exact ⟨h.res.below hb (by omega), h.rd.below hb (by omega), h.cm.below hb (by omega), grown_below h.grow hb (by omega), Nat.le_trans hz hb.size, own_below h.on hb, own_below h.oh hb, own_below h.ol hb⟩
theorem S6.alloc (h : S6 w g gr gs B A c LB K lb wx i t sn ns lim nxt sh hs sl ls k e) (o : S6o w g gr gs B) (ob : Obj) : S6 w g gr gs B A c LB K lb (wx.alloc ob) i t sn ns lim nxt sh hs sl ls k e :=
  h.below o ((Below.refl _ _).alloc (Nat.le_refl _) _)
theorem S6.num (h : S6 w g gr gs B A c LB K lb wx i t sn ns lim nxt sh hs sl ls k e) (o : S6o w g gr gs B) (hI : ∀ W, w.grownBy W (some gr) → In8 W A c LB) :
    Calls Try.prog 58 #[.pointer (some ⟨gr, 0, none⟩)] wx fun x w' => x = .returned (.int .u64 (rnum lb k e 18446744073709551615).1) ∧
      S6 w g gr gs B A c LB K lb w' i t sn ns lim nxt sh hs sl ls (rnum lb k e 18446744073709551615).2.1 (rnum lb k e 18446744073709551615).2.2 :=
  (refR_NumS wx gr A c LB K lb k e (hI _ h.grow) h.rd).mono fun _ _ ⟨hx, hr, hg⟩ => ⟨hx, h.call o hr hg⟩
theorem S6.small (h : S6 w g gr gs B A c LB K lb wx i t sn ns lim nxt sh hs sl ls k e) (o : S6o w g gr gs B) (hI : ∀ W, w.grownBy W (some gr) → In8 W A c LB) (most : Int) (hm : most = 64 ∨ most = 65535) :
    Calls Try.prog 59 #[.pointer (some ⟨gr, 0, none⟩), .int .i64 most] wx fun x w' => x = .returned (.int .i64 (rnum lb k e most).1) ∧
      S6 w g gr gs B A c LB K lb w' i t sn ns lim nxt sh hs sl ls (rnum lb k e most).2.1 (rnum lb k e most).2.2 := by
  obtain ⟨m, rfl⟩ : ∃ m : Nat, most = m := ⟨most.toNat, by omega⟩
  exact (refR_Small wx gr A c LB K lb k e m (by omega) (hI _ h.grow) h.rd).mono fun _ _ ⟨hx, hr, hg⟩ => ⟨hx, h.call o hr hg⟩
theorem S6.numB (h : S6 w g gr gs B A c LB K lb wx i t sn ns lim nxt sh hs sl ls k e) (o : S6o w g gr gs B) (hI : ∀ W, w.grownBy W (some gr) → In8 W A c LB) {gx : Nat} {T : TypeId} {cs : Array Value} (hx : Blk wx gx T cs) (hne : gx ≠ gr) :
    Calls Try.prog 58 #[.pointer (some ⟨gr, 0, none⟩)] wx fun x w' => x = .returned (.int .u64 (rnum lb k e 18446744073709551615).1) ∧
      S6 w g gr gs B A c LB K lb w' i t sn ns lim nxt sh hs sl ls (rnum lb k e 18446744073709551615).2.1 (rnum lb k e 18446744073709551615).2.2 ∧ Blk w' gx T cs :=
  (refR_NumS wx gr A c LB K lb k e (hI _ h.grow) h.rd).mono fun _ _ ⟨hx2, hr, hg⟩ => ⟨hx2, h.call o hr hg, hx.grown hg (fun hh => by injection hh with hh; exact hne hh)⟩
theorem S6.smallB (h : S6 w g gr gs B A c LB K lb wx i t sn ns lim nxt sh hs sl ls k e) (o : S6o w g gr gs B) (hI : ∀ W, w.grownBy W (some gr) → In8 W A c LB) {gx : Nat} {T : TypeId} {cs : Array Value} (hx : Blk wx gx T cs) (hne : gx ≠ gr) :
    Calls Try.prog 59 #[.pointer (some ⟨gr, 0, none⟩), .int .i64 65535] wx fun x w' => x = .returned (.int .i64 (rnum lb k e 65535).1) ∧
      S6 w g gr gs B A c LB K lb w' i t sn ns lim nxt sh hs sl ls (rnum lb k e 65535).2.1 (rnum lb k e 65535).2.2 ∧ Blk w' gx T cs :=
  (refR_Small wx gr A c LB K lb k e 65535 (by omega) (hI _ h.grow) h.rd).mono fun _ _ ⟨hx2, hr, hg⟩ => ⟨hx2, h.call o hr hg, hx.grown hg (fun hh => by injection hh with hh; exact hne hh)⟩
end
end Go.Proofs.Ytadkkhbbempaaaa

/- The document reads a snapshot: the walk of its Read. -/
namespace Go.Proofs.Ytadkkhbbempaaaa
set_option maxRecDepth 100000
open Go.RowKit

/-- Ahead of the numbers: the reader's cells, the snapshot, the result. -/
structure R60 (w : World) (g gr gs B : Nat) (A : Option Addr) (c : Nat) (LB : List Int) (wx : World) (k' : Nat) (e : Int) : Prop where
  res : Blk wx g 29 (shC 0 0 (.slice none 0 0) 0 0 (.slice none 0 0) (.slice none 0 0))
  rd : Blk wx gr 90 (rdCells A LB.length c k' e)
  cm : Blk wx gs 29 (shC 0 0 (.slice none 0 0) 0 0 (.slice none 0 0) (.slice none 0 0))
  grow : w.grownBy wx (some gr)
  sz : B ≤ wx.heap.size
theorem R60.drewN {w : World} {g gr gs B : Nat} {A : Option Addr} {c : Nat} {LB : List Int} {wx : World} {k' : Nat} {e : Int} (h : R60 w g gr gs B A c LB wx k' e) (n : Nat) : R60 w g gr gs B A c LB (wx.drewN n) k' e :=
  ⟨h.res, h.rd, h.cm, only_drewN h.grow n, h.sz⟩
theorem R60.fail {w : World} {g gr gs B : Nat} {A : Option Addr} {c : Nat} {LB : List Int} {wx : World} {k' : Nat} {e e' : Int} (h : R60 w g gr gs B A c LB wx k' e) (o : S6o w g gr gs B) {w1 : World} (hb : Blk w1 gr 90 (rdCells A LB.length c k' e')) (hg : wx.grownBy w1 (some gr)) : R60 w g gr gs B A c LB w1 k' e' := by
  have o1 := o.h1
  have o2 := o.h2
  have o3 := o.h3
  have hne : ∀ j, j ≠ gr → some j ≠ some gr := fun j hj hh => hj (by injection hh)
  exact ⟨h.res.grown hg (hne _ (by omega)), hb, h.cm.grown hg (hne _ (by omega)), World.grownBy.trans h.grow hg, Nat.le_trans h.sz hg.size⟩
/-- The error that the document's Read starts the numbers with. -/
def rE1 (lb : List Int) (e : Int) : Int := if e ≠ 0 then e else if lb.length = 0 then 10 else if lb.head? ≠ some 83 then 11 else 0
/-- Its error in the end. -/
def rE (lb : List Int) (e : Int) : Int := if rE1 lb e = 0 then (sLs lb).2.2 else rE1 lb e
theorem chain {lb : List Int} {e1 i t lim nxt cn chn cln : Int} {ns : List Int} {hs : List Hd} {ls : List Ls} {k1 k2 k3 k4 k5 k6 k7 k8 k9 kx : Nat} {ei et ec en el ex eh eH e9 eL : Int}
    (hI : rnum lb 1 e1 18446744073709551615 = (i, k1, ei)) (hT : rnum lb k1 ei 18446744073709551615 = (t, k2, et)) (hC : rnum lb k2 et 64 = (cn, k3, ec)) (hN : decNodes lb cn.toNat k3 ec = (ns, k4, en))
    (hL : rnum lb k4 en 65535 = (lim, k5, el)) (hX : rnum lb k5 el 18446744073709551615 = (nxt, k6, ex)) (hCh : rnum lb k6 ex 64 = (chn, k7, eh)) (hH : decH lb chn.toNat k7 eh = (hs, k8, eH)) (hCl : rnum lb k8 eH 64 = (cln, k9, e9)) (hLs : decL lb cln.toNat k9 e9 = (ls, kx, eL)) :
    (e1 = 0 → sI lb = (i, k1, ei) ∧ sT lb = (t, k2, et) ∧ sNs lb = (ns, k4, en) ∧ sLim lb = (lim, k5, el) ∧ sNxt lb = (nxt, k6, ex) ∧ sHs lb = (hs, k8, eH) ∧ sLs lb = (ls, kx, eL)) ∧
    (e1 ≠ 0 → eL = e1) ∧ (eL = 0 → en = 0 ∧ eH = 0) := by
  refine ⟨fun h0 => ?_, fun h0 => ?_, fun h0 => ?_⟩
  · subst h0
    have a1 : sI lb = (i, k1, ei) := hI
    have a2 : sT lb = (t, k2, et) := by unfold sT; rw [a1]; exact hT
    have a3 : sCn lb = (cn, k3, ec) := by unfold sCn; rw [a2]; exact hC
    have a4 : sNs lb = (ns, k4, en) := by unfold sNs; rw [a3]; exact hN
    have a5 : sLim lb = (lim, k5, el) := by unfold sLim; rw [a4]; exact hL
    have a6 : sNxt lb = (nxt, k6, ex) := by unfold sNxt; rw [a5]; exact hX
    have a7 : sCh lb = (chn, k7, eh) := by unfold sCh; rw [a6]; exact hCh
    have a8 : sHs lb = (hs, k8, eH) := by unfold sHs; rw [a7]; exact hH
    have a9 : sCl lb = (cln, k9, e9) := by unfold sCl; rw [a8]; exact hCl
    have a10 : sLs lb = (ls, kx, eL) := by unfold sLs; rw [a9]; exact hLs
    exact ⟨a1, a2, a4, a5, a6, a8, a10⟩
  · rw [rnum_err h0] at hI
    simp only [Prod.mk.injEq] at hI
    obtain ⟨_, _, rfl⟩ := hI
    rw [rnum_err h0] at hT
    simp only [Prod.mk.injEq] at hT
    obtain ⟨_, _, rfl⟩ := hT
    rw [rnum_err h0] at hC
    simp only [Prod.mk.injEq] at hC
    obtain ⟨_, _, rfl⟩ := hC
    have n := decNodes_err (lb := lb) h0 cn.toNat k3
    rw [hN] at n
    simp only at n
    subst n
    rw [rnum_err h0] at hL
    simp only [Prod.mk.injEq] at hL
    obtain ⟨_, _, rfl⟩ := hL
    rw [rnum_err h0] at hX
    simp only [Prod.mk.injEq] at hX
    obtain ⟨_, _, rfl⟩ := hX
    rw [rnum_err h0] at hCh
    simp only [Prod.mk.injEq] at hCh
    obtain ⟨_, _, rfl⟩ := hCh
    have n := decH_err (lb := lb) h0 chn.toNat k7
    rw [hH] at n
    simp only at n
    subst n
    rw [rnum_err h0] at hCl
    simp only [Prod.mk.injEq] at hCl
    obtain ⟨_, _, rfl⟩ := hCl
    have n := decL_err (lb := lb) h0 cln.toNat k9
    rw [hLs] at n
    exact n
  · have n9 : e9 = 0 := by
      rcases Classical.em (e9 = 0) with q | q
      · exact q
      · have n := decL_err (lb := lb) q cln.toNat k9
        rw [hLs] at n
        exact absurd (n.symm.trans h0) q
    subst n9
    have nH : eH = 0 := rnum_zero (lb := lb) (k := k8) (most := 64) (by rw [hCl])
    subst nH
    have nh : eh = 0 := by
      rcases Classical.em (eh = 0) with q | q
      · exact q
      · have n := decH_err (lb := lb) q chn.toNat k7
        rw [hH] at n
        exact absurd n.symm q
    subst nh
    have nx : ex = 0 := rnum_zero (lb := lb) (k := k6) (most := 64) (by rw [hCh])
    subst nx
    have nl : el = 0 := rnum_zero (lb := lb) (k := k5) (most := 18446744073709551615) (by rw [hX])
    subst nl
    exact ⟨rnum_zero (lb := lb) (k := k4) (most := 65535) (by rw [hL]), rfl⟩
/-- What may be said of whatever is read. -/
structure ReadOk (i t : Int) (ns : List Int) (lim nxt : Int) (hs : List Hd) (ls : List Ls) : Prop where
  i : 0 ≤ i ∧ i < 18446744073709551616
  t : 0 ≤ t ∧ t < 18446744073709551616
  nsl : ns.length ≤ 64
  ns : ∀ z ∈ ns, 0 ≤ z ∧ z ≤ 65535
  lim : 0 ≤ lim ∧ lim ≤ 65535
  nxt : 0 ≤ nxt ∧ nxt < 18446744073709551616
  hsl : hs.length ≤ 64
  hs : ∀ h ∈ hs, h.Wf
  lsl : ls.length ≤ 64
  ls : ∀ x ∈ ls, x.Wf
/-- What the document's Read comes to. -/
def R6P (w : World) (gr : Nat) (A : Option Addr) (c : Nat) (LB : List Int) (K : Nat) (lb : List Int) (E : Int) (x : Ending) (w' : World) : Prop :=
  ∃ (i t : Int) (vn : Value) (ns : List Int) (lim nxt : Int) (vh : Value) (hs : List Hd) (vl : Value) (ls : List Ls),
    x = .returned (shV i t vn lim nxt vh vl) ∧ OwnN .i64 3 w' w.heap.size vn ns ∧ w'.ownsRow w.heap.size 98 5 vh hs.length (hs.flatMap hdC) ∧ w'.ownsRow w.heap.size 123 6 vl ls.length (ls.flatMap lsC) ∧
    ReadOk i t ns lim nxt hs ls ∧ (E = 0 → (sI lb).1 = i ∧ (sT lb).1 = t ∧ (sNs lb).1 = ns ∧ (sLim lb).1 = lim ∧ (sNxt lb).1 = nxt ∧ (sHs lb).1 = hs ∧ (sLs lb).1 = ls) ∧
    (∃ kx, (E = 0 → kx = (sLs lb).2.1) ∧ RS w' gr A c LB K lb kx E) ∧ w.grownBy w' (some gr)
theorem wf_held (a b : Int) (ha : 0 ≤ a ∧ a ≤ 65535) (hb : 0 ≤ b ∧ b ≤ 65535) {c d f : Int} (hc : 0 ≤ c ∧ c < 18446744073709551616) (hd : 0 ≤ d ∧ d < 18446744073709551616) (hf : 0 ≤ f ∧ f < 18446744073709551616) : (⟨a, b, c, d, f⟩ : Hd).Wf :=
  ⟨wf_small ha.1 ha.2, wf_small hb.1 hb.2, hc, hd, hf⟩

set_option maxHeartbeats 20000000 in
theorem r06_Read_walk (w : World) (gr : Nat) (A : Option Addr) (c : Nat) (LB : List Int) (K : Nat) (lb : List Int) (hlb : LB.drop K = lb) (k' : Nat) (e : Int) (h : ∀ W, w.grownBy W (some gr) → In8 W A c LB)
    (hb : Blk w gr 90 (rdCells A LB.length c k' e)) (hk' : k' ≤ LB.length) (hk0 : e = 0 → k' = K) :
    Calls Try.prog 61 #[.pointer (some ⟨gr, 0, none⟩)] w (R6P w gr A c LB K lb (rE lb e)) := by
  have HIN := Lib.hid h
  have hin0 := h w (World.grownBy.refl _ _)
  have hbyt := hin0.byt
  have hsm := hin0.small
  obtain ⟨g, hg⟩ : ∃ g, w.heap.size = g := ⟨_, rfl⟩
  obtain ⟨gs, hgs⟩ : ∃ gs, g + 1 = gs := ⟨_, rfl⟩
  have hgr := hb.lt
  have ORD : Hid (S6o w g gr gs (gs + 1)) := ⟨by omega, by omega, by omega, hg⟩
  have hs1 : (w.alloc (.cells (shC 0 0 (.slice none 0 0) 0 0 (.slice none 0 0) (.slice none 0 0)) 29)).heap.size = gs := by simp [hg, hgs]
  have hBx : Below g w ((w.alloc (.cells (shC 0 0 (.slice none 0 0) 0 0 (.slice none 0 0) (.slice none 0 0)) 29)).alloc (.cells (shC 0 0 (.slice none 0 0) 0 0 (.slice none 0 0) (.slice none 0 0)) 29)) := ((Below.refl _ _).alloc (by omega) _).alloc (by simp; omega) _
  have hst0 : R60 w g gr gs (gs + 1) A c LB ((w.alloc (.cells (shC 0 0 (.slice none 0 0) 0 0 (.slice none 0 0) (.slice none 0 0)) 29)).alloc (.cells (shC 0 0 (.slice none 0 0) 0 0 (.slice none 0 0) (.slice none 0 0)) 29)) k' e := by
    refine ⟨(hg ▸ Blk.new w 29 (shC 0 0 (.slice none 0 0) 0 0 (.slice none 0 0) (.slice none 0 0)) : Blk (w.alloc (.cells (shC 0 0 (.slice none 0 0) 0 0 (.slice none 0 0) (.slice none 0 0)) 29)) g 29 (shC 0 0 (.slice none 0 0) 0 0 (.slice none 0 0) (.slice none 0 0))).alloc _, hb.below hBx (by omega), hs1 ▸ Blk.new _ _ _, only_of_below (hg ▸ hBx) _, by simp; omega⟩
  have HST := Lib.hid hst0
  have HLB := Lib.hid hlb
  have HK0 := Lib.hid hk0
  clear h hin0 hb hst0 hlb hk0 hBx hs1
  go_enter Try.func61, Try.ntmps61
  go_upto_region 2 with (fail)
  change Code.wp _ _ _ _ ((w.alloc (.cells (shC 0 0 (.slice none 0 0) 0 0 (.slice none 0 0) (.slice none 0 0)) 29)).alloc (.cells (shC 0 0 (.slice none 0 0) 0 0 (.slice none 0 0) (.slice none 0 0)) 29))
  generalize ((w.alloc (.cells (shC 0 0 (.slice none 0 0) 0 0 (.slice none 0 0) (.slice none 0 0)) 29)).alloc (.cells (shC 0 0 (.slice none 0 0) 0 0 (.slice none 0 0) (.slice none 0 0)) 29)) = W0 at HST ⊢
  try rw [hgs]
  obtain ⟨b1, hb1⟩ : ∃ b1, (e == 0 && decide (LB.length ≤ k')) = b1 := ⟨_, rfl⟩
  obtain ⟨e', he'⟩ : ∃ e', (if b1 then 10 else e) = e' := ⟨_, rfl⟩
  have HB1 := Lib.hid hb1
  have HE' := Lib.hid he'
  clear hb1 he'
  have r0 : W0.cell? ⟨gr, 0, none⟩ = some (.slice A LB.length c) := (HST.out.rd.cell 0).trans rfl
  have r1 : W0.cell? ⟨gr, 1, none⟩ = some (.int .i64 (k' : Int)) := (HST.out.rd.cell 1).trans rfl
  have r2 : W0.cell? ⟨gr, 2, none⟩ = some (.int .i64 e) := (HST.out.rd.cell 2).trans rfl
  go_cut [3, 27] (fun x y wx => x = .pointer (some ⟨gs, 0, none⟩) ∧ y = .bool b1 ∧ R60 w g gr gs (gs + 1) A c LB wx k' e)
  case first =>
    by_cases he : e = 0
    · have d1 : (e == 0) = true := by simp [he]
      by_cases hl : (LB.length : Int) ≤ (k' : Int)
      · have d2 : decide (LB.length ≤ k') = true := decide_eq_true (by omega)
        have HV : Hid (b1 = true) := by
          show _ = _
          rw [← HB1.out, d1, decide_eq_true (by omega)]
          rfl
        clear he hl
        go_quiet (fail)
        go_wp2
        go_meet
        case rel => exact ⟨rfl, by rw [HV.out], HST.out.drewN _⟩
      · have d2 : decide (LB.length ≤ k') = false := decide_eq_false (by omega)
        have HV : Hid (b1 = false) := by
          show _ = _
          rw [← HB1.out, d1, decide_eq_false (by omega)]
          rfl
        clear he hl
        go_quiet (fail)
        go_wp2
        go_meet
        case rel => exact ⟨rfl, by rw [HV.out], HST.out.drewN _⟩
    · have d1 : (e == 0) = false := beq_eq_false_iff_ne.2 he
      have HV : Hid (b1 = false) := by
        show _ = _
        rw [← HB1.out, d1]
        rfl
      clear he
      go_quiet (fail)
      go_wp2
      go_meet
      case rel => exact ⟨rfl, by rw [HV.out], HST.out.drewN _⟩
  case rest =>
  obtain ⟨rfl, rfl, hst1⟩ := hcut
  have HS1 := Lib.hid hst1
  clear hst1 HST r0 r1 r2
  go_upto_if 27 with (fail)
  go_cut [3] (fun x wx => x = .pointer (some ⟨gs, 0, none⟩) ∧ R60 w g gr gs (gs + 1) A c LB wx k' e')
  case first =>
    cases b1
    · have HV : Hid (e' = e) := HE'.out.symm
      go_wp2
      go_meet
      case rel => exact ⟨rfl, by rw [HV.out]; exact HS1.out⟩
    · have he0 : e = 0 := by
        have := HB1.out
        simp only [Bool.and_eq_true, beq_iff_eq] at this
        exact this.1
      have HV : Hid (e' = 10) := HE'.out.symm
      have CF := ref_Fail_any wc gr A LB.length c k' e 10 HS1.out.rd
      rw [if_pos he0] at CF
      have CF := Lib.hid CF
      clear he0
      go_wp2_with fail
      refine CF.out.mono ?_
      rintro x w2 ⟨rfl, hb2, hg2⟩
      have HS2 := Lib.hid (HS1.out.fail ORD.out hb2 hg2)
      clear hb2 hg2
      go_wp2
      go_meet
      case rel => exact ⟨rfl, by rw [HV.out]; exact HS2.out⟩
  case rest =>
  obtain ⟨rfl, hst2⟩ := hcut
  have HS2 := Lib.hid hst2
  clear hst2 HS1
  obtain ⟨b2, hb2⟩ : ∃ b2, (e' == 0 && decide (lb.head? ≠ some 83)) = b2 := ⟨_, rfl⟩
  obtain ⟨e1, he1⟩ : ∃ e1, (if b2 then 11 else e') = e1 := ⟨_, rfl⟩
  have HB2 := Lib.hid hb2
  have HE1 := Lib.hid he1
  clear hb2 he1
  have r0 : wc.cell? ⟨gr, 0, none⟩ = some (.slice A LB.length c) := (HS2.out.rd.cell 0).trans rfl
  have r1 : wc.cell? ⟨gr, 1, none⟩ = some (.int .i64 (k' : Int)) := (HS2.out.rd.cell 1).trans rfl
  have r2 : wc.cell? ⟨gr, 2, none⟩ = some (.int .i64 e') := (HS2.out.rd.cell 2).trans rfl
  go_upto_region 4 with (fail)
  go_cut [3, 47] (fun x y wx => x = .pointer (some ⟨gs, 0, none⟩) ∧ y = .bool b2 ∧ R60 w g gr gs (gs + 1) A c LB wx k' e')
  case first =>
    by_cases he : e' = 0
    · have d1 : (e' == 0) = true := by simp [he]
      have hne : e = 0 ∧ k' < LB.length := by
        have h1 := HE'.out
        rw [he] at h1
        cases hb : b1
        · rw [hb] at h1
          have h2 := HB1.out
          rw [hb] at h2
          have h3 : e = 0 := h1
          rw [h3] at h2
          refine ⟨h3, ?_⟩
          simpa using h2
        · rw [hb] at h1
          exact absurd h1 (by simp)
      have hkK := HK0.out hne.1
      obtain ⟨b0, off, hA, hcell⟩ := (HIN.out _ HS2.out.grow).all (by omega)
      have hcl := hcell k' hne.2
      have hhd : lb.head? = some LB[k'] := by
        have h3 : LB[K]? = LB[k']? := by rw [hkK]
        rw [← HLB.out, List.head?_drop, h3, List.getElem?_eq_getElem hne.2]
      obtain ⟨z, hz⟩ : ∃ z, LB[k'] = z := ⟨_, rfl⟩
      rw [hz] at hcl hhd
      subst hA
      have hk1 : (k' : Int) < (LB.length : Int) := by omega
      have hlt := hne.2
      clear hcell hz hne hkK
      by_cases hz : z = 83
      · have d2 : (z != 83) = false := by simp [hz]
        have HV : Hid (b2 = false) := by
          show _ = _
          rw [← HB2.out, hhd, hz]
          simp
        clear he hz hhd
        go_quiet (fail)
        go_wp2
        go_meet
        case rel => exact ⟨rfl, by rw [HV.out], HS2.out.drewN _⟩
      · have d2 : (z != 83) = true := bne_iff_ne.2 hz
        have HV : Hid (b2 = true) := by
          show _ = _
          rw [← HB2.out, hhd, d1]
          simp [hz]
        clear he hz hhd
        go_quiet (fail)
        go_wp2
        go_meet
        case rel => exact ⟨rfl, by rw [HV.out], HS2.out.drewN _⟩
    · have d1 : (e' == 0) = false := beq_eq_false_iff_ne.2 he
      have HV : Hid (b2 = false) := by
        show _ = _
        rw [← HB2.out, d1]
        rfl
      clear he
      go_quiet (fail)
      go_wp2
      go_meet
      case rel => exact ⟨rfl, by rw [HV.out], HS2.out.drewN _⟩
  case rest =>
  obtain ⟨rfl, rfl, hst3⟩ := hcut
  have HS3 := Lib.hid hst3
  clear hst3 HS2 r0 r1 r2
  go_upto_if 47 with (fail)
  go_cut [3] (fun x wx => x = .pointer (some ⟨gs, 0, none⟩) ∧ R60 w g gr gs (gs + 1) A c LB wx k' e1)
  case first =>
    cases b2
    · have HV : Hid (e1 = e') := HE1.out.symm
      go_wp2
      go_meet
      case rel => exact ⟨rfl, by rw [HV.out]; exact HS3.out⟩
    · have he0 : e' = 0 := by
        have := HB2.out
        simp only [Bool.and_eq_true, beq_iff_eq] at this
        exact this.1
      have HV : Hid (e1 = 11) := HE1.out.symm
      have CF := ref_Fail_any wc gr A LB.length c k' e' 11 HS3.out.rd
      rw [if_pos he0] at CF
      have CF := Lib.hid CF
      clear he0
      go_wp2_with fail
      refine CF.out.mono ?_
      rintro x w2 ⟨rfl, hb2, hg2⟩
      have HS4 := Lib.hid (HS3.out.fail ORD.out hb2 hg2)
      clear hb2 hg2
      go_wp2
      go_meet
      case rel => exact ⟨rfl, by rw [HV.out]; exact HS4.out⟩
  case rest =>
  obtain ⟨rfl, hst4⟩ := hcut
  have HS4 := Lib.hid hst4
  clear hst4 HS3
  have HEE : Hid (e1 = rE1 lb e) := by
    show _ = _
    have hE1 := HE1.out
    have hE' := HE'.out
    have hB2 := HB2.out
    have hB1 := HB1.out
    have hl := congrArg List.length HLB.out
    rw [List.length_drop] at hl
    unfold rE1
    by_cases he : e ≠ 0
    · rw [if_pos he]
      have c1 : (e == 0) = false := beq_eq_false_iff_ne.2 he
      rw [c1, Bool.false_and] at hB1
      subst hB1
      have h2 : e = e' := hE'
      subst h2
      rw [c1, Bool.false_and] at hB2
      subst hB2
      exact hE1.symm
    · rw [if_neg he]
      have he0 : e = 0 := Classical.not_not.1 he
      have hkK := HK0.out he0
      subst he0
      by_cases hz : lb.length = 0
      · rw [if_pos hz]
        have c1 : decide (LB.length ≤ k') = true := decide_eq_true (by omega)
        rw [c1] at hB1
        have hB1' : b1 = true := by rw [← hB1]; rfl
        subst hB1'
        have h2 : (10 : Int) = e' := hE'
        subst h2
        have hB2' : b2 = false := by rw [← hB2]; rfl
        subst hB2'
        exact hE1.symm
      · rw [if_neg hz]
        have c1 : decide (LB.length ≤ k') = false := decide_eq_false (by omega)
        rw [c1] at hB1
        have hB1' : b1 = false := by rw [← hB1]; rfl
        subst hB1'
        have h2 : (0 : Int) = e' := hE'
        subst h2
        by_cases h83 : lb.head? ≠ some 83
        · rw [if_pos h83]
          have hB2' : b2 = true := by rw [← hB2, decide_eq_true h83]; rfl
          subst hB2'
          exact hE1.symm
        · rw [if_neg h83]
          have hB2' : b2 = false := by rw [← hB2, decide_eq_false h83]; rfl
          subst hB2'
          exact hE1.symm
  have HE0 : Hid (e1 = 0 → e = 0 ∧ lb.head? = some 83) := by
    show _ → _
    intro h1
    have hE1 := HE1.out
    rw [h1] at hE1
    have hE' := HE'.out
    have hB2 := HB2.out
    have hB1 := HB1.out
    cases b2
    · have h2 : e' = 0 := hE1
      rw [h2] at hE' hB2
      cases b1
      · have h3 : e = 0 := hE'
        refine ⟨h3, ?_⟩
        simpa using hB2
      · exact absurd hE' (by simp)
    · exact absurd hE1 (by simp)
  have r1 : wc.cell? ⟨gr, 1, none⟩ = some (.int .i64 (k' : Int)) := (HS4.out.rd.cell 1).trans rfl
  have fr := HS4.out.rd.frozen 1
  have HSUM : Hid ((k' : Int) + 1 = ((k' + 1 : Nat) : Int)) := by
    show _ = _
    omega
  have H5 : Hid (S6 w g gr gs (gs + 1) A c LB K lb (wc.setCell ⟨gr, 1, none⟩ (.int .i64 ((k' : Int) + 1))) 0 0 (.slice none 0 0) [] 0 0 (.slice none 0 0) [] (.slice none 0 0) [] 1 e1) := by
    have o1 := ORD.out.h1
    have o2 := ORD.out.h2
    have hg : wc.grownBy (wc.setCell ⟨gr, 1, none⟩ (.int .i64 ((k' : Int) + 1))) (some gr) := only_setCell (p := ⟨gr, 1, none⟩) (World.grownBy.refl wc (some gr)) (.inl rfl) _
    have hne : ∀ j, j ≠ gr → some j ≠ some gr := fun j hj hh => hj (by injection hh)
    have hrd : Blk (wc.setCell ⟨gr, 1, none⟩ (.int .i64 ((k' : Int) + 1))) gr 90 (rdCells A LB.length c (k' + 1) e1) := by
      have := Blk.setL (l := [Value.slice A LB.length c, .int .i64 (k' : Int), .int .i64 e1]) HS4.out.rd 1 (.int .i64 ((k' : Int) + 1))
      rw [HSUM.out] at this ⊢
      exact this
    refine ⟨HS4.out.res.grown hg (hne _ (by omega)), ⟨HLB.out, k' + 1, hrd, by omega, fun h1 => ?_⟩, HS4.out.cm.grown hg (hne _ (by omega)), World.grownBy.trans HS4.out.grow hg, Nat.le_trans HS4.out.sz hg.size, own_nil _ _ _ _, own_nil _ _ _ _, own_nil _ _ _ _⟩
    obtain ⟨q1, q2⟩ := HE0.out h1
    have q3 := HK0.out q1
    refine ⟨by omega, ?_⟩
    have q4 : (LB.drop K).head? ≠ none := by rw [HLB.out, q2]; simp
    rw [List.head?_drop] at q4
    have q5 : K < LB.length := by
      rcases Nat.lt_or_ge K LB.length with q | q
      · exact q
      · exact absurd (List.getElem?_eq_none q) q4
    omega
  clear HE1 HE' HB1 HB2 HK0
  go_upto_region 7 with (fail)
  generalize wc.setCell ⟨gr, 1, none⟩ (.int .i64 ((k' : Int) + 1)) = W5 at H5 ⊢
  clear r1 fr HS4 HSUM
  have HNUM := Lib.hid (fun (W : World) (k : Nat) (e : Int) (z : RS W gr A c LB K lb k e) => z.num_le hbyt (most := 18446744073709551615) (by decide))
  have HSML := Lib.hid (fun (W : World) (k : Nat) (e : Int) (z : RS W gr A c LB K lb k e) => z.num_le hbyt (most := 65535) (by decide))
  have HSIX := Lib.hid (fun (W : World) (k : Nat) (e : Int) (z : RS W gr A c LB K lb k e) => z.num_le hbyt (most := 64) (by decide))
  obtain ⟨⟨i, k1, ei⟩, hI⟩ : ∃ r, rnum lb 1 e1 18446744073709551615 = r := ⟨_, rfl⟩
  have C1 := H5.out.num ORD.out HIN.out
  have hi := HNUM.out _ _ _ H5.out.rd
  rw [hI] at C1 hi
  simp only at C1 hi
  have C1 := Lib.hid C1
  have HI := Lib.hid hI
  have HIB := Lib.hid hi
  clear hI hi
  go_wp2_with fail
  refine C1.out.mono ?_
  rintro x w6 ⟨rfl, h6⟩
  have H6 := Lib.hid h6
  have z0 := h6.cm.sh.z0
  have y0 := h6.cm.frozen 0
  have h7 := h6.setc ORD.out 0 (.int .u64 i) rfl h6.on h6.oh h6.ol
  have H7 := Lib.hid h7
  clear h6 h7 C1 H5
  go_upto_region 8 with (fail)
  change Code.wp _ _ _ _ (w6.setCell ⟨gs, 0, none⟩ (.int .u64 i))
  generalize (w6.setCell ⟨gs, 0, none⟩ (.int .u64 i)) = W7 at H7 ⊢
  clear z0 y0 H6
  obtain ⟨⟨t, k2, et⟩, hT⟩ : ∃ r, rnum lb k1 ei 18446744073709551615 = r := ⟨_, rfl⟩
  have C2 := H7.out.num ORD.out HIN.out
  have ht := HNUM.out _ _ _ H7.out.rd
  rw [hT] at C2 ht
  simp only at C2 ht
  have C2 := Lib.hid C2
  have HT := Lib.hid hT
  have HTB := Lib.hid ht
  clear hT ht
  go_wp2_with fail
  refine C2.out.mono ?_
  rintro x w8 ⟨rfl, h8⟩
  have z1 := h8.cm.sh.z1
  have y1 := h8.cm.frozen 1
  have H9 := Lib.hid (h8.setc ORD.out 1 (.int .u64 t) rfl h8.on h8.oh h8.ol)
  clear h8 C2 H7
  go_upto_region 9 with (fail)
  change Code.wp _ _ _ _ (w8.setCell ⟨gs, 1, none⟩ (.int .u64 t))
  generalize (w8.setCell ⟨gs, 1, none⟩ (.int .u64 t)) = W9 at H9 ⊢
  clear z1 y1
  obtain ⟨⟨cni, k3, ec⟩, hC⟩ : ∃ r, rnum lb k2 et 64 = r := ⟨_, rfl⟩
  have C3 := H9.out.small ORD.out HIN.out 64 (.inl rfl)
  have hc := HSIX.out _ _ _ H9.out.rd
  rw [hC] at C3 hc
  simp only at C3 hc
  obtain ⟨cn, rfl⟩ := Int.eq_ofNat_of_zero_le hc.1
  have hcn : cn ≤ 64 := by omega
  have C3 := Lib.hid C3
  have HC := Lib.hid hC
  clear hC hc
  go_wp2_with fail
  refine C3.out.mono ?_
  rintro x w10 ⟨rfl, h10⟩
  have H10 := Lib.hid h10
  clear h10 C3 H9
  obtain ⟨⟨ns, k4, en⟩, rN⟩ : ∃ r, decNodes lb cn k3 ec = r := ⟨_, rfl⟩
  have HNN := Lib.hid rN
  clear rN
  go_upto_block 0 with (fail)
  go_cut [3] (fun x wx => x = .pointer (some ⟨gs, 0, none⟩) ∧ ∃ (sv : Value) (L : List Int), S6 w g gr gs (gs + 1) A c LB K lb wx i t sv L 0 0 (.slice none 0 0) [] (.slice none 0 0) [] k4 en ∧ L.length ≤ 64 ∧ (∀ z ∈ L, 0 ≤ z ∧ z ≤ 65535) ∧ (en = 0 → L = ns))
  case first =>
    go_wp2_with fail
    go_loopw [4, 5] (fun kk _ wr => ∃ (rem : Nat) (sv : Value) (L : List Int) (kj : Nat) (ej : Int), kk = .int .i64 (rem : Int) ∧ rem ≤ cn ∧ L.length + rem = cn ∧ (∀ z ∈ L, 0 ≤ z ∧ z ≤ 65535) ∧ S6 w g gr gs (gs + 1) A c LB K lb wr i t sv L 0 0 (.slice none 0 0) [] (.slice none 0 0) [] kj ej ∧ (ns, k4, en) = (L ++ (decNodes lb rem kj ej).1, (decNodes lb rem kj ej).2)) (fun kk _ _ => (intOf kk).toNat)
    case atStart => exact ⟨cn, _, [], k3, ec, rfl, by omega, by simp, (fun z hz => by cases hz), H10.out, by rw [HNN.out]; simp⟩
    case round =>
      clear H10
      obtain ⟨rem, sv, L, kj, ej, rfl, hrem, hlen, hwf, hst, heq⟩ := hrel
      have HS := Lib.hid hst
      have HWF := Lib.hid hwf
      have HEQ := Lib.hid heq
      have HLEN := Lib.hid hlen
      have r2 := hst.rd.cell2
      clear hst hwf heq hlen
      cases rem with
      | zero =>
        have hgt : decide (((0 : Nat) : Int) > 0) = false := by decide
        have HF : Hid (L = ns ∧ kj = k4 ∧ ej = en) := by
          have := HEQ.out
          simp only [decNodes, List.append_nil, Prod.mk.injEq] at this
          exact ⟨this.1.symm, this.2.1.symm, this.2.2.symm⟩
        go_wp2
        go_meet
        case rel =>
          obtain ⟨f1, f2, f3⟩ := HF.out
          subst f1 f2 f3
          exact ⟨rfl, _, _, HS.out, by have := HLEN.out; omega, HWF.out, fun _ => rfl⟩
      | succ rem =>
        have hgt : decide (((rem + 1 : Nat) : Int) > 0) = true := decide_eq_true (by omega)
        by_cases he : ej = 0
        · have hE : (ej == 0) = true := by simp [he]
          clear he
          obtain ⟨⟨v7, k7, e7⟩, hr7⟩ : ∃ r, rnum lb kj ej 65535 = r := ⟨_, rfl⟩
          have C2 := HS.out.small ORD.out HIN.out 65535 (.inr rfl)
          have hv := HSML.out _ _ _ HS.out.rd
          rw [hr7] at C2 hv
          simp only at C2 hv
          have HDD : Hid (decNodes lb (rem + 1) kj ej = (v7 :: (decNodes lb rem k7 e7).1, (decNodes lb rem k7 e7).2)) := by
            show _ = _
            simp only [decNodes, hr7]
          have C2 := Lib.hid C2
          have HV := Lib.hid hv
          clear hr7 hv
          go_wp2_with fail
          refine C2.out.mono ?_
          rintro x w5 ⟨rfl, h5⟩
          have H5 := Lib.hid h5
          have z2 := h5.cm.sh.z2
          clear h5 C2 r2
          go_wp2_with (at_builtin; refine push_own (w0 := w5) (W := w5) (gs + 1) rfl _ _ 23 3 (.int .i64 0) 8 rfl Try.underlying23 info_int rfl (by omega) sv (nums .i64 L) (.int .i64 v7) L.length (nums_length .i64 L).symm rfl rfl rfl H5.out.on (Below.refl _ _) H5.out.sz (by have := HLEN.out; omega) ?_; intro v8 w8 ho8 _ hg8 _; have H8 : Hid (OwnN .i64 3 w8 (gs + 1) v8 (L ++ [v7])) := (by show OwnN _ _ _ _ _ _; unfold OwnN; rw [List.length_append, nums_append]; exact ho8); have HG8 := Lib.hid hg8; have b28 := H5.out.cm.grown hg8 (fun hh => by have := own_base H5.out.on _ hh.symm; omega); have c28 := b28.sh.z2; have f28 := b28.frozen 2; obtain ⟨A8, c8, rfl⟩ := own_slice ho8; clear b28 ho8 hg8)
          go_roundw
          case rel => exact ⟨rem, _, L ++ [v7], k7, e7, by go_num, by omega, by have := HLEN.out; simp; omega, (fun z hz => by rcases List.mem_append.1 hz with q | q; exact HWF.out z q; rw [List.mem_singleton] at q; subst q; exact ⟨HV.out.1, HV.out.2.1⟩), H5.out.appN ORD.out HG8.out H8.out, by rw [HEQ.out, HDD.out]; simp⟩
          case measure => simp [intOf]
        · have hE : (ej == 0) = false := beq_eq_false_iff_ne.2 he
          have HF : Hid (ej = en) := by
            have h1 := congrArg (fun z => z.2.2) HEQ.out
            have h2 := decNodes_err (lb := lb) he (rem + 1) kj
            simp only at h1
            show _ = _
            rw [h1, h2]
          have HNE := Lib.hid he
          clear he
          go_wp2
          go_meet
          case rel => exact ⟨rfl, _, _, by rw [← HF.out]; exact ⟨HS.out.res, HS.out.rd.err HNE.out, HS.out.cm, HS.out.grow, HS.out.sz, HS.out.on, HS.out.oh, HS.out.ol⟩, by have := HLEN.out; omega, HWF.out, fun h0 => absurd (HF.out.trans h0) HNE.out⟩
  case rest =>
  obtain ⟨rfl, svN, LN, hstN, hlnN, hwfN, heqN⟩ := hcut
  have HSN := Lib.hid hstN
  have HWN := Lib.hid hwfN
  have HQN := Lib.hid heqN
  clear hstN hwfN heqN H10
  obtain ⟨⟨lim, k5, el⟩, r11⟩ : ∃ r, rnum lb k4 en 65535 = r := ⟨_, rfl⟩
  have C11 := HSN.out.small ORD.out HIN.out 65535 (.inr rfl)
  have b11 := HSML.out _ _ _ HSN.out.rd
  rw [r11] at C11 b11
  simp only at C11 b11
  have C11 := Lib.hid C11
  have HLm := Lib.hid r11
  have HLmB := Lib.hid b11
  clear r11 b11
  go_wp2_with fail
  refine C11.out.mono ?_
  rintro x w11 ⟨rfl, h11⟩
  have z11 := h11.cm.sh.z3
  have y11 := h11.cm.frozen 3
  have H11 := Lib.hid (h11.setc ORD.out 3 (.int .i64 lim) rfl h11.on h11.oh h11.ol)
  clear h11 C11 HSN
  go_upto_region 15 with (fail)
  change Code.wp _ _ _ _ (w11.setCell ⟨gs, 3, none⟩ (.int .i64 lim))
  generalize (w11.setCell ⟨gs, 3, none⟩ (.int .i64 lim)) = W11 at H11 ⊢
  clear z11 y11
  obtain ⟨⟨nxt, k6, ex⟩, r12⟩ : ∃ r, rnum lb k5 el 18446744073709551615 = r := ⟨_, rfl⟩
  have C12 := H11.out.num ORD.out HIN.out
  have b12 := HNUM.out _ _ _ H11.out.rd
  rw [r12] at C12 b12
  simp only at C12 b12
  have C12 := Lib.hid C12
  have HNx := Lib.hid r12
  have HNxB := Lib.hid b12
  clear r12 b12
  go_wp2_with fail
  refine C12.out.mono ?_
  rintro x w12 ⟨rfl, h12⟩
  have z12 := h12.cm.sh.z4
  have y12 := h12.cm.frozen 4
  have H12 := Lib.hid (h12.setc ORD.out 4 (.int .u64 nxt) rfl h12.on h12.oh h12.ol)
  clear h12 C12 H11
  go_upto_region 16 with (fail)
  change Code.wp _ _ _ _ (w12.setCell ⟨gs, 4, none⟩ (.int .u64 nxt))
  generalize (w12.setCell ⟨gs, 4, none⟩ (.int .u64 nxt)) = W12 at H12 ⊢
  clear z12 y12
  obtain ⟨⟨chni, k7, eh⟩, r13⟩ : ∃ r, rnum lb k6 ex 64 = r := ⟨_, rfl⟩
  have C13 := H12.out.small ORD.out HIN.out 64 (.inl rfl)
  have b13 := HSIX.out _ _ _ H12.out.rd
  rw [r13] at C13 b13
  simp only at C13 b13
  obtain ⟨chn, rfl⟩ := Int.eq_ofNat_of_zero_le b13.1
  have hchn : chn ≤ 64 := by omega
  have C13 := Lib.hid C13
  have HCh := Lib.hid r13
  clear r13 b13
  go_wp2_with fail
  refine C13.out.mono ?_
  rintro x w13 ⟨rfl, h13⟩
  have H13 := Lib.hid h13
  clear h13 C13 H12
  obtain ⟨⟨hs, k8, eH⟩, rH⟩ : ∃ r, decH lb chn k7 eh = r := ⟨_, rfl⟩
  have HNH := Lib.hid rH
  clear rH
  go_upto_block 2 with (fail)
  go_cut [3] (fun x wx => x = .pointer (some ⟨gs, 0, none⟩) ∧ ∃ (sv : Value) (L : List Hd), S6 w g gr gs (gs + 1) A c LB K lb wx i t svN LN lim nxt sv L (.slice none 0 0) [] k8 eH ∧ L.length ≤ 64 ∧ (∀ z ∈ L, z.Wf) ∧ (eH = 0 → L = hs))
  case first =>
    go_wp2_with fail
    go_loopw [6, 7] (fun kk _ wr => ∃ (rem : Nat) (sv : Value) (L : List Hd) (kj : Nat) (ej : Int), kk = .int .i64 (rem : Int) ∧ rem ≤ chn ∧ L.length + rem = chn ∧ (∀ z ∈ L, z.Wf) ∧ S6 w g gr gs (gs + 1) A c LB K lb wr i t svN LN lim nxt sv L (.slice none 0 0) [] kj ej ∧ (hs, k8, eH) = (L ++ (decH lb rem kj ej).1, (decH lb rem kj ej).2)) (fun kk _ _ => (intOf kk).toNat)
    case atStart => exact ⟨chn, _, [], k7, eh, rfl, by omega, by simp, (fun z hz => by cases hz), H13.out, by rw [HNH.out]; simp⟩
    case round =>
      clear H13
      obtain ⟨rem, sv, L, kj, ej, rfl, hrem, hlen, hwf, hst, heq⟩ := hrel
      have HS := Lib.hid hst
      have HWF := Lib.hid hwf
      have HEQ := Lib.hid heq
      have HLEN := Lib.hid hlen
      have r2 := hst.rd.cell2
      clear hst hwf heq hlen
      cases rem with
      | zero =>
        have hgt : decide (((0 : Nat) : Int) > 0) = false := by decide
        have HF : Hid (L = hs ∧ kj = k8 ∧ ej = eH) := by
          have := HEQ.out
          simp only [decH, List.append_nil, Prod.mk.injEq] at this
          exact ⟨this.1.symm, this.2.1.symm, this.2.2.symm⟩
        go_wp2
        go_meet
        case rel =>
          obtain ⟨f1, f2, f3⟩ := HF.out
          subst f1 f2 f3
          exact ⟨rfl, _, _, HS.out, by have := HLEN.out; omega, HWF.out, fun _ => rfl⟩
      | succ rem =>
        have hgt : decide (((rem + 1 : Nat) : Int) > 0) = true := decide_eq_true (by omega)
        by_cases he : ej = 0
        · have hE : (ej == 0) = true := by simp [he]
          clear he
          obtain ⟨gx, hgx⟩ : ∃ gx, wr.heap.size = gx := ⟨_, rfl⟩
          have hBx : gs + 1 ≤ gx := hgx ▸ HS.out.sz
          have hxne : gx ≠ gr := by have := ORD.out.h1; have := ORD.out.h2; omega
          have N1 : Hid (svN.ownBlock ≠ some gx) := fun hh => by have := (World.ownsRow.lt HS.out.on gx hh).2; omega
          have N2 : Hid (sv.ownBlock ≠ some gx) := fun hh => by have := (World.ownsRow.lt HS.out.oh gx hh).2; omega
          have N3 : Hid ((Value.slice none 0 0).ownBlock ≠ some gx) := fun hh => by have := (World.ownsRow.lt HS.out.ol gx hh).2; omega
          have hx0 : Blk (wr.alloc (.cells (hdA ⟨0, 0, 0, 0, 0⟩) 98)) gx 98 (hdA ⟨0, 0, 0, 0, 0⟩) := hgx ▸ Blk.new _ _ _
          have h0 := HS.out.alloc ORD.out (.cells (hdA ⟨0, 0, 0, 0, 0⟩) 98)
          clear HS
          go_upto_region 20 with (fail)
          change Code.wp _ _ _ _ (wr.alloc (.cells (hdA ⟨0, 0, 0, 0, 0⟩) 98))
          generalize wr.alloc (.cells (hdA ⟨0, 0, 0, 0, 0⟩) 98) = Q0 at hx0 h0 ⊢
          try rw [hgx]
          clear hgx r2
          obtain ⟨⟨a1, ka, ea⟩, rq0⟩ : ∃ r, rnum lb kj ej 65535 = r := ⟨_, rfl⟩
          have Yq0 := h0.smallB ORD.out HIN.out hx0 hxne
          have bq0 := HSML.out _ _ _ h0.rd
          rw [rq0] at Yq0 bq0
          simp only at Yq0 bq0
          have Yq0 := Lib.hid Yq0
          have Rq0 := Lib.hid rq0
          have Bq0 := Lib.hid bq0
          clear rq0 bq0 h0 hx0
          go_wp2_with fail
          refine Yq0.out.mono ?_
          rintro x q0 ⟨rfl, hq0, hxq0⟩
          have xq0 : q0.cell? ⟨gx, 0, none⟩ = some (.int .i64 0) := (hxq0.cell 0).trans rfl
          have yq0 := hxq0.frozen 0
          have hyq0 : Blk (q0.setCell ⟨gx, 0, none⟩ (.int .i64 a1)) gx 98 (hdA ⟨a1, 0, 0, 0, 0⟩) := Blk.setL (l := [Value.int .i64 0, .int .i64 0, .int .u64 0, .int .u64 0, .int .u64 0]) hxq0 0 _
          have hzq0 := hq0.setX ORD.out hBx N1.out N2.out N3.out 0 (.int .i64 a1)
          clear hq0 hxq0 Yq0
          go_upto_region 21 with (fail)
          change Code.wp _ _ _ _ (q0.setCell ⟨gx, 0, none⟩ (.int .i64 a1))
          generalize q0.setCell ⟨gx, 0, none⟩ (.int .i64 a1) = Pq0 at hyq0 hzq0 ⊢
          clear xq0 yq0
          obtain ⟨⟨b1, kb, eb⟩, rq1⟩ : ∃ r, rnum lb ka ea 65535 = r := ⟨_, rfl⟩
          have Yq1 := hzq0.smallB ORD.out HIN.out hyq0 hxne
          have bq1 := HSML.out _ _ _ hzq0.rd
          rw [rq1] at Yq1 bq1
          simp only at Yq1 bq1
          have Yq1 := Lib.hid Yq1
          have Rq1 := Lib.hid rq1
          have Bq1 := Lib.hid bq1
          clear rq1 bq1 hzq0 hyq0
          go_wp2_with fail
          refine Yq1.out.mono ?_
          rintro x q1 ⟨rfl, hq1, hxq1⟩
          have xq1 : q1.cell? ⟨gx, 1, none⟩ = some (.int .i64 0) := (hxq1.cell 1).trans rfl
          have yq1 := hxq1.frozen 1
          have hyq1 : Blk (q1.setCell ⟨gx, 1, none⟩ (.int .i64 b1)) gx 98 (hdA ⟨a1, b1, 0, 0, 0⟩) := Blk.setL (l := [Value.int .i64 a1, .int .i64 0, .int .u64 0, .int .u64 0, .int .u64 0]) hxq1 1 _
          have hzq1 := hq1.setX ORD.out hBx N1.out N2.out N3.out 1 (.int .i64 b1)
          clear hq1 hxq1 Yq1
          go_upto_region 22 with (fail)
          change Code.wp _ _ _ _ (q1.setCell ⟨gx, 1, none⟩ (.int .i64 b1))
          generalize q1.setCell ⟨gx, 1, none⟩ (.int .i64 b1) = Pq1 at hyq1 hzq1 ⊢
          clear xq1 yq1
          obtain ⟨⟨c1, kc, ec2⟩, rq2⟩ : ∃ r, rnum lb kb eb 18446744073709551615 = r := ⟨_, rfl⟩
          have Yq2 := hzq1.numB ORD.out HIN.out hyq1 hxne
          have bq2 := HNUM.out _ _ _ hzq1.rd
          rw [rq2] at Yq2 bq2
          simp only at Yq2 bq2
          have Yq2 := Lib.hid Yq2
          have Rq2 := Lib.hid rq2
          have Bq2 := Lib.hid bq2
          clear rq2 bq2 hzq1 hyq1
          go_wp2_with fail
          refine Yq2.out.mono ?_
          rintro x q2 ⟨rfl, hq2, hxq2⟩
          have xq2 : q2.cell? ⟨gx, 2, none⟩ = some (.int .u64 0) := (hxq2.cell 2).trans rfl
          have yq2 := hxq2.frozen 2
          have hyq2 : Blk (q2.setCell ⟨gx, 2, none⟩ (.int .u64 c1)) gx 98 (hdA ⟨a1, b1, c1, 0, 0⟩) := Blk.setL (l := [Value.int .i64 a1, .int .i64 b1, .int .u64 0, .int .u64 0, .int .u64 0]) hxq2 2 _
          have hzq2 := hq2.setX ORD.out hBx N1.out N2.out N3.out 2 (.int .u64 c1)
          clear hq2 hxq2 Yq2
          go_upto_region 23 with (fail)
          change Code.wp _ _ _ _ (q2.setCell ⟨gx, 2, none⟩ (.int .u64 c1))
          generalize q2.setCell ⟨gx, 2, none⟩ (.int .u64 c1) = Pq2 at hyq2 hzq2 ⊢
          clear xq2 yq2
          obtain ⟨⟨d1, kd, ed⟩, rq3⟩ : ∃ r, rnum lb kc ec2 18446744073709551615 = r := ⟨_, rfl⟩
          have Yq3 := hzq2.numB ORD.out HIN.out hyq2 hxne
          have bq3 := HNUM.out _ _ _ hzq2.rd
          rw [rq3] at Yq3 bq3
          simp only at Yq3 bq3
          have Yq3 := Lib.hid Yq3
          have Rq3 := Lib.hid rq3
          have Bq3 := Lib.hid bq3
          clear rq3 bq3 hzq2 hyq2
          go_wp2_with fail
          refine Yq3.out.mono ?_
          rintro x q3 ⟨rfl, hq3, hxq3⟩
          have xq3 : q3.cell? ⟨gx, 3, none⟩ = some (.int .u64 0) := (hxq3.cell 3).trans rfl
          have yq3 := hxq3.frozen 3
          have hyq3 : Blk (q3.setCell ⟨gx, 3, none⟩ (.int .u64 d1)) gx 98 (hdA ⟨a1, b1, c1, d1, 0⟩) := Blk.setL (l := [Value.int .i64 a1, .int .i64 b1, .int .u64 c1, .int .u64 0, .int .u64 0]) hxq3 3 _
          have hzq3 := hq3.setX ORD.out hBx N1.out N2.out N3.out 3 (.int .u64 d1)
          clear hq3 hxq3 Yq3
          go_upto_region 24 with (fail)
          change Code.wp _ _ _ _ (q3.setCell ⟨gx, 3, none⟩ (.int .u64 d1))
          generalize q3.setCell ⟨gx, 3, none⟩ (.int .u64 d1) = Pq3 at hyq3 hzq3 ⊢
          clear xq3 yq3
          obtain ⟨⟨f1, kf, ef⟩, rq4⟩ : ∃ r, rnum lb kd ed 18446744073709551615 = r := ⟨_, rfl⟩
          have Yq4 := hzq3.numB ORD.out HIN.out hyq3 hxne
          have bq4 := HNUM.out _ _ _ hzq3.rd
          rw [rq4] at Yq4 bq4
          simp only at Yq4 bq4
          have Yq4 := Lib.hid Yq4
          have Rq4 := Lib.hid rq4
          have Bq4 := Lib.hid bq4
          clear rq4 bq4 hzq3 hyq3
          go_wp2_with fail
          refine Yq4.out.mono ?_
          rintro x q4 ⟨rfl, hq4, hxq4⟩
          have xq4 : q4.cell? ⟨gx, 4, none⟩ = some (.int .u64 0) := (hxq4.cell 4).trans rfl
          have yq4 := hxq4.frozen 4
          have hyq4 : Blk (q4.setCell ⟨gx, 4, none⟩ (.int .u64 f1)) gx 98 (hdA ⟨a1, b1, c1, d1, f1⟩) := Blk.setL (l := [Value.int .i64 a1, .int .i64 b1, .int .u64 c1, .int .u64 d1, .int .u64 0]) hxq4 4 _
          have hzq4 := hq4.setX ORD.out hBx N1.out N2.out N3.out 4 (.int .u64 f1)
          clear hq4 hxq4 Yq4
          go_upto_region 25 with (fail)
          change Code.wp _ _ _ _ (q4.setCell ⟨gx, 4, none⟩ (.int .u64 f1))
          generalize q4.setCell ⟨gx, 4, none⟩ (.int .u64 f1) = Pq4 at hyq4 hzq4 ⊢
          clear xq4 yq4
          have HL := Lib.hid hzq4
          have v0 : Pq4.cell? ⟨gx, 0, none⟩ = some (.int .i64 a1) := (hyq4.cell 0).trans rfl
          have v1 : Pq4.cell? ⟨gx, 1, none⟩ = some (.int .i64 b1) := (hyq4.cell 1).trans rfl
          have v2 : Pq4.cell? ⟨gx, 2, none⟩ = some (.int .u64 c1) := (hyq4.cell 2).trans rfl
          have v3 : Pq4.cell? ⟨gx, 3, none⟩ = some (.int .u64 d1) := (hyq4.cell 3).trans rfl
          have v4 : Pq4.cell? ⟨gx, 4, none⟩ = some (.int .u64 f1) := (hyq4.cell 4).trans rfl
          have zz := hzq4.cm.sh.z5
          have hlz := hzq4.cm.lt
          have HDD : Hid (decH lb (rem + 1) kj ej = (⟨a1, b1, c1, d1, f1⟩ :: (decH lb rem kf ef).1, (decH lb rem kf ef).2)) := by
            show _ = _
            have hd : dHd lb kj ej = (⟨a1, b1, c1, d1, f1⟩, kf, ef) := by
              unfold dHd
              simp only [Rq0.out, Rq1.out, Rq2.out, Rq3.out, Rq4.out]
            simp only [decH, hd]
          clear hzq4 hyq4
          go_wp2_with (at_builtin; refine one_own (f := hdC) (W := Pq4) Try.underlying24 info_Held rfl (by omega) hdC_len hdC_one (gs + 1) rfl _ _ rfl sv L ⟨a1, b1, c1, d1, f1⟩ rfl rfl rfl HL.out.oh HL.out.sz (by have := HLEN.out; omega) (by omega) ?_; intro v8 w8 ho8 hg8; have H8 := Lib.hid ho8; have HG8 := Lib.hid hg8; have b28 := HL.out.cm.grown hg8 (fun hh => by have := own_base HL.out.oh _ hh.symm; omega); have c28 := b28.sh.z5; have f28 := b28.frozen 5; obtain ⟨A8, c8, rfl⟩ := own_slice ho8; clear b28 ho8 hg8)
          go_roundw
          case rel => exact ⟨rem, _, L ++ [⟨a1, b1, c1, d1, f1⟩], kf, ef, by go_num, by omega, by have := HLEN.out; simp; omega, (fun z hz => by rcases List.mem_append.1 hz with q | q; exact HWF.out z q; rw [List.mem_singleton] at q; subst q; exact ⟨wf_small Bq0.out.1 Bq0.out.2.1, wf_small Bq1.out.1 Bq1.out.2.1, ⟨Bq2.out.1, Bq2.out.2.2⟩, ⟨Bq3.out.1, Bq3.out.2.2⟩, ⟨Bq4.out.1, Bq4.out.2.2⟩⟩), HL.out.appH ORD.out HG8.out (by have := H8.out; rw [List.length_append] at this ⊢; exact this), by rw [HEQ.out, HDD.out]; simp⟩
          case measure => simp [intOf]
        · have hE : (ej == 0) = false := beq_eq_false_iff_ne.2 he
          have HF : Hid (ej = eH) := by
            have h1 := congrArg (fun z => z.2.2) HEQ.out
            have h2 := decH_err (lb := lb) he (rem + 1) kj
            simp only at h1
            show _ = _
            rw [h1, h2]
          have HNE := Lib.hid he
          clear he
          go_wp2
          go_meet
          case rel => exact ⟨rfl, _, _, by rw [← HF.out]; exact ⟨HS.out.res, HS.out.rd.err HNE.out, HS.out.cm, HS.out.grow, HS.out.sz, HS.out.on, HS.out.oh, HS.out.ol⟩, by have := HLEN.out; omega, HWF.out, fun h0 => absurd (HF.out.trans h0) HNE.out⟩
  case rest =>
  obtain ⟨rfl, svH, LH, hstH, hlnH, hwfH, heqH⟩ := hcut
  have HSH := Lib.hid hstH
  have HWH := Lib.hid hwfH
  have HQH := Lib.hid heqH
  clear hstH hwfH heqH H13
  obtain ⟨⟨clni, k9, e9⟩, r14⟩ : ∃ r, rnum lb k8 eH 64 = r := ⟨_, rfl⟩
  have C14 := HSH.out.small ORD.out HIN.out 64 (.inl rfl)
  have b14 := HSIX.out _ _ _ HSH.out.rd
  rw [r14] at C14 b14
  simp only at C14 b14
  obtain ⟨cln, rfl⟩ := Int.eq_ofNat_of_zero_le b14.1
  have hcln : cln ≤ 64 := by omega
  have C14 := Lib.hid C14
  have HCl := Lib.hid r14
  clear r14 b14
  go_wp2_with fail
  refine C14.out.mono ?_
  rintro x w14 ⟨rfl, h14⟩
  have H14 := Lib.hid h14
  clear h14 C14 HSH
  obtain ⟨⟨ls, kx, eL⟩, rL⟩ : ∃ r, decL lb cln k9 e9 = r := ⟨_, rfl⟩
  have HNL := Lib.hid rL
  clear rL
  go_upto_block 4 with (fail)
  go_cut [3] (fun x wx => x = .pointer (some ⟨gs, 0, none⟩) ∧ ∃ (sv : Value) (L : List Ls), S6 w g gr gs (gs + 1) A c LB K lb wx i t svN LN lim nxt svH LH sv L kx eL ∧ L.length ≤ 64 ∧ (∀ z ∈ L, z.Wf) ∧ (eL = 0 → L = ls))
  case first =>
    go_wp2_with fail
    go_loopw [8, 9] (fun kk _ wr => ∃ (rem : Nat) (sv : Value) (L : List Ls) (kj : Nat) (ej : Int), kk = .int .i64 (rem : Int) ∧ rem ≤ cln ∧ L.length + rem = cln ∧ (∀ z ∈ L, z.Wf) ∧ S6 w g gr gs (gs + 1) A c LB K lb wr i t svN LN lim nxt svH LH sv L kj ej ∧ (ls, kx, eL) = (L ++ (decL lb rem kj ej).1, (decL lb rem kj ej).2)) (fun kk _ _ => (intOf kk).toNat)
    case atStart => exact ⟨cln, _, [], k9, e9, rfl, by omega, by simp, (fun z hz => by cases hz), H14.out, by rw [HNL.out]; simp⟩
    case round =>
      clear H14
      obtain ⟨rem, sv, L, kj, ej, rfl, hrem, hlen, hwf, hst, heq⟩ := hrel
      have HS := Lib.hid hst
      have HWF := Lib.hid hwf
      have HEQ := Lib.hid heq
      have HLEN := Lib.hid hlen
      have r2 := hst.rd.cell2
      clear hst hwf heq hlen
      cases rem with
      | zero =>
        have hgt : decide (((0 : Nat) : Int) > 0) = false := by decide
        have HF : Hid (L = ls ∧ kj = kx ∧ ej = eL) := by
          have := HEQ.out
          simp only [decL, List.append_nil, Prod.mk.injEq] at this
          exact ⟨this.1.symm, this.2.1.symm, this.2.2.symm⟩
        go_wp2
        go_meet
        case rel =>
          obtain ⟨f1, f2, f3⟩ := HF.out
          subst f1 f2 f3
          exact ⟨rfl, _, _, HS.out, by have := HLEN.out; omega, HWF.out, fun _ => rfl⟩
      | succ rem =>
        have hgt : decide (((rem + 1 : Nat) : Int) > 0) = true := decide_eq_true (by omega)
        by_cases he : ej = 0
        · have hE : (ej == 0) = true := by simp [he]
          clear he
          obtain ⟨gx, hgx⟩ : ∃ gx, wr.heap.size = gx := ⟨_, rfl⟩
          have hBx : gs + 1 ≤ gx := hgx ▸ HS.out.sz
          have hxne : gx ≠ gr := by have := ORD.out.h1; have := ORD.out.h2; omega
          have N1 : Hid (svN.ownBlock ≠ some gx) := fun hh => by have := (World.ownsRow.lt HS.out.on gx hh).2; omega
          have N2 : Hid (svH.ownBlock ≠ some gx) := fun hh => by have := (World.ownsRow.lt HS.out.oh gx hh).2; omega
          have N3 : Hid (sv.ownBlock ≠ some gx) := fun hh => by have := (World.ownsRow.lt HS.out.ol gx hh).2; omega
          have hx0 : Blk (wr.alloc (.cells (lsA ⟨0, 0, 0, 0, 0, 0⟩) 123)) gx 123 (lsA ⟨0, 0, 0, 0, 0, 0⟩) := hgx ▸ Blk.new _ _ _
          have h0 := HS.out.alloc ORD.out (.cells (lsA ⟨0, 0, 0, 0, 0, 0⟩) 123)
          clear HS
          go_upto_region 30 with (fail)
          change Code.wp _ _ _ _ (wr.alloc (.cells (lsA ⟨0, 0, 0, 0, 0, 0⟩) 123))
          generalize wr.alloc (.cells (lsA ⟨0, 0, 0, 0, 0, 0⟩) 123) = Q0 at hx0 h0 ⊢
          try rw [hgx]
          clear hgx r2
          obtain ⟨⟨a1, ka, ea⟩, rq0⟩ : ∃ r, rnum lb kj ej 65535 = r := ⟨_, rfl⟩
          have Yq0 := h0.smallB ORD.out HIN.out hx0 hxne
          have bq0 := HSML.out _ _ _ h0.rd
          rw [rq0] at Yq0 bq0
          simp only at Yq0 bq0
          have Yq0 := Lib.hid Yq0
          have Rq0 := Lib.hid rq0
          have Bq0 := Lib.hid bq0
          clear rq0 bq0 h0 hx0
          go_wp2_with fail
          refine Yq0.out.mono ?_
          rintro x q0 ⟨rfl, hq0, hxq0⟩
          have xq0 : q0.cell? ⟨gx, 0, none⟩ = some (.int .i64 0) := (hxq0.cell 0).trans rfl
          have yq0 := hxq0.frozen 0
          have hyq0 : Blk (q0.setCell ⟨gx, 0, none⟩ (.int .i64 a1)) gx 123 (lsA ⟨a1, 0, 0, 0, 0, 0⟩) := Blk.setL (l := [Value.int .i64 0, .int .u64 0, .int .u64 0, .int .i64 0, .int .i64 0, .int .u64 0]) hxq0 0 _
          have hzq0 := hq0.setX ORD.out hBx N1.out N2.out N3.out 0 (.int .i64 a1)
          clear hq0 hxq0 Yq0
          go_upto_region 31 with (fail)
          change Code.wp _ _ _ _ (q0.setCell ⟨gx, 0, none⟩ (.int .i64 a1))
          generalize q0.setCell ⟨gx, 0, none⟩ (.int .i64 a1) = Pq0 at hyq0 hzq0 ⊢
          clear xq0 yq0
          obtain ⟨⟨b1, kb, eb⟩, rq1⟩ : ∃ r, rnum lb ka ea 18446744073709551615 = r := ⟨_, rfl⟩
          have Yq1 := hzq0.numB ORD.out HIN.out hyq0 hxne
          have bq1 := HNUM.out _ _ _ hzq0.rd
          rw [rq1] at Yq1 bq1
          simp only at Yq1 bq1
          have Yq1 := Lib.hid Yq1
          have Rq1 := Lib.hid rq1
          have Bq1 := Lib.hid bq1
          clear rq1 bq1 hzq0 hyq0
          go_wp2_with fail
          refine Yq1.out.mono ?_
          rintro x q1 ⟨rfl, hq1, hxq1⟩
          have xq1 : q1.cell? ⟨gx, 1, none⟩ = some (.int .u64 0) := (hxq1.cell 1).trans rfl
          have yq1 := hxq1.frozen 1
          have hyq1 : Blk (q1.setCell ⟨gx, 1, none⟩ (.int .u64 b1)) gx 123 (lsA ⟨a1, b1, 0, 0, 0, 0⟩) := Blk.setL (l := [Value.int .i64 a1, .int .u64 0, .int .u64 0, .int .i64 0, .int .i64 0, .int .u64 0]) hxq1 1 _
          have hzq1 := hq1.setX ORD.out hBx N1.out N2.out N3.out 1 (.int .u64 b1)
          clear hq1 hxq1 Yq1
          go_upto_region 32 with (fail)
          change Code.wp _ _ _ _ (q1.setCell ⟨gx, 1, none⟩ (.int .u64 b1))
          generalize q1.setCell ⟨gx, 1, none⟩ (.int .u64 b1) = Pq1 at hyq1 hzq1 ⊢
          clear xq1 yq1
          obtain ⟨⟨c1, kc, ec2⟩, rq2⟩ : ∃ r, rnum lb kb eb 18446744073709551615 = r := ⟨_, rfl⟩
          have Yq2 := hzq1.numB ORD.out HIN.out hyq1 hxne
          have bq2 := HNUM.out _ _ _ hzq1.rd
          rw [rq2] at Yq2 bq2
          simp only at Yq2 bq2
          have Yq2 := Lib.hid Yq2
          have Rq2 := Lib.hid rq2
          have Bq2 := Lib.hid bq2
          clear rq2 bq2 hzq1 hyq1
          go_wp2_with fail
          refine Yq2.out.mono ?_
          rintro x q2 ⟨rfl, hq2, hxq2⟩
          have xq2 : q2.cell? ⟨gx, 2, none⟩ = some (.int .u64 0) := (hxq2.cell 2).trans rfl
          have yq2 := hxq2.frozen 2
          have hyq2 : Blk (q2.setCell ⟨gx, 2, none⟩ (.int .u64 c1)) gx 123 (lsA ⟨a1, b1, c1, 0, 0, 0⟩) := Blk.setL (l := [Value.int .i64 a1, .int .u64 b1, .int .u64 0, .int .i64 0, .int .i64 0, .int .u64 0]) hxq2 2 _
          have hzq2 := hq2.setX ORD.out hBx N1.out N2.out N3.out 2 (.int .u64 c1)
          clear hq2 hxq2 Yq2
          go_upto_region 33 with (fail)
          change Code.wp _ _ _ _ (q2.setCell ⟨gx, 2, none⟩ (.int .u64 c1))
          generalize q2.setCell ⟨gx, 2, none⟩ (.int .u64 c1) = Pq2 at hyq2 hzq2 ⊢
          clear xq2 yq2
          obtain ⟨⟨d1, kd, ed⟩, rq3⟩ : ∃ r, rnum lb kc ec2 65535 = r := ⟨_, rfl⟩
          have Yq3 := hzq2.smallB ORD.out HIN.out hyq2 hxne
          have bq3 := HSML.out _ _ _ hzq2.rd
          rw [rq3] at Yq3 bq3
          simp only at Yq3 bq3
          have Yq3 := Lib.hid Yq3
          have Rq3 := Lib.hid rq3
          have Bq3 := Lib.hid bq3
          clear rq3 bq3 hzq2 hyq2
          go_wp2_with fail
          refine Yq3.out.mono ?_
          rintro x q3 ⟨rfl, hq3, hxq3⟩
          have xq3 : q3.cell? ⟨gx, 3, none⟩ = some (.int .i64 0) := (hxq3.cell 3).trans rfl
          have yq3 := hxq3.frozen 3
          have hyq3 : Blk (q3.setCell ⟨gx, 3, none⟩ (.int .i64 d1)) gx 123 (lsA ⟨a1, b1, c1, d1, 0, 0⟩) := Blk.setL (l := [Value.int .i64 a1, .int .u64 b1, .int .u64 c1, .int .i64 0, .int .i64 0, .int .u64 0]) hxq3 3 _
          have hzq3 := hq3.setX ORD.out hBx N1.out N2.out N3.out 3 (.int .i64 d1)
          clear hq3 hxq3 Yq3
          go_upto_region 34 with (fail)
          change Code.wp _ _ _ _ (q3.setCell ⟨gx, 3, none⟩ (.int .i64 d1))
          generalize q3.setCell ⟨gx, 3, none⟩ (.int .i64 d1) = Pq3 at hyq3 hzq3 ⊢
          clear xq3 yq3
          obtain ⟨⟨f1, kf, ef⟩, rq4⟩ : ∃ r, rnum lb kd ed 65535 = r := ⟨_, rfl⟩
          have Yq4 := hzq3.smallB ORD.out HIN.out hyq3 hxne
          have bq4 := HSML.out _ _ _ hzq3.rd
          rw [rq4] at Yq4 bq4
          simp only at Yq4 bq4
          have Yq4 := Lib.hid Yq4
          have Rq4 := Lib.hid rq4
          have Bq4 := Lib.hid bq4
          clear rq4 bq4 hzq3 hyq3
          go_wp2_with fail
          refine Yq4.out.mono ?_
          rintro x q4 ⟨rfl, hq4, hxq4⟩
          have xq4 : q4.cell? ⟨gx, 4, none⟩ = some (.int .i64 0) := (hxq4.cell 4).trans rfl
          have yq4 := hxq4.frozen 4
          have hyq4 : Blk (q4.setCell ⟨gx, 4, none⟩ (.int .i64 f1)) gx 123 (lsA ⟨a1, b1, c1, d1, f1, 0⟩) := Blk.setL (l := [Value.int .i64 a1, .int .u64 b1, .int .u64 c1, .int .i64 d1, .int .i64 0, .int .u64 0]) hxq4 4 _
          have hzq4 := hq4.setX ORD.out hBx N1.out N2.out N3.out 4 (.int .i64 f1)
          clear hq4 hxq4 Yq4
          go_upto_region 35 with (fail)
          change Code.wp _ _ _ _ (q4.setCell ⟨gx, 4, none⟩ (.int .i64 f1))
          generalize q4.setCell ⟨gx, 4, none⟩ (.int .i64 f1) = Pq4 at hyq4 hzq4 ⊢
          clear xq4 yq4
          obtain ⟨⟨g1, kg, eg⟩, rq5⟩ : ∃ r, rnum lb kf ef 18446744073709551615 = r := ⟨_, rfl⟩
          have Yq5 := hzq4.numB ORD.out HIN.out hyq4 hxne
          have bq5 := HNUM.out _ _ _ hzq4.rd
          rw [rq5] at Yq5 bq5
          simp only at Yq5 bq5
          have Yq5 := Lib.hid Yq5
          have Rq5 := Lib.hid rq5
          have Bq5 := Lib.hid bq5
          clear rq5 bq5 hzq4 hyq4
          go_wp2_with fail
          refine Yq5.out.mono ?_
          rintro x q5 ⟨rfl, hq5, hxq5⟩
          have xq5 : q5.cell? ⟨gx, 5, none⟩ = some (.int .u64 0) := (hxq5.cell 5).trans rfl
          have yq5 := hxq5.frozen 5
          have hyq5 : Blk (q5.setCell ⟨gx, 5, none⟩ (.int .u64 g1)) gx 123 (lsA ⟨a1, b1, c1, d1, f1, g1⟩) := Blk.setL (l := [Value.int .i64 a1, .int .u64 b1, .int .u64 c1, .int .i64 d1, .int .i64 f1, .int .u64 0]) hxq5 5 _
          have hzq5 := hq5.setX ORD.out hBx N1.out N2.out N3.out 5 (.int .u64 g1)
          clear hq5 hxq5 Yq5
          go_upto_region 36 with (fail)
          change Code.wp _ _ _ _ (q5.setCell ⟨gx, 5, none⟩ (.int .u64 g1))
          generalize q5.setCell ⟨gx, 5, none⟩ (.int .u64 g1) = Pq5 at hyq5 hzq5 ⊢
          clear xq5 yq5
          have HL := Lib.hid hzq5
          have v0 : Pq5.cell? ⟨gx, 0, none⟩ = some (.int .i64 a1) := (hyq5.cell 0).trans rfl
          have v1 : Pq5.cell? ⟨gx, 1, none⟩ = some (.int .u64 b1) := (hyq5.cell 1).trans rfl
          have v2 : Pq5.cell? ⟨gx, 2, none⟩ = some (.int .u64 c1) := (hyq5.cell 2).trans rfl
          have v3 : Pq5.cell? ⟨gx, 3, none⟩ = some (.int .i64 d1) := (hyq5.cell 3).trans rfl
          have v4 : Pq5.cell? ⟨gx, 4, none⟩ = some (.int .i64 f1) := (hyq5.cell 4).trans rfl
          have v5 : Pq5.cell? ⟨gx, 5, none⟩ = some (.int .u64 g1) := (hyq5.cell 5).trans rfl
          have zz := hzq5.cm.sh.z6
          have hlz := hzq5.cm.lt
          have HDD : Hid (decL lb (rem + 1) kj ej = (⟨a1, b1, c1, d1, f1, g1⟩ :: (decL lb rem kg eg).1, (decL lb rem kg eg).2)) := by
            show _ = _
            have hd : dLs lb kj ej = (⟨a1, b1, c1, d1, f1, g1⟩, kg, eg) := by
              unfold dLs
              simp only [Rq0.out, Rq1.out, Rq2.out, Rq3.out, Rq4.out, Rq5.out]
            simp only [decL, hd]
          clear hzq5 hyq5
          go_wp2_with (at_builtin; refine one_own (f := lsC) (W := Pq5) Try.underlying25 info_Last rfl (by omega) lsC_len lsC_one (gs + 1) rfl _ _ rfl sv L ⟨a1, b1, c1, d1, f1, g1⟩ rfl rfl rfl HL.out.ol HL.out.sz (by have := HLEN.out; omega) (by omega) ?_; intro v8 w8 ho8 hg8; have H8 := Lib.hid ho8; have HG8 := Lib.hid hg8; have b28 := HL.out.cm.grown hg8 (fun hh => by have := own_base HL.out.ol _ hh.symm; omega); have c28 := b28.sh.z6; have f28 := b28.frozen 6; obtain ⟨A8, c8, rfl⟩ := own_slice ho8; clear b28 ho8 hg8)
          go_roundw
          case rel => exact ⟨rem, _, L ++ [⟨a1, b1, c1, d1, f1, g1⟩], kg, eg, by go_num, by omega, by have := HLEN.out; simp; omega, (fun z hz => by rcases List.mem_append.1 hz with q | q; exact HWF.out z q; rw [List.mem_singleton] at q; subst q; exact ⟨wf_small Bq0.out.1 Bq0.out.2.1, ⟨Bq1.out.1, Bq1.out.2.2⟩, ⟨Bq2.out.1, Bq2.out.2.2⟩, wf_small Bq3.out.1 Bq3.out.2.1, wf_small Bq4.out.1 Bq4.out.2.1, ⟨Bq5.out.1, Bq5.out.2.2⟩⟩), HL.out.appL ORD.out HG8.out (by have := H8.out; rw [List.length_append] at this ⊢; exact this), by rw [HEQ.out, HDD.out]; simp⟩
          case measure => simp [intOf]
        · have hE : (ej == 0) = false := beq_eq_false_iff_ne.2 he
          have HF : Hid (ej = eL) := by
            have h1 := congrArg (fun z => z.2.2) HEQ.out
            have h2 := decL_err (lb := lb) he (rem + 1) kj
            simp only at h1
            show _ = _
            rw [h1, h2]
          have HNE := Lib.hid he
          clear he
          go_wp2
          go_meet
          case rel => exact ⟨rfl, _, _, by rw [← HF.out]; exact ⟨HS.out.res, HS.out.rd.err HNE.out, HS.out.cm, HS.out.grow, HS.out.sz, HS.out.on, HS.out.oh, HS.out.ol⟩, by have := HLEN.out; omega, HWF.out, fun h0 => absurd (HF.out.trans h0) HNE.out⟩
  case rest =>
  obtain ⟨rfl, svL, LL, hstL, hlnL, hwfL, heqL⟩ := hcut
  have HSL := Lib.hid hstL
  have HWL := Lib.hid hwfL
  have HQL := Lib.hid heqL
  clear hstL hwfL heqL H14
  have HCH := Lib.hid (chain (ns := ns) (k4 := k4) (en := en) (hs := hs) (k8 := k8) (eH := eH) (ls := ls) (kx := kx) (eL := eL) HI.out HT.out HC.out HNN.out HLm.out HNx.out HCh.out HNH.out HCl.out HNL.out)
  obtain ⟨Bn, bn, rfl⟩ := own_slice HSL.out.on
  obtain ⟨Bh, bh, rfl⟩ := own_slice HSL.out.oh
  obtain ⟨Bl, bl, rfl⟩ := own_slice HSL.out.ol
  obtain ⟨z0, z1, z2, z3, z4, z5, z6⟩ := HSL.out.cm.sh
  obtain ⟨q0, q1, q2, q3, q4, q5, q6⟩ := HSL.out.res.sh
  have y0 := HSL.out.res.frozen 0
  have y1 := HSL.out.res.frozen 1
  have y2 := HSL.out.res.frozen 2
  have y3 := HSL.out.res.frozen 3
  have y4 := HSL.out.res.frozen 4
  have y5 := HSL.out.res.frozen 5
  have y6 := HSL.out.res.frozen 6
  have hn1 : gs ≠ g := by omega
  have hn2 : g ≠ gs := by omega
  have HLNN := Lib.hid hlnN
  have HLNH := Lib.hid hlnH
  have HLNL := Lib.hid hlnL
  have hG7 := grown_set7 wc g (.int .u64 i) (.int .u64 t) (.slice Bn LN.length bn) (.int .i64 lim) (.int .u64 nxt) (.slice Bh LH.length bh) (.slice Bl LL.length bl)
  have FON := Lib.hid (own_lower (base' := g) (kept_gr HSL.out.on hG7 (by omega)) (by omega))
  have FOH := Lib.hid (own_lower (base' := g) (kept_gr HSL.out.oh hG7 (by omega)) (by omega))
  have FOL := Lib.hid (own_lower (base' := g) (kept_gr HSL.out.ol hG7 (by omega)) (by omega))
  have FRS := Lib.hid (HSL.out.rd.grown hG7 (fun hh => by injection hh with hh; omega))
  have FGR := Lib.hid (grown_any HSL.out.grow hG7 (fun j hj => by injection hj with hj; omega))
  have hFE : eL = rE lb e := by
    obtain ⟨p1, p2, p3⟩ := HCH.out
    unfold rE
    rw [← HEE.out]
    by_cases h0 : e1 = 0
    · rw [if_pos h0, (p1 h0).2.2.2.2.2.2]
    · rw [if_neg h0]
      exact p2 h0
  have HFE := Lib.hid hFE
  have HG := Lib.hid hg
  clear hG7 hFE hlnN hlnH hlnL
  go_wp2
  have hrF := Blk.set7 HSL.out.res (.int .u64 i) (.int .u64 t) (.slice Bn LN.length bn) (.int .i64 lim) (.int .u64 nxt) (.slice Bh LH.length bh) (.slice Bl LL.length bl)
  refine bodyPost_ret (results_cell1 rfl rfl (run_loadVar_row _ _ _ _ _ (0, 0) _ hrF Try.underlying29 rfl info_Shot)) rfl ?_
  rw [← HFE.out]
  unfold R6P
  rw [HG.out]
  refine ⟨i, t, _, LN, lim, nxt, _, LH, _, LL, rfl, FON.out, FOH.out, FOL.out, ⟨⟨HIB.out.1, HIB.out.2.2⟩, ⟨HTB.out.1, HTB.out.2.2⟩, HLNN.out, HWN.out, ⟨HLmB.out.1, HLmB.out.2.1⟩, ⟨HNxB.out.1, HNxB.out.2.2⟩, HLNH.out, HWH.out, HLNL.out, HWL.out⟩, fun h0 => ?_, ⟨kx, fun h0 => ?_, FRS.out⟩, FGR.out⟩
  · obtain ⟨p1, p2, p3⟩ := HCH.out
    obtain ⟨n1, n2⟩ := p3 h0
    have h1 : e1 = 0 := by
      rcases Classical.em (e1 = 0) with q | q
      · exact q
      · exact absurd ((p2 q).symm.trans h0) q
    obtain ⟨a1, a2, a3, a4, a5, a6, a7⟩ := p1 h1
    rw [a1, a2, a3, a4, a5, a6, a7, HQN.out n1, HQH.out n2, HQL.out h0]
    exact ⟨rfl, rfl, rfl, rfl, rfl, rfl, rfl⟩
  · obtain ⟨p1, p2, p3⟩ := HCH.out
    have h1 : e1 = 0 := by
      rcases Classical.em (e1 = 0) with q | q
      · exact q
      · exact absurd ((p2 q).symm.trans h0) q
    rw [(p1 h1).2.2.2.2.2.2]
end Go.Proofs.Ytadkkhbbempaaaa
