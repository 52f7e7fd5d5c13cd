/- Plain laws of commands' bytes, third part: what is read is written as these bytes. -/
import Derived.Test.YtnpodnieahokjaaDecQ
namespace Go.Proofs.Ytnpodnieahokjaa
open Go.RowKit

theorem rnum_back {lb : List Int} (hb : Byt lb) {k : Nat} (hk : k ≤ lb.length) {e most : Int} (hm : 0 ≤ most) (h : (rnum lb k e most).2.2 = 0) :
    e = 0 ∧ lb.take (rnum lb k e most).2.1 = lb.take k ++ numB (rnum lb k e most).1.toNat ∧ (rnum lb k e most).2.1 ≤ lb.length := by
  have hle := (rnum_le hb hk e hm).2.2.1
  by_cases he : e = 0
  · refine ⟨he, ?_, hle⟩
    subst he
    unfold rnum at h ⊢
    rw [if_neg (by simp)] at h ⊢
    by_cases h2 : (readN (lb.drop k)).2.2 ≠ 0
    · rw [if_pos h2] at h
      exact absurd h h2
    rw [if_neg h2] at h ⊢
    by_cases h3 : (readN (lb.drop k)).1 > most
    · rw [if_pos h3] at h
      simp at h
    rw [if_neg h3]
    obtain ⟨n1, n2⟩ := numB_readN (lb.drop k) (hb.drop k) (by simpa using h2)
    simp only
    rw [n1, List.take_add]
  · rw [rnum_err he] at h
    exact absurd h he
theorem decNodes_back {lb : List Int} (hb : Byt lb) : ∀ (c k : Nat) (e : Int), k ≤ lb.length → (decNodes lb c k e).2.2 = 0 →
    e = 0 ∧ lb.take (decNodes lb c k e).2.1 = lb.take k ++ numsB (decNodes lb c k e).1 ∧ (decNodes lb c k e).2.1 ≤ lb.length := by
  intro c
  induction c with
  | zero => intro k e hk h; exact ⟨h, by simp [decNodes, numsB], hk⟩
  | succ c ih =>
    intro k e hk h
    obtain ⟨i1, i2, i3⟩ := ih (rnum lb k e 65535).2.1 (rnum lb k e 65535).2.2 ((rnum_le hb hk e (by decide)).2.2.1) h
    obtain ⟨r1, r2, r3⟩ := rnum_back hb hk (by decide) i1
    refine ⟨r1, ?_, i3⟩
    show lb.take (decNodes lb c (rnum lb k e 65535).2.1 (rnum lb k e 65535).2.2).2.1 = lb.take k ++ numsB ((rnum lb k e 65535).1 :: (decNodes lb c (rnum lb k e 65535).2.1 (rnum lb k e 65535).2.2).1)
    rw [i2, r2, numsB_cons, List.append_assoc]
theorem fnum_back {there : Bool} {lb : List Int} (hb : Byt lb) {k : Nat} (hk : k ≤ lb.length) {e most : Int} (hm : 0 ≤ most) (h : (fnum there lb (k, e) most).2.2 = 0) :
    e = 0 ∧ lb.take (fnum there lb (k, e) most).2.1 = lb.take k ++ (if there then numB (fnum there lb (k, e) most).1.toNat else []) ∧ (fnum there lb (k, e) most).2.1 ≤ lb.length := by
  cases there
  · exact ⟨h, by simp [fnum_no], hk⟩
  · simp only [fnum_yes] at h ⊢
    exact rnum_back hb hk hm h
theorem fnum_le {there : Bool} {lb : List Int} (hb : Byt lb) {k : Nat} (hk : k ≤ lb.length) (e : Int) {most : Int} (hm : 0 ≤ most) :
    0 ≤ (fnum there lb (k, e) most).1 ∧ (fnum there lb (k, e) most).1 ≤ most ∧ (fnum there lb (k, e) most).2.1 ≤ lb.length := by
  cases there
  · exact ⟨Int.le_refl _, hm, hk⟩
  · rw [fnum_yes]
    obtain ⟨r1, r2, r3, _⟩ := rnum_le hb hk e hm
    exact ⟨r1, r2, r3⟩
/-- A command's bytes, part by part. -/
theorem numsB_parts2 (k n t : Int) (l : List Int) (b q s m : Int) : numsB (numsL k n t l b q s m) =
    numB k.toNat ++ numsB (if kN k then (l.length : Int) :: l else []) ++ (if kR k then numB n.toNat else []) ++ (if kR k then numB b.toNat else []) ++ (if kR k then numB q.toNat else []) ++ (if kT k then numB t.toNat else []) ++ (if kT k then numB s.toNat else []) ++ (if kS k then numB m.toNat else []) := by
  unfold numsL
  cases kN k <;> cases kR k <;> cases kT k <;> cases kS k <;> simp [numsB]
structure Ranges (lb : List Int) : Prop where
  K : 0 ≤ (dK lb).1 ∧ (dK lb).1 ≤ 6 ∧ (dK lb).2.1 ≤ lb.length
  L : (dL lb).2.1 ≤ lb.length ∧ (dL lb).1.length ≤ 7 ∧ ∀ z ∈ (dL lb).1, 0 ≤ z ∧ z ≤ 65535
  n : 0 ≤ (dn lb).1 ∧ (dn lb).1 ≤ 65535 ∧ (dn lb).2.1 ≤ lb.length
  b : 0 ≤ (db lb).1 ∧ (db lb).1 ≤ 18446744073709551615 ∧ (db lb).2.1 ≤ lb.length
  q : 0 ≤ (dq lb).1 ∧ (dq lb).1 ≤ 18446744073709551615 ∧ (dq lb).2.1 ≤ lb.length
  t : 0 ≤ (dt lb).1 ∧ (dt lb).1 ≤ 65535 ∧ (dt lb).2.1 ≤ lb.length
  s : 0 ≤ (ds lb).1 ∧ (ds lb).1 ≤ 18446744073709551615 ∧ (ds lb).2.1 ≤ lb.length
  m : 0 ≤ (dm lb).1 ∧ (dm lb).1 ≤ 18446744073709551615 ∧ (dm lb).2.1 ≤ lb.length
theorem decNodes_facts {lb : List Int} (hb : Byt lb) : ∀ (c k : Nat) (e : Int), k ≤ lb.length → (decNodes lb c k e).1.length = c ∧ (∀ z ∈ (decNodes lb c k e).1, 0 ≤ z ∧ z ≤ 65535) ∧ (decNodes lb c k e).2.1 ≤ lb.length := by
  intro c
  induction c with
  | zero => intro k e hk; exact ⟨rfl, (fun z hz => by cases hz), hk⟩
  | succ c ih =>
    intro k e hk
    obtain ⟨r1, r2, r3, r4⟩ := rnum_le hb hk e (most := 65535) (by decide)
    obtain ⟨i1, i2, i3⟩ := ih (rnum lb k e 65535).2.1 (rnum lb k e 65535).2.2 r3
    refine ⟨by simp [decNodes, i1], fun z hz => ?_, i3⟩
    simp only [decNodes, List.mem_cons] at hz
    rcases hz with rfl | hz
    · exact ⟨r1, r2⟩
    · exact i2 z hz
theorem ranges {lb : List Int} (hb : Byt lb) : Ranges lb := by
  have hK := rnum_le hb (Nat.zero_le lb.length) 0 (most := 6) (by decide)
  have K : 0 ≤ (dK lb).1 ∧ (dK lb).1 ≤ 6 ∧ (dK lb).2.1 ≤ lb.length := ⟨hK.1, hK.2.1, hK.2.2.1⟩
  have L : (dL lb).2.1 ≤ lb.length ∧ (dL lb).1.length ≤ 7 ∧ ∀ z ∈ (dL lb).1, 0 ≤ z ∧ z ≤ 65535 := by
    unfold dL
    split
    · have hc := rnum_le hb K.2.2 (dK lb).2.2 (most := 7) (by decide)
      obtain ⟨n1, n2, n3⟩ := decNodes_facts hb (rnum lb (dK lb).2.1 (dK lb).2.2 7).1.toNat (rnum lb (dK lb).2.1 (dK lb).2.2 7).2.1 (rnum lb (dK lb).2.1 (dK lb).2.2 7).2.2 hc.2.2.1
      exact ⟨n3, by rw [n1]; omega, n2⟩
    · exact ⟨K.2.2, by simp, fun z hz => by cases hz⟩
  have n := fnum_le (there := kR (dK lb).1) hb L.1 (dL lb).2.2 (most := 65535) (by decide)
  have b := fnum_le (there := kR (dK lb).1) hb n.2.2 (dn lb).2.2 (most := 18446744073709551615) (by decide)
  have q := fnum_le (there := kR (dK lb).1) hb b.2.2 (db lb).2.2 (most := 18446744073709551615) (by decide)
  have t := fnum_le (there := kT (dK lb).1) hb q.2.2 (dq lb).2.2 (most := 65535) (by decide)
  have s := fnum_le (there := kT (dK lb).1) hb t.2.2 (dt lb).2.2 (most := 18446744073709551615) (by decide)
  have m := fnum_le (there := kS (dK lb).1) hb s.2.2 (ds lb).2.2 (most := 18446744073709551615) (by decide)
  exact ⟨K, L, n, b, q, t, s, m⟩
theorem same {lb : List Int} (hb : Byt lb) (h : dE lb = 0) : codeOk (dK lb).1 (dn lb).1 (dt lb).1 (dL lb).1 (db lb).1 (dq lb).1 (ds lb).1 (dm lb).1 = true ∧
    lb.take (dm lb).2.1 = numsB (numsL (dK lb).1 (dn lb).1 (dt lb).1 (dL lb).1 (db lb).1 (dq lb).1 (ds lb).1 (dm lb).1) := by
  have r := ranges hb
  have hm0 : (dm lb).2.2 = 0 := by
    unfold dE at h
    split at h
    · assumption
    · exact h
  have hok : codeOk (dK lb).1 (dn lb).1 (dt lb).1 (dL lb).1 (db lb).1 (dq lb).1 (ds lb).1 (dm lb).1 = true := by
    unfold dE at h
    rw [if_pos hm0] at h
    unfold errCmd at h
    split at h
    · assumption
    · simp at h
  refine ⟨hok, ?_⟩
  obtain ⟨em, tm, _⟩ := fnum_back (there := kS (dK lb).1) hb r.s.2.2 (e := (ds lb).2.2) (most := 18446744073709551615) (by decide) hm0
  obtain ⟨es, ts, _⟩ := fnum_back (there := kT (dK lb).1) hb r.t.2.2 (e := (dt lb).2.2) (most := 18446744073709551615) (by decide) em
  obtain ⟨et, tt, _⟩ := fnum_back (there := kT (dK lb).1) hb r.q.2.2 (e := (dq lb).2.2) (most := 65535) (by decide) es
  obtain ⟨eq, tq, _⟩ := fnum_back (there := kR (dK lb).1) hb r.b.2.2 (e := (db lb).2.2) (most := 18446744073709551615) (by decide) et
  obtain ⟨eb, tb, _⟩ := fnum_back (there := kR (dK lb).1) hb r.n.2.2 (e := (dn lb).2.2) (most := 18446744073709551615) (by decide) eq
  obtain ⟨en, tn, _⟩ := fnum_back (there := kR (dK lb).1) hb r.L.1 (e := (dL lb).2.2) (most := 65535) (by decide) eb
  have hL : (dK lb).2.2 = 0 ∧ lb.take (dL lb).2.1 = lb.take (dK lb).2.1 ++ numsB (if kN (dK lb).1 then ((dL lb).1.length : Int) :: (dL lb).1 else []) := by
    have en' := en
    unfold dL at en' ⊢
    cases hN : kN (dK lb).1
    · rw [hN] at en'
      exact ⟨en', by simp [numsB]⟩
    · rw [hN] at en'
      simp only [if_pos] at en' ⊢
      have hc := rnum_le hb r.K.2.2 (dK lb).2.2 (most := 7) (by decide)
      obtain ⟨d1, d2, d3⟩ := decNodes_back hb _ _ _ hc.2.2.1 en'
      obtain ⟨c1, c2, c3⟩ := rnum_back hb r.K.2.2 (by decide) d1
      obtain ⟨n1, _, _⟩ := decNodes_facts hb (rnum lb (dK lb).2.1 (dK lb).2.2 7).1.toNat (rnum lb (dK lb).2.1 (dK lb).2.2 7).2.1 (rnum lb (dK lb).2.1 (dK lb).2.2 7).2.2 hc.2.2.1
      refine ⟨c1, ?_⟩
      rw [d2, c2, numsB_cons, n1, Int.toNat_natCast, List.append_assoc]
  have hK : lb.take (dK lb).2.1 = numB (dK lb).1.toNat := by
    have h0 := hL.1
    have hr0 : (rnum lb 0 0 6).2.2 = 0 := by
      unfold dK at h0
      simp only at h0
      split at h0
      · simp at h0
      · exact h0
    obtain ⟨_, c2, _⟩ := rnum_back hb (Nat.zero_le _) (by decide) hr0
    show lb.take (rnum lb 0 0 6).2.1 = numB (rnum lb 0 0 6).1.toNat
    rw [c2]
    simp
  rw [numsB_parts2]
  have tm' : lb.take (dm lb).2.1 = lb.take (ds lb).2.1 ++ (if kS (dK lb).1 then numB (dm lb).1.toNat else []) := tm
  have ts' : lb.take (ds lb).2.1 = lb.take (dt lb).2.1 ++ (if kT (dK lb).1 then numB (ds lb).1.toNat else []) := ts
  have tt' : lb.take (dt lb).2.1 = lb.take (dq lb).2.1 ++ (if kT (dK lb).1 then numB (dt lb).1.toNat else []) := tt
  have tq' : lb.take (dq lb).2.1 = lb.take (db lb).2.1 ++ (if kR (dK lb).1 then numB (dq lb).1.toNat else []) := tq
  have tb' : lb.take (db lb).2.1 = lb.take (dn lb).2.1 ++ (if kR (dK lb).1 then numB (db lb).1.toNat else []) := tb
  have tn' : lb.take (dn lb).2.1 = lb.take (dL lb).2.1 ++ (if kR (dK lb).1 then numB (dn lb).1.toNat else []) := tn
  rw [tm', ts', tt', tq', tb', tn', hL.2, hK]
end Go.Proofs.Ytnpodnieahokjaa
