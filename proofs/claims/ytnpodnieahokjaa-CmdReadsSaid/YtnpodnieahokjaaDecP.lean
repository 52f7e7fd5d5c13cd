/- Plain laws of commands' bytes: what was written is read as what it was; what is read is written so; what was cut is short. -/
import Derived.Test.YtnpodnieahokjaaDecS
import Derived.Test.YtnpodnieahokjaaEncOk
import Derived.Test.YtnpodnieahokjaaOctLaws
namespace Go.Proofs.Ytnpodnieahokjaa
open Go.RowKit

/-! ### A number that stands there is read -/
theorem rnum_hit {lb : List Int} {k v : Nat} {rest : List Int} {most : Int} (h : lb.drop k = numB v ++ rest) (hv : v < 18446744073709551616) (hm : (v : Int) ≤ most) :
    rnum lb k 0 most = ((v : Int), k + (numB v).length, 0) ∧ lb.drop (k + (numB v).length) = rest := by
  constructor
  · unfold rnum
    rw [if_neg (by simp), h, readN_numB v hv rest]
    rw [if_neg (by simp), if_neg (by show ¬ ((v : Int) > most); omega)]
    simp
  · rw [← List.drop_drop, h]
    simp
theorem rnum_err {lb : List Int} {k : Nat} {e most : Int} (he : e ≠ 0) : rnum lb k e most = (0, k, e) := by
  unfold rnum
  rw [if_pos he]
theorem rnum_short {lb : List Int} {k v : Nat} {most : Int} (h : lb.drop k = (numB v).take ((numB v).length - 1)) : (rnum lb k 0 most).2.2 = 10 := by
  have h10 := readN_cut v
  rw [← h] at h10
  unfold rnum
  rw [if_neg (by simp), if_pos (by rw [h10]; decide)]
  exact h10
theorem decNodes_hit {lb : List Int} : ∀ (l : List Int) (k : Nat) (rest : List Int), lb.drop k = numsB l ++ rest → (∀ z ∈ l, 0 ≤ z ∧ z ≤ 65535) →
    decNodes lb l.length k 0 = (l, k + (numsB l).length, 0) ∧ lb.drop (k + (numsB l).length) = rest := by
  intro l
  induction l with
  | nil => intro k rest h _; exact ⟨by simp [decNodes, numsB], by simpa [numsB] using h⟩
  | cons z l ih =>
    intro k rest h hz
    have hz0 := hz z (by simp)
    rw [numsB_cons, List.append_assoc] at h
    obtain ⟨h1, h2⟩ := rnum_hit (most := 65535) h (by omega) (by omega)
    obtain ⟨i1, i2⟩ := ih _ rest h2 (fun y hy => hz y (by simp [hy]))
    rw [numsB_cons, List.length_append, ← Nat.add_assoc]
    refine ⟨?_, i2⟩
    rw [List.length_cons]
    unfold decNodes
    rw [h1]
    simp only
    rw [i1, Int.toNat_of_nonneg hz0.1]
theorem decNodes_err {lb : List Int} {e : Int} (he : e ≠ 0) : ∀ (c k : Nat), (decNodes lb c k e).2.2 = e := by
  intro c
  induction c with
  | zero => intro k; rfl
  | succ c ih =>
    intro k
    unfold decNodes
    rw [rnum_err he]
    exact ih k
theorem decNodes_short {lb : List Int} : ∀ (l : List Int) (k : Nat), 0 < l.length → lb.drop k = (numsB l).take ((numsB l).length - 1) → (∀ z ∈ l, 0 ≤ z ∧ z ≤ 65535) → (decNodes lb l.length k 0).2.2 = 10 := by
  intro l
  induction l with
  | nil => intro k h0; simp at h0
  | cons z l ih =>
    intro k _ h hz
    have hz0 := hz z (by simp)
    rw [List.length_cons]
    unfold decNodes
    rcases Nat.eq_zero_or_pos l.length with h0 | h0
    · have hl : l = [] := List.eq_nil_of_length_eq_zero h0
      subst hl
      have e1 : numsB [z] = numB z.toNat := by simp [numsB]
      rw [e1] at h
      have h10 := rnum_short (most := 65535) h
      simp only [decNodes, List.length_nil]
      exact h10
    · have hp : 1 ≤ (numsB l).length := by
        cases l with
        | nil => simp at h0
        | cons y l =>
          rw [numsB_cons, List.length_append]
          have := numB_pos y.toNat
          omega
      have e1 : (numsB (z :: l)).take ((numsB (z :: l)).length - 1) = numB z.toNat ++ (numsB l).take ((numsB l).length - 1) := by
        rw [numsB_cons, List.length_append, List.take_append, List.take_of_length_le (by omega), show (numB z.toNat).length + (numsB l).length - 1 - (numB z.toNat).length = (numsB l).length - 1 by omega]
      rw [e1] at h
      obtain ⟨h1, h2⟩ := rnum_hit (most := 65535) h (by omega) (by omega)
      rw [h1]
      exact ih _ h0 h2 (fun y hy => hz y (by simp [hy]))

/-! ### What was written is read as what it was -/
structure CmdOk (k n t : Nat) (l : List Int) (b q s m : Nat) : Prop where
  ok : codeOk k n t l b q s m = true
  hb : b < 18446744073709551616
  hq : q < 18446744073709551616
  hs : s < 18446744073709551616
  hm : m < 18446744073709551616
theorem CmdOk.zeroR {k n t : Nat} {l : List Int} {b q s m : Nat} (h : CmdOk k n t l b q s m) (hR : kR k = false) : n = 0 ∧ b = 0 ∧ q = 0 := by
  have := h.ok
  simp [codeOk, reqB, reqZ, hR] at this
  omega
theorem CmdOk.zeroT {k n t : Nat} {l : List Int} {b q s m : Nat} (h : CmdOk k n t l b q s m) (hT : kT k = false) : t = 0 ∧ s = 0 := by
  have := h.ok
  simp [codeOk, tokB, tokZ, hT] at this
  omega
theorem CmdOk.zeroS {k n t : Nat} {l : List Int} {b q s m : Nat} (h : CmdOk k n t l b q s m) (hS : kS k = false) : m = 0 := by
  have := h.ok
  simp [codeOk, hS] at this
  omega
theorem fnum_no (lb : List Int) (st : Nat × Int) (most : Int) : fnum false lb st most = (0, st.1, st.2) := rfl
theorem fnum_yes (lb : List Int) (k : Nat) (e most : Int) : fnum true lb (k, e) most = rnum lb k e most := rfl

theorem hit_K {k : Nat} {R : List Int} (hk : 1 ≤ k ∧ k ≤ 6) (lb : List Int) (h : lb = numB k ++ R) : dK lb = ((k : Int), (numB k).length, 0) ∧ lb.drop (numB k).length = R := by
  have h0 : lb.drop 0 = numB k ++ R := h
  obtain ⟨h1, h2⟩ := rnum_hit (most := 6) h0 (by omega) (by omega)
  rw [Nat.zero_add] at h1 h2
  refine ⟨?_, h2⟩
  unfold dK
  rw [h1]
  have hI : kI (k : Int) = true := by simp [kI]; omega
  simp [hI]
theorem hit_L {k : Nat} {l R : List Int} {lb : List Int} {p : Nat} (hK : dK lb = ((k : Int), p, 0)) (hs : kN k = true → IsSet l) (hn : kN k = false → l = []) (h : lb.drop p = numsB (if kN k then (l.length : Int) :: l else []) ++ R) :
    ∃ p', dL lb = (l, p', 0) ∧ lb.drop p' = R ∧ p' = p + (numsB (if kN k then (l.length : Int) :: l else [])).length := by
  cases hN : kN k
  · rw [hN] at h
    refine ⟨p, ?_, by simpa [numsB] using h, by simp [numsB]⟩
    unfold dL
    rw [hK]
    simp only [hN, hn hN]
    rfl
  · rw [hN] at h
    have hset := hs hN
    have h7 := set_len hset
    simp only [if_pos] at h ⊢
    rw [numsB_cons, List.append_assoc, Int.toNat_natCast] at h
    obtain ⟨h1, h2⟩ := rnum_hit (most := 7) h (by omega) (by omega)
    obtain ⟨h3, h4⟩ := decNodes_hit l _ R h2 (fun z hz => by
      obtain ⟨i, hi, e⟩ := List.getElem_of_mem hz
      have := set_mem hset hi
      omega)
    refine ⟨_, ?_, h4, by rw [numsB_cons, Int.toNat_natCast, List.length_append, Nat.add_assoc]⟩
    unfold dL
    rw [hK]
    simp only [hN, if_pos]
    rw [h1]
    simp only [Int.toNat_natCast]
    exact h3
theorem hit_f {there : Bool} {v : Nat} {R : List Int} {lb : List Int} {p : Nat} {most : Int} (hv : v < 18446744073709551616) (hm : (v : Int) ≤ most) (hz : there = false → v = 0) (h : lb.drop p = (if there then numB v else []) ++ R) :
    ∃ p', fnum there lb (p, 0) most = ((v : Int), p', 0) ∧ lb.drop p' = R ∧ p' = p + (if there then numB v else []).length := by
  cases there
  · exact ⟨p, by rw [fnum_no, hz rfl]; rfl, by simpa using h, by simp⟩
  · simp only [if_pos] at h ⊢
    obtain ⟨h1, h2⟩ := rnum_hit h hv hm
    exact ⟨_, by rw [fnum_yes]; exact h1, h2, rfl⟩
/-- A command's bytes, part by part. -/
theorem numsB_parts (k n t : Nat) (l : List Int) (b q s m : Nat) (R : List Int) : numsB (numsL k n t l b q s m) ++ R =
    numB k ++ (numsB (if kN k then (l.length : Int) :: l else []) ++ ((if kR k then numB n else []) ++ ((if kR k then numB b else []) ++ ((if kR k then numB q else []) ++ ((if kT k then numB t else []) ++ ((if kT k then numB s else []) ++ ((if kS k then numB m else []) ++ R))))))) := by
  unfold numsL
  cases kN k <;> cases kR k <;> cases kT k <;> cases kS k <;> simp [numsB]
theorem back {k n t : Nat} {l : List Int} {b q s m : Nat} (h : CmdOk k n t l b q s m) (R lb : List Int) (hlb : lb = numsB (numsL k n t l b q s m) ++ R) :
    dE lb = 0 ∧ dK lb = ((k : Int), (dK lb).2) ∧ dL lb = (l, (dL lb).2) ∧ dn lb = ((n : Int), (dn lb).2) ∧ db lb = ((b : Int), (db lb).2) ∧ dq lb = ((q : Int), (dq lb).2) ∧ dt lb = ((t : Int), (dt lb).2) ∧ ds lb = ((s : Int), (ds lb).2) ∧ dm lb = ((m : Int), (numsB (numsL k n t l b q s m)).length, 0) := by
  obtain ⟨k1, k6, n0, n7, t0, t6, hset, hnil⟩ := ok_nats h.ok
  have hq := h.hq
  have hb := h.hb
  have hs := h.hs
  have hm := h.hm
  have hlen : (numsB (numsL (k : Int) n t l b q s m)).length = (numB k).length + (numsB (if kN k then (l.length : Int) :: l else [])).length + (if kR k then numB n else []).length + (if kR k then numB b else []).length + (if kR k then numB q else []).length + (if kT k then numB t else []).length + (if kT k then numB s else []).length + (if kS k then numB m else []).length := by
    have e := numsB_parts k n t l b q s m []
    rw [List.append_nil] at e
    rw [e]
    simp only [List.length_append, List.length_nil]
    omega
  rw [numsB_parts] at hlb
  obtain ⟨eK, d1⟩ := hit_K (by omega) lb hlb
  obtain ⟨p1, eL, d2, q1⟩ := hit_L eK hset hnil d1
  have fn := hit_f (most := 65535) (by omega) (by omega) (fun hR => (h.zeroR hR).1) d2
  obtain ⟨p2, en, d3, q2⟩ := fn
  obtain ⟨p3, eb, d4, q3⟩ := hit_f (most := 18446744073709551615) hb (by omega) (fun hR => (h.zeroR hR).2.1) d3
  obtain ⟨p4, eq, d5, q4⟩ := hit_f (most := 18446744073709551615) hq (by omega) (fun hR => (h.zeroR hR).2.2) d4
  obtain ⟨p5, et, d6, q5⟩ := hit_f (most := 65535) (by omega) (by omega) (fun hT => (h.zeroT hT).1) d5
  obtain ⟨p6, es, d7, q6⟩ := hit_f (most := 18446744073709551615) hs (by omega) (fun hT => (h.zeroT hT).2) d6
  obtain ⟨p7, em, d8, q7⟩ := hit_f (most := 18446744073709551615) hm (by omega) (fun hS => h.zeroS hS) d7
  have xn : dn lb = ((n : Int), p2, 0) := by unfold dn; rw [eK, eL]; exact en
  have xb : db lb = ((b : Int), p3, 0) := by unfold db; rw [eK, xn]; exact eb
  have xq : dq lb = ((q : Int), p4, 0) := by unfold dq; rw [eK, xb]; exact eq
  have xt : dt lb = ((t : Int), p5, 0) := by unfold dt; rw [eK, xq]; exact et
  have xs : ds lb = ((s : Int), p6, 0) := by unfold ds; rw [eK, xt]; exact es
  have xm : dm lb = ((m : Int), p7, 0) := by unfold dm; rw [eK, xs]; exact em
  refine ⟨?_, by rw [eK], by rw [eL], by rw [xn], by rw [xb], by rw [xq], by rw [xt], by rw [xs], ?_⟩
  · unfold dE
    rw [xm, eK, xn, xt, eL, xb, xq, xs]
    simp [h.ok, errCmd]
  · rw [xm, hlen]
    have : p7 = (numB k).length + (numsB (if kN k then (l.length : Int) :: l else [])).length + (if kR k then numB n else []).length + (if kR k then numB b else []).length + (if kR k then numB q else []).length + (if kT k then numB t else []).length + (if kT k then numB s else []).length + (if kS k then numB m else []).length := by
      rw [q7, q6, q5, q4, q3, q2, q1]
    rw [this]
end Go.Proofs.Ytnpodnieahokjaa
