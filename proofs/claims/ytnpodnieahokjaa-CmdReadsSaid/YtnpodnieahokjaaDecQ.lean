/- Plain laws of commands' bytes, second part: what is read is written as these bytes; what was cut is short. -/
import Derived.Test.YtnpodnieahokjaaDecP
namespace Go.Proofs.Ytnpodnieahokjaa
open Go.RowKit

/-! ### An error stays -/
theorem fnum_err {there : Bool} {lb : List Int} {k : Nat} {e most : Int} (he : e ≠ 0) : (fnum there lb (k, e) most).2.2 = e := by
  cases there
  · rfl
  · rw [fnum_yes, rnum_err he]
theorem dL_err {lb : List Int} {e : Int} (he : e ≠ 0) (h : (dK lb).2.2 = e) : (dL lb).2.2 = e := by
  unfold dL
  split
  · rw [h, rnum_err he]
    exact decNodes_err he _ _
  · exact h
theorem dn_err {lb : List Int} {e : Int} (he : e ≠ 0) (h : (dL lb).2.2 = e) : (dn lb).2.2 = e := by
  unfold dn
  rw [show (dL lb).2 = ((dL lb).2.1, e) from Prod.ext rfl h]
  exact fnum_err he
theorem db_err {lb : List Int} {e : Int} (he : e ≠ 0) (h : (dn lb).2.2 = e) : (db lb).2.2 = e := by
  unfold db
  rw [show (dn lb).2 = ((dn lb).2.1, e) from Prod.ext rfl h]
  exact fnum_err he
theorem dq_err {lb : List Int} {e : Int} (he : e ≠ 0) (h : (db lb).2.2 = e) : (dq lb).2.2 = e := by
  unfold dq
  rw [show (db lb).2 = ((db lb).2.1, e) from Prod.ext rfl h]
  exact fnum_err he
theorem dt_err {lb : List Int} {e : Int} (he : e ≠ 0) (h : (dq lb).2.2 = e) : (dt lb).2.2 = e := by
  unfold dt
  rw [show (dq lb).2 = ((dq lb).2.1, e) from Prod.ext rfl h]
  exact fnum_err he
theorem ds_err {lb : List Int} {e : Int} (he : e ≠ 0) (h : (dt lb).2.2 = e) : (ds lb).2.2 = e := by
  unfold ds
  rw [show (dt lb).2 = ((dt lb).2.1, e) from Prod.ext rfl h]
  exact fnum_err he
theorem dm_err {lb : List Int} {e : Int} (he : e ≠ 0) (h : (ds lb).2.2 = e) : (dm lb).2.2 = e := by
  unfold dm
  rw [show (ds lb).2 = ((ds lb).2.1, e) from Prod.ext rfl h]
  exact fnum_err he
theorem dE_err {lb : List Int} {e : Int} (he : e ≠ 0) (h : (dm lb).2.2 = e) : dE lb = e := by
  unfold dE
  rw [h, if_neg he]

/-! ### What was cut is short -/
theorem cut_front {a b : List Int} (hb : 1 ≤ b.length) : (a ++ b).take ((a ++ b).length - 1) = a ++ b.take (b.length - 1) := by
  rw [List.length_append, List.take_append, List.take_of_length_le (by omega), show a.length + b.length - 1 - a.length = b.length - 1 by omega]
theorem fnum_short {lb : List Int} {p v : Nat} {most : Int} (h : lb.drop p = (numB v).take ((numB v).length - 1)) : (fnum true lb (p, 0) most).2.2 = 10 := by
  rw [fnum_yes]
  exact rnum_short h
theorem cuts {k n t : Nat} {l : List Int} {b q s m : Nat} (h : CmdOk k n t l b q s m) (lb : List Int) (hlb : lb = (numsB (numsL k n t l b q s m)).take ((numsB (numsL k n t l b q s m)).length - 1)) : dE lb = 10 := by
  obtain ⟨k1, k6, n0, n7, t0, t6, hset, hnil⟩ := ok_nats h.ok
  have hq := h.hq
  have hb := h.hb
  have hs := h.hs
  have hm := h.hm
  have p1 := numB_pos 1
  have p2 := fun v => numB_pos v
  have h10 : (10 : Int) ≠ 0 := by decide
  have e := numsB_parts k n t l b q s m []
  rw [List.append_nil] at e
  rw [e] at hlb
  have hk : k = 1 ∨ k = 2 ∨ k = 3 ∨ k = 4 ∨ k = 5 ∨ k = 6 := by omega
  have hz : dm lb = dm lb := rfl
  rcases hk with rfl | rfl | rfl | rfl | rfl | rfl
  · have e1 : lb = (numB 1).take ((numB 1).length - 1) := by simpa [kN, kR, kT, kS, numsB] using hlb
    have hr := rnum_short (lb := lb) (k := 0) (v := 1) (most := 6) (by rw [List.drop_zero]; exact e1)
    have hK : (dK lb).2.2 = 10 := by
      unfold dK
      simp only
      rw [if_neg (by rw [hr]; simp), hr]
    exact dE_err h10 (dm_err h10 (ds_err h10 (dt_err h10 (dq_err h10 (db_err h10 (dn_err h10 (dL_err h10 hK)))))))
  · have hN : kN ((2 : Nat) : Int) = true := by decide
    have hs2 := hset hN
    have hl0 := hs2.1
    have h7 := set_len hs2
    have hzz : ∀ z ∈ l, 0 ≤ z ∧ z ≤ 65535 := fun z hz => by
      obtain ⟨i, hi, e⟩ := List.getElem_of_mem hz
      have := set_mem hs2 hi
      omega
    have hp : 1 ≤ (numsB l).length := by
      cases l with
      | nil => simp at hl0
      | cons y l =>
        rw [numsB_cons, List.length_append]
        have := numB_pos y.toNat
        omega
    have e1 : lb = numB 2 ++ (numB l.length ++ (numsB l).take ((numsB l).length - 1)) := by
      have e2 : lb = (numB 2 ++ (numB l.length ++ numsB l)).take ((numB 2 ++ (numB l.length ++ numsB l)).length - 1) := by simpa [kN, kR, kT, kS, numsB] using hlb
      rw [e2, cut_front (by rw [List.length_append]; omega), cut_front hp]
    obtain ⟨eK, d1⟩ := hit_K (by omega) lb e1
    obtain ⟨h1, h2⟩ := rnum_hit (most := 7) d1 (by omega) (by omega)
    have hL : (dL lb).2.2 = 10 := by
      unfold dL
      rw [eK]
      simp only [hN, if_pos]
      rw [h1]
      simp only [Int.toNat_natCast]
      exact decNodes_short l _ hl0 h2 hzz
    exact dE_err h10 (dm_err h10 (ds_err h10 (dt_err h10 (dq_err h10 (db_err h10 (dn_err h10 hL))))))
  · have e1 : lb = numB 3 ++ (numsB (if kN ((3 : Nat) : Int) then (l.length : Int) :: l else []) ++ ((if kR ((3 : Nat) : Int) then numB n else []) ++ ((if kR ((3 : Nat) : Int) then numB b else []) ++ (numB q).take ((numB q).length - 1)))) := by
      have e2 : lb = (numB 3 ++ (numB n ++ (numB b ++ numB q))).take ((numB 3 ++ (numB n ++ (numB b ++ numB q))).length - 1) := by simpa [kN, kR, kT, kS, numsB] using hlb
      have := p2 q
      rw [e2, cut_front (by simp only [List.length_append]; omega), cut_front (by simp only [List.length_append]; omega), cut_front (p2 q)]
      simp [kN, kR, numsB]
    obtain ⟨eK, d1⟩ := hit_K (by omega) lb e1
    obtain ⟨P1, eL, d2, _⟩ := hit_L eK hset hnil d1
    obtain ⟨P2, en, d3, _⟩ := hit_f (most := 65535) (by omega) (by omega) (fun hR => (h.zeroR hR).1) d2
    obtain ⟨P3, eb, d4, _⟩ := hit_f (most := 18446744073709551615) hb (by omega) (fun hR => (h.zeroR hR).2.1) d3
    have xn : dn lb = ((n : Int), P2, 0) := by unfold dn; rw [eK, eL]; exact en
    have xb : db lb = ((b : Int), P3, 0) := by unfold db; rw [eK, xn]; exact eb
    have xq : (dq lb).2.2 = 10 := by unfold dq; rw [eK, xb]; exact fnum_short d4
    exact dE_err h10 (dm_err h10 (ds_err h10 (dt_err h10 xq)))
  · have e1 : lb = numB 4 ++ (numsB (if kN ((4 : Nat) : Int) then (l.length : Int) :: l else []) ++ ((if kR ((4 : Nat) : Int) then numB n else []) ++ ((if kR ((4 : Nat) : Int) then numB b else []) ++ ((if kR ((4 : Nat) : Int) then numB q else []) ++ ((if kT ((4 : Nat) : Int) then numB t else []) ++ (numB s).take ((numB s).length - 1)))))) := by
      have e2 : lb = (numB 4 ++ (numB n ++ (numB b ++ (numB q ++ (numB t ++ numB s))))).take ((numB 4 ++ (numB n ++ (numB b ++ (numB q ++ (numB t ++ numB s))))).length - 1) := by simpa [kN, kR, kT, kS, numsB] using hlb
      have := p2 s
      rw [e2, cut_front (by simp only [List.length_append]; omega), cut_front (by simp only [List.length_append]; omega), cut_front (by simp only [List.length_append]; omega), cut_front (by simp only [List.length_append]; omega), cut_front (p2 s)]
      simp [kN, kR, kT, numsB]
    obtain ⟨eK, d1⟩ := hit_K (by omega) lb e1
    obtain ⟨P1, eL, d2, _⟩ := hit_L eK hset hnil d1
    obtain ⟨P2, en, d3, _⟩ := hit_f (most := 65535) (by omega) (by omega) (fun hR => (h.zeroR hR).1) d2
    obtain ⟨P3, eb, d4, _⟩ := hit_f (most := 18446744073709551615) hb (by omega) (fun hR => (h.zeroR hR).2.1) d3
    obtain ⟨P4, eq, d5, _⟩ := hit_f (most := 18446744073709551615) hq (by omega) (fun hR => (h.zeroR hR).2.2) d4
    obtain ⟨P5, et, d6, _⟩ := hit_f (most := 65535) (by omega) (by omega) (fun hT => (h.zeroT hT).1) d5
    have xn : dn lb = ((n : Int), P2, 0) := by unfold dn; rw [eK, eL]; exact en
    have xb : db lb = ((b : Int), P3, 0) := by unfold db; rw [eK, xn]; exact eb
    have xq : dq lb = ((q : Int), P4, 0) := by unfold dq; rw [eK, xb]; exact eq
    have xt : dt lb = ((t : Int), P5, 0) := by unfold dt; rw [eK, xq]; exact et
    have xs : (ds lb).2.2 = 10 := by unfold ds; rw [eK, xt]; exact fnum_short d6
    exact dE_err h10 (dm_err h10 xs)
  · have e1 : lb = numB 5 ++ (numsB (if kN ((5 : Nat) : Int) then (l.length : Int) :: l else []) ++ ((if kR ((5 : Nat) : Int) then numB n else []) ++ ((if kR ((5 : Nat) : Int) then numB b else []) ++ ((if kR ((5 : Nat) : Int) then numB q else []) ++ ((if kT ((5 : Nat) : Int) then numB t else []) ++ (numB s).take ((numB s).length - 1)))))) := by
      have e2 : lb = (numB 5 ++ (numB n ++ (numB b ++ (numB q ++ (numB t ++ numB s))))).take ((numB 5 ++ (numB n ++ (numB b ++ (numB q ++ (numB t ++ numB s))))).length - 1) := by simpa [kN, kR, kT, kS, numsB] using hlb
      have := p2 s
      rw [e2, cut_front (by simp only [List.length_append]; omega), cut_front (by simp only [List.length_append]; omega), cut_front (by simp only [List.length_append]; omega), cut_front (by simp only [List.length_append]; omega), cut_front (p2 s)]
      simp [kN, kR, kT, numsB]
    obtain ⟨eK, d1⟩ := hit_K (by omega) lb e1
    obtain ⟨P1, eL, d2, _⟩ := hit_L eK hset hnil d1
    obtain ⟨P2, en, d3, _⟩ := hit_f (most := 65535) (by omega) (by omega) (fun hR => (h.zeroR hR).1) d2
    obtain ⟨P3, eb, d4, _⟩ := hit_f (most := 18446744073709551615) hb (by omega) (fun hR => (h.zeroR hR).2.1) d3
    obtain ⟨P4, eq, d5, _⟩ := hit_f (most := 18446744073709551615) hq (by omega) (fun hR => (h.zeroR hR).2.2) d4
    obtain ⟨P5, et, d6, _⟩ := hit_f (most := 65535) (by omega) (by omega) (fun hT => (h.zeroT hT).1) d5
    have xn : dn lb = ((n : Int), P2, 0) := by unfold dn; rw [eK, eL]; exact en
    have xb : db lb = ((b : Int), P3, 0) := by unfold db; rw [eK, xn]; exact eb
    have xq : dq lb = ((q : Int), P4, 0) := by unfold dq; rw [eK, xb]; exact eq
    have xt : dt lb = ((t : Int), P5, 0) := by unfold dt; rw [eK, xq]; exact et
    have xs : (ds lb).2.2 = 10 := by unfold ds; rw [eK, xt]; exact fnum_short d6
    exact dE_err h10 (dm_err h10 xs)
  · have e1 : lb = numB 6 ++ (numsB (if kN ((6 : Nat) : Int) then (l.length : Int) :: l else []) ++ ((if kR ((6 : Nat) : Int) then numB n else []) ++ ((if kR ((6 : Nat) : Int) then numB b else []) ++ ((if kR ((6 : Nat) : Int) then numB q else []) ++ ((if kT ((6 : Nat) : Int) then numB t else []) ++ ((if kT ((6 : Nat) : Int) then numB s else []) ++ (numB m).take ((numB m).length - 1))))))) := by
      have e2 : lb = (numB 6 ++ (numB t ++ (numB s ++ numB m))).take ((numB 6 ++ (numB t ++ (numB s ++ numB m))).length - 1) := by simpa [kN, kR, kT, kS, numsB] using hlb
      have := p2 m
      rw [e2, cut_front (by simp only [List.length_append]; omega), cut_front (by simp only [List.length_append]; omega), cut_front (p2 m)]
      simp [kN, kR, kT, numsB]
    obtain ⟨eK, d1⟩ := hit_K (by omega) lb e1
    obtain ⟨P1, eL, d2, _⟩ := hit_L eK hset hnil d1
    obtain ⟨P2, en, d3, _⟩ := hit_f (most := 65535) (by omega) (by omega) (fun hR => (h.zeroR hR).1) d2
    obtain ⟨P3, eb, d4, _⟩ := hit_f (most := 18446744073709551615) hb (by omega) (fun hR => (h.zeroR hR).2.1) d3
    obtain ⟨P4, eq, d5, _⟩ := hit_f (most := 18446744073709551615) hq (by omega) (fun hR => (h.zeroR hR).2.2) d4
    obtain ⟨P5, et, d6, _⟩ := hit_f (most := 65535) (by omega) (by omega) (fun hT => (h.zeroT hT).1) d5
    obtain ⟨P6, es, d7, _⟩ := hit_f (most := 18446744073709551615) hs (by omega) (fun hT => (h.zeroT hT).2) d6
    have xn : dn lb = ((n : Int), P2, 0) := by unfold dn; rw [eK, eL]; exact en
    have xb : db lb = ((b : Int), P3, 0) := by unfold db; rw [eK, xn]; exact eb
    have xq : dq lb = ((q : Int), P4, 0) := by unfold dq; rw [eK, xb]; exact eq
    have xt : dt lb = ((t : Int), P5, 0) := by unfold dt; rw [eK, xq]; exact et
    have xs : ds lb = ((s : Int), P6, 0) := by unfold ds; rw [eK, xt]; exact es
    have xm : (dm lb).2.2 = 10 := by unfold dm; rw [eK, xs]; exact fnum_short d7
    exact dE_err h10 xm
end Go.Proofs.Ytnpodnieahokjaa
