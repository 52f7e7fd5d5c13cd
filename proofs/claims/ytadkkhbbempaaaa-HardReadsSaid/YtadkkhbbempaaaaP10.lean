/- Texts drawn together (1 of them): words, plain laws and walks that the row leans on. -/
import Derived.Test.YtadkkhbbempaaaaP9
import Derived.Test.YtadkkhbbempaaaaP4
/- Records' bytes: what was written is read as what it was; what is read is written as these bytes. -/
namespace Go.Proofs.Ytadkkhbbempaaaa
set_option maxRecDepth 100000
open Go.RowKit

theorem fin_ok {lb : List Int} {r : Rc} {k : Nat} (hk : ¬ k < lb.length) (m : r.May) : fin lb 0 k r = (0, r) := by
  rw [fin, if_neg (by decide), if_neg (by simp), if_neg hk, if_pos m]
theorem fin_zero {lb : List Int} {r r' : Rc} {k : Nat} {e : Int} (h : fin lb e k r = (0, r')) : e = 0 ∧ ¬ k < lb.length ∧ r.May ∧ r' = r := by
  unfold fin at h
  by_cases h1 : e = 60
  · rw [if_pos h1] at h
    exact absurd (congrArg Prod.fst h) (by simp)
  rw [if_neg h1] at h
  by_cases h2 : e ≠ 0
  · rw [if_pos h2] at h
    exact absurd (congrArg Prod.fst h) h2
  rw [if_neg h2] at h
  by_cases h3 : k < lb.length
  · rw [if_pos h3] at h
    exact absurd (congrArg Prod.fst h) (by simp)
  rw [if_neg h3] at h
  by_cases h4 : r.May
  · rw [if_pos h4] at h
    exact ⟨by simpa using h2, h3, h4, (congrArg Prod.snd h).symm⟩
  · rw [if_neg h4] at h
    exact absurd (congrArg Prod.fst h) (by simp)
theorem addD_zero {ix tm : Int} {l : List Int} {r : Rc} (h : addD ix tm l = (0, r)) : dE l = 0 ∧ ¬ (dm l).2.1 < l.length ∧ (rcE ix (enD tm l)).May ∧ r = rcE ix (enD tm l) := by
  unfold addD at h
  by_cases h1 : dE l = 40
  · rw [if_pos h1] at h
    have := congrArg Prod.fst h
    simp only [aE] at this
    split at this <;> exact absurd this (by simp)
  rw [if_neg h1] at h
  by_cases h2 : dE l ≠ 0
  · rw [if_pos h2] at h
    exact absurd (congrArg Prod.fst h) h2
  rw [if_neg h2] at h
  by_cases h3 : (dm l).2.1 < l.length
  · rw [if_pos h3] at h
    exact absurd (congrArg Prod.fst h) (by simp)
  rw [if_neg h3] at h
  by_cases h4 : (rcE ix (enD tm l)).May
  · rw [if_pos h4] at h
    exact ⟨by simpa using h2, h3, h4, (congrArg Prod.snd h).symm⟩
  · rw [if_neg h4] at h
    exact absurd (congrArg Prod.fst h) (by simp)
theorem ent_ext {a b : En} (h0 : a.tm = b.tm) (h1 : a.k = b.k) (h2 : a.n = b.n) (h3 : a.t = b.t) (h4 : a.l = b.l) (h5 : a.b = b.b) (h6 : a.q = b.q) (h7 : a.s = b.s) (h8 : a.m = b.m) : a = b := by
  cases a; cases b; simp only at h0 h1 h2 h3 h4 h5 h6 h7 h8; subst h0 h1 h2 h3 h4 h5 h6 h7 h8; rfl
/-- A command's bytes are read as it was. -/
theorem cB_back (e : En) (wf : e.Wf) (ok : e.ok = true) : dE e.cB = 0 ∧ enD e.tm e.cB = e ∧ (dm e.cB).2.1 = e.cB.length := by
  obtain ⟨tm, k, n, t, l, b, q, s, m⟩ := e
  have hb := wf.b
  have hq := wf.q
  have hs := wf.s
  have hm := wf.m
  have hok : codeOk k n t l b q s m = true := ok
  obtain ⟨k1, k6, n0, n7, t0, t6, hset, hnil⟩ := ok_nats hok
  clear wf ok
  simp only at hb hq hs hm
  obtain ⟨k, rfl⟩ : ∃ k' : Nat, k = (k' : Int) := ⟨k.toNat, by omega⟩
  obtain ⟨n, rfl⟩ : ∃ k' : Nat, n = (k' : Int) := ⟨n.toNat, by omega⟩
  obtain ⟨t, rfl⟩ : ∃ k' : Nat, t = (k' : Int) := ⟨t.toNat, by omega⟩
  obtain ⟨b, rfl⟩ : ∃ k' : Nat, b = (k' : Int) := ⟨b.toNat, by omega⟩
  obtain ⟨q, rfl⟩ : ∃ k' : Nat, q = (k' : Int) := ⟨q.toNat, by omega⟩
  obtain ⟨s, rfl⟩ : ∃ k' : Nat, s = (k' : Int) := ⟨s.toNat, by omega⟩
  obtain ⟨m, rfl⟩ : ∃ k' : Nat, m = (k' : Int) := ⟨m.toNat, by omega⟩
  have hc : CmdOk k n t l b q s m := ⟨hok, by omega, by omega, by omega, by omega⟩
  obtain ⟨x0, x1, x2, x3, x4, x5, x6, x7, x8⟩ := back hc [] (numsB (numsL (k : Int) n t l b q s m)) (by rw [List.append_nil])
  refine ⟨x0, ?_, ?_⟩
  · exact ent_ext rfl (by show (dK _).1 = _; rw [show En.cB _ = numsB (numsL (k : Int) n t l b q s m) from rfl, x1]) (by show (dn _).1 = _; rw [show En.cB _ = numsB (numsL (k : Int) n t l b q s m) from rfl, x3]) (by show (dt _).1 = _; rw [show En.cB _ = numsB (numsL (k : Int) n t l b q s m) from rfl, x6])
      (by show (dL _).1 = _; rw [show En.cB _ = numsB (numsL (k : Int) n t l b q s m) from rfl, x2]) (by show (db _).1 = _; rw [show En.cB _ = numsB (numsL (k : Int) n t l b q s m) from rfl, x4]) (by show (dq _).1 = _; rw [show En.cB _ = numsB (numsL (k : Int) n t l b q s m) from rfl, x5])
      (by show (ds _).1 = _; rw [show En.cB _ = numsB (numsL (k : Int) n t l b q s m) from rfl, x7]) (by show (dm _).1 = _; rw [show En.cB _ = numsB (numsL (k : Int) n t l b q s m) from rfl, x8])
  · show (dm (numsB (numsL (k : Int) n t l b q s m))).2.1 = (numsB (numsL (k : Int) n t l b q s m)).length
    rw [x8]
/-- What was written is read as what it was. -/
theorem rec_back (r : Rc) (wf : r.Wf) (m : r.May) (hl : r.B.length ≤ 8000) : hD r.B = (0, r) := by
  have hB : r.B = [r.k] ++ (if r.k = 1 then numB r.bt.toNat else if r.k = 2 then numB r.tm.toNat ++ numB r.v.toNat else if r.k = 3 then numB r.ix.toNat ++ numB r.en.tm.toNat ++ r.en.cB else if r.k = 4 then numB r.ix.toNat else r.sh.B) := rfl
  obtain ⟨lb, hlb⟩ : ∃ lb, (if r.k = 1 then numB r.bt.toNat else if r.k = 2 then numB r.tm.toNat ++ numB r.v.toNat else if r.k = 3 then numB r.ix.toNat ++ numB r.en.tm.toNat ++ r.en.cB else if r.k = 4 then numB r.ix.toNat else r.sh.B) = lb := ⟨_, rfl⟩
  rw [hlb] at hB
  have h1 : hD r.B = recD r.k lb := by
    rw [hD, if_neg (by omega), if_neg (by rw [hB]; simp), hB]
    rfl
  rw [h1]
  have ho := m.1
  have w1 := wf.bt
  have w2 := wf.tm
  have w3 := wf.ix
  have w4 := wf.en.tm
  rcases m.2 with q | q | q | q | q
  · have e : lb = numB r.bt.toNat := by rw [← hlb, if_pos q.1]
    obtain ⟨x1, -⟩ := rnumI_hit (lb := lb) (k := 0) (z := r.bt) (rest := []) (most := M64) (by rw [e]; simp) (by omega) (by omega) (by show _ ≤ (18446744073709551615 : Int); omega)
    have hr : (⟨r.k, 0, r.bt, 0, 0, en0, sh0⟩ : Rc) = r := by
      have := ho
      unfold Rc.only at this
      simpa [q.1] using this
    rw [recD, if_pos q.1, x1, hr]
    exact fin_ok (by rw [e]; simp) m
  · have e : lb = numB r.tm.toNat ++ numB r.v.toNat := by rw [← hlb, if_neg (by omega), if_pos q.1]
    obtain ⟨x1, y1⟩ := rnumI_hit (lb := lb) (k := 0) (z := r.tm) (rest := numB r.v.toNat) (most := M64) (by rw [e]; simp) (by omega) (by omega) (by show _ ≤ (18446744073709551615 : Int); omega)
    obtain ⟨x2, -⟩ := rnumI_hit (lb := lb) (z := r.v) (rest := []) (most := M64) (by rw [y1]; simp) (by omega) (by omega) (by show _ ≤ (18446744073709551615 : Int); omega)
    have hr : (⟨r.k, r.v, 0, r.tm, 0, en0, sh0⟩ : Rc) = r := by
      have := ho
      unfold Rc.only at this
      simpa [q.1] using this
    rw [recD, if_neg (by omega), if_pos q.1, x1]
    simp only
    rw [x2]
    simp only
    rw [if_neg (by omega), hr]
    exact fin_ok (by rw [e]; simp) m
  · have e : lb = numB r.ix.toNat ++ numB r.en.tm.toNat ++ r.en.cB := by rw [← hlb, if_neg (by omega), if_neg (by omega), if_pos q.1]
    obtain ⟨x1, y1⟩ := rnumI_hit (lb := lb) (k := 0) (z := r.ix) (rest := numB r.en.tm.toNat ++ r.en.cB) (most := M64) (by rw [e]; simp) (by omega) (by omega) (by show _ ≤ (18446744073709551615 : Int); omega)
    obtain ⟨x2, y2⟩ := rnumI_hit (lb := lb) (z := r.en.tm) (rest := r.en.cB) (most := M64) y1 (by omega) (by omega) (by show _ ≤ (18446744073709551615 : Int); omega)
    have hr : rcE r.ix r.en = r := by
      have := ho
      unfold Rc.only at this
      simp only [q.1] at this
      rw [← this]
      rfl
    obtain ⟨c1, c2, c3⟩ := cB_back r.en wf.en q.2.2.2
    rw [recD, if_neg (by omega), if_neg (by omega), if_pos q.1, x1]
    simp only
    rw [x2]
    simp only
    rw [if_pos trivial, y2, addD, if_neg (by rw [c1]; decide), if_neg (by rw [c1]; simp), if_neg (by omega), c2, hr, if_pos m]
  · have e : lb = numB r.ix.toNat := by rw [← hlb, if_neg (by omega), if_neg (by omega), if_neg (by omega), if_pos q.1]
    obtain ⟨x1, -⟩ := rnumI_hit (lb := lb) (k := 0) (z := r.ix) (rest := []) (most := M64) (by rw [e]; simp) (by omega) (by omega) (by show _ ≤ (18446744073709551615 : Int); omega)
    have hr : (⟨r.k, 0, 0, 0, r.ix, en0, sh0⟩ : Rc) = r := by
      have := ho
      unfold Rc.only at this
      simpa [q.1] using this
    rw [recD, if_neg (by omega), if_neg (by omega), if_neg (by omega), if_pos q.1, x1, hr]
    exact fin_ok (by rw [e]; simp) m
  · have e : lb = r.sh.B := by rw [← hlb, if_neg (by omega), if_neg (by omega), if_neg (by omega), if_neg (by omega)]
    have nu : ShNums r.sh.i r.sh.t r.sh.ns r.sh.lim r.sh.nxt r.sh.hs r.sh.ls := ShotOk.nums q.2 wf.sh.i wf.sh.t wf.sh.nxt wf.sh.hs wf.sh.ls
    obtain ⟨x1, F, x2⟩ := shot_back (lb := lb) nu q.2 e (by rw [hB] at hl; simp at hl; omega)
    have hs : shD lb = r.sh := by
      have h0 : shD lb = ⟨(sI lb).1, (sT lb).1, (sNs lb).1, (sLim lb).1, (sNxt lb).1, (sHs lb).1, (sLs lb).1⟩ := rfl
      rw [h0, F.i, F.t, F.ns, F.lim, F.nxt, F.hs, x2]
    have hr : (⟨r.k, 0, 0, 0, 0, en0, r.sh⟩ : Rc) = r := by
      have := ho
      unfold Rc.only at this
      simpa [q.1] using this
    rw [recD, if_neg (by omega), if_neg (by omega), if_neg (by omega), if_neg (by omega), if_pos q.1, x1, if_pos rfl, hs, hr]
    exact fin_ok (Nat.lt_irrefl _) m
theorem take_all {lb : List Int} {k : Nat} (h : ¬ k < lb.length) : lb.take k = lb := List.take_of_length_le (by omega)
/-- What is read is written as these bytes. -/
theorem rec_same {L : List Int} (hb : Byt L) {r : Rc} (h : hD L = (0, r)) : r.May ∧ r.Wf ∧ r.B = L := by
  unfold hD at h
  by_cases h1 : 8000 < L.length
  · rw [if_pos h1] at h
    exact absurd (congrArg Prod.fst h) (by simp)
  rw [if_neg h1] at h
  by_cases h2 : L.length = 0
  · rw [if_pos h2] at h
    exact absurd (congrArg Prod.fst h) (by simp)
  rw [if_neg h2] at h
  match L, h2 with
  | z :: lb, _ =>
    have hbl : Byt lb := fun x hx => hb x (List.mem_cons_of_mem _ hx)
    simp only [List.getD_cons_zero, List.tail_cons] at h
    clear hb h1 h2
    have hle := rnum_le hbl (Nat.zero_le lb.length) 0 (most := M64) (by decide)
    have hle2 := rnum_le hbl hle.2.2.1 (rnum lb 0 0 M64).2.2 (most := M64) (by decide)
    unfold recD at h
    by_cases k1 : z = 1
    · rw [if_pos k1] at h
      obtain ⟨e0, hk, m, rfl⟩ := fin_zero h
      obtain ⟨-, t1, -⟩ := rnum_back hbl (Nat.zero_le _) (by decide) e0
      rw [take_all hk, List.take_zero, List.nil_append] at t1
      subst k1
      refine ⟨m, ⟨by show (Lit.int .i64 1).wf = true; decide, wf0, ⟨hle.1, hle.2.2.2⟩, wfu0, wfu0, en0_wf2, sh0_wf2⟩, ?_⟩
      show [1] ++ numB (rnum lb 0 0 M64).1.toNat = 1 :: lb
      rw [← t1]
      rfl
    rw [if_neg k1] at h
    by_cases k2 : z = 2
    · rw [if_pos k2] at h
      by_cases hbig : (rnum lb (rnum lb 0 0 M64).2.1 (rnum lb 0 0 M64).2.2 M64).1 > 65535
      · rw [if_pos hbig] at h
        exact absurd (congrArg Prod.fst h) (by simp)
      rw [if_neg hbig] at h
      obtain ⟨e0, hk, m, rfl⟩ := fin_zero h
      obtain ⟨e1, t2, -⟩ := rnum_back hbl hle.2.2.1 (by decide) e0
      obtain ⟨-, t1, -⟩ := rnum_back hbl (Nat.zero_le _) (by decide) e1
      rw [take_all hk, t1, List.take_zero, List.nil_append] at t2
      subst k2
      refine ⟨m, ⟨by show (Lit.int .i64 2).wf = true; decide, wf_i64_of (by have := hle2.1; show -9223372036854775808 ≤ (rnum lb (rnum lb 0 0 M64).2.1 (rnum lb 0 0 M64).2.2 M64).1; omega) (by show (rnum lb (rnum lb 0 0 M64).2.1 (rnum lb 0 0 M64).2.2 M64).1 ≤ _; omega), wfu0, ⟨hle.1, hle.2.2.2⟩, wfu0, en0_wf2, sh0_wf2⟩, ?_⟩
      show [2] ++ (numB (rnum lb 0 0 M64).1.toNat ++ numB (rnum lb (rnum lb 0 0 M64).2.1 (rnum lb 0 0 M64).2.2 M64).1.toNat) = 2 :: lb
      rw [← t2]
      rfl
    rw [if_neg k2] at h
    by_cases k3 : z = 3
    · rw [if_pos k3] at h
      by_cases he : (rnum lb (rnum lb 0 0 M64).2.1 (rnum lb 0 0 M64).2.2 M64).2.2 = 0
      rotate_left
      · rw [if_neg he] at h
        exact absurd (fin_zero h).1 he
      rw [if_pos he] at h
      obtain ⟨d0, hk, m, rfl⟩ := addD_zero h
      obtain ⟨e1, t2, -⟩ := rnum_back hbl hle.2.2.1 (by decide) he
      obtain ⟨-, t1, -⟩ := rnum_back hbl (Nat.zero_le _) (by decide) e1
      rw [t1, List.take_zero, List.nil_append] at t2
      obtain ⟨-, s2⟩ := same (hbl.drop _) d0
      rw [take_all hk] at s2
      subst k3
      refine ⟨m, ⟨by show (Lit.int .i64 3).wf = true; decide, wf0, wfu0, wfu0, ⟨hle.1, hle.2.2.2⟩, enD_wf (hbl.drop _) ⟨hle2.1, hle2.2.2.2⟩, sh0_wf2⟩, ?_⟩
      show [3] ++ (numB (rnum lb 0 0 M64).1.toNat ++ numB (rnum lb (rnum lb 0 0 M64).2.1 (rnum lb 0 0 M64).2.2 M64).1.toNat ++ numsB (numsL (dK _).1 (dn _).1 (dt _).1 (dL _).1 (db _).1 (dq _).1 (ds _).1 (dm _).1)) = 3 :: lb
      rw [← s2, ← t2, List.take_append_drop]
      rfl
    rw [if_neg k3] at h
    by_cases k4 : z = 4
    · rw [if_pos k4] at h
      obtain ⟨e0, hk, m, rfl⟩ := fin_zero h
      obtain ⟨-, t1, -⟩ := rnum_back hbl (Nat.zero_le _) (by decide) e0
      rw [take_all hk, List.take_zero, List.nil_append] at t1
      subst k4
      refine ⟨m, ⟨by show (Lit.int .i64 4).wf = true; decide, wf0, wfu0, wfu0, ⟨hle.1, hle.2.2.2⟩, en0_wf2, sh0_wf2⟩, ?_⟩
      show [4] ++ numB (rnum lb 0 0 M64).1.toNat = 4 :: lb
      rw [← t1]
      rfl
    rw [if_neg k4] at h
    by_cases k5 : z = 5
    · rw [if_pos k5] at h
      obtain ⟨e0, hk, m, rfl⟩ := fin_zero h
      rw [if_pos e0] at m ⊢
      subst k5
      refine ⟨m, ⟨by show (Lit.int .i64 5).wf = true; decide, wf0, wfu0, wfu0, wfu0, en0_wf2, shD_wf hbl e0⟩, ?_⟩
      show [5] ++ shotB (sI lb).1 (sT lb).1 (sNs lb).1 (sLim lb).1 (sNxt lb).1 (sHs lb).1 (sLs lb).1 = 5 :: lb
      rw [(shot_same hbl e0).2]
      rfl
    rw [if_neg k5] at h
    exact absurd (congrArg Prod.fst h) (by simp)
end Go.Proofs.Ytadkkhbbempaaaa
