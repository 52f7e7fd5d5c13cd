/- Plain laws of snapshots' bytes: read as what was written; written as what was read; short when cut; none when longer. -/
import Derived.Test.YthdeappjankmmaaRnS
namespace Go.Proofs.Ythdeappjankmmaa
set_option maxRecDepth 100000
open Go.RowKit

theorem hdM_le : ∀ m ∈ hdM, (0 : Int) ≤ m := by decide
theorem lsM_le : ∀ m ∈ lsM, (0 : Int) ≤ m := by decide
theorem hdM_nn (c : Nat) : ∀ m ∈ (List.replicate c hdM).flatten, (0 : Int) ≤ m := fun m hm => by
  obtain ⟨x, hx, hmx⟩ := List.mem_flatten.1 hm
  rw [(List.mem_replicate.1 hx).2] at hmx
  exact hdM_le m hmx
theorem lsM_nn (c : Nat) : ∀ m ∈ (List.replicate c lsM).flatten, (0 : Int) ≤ m := fun m hm => by
  obtain ⟨x, hx, hmx⟩ := List.mem_flatten.1 hm
  rw [(List.mem_replicate.1 hx).2] at hmx
  exact lsM_le m hmx
theorem rep_nn (c : Nat) : ∀ m ∈ List.replicate c (65535 : Int), (0 : Int) ≤ m := fun m hm => by
  rw [(List.mem_replicate.1 hm).2]
  decide
/-! ### What is read, group by group -/
theorem g1 (lb : List Int) : rnums lb [18446744073709551615, 18446744073709551615, 64] 1 0 = ([(sI lb).1, (sT lb).1, (sCn lb).1], (sCn lb).2) := by simp only [rnums, sCn, sT, sI]
theorem g2 (lb : List Int) : rnums lb (List.replicate (sCn lb).1.toNat 65535) (sCn lb).2.1 (sCn lb).2.2 = sNs lb := decNodes_rnums _ _ _ _
theorem g3 (lb : List Int) : rnums lb [65535, 18446744073709551615, 64] (sNs lb).2.1 (sNs lb).2.2 = ([(sLim lb).1, (sNxt lb).1, (sCh lb).1], (sCh lb).2) := by simp only [rnums, sCh, sNxt, sLim]
theorem g4 (lb : List Int) : rnums lb (List.replicate (sCh lb).1.toNat hdM).flatten (sCh lb).2.1 (sCh lb).2.2 = ((sHs lb).1.flatMap hdL, (sHs lb).2) := decH_rnums _ _ _ _
theorem g5 (lb : List Int) : rnums lb [64] (sHs lb).2.1 (sHs lb).2.2 = ([(sCl lb).1], (sCl lb).2) := by simp only [rnums, sCl]
theorem g6 (lb : List Int) : rnums lb (List.replicate (sCl lb).1.toNat lsM).flatten (sCl lb).2.1 (sCl lb).2.2 = ((sLs lb).1.flatMap lsL, (sLs lb).2) := decL_rnums _ _ _ _

section
variable {i t : Int} {ns : List Int} {lim nxt : Int} {hs : List Hd} {ls : List Ls} {lb R : List Int}
theorem fits1 (n : ShNums i t ns lim nxt hs ls) : Fits [i, t, (ns.length : Int)] [18446744073709551615, 18446744073709551615, 64] := by
  have h1 := n.i
  have h2 := n.t
  have h3 := n.nsl
  exact .cons h1.1 h1.2 (by omega) (.cons h2.1 h2.2 (by omega) (.cons (by omega) (by omega) (by omega) .nil))
theorem fits2 (n : ShNums i t ns lim nxt hs ls) : Fits ns (List.replicate ns.length 65535) := Fits.rep (by decide) fun z hz => by have := n.ns z hz; omega
theorem fits3 (n : ShNums i t ns lim nxt hs ls) : Fits [lim, nxt, (hs.length : Int)] [65535, 18446744073709551615, 64] := by
  have h1 := n.lim
  have h2 := n.nxt
  have h3 := n.hsl
  exact .cons (by omega) (by omega) (by omega) (.cons h2.1 h2.2 (by omega) (.cons (by omega) (by omega) (by omega) .nil))
theorem fits4 (n : ShNums i t ns lim nxt hs ls) : Fits (hs.flatMap hdL) (List.replicate hs.length hdM).flatten := Fits.flat fun x hx => by
  obtain ⟨a, b, c, d, e⟩ := n.hs x hx
  exact .cons (by omega) (by omega) (by omega) (.cons (by omega) (by omega) (by omega) (.cons c.1 c.2 (by omega) (.cons d.1 d.2 (by omega) (.cons e.1 e.2 (by omega) .nil))))
theorem fits5 (n : ShNums i t ns lim nxt hs ls) : Fits [(ls.length : Int)] [64] := by
  have h3 := n.lsl
  exact .cons (by omega) (by omega) (by omega) .nil
theorem fits6 (n : ShNums i t ns lim nxt hs ls) : Fits (ls.flatMap lsL) (List.replicate ls.length lsM).flatten := Fits.flat fun x hx => by
  obtain ⟨a, b, c, d, e, f⟩ := n.ls x hx
  exact .cons (by omega) (by omega) (by omega) (.cons b.1 b.2 (by omega) (.cons c.1 c.2 (by omega) (.cons (by omega) (by omega) (by omega) (.cons e.1 (by omega) e.2 (.cons f.1 f.2 (by omega) .nil)))))
/-- All but the rows of Last. -/
structure Front (lb : List Int) (i t : Int) (ns : List Int) (lim nxt : Int) (hs : List Hd) : Prop where
  i : (sI lb).1 = i
  t : (sT lb).1 = t
  ns : (sNs lb).1 = ns
  lim : (sLim lb).1 = lim
  nxt : (sNxt lb).1 = nxt
  hs : (sHs lb).1 = hs
theorem front (n : ShNums i t ns lim nxt hs ls) (h : lb.drop 1 = numsB ([i, t, (ns.length : Int)] ++ (ns ++ ([lim, nxt, (hs.length : Int)] ++ hs.flatMap hdL))) ++ R) :
    Front lb i t ns lim nxt hs ∧ (sHs lb).2.2 = 0 ∧ lb.drop (sHs lb).2.1 = R := by
  rw [numsB_append, List.append_assoc] at h
  obtain ⟨a1, b1⟩ := rnums_hit (fits1 n) 1 _ h
  rw [g1] at a1
  simp only [Prod.mk.injEq, List.cons.injEq, and_true] at a1
  obtain ⟨⟨e1, e2, e3⟩, e4⟩ := a1
  rw [numsB_append, List.append_assoc] at b1
  obtain ⟨a2, b2⟩ := rnums_hit (fits2 n) _ _ b1
  have x2 := g2 lb
  rw [e3, e4, Int.toNat_natCast] at x2
  simp only at x2
  rw [a2] at x2
  rw [numsB_append, List.append_assoc] at b2
  obtain ⟨a3, b3⟩ := rnums_hit (fits3 n) _ _ b2
  have x3 := g3 lb
  rw [← x2] at x3
  simp only at x3
  rw [a3] at x3
  simp only [Prod.mk.injEq, List.cons.injEq, and_true] at x3
  obtain ⟨⟨f1, f2, f3⟩, f4⟩ := x3
  obtain ⟨a4, b4⟩ := rnums_hit (fits4 n) _ _ b3
  have x4 := g4 lb
  rw [← f3, ← f4, Int.toNat_natCast] at x4
  simp only at x4
  rw [a4] at x4
  simp only [Prod.mk.injEq] at x4
  obtain ⟨f5, f6⟩ := x4
  refine ⟨⟨e1, e2, by rw [← x2], f1.symm, f2.symm, (hdL_inj f5).symm⟩, by rw [← f6], ?_⟩
  rw [← f6]
  exact b4
theorem shotB_eq : shotB i t ns lim nxt hs ls = 83 :: (numsB ([i, t, (ns.length : Int)] ++ (ns ++ ([lim, nxt, (hs.length : Int)] ++ hs.flatMap hdL))) ++ (numsB [(ls.length : Int)] ++ numsB (ls.flatMap lsL))) := by
  unfold shotB shotL
  simp only [numsB_append, List.append_assoc]
theorem whole (n : ShNums i t ns lim nxt hs ls) (h : lb = shotB i t ns lim nxt hs ls ++ R) :
    Front lb i t ns lim nxt hs ∧ (sLs lb).1 = ls ∧ (sLs lb).2.2 = 0 ∧ lb.drop (sLs lb).2.1 = R := by
  rw [shotB_eq, List.cons_append, List.append_assoc, List.append_assoc] at h
  have h1 := congrArg (List.drop 1) h
  rw [List.drop_succ_cons, List.drop_zero] at h1
  obtain ⟨F, e0, b4⟩ := front n h1
  obtain ⟨a5, b5⟩ := rnums_hit (fits5 n) _ _ b4
  have x5 := g5 lb
  rw [e0, a5] at x5
  simp only [Prod.mk.injEq, List.cons.injEq, and_true] at x5
  obtain ⟨c1, c2⟩ := x5
  obtain ⟨a6, b6⟩ := rnums_hit (fits6 n) _ _ b5
  have x6 := g6 lb
  rw [← c1, ← c2, Int.toNat_natCast] at x6
  simp only at x6
  rw [a6] at x6
  simp only [Prod.mk.injEq] at x6
  obtain ⟨d1, d2⟩ := x6
  refine ⟨F, (lsL_inj d1).symm, by rw [← d2], ?_⟩
  rw [← d2]
  exact b6
theorem sLs_le (hb : Byt lb) (h0 : 1 ≤ lb.length) : (sLs lb).2.1 ≤ lb.length := by
  have r1 := rnums_le hb [18446744073709551615, 18446744073709551615, 64] 1 0 (by decide) h0
  rw [g1] at r1
  have r2 := rnums_le hb (List.replicate (sCn lb).1.toNat 65535) (sCn lb).2.1 (sCn lb).2.2 (rep_nn _) r1
  rw [g2] at r2
  have r3 := rnums_le hb [65535, 18446744073709551615, 64] (sNs lb).2.1 (sNs lb).2.2 (by decide) r2
  rw [g3] at r3
  have p4 := hdM_nn
  have p6 := lsM_nn
  have r4 := rnums_le hb (List.replicate (sCh lb).1.toNat hdM).flatten (sCh lb).2.1 (sCh lb).2.2 (p4 _) r3
  rw [g4] at r4
  have r5 := rnums_le hb [64] (sHs lb).2.1 (sHs lb).2.2 (by decide) r4
  rw [g5] at r5
  have r6 := rnums_le hb (List.replicate (sCl lb).1.toNat lsM).flatten (sCl lb).2.1 (sCl lb).2.2 (p6 _) r5
  rw [g6] at r6
  exact r6
/-- What was written is read. -/
theorem shot_back (n : ShNums i t ns lim nxt hs ls) (ok : ShotOk i t ns lim nxt hs ls) (h : lb = shotB i t ns lim nxt hs ls) (hlen : lb.length ≤ 8192) :
    sE lb = 0 ∧ Front lb i t ns lim nxt hs ∧ (sLs lb).1 = ls := by
  obtain ⟨F, e1, e2, e3⟩ := whole (lb := lb) (R := []) n (by rw [List.append_nil]; exact h)
  have hd : lb.head? = some 83 := by rw [h]; rfl
  have h0 : lb.length ≠ 0 := by rw [h]; simp [shotB]
  refine ⟨?_, F, e1⟩
  have h1 : sE1 lb = 0 := by
    unfold sE1
    rw [if_neg, e2]
    intro hh
    have := congrArg List.length e3
    rw [List.length_drop, List.length_nil] at this
    omega
  unfold sE
  rw [if_neg (by omega), if_neg h0, if_neg (by rw [hd]; simp), if_pos h1, F.i, F.t, F.ns, F.lim, F.nxt, F.hs, e1, decide_eq_true ok]
  rfl
/-- With one more byte it is none. -/
theorem shot_more (n : ShNums i t ns lim nxt hs ls) {c : Int} (h : lb = shotB i t ns lim nxt hs ls ++ [c]) (hlen : lb.length ≤ 8192) : sE lb = 11 := by
  obtain ⟨F, e1, e2, e3⟩ := whole (lb := lb) (R := [c]) n h
  have hd : lb.head? = some 83 := by rw [h]; rfl
  have h0 : lb.length ≠ 0 := by rw [h]; simp [shotB]
  have h1 : sE1 lb = 11 := by
    unfold sE1
    rw [if_pos]
    refine ⟨e2, ?_⟩
    have := congrArg List.length e3
    rw [List.length_drop, List.length_singleton] at this
    omega
  unfold sE
  rw [if_neg (by omega), if_neg h0, if_neg (by rw [hd]; simp), if_neg (by rw [h1]; decide), h1]
/-- A byte less is short. -/
theorem shot_cut (n : ShNums i t ns lim nxt hs ls) (h : lb = (shotB i t ns lim nxt hs ls).take ((shotB i t ns lim nxt hs ls).length - 1)) (hlen : lb.length ≤ 8192) : sE lb = 10 := by
  have hp5 := numsB_pos (l := [(ls.length : Int)]) (by simp)
  rw [shotB_eq] at h
  have hcut : lb = 83 :: (numsB ([i, t, (ns.length : Int)] ++ (ns ++ ([lim, nxt, (hs.length : Int)] ++ hs.flatMap hdL))) ++ (numsB [(ls.length : Int)] ++ numsB (ls.flatMap lsL)).take ((numsB [(ls.length : Int)] ++ numsB (ls.flatMap lsL)).length - 1)) := by
    rw [h, ← List.singleton_append, cut_front (by simp only [List.length_append]; omega), cut_front (by simp only [List.length_append]; omega)]
    rfl
  have hd : lb.head? = some 83 := by rw [hcut]; rfl
  have h0 : lb.length ≠ 0 := by rw [hcut]; simp
  have h1 := congrArg (List.drop 1) hcut
  rw [List.drop_succ_cons, List.drop_zero] at h1
  obtain ⟨F, e0, b4⟩ := front n h1
  have key : (sLs lb).2.2 = 10 := by
    rcases Nat.eq_zero_or_pos ls.length with hz | hz
    · have hl : ls = [] := List.eq_nil_of_length_eq_zero hz
      subst hl
      have x5 := rnums_short (fits5 n) (sHs lb).2.1 (by simp) (by rw [b4]; simp [numsB])
      have y5 := g5 lb
      rw [e0] at y5
      rw [y5] at x5
      have hz2 : (sCl lb).2.2 = 10 := x5
      have x7 := rnums_err (lb := lb) (e := (sCl lb).2.2) (by rw [hz2]; decide) (List.replicate (sCl lb).1.toNat lsM).flatten (sCl lb).2.1
      rw [g6] at x7
      have := congrArg Prod.snd x7
      simp only at this
      rw [this, hz2]
    · have hp6 : 1 ≤ (numsB (ls.flatMap lsL)).length := numsB_pos (by rw [flatI_len (s := 6) (fun _ => rfl)]; omega)
      rw [cut_front hp6] at b4
      obtain ⟨a5, b5⟩ := rnums_hit (fits5 n) _ _ b4
      have x5 := g5 lb
      rw [e0, a5] at x5
      simp only [Prod.mk.injEq, List.cons.injEq, and_true] at x5
      obtain ⟨c1, c2⟩ := x5
      have a6 := rnums_short (fits6 n) _ (by rw [flatI_len (s := 6) (fun _ => rfl)]; omega) b5
      have x6 := g6 lb
      rw [← c1, ← c2, Int.toNat_natCast] at x6
      simp only at x6
      rw [x6] at a6
      exact a6
  have h1 : sE1 lb = 10 := by
    unfold sE1
    rw [if_neg (by rw [key]; simp), key]
  unfold sE
  rw [if_neg (by omega), if_neg h0, if_neg (by rw [hd]; simp), if_neg (by rw [h1]; decide), h1]
/-- What is read is written as these bytes. -/
theorem shot_same (hb : Byt lb) (h : sE lb = 0) : ShotOk (sI lb).1 (sT lb).1 (sNs lb).1 (sLim lb).1 (sNxt lb).1 (sHs lb).1 (sLs lb).1 ∧ shotB (sI lb).1 (sT lb).1 (sNs lb).1 (sLim lb).1 (sNxt lb).1 (sHs lb).1 (sLs lb).1 = lb := by
  unfold sE at h
  split at h
  · simp at h
  split at h
  · simp at h
  split at h
  · simp at h
  rename_i hl h0 hd
  split at h
  rotate_left
  · contradiction
  rename_i h1
  have ok : ShotOk (sI lb).1 (sT lb).1 (sNs lb).1 (sLim lb).1 (sNxt lb).1 (sHs lb).1 (sLs lb).1 := by
    rcases Classical.em (ShotOk (sI lb).1 (sT lb).1 (sNs lb).1 (sLim lb).1 (sNxt lb).1 (sHs lb).1 (sLs lb).1) with q | q
    · exact q
    · rw [decide_eq_false q] at h
      simp [errShot] at h
  refine ⟨ok, ?_⟩
  have h2 : (sLs lb).2.2 = 0 := by
    unfold sE1 at h1
    split at h1
    · simp at h1
    · exact h1
  have h3 : lb.length ≤ (sLs lb).2.1 := by
    unfold sE1 at h1
    split at h1
    · simp at h1
    · rename_i hh
      exact Nat.le_of_not_lt fun q => hh ⟨h2, q⟩
  have h0' : 1 ≤ lb.length := by omega
  have p4 := hdM_nn
  have p6 := lsM_nn
  have p2 := rep_nn
  have r1 := rnums_le hb [18446744073709551615, 18446744073709551615, 64] 1 0 (by decide) h0'
  rw [g1] at r1
  have r2 := rnums_le hb (List.replicate (sCn lb).1.toNat 65535) (sCn lb).2.1 (sCn lb).2.2 (p2 _) r1
  rw [g2] at r2
  have r3 := rnums_le hb [65535, 18446744073709551615, 64] (sNs lb).2.1 (sNs lb).2.2 (by decide) r2
  rw [g3] at r3
  have r4 := rnums_le hb (List.replicate (sCh lb).1.toNat hdM).flatten (sCh lb).2.1 (sCh lb).2.2 (p4 _) r3
  rw [g4] at r4
  have r5 := rnums_le hb [64] (sHs lb).2.1 (sHs lb).2.2 (by decide) r4
  rw [g5] at r5
  obtain ⟨e6, t6, _⟩ := rnums_back hb (List.replicate (sCl lb).1.toNat lsM).flatten (sCl lb).2.1 (sCl lb).2.2 (p6 _) r5 (by rw [g6]; exact h2)
  rw [g6] at t6
  obtain ⟨e5, t5, _⟩ := rnums_back hb [64] (sHs lb).2.1 (sHs lb).2.2 (by decide) r4 (by rw [g5]; exact e6)
  rw [g5] at t5
  obtain ⟨e4, t4, _⟩ := rnums_back hb (List.replicate (sCh lb).1.toNat hdM).flatten (sCh lb).2.1 (sCh lb).2.2 (p4 _) r3 (by rw [g4]; exact e5)
  rw [g4] at t4
  obtain ⟨e3, t3, _⟩ := rnums_back hb [65535, 18446744073709551615, 64] (sNs lb).2.1 (sNs lb).2.2 (by decide) r2 (by rw [g3]; exact e4)
  rw [g3] at t3
  obtain ⟨e2, t2, _⟩ := rnums_back hb (List.replicate (sCn lb).1.toNat 65535) (sCn lb).2.1 (sCn lb).2.2 (p2 _) r1 (by rw [g2]; exact e3)
  rw [g2] at t2
  obtain ⟨e1, t1, _⟩ := rnums_back hb [18446744073709551615, 18446744073709551615, 64] 1 0 (by decide) h0' (by rw [g1]; exact e2)
  rw [g1] at t1
  simp only at t1 t2 t3 t4 t5 t6
  have f1 := rnums_fits hb [18446744073709551615, 18446744073709551615, 64] 1 0 (by decide) h0'
  rw [g1] at f1
  have f3 := rnums_fits hb [65535, 18446744073709551615, 64] (sNs lb).2.1 (sNs lb).2.2 (by decide) r2
  rw [g3] at f3
  have f5 := rnums_fits hb [64] (sHs lb).2.1 (sHs lb).2.2 (by decide) r4
  rw [g5] at f5
  have c1 : ((sNs lb).1.length : Int) = (sCn lb).1 := by
    have := (decNodes_mem hb (sCn lb).1.toNat (sCn lb).2.1 (sCn lb).2.2 r1).1
    have e : (sNs lb).1.length = (sCn lb).1.toNat := this
    cases f1 with
    | cons _ _ _ f => cases f with
      | cons _ _ _ f => cases f with
        | cons h _ _ _ => omega
  have c3 : ((sHs lb).1.length : Int) = (sCh lb).1 := by
    have := (decH_mem hb (sCh lb).1.toNat (sCh lb).2.1 (sCh lb).2.2 r3).1
    have e : (sHs lb).1.length = (sCh lb).1.toNat := this
    cases f3 with
    | cons _ _ _ f => cases f with
      | cons _ _ _ f => cases f with
        | cons h _ _ _ => omega
  have c5 : ((sLs lb).1.length : Int) = (sCl lb).1 := by
    have := (decL_mem hb (sCl lb).1.toNat (sCl lb).2.1 (sCl lb).2.2 r5).1
    have e : (sLs lb).1.length = (sCl lb).1.toNat := this
    cases f5 with
    | cons h _ _ _ => omega
  have t0 : lb.take 1 = [83] := by
    cases lb with
    | nil => simp at h0'
    | cons x l =>
      simp only [List.head?_cons, ne_eq, Option.some.injEq, Classical.not_not] at hd
      subst hd
      rfl
  rw [List.take_of_length_le h3, t5, t4, t3, t2, t1, t0] at t6
  rw [shotB_eq, c1, c3, c5]
  refine Eq.trans ?_ t6.symm
  simp only [numsB_append, List.append_assoc, List.singleton_append]
  rfl
/-- Numbers that are read. -/
theorem shot_wf (hb : Byt lb) (h0 : 1 ≤ lb.length) : (0 ≤ (sI lb).1 ∧ (sI lb).1 < 18446744073709551616) ∧ (0 ≤ (sT lb).1 ∧ (sT lb).1 < 18446744073709551616) ∧ (0 ≤ (sNxt lb).1 ∧ (sNxt lb).1 < 18446744073709551616) ∧
    (∀ h ∈ (sHs lb).1, h.Wf) ∧ (∀ x ∈ (sLs lb).1, x.Wf) ∧ (sNs lb).1.length ≤ 64 ∧ (sHs lb).1.length ≤ 64 ∧ (sLs lb).1.length ≤ 64 := by
  have p4 := hdM_nn
  have p2 := rep_nn
  have r1 := rnums_le hb [18446744073709551615, 18446744073709551615, 64] 1 0 (by decide) h0
  rw [g1] at r1
  have r2 := rnums_le hb (List.replicate (sCn lb).1.toNat 65535) (sCn lb).2.1 (sCn lb).2.2 (p2 _) r1
  rw [g2] at r2
  have r3 := rnums_le hb [65535, 18446744073709551615, 64] (sNs lb).2.1 (sNs lb).2.2 (by decide) r2
  rw [g3] at r3
  have r4 := rnums_le hb (List.replicate (sCh lb).1.toNat hdM).flatten (sCh lb).2.1 (sCh lb).2.2 (p4 _) r3
  rw [g4] at r4
  have r5 := rnums_le hb [64] (sHs lb).2.1 (sHs lb).2.2 (by decide) r4
  rw [g5] at r5
  have f1 := rnums_fits hb [18446744073709551615, 18446744073709551615, 64] 1 0 (by decide) h0
  rw [g1] at f1
  have f3 := rnums_fits hb [65535, 18446744073709551615, 64] (sNs lb).2.1 (sNs lb).2.2 (by decide) r2
  rw [g3] at f3
  have f5 := rnums_fits hb [64] (sHs lb).2.1 (sHs lb).2.2 (by decide) r4
  rw [g5] at f5
  obtain ⟨m1, _, _⟩ := decNodes_mem hb (sCn lb).1.toNat (sCn lb).2.1 (sCn lb).2.2 r1
  obtain ⟨m3, w3, _⟩ := decH_mem hb (sCh lb).1.toNat (sCh lb).2.1 (sCh lb).2.2 r3
  obtain ⟨m5, w5, _⟩ := decL_mem hb (sCl lb).1.toNat (sCl lb).2.1 (sCl lb).2.2 r5
  have e1 : (sNs lb).1.length = (sCn lb).1.toNat := m1
  have e3 : (sHs lb).1.length = (sCh lb).1.toNat := m3
  have e5 : (sLs lb).1.length = (sCl lb).1.toNat := m5
  cases f1 with
  | cons a1 a2 _ f => cases f with
    | cons b1 b2 _ f => cases f with
      | cons _ _ k1 _ =>
        cases f3 with
        | cons _ _ _ f => cases f with
          | cons n1 n2 _ f => cases f with
            | cons _ _ k3 _ =>
              cases f5 with
              | cons _ _ k5 _ => exact ⟨⟨a1, a2⟩, ⟨b1, b2⟩, ⟨n1, n2⟩, w3, w5, by omega, by omega, by omega⟩
end
end Go.Proofs.Ythdeappjankmmaa
