/- The document's pool, in memory; Has, waits, find. -/
import Derived.Test.YtidkhekekfennaaPlL
namespace Go.Proofs.Ytidkhekekfennaa
set_option maxRecDepth 100000
set_option linter.unusedVariables false
open Go.RowKit

structure RpAt (w : World) (base g : Nat) (v u : Value) (cs : List Cn) (ws : List Int) : Prop where
  blk : Blk w g 42 #[v, u]
  row : w.ownsRow base 56 2 v cs.length (cs.flatMap cnC)
  lin : OwnN .i64 3 w base u ws
  gb : base ≤ g
  c8 : cs.length ≤ 8
  w4 : ws.length ≤ 4
  wr : ∀ x ∈ ws, 1 ≤ x ∧ x ≤ 6
/-- The blocks of such a pool. -/
def RB (g : Nat) (v u : Value) (j : Nat) : Prop := j = g ∨ v.ownBlock = some j ∨ u.ownBlock = some j
section
variable {w w1 : World} {base base' g : Nat} {v u : Value} {cs : List Cn} {ws : List Int} {Q : Nat → Prop}
theorem RpAt.lt (h : RpAt w base g v u cs ws) : g < w.heap.size := h.blk.lt
theorem RpAt.lts (h : RpAt w base g v u cs ws) : ∀ j, RB g v u j → base ≤ j ∧ j < w.heap.size := by
  rintro j (rfl | e | e)
  · exact ⟨h.gb, h.lt⟩
  · exact h.row.lt j e
  · exact World.ownsRow.lt h.lin j e
theorem RpAt.tr (h : RpAt w base g v u cs ws) (k : Tr w w1 Q) (hp : ∀ j, RB g v u j → ¬ Q j) : RpAt w1 base g v u cs ws :=
  ⟨h.blk.tr k (hp g (Or.inl rfl)), own_tr h.row k (fun b e => hp b (Or.inr (Or.inl e))), own_tr h.lin k (fun b e => hp b (Or.inr (Or.inr e))), h.gb, h.c8, h.w4, h.wr⟩
theorem RpAt.keep (h : RpAt w base g v u cs ws) (k : Below w.heap.size w w1) : RpAt w1 base g v u cs ws := h.tr (Q := fun _ => False) (Tr.of_below k) (fun _ _ q => q)
theorem RpAt.lower (h : RpAt w base g v u cs ws) (hb : base' ≤ base) : RpAt w base' g v u cs ws := ⟨h.blk, own_lower h.row hb, own_lower h.lin hb, Nat.le_trans hb h.gb, h.c8, h.w4, h.wr⟩
theorem RpAt.wf (h : RpAt w base g v u cs ws) : Wfs .i64 ws := fun x hx => by
  have := h.wr x hx
  have e1 : IntKind.i64.min = -9223372036854775808 := by decide
  have e2 : IntKind.i64.max = 9223372036854775807 := by decide
  show (decide (IntKind.i64.min ≤ x) && decide (x ≤ IntKind.i64.max)) = true
  rw [e1, e2, decide_eq_true (by omega), decide_eq_true (by omega)]
  rfl
theorem RpAt.ins (h : RpAt w base g v u cs ws) : ∃ A c, v = .slice A cs.length c ∧ InS cnC 2 w A c cs := InS.own h.row (by have := h.c8; omega)
theorem RpAt.inn (h : RpAt w base g v u cs ws) : ∃ A c, u = .slice A ws.length c ∧ InN .i64 w A c ws := InN.own h.lin h.wf (by have := h.w4; omega)
theorem RpAt.z0 (h : RpAt w base g v u cs ws) : w.cell? ⟨g, 0, none⟩ = some v := by rw [h.blk.cell]; rfl
theorem RpAt.z1 (h : RpAt w base g v u cs ws) : w.cell? ⟨g, 1, none⟩ = some u := by rw [h.blk.cell]; rfl
end
/-! ### Plain -/
theorem fd_hit {cs : List Cn} {s : Int} {k : Nat} (hk : k < cs.length) (h : ∀ j (hj : j < cs.length), j < k → cs[j].s ≠ s) (he : cs[k].s = s) : fdS cs s = some k :=
  List.findIdx?_eq_some_iff_getElem.2 ⟨hk, by simpa using he, fun j hj => by simpa using h j (by omega) hj⟩
theorem fd_miss {cs : List Cn} {s : Int} (h : ∀ j (hj : j < cs.length), cs[j].s ≠ s) : fdS cs s = none :=
  List.findIdx?_eq_none_iff.2 (fun c hc => by
    obtain ⟨j, hj, rfl⟩ := List.getElem_of_mem hc
    simpa using h j hj)
theorem hasP_hit {cs : List Cn} {s : Int} {k : Nat} (hk : k < cs.length) (h : ∀ j (hj : j < cs.length), j < k → cs[j].s = s → s = 0) (hs : s ≠ 0) (he : cs[k].s = s) : hasP cs s = cs[k].t := by
  unfold hasP
  rw [if_neg hs, fd_hit hk (fun j hj hjk e => hs (h j hj hjk e)) he]
  exact fd_at hk
theorem hasP_miss {cs : List Cn} {s : Int} (h : ∀ j (hj : j < cs.length), j < cs.length → cs[j].s = s → s = 0) : hasP cs s = 0 := by
  unfold hasP
  by_cases hs : s = 0
  · rw [if_pos hs]
  · rw [if_neg hs, fd_miss (fun j hj e => hs (h j hj hj e))]
theorem inW_hit {ws : List Int} {s : Int} {k : Nat} (hk : k < ws.length) (he : ws[k] = s) : inW ws s = true := by
  unfold inW
  rw [List.findIdx?_isSome, List.any_eq_true]
  exact ⟨_, List.getElem_mem hk, by simpa using he⟩
theorem inW_miss {ws : List Int} {s : Int} (h : ∀ j (hj : j < ws.length), j < ws.length → ws[j] ≠ s) : inW ws s = false := by
  unfold inW
  rw [List.findIdx?_isSome, List.any_eq_false]
  intro x hx
  obtain ⟨j, hj, rfl⟩ := List.getElem_of_mem hx
  simpa using h j hj hj
def fdT (cs : List Cn) (t : Int) : Option Nat := cs.findIdx? (fun c => c.t == t)
theorem fdT_hit {cs : List Cn} {t : Int} {k : Nat} (hk : k < cs.length) (h : ∀ j (hj : j < cs.length), j < k → cs[j].t ≠ t) (he : cs[k].t = t) : fdT cs t = some k :=
  List.findIdx?_eq_some_iff_getElem.2 ⟨hk, by simpa using he, fun j hj => by simpa using h j (by omega) hj⟩
theorem fdT_miss {cs : List Cn} {t : Int} (h : ∀ j (hj : j < cs.length), j < cs.length → cs[j].t ≠ t) : fdT cs t = none :=
  List.findIdx?_eq_none_iff.2 (fun c hc => by
    obtain ⟨j, hj, rfl⟩ := List.getElem_of_mem hc
    simpa using h j hj hj)
/-! ### Has -/
set_option maxHeartbeats 4000000 in
theorem rhas_any (w : World) (base g : Nat) (v u : Value) (cs : List Cn) (ws : List Int) (h : RpAt w base g v u cs ws) (s : Int) :
    Calls Try.prog 23 #[.pointer (some ⟨g, 0, none⟩), .int .i64 s] w fun e w' => e = .returned (.int .i64 (hasP cs s)) ∧ Below w.heap.size w w' := by
  have z0 := h.z0
  obtain ⟨A, c, rfl, hin⟩ := h.ins
  obtain ⟨X, hX⟩ : ∃ X, hasP cs s = X := ⟨_, rfl⟩
  obtain ⟨n, hn⟩ : ∃ n, cs.length = n := ⟨_, rfl⟩
  have hn8 : n ≤ 8 := hn ▸ h.c8
  obtain ⟨G, hG⟩ : ∃ G, w.heap.size = G := ⟨_, rfl⟩
  have HIN := Lib.hid hin
  rw [hX, hG]
  rw [hn] at z0
  have HX := Lib.hid hX
  have HN := Lib.hid hn
  have HG := Lib.hid hG
  clear h hX hn hin hG
  go_enter Try.func23, Try.ntmps23
  go_wp2
  clear z0
  go_loopw [12] (fun s12 wr => ∃ k : Nat, s12 = .int .i64 k ∧ k ≤ n ∧ (∀ j (hj : j < cs.length), j < k → cs[j].s = s → s = 0) ∧ Below G w wr) (fun s12 _ => n - (intOf s12).toNat)
  case atStart => exact ⟨0, rfl, Nat.zero_le _, fun _ _ h => absurd h (Nat.not_lt_zero _), Below.refl _ _⟩
  case round =>
    obtain ⟨k, rfl, hk, hno, hB⟩ := hrel
    have HNO := Lib.hid hno
    have HB := Lib.hid hB
    by_cases hkn : k < n
    · have hkl : k < cs.length := by rw [HN.out]; exact hkn
      obtain ⟨b, off, rfl, hbb, hat⟩ := (HIN.out.keep (HG.out ▸ hB)).cn (by omega)
      have hck := hat k hkl
      have HHIT := Lib.hid (fun h1 h2 => hasP_hit hkl hno (s := s) h1 h2)
      have HNX : Hid (cs[k].s ≠ s ∨ s = 0 → ∀ j (hj : j < cs.length), j < k + 1 → cs[j].s = s → s = 0) := Lib.hid (fun hh j hj hjk he => by
        rcases Nat.lt_or_ge j k with h1 | h1
        · exact hno j hj h1 he
        · obtain rfl : j = k := by omega
          rcases hh with hh | hh
          · exact absurd he hh
          · exact hh)
      obtain ⟨y, hy⟩ : ∃ y, cs[k] = y := ⟨_, rfl⟩
      rw [hy] at hck HHIT HNX
      obtain ⟨t, ht⟩ : ∃ t, y.t = t := ⟨_, rfl⟩
      obtain ⟨q, hq⟩ : ∃ q, y.s = q := ⟨_, rfl⟩
      obtain ⟨c0, c1⟩ := hck
      rw [ht] at c0 HHIT
      rw [hq] at c1 HHIT HNX
      have hgs : G ≤ wr.heap.size := by have h1 := hB.size; have h2 := HG.out; omega
      have hB5 := hB.alloc hgs (.cells #[.int .i64 t, .int .i64 q] 56)
      have hx5 := Blk.new wr 56 #[.int .i64 t, .int .i64 q]
      clear hat hy ht hq hno hB hkl
      go_upto_region 4 with (fail)
      change Code.wp _ _ _ _ (wr.alloc (.cells #[.int .i64 t, .int .i64 q] 56))
      generalize wr.heap.size = gx at hx5 hgs ⊢
      generalize (wr.alloc (.cells #[.int .i64 t, .int .i64 q] 56)) = W5 at hx5 hB5 ⊢
      clear c0 c1 HB hbb
      have d0 : W5.cell? ⟨gx, 0, none⟩ = some (.int .i64 t) := by rw [hx5.cell]; rfl
      have d1 : W5.cell? ⟨gx, 1, none⟩ = some (.int .i64 q) := by rw [hx5.cell]; rfl
      have HB5 := Lib.hid hB5
      clear hB5 hx5
      cases e1 : (q == s)
      · have hne : q ≠ s := by simpa using e1
        have HNX := Lib.hid (HNX.out (Or.inl hne))
        clear hne
        go_wp2
        go_roundw
        case rel => exact ⟨k + 1, by go_num, by omega, HNX.out, HB5.out⟩
        case measure => simp [intOf]; omega
      · have heq : q = s := by simpa using e1
        by_cases hs : s = 0
        · have e2 : (s != 0) = false := by simpa using hs
          have HNX := Lib.hid (HNX.out (Or.inr hs))
          clear hs heq
          go_wp2
          go_roundw
          case rel => exact ⟨k + 1, by go_num, by omega, HNX.out, HB5.out⟩
          case measure => simp [intOf]; omega
        · have e2 : (s != 0) = true := by simpa using hs
          have HR : Hid (X = t) := Lib.hid (HX.out.symm.trans (HHIT.out hs heq))
          clear hs heq
          go_wp2
          go_ret
          refine ⟨?_, HB5.out⟩; rw [HR.out]; rfl
    · obtain rfl : k = n := by omega
      have HR : Hid (X = 0) := Lib.hid (HX.out.symm.trans (hasP_miss (HN.out ▸ hno)))
      clear hno hB hkn
      go_wp2
      go_ret
      refine ⟨?_, HB.out⟩; rw [HR.out]; rfl
/-! ### waits -/
set_option maxHeartbeats 4000000 in
theorem rwaits_any (w : World) (base g : Nat) (v u : Value) (cs : List Cn) (ws : List Int) (h : RpAt w base g v u cs ws) (s : Int) :
    Calls Try.prog 36 #[.pointer (some ⟨g, 0, none⟩), .int .i64 s] w fun e w' => e = .returned (.bool (inW ws s)) ∧ w' = w := by
  have z1 := h.z1
  obtain ⟨A, c, rfl, hin⟩ := h.inn
  obtain ⟨X, hX⟩ : ∃ X, inW ws s = X := ⟨_, rfl⟩
  obtain ⟨n, hn⟩ : ∃ n, ws.length = n := ⟨_, rfl⟩
  have hn8 : n ≤ 4 := hn ▸ h.w4
  have HIN := Lib.hid hin
  rw [hX]
  rw [hn] at z1
  have HX := Lib.hid hX
  have HN := Lib.hid hn
  clear h hX hn hin
  go_enter Try.func36, Try.ntmps36
  go_wp2
  clear z1
  go_loopw [12] (fun s12 wr => ∃ k : Nat, s12 = .int .i64 k ∧ k ≤ n ∧ (∀ j (hj : j < ws.length), j < k → ws[j] ≠ s) ∧ wr = w) (fun s12 _ => n - (intOf s12).toNat)
  case atStart => exact ⟨0, rfl, Nat.zero_le _, fun _ _ h => absurd h (Nat.not_lt_zero _), rfl⟩
  case round =>
    obtain ⟨k, rfl, hk, hno, hw⟩ := hrel
    obtain rfl := hw.symm
    have HNO := Lib.hid hno
    by_cases hkn : k < n
    · have hkl : k < ws.length := by rw [HN.out]; exact hkn
      obtain ⟨b, off, rfl, hat⟩ := HIN.out.all (by omega)
      have hck := hat k hkl
      have HHIT := Lib.hid (fun h1 => inW_hit hkl (s := s) h1)
      have HNX : Hid (ws[k] ≠ s → ∀ j (hj : j < ws.length), j < k + 1 → ws[j] ≠ s) := Lib.hid (fun hh j hj hjk => by
        rcases Nat.lt_or_ge j k with h1 | h1
        · exact hno j hj h1
        · obtain rfl : j = k := by omega
          exact hh)
      obtain ⟨y, hy⟩ : ∃ y, ws[k] = y := ⟨_, rfl⟩
      rw [hy] at hck HHIT HNX
      clear hat hy hno hkl
      cases e1 : (y == s)
      · have HNX := Lib.hid (HNX.out (by simpa using e1))
        go_wp2
        go_roundw
        case rel => exact ⟨k + 1, by go_num, by omega, HNX.out, by first | trivial | rfl⟩
        case measure => simp [intOf]; omega
      · have HR : Hid (X = true) := Lib.hid (HX.out.symm.trans (HHIT.out (by simpa using e1)))
        go_wp2
        go_ret
        refine ⟨?_, rfl⟩; rw [HR.out]; rfl
    · obtain rfl : k = n := by omega
      have HR : Hid (X = false) := Lib.hid (HX.out.symm.trans (inW_miss (HN.out ▸ hno)))
      clear hno hkn
      go_wp2
      go_ret
      refine ⟨?_, rfl⟩; rw [HR.out]; rfl
/-! ### find -/
set_option maxHeartbeats 4000000 in
theorem rfind_any (w : World) (base g : Nat) (v u : Value) (cs : List Cn) (ws : List Int) (h : RpAt w base g v u cs ws) (t : Int) :
    Calls Try.prog 32 #[.pointer (some ⟨g, 0, none⟩), .int .i64 t] w fun e w' => e = .returned (.int .i64 (plI (fdT cs t))) ∧ Below w.heap.size w w' := by
  have z0 := h.z0
  obtain ⟨A, c, rfl, hin⟩ := h.ins
  obtain ⟨X, hX⟩ : ∃ X, plI (fdT cs t) = X := ⟨_, rfl⟩
  obtain ⟨n, hn⟩ : ∃ n, cs.length = n := ⟨_, rfl⟩
  have hn8 : n ≤ 8 := hn ▸ h.c8
  obtain ⟨G, hG⟩ : ∃ G, w.heap.size = G := ⟨_, rfl⟩
  have HIN := Lib.hid hin
  rw [hX, hG]
  rw [hn] at z0
  have HX := Lib.hid hX
  have HN := Lib.hid hn
  have HG := Lib.hid hG
  clear h hX hn hin hG
  go_enter Try.func32, Try.ntmps32
  go_wp2
  clear z0
  go_loopw [12] (fun s12 wr => ∃ k : Nat, s12 = .int .i64 k ∧ k ≤ n ∧ (∀ j (hj : j < cs.length), j < k → cs[j].t ≠ t) ∧ Below G w wr) (fun s12 _ => n - (intOf s12).toNat)
  case atStart => exact ⟨0, rfl, Nat.zero_le _, fun _ _ h => absurd h (Nat.not_lt_zero _), Below.refl _ _⟩
  case round =>
    obtain ⟨k, rfl, hk, hno, hB⟩ := hrel
    have HB := Lib.hid hB
    by_cases hkn : k < n
    · have hkl : k < cs.length := by rw [HN.out]; exact hkn
      obtain ⟨b, off, rfl, hbb, hat⟩ := (HIN.out.keep (HG.out ▸ hB)).cn (by omega)
      have hck := hat k hkl
      have HHIT := Lib.hid (fun h1 => congrArg plI (fdT_hit hkl hno (t := t) h1))
      have HNX : Hid (cs[k].t ≠ t → ∀ j (hj : j < cs.length), j < k + 1 → cs[j].t ≠ t) := Lib.hid (fun hh j hj hjk => by
        rcases Nat.lt_or_ge j k with h1 | h1
        · exact hno j hj h1
        · obtain rfl : j = k := by omega
          exact hh)
      obtain ⟨y, hy⟩ : ∃ y, cs[k] = y := ⟨_, rfl⟩
      rw [hy] at hck HHIT HNX
      obtain ⟨p, hp⟩ : ∃ p, y.t = p := ⟨_, rfl⟩
      obtain ⟨q, hq⟩ : ∃ q, y.s = q := ⟨_, rfl⟩
      obtain ⟨c0, c1⟩ := hck
      rw [hp] at c0 HHIT HNX
      rw [hq] at c1
      have hgs : G ≤ wr.heap.size := by have h1 := hB.size; have h2 := HG.out; omega
      have hB5 := hB.alloc hgs (.cells #[.int .i64 p, .int .i64 q] 56)
      have hx5 := Blk.new wr 56 #[.int .i64 p, .int .i64 q]
      clear hat hy hp hq hno hB hkl
      go_upto_region 4 with (fail)
      change Code.wp _ _ _ _ (wr.alloc (.cells #[.int .i64 p, .int .i64 q] 56))
      generalize wr.heap.size = gx at hx5 hgs ⊢
      generalize (wr.alloc (.cells #[.int .i64 p, .int .i64 q] 56)) = W5 at hx5 hB5 ⊢
      clear c0 c1 HB hbb
      have d0 : W5.cell? ⟨gx, 0, none⟩ = some (.int .i64 p) := by rw [hx5.cell]; rfl
      have HB5 := Lib.hid hB5
      clear hB5 hx5
      cases e1 : (p == t)
      · have HNX := Lib.hid (HNX.out (by simpa using e1))
        go_wp2
        go_roundw
        case rel => exact ⟨k + 1, by go_num, by omega, HNX.out, HB5.out⟩
        case measure => simp [intOf]; omega
      · have HR : Hid (X = (k : Int)) := Lib.hid (HX.out.symm.trans (HHIT.out (by simpa using e1)))
        go_wp2
        go_ret
        refine ⟨?_, HB5.out⟩; rw [HR.out]; rfl
    · obtain rfl : k = n := by omega
      have HR : Hid (X = -1) := Lib.hid (HX.out.symm.trans (by rw [fdT_miss (HN.out ▸ hno)]; rfl))
      clear hno hB hkn
      go_wp2
      go_ret
      refine ⟨?_, HB.out⟩; rw [HR.out]; rfl
end Go.Proofs.Ytidkhekekfennaa
