/- Pools: the law's live and do. -/
import Derived.Test.YtidkhekekfennaaPlY
namespace Go.Proofs.Ytidkhekekfennaa
set_option maxRecDepth 100000
set_option linter.unusedVariables false
open Go.RowKit

set_option maxHeartbeats 4000000 in
theorem live18_any (w : World) : Calls Try.prog 6 #[] w fun e w' => e = .returned (.bool true) ∧ Below w.heap.size w w' := by
  obtain ⟨G, hG⟩ : ∃ G, w.heap.size = G := ⟨_, rfl⟩
  have CN := pool_New_any w
  rw [hG] at CN ⊢
  have CN := Lib.hid CN
  have HG := Lib.hid hG
  clear hG
  go_enter Try.func6, Try.ntmps6
  go_wp2_with fail
  refine CN.out.mono ?_
  rintro e w0 ⟨rfl, hp, hb⟩
  have HP := Lib.hid hp
  have HB := Lib.hid hb
  have HZ : Hid (G ≤ w0.heap.size) := HG.out ▸ hb.size
  clear hp hb CN
  have e0 : wantP ([] : List Cn) ([] : List Int) 3 = ⟨0, 0, ([] : List Cn), [3]⟩ := by rfl
  have C0 := want_any w0 G G _ _ _ HP.out 3
  rw [e0] at C0
  have C0 := Lib.hid C0
  clear e0
  go_wp2_with fail
  refine C0.out.mono ?_
  rintro e w1 ⟨v1, rfl, hp, ht, hv⟩
  have HB := Lib.hid (HB.out.trans (ht.below (B := G) (fun j _ hj => (HP.out.lts j hj).1) HZ.out))
  have HZ := Lib.hid (Nat.le_trans HZ.out ht.size)
  have HP := Lib.hid hp
  clear hp ht hv C0
  have e1 : wantP ([] : List Cn) [3] 1 = ⟨0, 0, ([] : List Cn), [3, 1]⟩ := by rfl
  have C1 := want_any w1 G G _ _ _ HP.out 1
  rw [e1] at C1
  have C1 := Lib.hid C1
  clear e1
  go_wp2_with fail
  refine C1.out.mono ?_
  rintro e w2 ⟨v2, rfl, hp, ht, hv⟩
  have HB := Lib.hid (HB.out.trans (ht.below (B := G) (fun j _ hj => (HP.out.lts j hj).1) HZ.out))
  have HZ := Lib.hid (Nat.le_trans HZ.out ht.size)
  have HP := Lib.hid hp
  clear hp ht hv C1
  have e2 : openP ([] : List Cn) [3, 1] 7 = ⟨3, 0, [(⟨7, 3⟩ : Cn)], [1]⟩ := by rfl
  have C2 := open_any w2 G G _ _ _ HP.out (by simp [Srt]) 7 HZ.out
  rw [e2] at C2
  have C2 := Lib.hid C2
  clear e2
  go_wp2_with fail
  refine C2.out.mono ?_
  rintro e w3 ⟨v3, rfl, hp, ht, hv⟩
  have HB := Lib.hid (HB.out.trans (ht.below (B := G) (fun j _ hj => (HP.out.lts j hj).1) HZ.out))
  have HZ := Lib.hid (Nat.le_trans HZ.out ht.size)
  have HP := Lib.hid hp
  clear hp ht hv C2
  have e3 : freeP [(⟨7, 3⟩ : Cn)] [1] 3 = ⟨1, 0, [(⟨7, 1⟩ : Cn)], ([] : List Int)⟩ := by rfl
  have C3 := free_any w3 G G _ _ _ HP.out 3
  rw [e3] at C3
  have C3 := Lib.hid C3
  clear e3
  go_wp2_with fail
  refine C3.out.mono ?_
  rintro e w4 ⟨v4, rfl, hp, ht, hv⟩
  have HB := Lib.hid (HB.out.trans (ht.below (B := G) (fun j _ hj => (HP.out.lts j hj).1) HZ.out))
  have HZ := Lib.hid (Nat.le_trans HZ.out ht.size)
  have HP := Lib.hid hp
  clear hp ht hv C3
  have e4 : closeP [(⟨7, 1⟩ : Cn)] ([] : List Int) 7 = ⟨1, 0, ([] : List Cn), ([] : List Int)⟩ := by rfl
  have C4 := close_any w4 G G _ _ _ HP.out (by simp [Srt]) 7
  rw [e4] at C4
  have C4 := Lib.hid C4
  clear e4
  go_wp2_with fail
  refine C4.out.mono ?_
  rintro e w5 ⟨v5, rfl, hp, ht, hv⟩
  have HB := Lib.hid (HB.out.trans (ht.below (B := G) (fun j _ hj => (HP.out.lts j hj).1) HZ.out))
  have HZ := Lib.hid (Nat.le_trans HZ.out ht.size)
  have HP := Lib.hid hp
  clear hp ht hv C4
  have e5 : openP ([] : List Cn) ([] : List Int) 5 = ⟨0, 0, [(⟨5, 0⟩ : Cn)], ([] : List Int)⟩ := by rfl
  have C5 := open_any w5 G G _ _ _ HP.out (by simp [Srt]) 5 HZ.out
  rw [e5] at C5
  have C5 := Lib.hid C5
  clear e5
  go_wp2_with fail
  refine C5.out.mono ?_
  rintro e w6 ⟨v6, rfl, hp, ht, hv⟩
  have HB := Lib.hid (HB.out.trans (ht.below (B := G) (fun j _ hj => (HP.out.lts j hj).1) HZ.out))
  have HZ := Lib.hid (Nat.le_trans HZ.out ht.size)
  have HP := Lib.hid hp
  clear hp ht hv C5
  have e6 : wantP [(⟨5, 0⟩ : Cn)] ([] : List Int) 2 = ⟨5, 0, [(⟨5, 2⟩ : Cn)], ([] : List Int)⟩ := by rfl
  have C6 := want_any w6 G G _ _ _ HP.out 2
  rw [e6] at C6
  have C6 := Lib.hid C6
  clear e6
  go_wp2_with fail
  refine C6.out.mono ?_
  rintro e w7 ⟨v7, rfl, hp, ht, hv⟩
  have HB := Lib.hid (HB.out.trans (ht.below (B := G) (fun j _ hj => (HP.out.lts j hj).1) HZ.out))
  have HZ := Lib.hid (Nat.le_trans HZ.out ht.size)
  have HP := Lib.hid hp
  clear hp ht hv C6
  have eh : hasP [(⟨5, 2⟩ : Cn)] 2 = 5 := rfl
  have CH := has_any w7 G G _ _ _ HP.out 2
  rw [eh] at CH
  have CH := Lib.hid CH
  clear eh
  go_wp2_with fail
  refine CH.out.mono ?_
  rintro e w8 ⟨rfl, hb⟩
  have HB := Lib.hid (HB.out.trans (hb.mono HZ.out))
  clear hb
  go_wp2
  go_ret
  exact ⟨rfl, HB.out⟩
/-! ### do -/
def doP (cs : List Cn) (ws : List Int) (d n : Int) : Rs := if d = 0 then openP cs ws n else if d = 1 then { closeP cs ws n with r := 0 } else if d = 2 then { wantP cs ws n with r := 0 } else if d = 3 then freeP cs ws n else if d = 4 then leaveP cs ws n else ⟨0, 0, cs, ws⟩
/-- Behind a call of the law's do. -/
def DoPost (w : World) (base g : Nat) (v : Value) (R : Rs) (e : Ending) (w' : World) : Prop :=
  ∃ v', e = .returned (.int .i64 R.r) ∧ PlAt w' base g v' R.cs R.ws ∧ Tr w w' (PB g v) ∧ (v'.ownBlock = v.ownBlock ∨ ∃ b, v'.ownBlock = some b ∧ w.heap.size ≤ b)
theorem DoPost.of {w w1 w2 : World} {base g : Nat} {v : Value} {R : Rs} {r : Int} (hr : r = R.r) (hb : Below w.heap.size w w1) {r1 : Rs} (hc : r1.cs = R.cs) (hw : r1.ws = R.ws) {e : Ending} (k : Post w1 base g v r1 e w2) : DoPost w base g v R (.returned (.int .i64 r)) w2 := by
  obtain ⟨v', _, h2, h3, h4⟩ := k
  refine ⟨v', by rw [hr], hc ▸ hw ▸ h2, (Tr.of_below hb).trans h3, ?_⟩
  rcases h4 with h4 | ⟨b, h4, h5⟩
  · exact Or.inl h4
  · exact Or.inr ⟨b, h4, Nat.le_trans hb.size h5⟩
set_option maxHeartbeats 4000000 in
theorem do_any (w : World) (base g : Nat) (v : Value) (cs : List Cn) (ws : List Int) (h : PlAt w base g v cs ws) (hs : Srt cs) (hbase : base ≤ w.heap.size) (d n : Int) :
    Calls Try.prog 9 #[.pointer (some ⟨g, 0, none⟩), .agg #[.int .i64 d, .int .i64 n]] w (DoPost w base g v (doP cs ws d n)) := by
  obtain ⟨gx, hgx⟩ : ∃ gx, w.heap.size = gx := ⟨_, rfl⟩
  have hB : Below w.heap.size w (w.alloc (.cells #[.int .i64 d, .int .i64 n] 27)) := (Below.refl _ _).alloc (Nat.le_refl _) _
  have hx := Blk.new w 27 #[.int .i64 d, .int .i64 n]
  have hz : base ≤ (w.alloc (.cells #[.int .i64 d, .int .i64 n] 27)).heap.size := Nat.le_trans hbase hB.size
  have c0 : (w.alloc (.cells #[.int .i64 d, .int .i64 n] 27)).cell? ⟨gx, 0, none⟩ = some (.int .i64 d) := by rw [← hgx, hx.cell]; rfl
  have c1 : (w.alloc (.cells #[.int .i64 d, .int .i64 n] 27)).cell? ⟨gx, 1, none⟩ = some (.int .i64 n) := by rw [← hgx, hx.cell]; rfl
  have H1 := Lib.hid (h.keep hB)
  have HB := Lib.hid hB
  have HS := Lib.hid hs
  have HZ := Lib.hid hz
  have HH := Lib.hid h
  clear h hB hx hz hs hbase
  by_cases h0 : d = 0
  · subst h0
    have e0 : doP cs ws 0 n = openP cs ws n := by simp [doP]
    rw [e0]
    clear e0
    have C := open_any _ base g v cs ws H1.out HS.out n HZ.out
    obtain ⟨R, hR⟩ : ∃ R, openP cs ws n = R := ⟨_, rfl⟩
    rw [hR] at C ⊢
    obtain ⟨Q, hQ⟩ : ∃ Q, DoPost w base g v R = Q := ⟨_, rfl⟩
    rw [hQ]
    have HQ := Lib.hid hQ
    have C := Lib.hid C
    clear hR hQ
    go_enter Try.func9, Try.ntmps9
    go_upto_region 1 with (fail)
    change Code.wp _ _ _ _ (w.alloc (.cells #[.int .i64 0, .int .i64 n] 27))
    generalize (w.alloc (.cells #[.int .i64 0, .int .i64 n] 27)) = W at c0 c1 C HB HZ H1 ⊢
    try rw [hgx]
    go_wp2_with fail
    refine C.out.mono ?_
    rintro e w1 hp
    obtain ⟨v', rfl, hp2⟩ := hp
    have HPP : Hid (Post W base g v R (.returned (.tuple #[.int .i64 R.r, .int .i64 R.e])) w1) := (show Post W base g v R _ w1 from ⟨v', rfl, hp2⟩)
    obtain ⟨r, hr⟩ : ∃ r, R.r = r := ⟨_, rfl⟩
    obtain ⟨q, hq⟩ : ∃ q, R.e = q := ⟨_, rfl⟩
    rw [hr, hq]
    have HR := Lib.hid hr
    clear hp2 C c0 c1 hr hq
    go_wp2
    show Q (.returned (.int .i64 r)) _
    rw [← HQ.out]
    exact DoPost.of (r1 := R) HR.out.symm HB.out rfl rfl HPP.out
  by_cases h1 : d = 1
  · subst h1
    have e0 : doP cs ws 1 n = { closeP cs ws n with r := 0 } := by simp [doP]
    rw [e0]
    clear e0
    have C := close_any _ base g v cs ws H1.out HS.out n
    obtain ⟨R, hR⟩ : ∃ R, closeP cs ws n = R := ⟨_, rfl⟩
    rw [hR] at C ⊢
    obtain ⟨Q, hQ⟩ : ∃ Q, DoPost w base g v { R with r := 0 } = Q := ⟨_, rfl⟩
    rw [hQ]
    have HQ := Lib.hid hQ
    have C := Lib.hid C
    clear hR hQ
    go_enter Try.func9, Try.ntmps9
    go_upto_region 1 with (fail)
    change Code.wp _ _ _ _ (w.alloc (.cells #[.int .i64 1, .int .i64 n] 27))
    generalize (w.alloc (.cells #[.int .i64 1, .int .i64 n] 27)) = W at c0 c1 C HB HZ H1 ⊢
    try rw [hgx]
    go_wp2_with fail
    refine C.out.mono ?_
    rintro e w1 hp
    obtain ⟨v', rfl, hp2⟩ := hp
    have HPP : Hid (Post W base g v R (.returned (.tuple #[.int .i64 R.r, .int .i64 R.e])) w1) := (show Post W base g v R _ w1 from ⟨v', rfl, hp2⟩)
    obtain ⟨r, hr⟩ : ∃ r, R.r = r := ⟨_, rfl⟩
    obtain ⟨q, hq⟩ : ∃ q, R.e = q := ⟨_, rfl⟩
    rw [hr, hq]
    have HR := Lib.hid hr
    clear hp2 C c0 c1 hr hq
    go_wp2
    show Q (.returned (.int .i64 0)) _
    rw [← HQ.out]
    exact DoPost.of (r1 := R) rfl HB.out rfl rfl HPP.out
  by_cases h2 : d = 2
  · subst h2
    have e0 : doP cs ws 2 n = { wantP cs ws n with r := 0 } := by simp [doP]
    rw [e0]
    clear e0
    have C := want_any _ base g v cs ws H1.out n
    obtain ⟨R, hR⟩ : ∃ R, wantP cs ws n = R := ⟨_, rfl⟩
    rw [hR] at C ⊢
    obtain ⟨Q, hQ⟩ : ∃ Q, DoPost w base g v { R with r := 0 } = Q := ⟨_, rfl⟩
    rw [hQ]
    have HQ := Lib.hid hQ
    have C := Lib.hid C
    clear hR hQ
    go_enter Try.func9, Try.ntmps9
    go_upto_region 1 with (fail)
    change Code.wp _ _ _ _ (w.alloc (.cells #[.int .i64 2, .int .i64 n] 27))
    generalize (w.alloc (.cells #[.int .i64 2, .int .i64 n] 27)) = W at c0 c1 C HB HZ H1 ⊢
    try rw [hgx]
    go_wp2_with fail
    refine C.out.mono ?_
    rintro e w1 hp
    obtain ⟨v', rfl, hp2⟩ := hp
    have HPP : Hid (Post W base g v R (.returned (.tuple #[.int .i64 R.r, .int .i64 R.e])) w1) := (show Post W base g v R _ w1 from ⟨v', rfl, hp2⟩)
    obtain ⟨r, hr⟩ : ∃ r, R.r = r := ⟨_, rfl⟩
    obtain ⟨q, hq⟩ : ∃ q, R.e = q := ⟨_, rfl⟩
    rw [hr, hq]
    have HR := Lib.hid hr
    clear hp2 C c0 c1 hr hq
    go_wp2
    show Q (.returned (.int .i64 0)) _
    rw [← HQ.out]
    exact DoPost.of (r1 := R) rfl HB.out rfl rfl HPP.out
  by_cases h3 : d = 3
  · subst h3
    have e0 : doP cs ws 3 n = freeP cs ws n := by simp [doP]
    rw [e0]
    clear e0
    have C := free_any _ base g v cs ws H1.out n
    obtain ⟨R, hR⟩ : ∃ R, freeP cs ws n = R := ⟨_, rfl⟩
    rw [hR] at C ⊢
    obtain ⟨Q, hQ⟩ : ∃ Q, DoPost w base g v R = Q := ⟨_, rfl⟩
    rw [hQ]
    have HQ := Lib.hid hQ
    have C := Lib.hid C
    clear hR hQ
    go_enter Try.func9, Try.ntmps9
    go_upto_region 1 with (fail)
    change Code.wp _ _ _ _ (w.alloc (.cells #[.int .i64 3, .int .i64 n] 27))
    generalize (w.alloc (.cells #[.int .i64 3, .int .i64 n] 27)) = W at c0 c1 C HB HZ H1 ⊢
    try rw [hgx]
    go_wp2_with fail
    refine C.out.mono ?_
    rintro e w1 hp
    obtain ⟨v', rfl, hp2⟩ := hp
    have HPP : Hid (Post W base g v R (.returned (.tuple #[.int .i64 R.r, .int .i64 R.e])) w1) := (show Post W base g v R _ w1 from ⟨v', rfl, hp2⟩)
    obtain ⟨r, hr⟩ : ∃ r, R.r = r := ⟨_, rfl⟩
    obtain ⟨q, hq⟩ : ∃ q, R.e = q := ⟨_, rfl⟩
    rw [hr, hq]
    have HR := Lib.hid hr
    clear hp2 C c0 c1 hr hq
    go_wp2
    show Q (.returned (.int .i64 r)) _
    rw [← HQ.out]
    exact DoPost.of (r1 := R) HR.out.symm HB.out rfl rfl HPP.out
  by_cases h4 : d = 4
  · subst h4
    have e0 : doP cs ws 4 n = leaveP cs ws n := by simp [doP]
    rw [e0]
    clear e0
    have C := pleave_any _ base g v cs ws H1.out n
    obtain ⟨R, hR⟩ : ∃ R, leaveP cs ws n = R := ⟨_, rfl⟩
    rw [hR] at C ⊢
    obtain ⟨Q, hQ⟩ : ∃ Q, DoPost w base g v R = Q := ⟨_, rfl⟩
    rw [hQ]
    have HQ := Lib.hid hQ
    have C := Lib.hid C
    clear hR hQ
    go_enter Try.func9, Try.ntmps9
    go_upto_region 1 with (fail)
    change Code.wp _ _ _ _ (w.alloc (.cells #[.int .i64 4, .int .i64 n] 27))
    generalize (w.alloc (.cells #[.int .i64 4, .int .i64 n] 27)) = W at c0 c1 C HB HZ H1 ⊢
    try rw [hgx]
    go_wp2_with fail
    refine C.out.mono ?_
    rintro e w1 hp
    obtain ⟨v', rfl, hp2⟩ := hp
    have HPP : Hid (Post W base g v R (.returned (.tuple #[.int .i64 R.r, .int .i64 R.e])) w1) := (show Post W base g v R _ w1 from ⟨v', rfl, hp2⟩)
    obtain ⟨r, hr⟩ : ∃ r, R.r = r := ⟨_, rfl⟩
    obtain ⟨q, hq⟩ : ∃ q, R.e = q := ⟨_, rfl⟩
    rw [hr, hq]
    have HR := Lib.hid hr
    clear hp2 C c0 c1 hr hq
    go_wp2
    show Q (.returned (.int .i64 r)) _
    rw [← HQ.out]
    exact DoPost.of (r1 := R) HR.out.symm HB.out rfl rfl HPP.out
  have e0 : doP cs ws d n = ⟨0, 0, cs, ws⟩ := by simp [doP, h0, h1, h2, h3, h4]
  rw [e0]
  obtain ⟨Q, hQ⟩ : ∃ Q, DoPost w base g v ⟨0, 0, cs, ws⟩ = Q := ⟨_, rfl⟩
  rw [hQ]
  have HQ := Lib.hid hQ
  have k0 : (d == 0) = false := by simpa using h0
  have k1 : (d == 1) = false := by simpa using h1
  have k2 : (d == 2) = false := by simpa using h2
  have k3 : (d == 3) = false := by simpa using h3
  have k4 : (d == 4) = false := by simpa using h4
  clear e0 hQ h0 h1 h2 h3 h4
  go_enter Try.func9, Try.ntmps9
  go_upto_region 1 with (fail)
  change Code.wp _ _ _ _ (w.alloc (.cells #[.int .i64 d, .int .i64 n] 27))
  generalize (w.alloc (.cells #[.int .i64 d, .int .i64 n] 27)) = W at c0 c1 HB HZ H1 ⊢
  try rw [hgx]
  go_wp2
  show Q (.returned (.int .i64 0)) _
  rw [← HQ.out]
  exact ⟨v, rfl, H1.out, Tr.of_below HB.out, Or.inl rfl⟩
end Go.Proofs.Ytidkhekekfennaa
