/- Pools: what a call does, plain; New, Has, Conns, Free. -/
import Derived.Test.YtidkhekekfennaaPlA
import Derived.Deep.RegionHeld3
namespace Go.Proofs.Ytidkhekekfennaa
set_option maxRecDepth 100000
set_option linter.unusedVariables false
open Go.RowKit

/-- What a call hands back, and what is then. -/
structure Rs where
  r : Int
  e : Int
  cs : List Cn
  ws : List Int
def fdS (cs : List Cn) (s : Int) : Option Nat := cs.findIdx? (fun c => c.s == s)
theorem ofI_eq (cs : List Cn) (s : Int) : ofI cs s = plI (fdS cs s) := rfl
theorem fd_some {cs : List Cn} {s : Int} {k : Nat} (h : fdS cs s = some k) : ∃ hk : k < cs.length, cs[k].s = s ∧ ∀ j (hj : j < k), cs[j].s ≠ s := by
  obtain ⟨hk, h1, h2⟩ := List.findIdx?_eq_some_iff_getElem.1 h
  exact ⟨hk, by simpa using h1, fun j hj => by simpa using h2 j hj⟩
theorem fd_none {cs : List Cn} {s : Int} (h : fdS cs s = none) : ∀ c ∈ cs, c.s ≠ s := by
  intro c hc
  simpa using List.findIdx?_eq_none_iff.1 h c hc
def setS (cs : List Cn) (k : Nat) (s : Int) : List Cn := cs.modify k (fun c => ⟨c.t, s⟩)
theorem setS_len (cs : List Cn) (k : Nat) (s : Int) : (setS cs k s).length = cs.length := by simp [setS]
def tokAt (cs : List Cn) (k : Nat) : Int := match cs[k]? with
  | some c => c.t
  | none => 0
def hasP (cs : List Cn) (s : Int) : Int := if s = 0 then 0 else match fdS cs s with
  | some k => tokAt cs k
  | none => 0
def freeP (cs : List Cn) (ws : List Int) (s : Int) : Rs := if s = 0 then ⟨0, 4, cs, ws⟩ else match fdS cs s with
  | some k => ⟨ws.headD 0, 0, setS cs k (ws.headD 0), ws.tail⟩
  | none => ⟨0, 4, cs, ws⟩
theorem flat_set : ∀ (l : List Cn) (k : Nat) (s : Int), (l.flatMap cnC).set (k * 2 + 1) (.int .i64 s) = (setS l k s).flatMap cnC
  | [], k, s => by simp [setS]
  | c :: l, 0, s => by simp [setS, cnC]
  | c :: l, k + 1, s => by
    have ih := flat_set l k s
    have e : (k + 1) * 2 + 1 = (k * 2 + 1) + 2 := by omega
    rw [List.flatMap_cons, e]
    show ((Value.int .i64 c.t) :: (Value.int .i64 c.s) :: l.flatMap cnC).set (k * 2 + 1 + 2) (.int .i64 s) = _
    rw [List.set_cons_succ, List.set_cons_succ, ih]
    simp [setS, cnC]
/-- Behind a call. -/
def Post (w : World) (base g : Nat) (v : Value) (R : Rs) (e : Ending) (w' : World) : Prop :=
  ∃ v', e = .returned (.tuple #[.int .i64 R.r, .int .i64 R.e]) ∧ PlAt w' base g v' R.cs R.ws ∧ Tr w w' (PB g v) ∧ (v'.ownBlock = v.ownBlock ∨ ∃ b, v'.ownBlock = some b ∧ w.heap.size ≤ b)
section
variable {w w1 : World} {base g : Nat} {v : Value} {cs : List Cn} {ws : List Int}
theorem Post.same (h : PlAt w base g v cs ws) (hb : Below w.heap.size w w1) (r e : Int) : Post w base g v ⟨r, e, cs, ws⟩ (.returned (.tuple #[.int .i64 r, .int .i64 e])) w1 :=
  ⟨v, rfl, h.keep hb, Tr.of_below hb, Or.inl rfl⟩
theorem PlAt.row1 (h : PlAt w base g v cs ws) {k : Nat} (hk : k < cs.length) : ∃ gb cap, v = .slice (some ⟨gb, 0, none⟩) cs.length cap ∧ gb ≠ g ∧ gb < w.heap.size ∧ cs.length ≤ cap ∧ cap ≤ maxLen ∧ CnAt w gb (k * 2) cs[k] ∧ (∀ j, w.frozen? ⟨gb, j, none⟩ = false) := by
  obtain ⟨gb, cap, hv, _, hlt⟩ := h.row.form (by omega)
  have hne := h.ne
  rcases h.row.2 with ⟨_, h0⟩ | ⟨g', cap', cur, hv', _, hh, h1, h2, _⟩
  · omega
  · rw [hv] at hv'
    injection hv' with q1 q2 q3
    injection q1 with q1
    injection q1 with q1
    subst q1 q3
    obtain ⟨A, c, e, hin⟩ := h.ins
    rw [hv] at e
    injection e with e1 e2 e3
    obtain ⟨b, off, e', hb, hat⟩ := hin.cn (by omega)
    rw [e', Option.some.injEq] at e1
    injection e1 with e4 e5
    subst e4 e5
    have := hat k hk
    rw [Nat.zero_add] at this
    exact ⟨gb, cap, hv, fun e => hne (by rw [hv, e]; rfl), hlt, h1, h2, this, fun j => Blk.frozen (t := 38) (cs := cur) hh j⟩
theorem PlAt.row2 {gb cap : Nat} (h : PlAt w base g (.slice (some ⟨gb, 0, none⟩) cs.length cap) cs ws) {k : Nat} (hk : k < cs.length) : gb ≠ g ∧ gb < w.heap.size ∧ CnAt w gb (k * 2) cs[k] ∧ (∀ j, w.frozen? ⟨gb, j, none⟩ = false) := by
  obtain ⟨gb', cap', e, h1, h2, _, _, h3, h4⟩ := h.row1 hk
  injection e with q1 q2 q3
  injection q1 with q1
  injection q1 with q1
  subst q1
  exact ⟨h1, h2, h3, h4⟩
theorem PlAt.setS {gb cap : Nat} (h : PlAt w base g (.slice (some ⟨gb, 0, none⟩) cs.length cap) cs ws) (k : Nat) (s : Int) :
    PlAt (w.setCell ⟨gb, k * 2 + 1, none⟩ (.int .i64 s)) base g (.slice (some ⟨gb, 0, none⟩) cs.length cap) (setS cs k s) ws := by
  have hne : gb ≠ g := fun e => h.ne (by rw [e]; rfl)
  refine ⟨h.blk.far (p := ⟨gb, _, none⟩) hne.symm _, ?_, h.gb, by rw [setS_len]; exact h.c8, h.w4, h.wr⟩
  have := (h.row.stored (k * 2 + 1) (.int .i64 s)).1
  rw [flat_set] at this
  rw [setS_len]
  exact this
end
theorem fd_at {cs : List Cn} {k : Nat} (hk : k < cs.length) : tokAt cs k = cs[k].t := by unfold tokAt; rw [List.getElem?_eq_getElem hk]
/-! ### New, Conns, Has -/
theorem pool_New_any (w : World) : Calls Try.prog 7 #[] w fun e w' => e = .returned (.pointer (some ⟨w.heap.size, 0, none⟩)) ∧ PlAt w' w.heap.size w.heap.size (.slice none 0 0) [] [] ∧ Below w.heap.size w w' := by
  have h1 : PlAt (w.alloc (.cells (plC (.slice none 0 0) 0 0 0 0 0) 49)) w.heap.size w.heap.size (.slice none 0 0) [] [] :=
    ⟨Blk.new _ _ _, own_nil _ _ _ _, Nat.le_refl _, by simp, by simp, by simp⟩
  have h2 : Below w.heap.size w (w.alloc (.cells (plC (.slice none 0 0) 0 0 0 0 0) 49)) := (Below.refl _ _).alloc (Nat.le_refl _) _
  have H1 := Lib.hid h1
  have H2 := Lib.hid h2
  clear h1 h2
  go_enter Try.func7, Try.ntmps7
  go_wp2
  go_ret
  exact ⟨rfl, H1.out, H2.out⟩
theorem conns_any (w : World) (base g : Nat) (v : Value) (cs : List Cn) (ws : List Int) (h : PlAt w base g v cs ws) :
    Calls Try.prog 12 #[.pointer (some ⟨g, 0, none⟩)] w fun e w' => ∃ v', e = .returned v' ∧ w'.ownsRow w.heap.size 38 2 v' cs.length (cs.flatMap cnC) ∧ Below w.heap.size w w' := by
  have z0 : w.cell? ⟨g, 0, none⟩ = some v := h.blk.pl.z0
  obtain ⟨A, c, rfl, hin⟩ := h.ins
  have C := clone_Conn w A c cs hin (by have := h.c8; omega)
  obtain ⟨n, hn⟩ : ∃ n, cs.length = n := ⟨_, rfl⟩
  rw [hn] at C z0
  rw [hn]
  have C := Lib.hid C
  clear hin h hn
  go_enter Try.func12, Try.ntmps12
  go_wp2_with fail
  refine C.out.mono ?_
  rintro e w1 ⟨v', rfl, hO, hB1⟩
  have HO := Lib.hid hO
  have HB := Lib.hid hB1
  clear hB1 hO z0 C
  go_wp2
  go_ret
  exact ⟨_, rfl, HO.out, HB.out⟩
theorem has_any (w : World) (base g : Nat) (v : Value) (cs : List Cn) (ws : List Int) (h : PlAt w base g v cs ws) (s : Int) :
    Calls Try.prog 10 #[.pointer (some ⟨g, 0, none⟩), .int .i64 s] w fun e w' => e = .returned (.int .i64 (hasP cs s)) ∧ Below w.heap.size w w' := by
  have C := of_any w base g v cs ws h s
  rw [ofI_eq] at C
  have HH := Lib.hid h
  obtain ⟨X, hX⟩ : ∃ X, hasP cs s = X := ⟨_, rfl⟩
  rw [hX]
  have HX := Lib.hid hX
  clear hX h
  by_cases hs : s = 0
  · have HV : Hid (X = 0) := by
      show _ = _
      rw [← HX.out, hasP, if_pos hs]
    have hs1 : (s != 0) = false := by simpa using hs
    obtain ⟨Z, hZ⟩ : ∃ Z, plI (fdS cs s) = Z := ⟨_, rfl⟩
    rw [hZ] at C
    have C := Lib.hid C
    clear hs hZ
    go_enter Try.func10, Try.ntmps10
    go_wp2_with fail
    refine C.out.mono ?_
    rintro e w1 ⟨rfl, hB1⟩
    have HB := Lib.hid hB1
    clear hB1 C
    go_wp2
    go_ret
    exact ⟨by rw [HV.out]; rfl, HB.out⟩
  have hs1 : (s != 0) = true := by simpa using hs
  cases hf : fdS cs s with
  | none =>
    have HV : Hid (X = 0) := by
      show _ = _
      rw [← HX.out, hasP, if_neg hs, hf]
    rw [hf] at C
    have C : Hid _ := Lib.hid C
    have e1 : plI none = -1 := rfl
    rw [e1] at C
    clear hs hf e1
    go_enter Try.func10, Try.ntmps10
    go_wp2_with fail
    refine C.out.mono ?_
    rintro e w1 ⟨rfl, hB1⟩
    have HB := Lib.hid hB1
    clear hB1 C
    go_wp2
    go_ret
    exact ⟨by rw [HV.out]; rfl, HB.out⟩
  | some k =>
    obtain ⟨hk, -, -⟩ := fd_some hf
    have HV : Hid (X = cs[k].t) := by
      show _ = _
      rw [← HX.out, hasP, if_neg hs, hf]
      exact fd_at hk
    rw [hf] at C
    have e1 : plI (some k) = (k : Int) := rfl
    rw [e1] at C
    have C := Lib.hid C
    clear hs hf e1
    go_enter Try.func10, Try.ntmps10
    go_wp2_with fail
    refine C.out.mono ?_
    rintro e w1 ⟨rfl, hB1⟩
    have h1 := HH.out.keep hB1
    have z0 : w1.cell? ⟨g, 0, none⟩ = some v := h1.blk.pl.z0
    obtain ⟨gb, cap, rfl, _, _, hcap, _, hat, _⟩ := h1.row1 hk
    obtain ⟨y, hy⟩ : ∃ y, cs[k]'hk = y := ⟨_, rfl⟩
    obtain ⟨n, hn⟩ : ∃ n, cs.length = n := ⟨_, rfl⟩
    have hkn : k < n := hn ▸ hk
    rw [hy] at hat
    rw [hy] at HV
    rw [hn] at z0
    have c0 := hat.c0
    have HB := Lib.hid hB1
    clear hB1 C h1 hat hy hn HH hcap
    go_wp2
    go_ret
    exact ⟨by rw [HV.out]; rfl, HB.out⟩
theorem PlAt.drew {w : World} {base g : Nat} {v : Value} {cs : List Cn} {ws : List Int} (h : PlAt w base g v cs ws) : PlAt w.drew base g v cs ws := ⟨h.blk, h.row, h.gb, h.c8, h.w4, h.wr⟩
/-! ### Free -/
set_option maxHeartbeats 2000000 in
theorem free_any (w : World) (base g : Nat) (v : Value) (cs : List Cn) (ws : List Int) (h : PlAt w base g v cs ws) (s : Int) :
    Calls Try.prog 19 #[.pointer (some ⟨g, 0, none⟩), .int .i64 s] w (Post w base g v (freeP cs ws s)) := by
  have C := of_any w base g v cs ws h s
  rw [ofI_eq] at C
  have HH := Lib.hid h
  by_cases hs : s = 0
  · have e0 : freeP cs ws s = ⟨0, 4, cs, ws⟩ := by rw [freeP, if_pos hs]
    rw [e0]
    obtain ⟨Q, hQ⟩ : ∃ Q, Post w base g v ⟨0, 4, cs, ws⟩ = Q := ⟨_, rfl⟩
    rw [hQ]
    have HQ := Lib.hid hQ
    have hs1 : (s == 0) = true := by simpa using hs
    obtain ⟨Z, hZ⟩ : ∃ Z, plI (fdS cs s) = Z := ⟨_, rfl⟩
    rw [hZ] at C
    have C := Lib.hid C
    clear hs hZ h e0 hQ
    go_enter Try.func19, Try.ntmps19
    go_wp2_with fail
    refine C.out.mono ?_
    rintro e w1 ⟨rfl, hB1⟩
    have HB := Lib.hid hB1
    clear hB1 C
    go_wp2
    show Q (.returned (.tuple #[.int .i64 0, .int .i64 4])) _
    rw [← HQ.out]
    exact Post.same HH.out HB.out 0 4
  have hs1 : (s == 0) = false := by simpa using hs
  cases hf : fdS cs s with
  | none =>
    have e0 : freeP cs ws s = ⟨0, 4, cs, ws⟩ := by rw [freeP, if_neg hs, hf]
    rw [e0]
    obtain ⟨Q, hQ⟩ : ∃ Q, Post w base g v ⟨0, 4, cs, ws⟩ = Q := ⟨_, rfl⟩
    rw [hQ]
    have HQ := Lib.hid hQ
    rw [hf] at C
    have e1 : plI none = -1 := rfl
    rw [e1] at C
    have C := Lib.hid C
    clear hs hf h e0 hQ e1
    go_enter Try.func19, Try.ntmps19
    go_wp2_with fail
    refine C.out.mono ?_
    rintro e w1 ⟨rfl, hB1⟩
    have HB := Lib.hid hB1
    clear hB1 C
    go_wp2
    show Q (.returned (.tuple #[.int .i64 0, .int .i64 4])) _
    rw [← HQ.out]
    exact Post.same HH.out HB.out 0 4
  | some k =>
    obtain ⟨hk, -, -⟩ := fd_some hf
    have e0 : freeP cs ws s = ⟨ws.headD 0, 0, setS cs k (ws.headD 0), ws.tail⟩ := by rw [freeP, if_neg hs, hf]
    rw [e0]
    obtain ⟨Y, hY⟩ : ∃ Y, ws.headD 0 = Y := ⟨_, rfl⟩
    rw [hY]
    obtain ⟨Q, hQ⟩ : ∃ Q, Post w base g v ⟨Y, 0, setS cs k Y, ws.tail⟩ = Q := ⟨_, rfl⟩
    rw [hQ]
    have HQ := Lib.hid hQ
    have HY := Lib.hid hY
    rw [hf] at C
    have e1 : plI (some k) = (k : Int) := rfl
    rw [e1] at C
    have C := Lib.hid C
    have e2 : decide ((k : Int) < 0) = false := decide_eq_false (by omega)
    clear hs hf h e0 hQ e1 hY
    go_enter Try.func19, Try.ntmps19
    go_wp2_with fail
    refine C.out.mono ?_
    rintro e w1 ⟨rfl, hB1⟩
    have h1 := HH.out.keep hB1
    have T1 := Tr.of_below (P := PB g v) hB1
    obtain ⟨gb, cap, rfl, hgb, hgl, hcap, hcm, hat, hfz⟩ := h1.row1 hk
    have CF := first_any w1.drew base g _ cs ws h1.drew
    rw [HY.out] at CF
    have z0 : w1.cell? ⟨g, 0, none⟩ = some (.slice (some ⟨gb, 0, none⟩) cs.length cap) := h1.blk.pl.z0
    obtain ⟨n, hn⟩ : ∃ n, cs.length = n := ⟨_, rfl⟩
    have HN := Lib.hid hn
    have hkn : k < n := hn ▸ hk
    rw [hn] at z0
    have z0' : w1.drew.cell? ⟨g, 0, none⟩ = some (.slice (some ⟨gb, 0, none⟩) n cap) := z0
    have hcm' : cap ≤ 9223372036854775807 := hcm
    have CF := Lib.hid CF
    have HT1 := Lib.hid T1
    have HAT := Lib.hid hat
    have HHK := Lib.hid hk
    clear hB1 C h1 hat hn hcap hcm hfz T1 z0
    go_wp2
    go_region_held3 (fun w' => w'.cell? ⟨g, 0, none⟩ = some (.slice (some ⟨gb, 0, none⟩) n cap)) (first | exact z0' | assumption | exact (World.cell?_setCell_other _ _ _ _ (fun e => hgb (congrArg Addr.block e))).trans y0 | exact (World.cell?_setCell_other _ _ _ _ (fun e => hgb (congrArg Addr.block e).symm)).trans y0) (first | (go_at_call 30; refine CF.out.mono ?_; rintro e w2 ⟨rfl, hp2, hg2⟩; have hr2 := hp2.row2 HHK.out; have y0 : w2.cell? ⟨g, 0, none⟩ = some (.slice (some ⟨gb, 0, none⟩) n cap) := (by have := hp2.blk.pl.z0; rw [HN.out] at this; exact this); have y1 := hr2.2.2.1.c1; have y2 := hr2.2.2.2 (k * 2 + 1); have HP2 := Lib.hid hp2; have HG2 := Lib.hid hg2; clear hp2 hr2 hg2))
    go_wp2
    show Q (.returned (.tuple #[.int .i64 Y, .int .i64 0])) _
    rw [← HQ.out]
    have hp3 := HP2.out.setS k Y
    refine ⟨_, rfl, hp3, ?_, Or.inl rfl⟩
    exact ((HT1.out.drew).trans (Tr.of_grown HG2.out (fun j e _ => Or.inl (by injection e with e; exact e.symm)))).setCell (a := ⟨gb, k * 2 + 1, none⟩) (fun _ => Or.inr rfl) _
end Go.Proofs.Ytidkhekekfennaa
