/- The walk of the law ShotMakes. -/
import Derived.Test.YthdeappjankmmaaShotS
import Derived.Test.YthdeappjankmmaaOpenI
import Derived.Laws.OwnMore
namespace Go.Proofs.Ythdeappjankmmaa
open Go.RowKit

/-- What both make of a limit and a list. -/
theorem news_any (lim : Int) (l : List Int) (hs : l.length ≤ 17592186043904) : ∃ (L : List Int) (lim' nxt' E : Int), L.length ≤ l.length ∧
    (∀ W A c, InN .i64 W A c l → Calls Try.prog 10 #[.int .i64 lim, .slice A l.length c] W fun e w' => ∃ A' c', e = .returned (.tuple #[shotV 0 0 (.slice A' L.length c') lim' nxt', .int .i64 E]) ∧ Cop W w' A' c' L ∧ Below W.heap.size W w') ∧
    (∀ W A c, InN .i64 W A c l → Calls Try.prog 11 #[.int .i64 lim, .slice A l.length c] W fun e w' => ∃ A' c', e = .returned (.tuple #[shotV 0 0 (.slice A' L.length c') lim' nxt', .int .i64 E]) ∧ Cop W w' A' c' L ∧ Below W.heap.size W w') := by
  cases hok : newOk lim l
  · refine ⟨[], 0, 0, 1, by simp, fun W A c h => (shot_New_any W lim A c l h hs).mono fun e w' ⟨hB, hr⟩ => ?_, fun W A c h => (r06_New_any W lim A c l h hs).mono fun e w' ⟨hB, hr⟩ => ?_⟩
    all_goals
      rcases hr with ⟨h1, _⟩ | ⟨_, rfl⟩
      · rw [hok] at h1
        cases h1
      · exact ⟨none, 0, rfl, ⟨InN.nil, fun b e => by simp [Value.ownBlock] at e⟩, hB⟩
  · refine ⟨l, lim, 1, 0, Nat.le_refl _, fun W A c h => (shot_New_any W lim A c l h hs).mono fun e w' ⟨hB, hr⟩ => ?_, fun W A c h => (r06_New_any W lim A c l h hs).mono fun e w' ⟨hB, hr⟩ => ?_⟩
    all_goals
      rcases hr with ⟨_, A', c', rfl, hc⟩ | ⟨h1, _⟩
      · exact ⟨A', c', rfl, hc, hB⟩
      · rw [hok] at h1
        cases h1
theorem one_set : IsSet [1] := by
  refine ⟨by decide, fun i hi _ => ?_⟩
  match i, hi with
  | 0, _ => exact ⟨show (1 : Int) ≤ 1 by decide, show (1 : Int) ≤ 7 by decide, fun h => absurd h (by omega)⟩
theorem one_ok : newOk 2 [1] = true := by
  simp [newOk, limOk, one_set]

set_option maxRecDepth 100000 in
set_option maxHeartbeats 8000000 in
theorem shotMakes_row (w : World) (lim : Int) (_hlim : (Lit.int .i64 lim).wf = true) {vl : Value} (z : OpenI w vl) :
    Calls Try.prog 3 #[.int .i64 lim, vl] w fun e w' => e = .returned (.bool true) ∧ Below w.heap.size w w' := by
  obtain ⟨A, c, l, rfl, h, hs⟩ := z
  obtain ⟨L, lim', nxt', E, hLl, CN, CR⟩ := news_any lim l hs
  have CN := fun W A c hin => Lib.hid (CN W A c hin)
  have CR := fun W A c hin => Lib.hid (CR W A c hin)
  have C1 := fun W A c h => shot_New_any W 2 A c [1] h (by decide)
  rw [one_ok] at C1
  have C1 := fun W A c h => Lib.hid (C1 W A c h)
  have CS := fun W A1 A2 c1 c2 h1 h2 => Lib.hid (r06_Same_new W A1 A2 c1 c2 L lim' nxt' h1 h2)
  have HIN := Lib.hid h
  have HR := Lib.hid h.reads
  have hwf := Lib.hid h.wf
  obtain ⟨g, hg⟩ : ∃ g, w.heap.size = g := ⟨_, rfl⟩
  rw [hg]
  clear h
  go_enter Try.func3, Try.ntmps3
  go_wp2_with (at_builtin; refine app_own (w0 := w) w.heap.size rfl _ _ 22 3 (.int .i64 0) 8 rfl Try.underlying22 1 info_int rfl (by omega) (by omega) (.slice none 0 0) [] 0 rfl _ _ _ _ (nums .i64 l) rfl (own_nil _ _ _ _) HR.out (nums_one_cell .i64 l) (Below.refl _ _) (Nat.le_refl _) (by omega) ?_; intro v1 w1 ho1 hB1 _ _; have hO1 : OwnN .i64 3 w1 w.heap.size v1 l := (by simpa [OwnN] using ho1); have HO1 := Lib.hid hO1; have HB1 := Lib.hid hB1; obtain ⟨A1, c1, rfl, hin1⟩ := InN.own (k := .i64) (l := l) hO1 hwf.out (by omega); have HI1 := Lib.hid hin1; clear ho1 hB1 hO1 hin1)
  go_wp2_with fail
  refine (CN _ _ _ HI1.out).out.mono ?_
  rintro e w2 ⟨A2, c2, rfl, hc2, hB2⟩
  obtain ⟨gs, hgs⟩ : ∃ gs, w2.heap.size = gs := ⟨_, rfl⟩
  have hs3 : Blk (w2.alloc (.cells (shotCells 0 0 (.slice A2 L.length c2) lim' nxt') 29)) gs 29 (shotCells 0 0 (.slice A2 L.length c2) lim' nxt') := hgs ▸ Blk.new _ _ _
  have hB3 : Below w1.heap.size w1 (w2.alloc (.cells (shotCells 0 0 (.slice A2 L.length c2) lim' nxt') 29)) := hB2.alloc hB2.size _
  have hi3 := hc2.inn.keep (w1 := w2.alloc (.cells (shotCells 0 0 (.slice A2 L.length c2) lim' nxt') 29)) ((Below.refl _ _).alloc (Nat.le_refl _) _)
  have ho2 := hc2.own
  have hge : w1.heap.size ≤ gs := hgs ▸ hB2.size
  clear hc2 hB2
  simp only [shotV]
  go_upto_region 3 with (fail)
  change Code.wp _ _ _ _ (w2.alloc (.cells (shotCells 0 0 (.slice A2 L.length c2) lim' nxt') 29))
  generalize (w2.alloc (.cells (shotCells 0 0 (.slice A2 L.length c2) lim' nxt') 29)) = W3 at hs3 hB3 hi3 ⊢
  clear hgs
  have hBw3 : Below w.heap.size w W3 := HB1.out.trans (hB3.mono HB1.out.size)
  go_wp2_with fail
  refine (CR _ _ _ (HIN.out.keep hBw3)).out.mono ?_
  rintro e w4 ⟨A4, c4, rfl, hc4, hB4⟩
  obtain ⟨gx, hgx⟩ : ∃ gx, w4.heap.size = gx := ⟨_, rfl⟩
  have hx5 : Blk (w4.alloc (.cells (shotCells 0 0 (.slice A4 L.length c4) lim' nxt') 29)) gx 29 (shotCells 0 0 (.slice A4 L.length c4) lim' nxt') := hgx ▸ Blk.new _ _ _
  have hs5 := (hs3.below hB4 hs3.lt).alloc (.cells (shotCells 0 0 (.slice A4 L.length c4) lim' nxt') 29)
  have hal : Below w4.heap.size w4 (w4.alloc (.cells (shotCells 0 0 (.slice A4 L.length c4) lim' nxt') 29)) := (Below.refl _ _).alloc (Nat.le_refl _) _
  have hj5 := hc4.inn.keep hal
  have hi5 := (hi3.keep hB4).keep hal
  have ho4 := hc4.own
  have hsz3 := hB3.size
  have hB5 : Below w1.heap.size w1 (w4.alloc (.cells (shotCells 0 0 (.slice A4 L.length c4) lim' nxt') 29)) := hB3.trans ((hB4.mono hsz3).trans (hal.mono (Nat.le_trans hsz3 hB4.size)))
  have hgx1 : w1.heap.size ≤ gx := by have := hB4.size; omega
  clear hc4 hB4 hal hs3 hB3 hi3 hBw3
  simp only [shotV]
  go_upto_region 4 with (fail)
  change Code.wp _ _ _ _ (w4.alloc (.cells (shotCells 0 0 (.slice A4 L.length c4) lim' nxt') 29))
  generalize (w4.alloc (.cells (shotCells 0 0 (.slice A4 L.length c4) lim' nxt') 29)) = W5 at hx5 hs5 hj5 hi5 hB5 ⊢
  clear hgx
  have hown5 := own_below HO1.out hB5
  have hBw5 : Below g w W5 := hg ▸ HB1.out.trans (hB5.mono HB1.out.size)
  have H5 : Hid (OwnN .i64 3 W5 w.heap.size (.slice A1 l.length c1) l ∧ Blk W5 gs 29 (shotCells 0 0 (.slice A2 L.length c2) lim' nxt') ∧ Blk W5 gx 29 (shotCells 0 0 (.slice A4 L.length c4) lim' nxt') ∧ InN .i64 W5 A2 c2 L ∧ InN .i64 W5 A4 c4 L ∧ Below g w W5) := ⟨hown5, hs5, hx5, hi5, hj5, hBw5⟩
  have HLT := Lib.hid (World.ownsRow.lt HO1.out)
  have HO2 := Lib.hid ho2
  have HO4 := Lib.hid ho4
  clear hx5 hs5 hj5 hi5 hB5 hown5 hBw5 ho2 ho4 CN CR HI1 HO1 HB1 HR HIN
  go_wp2_with fail
  go_loopw [10, 29] (fun x i wr => ∃ (j : Nat) (lst : List Int), j ≤ l.length ∧ i = .int .i64 j ∧ lst.length = l.length ∧ OwnN .i64 3 wr w.heap.size (.slice A1 l.length c1) lst ∧ Blk wr gs 29 (shotCells 0 0 (.slice A2 L.length c2) lim' nxt') ∧ Blk wr gx 29 (shotCells 0 0 (.slice A4 L.length c4) lim' nxt') ∧ InN .i64 wr A2 c2 L ∧ InN .i64 wr A4 c4 L ∧ Below g w wr) (fun _ i _ => l.length - (intOf i).toNat)
  case atStart => exact ⟨0, l, by omega, rfl, rfl, H5.out⟩
  case round =>
    clear H5
    obtain ⟨j, lst, hj, rfl, hlst, hown, hbs, hbx, hia, hib, hbw⟩ := hrel
    have HLS := Lib.hid hlst
    clear hlst
    by_cases hlt : j < l.length
    · rcases hown.2 with ⟨h', _⟩ | ⟨b, cap, cur, h', _⟩
      · simp only [Value.slice.injEq] at h'
        omega
      simp only [Value.slice.injEq] at h'
      obtain ⟨rfl, -, rfl⟩ := h'
      have hb := HLT.out b rfl
      have hjl : j < lst.length := by have := HLS.out; omega
      have hown' : wr.ownsRow w.heap.size 3 1 (.slice (some ⟨b, 0, none⟩) lst.length c1) lst.length (nums .i64 lst) := by
        have := hown
        unfold OwnN at this
        rw [HLS.out]
        rw [HLS.out] at this
        exact this
      have hcj := hown'.cellAt j (by omega)
      rw [nums_get hjl] at hcj
      have hfj := hown'.frozenAt j
      have hst := (hown'.stored j (.int .i64 99)).1
      have hset : (nums .i64 lst).set j (.int .i64 99) = nums .i64 (lst.set j 99) := by simp [nums, List.map_set]
      rw [hset] at hst
      have HST := Lib.hid hst
      have HA := Lib.hid (InN.far (n := L.length) hia (p := ⟨b, j, none⟩) (fun b' hb' => by have := HO2.out b' hb'; show b ≠ b'; omega) (.int .i64 99))
      have HBI := Lib.hid (InN.far (n := L.length) hib (p := ⟨b, j, none⟩) (fun b' hb' => by have := HO4.out b' hb'; show b ≠ b'; omega) (.int .i64 99))
      have HS := Lib.hid (hbs.far (p := ⟨b, j, none⟩) (by show gs ≠ b; omega) (.int .i64 99))
      have HX := Lib.hid (hbx.far (p := ⟨b, j, none⟩) (by show gx ≠ b; omega) (.int .i64 99))
      have HW := Lib.hid (hbw.setCell (p := ⟨b, j, none⟩) (by show g ≤ b; omega) (.int .i64 99))
      clear hown hown' hst hset hia hib hbs hbx hbw
      go_wp2
      go_roundw
      case rel => exact ⟨j + 1, lst.set j 99, by omega, by go_num, by rw [List.length_set]; exact HLS.out, by have := HST.out; unfold OwnN; rw [List.length_set]; rw [HLS.out] at this ⊢; exact this, HS.out, HX.out, HA.out, HBI.out, HW.out⟩
      case measure => simp [intOf]; omega
    · obtain rfl : j = l.length := by omega
      have hI1 : InN .i64 (wr.alloc (.cells #[.int .i64 1] 3)) (some ⟨wr.heap.size, 0, none⟩) 1 [1] := InN.lit wr [1] (by intro x hx; simp at hx; subst hx; decide) (by simp) _ (0, 0) rfl
      have C7 := C1 _ _ _ hI1
      have hal : Below wr.heap.size wr (wr.alloc (.cells #[.int .i64 1] 3)) := (Below.refl _ _).alloc (Nat.le_refl _) _
      have HAL := Lib.hid hal
      have HS := Lib.hid hbs
      have HX := Lib.hid hbx
      have HA := Lib.hid hia
      have HBI := Lib.hid hib
      have HW := Lib.hid hbw
      clear hI1 hal hown hbs hbx hia hib hbw
      go_wp2_with fail
      refine C7.out.mono ?_
      rintro e w7 ⟨hB7, hr⟩
      rcases hr with ⟨_, A7, c7, rfl, hc7⟩ | ⟨h0, _⟩
      rotate_left
      · cases h0
      have hBr := HAL.out.trans (hB7.mono (HAL.out.size))
      have hs7 := HS.out.below hBr HS.out.lt
      have hx7 := HX.out.below hBr HX.out.lt
      have hA7 := HA.out.keep hBr
      have hI7 := HBI.out.keep hBr
      have hw7 := HW.out.trans (hBr.mono (by have := HS.out.lt; have := HW.out.size; omega))
      clear hBr hB7 hc7 C7 C1
      obtain ⟨gt, hgt⟩ : ∃ gt, w7.heap.size = gt := ⟨_, rfl⟩
      have ht8 : Blk (w7.alloc (.cells (shotCells 0 0 (.slice A7 [(1 : Int)].length c7) 2 1) 29)) gt 29 (shotCells 0 0 (.slice A7 [(1 : Int)].length c7) 2 1) := hgt ▸ Blk.new _ _ _
      have hs8 := hs7.alloc (.cells (shotCells 0 0 (.slice A7 [(1 : Int)].length c7) 2 1) 29)
      have hx8 := hx7.alloc (.cells (shotCells 0 0 (.slice A7 [(1 : Int)].length c7) 2 1) 29)
      have hal8 : Below w7.heap.size w7 (w7.alloc (.cells (shotCells 0 0 (.slice A7 [(1 : Int)].length c7) 2 1) 29)) := (Below.refl _ _).alloc (Nat.le_refl _) _
      have hA8 := hA7.keep hal8
      have hI8 := hI7.keep hal8
      have hw8 := hw7.trans (hal8.mono (by have := hw7.size; omega))
      clear hs7 hx7 hA7 hI7 hw7 hal8
      simp only [shotV]
      go_upto_region 10 with (fail)
      change Code.wp _ _ _ _ (w7.alloc (.cells (shotCells 0 0 (.slice A7 [(1 : Int)].length c7) 2 1) 29))
      generalize (w7.alloc (.cells (shotCells 0 0 (.slice A7 [(1 : Int)].length c7) 2 1) 29)) = W8 at ht8 hs8 hx8 hA8 hI8 hw8 ⊢
      clear hgt
      obtain ⟨a0, a1, a2, a3, a4, a5, a6⟩ := hs8.shot
      obtain ⟨x0, x1, x2, x3, x4, x5, x6⟩ := hx8.shot
      obtain ⟨t0, t1, t2, t3, t4, t5, t6⟩ := ht8.shot
      have CS8 := CS W8 A2 A4 c2 c4 hA8 hI8
      have HW8 := Lib.hid hw8
      have hlt8 := hs8.lt
      have hgw : g ≤ W8.heap.size := by have := hw8.size; omega
      clear ht8 hs8 hx8 hA8 hI8 hw8 CS
      go_wp2_with fail
      refine CS8.out.mono ?_
      rintro e w9 ⟨rfl, hB9⟩
      have HW9 := Lib.hid (HW8.out.trans (hB9.mono hgw))
      clear a0 a1 a2 a3 a4 a5 a6 x0 x1 x2 x3 x4 x5 x6 t0 t1 t2 t3 t4 t5 t6 hB9
      go_wp2
      go_ret
      exact ⟨rfl, HW9.out⟩
end Go.Proofs.Ythdeappjankmmaa
