/- Pools: Want. -/
import Derived.Test.YtidkhekekfennaaPlW
import Derived.Test.YtidkhekekfennaaClass
import Derived.BigQuiet
namespace Go.Proofs.Ytidkhekekfennaa
set_option maxRecDepth 100000
set_option linter.unusedVariables false
open Go.RowKit

def inW (ws : List Int) (s : Int) : Bool := (ws.findIdx? (fun x => x == s)).isSome
def busyB (cs : List Cn) (ws : List Int) (s : Int) : Bool := (fdS cs s).isSome || inW ws s
def wantP (cs : List Cn) (ws : List Int) (s : Int) : Rs := if s < 1 ∨ 6 < s then ⟨0, 1, cs, ws⟩ else if busyB cs ws s = true then ⟨0, 3, cs, ws⟩ else match fdS cs 0 with
  | some k => ⟨tokAt cs k, 0, setS cs k s, ws⟩
  | none => if ws.length = 4 then ⟨0, 180, cs, ws⟩ else ⟨0, 0, cs, ws ++ [s]⟩
theorem ofI_ge (cs : List Cn) (s : Int) : decide (ofI cs s ≥ 0) = (fdS cs s).isSome := plI_ge _
theorem ixI_ge (ws : List Int) (s : Int) : decide (0 ≤ ixI ws s) = inW ws s := plI_ge _
set_option maxHeartbeats 2000000 in
theorem want_bad (w : World) (base g : Nat) (v : Value) (cs : List Cn) (ws : List Int) (h : PlAt w base g v cs ws) (s : Int) (hs : s < 1 ∨ 6 < s) :
    Calls Try.prog 17 #[.pointer (some ⟨g, 0, none⟩), .int .i64 s] w (Post w base g v ⟨0, 1, cs, ws⟩) := by
  have HP := Lib.hid (Post.same h (Below.refl _ _) 0 1)
  obtain ⟨Q, hQ⟩ : ∃ Q, Post w base g v ⟨0, 1, cs, ws⟩ = Q := ⟨_, rfl⟩
  rw [hQ]
  have HQ := Lib.hid hQ
  clear h hQ
  rcases hs with hs | hs
  all_goals
    have e1 : decide (s < 1) = decide (s < 1) := rfl
    by_cases h1 : s < 1
    all_goals
      go_enter Try.func17, Try.ntmps17
      go_wp2
      show Q (.returned (.tuple #[.int .i64 0, .int .i64 1])) _
      rw [← HQ.out]
      exact HP.out
set_option maxHeartbeats 2000000 in
theorem want_ok (w : World) (base g : Nat) (v : Value) (cs : List Cn) (ws : List Int) (h : PlAt w base g v cs ws) (s : Int) (h1 : 1 ≤ s) (h6 : s ≤ 6) :
    Calls Try.prog 17 #[.pointer (some ⟨g, 0, none⟩), .int .i64 s] w (Post w base g v (wantP cs ws s)) := by
  obtain ⟨R, hR⟩ : ∃ R, wantP cs ws s = R := ⟨_, rfl⟩
  have HR : Hid (R = if busyB cs ws s = true then ⟨0, 3, cs, ws⟩ else match fdS cs 0 with
      | some k => ⟨tokAt cs k, 0, setS cs k s, ws⟩
      | none => if ws.length = 4 then ⟨0, 180, cs, ws⟩ else ⟨0, 0, cs, ws ++ [s]⟩) := by
    show _ = _
    rw [← hR, wantP, if_neg (by omega)]
  rw [hR]
  obtain ⟨Q, hQ⟩ : ∃ Q, Post w base g v R = Q := ⟨_, rfl⟩
  rw [hQ]
  have HQ := Lib.hid hQ
  have HH := Lib.hid h
  have COF := fun W (k : PlAt W base g v cs ws) => of_any W base g v cs ws k s
  have CO0 := Lib.hid (fun W (k : PlAt W base g v cs ws) => of_any W base g v cs ws k 0)
  have CI := fun W (k : PlAt W base g v cs ws) => con_any W (some ⟨g, 1, none⟩) 4 ws s k.inn
  obtain ⟨N, hN⟩ : ∃ N, ofI cs s = N := ⟨_, rfl⟩
  obtain ⟨B, hB⟩ : ∃ B, decide (0 ≤ ixI ws s) = B := ⟨_, rfl⟩
  have HBZ : Hid (busyB cs ws s = (decide (N ≥ 0) || B)) := by
    show _ = _
    rw [busyB, ← hN, ← hB, ofI_ge, ixI_ge]
  simp only [hN] at COF
  simp only [hB] at CI
  obtain ⟨m, hm⟩ : ∃ m, ws.length = m := ⟨_, rfl⟩
  have hm4 : (m : Int) ≤ 4 := by have := h.w4; omega
  have z5 : w.drew.cell? ⟨g, 5, none⟩ = some (.int .i64 (m : Int)) := hm ▸ h.blk.pl.z5
  rw [hm] at CI
  have HM := Lib.hid hm
  have CI := Lib.hid CI
  have COF := Lib.hid COF
  have hlt : g < w.drew.heap.size := h.lt
  clear h hR hQ hN hB hm
  go_enter Try.func17, Try.ntmps17
  go_upto_region 3 with (fail)
  go_cut [14] (fun x wx => ∃ B', x = .bool B' ∧ Hid (busyB cs ws s = B') ∧ PlAt wx base g v cs ws ∧ Tr w wx (PB g v))
  case first =>
    obtain ⟨KW, hKW⟩ : ∃ KW : World → Prop, KW = fun W => PlAt W base g v cs ws ∧ Tr w W (PB g v) := ⟨_, rfl⟩
    have KC : ∀ w1 w2, KW w1 → Below w1.heap.size w1 w2 → KW w2 := fun w1 w2 h hb => by rw [hKW] at h ⊢; exact ⟨h.1.keep hb, h.2.trans (Tr.of_below hb)⟩
    have KF : ∀ w1, KW w1 → PlAt w1 base g v cs ws ∧ Tr w w1 (PB g v) := fun w1 h => by rw [hKW] at h; exact h
    have K1 : KW w.drew := by rw [hKW]; exact ⟨HH.out.drew, (Tr.refl w _).drew⟩
    have F5 : ∀ p : InClass KW, p.w.cell? ⟨g, 5, none⟩ = some (.int .i64 (m : Int)) := fun p => HM.out ▸ (KF _ p.ok).1.blk.pl.z5
    haveI NE : Nonempty (InClass KW) := ⟨⟨w.drew, K1⟩⟩
    have KC := Lib.hid KC
    have KF := Lib.hid KF
    clear hKW z5 hlt
    by_cases hN : N ≥ 0
    · have hB2 : Hid (busyB cs ws s = true) := by
        show _ = _
        rw [HBZ.out, decide_eq_true hN]
        rfl
      have hd : decide (N ≥ 0) = true := decide_eq_true hN
      clear hN
      refine wp_region_class_lit KW (by kernel_rfl) (by kernel_rfl) K1 ?_
      repeat (go_big_quiet_step ((go_at_call 27; refine (COF.out _ (KF.out _ (InClass.ok _)).1).mono ?_; rintro e8 w8 ⟨he, hB8⟩; exact ⟨he, ⟨w8, KC.out _ w8 (InClass.ok _) hB8⟩, rfl⟩)))
      refine wpQuiet_nil ?_
      intro _ hw9
      obtain ⟨p9, hw9⟩ := hw9
      subst hw9
      have k9 := Lib.hid (KF.out _ p9.ok)
      clear F5 NE
      go_wp2
      go_meet
      case rel => exact ⟨true, rfl, hB2, k9.out.1, k9.out.2⟩
    · have hd : decide (N ≥ 0) = false := decide_eq_false hN
      have hB2 : Hid (busyB cs ws s = B) := by
        show _ = _
        rw [HBZ.out, hd]
        rfl
      clear hN
      refine wp_region_class_lit KW (by kernel_rfl) (by kernel_rfl) K1 ?_
      repeat (go_big_quiet_step (first | (go_at_call 27; refine (COF.out _ (KF.out _ (InClass.ok _)).1).mono ?_; rintro e8 w8 ⟨he, hB8⟩; exact ⟨he, ⟨w8, KC.out _ w8 (InClass.ok _) hB8⟩, rfl⟩) | (go_at_call 35; refine (CI.out _ (KF.out _ (InClass.ok _)).1).mono ?_; rintro e8 w8 ⟨he, hB8⟩; exact ⟨he, ⟨w8, hB8 ▸ InClass.ok _⟩, rfl⟩)))
      refine wpQuiet_nil ?_
      intro _ hw9
      obtain ⟨p9, hw9⟩ := hw9
      subst hw9
      have k9 := Lib.hid (KF.out _ p9.ok)
      clear F5 NE
      go_wp2
      go_meet
      case rel => exact ⟨B, rfl, hB2, k9.out.1, k9.out.2⟩
  case rest =>
    obtain ⟨B', rfl, hB', hp, ht⟩ := hcut
    have HP := Lib.hid hp
    have HT := Lib.hid ht
    clear z5 hp ht hlt CI COF HBZ
    cases B'
    rotate_left
    · have HR2 : Hid (R = ⟨0, 3, cs, ws⟩) := by
        show _ = _
        rw [HR.out, if_pos hB'.out]
      clear HR CO0
      go_wp2
      show Q (.returned (.tuple #[.int .i64 0, .int .i64 3])) _
      rw [← HQ.out, HR2.out]
      exact ⟨v, rfl, HP.out, HT.out, Or.inl rfl⟩
    have HR2 : Hid (R = match fdS cs 0 with
      | some k => ⟨tokAt cs k, 0, setS cs k s, ws⟩
      | none => if ws.length = 4 then ⟨0, 180, cs, ws⟩ else ⟨0, 0, cs, ws ++ [s]⟩) := by
      show _ = _
      rw [HR.out, if_neg (by rw [hB'.out]; simp)]
    have C0 := CO0.out _ HP.out
    rw [ofI_eq] at C0
    clear HR CO0
    cases hf : fdS cs 0 with
    | some k =>
      obtain ⟨hk, -, -⟩ := fd_some hf
      have HR3 : Hid (R = ⟨cs[k].t, 0, setS cs k s, ws⟩) := by
        show _ = _
        rw [HR2.out, hf]
        show Rs.mk (tokAt cs k) 0 _ _ = _
        rw [fd_at hk]
      rw [hf] at C0
      have e1 : plI (some k) = (k : Int) := rfl
      rw [e1] at C0
      have C0 := Lib.hid C0
      clear hf e1 HR2
      go_wp2_with fail
      refine C0.out.mono ?_
      rintro e w1 ⟨rfl, hB1⟩
      have h1 := HP.out.keep hB1
      have T1 := Lib.hid (HT.out.trans (Tr.of_below (P := PB g v) hB1))
      have z0 : w1.cell? ⟨g, 0, none⟩ = some v := h1.blk.pl.z0
      obtain ⟨gb, cap, rfl, hgb, hgl, hcap, hcm, hat, hfz⟩ := h1.row1 hk
      obtain ⟨y, hy⟩ : ∃ y, cs[k] = y := ⟨_, rfl⟩
      rw [hy] at hat HR3
      have c0 := hat.c0
      have c1 := hat.c1
      have f1 := hfz (k * 2 + 1)
      have H3 := Lib.hid (h1.setS k s)
      have HT3 := Lib.hid (T1.out.setCell (a := ⟨gb, k * 2 + 1, none⟩) (fun _ => Or.inr rfl) (.int .i64 s))
      obtain ⟨n, hn⟩ : ∃ n, cs.length = n := ⟨_, rfl⟩
      have hkn : k < n := hn ▸ hk
      have hn8 : n ≤ 8 := hn ▸ h1.c8
      rw [hn] at z0
      clear hB1 C0 h1 hat hn hcap hcm hfz T1 hy
      go_wp2
      show Q (.returned (.tuple #[.int .i64 y.t, .int .i64 0])) _
      rw [← HQ.out, HR3.out]
      exact ⟨_, rfl, H3.out, HT3.out, Or.inl rfl⟩
    | none =>
      have HR3 : Hid (R = if ws.length = 4 then ⟨0, 180, cs, ws⟩ else ⟨0, 0, cs, ws ++ [s]⟩) := by
        show _ = _
        rw [HR2.out, hf]
      rw [hf] at C0
      have e1 : plI none = -1 := rfl
      rw [e1] at C0
      have C0 := Lib.hid C0
      clear hf e1 HR2
      go_wp2_with fail
      refine C0.out.mono ?_
      rintro e w1 ⟨rfl, hB1⟩
      have h1 := HP.out.keep hB1
      have T1 := Lib.hid (HT.out.trans (Tr.of_below (P := PB g v) hB1))
      have H1 := Lib.hid h1
      have hb := h1.blk
      have hw4 := h1.w4
      clear hB1 C0 h1 HP HT HM hm4
      match ws, hw4, hb with
      | [a, b, c, d], hw4, hb =>
        have z5 : w1.cell? ⟨g, 5, none⟩ = some (.int .i64 4) := hb.pl.z5
        have HR4 : Hid (R = ⟨0, 180, cs, [a, b, c, d]⟩) := HR3.out
        clear hb HR3
        go_wp2
        show Q (.returned (.tuple #[.int .i64 0, .int .i64 180])) _
        rw [← HQ.out, HR4.out]
        exact ⟨v, rfl, H1.out, T1.out, Or.inl rfl⟩
      | a :: b :: c :: d :: e :: l, hw4, hb => exact absurd hw4 (by simp)
      | [], hw4, hb =>
        have HR4 : Hid (R = ⟨0, 0, cs, [s]⟩) := HR3.out
        have z5 : w1.cell? ⟨g, 5, none⟩ = some (.int .i64 0) := hb.pl.z5
        have z5' : w1.drew.cell? ⟨g, 5, none⟩ = some (.int .i64 0) := z5
        have f5b := hb.frozen 5
        have f5c := hb.drew.frozen 5
        have zm := hb.drew.pl.z1
        have fm := hb.drew.frozen 1
        have hb2 : Blk (w1.drew.setCell ⟨g, 1, none⟩ (.int .i64 s)) g 49 (plC v s 0 0 0 0) := Blk.setL (l := [v, .int .i64 0, .int .i64 0, .int .i64 0, .int .i64 0, .int .i64 0]) hb.drew 1 _
        have q5 := hb2.pl.z5
        have f5 := hb2.frozen 5
        have hb3 : Blk ((w1.drew.setCell ⟨g, 1, none⟩ (.int .i64 s)).setCell ⟨g, 5, none⟩ (.int .i64 1)) g 49 (linC v [s]) := Blk.setL (l := [v, .int .i64 s, .int .i64 0, .int .i64 0, .int .i64 0, .int .i64 0]) hb2 5 _
        have T3 := ((T1.out.drew).setCell (a := ⟨g, 1, none⟩) (fun _ => Or.inl rfl) (.int .i64 s)).setCell (a := ⟨g, 5, none⟩) (fun _ => Or.inl rfl) (.int .i64 1)
        have hO := own_tr H1.out.row (((Tr.refl w1 (fun j => j = g)).drew.setCell (a := ⟨g, 1, none⟩) (fun _ => rfl) (.int .i64 s)).setCell (a := ⟨g, 5, none⟩) (fun _ => rfl) (.int .i64 1)) (fun b e q => H1.out.ne (q ▸ e))
        have HF : Hid (PlAt ((w1.drew.setCell ⟨g, 1, none⟩ (.int .i64 s)).setCell ⟨g, 5, none⟩ (.int .i64 1)) base g v cs [s]) := (show PlAt _ _ _ _ _ _ from ⟨hb3, hO, H1.out.gb, H1.out.c8, by simp, fun x hx => by
          rcases List.mem_append.1 (show x ∈ [] ++ [s] from hx) with hx | hx
          · exact H1.out.wr x hx
          · rw [List.mem_singleton.1 hx]; exact ⟨h1, h6⟩⟩)
        have HT3 := Lib.hid T3
        clear hb hb2 hb3 T3 hO HR3
        go_wp2
        go_still_tail 9, (by kernel_rfl)
        change wpList _ _ _ _ _ w1.drew
        go_wp2
        show Q (.returned (.tuple #[.int .i64 0, .int .i64 0])) _
        rw [← HQ.out, HR4.out]
        exact ⟨v, rfl, HF.out, HT3.out, Or.inl rfl⟩
      | [a], hw4, hb =>
        have HR4 : Hid (R = ⟨0, 0, cs, [a, s]⟩) := HR3.out
        have z5 : w1.cell? ⟨g, 5, none⟩ = some (.int .i64 1) := hb.pl.z5
        have z5' : w1.drew.cell? ⟨g, 5, none⟩ = some (.int .i64 1) := z5
        have f5b := hb.frozen 5
        have f5c := hb.drew.frozen 5
        have zm := hb.drew.pl.z2
        have fm := hb.drew.frozen 2
        have hb2 : Blk (w1.drew.setCell ⟨g, 2, none⟩ (.int .i64 s)) g 49 (plC v a s 0 0 1) := Blk.setL (l := [v, .int .i64 a, .int .i64 0, .int .i64 0, .int .i64 0, .int .i64 1]) hb.drew 2 _
        have q5 := hb2.pl.z5
        have f5 := hb2.frozen 5
        have hb3 : Blk ((w1.drew.setCell ⟨g, 2, none⟩ (.int .i64 s)).setCell ⟨g, 5, none⟩ (.int .i64 2)) g 49 (linC v [a, s]) := Blk.setL (l := [v, .int .i64 a, .int .i64 s, .int .i64 0, .int .i64 0, .int .i64 1]) hb2 5 _
        have T3 := ((T1.out.drew).setCell (a := ⟨g, 2, none⟩) (fun _ => Or.inl rfl) (.int .i64 s)).setCell (a := ⟨g, 5, none⟩) (fun _ => Or.inl rfl) (.int .i64 2)
        have hO := own_tr H1.out.row (((Tr.refl w1 (fun j => j = g)).drew.setCell (a := ⟨g, 2, none⟩) (fun _ => rfl) (.int .i64 s)).setCell (a := ⟨g, 5, none⟩) (fun _ => rfl) (.int .i64 2)) (fun b e q => H1.out.ne (q ▸ e))
        have HF : Hid (PlAt ((w1.drew.setCell ⟨g, 2, none⟩ (.int .i64 s)).setCell ⟨g, 5, none⟩ (.int .i64 2)) base g v cs [a, s]) := (show PlAt _ _ _ _ _ _ from ⟨hb3, hO, H1.out.gb, H1.out.c8, by simp, fun x hx => by
          rcases List.mem_append.1 (show x ∈ [a] ++ [s] from hx) with hx | hx
          · exact H1.out.wr x hx
          · rw [List.mem_singleton.1 hx]; exact ⟨h1, h6⟩⟩)
        have HT3 := Lib.hid T3
        clear hb hb2 hb3 T3 hO HR3
        go_wp2
        go_still_tail 9, (by kernel_rfl)
        change wpList _ _ _ _ _ w1.drew
        go_wp2
        show Q (.returned (.tuple #[.int .i64 0, .int .i64 0])) _
        rw [← HQ.out, HR4.out]
        exact ⟨v, rfl, HF.out, HT3.out, Or.inl rfl⟩
      | [a, b], hw4, hb =>
        have HR4 : Hid (R = ⟨0, 0, cs, [a, b, s]⟩) := HR3.out
        have z5 : w1.cell? ⟨g, 5, none⟩ = some (.int .i64 2) := hb.pl.z5
        have z5' : w1.drew.cell? ⟨g, 5, none⟩ = some (.int .i64 2) := z5
        have f5b := hb.frozen 5
        have f5c := hb.drew.frozen 5
        have zm := hb.drew.pl.z3
        have fm := hb.drew.frozen 3
        have hb2 : Blk (w1.drew.setCell ⟨g, 3, none⟩ (.int .i64 s)) g 49 (plC v a b s 0 2) := Blk.setL (l := [v, .int .i64 a, .int .i64 b, .int .i64 0, .int .i64 0, .int .i64 2]) hb.drew 3 _
        have q5 := hb2.pl.z5
        have f5 := hb2.frozen 5
        have hb3 : Blk ((w1.drew.setCell ⟨g, 3, none⟩ (.int .i64 s)).setCell ⟨g, 5, none⟩ (.int .i64 3)) g 49 (linC v [a, b, s]) := Blk.setL (l := [v, .int .i64 a, .int .i64 b, .int .i64 s, .int .i64 0, .int .i64 2]) hb2 5 _
        have T3 := ((T1.out.drew).setCell (a := ⟨g, 3, none⟩) (fun _ => Or.inl rfl) (.int .i64 s)).setCell (a := ⟨g, 5, none⟩) (fun _ => Or.inl rfl) (.int .i64 3)
        have hO := own_tr H1.out.row (((Tr.refl w1 (fun j => j = g)).drew.setCell (a := ⟨g, 3, none⟩) (fun _ => rfl) (.int .i64 s)).setCell (a := ⟨g, 5, none⟩) (fun _ => rfl) (.int .i64 3)) (fun b e q => H1.out.ne (q ▸ e))
        have HF : Hid (PlAt ((w1.drew.setCell ⟨g, 3, none⟩ (.int .i64 s)).setCell ⟨g, 5, none⟩ (.int .i64 3)) base g v cs [a, b, s]) := (show PlAt _ _ _ _ _ _ from ⟨hb3, hO, H1.out.gb, H1.out.c8, by simp, fun x hx => by
          rcases List.mem_append.1 (show x ∈ [a, b] ++ [s] from hx) with hx | hx
          · exact H1.out.wr x hx
          · rw [List.mem_singleton.1 hx]; exact ⟨h1, h6⟩⟩)
        have HT3 := Lib.hid T3
        clear hb hb2 hb3 T3 hO HR3
        go_wp2
        go_still_tail 9, (by kernel_rfl)
        change wpList _ _ _ _ _ w1.drew
        go_wp2
        show Q (.returned (.tuple #[.int .i64 0, .int .i64 0])) _
        rw [← HQ.out, HR4.out]
        exact ⟨v, rfl, HF.out, HT3.out, Or.inl rfl⟩
      | [a, b, c], hw4, hb =>
        have HR4 : Hid (R = ⟨0, 0, cs, [a, b, c, s]⟩) := HR3.out
        have z5 : w1.cell? ⟨g, 5, none⟩ = some (.int .i64 3) := hb.pl.z5
        have z5' : w1.drew.cell? ⟨g, 5, none⟩ = some (.int .i64 3) := z5
        have f5b := hb.frozen 5
        have f5c := hb.drew.frozen 5
        have zm := hb.drew.pl.z4
        have fm := hb.drew.frozen 4
        have hb2 : Blk (w1.drew.setCell ⟨g, 4, none⟩ (.int .i64 s)) g 49 (plC v a b c s 3) := Blk.setL (l := [v, .int .i64 a, .int .i64 b, .int .i64 c, .int .i64 0, .int .i64 3]) hb.drew 4 _
        have q5 := hb2.pl.z5
        have f5 := hb2.frozen 5
        have hb3 : Blk ((w1.drew.setCell ⟨g, 4, none⟩ (.int .i64 s)).setCell ⟨g, 5, none⟩ (.int .i64 4)) g 49 (linC v [a, b, c, s]) := Blk.setL (l := [v, .int .i64 a, .int .i64 b, .int .i64 c, .int .i64 s, .int .i64 3]) hb2 5 _
        have T3 := ((T1.out.drew).setCell (a := ⟨g, 4, none⟩) (fun _ => Or.inl rfl) (.int .i64 s)).setCell (a := ⟨g, 5, none⟩) (fun _ => Or.inl rfl) (.int .i64 4)
        have hO := own_tr H1.out.row (((Tr.refl w1 (fun j => j = g)).drew.setCell (a := ⟨g, 4, none⟩) (fun _ => rfl) (.int .i64 s)).setCell (a := ⟨g, 5, none⟩) (fun _ => rfl) (.int .i64 4)) (fun b e q => H1.out.ne (q ▸ e))
        have HF : Hid (PlAt ((w1.drew.setCell ⟨g, 4, none⟩ (.int .i64 s)).setCell ⟨g, 5, none⟩ (.int .i64 4)) base g v cs [a, b, c, s]) := (show PlAt _ _ _ _ _ _ from ⟨hb3, hO, H1.out.gb, H1.out.c8, by simp, fun x hx => by
          rcases List.mem_append.1 (show x ∈ [a, b, c] ++ [s] from hx) with hx | hx
          · exact H1.out.wr x hx
          · rw [List.mem_singleton.1 hx]; exact ⟨h1, h6⟩⟩)
        have HT3 := Lib.hid T3
        clear hb hb2 hb3 T3 hO HR3
        go_wp2
        go_still_tail 9, (by kernel_rfl)
        change wpList _ _ _ _ _ w1.drew
        go_wp2
        show Q (.returned (.tuple #[.int .i64 0, .int .i64 0])) _
        rw [← HQ.out, HR4.out]
        exact ⟨v, rfl, HF.out, HT3.out, Or.inl rfl⟩
theorem want_any (w : World) (base g : Nat) (v : Value) (cs : List Cn) (ws : List Int) (h : PlAt w base g v cs ws) (s : Int) :
    Calls Try.prog 17 #[.pointer (some ⟨g, 0, none⟩), .int .i64 s] w (Post w base g v (wantP cs ws s)) := by
  by_cases hs : s < 1 ∨ 6 < s
  · rw [wantP, if_pos hs]
    exact want_bad w base g v cs ws h s hs
  · exact want_ok w base g v cs ws h s (by omega) (by omega)
end Go.Proofs.Ytidkhekekfennaa
