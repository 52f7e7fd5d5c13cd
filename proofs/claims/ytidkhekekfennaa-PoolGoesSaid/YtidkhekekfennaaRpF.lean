/- The document's pool: Free, Leave. -/
import Derived.Test.YtidkhekekfennaaRpG
namespace Go.Proofs.Ytidkhekekfennaa
set_option maxRecDepth 100000
set_option linter.unusedVariables false
open Go.RowKit

theorem give_any (w : World) (base g : Nat) (v u : Value) (cs : List Cn) (ws : List Int) (h : RpAt w base g v u cs ws) (hbase : base ≤ w.heap.size) (t : Int) :
    Calls Try.prog 33 #[.pointer (some ⟨g, 0, none⟩), .int .i64 t] w (GPost w base g v u (ws.headD 0) (giveC cs t (ws.headD 0)) ws.tail) := by
  cases ws with
  | nil => exact give_none w base g v u cs h t
  | cons R WS => exact give_some w base g v u cs R WS h hbase t
section
variable {w : World} {base g : Nat} {v u u' v' : Value} {cs cs' : List Cn} {ws ws' : List Int}
theorem RpAt.setW (h : RpAt w base g v u cs ws) (ho : OwnN .i64 3 w base u' ws') (h4 : ws'.length ≤ 4) (hr : ∀ x ∈ ws', 1 ≤ x ∧ x ≤ 6) : RpAt (w.setCell ⟨g, 1, none⟩ u') base g v u' cs ws' := by
  have T2 : Tr w (w.setCell ⟨g, 1, none⟩ u') (fun j => j = g) := (Tr.refl w (fun j => j = g)).setCell (a := ⟨g, 1, none⟩) (fun _ => rfl) u'
  have hne : u'.ownBlock ≠ some g := own_blk_ne (show w.ownsRow base 3 1 u' ws'.length (nums .i64 ws') from ho) h.blk (by decide)
  exact ⟨h.blk.set_ 1 u', own_tr h.row T2 (fun b e q => h.ne (q ▸ e)), own_tr ho T2 (fun b e q => hne (q ▸ e)), h.gb, h.c8, h4, hr⟩
theorem RpAt.setV (h : RpAt w base g v u cs ws) (ho : w.ownsRow base 56 2 v' cs'.length (cs'.flatMap cnC)) (h8 : cs'.length ≤ 8) : RpAt (w.setCell ⟨g, 0, none⟩ v') base g v' u cs' ws := by
  have T2 : Tr w (w.setCell ⟨g, 0, none⟩ v') (fun j => j = g) := (Tr.refl w (fun j => j = g)).setCell (a := ⟨g, 0, none⟩) (fun _ => rfl) v'
  have hne : v'.ownBlock ≠ some g := own_blk_ne ho h.blk (by decide)
  exact ⟨h.blk.set_ 0 v', own_tr ho T2 (fun b e q => hne (q ▸ e)), own_tr h.lin T2 (fun b e q => h.neW (q ▸ e)), h.gb, h8, h.w4, h.wr⟩
end
/-- Behind a call. -/
def RPost (w : World) (base g : Nat) (v u : Value) (R : Rs) (e : Ending) (w' : World) : Prop :=
  ∃ v' u', e = .returned (.tuple #[.int .i64 R.r, .int .i64 R.e]) ∧ RpAt w' base g v' u' R.cs R.ws ∧ Tr w w' (RB g v u) ∧ (∀ j, RB g v' u' j → RB g v u j ∨ w.heap.size ≤ j)
theorem RPost.same {w w1 : World} {base g : Nat} {v u : Value} {cs : List Cn} {ws : List Int} (h : RpAt w base g v u cs ws) (hb : Below w.heap.size w w1) (r e : Int) : RPost w base g v u ⟨r, e, cs, ws⟩ (.returned (.tuple #[.int .i64 r, .int .i64 e])) w1 :=
  ⟨v, u, rfl, h.keep hb, Tr.of_below hb, fun _ h => Or.inl h⟩
theorem RPost.give {w w1 w2 : World} {base g : Nat} {v u : Value} {cs : List Cn} {ws : List Int} {r : Int} {e : Ending} (hb : Below w.heap.size w w1) (h : GPost w1 base g v u r cs ws e w2) : e = .returned (.int .i64 r) ∧ RPost w base g v u ⟨r, 0, cs, ws⟩ (.returned (.tuple #[.int .i64 r, .int .i64 0])) w2 := by
  obtain ⟨v', u', h1, h2, h3, h4⟩ := h
  refine ⟨h1, v', u', rfl, h2, (Tr.of_below hb).trans h3, fun j hj => ?_⟩
  rcases h4 j hj with q | q
  · exact Or.inl q
  · exact Or.inr (Nat.le_trans hb.size q)
def rfreeP (cs : List Cn) (ws : List Int) (s : Int) : Rs := if hasP cs s = 0 then ⟨0, 4, cs, ws⟩ else ⟨ws.headD 0, 0, giveC cs (hasP cs s) (ws.headD 0), ws.tail⟩
set_option maxHeartbeats 4000000 in
theorem rfree_any (w : World) (base g : Nat) (v u : Value) (cs : List Cn) (ws : List Int) (h : RpAt w base g v u cs ws) (hbase : base ≤ w.heap.size) (s : Int) :
    Calls Try.prog 20 #[.pointer (some ⟨g, 0, none⟩), .int .i64 s] w (RPost w base g v u (rfreeP cs ws s)) := by
  have C := rhas_any w base g v u cs ws h s
  obtain ⟨X, hX⟩ : ∃ X, hasP cs s = X := ⟨_, rfl⟩
  obtain ⟨R, hR⟩ : ∃ R, rfreeP cs ws s = R := ⟨_, rfl⟩
  rw [rfreeP, hX] at hR
  rw [show rfreeP cs ws s = R by rw [rfreeP, hX]; exact hR]
  rw [hX] at C
  obtain ⟨Q, hQ⟩ : ∃ Q, RPost w base g v u R = Q := ⟨_, rfl⟩
  rw [hQ]
  have HQ := Lib.hid hQ
  have HR := Lib.hid hR
  have HH := Lib.hid h
  have HBS := Lib.hid hbase
  have C := Lib.hid C
  clear h hX hR hQ hbase
  by_cases h0 : X = 0
  · have e1 : (X == 0) = true := by simpa using h0
    have HR := Lib.hid ((if_pos h0).symm.trans HR.out)
    clear h0
    go_enter Try.func20, Try.ntmps20
    go_wp2_with fail
    refine C.out.mono ?_
    rintro e w1 ⟨rfl, hb⟩
    have HP := Lib.hid (RPost.same HH.out hb 0 4)
    clear hb C
    go_wp2
    show Q (.returned (.tuple #[.int .i64 0, .int .i64 4])) _
    rw [← HQ.out, ← HR.out]
    exact HP.out
  · have e1 : (X == 0) = false := by simpa using h0
    have HR := Lib.hid ((if_neg h0).symm.trans HR.out)
    clear h0
    go_enter Try.func20, Try.ntmps20
    go_wp2_with fail
    refine C.out.mono ?_
    rintro e w1 ⟨rfl, hb⟩
    have CG := give_any w1 base g v u cs ws (HH.out.keep hb) (Nat.le_trans HBS.out hb.size) X
    have HB := Lib.hid hb
    obtain ⟨r, hr⟩ : ∃ r, ws.headD 0 = r := ⟨_, rfl⟩
    rw [hr] at CG
    have HR2 := Lib.hid (hr ▸ HR.out)
    have CG := Lib.hid CG
    clear hb C hr
    go_wp2_with fail
    refine CG.out.mono ?_
    rintro e w2 hp
    obtain ⟨rfl, hp9⟩ := RPost.give HB.out hp
    have HP := Lib.hid hp9
    clear hp hp9 CG
    go_wp2
    show Q (.returned (.tuple #[.int .i64 r, .int .i64 0])) _
    rw [← HQ.out, ← HR2.out]
    exact HP.out
/-! ### Leave -/
def rleaveP (cs : List Cn) (ws : List Int) (s : Int) : Rs := if inW ws s = true then ⟨0, 0, cs, ws.filter (fun x => x != s)⟩ else rfreeP cs ws s
set_option maxHeartbeats 8000000 in
theorem rleave_any (w : World) (base g : Nat) (v u : Value) (cs : List Cn) (ws : List Int) (h : RpAt w base g v u cs ws) (hbase : base ≤ w.heap.size) (s : Int) :
    Calls Try.prog 22 #[.pointer (some ⟨g, 0, none⟩), .int .i64 s] w (RPost w base g v u (rleaveP cs ws s)) := by
  have C := rwaits_any w base g v u cs ws h s
  obtain ⟨B, hB⟩ : ∃ B, inW ws s = B := ⟨_, rfl⟩
  rw [rleaveP, hB]
  rw [hB] at C
  cases B
  · rw [if_neg (by simp)]
    have CF := rfree_any w base g v u cs ws h hbase s
    obtain ⟨R, hR⟩ : ∃ R, rfreeP cs ws s = R := ⟨_, rfl⟩
    rw [hR] at CF ⊢
    obtain ⟨Q, hQ⟩ : ∃ Q, RPost w base g v u R = Q := ⟨_, rfl⟩
    have HQ := Lib.hid hQ
    have HE : Hid (∀ e w1, Q e w1 → ∃ x y, e = .returned (.tuple #[.int .i64 x, .int .i64 y])) := Lib.hid (fun e w1 q => by
      rw [← hQ] at q
      obtain ⟨_, _, q, _⟩ := q
      exact ⟨_, _, q⟩)
    rw [hQ] at CF ⊢
    have C := Lib.hid C
    have CF := Lib.hid CF
    clear h hB hR hQ hbase
    go_enter Try.func22, Try.ntmps22
    go_wp2_with fail
    refine C.out.mono ?_
    rintro e w1 ⟨rfl, hw⟩
    obtain rfl := hw.symm
    go_wp2_with fail
    refine CF.out.mono ?_
    rintro e w2 hp
    have HP := Lib.hid hp
    obtain ⟨x, y, rfl⟩ := HE.out _ _ hp
    clear hp C CF
    go_wp2
    show Q (.returned (.tuple #[.int .i64 x, .int .i64 y])) _
    exact HP.out
  · rw [if_pos rfl]
    have z1 := h.z1
    have f1 := h.blk.frozen 1
    obtain ⟨A, c, e1, hin⟩ := h.inn
    obtain ⟨n, hn⟩ : ∃ n, ws.length = n := ⟨_, rfl⟩
    have hn4 : n ≤ 4 := hn ▸ h.w4
    rw [e1, hn] at z1
    obtain ⟨Q, hQ⟩ : ∃ Q, RPost w base g v u ⟨0, 0, cs, ws.filter (fun x => x != s)⟩ = Q := ⟨_, rfl⟩
    rw [hQ]
    have HQ := Lib.hid hQ
    have HH := Lib.hid h
    have HBS := Lib.hid hbase
    have HIN := Lib.hid hin
    have HN := Lib.hid hn
    have HU := Lib.hid e1
    have C := Lib.hid C
    obtain ⟨G, hG⟩ : ∃ G, w.heap.size = G := ⟨_, rfl⟩
    have HG := Lib.hid hG
    clear h hB hQ hbase hin hn e1 hG
    go_enter Try.func22, Try.ntmps22
    go_wp2_with fail
    refine C.out.mono ?_
    rintro e w1 ⟨rfl, hw⟩
    obtain rfl := hw.symm
    clear C
    go_wp2
    go_loopw [6, 23] (fun o s23 wr => ∃ k : Nat, s23 = .int .i64 k ∧ k ≤ n ∧ wr.ownsRow G 3 1 o ((ws.take k).filter (fun x => x != s)).length (((ws.take k).filter (fun x => x != s)).flatMap niC) ∧ Below G w wr) (fun _ s23 _ => n - (intOf s23).toNat)
    case atStart => exact ⟨0, rfl, Nat.zero_le _, own_nil _ _ _ _, Below.refl _ _⟩
    case round =>
      obtain ⟨k, rfl, hk, ho, hb⟩ := hrel
      have HO := Lib.hid ho
      have HB := Lib.hid hb
      have hgz : G ≤ wr.heap.size := by have := hb.size; have := HG.out; omega
      by_cases hkn : k < n
      · have hkl : k < ws.length := by rw [HN.out]; exact hkn
        obtain ⟨b, off, rfl, hat⟩ := (HIN.out.keep (HG.out ▸ hb)).all (by omega)
        have hck := hat k hkl
        have hsu : (ws.take (k + 1)).filter (fun x => x != s) = if (ws[k] != s) = true then (ws.take k).filter (fun x => x != s) ++ [ws[k]] else (ws.take k).filter (fun x => x != s) := by
          rw [List.take_succ_eq_append_getElem hkl, List.filter_append]
          by_cases q : (ws[k] != s) = true
          · rw [if_pos q, List.filter_cons, if_pos q, List.filter_nil]
          · rw [if_neg q, List.filter_cons, if_neg q, List.filter_nil, List.append_nil]
        have hlen : ((ws.take k).filter (fun x => x != s)).length ≤ k := Nat.le_trans (List.length_filter_le _ _) (by rw [List.length_take]; omega)
        obtain ⟨y, hy⟩ : ∃ y, ws[k] = y := ⟨_, rfl⟩
        rw [hy] at hck hsu
        obtain ⟨L, hL⟩ : ∃ L, (ws.take k).filter (fun x => x != s) = L := ⟨_, rfl⟩
        rw [hL] at hsu hlen HO
        have HSU := Lib.hid hsu
        have HLN := Lib.hid hlen
        clear hat hy ho hb hkl hsu hlen hL
        cases e1 : (y != s)
        · have HSU := Lib.hid (HSU.out.trans (if_neg (by rw [e1]; simp)))
          go_wp2
          go_roundw
          case rel => exact ⟨k + 1, by go_num, by omega, by rw [HSU.out]; exact HO.out, HB.out⟩
          case measure => simp [intOf]; omega
        · have HSU := Lib.hid (HSU.out.trans (if_pos e1))
          obtain ⟨Ao, co, rfl⟩ := own_slice HO.out
          obtain ⟨m, hm⟩ : ∃ m, L.length = m := ⟨_, rfl⟩
          have HM := Lib.hid hm
          rw [hm]
          have HZ := Lib.hid hgz
          clear hm hgz
          go_wp2_with (at_builtin; refine wpList_oneH (f := niC) (W := wr) Try.underlying28 info_intF rfl (by omega) (fun _ => rfl) niC_one G rfl _ _ rfl (.slice Ao m co) L y rfl rfl rfl (HM.out ▸ HO.out) HZ.out (by have := HM.out; have := HLN.out; omega) (by omega) ?_; intro v1 w1 ho1 hg1 hb1; have HO1 := Lib.hid ho1; have HB1 := Lib.hid (HB.out.grown hg1 HZ.out (fun b e => own_base HO.out b (HM.out.symm ▸ e))); clear ho1 hg1 hb1)
          go_roundw
          case rel => exact ⟨k + 1, by go_num, by omega, by rw [HSU.out]; exact HO1.out, HB1.out⟩
          case measure => simp [intOf]; omega
      · obtain rfl : k = n := by omega
        have ho2 := HO.out
        rw [← HN.out, List.take_length] at ho2
        obtain ⟨WS', hWS'⟩ : ∃ WS', ws.filter (fun x => x != s) = WS' := ⟨_, rfl⟩
        rw [hWS'] at ho2
        have HWS := Lib.hid hWS'
        have hp := HH.out.keep (HG.out.symm ▸ hb)
        have hmem : ∀ x ∈ WS', x ∈ ws := fun x hx => by rw [← hWS'] at hx; exact (List.mem_filter.1 hx).1
        have hlen : WS'.length ≤ 4 := by rw [← hWS']; exact Nat.le_trans (List.length_filter_le _ _) (by rw [HN.out]; exact hn4)
        obtain ⟨Ao, co, rfl⟩ := own_slice ho2
        have ho3 : OwnN .i64 3 wr G (.slice Ao WS'.length co) WS' := by
          show wr.ownsRow _ _ _ _ _ _
          rw [nums_flat]
          exact ho2
        have hp2 := hp.setW (own_lower ho3 (HG.out ▸ HBS.out)) hlen (fun x hx => HH.out.wr x (hmem x hx))
        have hT : Tr w (wr.setCell ⟨g, 1, none⟩ (.slice Ao WS'.length co)) (RB g v u) := (Tr.of_below (HG.out.symm ▸ hb)).setCell (fun _ => Or.inl rfl) _
        have HP : Hid (RPost w base g v u ⟨0, 0, cs, WS'⟩ (.returned (.tuple #[.int .i64 0, .int .i64 0])) (wr.setCell ⟨g, 1, none⟩ (.slice Ao WS'.length co))) := Lib.hid ⟨v, _, rfl, hp2, hT, fun j hj => by
          rcases hj with q | q | q
          · exact Or.inl (Or.inl q)
          · exact Or.inl (Or.inr (Or.inl q))
          · have := own_base ho3 j q
            have := HG.out
            exact Or.inr (by omega)⟩
        have f1 := hp.blk.frozen 1
        have z1 := hp.z1
        rw [HU.out, HN.out] at z1
        clear ho2 ho3 hp2 hT hWS' hp hmem hlen HO ho
        go_wp2
        show Q (.returned (.tuple #[.int .i64 0, .int .i64 0])) _
        rw [← HQ.out, HWS.out]
        exact HP.out
end Go.Proofs.Ytidkhekekfennaa
