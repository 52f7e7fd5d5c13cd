/- Pools: Close, Leave, Waits, Clone. -/
import Derived.Test.YtidkhekekfennaaPlO
namespace Go.Proofs.Ytidkhekekfennaa
set_option maxRecDepth 100000
set_option linter.unusedVariables false
open Go.RowKit

def closeP (cs : List Cn) (ws : List Int) (t : Int) : Rs := if hasT cs t then ⟨match cs[lbT cs t]? with
  | some c => c.s
  | none => 0, 0, delL cs (lbT cs t), ws⟩ else ⟨0, 4, cs, ws⟩
def leaveP (cs : List Cn) (ws : List Int) (s : Int) : Rs := match ws.findIdx? (fun x => x == s) with
  | some i => ⟨0, 0, cs, ws.eraseIdx i⟩
  | none => freeP cs ws s
theorem has_lt {cs : List Cn} {t : Int} (h : hasT cs t = true) : lbT cs t < cs.length := by
  rcases Nat.lt_or_ge (lbT cs t) cs.length with h1 | h1
  · exact h1
  · unfold hasT at h
    rw [List.getElem?_eq_none h1] at h
    cases h
theorem del_own {w : World} {base : Nat} {v : Value} {l : List Cn} {k : Nat} (HO : w.ownsRow base 38 2 v l.length (l.flatMap cnC)) (hk : k < l.length) (hn : l.length ≤ 1000000) :
    Calls Try.prog 34 #[v, .int .i64 k, .int .i64 ((k : Int) + 1)] w fun e w' => ∃ v', e = .returned v' ∧ w'.ownsRow base 38 2 v' (delL l k).length ((delL l k).flatMap cnC) ∧ w.grownBy w' v.ownBlock ∧ v'.ownBlock = v.ownBlock := by
  rcases HO.2 with ⟨_, h0⟩ | ⟨g, cap, cur, rfl, hg, hb, hnc, hcm, hsz, htk⟩
  · omega
  · refine (cn_del_row w g cap cur l l.length k rfl hb hsz htk hk hnc hcm hn).mono ?_
    rintro e w' ⟨rfl, ⟨cur', h3, h4, h5⟩, h6⟩
    refine ⟨_, rfl, ?_, h6, rfl⟩
    rw [delL_len l k hk]
    exact ⟨by rw [flat_len cnC_len, delL_len l k hk], .inr ⟨g, cap, cur', rfl, hg, h3, by omega, hcm, h4, h5⟩⟩
set_option maxHeartbeats 2000000 in
theorem close_any (w : World) (base g : Nat) (v : Value) (cs : List Cn) (ws : List Int) (h : PlAt w base g v cs ws) (hs : Srt cs) (t : Int) :
    Calls Try.prog 15 #[.pointer (some ⟨g, 0, none⟩), .int .i64 t] w (Post w base g v (closeP cs ws t)) := by
  have C := at_any w base g v cs ws h hs t
  have HH := Lib.hid h
  cases hf : hasT cs t
  · have e0 : closeP cs ws t = ⟨0, 4, cs, ws⟩ := by rw [closeP, hf]; rfl
    rw [e0]
    obtain ⟨Q, hQ⟩ : ∃ Q, Post w base g v ⟨0, 4, cs, ws⟩ = Q := ⟨_, rfl⟩
    rw [hQ]
    have HQ := Lib.hid hQ
    obtain ⟨Z, hZ⟩ : ∃ Z, ((lbT cs t : Nat) : Int) = Z := ⟨_, rfl⟩
    rw [hZ, hf] at C
    have C := Lib.hid C
    clear hs hZ h e0 hQ hf
    go_enter Try.func15, Try.ntmps15
    go_wp2_with fail
    refine C.out.mono ?_
    rintro e w1 ⟨rfl, hB1⟩
    have HB := Lib.hid hB1
    clear hB1 C
    go_wp2
    show Q (.returned (.tuple #[.int .i64 0, .int .i64 4])) _
    rw [← HQ.out]
    exact Post.same HH.out HB.out 0 4
  · have hk := has_lt hf
    obtain ⟨k, hkk⟩ : ∃ k, lbT cs t = k := ⟨_, rfl⟩
    rw [hkk] at hk C
    obtain ⟨y, hy⟩ : ∃ y, cs[k] = y := ⟨_, rfl⟩
    have e0 : closeP cs ws t = ⟨y.s, 0, delL cs k, ws⟩ := by
      rw [closeP, hf, hkk, if_pos rfl, List.getElem?_eq_getElem hk, hy]
    rw [e0]
    obtain ⟨Q, hQ⟩ : ∃ Q, Post w base g v ⟨y.s, 0, delL cs k, ws⟩ = Q := ⟨_, rfl⟩
    rw [hQ]
    have HQ := Lib.hid hQ
    rw [hf] at C
    have C := Lib.hid C
    have HY := Lib.hid hy
    clear hs h e0 hQ hf hkk hy
    go_enter Try.func15, Try.ntmps15
    go_wp2_with fail
    refine C.out.mono ?_
    rintro e w1 ⟨rfl, hB1⟩
    have h1 := HH.out.keep hB1
    have T1 := Lib.hid (Tr.of_below (P := PB g v) hB1)
    have z0 : w1.cell? ⟨g, 0, none⟩ = some v := h1.blk.pl.z0
    have CD := del_own h1.row hk (by have := h1.c8; omega)
    obtain ⟨gb, cap, rfl, hgb, hgl, hcap, hcm, hat, hfz⟩ := h1.row1 hk
    rw [HY.out] at hat
    have c1 := hat.c1
    obtain ⟨n, hn⟩ : ∃ n, cs.length = n := ⟨_, rfl⟩
    have HN := Lib.hid hn
    have hkn : k < n := hn ▸ hk
    have hn8 : n ≤ 8 := hn ▸ h1.c8
    rw [hn] at z0 CD
    have CD := Lib.hid CD
    have H1 := Lib.hid h1
    clear hB1 C h1 hat hn hcap hcm hfz
    go_wp2_with fail
    (with_reducible refine CD.out.mono ?_)
    rintro e w2 ⟨v', rfl, hO, hg2, hv'⟩
    obtain ⟨A9, c9, e9⟩ := own_slice hO
    obtain ⟨n9, hn9⟩ : ∃ n9, (delL cs k).length = n9 := ⟨_, rfl⟩
    rw [hn9] at e9
    have HN9 := Lib.hid hn9
    subst e9
    clear hn9
    have T2 := Tr.of_grown (P := fun j => j = gb) hg2 (fun j e _ => by injection e with e; exact e.symm)
    have hbk := H1.out.blk.tr T2 hgb.symm
    have y0 := hbk.frozen 0
    have y1 : w2.cell? ⟨g, 0, none⟩ = some _ := hbk.pl.z0
    have hbk3 : Blk (w2.setCell ⟨g, 0, none⟩ (.slice A9 n9 c9)) g 49 (linC (.slice A9 n9 c9) ws) := Blk.setL (l := [_, .int .i64 _, .int .i64 _, .int .i64 _, .int .i64 _, .int .i64 _]) hbk 0 (.slice A9 n9 c9)
    have hO3 := own_tr hO (Tr.setCell (P := fun j => j = g) (Tr.refl w2 _) (a := ⟨g, 0, none⟩) (fun _ => rfl) (.slice A9 n9 c9)) (fun b e q => by
      rw [hv'] at e
      injection e with e
      exact hgb (e.trans q))
    have T3 : Hid (Tr w (w2.setCell ⟨g, 0, none⟩ (.slice A9 n9 c9)) (PB g (.slice (some ⟨gb, 0, none⟩) cs.length cap))) := (T1.out.trans (T2.imp (fun j _ e => Or.inr (by rw [e]; rfl)))).setCell (a := ⟨g, 0, none⟩) (fun _ => Or.inl rfl) (.slice A9 n9 c9)
    have HO3 := Lib.hid hO3
    have HK3 := Lib.hid hbk3
    have HV := Lib.hid hv'
    clear hO hg2 T2 hbk hbk3 hO3 z0 c1 CD hv'
    go_wp2
    show Q (.returned (.tuple #[.int .i64 y.s, .int .i64 0])) _
    rw [← HQ.out]
    refine ⟨(.slice A9 n9 c9), rfl, ⟨HK3.out, HO3.out, HH.out.gb, ?_, HH.out.w4, HH.out.wr⟩, T3.out, Or.inl HV.out⟩
    rw [delL_len cs k hk]
    have := HH.out.c8
    omega
set_option maxHeartbeats 2000000 in
theorem waits_any (w : World) (base g : Nat) (v : Value) (cs : List Cn) (ws : List Int) (h : PlAt w base g v cs ws) :
    Calls Try.prog 8 #[.pointer (some ⟨g, 0, none⟩)] w fun e w' => ∃ v', e = .returned v' ∧ OwnN .i64 3 w' w.heap.size v' ws ∧ Below w.heap.size w w' := by
  obtain ⟨n, hn⟩ : ∃ n, ws.length = n := ⟨_, rfl⟩
  have hn4 : n ≤ 4 := hn ▸ h.w4
  have z5 : w.cell? ⟨g, 5, none⟩ = some (.int .i64 (ws.length : Int)) := h.blk.pl.z5
  have C := clone_own w.drew (some ⟨g, 1, none⟩) 4 ws h.drew.inn (by have := h.w4; omega)
  rw [hn] at z5 C
  have z5' : w.drew.cell? ⟨g, 5, none⟩ = some (.int .i64 (n : Int)) := z5
  have C := Lib.hid C
  have hq : (n : Int) ≤ 4 := by omega
  have HN := Lib.hid hn
  clear h z5 hn
  go_enter Try.func8, Try.ntmps8
  go_wp2
  go_region_held3 (fun w' => w'.cell? ⟨g, 5, none⟩ = some (.int .i64 (n : Int))) (first | exact z5' | assumption | exact hz5) (first | (go_at_call 26; refine C.out.mono ?_; rintro e w2 ⟨v', rfl, hO, hB⟩; have hlt : g < w.drew.heap.size := (by have := World.block_lt_of_cell? _ _ z5'; simpa using this); have hz5 : w2.cell? ⟨g, 5, none⟩ = some (.int .i64 (n : Int)) := (hB.cell (p := ⟨g, 5, none⟩) hlt).trans z5'; have HO := Lib.hid hO; have HB := Lib.hid hB; clear hO hB hlt))
  go_wp2
  go_ret
  exact ⟨v', rfl, HO.out, ⟨HB.out.os, HB.out.tape, HB.out.output, HB.out.size, HB.out.block⟩⟩
end Go.Proofs.Ytidkhekekfennaa
