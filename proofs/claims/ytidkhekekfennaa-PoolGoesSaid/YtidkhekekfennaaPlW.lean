/- Pools: Leave, Want, Clone. -/
import Derived.Test.YtidkhekekfennaaPlU
import Derived.Deep.RegionWith
import Derived.Deep.WholeRow
namespace Go.Proofs.Ytidkhekekfennaa
set_option maxRecDepth 100000
set_option linter.unusedVariables false
open Go.RowKit

theorem PlAt.below {w w1 w2 : World} {base g : Nat} {v : Value} {cs : List Cn} {ws : List Int} (h : PlAt w base g v cs ws) (k : Below w.heap.size w w1) : PlAt w1 base g v cs ws := h.keep k
theorem tr_then {w w1 w2 : World} {g : Nat} {v : Value} (h : Tr w w1 (PB g v)) {base : Nat} {R : Rs} {e : Ending} (k : Post w1 base g v R e w2) : Post w base g v R e w2 := by
  obtain ⟨v', h1, h2, h3, h4⟩ := k
  refine ⟨v', h1, h2, h.trans h3, ?_⟩
  rcases h4 with h4 | ⟨b, h4, hb⟩
  · exact Or.inl h4
  · exact Or.inr ⟨b, h4, Nat.le_trans h.size hb⟩
set_option maxHeartbeats 2000000 in
theorem pleave_any (w : World) (base g : Nat) (v : Value) (cs : List Cn) (ws : List Int) (h : PlAt w base g v cs ws) (s : Int) :
    Calls Try.prog 21 #[.pointer (some ⟨g, 0, none⟩), .int .i64 s] w (Post w base g v (leaveP cs ws s)) := by
  obtain ⟨n, hn⟩ : ∃ n, ws.length = n := ⟨_, rfl⟩
  have hn4 : n ≤ 4 := hn ▸ h.w4
  have z5 : w.cell? ⟨g, 5, none⟩ = some (.int .i64 (ws.length : Int)) := h.blk.pl.z5
  have C := ix_any w.drew (some ⟨g, 1, none⟩) 4 ws s h.drew.inn
  rw [hn] at z5 C
  have z5' : w.drew.cell? ⟨g, 5, none⟩ = some (.int .i64 (n : Int)) := z5
  have hq : (n : Int) ≤ 4 := by omega
  have e1 : ixI ws s = plI (ws.findIdx? (fun x => x == s)) := rfl
  rw [e1] at C
  have HN := Lib.hid hn
  have HH := Lib.hid h
  cases hf : ws.findIdx? (fun x => x == s) with
  | none =>
    have e0 : leaveP cs ws s = freeP cs ws s := by rw [leaveP, hf]
    rw [e0]
    obtain ⟨Q, hQ⟩ : ∃ Q, Post w base g v (freeP cs ws s) = Q := ⟨_, rfl⟩
    rw [hQ]
    have HQ := Lib.hid hQ
    rw [hf] at C
    have e2 : plI none = -1 := rfl
    rw [e2] at C
    have C := Lib.hid C
    have CF := Lib.hid (free_any w.drew base g v cs ws h.drew s)
    clear h z5 hn e1 hf e0 hQ e2
    go_enter Try.func21, Try.ntmps21
    go_wp2
    go_region_held3 (fun w' => w'.cell? ⟨g, 5, none⟩ = some (.int .i64 (n : Int))) (first | exact z5' | assumption) (first | (go_at_call 37; refine C.out.mono ?_; rintro e w2 ⟨rfl, rfl⟩))
    go_wp2_with fail
    refine CF.out.mono ?_
    rintro e w2 hp
    obtain ⟨v', rfl, h1, h2, h3⟩ := hp
    have HP : Hid (Post w base g v (freeP cs ws s) (.returned (.tuple #[.int .i64 (freeP cs ws s).r, .int .i64 (freeP cs ws s).e])) w2) := tr_then (Tr.refl w _).drew (show Post w.drew base g v (freeP cs ws s) _ w2 from ⟨v', rfl, h1, h2, h3⟩)
    clear h1 h2 h3 z5' CF
    generalize (freeP cs ws s).r = r1 at HP ⊢
    generalize (freeP cs ws s).e = r2 at HP ⊢
    go_wp2
    show Q (.returned (.tuple #[.int .i64 r1, .int .i64 r2])) _
    rw [← HQ.out]
    exact HP.out
  | some i =>
    have e0 : leaveP cs ws s = ⟨0, 0, cs, ws.eraseIdx i⟩ := by rw [leaveP, hf]
    rw [e0]
    obtain ⟨Q, hQ⟩ : ∃ Q, Post w base g v ⟨0, 0, cs, ws.eraseIdx i⟩ = Q := ⟨_, rfl⟩
    rw [hQ]
    have HQ := Lib.hid hQ
    rw [hf] at C
    have e2 : plI (some i) = (i : Int) := rfl
    rw [e2] at C
    have C := Lib.hid C
    have hi : i < ws.length := (List.findIdx?_eq_some_iff_getElem.1 hf).1
    have CL := Lib.hid (leave_any w.drew g v ws i h.drew.blk h.w4 hi)
    clear h z5 hn e1 hf e0 hQ e2 hi
    go_enter Try.func21, Try.ntmps21
    go_wp2
    go_region_held3 (fun w' => w'.cell? ⟨g, 5, none⟩ = some (.int .i64 (n : Int))) (first | exact z5' | assumption) (first | (go_at_call 37; refine C.out.mono ?_; rintro e w2 ⟨rfl, rfl⟩))
    go_wp2_with fail
    refine CL.out.mono ?_
    rintro e w2 ⟨rfl, hb2, hg2⟩
    have T2 := Tr.of_grown (P := fun j => j = g) hg2 (fun j e _ => by injection e with e; exact e.symm)
    have HP : Hid (PlAt w2 base g v cs (ws.eraseIdx i)) := (show PlAt w2 base g v cs (ws.eraseIdx i) from ⟨hb2, own_tr HH.out.drew.row T2 (fun b e q => HH.out.ne (q ▸ e)), HH.out.gb, HH.out.c8, by
      have h1 := List.length_eraseIdx_le ws i
      have h2 := HH.out.w4
      omega, fun x hx => HH.out.wr x (List.mem_of_mem_eraseIdx hx)⟩)
    have HT : Hid (Tr w w2 (PB g v)) := ((Tr.refl w _).drew).trans (T2.imp (fun j _ e => Or.inl e))
    clear hb2 hg2 T2 z5' CL
    go_wp2
    show Q (.returned (.tuple #[.int .i64 0, .int .i64 0])) _
    rw [← HQ.out]
    exact ⟨v, rfl, HP.out, HT.out, Or.inl rfl⟩
/-! ### Clone -/
theorem info_Pool : (Try.prog.info? 49).map (·.size) = some 6 := by kernel_rfl
theorem linC_one (v : Value) (ws : List Int) (hv : v.oneCell' = true) : (linC v ws).all (·.oneCell') = true := by
  have h : ∀ k n, (Value.int k n).oneCell' = true := fun _ _ => rfl
  simp [linC, plC, hv, h]
set_option maxHeartbeats 2000000 in
theorem pclone_any (w : World) (base g : Nat) (v : Value) (cs : List Cn) (ws : List Int) (h : PlAt w base g v cs ws) :
    Calls Try.prog 24 #[.pointer (some ⟨g, 0, none⟩)] w fun e w' => ∃ v', e = .returned (.pointer (some ⟨w.heap.size, 0, none⟩)) ∧ PlAt w' w.heap.size w.heap.size v' cs ws ∧ Below w.heap.size w w' := by
  obtain ⟨G, hG⟩ : ∃ G, w.heap.size = G := ⟨_, rfl⟩
  obtain ⟨A, c, hv, hin⟩ := h.ins
  have HK := Lib.hid h.blk
  have hal : Below w.heap.size w (w.alloc (.cells (linC v ws) 49)) := (Below.refl _ _).alloc (Nat.le_refl _) _
  have h1 := h.keep hal
  have hk1 : Blk (w.alloc (.cells (linC v ws) 49)) w.heap.size 49 (linC v ws) := Blk.new _ _ _
  have C := conns_any _ base g v cs ws h1
  have hsz : (w.alloc (.cells (linC v ws) 49)).heap.size = G + 1 := by simp [hG]
  have h8 := h.c8
  have h4 := h.w4
  have hwr := Lib.hid h.wr
  have hv1 : v.oneCell' = true := by rw [hv]; rfl
  have H1 := Lib.hid (linC_one v ws hv1)
  have HL := Lib.hid hal
  have HK1 := Lib.hid hk1
  have HS := Lib.hid hsz
  have C := Lib.hid C
  have HG := Lib.hid hG
  clear hal h1 hk1 hsz h hv hin hv1 hG
  go_enter Try.func24, Try.ntmps24
  go_upto_region 2 with (first | (refine wpList_load_row rfl 49 _ rfl g rfl 49 (linC v ws) HK.out _ Try.underlying49 rfl info_Pool ?_) | (refine wpList_store_row rfl 49 _ _ rfl w.heap.size (linC v ws) rfl rfl 49 _ (Blk.new w 49 _) info_Pool rfl H1.out ?_; rw [World.setRow_alloc_new]))
  rw [HG.out] at HK1 HL ⊢
  generalize (w.alloc (.cells (linC v ws) 49)) = W at C HL HK1 HS ⊢
  go_wp2_with fail
  refine C.out.mono ?_
  rintro e w1 ⟨v', rfl, hO, hB⟩
  obtain ⟨A9, c9, rfl⟩ := own_slice hO
  have hk2 := HK1.out.below hB HK1.out.lt
  have y0 := hk2.frozen 0
  have y1 : w1.cell? ⟨G, 0, none⟩ = some v := hk2.pl.z0
  obtain ⟨n9, hn9⟩ : ∃ n9, cs.length = n9 := ⟨_, rfl⟩
  rw [hn9] at hO ⊢
  have hk3 : Blk (w1.setCell ⟨G, 0, none⟩ (.slice A9 n9 c9)) G 49 (linC (.slice A9 n9 c9) ws) := Blk.setL (l := [_, .int .i64 _, .int .i64 _, .int .i64 _, .int .i64 _, .int .i64 _]) hk2 0 _
  have hlow := own_lower hO (base' := G) (by rw [HS.out]; omega)
  have hO3 := own_tr hlow (Tr.setCell (P := fun j => j = G) (Tr.refl w1 _) (a := ⟨G, 0, none⟩) (fun _ => rfl) (.slice A9 n9 c9)) (fun b e q => by
    have := (hO.lt b e).1
    rw [HS.out] at this
    omega)
  have HP : Hid (PlAt (w1.setCell ⟨G, 0, none⟩ (.slice A9 n9 c9)) G G (.slice A9 n9 c9) cs ws) := (show PlAt _ _ _ _ _ _ from ⟨hk3, hn9 ▸ hO3, Nat.le_refl _, h8, h4, hwr.out⟩)
  have HB : Hid (Below G w (w1.setCell ⟨G, 0, none⟩ (.slice A9 n9 c9))) := (HL.out.trans (hB.mono (by rw [HS.out]; omega))).setCell (p := ⟨G, 0, none⟩) (Nat.le_refl _) _
  clear hO hB hk2 hk3 hlow hO3 hn9 C h8 h4 HK1 H1 HK HL
  go_wp2
  go_ret
  rw [HG.out]
  exact ⟨_, rfl, HP.out, HB.out⟩
end Go.Proofs.Ytidkhekekfennaa
