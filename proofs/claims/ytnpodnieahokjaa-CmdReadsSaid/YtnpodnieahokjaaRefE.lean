/- Walks over commands: the document's Decode. -/
import Derived.Test.YtnpodnieahokjaaRefD
import Derived.Test.YtnpodnieahokjaaDecW
import Derived.Test.YtnpodnieahokjaaDecL
import Derived.Test.YtnpodnieahokjaaLawCmdChecks
namespace Go.Proofs.Ytnpodnieahokjaa
open Go.RowKit

set_option maxRecDepth 100000 in
set_option maxHeartbeats 8000000 in
theorem ref_Decode_walk (w : World) (A : Option Addr) (c : Nat) (lb : List Int) (h : In8 w A c lb) :
    Calls Try.prog 17 #[.slice A lb.length c] w fun x w' => Below w.heap.size w w' ∧
      ((dE lb = 0 ∧ ∃ A' c', x = .returned (.tuple #[cmdV (dK lb).1 (dn lb).1 (dt lb).1 (.slice A' (dL lb).1.length c') (db lb).1 (dq lb).1 (ds lb).1 (dm lb).1, .int .i64 ((dm lb).2.1 : Int), .int .i64 0]) ∧ InN .i64 w' A' c' (dL lb).1) ∨
       (dE lb ≠ 0 ∧ x = .returned (.tuple #[cmdV 0 0 0 (.slice none 0 0) 0 0 0 0, .int .i64 0, .int .i64 (dE lb)]))) := by
  have HIN := Lib.hid h
  have hrg := ranges h.byt
  obtain ⟨g, hg⟩ : ∃ g, w.heap.size = g := ⟨_, rfl⟩
  rw [hg]
  obtain ⟨gr, hgr⟩ : ∃ gr, g + 1 = gr := ⟨_, rfl⟩
  have hBx : Below g w ((w.alloc (.cells (cmdCells 0 0 0 (.slice none 0 0) 0 0 0 0) 25)).alloc (.cells (rdCells A lb.length c 0 0) 57)) := ((Below.refl _ _).alloc (by omega) _).alloc (by simp; omega) _
  have hs1 : (w.alloc (.cells (cmdCells 0 0 0 (.slice none 0 0) 0 0 0 0) 25)).heap.size = gr := by simp [hg, hgr]
  have hb1 : Blk ((w.alloc (.cells (cmdCells 0 0 0 (.slice none 0 0) 0 0 0 0) 25)).alloc (.cells (rdCells A lb.length c 0 0) 57)) g 25 (cmdCells 0 0 0 (.slice none 0 0) 0 0 0 0) := (hg ▸ Blk.new w 25 (cmdCells 0 0 0 (.slice none 0 0) 0 0 0 0) : Blk (w.alloc (.cells (cmdCells 0 0 0 (.slice none 0 0) 0 0 0 0) 25)) g 25 (cmdCells 0 0 0 (.slice none 0 0) 0 0 0 0)).alloc _
  have hr1 : Blk ((w.alloc (.cells (cmdCells 0 0 0 (.slice none 0 0) 0 0 0 0) 25)).alloc (.cells (rdCells A lb.length c 0 0) 57)) gr 57 (rdCells A lb.length c 0 0) := hs1 ▸ Blk.new _ _ _
  have hz1 : ((w.alloc (.cells (cmdCells 0 0 0 (.slice none 0 0) 0 0 0 0) 25)).alloc (.cells (rdCells A lb.length c 0 0) 57)).heap.size = g + 2 := by simp [hg]
  have HDE : Hid (∀ L', ((dm lb).2.2 = 0 → L' = (dL lb).1) → dE lb = if (dm lb).2.2 = 0 then errCmd (numsOk (dK lb).1 (dn lb).1 (dt lb).1 (db lb).1 (dq lb).1 (ds lb).1 (dm lb).1 && listOk (dK lb).1 L') else (dm lb).2.2) := by
    intro L' hL'
    unfold dE
    by_cases h0 : (dm lb).2.2 = 0
    · rw [if_pos h0, if_pos h0, hL' h0, codeOk_eq _ _ _ _ _ _ _ _ (by have := hrg.b; omega) (by have := hrg.q; omega) (by have := hrg.s; omega) (by have := hrg.m; omega)]
    · rw [if_neg h0, if_neg h0]
  have hwn : (Lit.int .i64 (dn lb).1).wf = true := wf_i64_of (by have := hrg.n; omega) (by have := hrg.n; omega)
  have hwt : (Lit.int .i64 (dt lb).1).wf = true := wf_i64_of (by have := hrg.t; omega) (by have := hrg.t; omega)
  obtain ⟨E, hE⟩ : ∃ E, dE lb = E := ⟨_, rfl⟩
  rw [hE] at HDE ⊢
  have hfin := fin_eq lb
  have C1 := fun W h1 h2 => refR_Cmd W gr A c lb h1 h2
  rw [hfin] at C1
  obtain ⟨kind, hk⟩ : ∃ kind, (dK lb).1 = kind := ⟨_, rfl⟩
  obtain ⟨vn, hvn⟩ : ∃ vn, (dn lb).1 = vn := ⟨_, rfl⟩
  obtain ⟨vt, hvt⟩ : ∃ vt, (dt lb).1 = vt := ⟨_, rfl⟩
  obtain ⟨L, hL⟩ : ∃ L, (dL lb).1 = L := ⟨_, rfl⟩
  obtain ⟨vb, hvb⟩ : ∃ vb, (db lb).1 = vb := ⟨_, rfl⟩
  obtain ⟨vq, hvq⟩ : ∃ vq, (dq lb).1 = vq := ⟨_, rfl⟩
  obtain ⟨vs, hvs⟩ : ∃ vs, (ds lb).1 = vs := ⟨_, rfl⟩
  obtain ⟨vm, hvm⟩ : ∃ vm, (dm lb).1 = vm := ⟨_, rfl⟩
  obtain ⟨km, hkm⟩ : ∃ km, (dm lb).2.1 = km := ⟨_, rfl⟩
  obtain ⟨em, hem⟩ : ∃ em, (dm lb).2.2 = em := ⟨_, rfl⟩
  simp only [hk, hvn, hvt, hL, hvb, hvq, hvs, hvm, hkm, hem, cmdV] at C1 HDE hwn hwt ⊢
  have C1 := fun W h1 h2 => Lib.hid (C1 W h1 h2)
  have HI0 : Hid (∀ W0, Below g w W0 → g + 2 ≤ W0.heap.size → ∀ W, W0.grownBy W (some gr) → In8 W A c lb) := fun W0 hB hz W hW => HIN.out.keep (by rw [hg]; exact hB.grown hW (by omega) (fun i hi => by injection hi with hi; omega))
  clear hs1 h hrg hE hfin hk hvn hvt hL hvb hvq hvs hvm hkm hem
  go_enter Try.func17, Try.ntmps17
  go_upto_region 2 with (fail)
  change Code.wp _ _ _ _ ((w.alloc (.cells (cmdCells 0 0 0 (.slice none 0 0) 0 0 0 0) 25)).alloc (.cells (rdCells A lb.length c 0 0) 57))
  generalize ((w.alloc (.cells (cmdCells 0 0 0 (.slice none 0 0) 0 0 0 0) 25)).alloc (.cells (rdCells A lb.length c 0 0) 57)) = W0 at hb1 hr1 hz1 hBx ⊢
  try rw [hgr]
  have C2 := C1 W0 (HI0.out W0 hBx (by omega)) ⟨0, hr1, fun _ => rfl, by omega⟩
  clear C1 hr1
  go_wp2_with fail
  refine C2.out.mono ?_
  rintro x w1 ⟨v, L', rfl, ho1, hl1, hw1, he1, hr1, hg1⟩
  obtain ⟨A9, c9, rfl⟩ := own_slice ho1
  have hne : ∀ i, i ≠ gr → some i ≠ some gr := fun i hi hh => hi (by injection hh)
  have hb2 := hb1.grown hg1 (hne _ (by omega))
  have hB2 : Below g w w1 := hBx.grown hg1 (by omega) (fun i hi => by injection hi with hi; omega)
  have hz2 : g + 2 ≤ w1.heap.size := by have := hg1.size; omega
  rw [hz1] at ho1
  obtain ⟨gc, hgc⟩ : ∃ gc, w1.heap.size = gc := ⟨_, rfl⟩
  have hc3 : Blk (w1.alloc (.cells (cmdCells kind vn vt (.slice A9 L'.length c9) vb vq vs vm) 25)) gc 25 (cmdCells kind vn vt (.slice A9 L'.length c9) vb vq vs vm) := hgc ▸ Blk.new _ _ _
  have hb3 := hb2.alloc (.cells (cmdCells kind vn vt (.slice A9 L'.length c9) vb vq vs vm) 25)
  have hr3 : RS (w1.alloc (.cells (cmdCells kind vn vt (.slice A9 L'.length c9) vb vq vs vm) 25)) gr A c lb km em := hr1.below ((Below.refl w1.heap.size w1).alloc (Nat.le_refl _) _) hr1.lt
  have hB3 := hB2.alloc (by omega) (.cells (cmdCells kind vn vt (.slice A9 L'.length c9) vb vq vs vm) 25)
  have ho3 : OwnN .i64 3 (w1.alloc (.cells (cmdCells kind vn vt (.slice A9 L'.length c9) vb vq vs vm) 25)) (g + 2) (.slice A9 L'.length c9) L' := World.ownsRow.alloc ho1 _
  have HW1 := Lib.hid hw1
  have HE1 := Lib.hid he1
  clear hb1 hBx hz1 hb2 hB2 ho1 hr1 hg1 hw1 he1 C2
  go_upto_region 3 with (fail)
  change Code.wp _ _ _ _ (w1.alloc (.cells (cmdCells kind vn vt (.slice A9 L'.length c9) vb vq vs vm) 25))
  generalize w1.alloc (.cells (cmdCells kind vn vt (.slice A9 L'.length c9) vb vq vs vm) 25) = W3 at hc3 hb3 hr3 hB3 ho3 ⊢
  have hset : ∀ (i : Nat) (W : World) (u : Value), Below g w W → Below g w (W.setCell ⟨g, i, none⟩ u) := fun i W u hW => hW.setCell (p := ⟨g, i, none⟩) (Nat.le_refl _) u
  have HSET := Lib.hid hset
  clear hset
  have hlt1 : gr < gc := by omega
  have hn1 : gr ≠ g := by omega
  have hn2 : gc ≠ g := by omega
  have hn3 : g ≠ gr := by omega
  have hn4 : g ≠ gc := by omega
  clear hgc hz2 hne
  have HC3 := Lib.hid hc3
  have HB3 := Lib.hid hb3
  have HR3 := Lib.hid hr3
  have HBB := Lib.hid hB3
  have HO3 := Lib.hid ho3
  have r2 := hr3.cell2
  clear hc3 hr3 hB3 ho3
  have hdE := HDE.out L' HE1.out
  by_cases h0 : em = 0
  rotate_left
  · rw [if_neg h0] at hdE
    have HDX := Lib.hid hdE
    have hem : (em != 0) = true := bne_iff_ne.2 h0
    have HN := Lib.hid h0
    obtain ⟨z0, z1, z2, z3, z4, z5, z6, z7⟩ := hb3.cmd
    have y0 := hb3.frozen 0
    have y1 := hb3.frozen 1
    have y2 := hb3.frozen 2
    have y3 := hb3.frozen 3
    have y4 := hb3.frozen 4
    have y5 := hb3.frozen 5
    have y6 := hb3.frozen 6
    have y7 := hb3.frozen 7
    clear h0 hb3 hdE
    go_wp2_with fail
    go_region_held3 (fun w' => w'.cell? ⟨gr, 2, none⟩ = some (.int .i64 em)) (go_keep) (fail)
    all_goals go_wp2
    have hrF := (Blk.set8 HB3.out (.int .i64 0) (.int .i64 0) (.int .i64 0) (.slice none 0 0) (.int .u64 0) (.int .u64 0) (.int .u64 0) (.int .u64 0)).drew
    refine bodyPost_ret (results_cell3 rfl rfl (run_loadVar_row _ _ _ _ _ (0, 0) _ hrF Try.underlying25 rfl info_Cmd)) rfl ?_
    refine ⟨(HSET.out _ _ _ (HSET.out _ _ _ (HSET.out _ _ _ (HSET.out _ _ _ (HSET.out _ _ _ (HSET.out _ _ _ (HSET.out _ _ _ (HSET.out _ _ _ HBB.out)))))))).drew, .inr ⟨?_, ?_⟩⟩
    · rw [HDX.out]
      exact HN.out
    · rw [HDX.out]
      rfl
  subst h0
  rw [if_pos rfl] at hdE
  obtain rfl := HE1.out rfl
  have CC := fun W hin => (ref_Check_any W kind vn vt A9 c9 L' vb vq vs vm hin hwn hwt)
  rw [← hdE] at CC
  simp only [cmdV] at CC
  have hin3 : InN .i64 W3 A9 c9 L' := by
    obtain ⟨A8, c8, e8, h8⟩ := InN.own (k := .i64) HO3.out HW1.out (by omega)
    injection e8 with e8a _ e8c
    subst e8a e8c
    exact h8
  have CX := Lib.hid (CC W3 hin3)
  have HFAR : Hid (∀ (W : World) (i : Nat) (u : Value), InN .i64 W A9 c9 L' → InN .i64 (W.setCell ⟨g, i, none⟩ u) A9 c9 L') := fun W i u hW => InN.far (n := L'.length) hW (fun bb hbb => by
    have h1 := (World.ownsRow.lt HO3.out bb hbb).1
    show g ≠ bb
    omega) u
  have HI3 := Lib.hid hin3
  clear hin3 hdE hwn hwt CC HE1 HDE
  obtain ⟨c0, c1, c2, c3, c4, c5, c6, c7⟩ := HC3.out.cmd
  go_wp2_with fail
  refine CX.out.mono ?_
  rintro x w4 ⟨rfl, hB4⟩
  have hb4 := hb3.below hB4 hb3.lt
  have hc4 := HC3.out.below hB4 HC3.out.lt
  have hr4 := HR3.out.below hB4 HR3.out.lt
  have HBB4 := Lib.hid (HBB.out.trans (hB4.mono (Nat.le_of_lt hb3.lt)))
  have HI4 := Lib.hid (HI3.out.keep hB4)
  have HB4 := Lib.hid hb4
  obtain ⟨k', hbr, hk', hle'⟩ := hr4
  obtain rfl := hk' rfl
  obtain ⟨r0, r1, r2⟩ := hbr.rdAt
  clear c0 c1 c2 c3 c4 c5 c6 c7
  obtain ⟨c0, c1, c2, c3, c4, c5, c6, c7⟩ := hc4.cmd
  obtain ⟨z0, z1, z2, z3, z4, z5, z6, z7⟩ := hb4.cmd
  have y0 := hb4.frozen 0
  have y1 := hb4.frozen 1
  have y2 := hb4.frozen 2
  have y3 := hb4.frozen 3
  have y4 := hb4.frozen 4
  have y5 := hb4.frozen 5
  have y6 := hb4.frozen 6
  have y7 := hb4.frozen 7
  clear hb4 hc4 hb3 hB4 hk' hbr HC3 HB3 HR3 HO3 CX HI3 HBB
  cases hEE : (E != 0)
  · have HE0 : Hid (E = 0) := by
      show _ = _
      simpa using hEE
    go_wp2_with fail
    go_region_held3 (fun w' => w'.cell? ⟨gc, 0, none⟩ = some (.int .i64 kind) ∧ w'.cell? ⟨gc, 1, none⟩ = some (.int .i64 vn) ∧ w'.cell? ⟨gc, 2, none⟩ = some (.int .i64 vt) ∧ w'.cell? ⟨gc, 3, none⟩ = some (.slice A9 L'.length c9) ∧ w'.cell? ⟨gc, 4, none⟩ = some (.int .u64 vb) ∧ w'.cell? ⟨gc, 5, none⟩ = some (.int .u64 vq) ∧ w'.cell? ⟨gc, 6, none⟩ = some (.int .u64 vs) ∧ w'.cell? ⟨gc, 7, none⟩ = some (.int .u64 vm) ∧ w'.cell? ⟨gr, 1, none⟩ = some (.int .i64 (k' : Int))) (go_keep) (fail)
    all_goals go_wp2
    have hrF := (Blk.set8 HB4.out (.int .i64 kind) (.int .i64 vn) (.int .i64 vt) (.slice A9 L'.length c9) (.int .u64 vb) (.int .u64 vq) (.int .u64 vs) (.int .u64 vm)).drew
    refine bodyPost_ret (results_cell3 rfl rfl (run_loadVar_row _ _ _ _ _ (0, 0) _ hrF Try.underlying25 rfl info_Cmd)) rfl ?_
    refine ⟨(HSET.out _ _ _ (HSET.out _ _ _ (HSET.out _ _ _ (HSET.out _ _ _ (HSET.out _ _ _ (HSET.out _ _ _ (HSET.out _ _ _ (HSET.out _ _ _ HBB4.out)))))))).drew, .inl ⟨HE0.out, A9, c9, rfl, ?_⟩⟩
    exact (HFAR.out _ _ _ (HFAR.out _ _ _ (HFAR.out _ _ _ (HFAR.out _ _ _ (HFAR.out _ _ _ (HFAR.out _ _ _ (HFAR.out _ _ _ (HFAR.out _ _ _ HI4.out)))))))).keep (Below.refl _ _).drew
  · have HNE : Hid (E ≠ 0) := by
      show _ ≠ _
      simpa using hEE
    go_wp2
    have hrF := Blk.set8 HB4.out (.int .i64 0) (.int .i64 0) (.int .i64 0) (.slice none 0 0) (.int .u64 0) (.int .u64 0) (.int .u64 0) (.int .u64 0)
    refine bodyPost_ret (results_cell3 rfl rfl (run_loadVar_row _ _ _ _ _ (0, 0) _ hrF Try.underlying25 rfl info_Cmd)) rfl ?_
    refine ⟨HSET.out _ _ _ (HSET.out _ _ _ (HSET.out _ _ _ (HSET.out _ _ _ (HSET.out _ _ _ (HSET.out _ _ _ (HSET.out _ _ _ (HSET.out _ _ _ HBB4.out))))))), .inr ⟨HNE.out, rfl⟩⟩
end Go.Proofs.Ytnpodnieahokjaa
