/- Pools: the library's Insert. -/
import Derived.Test.YtidkhekekfennaaPlM
import Derived.Test.YtidkhekekfennaaSlI
import Derived.Lib.AppendZerosOnto
import Derived.Laws.NewBlocks
import Derived.Laws.Externs
import Derived.Deep.RegionLaw
namespace Go.Proofs.Ytidkhekekfennaa
set_option maxRecDepth 100000
set_option linter.unusedVariables false
set_option linter.unusedSimpArgs false
open Go.RowKit

theorem size_cn : (Try.prog.info? 38).map (·.size) = some 2 := by kernel_rfl
set_option maxHeartbeats 4000000 in
theorem cn_ins_shift (w : World) (g cap : Nat) (cur : Array Value) (l : List Cn) (n k : Nat) (x : Cn) (gb c1 : Nat) (hl : l.length = n) (hb : Blk w g 38 cur) (hsz : cur.size = cap * 2) (htk : cur.toList.take (n * 2) = l.flatMap cnC) (hcap : cap ≤ maxLen)
    (hk : k < n) (hroom : n + 1 ≤ cap) (hbx : Blk w gb 38 (cnC x).toArray) (hne : g ≠ gb) :
    Calls Try.prog 31 #[.slice (some ⟨g, 0, none⟩) n cap, .int .i64 k, .slice (some ⟨gb, 0, none⟩) 1 c1] w fun e w' => e = .returned (.slice (some ⟨g, 0, none⟩) (n + 1) cap) ∧
      (∃ cur' : Array Value, Blk w' g 38 cur' ∧ cur'.size = cap * 2 ∧ cur'.toList.take ((n + 1) * 2) = (insL l k x).flatMap cnC) ∧ w.grownBy w' (some g) := by
  have hc63 : cap ≤ 9223372036854775807 := hcap
  have hz2 : ¬ ((k : Int) = (n : Int)) := by omega
  have hov : ∀ lb cb off, (callFunc 46 #[.slice (some ⟨gb, 0, none⟩) 1 c1, .slice (some ⟨g, off, none⟩) lb cb]).run Try.prog w = .ok (.value (.bool false)) w := fun lb cb off => by
    rw [run_callFunc_extern Try.func46 (by kernel_rfl) (by kernel_rfl) (by kernel_rfl) (e := Extern.SlicesOverlaps.overlaps #[35, 35] #[4]) (by kernel_rfl),
      Lib.run_overlaps_apart w 35 4 38 Try.underlying35 2 (fun w => by kernel_rfl) ⟨gb, 0, none⟩ ⟨g, off, none⟩ 1 c1 lb cb (fun e => hne e.symm) 38 38 2 (cap * 2) (shape_blk hbx) (hsz ▸ shape_blk hb) (by omega) (hbx.frozen 0) (hbx.frozen 2)]
    rfl
  have C := ins_cells 2 n k cap cur.toList (cnC x) (by omega) (by simpa using hsz) hk hroom (cnC_len x)
  obtain ⟨C1, C2, C3, C4, C5⟩ := C
  have h1 : ∀ v ∈ cur.toList, v.oneCell' = true → True := fun _ _ _ => trivial
  have hcur1 : ∀ v ∈ (cur.toList.drop (k * 2)).take ((n - k) * 2), v.oneCell' = true := fun v hv => by
    have h2 : v ∈ l.flatMap cnC := by
      rw [← htk]
      exact drop_take_mem hv
    exact flat_one cnC_one l v h2
  have hbd := hb.drew
  have hbd2 : Blk w.drew g 38 cur.toList.toArray := by simpa using hbd
  have hcp1 : ∀ ty dc sc, (Builtin.copy_ #[35, 35] ty #[.slice (some ⟨g, (k + 1) * 2, none⟩) (n - k) dc, .slice (some ⟨g, k * 2, none⟩) (n + 1 - k) sc]).run Try.prog w.drew = .ok (goInt (Nat.min (n + 1 - k) (n - k))) (w.drew.setCells g ((k + 1) * 2) ((cur.toList.drop (k * 2)).take ((n - k) * 2))) := fun ty dc sc =>
    run_copy_rows w.drew _ _ ty 38 2 g ((k + 1) * 2) (n - k) dc ⟨g, k * 2, none⟩ (n + 1 - k) sc _ Try.underlying35 size_cn (by rw [C1]; congr 1; simp only [Nat.min_def]; split <;> omega)
      (fun j v hj => by rw [add_plain, hbd2.cell]; exact C2 j v hj) (fun j hj => by rw [hbd2.cell]; exact C3 j hj) (fun j _ => hbd2.frozen _) hcur1
  obtain ⟨W1, hW1⟩ : ∃ W1, W1 = w.drew.setCells g ((k + 1) * 2) ((cur.toList.drop (k * 2)).take ((n - k) * 2)) := ⟨_, rfl⟩
  have hb1 : Blk W1 g 38 (midL cur.toList ((k + 1) * 2) ((cur.toList.drop (k * 2)).take ((n - k) * 2))).toArray := hW1 ▸ hbd2.mid _ _
  have hbx1 : Blk W1 gb 38 (cnC x).toArray := hW1 ▸ (hbx.drew).midFar hne.symm _ _
  have hcp2 : ∀ (W : World), W.heap = W1.heap → ∀ ty dc, (Builtin.copy_ #[35, 35] ty #[.slice (some ⟨g, k * 2, none⟩) (n + 1 - k) dc, .slice (some ⟨gb, 0, none⟩) 1 c1]).run Try.prog W = .ok (goInt (Nat.min 1 (n + 1 - k))) (W.setCells g (k * 2) (cnC x)) := fun W hW ty dc => by
    have hbW := hb1.heap hW
    have hbxW := hbx1.heap hW
    exact run_copy_rows W _ _ ty 38 2 g (k * 2) (n + 1 - k) dc ⟨gb, 0, none⟩ 1 c1 (cnC x) Try.underlying35 size_cn (by rw [cnC_len]; simp only [Nat.min_def]; split <;> omega)
      (fun j v hj => by rw [add_plain, hbxW.cell]; simpa using hj) (fun j hj => by rw [hbW.cell]; exact C4 j hj) (fun j _ => hbW.frozen _) (cnC_one x)
  rw [← hW1] at hcp1
  have HFIN : Hid (∀ W : World, W.heap = (W1.setCells g (k * 2) (cnC x)).heap → W.os = W1.os → W.tape = W1.tape → W.output = W1.output → (∃ cur' : Array Value, Blk W g 38 cur' ∧ cur'.size = cap * 2 ∧ cur'.toList.take ((n + 1) * 2) = (insL l k x).flatMap cnC) ∧ w.grownBy W (some g)) := by
    show ∀ W : World, _
    intro W hW h1 h2 h3
    have hb2 := hb1.mid (cnC x) (k * 2)
    refine ⟨⟨_, hb2.heap hW, ?_, ?_⟩, ?_⟩
    · rw [List.size_toArray, midL_len, midL_len]
      simpa using hsz
    · rw [List.toList_toArray, C5, htk, insL_flat cnC_len l k x (by omega)]
    · have q1 : w.grownBy W1 (some g) := hW1 ▸ World.grownBy.trans (only_drew (World.grownBy.refl w (some g))) (mid_grown g _ _)
      have q2 : w.grownBy (W1.setCells g (k * 2) (cnC x)) (some g) := World.grownBy.trans q1 (mid_grown g _ _)
      exact ⟨h1.trans (q1.os), h2.trans q1.tape, h3.trans q1.output, by rw [hW]; exact q2.size, fun i hi hne => by rw [hW]; exact q2.block i hi hne⟩
  have hsetc : ∀ (W : World) (o : Nat) (vs : List Value), (W.setCells g o vs).os = W.os ∧ (W.setCells g o vs).tape = W.tape ∧ (W.setCells g o vs).output = W.output := fun W o vs => mid_any (fun X => X.os = W.os ∧ X.tape = W.tape ∧ X.output = W.output) ⟨rfl, rfl, rfl⟩ (fun j W' u h => h) vs o
  have HSC := Lib.hid hsetc
  have hw1 : IntKind.i64.wrap ((k : Int) + 1) = (k : Int) + 1 := by rw [IntKind.wrap_i64]; omega
  have hb1' : (0 : Int) ≤ (k : Int) + 1 := by omega
  have hin : k ≤ n := by omega
  have htn : ((k : Int) + 1).toNat = k + 1 := by omega
  have hb2 : ¬ (cap = k + 1) := by omega
  have hb3 : (k : Int) ≤ (n : Int) + 1 := by omega
  have hb4 : ¬ (cap = k) := by omega
  clear C1 C2 C3 C4 C5 h1 hcur1 hbd hbd2 hb1 hbx1 hsetc hb hbx htk hsz hl hne hW1 hcap
  go_enter Try.func31, Try.ntmps31
  go_wp2_with (simp only [hov])
  go_region_law (refine step_copy_eq rfl _ _ 35 35 rfl _ _ (by simp [Act.eval, Act.put]) (by simp [Act.eval, Act.put]) (hcp1 _ _ _) ?_)
  go_wp2_with (at_builtin; refine wpList_copy_eq _ rfl _ _ 35 35 rfl _ _ rfl rfl (hcp2 _ rfl _ _) ?_)
  go_ret
  exact ⟨rfl, HFIN.out _ rfl (HSC.out _ _ _).1 (HSC.out _ _ _).2.1 (HSC.out _ _ _).2.2⟩
set_option maxHeartbeats 4000000 in
theorem cn_ins_grow (w : World) (g cap : Nat) (cur : Array Value) (l : List Cn) (n k : Nat) (x : Cn) (gb c1 : Nat) (hl : l.length = n) (hb : Blk w g 38 cur) (hsz : cur.size = cap * 2) (htk : cur.toList.take (n * 2) = l.flatMap cnC)
    (hk : k < n) (hroom : cap < n + 1) (hnc : n ≤ cap) (hbx : Blk w gb 38 (cnC x).toArray) (hn : n ≤ 1000000) :
    Calls Try.prog 31 #[.slice (some ⟨g, 0, none⟩) n cap, .int .i64 k, .slice (some ⟨gb, 0, none⟩) 1 c1] w fun e w' => ∃ cap', e = .returned (.slice (some ⟨w.heap.size, 0, none⟩) (n + 1) cap') ∧ n + 1 ≤ cap' ∧ cap' ≤ maxLen ∧
      (∃ cur' : Array Value, Blk w' w.heap.size 38 cur' ∧ cur'.size = cap' * 2 ∧ cur'.toList.take ((n + 1) * 2) = (insL l k x).flatMap cnC) ∧ Below w.heap.size w w' := by
  have hz2 : ¬ ((k : Int) = (n : Int)) := by omega
  have hz3 : (cap : Int) < (n : Int) + 1 := by omega
  obtain ⟨i0, hi0, hz0, hzs, hzb⟩ := info_parts info_Conn
  have hkk : (n : Int) + 1 - (k : Int) = ((n + 1 - k : Nat) : Int) := by omega
  have hik : k + (n + 1 - k) = n + 1 := by omega
  have hgl := hb.lt
  have hbl := hbx.lt
  have hPl : ((l.take k).flatMap cnC).length = k * 2 := by rw [flat_len cnC_len, List.length_take]; congr 1; omega
  have hcell : ∀ (j : Nat) v, (l.flatMap cnC)[j]? = some v → w.cell? ⟨g, j, none⟩ = some v := fun j v hj => by
    rw [hb.cell]
    rw [← htk, List.getElem?_take] at hj
    split at hj
    · simpa using hj
    · cases hj
  have hold : (Builtin.firstCells i0.size k (.slice (some ⟨g, 0, none⟩) k cap)).run Try.prog w.drew = .ok ((l.take k).flatMap cnC).toArray w.drew := by
    rw [hzs]
    exact run_firstCells_some w.drew 2 k ⟨g, 0, none⟩ k cap _ hPl (fun j v hj => by
      rw [add_plain, Nat.zero_add]
      refine hcell j v ?_
      rw [← flat_take cnC_len, List.getElem?_take] at hj
      split at hj
      · exact hj
      · cases hj)
  obtain ⟨G, hG⟩ : ∃ G, G = grownCap w (n + 1) cap 38 := ⟨_, rfl⟩
  obtain ⟨Z, hZ⟩ : ∃ Z : List Value, Z = (Builtin.zeroCells (Value.agg #[.int .i64 0, .int .i64 0]).cells (n + 1 - k)).toList ++ (Builtin.zeroCells (Value.agg #[.int .i64 0, .int .i64 0]).cells (G - (n + 1))).toList := ⟨_, rfl⟩
  have hGn : n + 1 ≤ G := by rw [hG]; exact grownCap_ge w _ _ _
  have hG63 : G ≤ maxLen := by rw [hG]; exact grownCap_le_maxLen w (n + 1) cap 38 (by unfold maxLen; omega)
  have hZl : Z.length = (G - k) * 2 := by
    rw [hZ, List.length_append, Array.length_toList, Array.length_toList, size_zeroCells, size_zeroCells]
    show (n + 1 - k) * 2 + (G - (n + 1)) * 2 = _
    rw [← Nat.add_mul]
    congr 1
    omega
  have hrz : ∀ ty, (Builtin.append_ #[35, 3] ty #[.slice (some ⟨g, 0, none⟩) k cap, .int .i64 ((n : Int) + 1 - (k : Int))]).run Try.prog w =
      .ok (.slice (some ⟨w.heap.size, 0, none⟩) (n + 1) G) (w.drew.alloc (.cells ((l.take k).flatMap cnC ++ Z).toArray 38)) := fun ty => by
    have h := Lib.run_append_grow_zeros w 35 3 ty 38 i0 _ .i64 .i64 Try.underlying35 Try.underlying3 hi0 hz0 (some ⟨g, 0, none⟩) k cap _ hold (n + 1 - k) (by omega) (by omega) (by omega) (by omega) (by rw [hzb]; omega) (by rw [hzb, hik]; exact growslice_fits hroom (by omega))
    rw [hik, ← hG] at h
    rw [hkk, h, hZ]
    congr 3
    simp
  obtain ⟨ROW, hROW⟩ : ∃ ROW : List Value, ROW = (l.take k).flatMap cnC ++ Z := ⟨_, rfl⟩
  rw [← hROW] at hrz
  have hRl : ROW.length = G * 2 := by
    rw [hROW, List.length_append, hPl, hZl, ← Nat.add_mul]
    congr 1
    omega
  obtain ⟨H, hH⟩ : ∃ H, w.heap.size = H := ⟨_, rfl⟩
  have HH := Lib.hid hH
  obtain ⟨W1, hW1⟩ : ∃ W1, W1 = (w.alloc (.cells ROW.toArray 38)).drew := ⟨_, rfl⟩
  have hN1 : Blk W1 H 38 ROW.toArray := by
    rw [hW1, ← hH]
    exact Blk.new w 38 ROW.toArray
  have hO1 : Blk W1 g 38 cur := hW1 ▸ (hb.alloc _).drew
  have hX1 : Blk W1 gb 38 (cnC x).toArray := hW1 ▸ (hbx.alloc _).drew
  have hgH : H ≠ g := by omega
  have hbH : H ≠ gb := by omega
  have hB1 : Below H w W1 := by rw [hW1]; exact ((Below.refl H w).alloc (by omega) _).drew
  have hcpA : ∀ (W : World), W.heap = W1.heap → ∀ ty dc, (Builtin.copy_ #[35, 35] ty #[.slice (some ⟨H, k * 2, none⟩) (n + 1 - k) dc, .slice (some ⟨gb, 0, none⟩) 1 c1]).run Try.prog W = .ok (goInt (Nat.min 1 (n + 1 - k))) (W.setCells H (k * 2) (cnC x)) := fun W hW ty dc => by
    have hbW := hN1.heap hW
    have hbxW := hX1.heap hW
    exact run_copy_rows W _ _ ty 38 2 H (k * 2) (n + 1 - k) dc ⟨gb, 0, none⟩ 1 c1 (cnC x) Try.underlying35 size_cn (by rw [cnC_len]; simp only [Nat.min_def]; split <;> omega)
      (fun j v hj => by rw [add_plain, hbxW.cell]; simpa using hj) (fun j hj => by
        rw [hbW.cell]
        rw [cnC_len] at hj
        have : k * 2 + j < ROW.length := by rw [hRl]; omega
        simp [this]) (fun j _ => hbW.frozen _) (cnC_one x)
  have hM : (l.drop k).flatMap cnC = (l.flatMap cnC).drop (k * 2) := (flat_drop cnC_len l k).symm
  have hMl : ((l.drop k).flatMap cnC).length = (n - k) * 2 := by rw [flat_len cnC_len, List.length_drop, hl]
  have hN2 : Blk (W1.setCells H (k * 2) (cnC x)).drew H 38 (midL ROW (k * 2) (cnC x)).toArray := (hN1.mid _ _).drew
  have hO2 : Blk (W1.setCells H (k * 2) (cnC x)).drew g 38 cur := (hO1.midFar hgH.symm _ _).drew
  have hcpB : ∀ (W : World), W.heap = (W1.setCells H (k * 2) (cnC x)).drew.heap → ∀ ty dc sc, (Builtin.copy_ #[35, 35] ty #[.slice (some ⟨H, (k + 1) * 2, none⟩) (n - k) dc, .slice (some ⟨g, k * 2, none⟩) (n - k) sc]).run Try.prog W = .ok (goInt (Nat.min (n - k) (n - k))) (W.setCells H ((k + 1) * 2) ((l.drop k).flatMap cnC)) := fun W hW ty dc sc => by
    have hbW := hN2.heap hW
    have hoW := hO2.heap hW
    exact run_copy_rows W _ _ ty 38 2 H ((k + 1) * 2) (n - k) dc ⟨g, k * 2, none⟩ (n - k) sc _ Try.underlying35 size_cn (by rw [hMl]; congr 1; simp)
      (fun j v hj => by
        rw [add_plain, hoW.cell]
        rw [hM, List.getElem?_drop] at hj
        have := hcell _ v hj
        rwa [hb.cell] at this) (fun j hj => by
        rw [hbW.cell]
        rw [hMl] at hj
        have : (k + 1) * 2 + j < (midL ROW (k * 2) (cnC x)).length := by rw [midL_len, hRl]; omega
        simp [this]) (fun j _ => hbW.frozen _) (flat_one cnC_one _)
  have HFIN : Hid (∀ W : World, W.heap = ((W1.setCells H (k * 2) (cnC x)).drew.setCells H ((k + 1) * 2) ((l.drop k).flatMap cnC)).heap → W.os = (W1.setCells H (k * 2) (cnC x)).drew.os → W.tape = (W1.setCells H (k * 2) (cnC x)).drew.tape → W.output = (W1.setCells H (k * 2) (cnC x)).drew.output → (∃ cur' : Array Value, Blk W H 38 cur' ∧ cur'.size = G * 2 ∧ cur'.toList.take ((n + 1) * 2) = (insL l k x).flatMap cnC) ∧ Below H w W) := by
    show ∀ W : World, _
    intro W hW h1 h2 h3
    have hb3 := hN2.mid ((l.drop k).flatMap cnC) ((k + 1) * 2)
    refine ⟨⟨_, hb3.heap hW, ?_, ?_⟩, ?_⟩
    · rw [List.size_toArray, midL_len, midL_len, hRl]
    · have e5 : (k + 1) * 2 = ((l.take k).flatMap cnC).length + 2 := by rw [hPl]; omega
      rw [List.toList_toArray, e5, ← hPl, hROW, grow_list 2 (cnC_len x) (by rw [hMl, hZl]; omega), List.append_assoc _ _ (List.drop _ _), List.append_assoc, ← List.append_assoc, insL, List.flatMap_append, List.flatMap_cons, ← List.append_assoc]
      rw [← List.append_assoc]
      exact List.take_left' (by rw [List.length_append, List.length_append, hPl, hMl, cnC_len]; omega)
    · have q2 := mid_below ((mid_below hB1 (Nat.le_refl H) (cnC x) (k * 2)).drew) (Nat.le_refl H) ((l.drop k).flatMap cnC) ((k + 1) * 2)
      have qo := mid_any (w := (W1.setCells H (k * 2) (cnC x)).drew) (q := H) (fun X => X.os = (W1.setCells H (k * 2) (cnC x)).drew.os ∧ X.tape = (W1.setCells H (k * 2) (cnC x)).drew.tape ∧ X.output = (W1.setCells H (k * 2) (cnC x)).drew.output) ⟨rfl, rfl, rfl⟩ (fun j W' u h => h) ((l.drop k).flatMap cnC) ((k + 1) * 2)
      exact ⟨h1.trans (qo.1.symm.trans q2.os), h2.trans (qo.2.1.symm.trans q2.tape), h3.trans (qo.2.2.symm.trans q2.output), by rw [hW]; exact q2.size, fun i hi => by rw [hW]; exact q2.block i hi⟩
  have hsetc : ∀ (W : World) (o : Nat) (vs : List Value), (W.setCells H o vs).os = W.os ∧ (W.setCells H o vs).tape = W.tape ∧ (W.setCells H o vs).output = W.output := fun W o vs => mid_any (fun X => X.os = W.os ∧ X.tape = W.tape ∧ X.output = W.output) ⟨rfl, rfl, rfl⟩ (fun j W' u h => h) vs o
  have HSC := Lib.hid hsetc
  rw [hH] at hrz ⊢
  have hw1 : IntKind.i64.wrap ((k : Int) + 1) = (k : Int) + 1 := by rw [IntKind.wrap_i64]; omega
  have hb1' : (0 : Int) ≤ (k : Int) + 1 := by omega
  have hin : k ≤ n := by omega
  have htn : ((k : Int) + 1).toNat = k + 1 := by omega
  have hgi : ¬ (G = k) := by omega
  have hgim : ¬ (G = k + 1) := by omega
  have hci : ¬ (cap = k) := by omega
  have hb3 : (k : Int) ≤ (n : Int) := by omega
  have hG63' : G ≤ 9223372036854775807 := hG63
  have HGn := Lib.hid hGn
  subst hW1
  clear hkk hik hold hROW hG hRl hZ hZl hM hMl hN2 hO2 hN1 hO1 hX1 hsetc hb hbx htk hsz hl hPl hcell hB1 hH
  go_enter Try.func31, Try.ntmps31
  go_wp2_with (first
    | (at_builtin; refine Lib.wpList_append_run _ rfl _ _ _ _ rfl _ _ rfl rfl _ _ (hrz _) ?_)
    | (refine wpList_copy_eq _ rfl (.tmp 43) (.tmp 44) 35 35 rfl _ _ rfl rfl (hcpA _ rfl _ _) ?_))
  go_region_law (refine step_copy_eq rfl _ _ 35 35 rfl _ _ (by simp [Act.eval, Act.put]) (by simp [Act.eval, Act.put]) (hcpB _ rfl _ _ _) ?_)
  go_wp2
  go_ret
  exact ⟨G, rfl, HGn.out, hG63, HFIN.out _ rfl (HSC.out _ _ _).1 (HSC.out _ _ _).2.1 (HSC.out _ _ _).2.2⟩
theorem cn_reads {w : World} {gb : Nat} {x : Cn} (h : Blk w gb 38 (cnC x).toArray) : Reads w w.heap.size 2 (some ⟨gb, 0, none⟩) 1 (cnC x) :=
  ⟨by rw [cnC_len], fun _ => ⟨gb, 0, rfl, h.lt, fun j u hu => by rw [Nat.zero_add, h.cell]; simpa using hu⟩⟩
set_option maxHeartbeats 4000000 in
theorem cn_ins_end (w : World) (base : Nat) (v : Value) (l : List Cn) (n : Nat) (x : Cn) (gb c1 : Nat) (hl : l.length = n) (HO : w.ownsRow base 38 2 v n (l.flatMap cnC)) (hbase : base ≤ w.heap.size)
    (hbx : Blk w gb 38 (cnC x).toArray) (hn : n ≤ 1000000) :
    Calls Try.prog 31 #[v, .int .i64 n, .slice (some ⟨gb, 0, none⟩) 1 c1] w fun e w' => ∃ v', e = .returned v' ∧ w'.ownsRow base 38 2 v' (n + 1) ((l ++ [x]).flatMap cnC) ∧ w.grownBy w' v.ownBlock ∧ (v'.ownBlock = v.ownBlock ∨ v'.ownBlock = some w.heap.size) := by
  obtain ⟨i0, hi0, hz0, hzs, hzb⟩ := info_parts info_Conn
  have HR := Lib.hid (cn_reads hbx)
  have e1 : (l ++ [x]).flatMap cnC = l.flatMap cnC ++ cnC x := by simp
  rw [e1]
  have HOH := Lib.hid HO
  obtain ⟨A, c, rfl, hnc, hcm, _⟩ := own_open HO
  have hcm' : c ≤ 9223372036854775807 := hcm
  obtain ⟨XS, hXS⟩ : ∃ XS, l.flatMap cnC = XS := ⟨_, rfl⟩
  obtain ⟨YS, hYS⟩ : ∃ YS, cnC x = YS := ⟨_, rfl⟩
  have H1 : ∀ u ∈ YS, u.oneCell' = true := hYS ▸ cnC_one x
  rw [hXS] at HOH
  rw [hYS] at HR
  rw [hXS, hYS]
  have H1 := Lib.hid H1
  clear hbx HO hl e1 hXS hYS hcm
  obtain ⟨V, hV⟩ : ∃ V, Value.slice A n c = V := ⟨_, rfl⟩
  have HOV : Hid (w.ownsRow base 38 2 V n XS) := hV ▸ HOH
  have HV := Lib.hid hV
  rw [hV] at ⊢
  rw [← HV.out]
  clear HOH hV
  by_cases hcn : c = n
  all_goals
    rcases A with _ | ad
    all_goals
      go_enter Try.func31, Try.ntmps31
      go_wp2_with (at_builtin; refine wpList_append_any _ rfl _ _ 35 rfl base 38 i0 (Value.agg #[.int .i64 0, .int .i64 0]) 2 16 Try.underlying35 hi0 hz0 hzs hzb rfl (by omega) _ n XS rfl (HV.out.symm ▸ HOV.out) w.heap.size _ _ _ YS rfl HR.out H1.out (by unfold maxLen; omega) (by omega) hbase ?_; intro v1 w1 ho1 hg1 hat1; have HO1 := Lib.hid ho1; have HG1 := Lib.hid hg1; have HA1 := Lib.hid hat1; clear ho1 hg1 hat1)
      go_ret
      exact ⟨_, rfl, HO1.out, HG1.out, HA1.out⟩
end Go.Proofs.Ytidkhekekfennaa
