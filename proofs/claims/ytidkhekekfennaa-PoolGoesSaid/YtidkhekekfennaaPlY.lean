/- Pools: Open. -/
import Derived.Test.YtidkhekekfennaaPlX
namespace Go.Proofs.Ytidkhekekfennaa
set_option maxRecDepth 100000
set_option linter.unusedVariables false
open Go.RowKit

def openP (cs : List Cn) (ws : List Int) (t : Int) : Rs := if t < 1 ∨ 65535 < t then ⟨0, 1, cs, ws⟩ else if hasT cs t = true then ⟨0, 3, cs, ws⟩ else if 8 ≤ cs.length then ⟨0, 6, cs, ws⟩ else
  ⟨ws.headD 0, 0, insL cs (lbT cs t) ⟨t, ws.headD 0⟩, ws.tail⟩
set_option maxHeartbeats 2000000 in
theorem open_bad (w : World) (base g : Nat) (v : Value) (cs : List Cn) (ws : List Int) (h : PlAt w base g v cs ws) (hs : Srt cs) (t : Int) (ht : t < 1 ∨ 65535 < t) :
    Calls Try.prog 13 #[.pointer (some ⟨g, 0, none⟩), .int .i64 t] w (Post w base g v ⟨0, 1, cs, ws⟩) := by
  have C := at_any w base g v cs ws h hs t
  have HH := Lib.hid h
  obtain ⟨Q, hQ⟩ : ∃ Q, Post w base g v ⟨0, 1, cs, ws⟩ = Q := ⟨_, rfl⟩
  rw [hQ]
  have HQ := Lib.hid hQ
  obtain ⟨Z, hZ⟩ : ∃ Z, ((lbT cs t : Nat) : Int) = Z := ⟨_, rfl⟩
  obtain ⟨Y, hY⟩ : ∃ Y, hasT cs t = Y := ⟨_, rfl⟩
  rw [hZ, hY] at C
  have C := Lib.hid C
  clear h hQ hs hZ hY
  rcases ht with ht | ht
  all_goals
    by_cases h1 : t < 1
    all_goals
      go_enter Try.func13, Try.ntmps13
      go_wp2_with fail
      refine C.out.mono ?_
      rintro e w1 ⟨rfl, hB1⟩
      have HB := Lib.hid hB1
      clear hB1
      go_wp2
      show Q (.returned (.tuple #[.int .i64 0, .int .i64 1])) _
      rw [← HQ.out]
      exact Post.same HH.out HB.out 0 1
set_option maxHeartbeats 2000000 in
theorem open_no (w : World) (base g : Nat) (v : Value) (cs : List Cn) (ws : List Int) (h : PlAt w base g v cs ws) (hs : Srt cs) (t : Int) (h1 : 1 ≤ t) (h2 : t ≤ 65535) (hn : hasT cs t = true ∨ (hasT cs t = false ∧ 8 ≤ cs.length)) :
    Calls Try.prog 13 #[.pointer (some ⟨g, 0, none⟩), .int .i64 t] w (Post w base g v (openP cs ws t)) := by
  have C := at_any w base g v cs ws h hs t
  have HH := Lib.hid h
  obtain ⟨R, hR⟩ : ∃ R, openP cs ws t = R := ⟨_, rfl⟩
  have HR : Hid (R = if hasT cs t = true then ⟨0, 3, cs, ws⟩ else if 8 ≤ cs.length then ⟨0, 6, cs, ws⟩ else ⟨ws.headD 0, 0, insL cs (lbT cs t) ⟨t, ws.headD 0⟩, ws.tail⟩) := by
    show _ = _
    rw [← hR, openP, if_neg (by omega)]
  rw [hR]
  obtain ⟨Q, hQ⟩ : ∃ Q, Post w base g v R = Q := ⟨_, rfl⟩
  rw [hQ]
  have HQ := Lib.hid hQ
  obtain ⟨Z, hZ⟩ : ∃ Z, ((lbT cs t : Nat) : Int) = Z := ⟨_, rfl⟩
  rw [hZ] at C
  rcases hn with hn | ⟨hn, h8⟩
  · have HR2 : Hid (R = ⟨0, 3, cs, ws⟩) := by
      show _ = _
      rw [HR.out, if_pos hn]
    rw [hn] at C
    have C := Lib.hid C
    clear h hQ hs hZ hn hR HR
    go_enter Try.func13, Try.ntmps13
    go_wp2_with fail
    refine C.out.mono ?_
    rintro e w1 ⟨rfl, hB1⟩
    have HB := Lib.hid hB1
    clear hB1
    go_wp2
    show Q (.returned (.tuple #[.int .i64 0, .int .i64 3])) _
    rw [← HQ.out, HR2.out]
    exact Post.same HH.out HB.out 0 3
  · have HR2 : Hid (R = ⟨0, 6, cs, ws⟩) := by
      show _ = _
      rw [HR.out, if_neg (by rw [hn]; simp), if_pos h8]
    rw [hn] at C
    have C := Lib.hid C
    clear h hQ hs hZ hn hR HR
    go_enter Try.func13, Try.ntmps13
    go_wp2_with fail
    refine C.out.mono ?_
    rintro e w1 ⟨rfl, hB1⟩
    have hp1 := HH.out.keep hB1
    have z0 : w1.cell? ⟨g, 0, none⟩ = some v := hp1.blk.pl.z0
    obtain ⟨A, c, hv, -⟩ := hp1.ins
    obtain ⟨n, hnn⟩ : ∃ n, cs.length = n := ⟨_, rfl⟩
    have hn8 : n ≤ 8 := hnn ▸ hp1.c8
    rw [hv, hnn] at z0
    rw [hnn] at h8
    obtain rfl : n = 8 := by omega
    have HB := Lib.hid hB1
    clear hB1 hp1 hv hnn C h8 hn8
    go_wp2
    show Q (.returned (.tuple #[.int .i64 0, .int .i64 6])) _
    rw [← HQ.out, HR2.out]
    exact Post.same HH.out HB.out 0 6
set_option maxHeartbeats 4000000 in
theorem open_yes (w : World) (base g : Nat) (v : Value) (cs : List Cn) (ws : List Int) (h : PlAt w base g v cs ws) (hs : Srt cs) (t : Int) (h1 : 1 ≤ t) (h2 : t ≤ 65535) (hn : hasT cs t = false) (h8 : cs.length < 8) (hbase : base ≤ w.heap.size) :
    Calls Try.prog 13 #[.pointer (some ⟨g, 0, none⟩), .int .i64 t] w (Post w base g v ⟨ws.headD 0, 0, insL cs (lbT cs t) ⟨t, ws.headD 0⟩, ws.tail⟩) := by
  have C := at_any w base g v cs ws h hs t
  have HH := Lib.hid h
  obtain ⟨Y, hY⟩ : ∃ Y, ws.headD 0 = Y := ⟨_, rfl⟩
  obtain ⟨k, hk⟩ : ∃ k, lbT cs t = k := ⟨_, rfl⟩
  have hkl : k ≤ cs.length := hk ▸ lb_le cs t
  rw [hY, hk]
  obtain ⟨Q, hQ⟩ : ∃ Q, Post w base g v ⟨Y, 0, insL cs k ⟨t, Y⟩, ws.tail⟩ = Q := ⟨_, rfl⟩
  rw [hQ]
  have HQ := Lib.hid hQ
  have HY := Lib.hid hY
  rw [hn, hk] at C
  have C := Lib.hid C
  clear h hQ hs hn hk hY
  go_enter Try.func13, Try.ntmps13
  go_wp2_with fail
  refine C.out.mono ?_
  rintro e w1 ⟨rfl, hB1⟩
  have hp1 := HH.out.keep hB1
  have T1 := Lib.hid (Tr.of_below (P := PB g v) hB1)
  have HZ1 := Lib.hid hB1.size
  have z0 : w1.cell? ⟨g, 0, none⟩ = some v := hp1.blk.pl.z0
  obtain ⟨A, c, hv, -⟩ := hp1.ins
  obtain ⟨n, hnn⟩ : ∃ n, cs.length = n := ⟨_, rfl⟩
  rw [hv, hnn] at z0
  rw [hnn] at h8 hkl
  have HN := Lib.hid hnn
  have CF := first_any w1 base g v cs ws hp1
  rw [HY.out] at CF
  have CF := Lib.hid CF
  have HV := Lib.hid hv
  clear hB1 hp1 hv hnn C
  go_wp2_with fail
  refine CF.out.mono ?_
  rintro e w2 ⟨rfl, hp2, hg2⟩
  have T2 := Lib.hid (T1.out.trans (Tr.of_grown (P := PB g v) hg2 (fun j e _ => Or.inl (by injection e with e; exact e.symm))))
  have HZ2 := Lib.hid (Nat.le_trans HZ1.out hg2.size)
  have HP2 := Lib.hid hp2
  clear hp2 hg2 z0 CF T1 HZ1
  go_upto_region 9 with (refine wpList_store_row rfl 38 _ _ rfl w2.heap.size (cnC ⟨t, Y⟩).toArray rfl rfl 38 _ (Blk.new w2 38 _) (by kernel_rfl) rfl (by rfl) ?_; rw [World.setRow_alloc_new])
  change Code.wp _ _ _ _ (w2.alloc (.cells (cnC ⟨t, Y⟩).toArray 38))
  have hal := (Below.refl w2.heap.size w2).alloc (Nat.le_refl _) (.cells (cnC ⟨t, Y⟩).toArray 38)
  have hp3 := HP2.out.keep hal
  have hc3 : Blk (w2.alloc (.cells (cnC ⟨t, Y⟩).toArray 38)) w2.heap.size 38 (cnC ⟨t, Y⟩).toArray := Blk.new _ _ _
  have T3 := T2.out.alloc (.cells (cnC ⟨t, Y⟩).toArray 38)
  have hz3 : w.heap.size ≤ (w2.alloc (.cells (cnC ⟨t, Y⟩).toArray 38)).heap.size := T3.size
  have hvc : v.ownBlock ≠ some w2.heap.size := fun e => absurd (HP2.out.row.lt _ e).2 (Nat.lt_irrefl _)
  have hgc : g ≠ w2.heap.size := Nat.ne_of_lt HP2.out.lt
  generalize w2.heap.size = gc at hc3 hvc hgc ⊢
  generalize (w2.alloc (.cells (cnC ⟨t, Y⟩).toArray 38)) = W3 at hp3 hc3 T3 hz3 ⊢
  have z0 : W3.cell? ⟨g, 0, none⟩ = some (.slice A n c) := by
    have := hp3.blk.pl.z0
    rw [HV.out, HN.out] at this
    exact this
  have c0 : W3.cell? ⟨gc, 0, none⟩ = some (.int .i64 t) := by rw [hc3.cell]; rfl
  have c1 : W3.cell? ⟨gc, 1, none⟩ = some (.int .i64 Y) := by rw [hc3.cell]; rfl
  have hb4 : Below W3.heap.size W3 (W3.alloc (.cells #[.int .i64 t, .int .i64 Y] 38)).drew := ((Below.refl _ _).alloc (Nat.le_refl _) _).drew
  have hp4 := hp3.keep hb4
  have hx4 : Blk (W3.alloc (.cells #[.int .i64 t, .int .i64 Y] 38)).drew W3.heap.size 38 (cnC ⟨t, Y⟩).toArray := (Blk.new W3 38 #[.int .i64 t, .int .i64 Y]).drew
  have hne4 : v.ownBlock ≠ some W3.heap.size := fun e => by
    have := (hp3.row.lt _ e).2
    omega
  have hc4 := hc3.below hb4 hc3.lt
  have CI := cn_ins _ base v cs n k ⟨t, Y⟩ W3.heap.size 1 HN.out hkl (by have := hp4.row; rwa [HN.out] at this) (by have := hb4.size; omega) hx4 hne4 (by omega)
  have hv2 : v = .slice A n c := by rw [← HN.out]; exact HV.out
  rw [hv2] at CI
  have y4 := hp4.blk.pl.z0
  rw [hv2] at y4
  have y5 : (W3.alloc (.cells #[.int .i64 t, .int .i64 Y] 38)).cell? ⟨g, 0, none⟩ = some (.slice A n c) := y4
  have hgl3 : g < W3.heap.size := hp3.lt
  have T4 : Tr w (W3.alloc (.cells #[.int .i64 t, .int .i64 Y] 38)).drew (PB g v) := (T3.alloc _).drew
  have HZ4 : Hid (w.heap.size ≤ (W3.alloc (.cells #[.int .i64 t, .int .i64 Y] 38)).drew.heap.size) := Nat.le_trans hz3 hb4.size
  have CI := Lib.hid CI
  have HP4 := Lib.hid hp4
  have HT4 := Lib.hid T4
  have HV2 := Lib.hid hv2
  have HC4 := Lib.hid hc4
  have HVC := Lib.hid hvc
  have HGL : Hid (g < (W3.alloc (.cells #[.int .i64 t, .int .i64 Y] 38)).drew.heap.size) := hp4.lt
  have hkc : (0 : Int) ≤ (k : Int) := by omega
  clear hal hp3 hc3 T3 hz3 hb4 hp4 hx4 hne4 hv2 hc4 hvc T4 T2 HZ2 HP2
  go_region_law (go_simp; go_at_call 31; (with_reducible refine CI.out.mono ?_); rintro e w5 ⟨v', rfl, hO5, hg5, hv5⟩; obtain ⟨A9, c9, rfl⟩ := own_slice hO5; have hk5 := HP4.out.blk.grown hg5 (by rw [← HV2.out]; exact fun e => HP4.out.ne e.symm); have q0 := hk5.pl.z0; have q1 := hk5.frozen 0; have r1 : w5.cell? ⟨gc, 1, none⟩ = some (.int .i64 Y) := (by rw [(HC4.out.grown hg5 (by rw [← HV2.out]; exact fun e => HVC.out e.symm)).cell]; rfl); have HO5 := Lib.hid hO5; have HG5 := Lib.hid hg5; have HV5 := Lib.hid hv5; have HK5 := Lib.hid hk5; clear hO5 hg5 hv5 hk5)
  all_goals
    have hbk6 : Blk (w5.setCell ⟨g, 0, none⟩ (.slice A9 (n + 1) c9)) g 49 (linC (.slice A9 (n + 1) c9) ws.tail) := Blk.setL (l := [_, .int .i64 _, .int .i64 _, .int .i64 _, .int .i64 _, .int .i64 _]) HK5.out 0 _
    have hO6 := own_tr HO5.out (Tr.setCell (P := fun j => j = g) (Tr.refl w5 _) (a := ⟨g, 0, none⟩) (fun _ => rfl) (.slice A9 (n + 1) c9)) (fun b e q => by
      rcases HV5.out with h5 | h5
      · rw [h5, ← HV2.out] at e
        exact HP4.out.ne (q ▸ e)
      · rw [h5] at e
        injection e with e
        have := HGL.out
        omega)
    have HT6 : Hid (Tr w (w5.setCell ⟨g, 0, none⟩ (.slice A9 (n + 1) c9)) (PB g v)) := (HT4.out.trans (Tr.of_grown HG5.out (fun j e _ => Or.inr (by rw [HV2.out]; exact e)))).setCell (a := ⟨g, 0, none⟩) (fun _ => Or.inl rfl) _
    have HK6 := Lib.hid hbk6
    have HO6 := Lib.hid hO6
    clear hbk6 hO6
    go_wp2
    show Q (.returned (.tuple #[.int .i64 Y, .int .i64 0])) _
    rw [← HQ.out]
    have hlen : (insL cs k (⟨t, Y⟩ : Cn)).length = n + 1 := by rw [insL_len cs k _ (by rw [HN.out]; exact hkl), HN.out]
    refine ⟨.slice A9 (n + 1) c9, rfl, ⟨HK6.out, by rw [hlen]; exact HO6.out, HH.out.gb, by rw [hlen]; omega, HP4.out.w4, HP4.out.wr⟩, HT6.out, ?_⟩
    rcases HV5.out with h5 | h5
    · exact Or.inl (by rw [h5, HV2.out])
    · exact Or.inr ⟨_, h5, HZ4.out⟩
theorem open_any (w : World) (base g : Nat) (v : Value) (cs : List Cn) (ws : List Int) (h : PlAt w base g v cs ws) (hs : Srt cs) (t : Int) (hbase : base ≤ w.heap.size) :
    Calls Try.prog 13 #[.pointer (some ⟨g, 0, none⟩), .int .i64 t] w (Post w base g v (openP cs ws t)) := by
  by_cases ht : t < 1 ∨ 65535 < t
  · rw [openP, if_pos ht]
    exact open_bad w base g v cs ws h hs t ht
  by_cases hn : hasT cs t = true
  · exact open_no w base g v cs ws h hs t (by omega) (by omega) (Or.inl hn)
  have hn' : hasT cs t = false := by simpa using hn
  by_cases h8 : 8 ≤ cs.length
  · exact open_no w base g v cs ws h hs t (by omega) (by omega) (Or.inr ⟨hn', h8⟩)
  rw [openP, if_neg ht, if_neg hn, if_neg h8]
  exact open_yes w base g v cs ws h hs t (by omega) (by omega) hn' (by omega) hbase
end Go.Proofs.Ytidkhekekfennaa
