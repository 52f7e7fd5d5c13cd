/- What lasts in new memory: the document's Copy. -/
import Derived.Test.YtadkkhbbempaaaaHdC
namespace Go.Proofs.Ytadkkhbbempaaaa
set_option maxRecDepth 100000
open Go.RowKit

theorem Blk.set11 {w : World} {g : Nat} {T : TypeId} {v0 v1 v2 v3 v4 v5 v6 v7 v8 v9 v10 : Value} (h : Blk w g T #[v0, v1, v2, v3, v4, v5, v6, v7, v8, v9, v10]) (u0 u1 u2 u3 u4 u5 u6 u7 u8 u9 u10 : Value) :
    Blk (((((((((((w.setCell ⟨g, 0, none⟩ u0).setCell ⟨g, 1, none⟩ u1).setCell ⟨g, 2, none⟩ u2).setCell ⟨g, 3, none⟩ u3).setCell ⟨g, 4, none⟩ u4).setCell ⟨g, 5, none⟩ u5).setCell ⟨g, 6, none⟩ u6).setCell ⟨g, 7, none⟩ u7).setCell ⟨g, 8, none⟩ u8).setCell ⟨g, 9, none⟩ u9).setCell ⟨g, 10, none⟩ u10) g T #[u0, u1, u2, u3, u4, u5, u6, u7, u8, u9, u10] :=
  (((((((((((h.setL 0 u0).setL 1 u1).setL 2 u2).setL 3 u3).setL 4 u4).setL 5 u5).setL 6 u6).setL 7 u7).setL 8 u8).setL 9 u9).setL 10 u10)
theorem grown_set11 (w : World) (g : Nat) (u0 u1 u2 u3 u4 u5 u6 u7 u8 u9 u10 : Value) : w.grownBy (((((((((((w.setCell ⟨g, 0, none⟩ u0).setCell ⟨g, 1, none⟩ u1).setCell ⟨g, 2, none⟩ u2).setCell ⟨g, 3, none⟩ u3).setCell ⟨g, 4, none⟩ u4).setCell ⟨g, 5, none⟩ u5).setCell ⟨g, 6, none⟩ u6).setCell ⟨g, 7, none⟩ u7).setCell ⟨g, 8, none⟩ u8).setCell ⟨g, 9, none⟩ u9).setCell ⟨g, 10, none⟩ u10) (some g) := by
  refine only_setCell (only_setCell (only_setCell (only_setCell (only_setCell (only_setCell (only_setCell (only_setCell (only_setCell (only_setCell (only_setCell (World.grownBy.refl _ _) ?_ _) ?_ _) ?_ _) ?_ _) ?_ _) ?_ _) ?_ _) ?_ _) ?_ _) ?_ _) ?_ _
  all_goals exact .inl rfl
/-- What lasts, in the call's own memory from block base on. -/
structure OwH (w : World) (base : Nat) (h : Hb) (p : Sa) (PA : Option Addr) (PC : Nat) (xs : List Ec) : Prop where
  sh : ShIn w base p.A0 p.c0 h.sh.ns p.A1 p.c1 h.sh.hs p.A2 p.c2 h.sh.ls
  log : OwE w base PA PC xs
section
variable {w w1 : World} {base base' : Nat} {h : Hb} {p : Sa} {PA : Option Addr} {PC : Nat} {xs : List Ec}
theorem OwH.keep (k : OwH w base h p PA PC xs) (hb : Below w.heap.size w w1) : OwH w1 base h p PA PC xs := ⟨k.sh.keep hb, k.log.keep hb⟩
theorem OwH.set (k : OwH w base h p PA PC xs) {q : Addr} (hq : q.block < base) (u : Value) : OwH (w.setCell q u) base h p PA PC xs := ⟨k.sh.set hq u, k.log.set hq u⟩
theorem OwH.lower (k : OwH w base h p PA PC xs) (hb : base' ≤ base) : OwH w base' h p PA PC xs := ⟨k.sh.lower hb, k.log.lower hb⟩
theorem OwH.inh (k : OwH w base h p PA PC xs) : InH w h p PA PC xs := ⟨⟨k.sh.hn.inn, k.sh.led.hh.inn, k.sh.led.hl.inn⟩, k.log.inn⟩
end

set_option maxHeartbeats 8000000 in
theorem r13_Copy_any (w : World) (h : Hb) (p : Sa) (PA : Option Addr) (PC : Nat) (xs : List Ec) (hin : InH w h p PA PC xs) (wf : (h.hrd xs).Wf) :
    Calls Try.prog 12 #[hrdV h p PA PC xs] w fun e w' => ∃ p' PA' PC' ys, e = .returned (hrdV h p' PA' PC' ys) ∧ ys.map (·.e) = xs.map (·.e) ∧ OwH w' w.heap.size h p' PA' PC' ys ∧ Below w.heap.size w w' := by
  obtain ⟨g, hg⟩ : ∃ g, w.heap.size = g := ⟨_, rfl⟩
  rw [hg]
  obtain ⟨gr, hgr⟩ : ∃ gr, g + 1 = gr := ⟨_, rfl⟩
  have hBx : Below g w ((w.alloc (.cells (hrdC h p PA PC xs) 32)).alloc (.cells (hrdC ⟨0, 0, 0, ⟨0, 0, [], 0, 0, [], []⟩⟩ ⟨none, 0, none, 0, none, 0⟩ none 0 []) 32)) := ((Below.refl _ _).alloc (by omega) _).alloc (by simp; omega) _
  have hs1 : (w.alloc (.cells (hrdC h p PA PC xs) 32)).heap.size = gr := by simp [hg, hgr]
  have hb1 : Blk ((w.alloc (.cells (hrdC h p PA PC xs) 32)).alloc (.cells (hrdC ⟨0, 0, 0, ⟨0, 0, [], 0, 0, [], []⟩⟩ ⟨none, 0, none, 0, none, 0⟩ none 0 []) 32)) g 32 (hrdC h p PA PC xs) := (hg ▸ Blk.new w 32 (hrdC h p PA PC xs) : Blk (w.alloc (.cells (hrdC h p PA PC xs) 32)) g 32 (hrdC h p PA PC xs)).alloc _
  have hr1 : Blk ((w.alloc (.cells (hrdC h p PA PC xs) 32)).alloc (.cells (hrdC ⟨0, 0, 0, ⟨0, 0, [], 0, 0, [], []⟩⟩ ⟨none, 0, none, 0, none, 0⟩ none 0 []) 32)) gr 32 (hrdC ⟨0, 0, 0, ⟨0, 0, [], 0, 0, [], []⟩⟩ ⟨none, 0, none, 0, none, 0⟩ none 0 []) := hs1 ▸ Blk.new _ _ _
  have hz1 : ((w.alloc (.cells (hrdC h p PA PC xs) 32)).alloc (.cells (hrdC ⟨0, 0, 0, ⟨0, 0, [], 0, 0, [], []⟩⟩ ⟨none, 0, none, 0, none, 0⟩ none 0 []) 32)).heap.size = g + 2 := by simp [hg]
  have HIN := Lib.hid hin
  have C1 := fun W (k : InSh W h.sh p) => r06_Copy_any W h.sh.i h.sh.t p.A0 p.c0 h.sh.ns h.sh.lim h.sh.nxt p.A1 p.c1 h.sh.hs p.A2 p.c2 h.sh.ls k.n wf.sh.ns k.h k.l
  have C2 := fun W (k : InE W PA PC xs) => r04_Entries_any W PA PC xs k (fun x hx => (wf.log x.e (List.mem_map_of_mem hx)).l)
  unfold shV at C1
  have C1 := Lib.hid C1
  have C2 := Lib.hid C2
  clear hin wf hs1
  unfold hrdV
  go_enter Try.func12, Try.ntmps12
  go_upto_region 1 with (fail)
  change Code.wp _ _ _ _ ((w.alloc (.cells (hrdC h p PA PC xs) 32)).alloc (.cells (hrdC ⟨0, 0, 0, ⟨0, 0, [], 0, 0, [], []⟩⟩ ⟨none, 0, none, 0, none, 0⟩ none 0 []) 32))
  generalize ((w.alloc (.cells (hrdC h p PA PC xs) 32)).alloc (.cells (hrdC ⟨0, 0, 0, ⟨0, 0, [], 0, 0, [], []⟩⟩ ⟨none, 0, none, 0, none, 0⟩ none 0 []) 32)) = W at hb1 hr1 hz1 hBx ⊢
  try rw [hgr]
  have HB := Lib.hid hBx
  have X1 := Lib.hid (C1.out W (HIN.out.sh.keep (hg ▸ hBx)))
  have HZ1 := Lib.hid hz1
  have hzg : g + 2 ≤ W.heap.size := by omega
  obtain ⟨z0, z1, z2, z3, z4, z5, z6, z7, z8, z9, z10⟩ := hb1.hrd
  clear hBx hz1 C1
  go_wp2_with fail
  refine X1.out.mono ?_
  rintro e w1 ⟨A0, c0, A1, c1, A2, c2, rfl, hin1, hB1⟩
  rw [HZ1.out] at hin1
  have hb2 := hb1.below hB1 (by omega)
  have hr2 := hr1.below hB1 (by omega)
  have hzg1 : g + 2 ≤ w1.heap.size := by have := hB1.size; omega
  have HB1 := Lib.hid (HB.out.trans (hB1.mono (by omega)))
  have HI1 := Lib.hid hin1
  clear hB1 z0 z1 z2 z3 z4 z5 z6 z7 z8 z9 z10 hb1 hr1 X1 HB hin1 hzg HZ1
  obtain ⟨z0, z1, z2, z3, z4, z5, z6, z7, z8, z9, z10⟩ := hb2.hrd
  have y3 := hb2.frozen 3
  have y4 := hb2.frozen 4
  have y5 := hb2.frozen 5
  have y6 := hb2.frozen 6
  have y7 := hb2.frozen 7
  have y8 := hb2.frozen 8
  have y9 := hb2.frozen 9
  have hb3 : Blk (((((((w1.setCell ⟨g, 3, none⟩ (.int .u64 h.sh.i)).setCell ⟨g, 4, none⟩ (.int .u64 h.sh.t)).setCell ⟨g, 5, none⟩ (.slice A0 h.sh.ns.length c0)).setCell ⟨g, 6, none⟩ (.int .i64 h.sh.lim)).setCell ⟨g, 7, none⟩ (.int .u64 h.sh.nxt)).setCell ⟨g, 8, none⟩ (.slice A1 h.sh.hs.length c1)).setCell ⟨g, 9, none⟩ (.slice A2 h.sh.ls.length c2)) g 32 (hrdC h ⟨A0, c0, A1, c1, A2, c2⟩ PA PC xs) := ((((((Blk.setL (l := [Value.int .u64 h.bt, .int .u64 h.tm, .int .i64 h.vt, .int .u64 h.sh.i, .int .u64 h.sh.t, .slice p.A0 h.sh.ns.length p.c0, .int .i64 h.sh.lim, .int .u64 h.sh.nxt, .slice p.A1 h.sh.hs.length p.c1, .slice p.A2 h.sh.ls.length p.c2, .slice PA xs.length PC]) hb2 3 _).setL 4 _).setL 5 _).setL 6 _).setL 7 _).setL 8 _).setL 9 _
  have hset1 : ∀ (j : Nat) (W : World) (u : Value), Below g w W → Below g w (W.setCell ⟨g, j, none⟩ u) := fun j W u hW => hW.setCell (p := ⟨g, j, none⟩) (Nat.le_refl _) u
  have hset2 : ∀ (j : Nat) (W : World) (u : Value), ShIn W (g + 2) A0 c0 h.sh.ns A1 c1 h.sh.hs A2 c2 h.sh.ls → ShIn (W.setCell ⟨g, j, none⟩ u) (g + 2) A0 c0 h.sh.ns A1 c1 h.sh.hs A2 c2 h.sh.ls := fun j W u hW => hW.set (p := ⟨g, j, none⟩) (by show g < g + 2; omega) u
  have hset3 : ∀ (j : Nat) (W : World) (u : Value) (cs : Array Value), Blk W gr 32 cs → Blk (W.setCell ⟨g, j, none⟩ u) gr 32 cs := fun j W u cs hW => hW.far (p := ⟨g, j, none⟩) (by show gr ≠ g; omega) u
  have HB3 : Hid (Below g w (((((((w1.setCell ⟨g, 3, none⟩ (.int .u64 h.sh.i)).setCell ⟨g, 4, none⟩ (.int .u64 h.sh.t)).setCell ⟨g, 5, none⟩ (.slice A0 h.sh.ns.length c0)).setCell ⟨g, 6, none⟩ (.int .i64 h.sh.lim)).setCell ⟨g, 7, none⟩ (.int .u64 h.sh.nxt)).setCell ⟨g, 8, none⟩ (.slice A1 h.sh.hs.length c1)).setCell ⟨g, 9, none⟩ (.slice A2 h.sh.ls.length c2))) := (hset1 _ _ _ (hset1 _ _ _ (hset1 _ _ _ (hset1 _ _ _ (hset1 _ _ _ (hset1 _ _ _ (hset1 _ _ _ HB1.out)))))))
  have HI3 : Hid (ShIn (((((((w1.setCell ⟨g, 3, none⟩ (.int .u64 h.sh.i)).setCell ⟨g, 4, none⟩ (.int .u64 h.sh.t)).setCell ⟨g, 5, none⟩ (.slice A0 h.sh.ns.length c0)).setCell ⟨g, 6, none⟩ (.int .i64 h.sh.lim)).setCell ⟨g, 7, none⟩ (.int .u64 h.sh.nxt)).setCell ⟨g, 8, none⟩ (.slice A1 h.sh.hs.length c1)).setCell ⟨g, 9, none⟩ (.slice A2 h.sh.ls.length c2)) (g + 2) A0 c0 h.sh.ns A1 c1 h.sh.hs A2 c2 h.sh.ls) := (hset2 _ _ _ (hset2 _ _ _ (hset2 _ _ _ (hset2 _ _ _ (hset2 _ _ _ (hset2 _ _ _ (hset2 _ _ _ HI1.out)))))))
  have hr3 : Blk (((((((w1.setCell ⟨g, 3, none⟩ (.int .u64 h.sh.i)).setCell ⟨g, 4, none⟩ (.int .u64 h.sh.t)).setCell ⟨g, 5, none⟩ (.slice A0 h.sh.ns.length c0)).setCell ⟨g, 6, none⟩ (.int .i64 h.sh.lim)).setCell ⟨g, 7, none⟩ (.int .u64 h.sh.nxt)).setCell ⟨g, 8, none⟩ (.slice A1 h.sh.hs.length c1)).setCell ⟨g, 9, none⟩ (.slice A2 h.sh.ls.length c2)) gr 32 (hrdC ⟨0, 0, 0, ⟨0, 0, [], 0, 0, [], []⟩⟩ ⟨none, 0, none, 0, none, 0⟩ none 0 []) := hset3 _ _ _ _ (hset3 _ _ _ _ (hset3 _ _ _ _ (hset3 _ _ _ _ (hset3 _ _ _ _ (hset3 _ _ _ _ (hset3 _ _ _ _ hr2))))))
  have hz3 : g + 2 ≤ (((((((w1.setCell ⟨g, 3, none⟩ (.int .u64 h.sh.i)).setCell ⟨g, 4, none⟩ (.int .u64 h.sh.t)).setCell ⟨g, 5, none⟩ (.slice A0 h.sh.ns.length c0)).setCell ⟨g, 6, none⟩ (.int .i64 h.sh.lim)).setCell ⟨g, 7, none⟩ (.int .u64 h.sh.nxt)).setCell ⟨g, 8, none⟩ (.slice A1 h.sh.hs.length c1)).setCell ⟨g, 9, none⟩ (.slice A2 h.sh.ls.length c2)).heap.size := by simp [World.setCell]; omega
  clear hset1 hset2 hset3 HB1 HI1
  go_upto_region 2 with (fail)
  change Code.wp _ _ _ _ (((((((w1.setCell ⟨g, 3, none⟩ (.int .u64 h.sh.i)).setCell ⟨g, 4, none⟩ (.int .u64 h.sh.t)).setCell ⟨g, 5, none⟩ (.slice A0 h.sh.ns.length c0)).setCell ⟨g, 6, none⟩ (.int .i64 h.sh.lim)).setCell ⟨g, 7, none⟩ (.int .u64 h.sh.nxt)).setCell ⟨g, 8, none⟩ (.slice A1 h.sh.hs.length c1)).setCell ⟨g, 9, none⟩ (.slice A2 h.sh.ls.length c2))
  generalize (((((((w1.setCell ⟨g, 3, none⟩ (.int .u64 h.sh.i)).setCell ⟨g, 4, none⟩ (.int .u64 h.sh.t)).setCell ⟨g, 5, none⟩ (.slice A0 h.sh.ns.length c0)).setCell ⟨g, 6, none⟩ (.int .i64 h.sh.lim)).setCell ⟨g, 7, none⟩ (.int .u64 h.sh.nxt)).setCell ⟨g, 8, none⟩ (.slice A1 h.sh.hs.length c1)).setCell ⟨g, 9, none⟩ (.slice A2 h.sh.ls.length c2)) = W3 at hb3 HB3 HI3 hr3 hz3 ⊢
  clear z0 z1 z2 z3 z4 z5 z6 z7 z8 z9 z10 y3 y4 y5 y6 y7 y8 y9 hb2 hr2 hzg1
  have X2 := Lib.hid (C2.out W3 (HIN.out.log.keep (hg ▸ HB3.out)))
  have z10 := hb3.hrd.z10
  clear C2
  go_wp2_with fail
  refine X2.out.mono ?_
  rintro e w4 ⟨A9, c9, ys, rfl, hym, hin4, hB4⟩
  have hb4 := hb3.below hB4 (by omega)
  have hr4 := hr3.below hB4 (by omega)
  have HB4 := Lib.hid (HB3.out.trans (hB4.mono (by omega)))
  have hI4 : OwH w4 (g + 2) h ⟨A0, c0, A1, c1, A2, c2⟩ A9 c9 ys := ⟨HI3.out.keep hB4, hin4.lower hz3⟩
  have hzg4 : g + 2 ≤ w4.heap.size := by have := hB4.size; omega
  have HYM := Lib.hid hym
  clear hB4 z10 hb3 hr3 X2 HB3 hin4 hz3 hym HI3
  have z10 := hb4.hrd.z10
  have y10 := hb4.frozen 10
  have hb5 : Blk (w4.setCell ⟨g, 10, none⟩ (.slice A9 ys.length c9)) g 32 (hrdC h ⟨A0, c0, A1, c1, A2, c2⟩ A9 c9 ys) := Blk.setL (l := [Value.int .u64 h.bt, .int .u64 h.tm, .int .i64 h.vt, .int .u64 h.sh.i, .int .u64 h.sh.t, .slice A0 h.sh.ns.length c0, .int .i64 h.sh.lim, .int .u64 h.sh.nxt, .slice A1 h.sh.hs.length c1, .slice A2 h.sh.ls.length c2, .slice PA xs.length PC]) hb4 10 _
  have HB5 := Lib.hid (HB4.out.setCell (p := ⟨g, 10, none⟩) (Nat.le_refl _) (.slice A9 ys.length c9))
  have HI5 := Lib.hid (hI4.set (q := ⟨g, 10, none⟩) (by show g < g + 2; omega) (.slice A9 ys.length c9))
  have hr5 := hr4.far (p := ⟨g, 10, none⟩) (by show gr ≠ g; omega) (.slice A9 ys.length c9)
  clear HB4 hI4
  go_upto_region 3 with (fail)
  change Code.wp _ _ _ _ (w4.setCell ⟨g, 10, none⟩ (.slice A9 ys.length c9))
  generalize (w4.setCell ⟨g, 10, none⟩ (.slice A9 ys.length c9)) = W5 at hb5 HB5 HI5 hr5 ⊢
  clear z10 y10 hb4 hr4 hzg4
  have HR5 := Lib.hid hr5
  obtain ⟨z0, z1, z2, z3, z4, z5, z6, z7, z8, z9, z10⟩ := hb5.hrd
  obtain ⟨q0, q1, q2, q3, q4, q5, q6, q7, q8, q9, q10⟩ := hr5.hrd
  have y0 := hr5.frozen 0
  have y1 := hr5.frozen 1
  have y2 := hr5.frozen 2
  have y3 := hr5.frozen 3
  have y4 := hr5.frozen 4
  have y5 := hr5.frozen 5
  have y6 := hr5.frozen 6
  have y7 := hr5.frozen 7
  have y8 := hr5.frozen 8
  have y9 := hr5.frozen 9
  have y10 := hr5.frozen 10
  have hne : g ≠ gr := by omega
  clear hb5 hr5
  go_wp2
  have hrF := Blk.set11 HR5.out (.int .u64 h.bt) (.int .u64 h.tm) (.int .i64 h.vt) (.int .u64 h.sh.i) (.int .u64 h.sh.t) (.slice A0 h.sh.ns.length c0) (.int .i64 h.sh.lim) (.int .u64 h.sh.nxt) (.slice A1 h.sh.hs.length c1) (.slice A2 h.sh.ls.length c2) (.slice A9 ys.length c9)
  refine bodyPost_ret (results_cell1 rfl rfl (run_loadVar_row _ _ _ _ _ (0, 0) _ hrF Try.underlying32 rfl info_Hard)) rfl ?_
  have f : ∀ (j : Nat) (W : World) (u : Value), OwH W (g + 2) h ⟨A0, c0, A1, c1, A2, c2⟩ A9 c9 ys → OwH (W.setCell ⟨gr, j, none⟩ u) (g + 2) h ⟨A0, c0, A1, c1, A2, c2⟩ A9 c9 ys := fun j W u k => k.set (q := ⟨gr, j, none⟩) (by show gr < g + 2; omega) u
  have s : ∀ (j : Nat) (W : World) (u : Value), Below g w W → Below g w (W.setCell ⟨gr, j, none⟩ u) := fun j W u k => k.setCell (p := ⟨gr, j, none⟩) (by show g ≤ gr; omega) u
  exact ⟨⟨A0, c0, A1, c1, A2, c2⟩, A9, c9, ys, rfl, HYM.out, OwH.lower (f _ _ _ (f _ _ _ (f _ _ _ (f _ _ _ (f _ _ _ (f _ _ _ (f _ _ _ (f _ _ _ (f _ _ _ (f _ _ _ (f _ _ _ HI5.out))))))))))) (by omega), (s _ _ _ (s _ _ _ (s _ _ _ (s _ _ _ (s _ _ _ (s _ _ _ (s _ _ _ (s _ _ _ (s _ _ _ (s _ _ _ (s _ _ _ HB5.out)))))))))))⟩
end Go.Proofs.Ytadkkhbbempaaaa
