/- Texts drawn together (6 of them): words, plain laws and walks that the row leans on. -/
import Derived.Test.YtjnkpjhggeibeaaP4
import Derived.Test.YtjnkpjhggeibeaaP5
import Derived.Deep.QuietTactic
import Derived.BigQuiet
import Derived.Deep.Draws
import Derived.Test.YtjnkpjhggeibeaaP2
import Derived.Test.YtjnkpjhggeibeaaP1
import Derived.Deep.DeepCutAuto
/- Messages: the document's Copy, Same. -/
namespace Go.Proofs.Ytjnkpjhggeibeaa
set_option maxRecDepth 100000
open Go.RowKit

def mgZ : Mb := ⟨0, 0, 0, 0, 0, 0, 0, false, ⟨0, 0, [], 0, 0, [], []⟩⟩
def mgS : Sa := ⟨none, 0, none, 0, none, 0⟩
theorem mgC_one (m : Mb) (p : Sa) (PA : Option Addr) (n PC : Nat) : (mgC m p PA n PC).all (·.oneCell') = true := by simp [mgC, Value.oneCell']
/-- A message's slices, in the call's own memory from block base on. -/
structure OwG (w : World) (base : Nat) (s : Sh) (p : Sa) (PA : Option Addr) (PC : Nat) (xs : List Ec) : Prop where
  sh : ShIn w base p.A0 p.c0 s.ns p.A1 p.c1 s.hs p.A2 p.c2 s.ls
  log : OwE w base PA PC xs
section
variable {w w1 : World} {base base' : Nat} {s : Sh} {p : Sa} {PA : Option Addr} {PC : Nat} {xs : List Ec}
theorem OwG.keep (k : OwG w base s p PA PC xs) (hb : Below w.heap.size w w1) : OwG w1 base s p PA PC xs := ⟨k.sh.keep hb, k.log.keep hb⟩
theorem OwG.set (k : OwG w base s p PA PC xs) {q : Addr} (hq : q.block < base) (u : Value) : OwG (w.setCell q u) base s p PA PC xs := ⟨k.sh.set hq u, k.log.set hq u⟩
theorem OwG.lower (k : OwG w base s p PA PC xs) (hb : base' ≤ base) : OwG w base' s p PA PC xs := ⟨k.sh.lower hb, k.log.lower hb⟩
theorem OwG.ins (k : OwG w base s p PA PC xs) : InSh w s p := ⟨k.sh.hn.inn, k.sh.led.hh.inn, k.sh.led.hl.inn⟩
end
theorem OwG.keepRow {w : World} {base : Nat} {s : Sh} {p : Sa} {PA : Option Addr} {PC : Nat} {xs : List Ec} (k : OwG w base s p PA PC xs) {q : Nat} (hq : q < base) {cs : Array Value} : OwG (w.setRow q cs) base s p PA PC xs := by
  exact ⟨k.sh.past (row_grown q cs) hq, k.log.past (row_grown q cs) hq⟩
theorem setRow_cells_below {B : Nat} {w W : World} (h : Below B w W) {q : Nat} (hq : B ≤ q) (cs : Array Value) : Below B w (W.setRow q cs) := row_below h hq cs

set_option maxHeartbeats 8000000 in
theorem r08_Copy_any (w : World) (m : Mb) (p : Sa) (PA : Option Addr) (PC : Nat) (xs : List Ec) (hin : InE w PA PC xs) (hsh : InSh w m.sh p) (wfx : ∀ x ∈ xs, x.e.Wf) (wfs : m.sh.Wf) :
    Calls Try.prog 4 #[mgV m p PA xs.length PC] w fun e w' => ∃ p' PA' PC' ys, e = .returned (mgV m p' PA' ys.length PC') ∧ ys.map (·.e) = xs.map (·.e) ∧ OwG w' w.heap.size m.sh p' PA' PC' ys ∧ Below w.heap.size w w' := by
  obtain ⟨g, hg⟩ : ∃ g, w.heap.size = g := ⟨_, rfl⟩
  rw [hg]
  obtain ⟨gr, hgr⟩ : ∃ gr, g + 1 = gr := ⟨_, rfl⟩
  have hBx : Below g w ((w.alloc (.cells (mgC m p PA xs.length PC) 32)).alloc (.cells (mgC mgZ mgS none 0 0) 32)) := ((Below.refl _ _).alloc (by omega) _).alloc (by simp; omega) _
  have hs1 : (w.alloc (.cells (mgC m p PA xs.length PC) 32)).heap.size = gr := by simp [hg, hgr]
  have hb1 : Blk ((w.alloc (.cells (mgC m p PA xs.length PC) 32)).alloc (.cells (mgC mgZ mgS none 0 0) 32)) g 32 (mgC m p PA xs.length PC) := (hg ▸ Blk.new w 32 (mgC m p PA xs.length PC) : Blk (w.alloc (.cells (mgC m p PA xs.length PC) 32)) g 32 (mgC m p PA xs.length PC)).alloc _
  have hr1 : Blk ((w.alloc (.cells (mgC m p PA xs.length PC) 32)).alloc (.cells (mgC mgZ mgS none 0 0) 32)) gr 32 (mgC mgZ mgS none 0 0) := hs1 ▸ Blk.new _ _ _
  have hz1 : ((w.alloc (.cells (mgC m p PA xs.length PC) 32)).alloc (.cells (mgC mgZ mgS none 0 0) 32)).heap.size = g + 2 := by simp [hg]
  have HIN := Lib.hid hin
  have HSH := Lib.hid hsh
  have C1 := Lib.hid (fun W (k : InE W PA PC xs) => r04_Entries_any W PA PC xs k (fun x hx => (wfx x hx).l))
  have C2 := fun W (k : InSh W m.sh p) => r06_Copy_any W m.sh.i m.sh.t p.A0 p.c0 m.sh.ns m.sh.lim m.sh.nxt p.A1 p.c1 m.sh.hs p.A2 p.c2 m.sh.ls k.n wfs.ns k.h k.l
  unfold shV at C2
  have C2 := Lib.hid C2
  clear hin hsh hs1 wfx
  unfold mgV
  go_enter Try.func4, Try.ntmps4
  go_upto_region 1 with (fail)
  change Code.wp _ _ _ _ ((w.alloc (.cells (mgC m p PA xs.length PC) 32)).alloc (.cells (mgC mgZ mgS none 0 0) 32))
  generalize ((w.alloc (.cells (mgC m p PA xs.length PC) 32)).alloc (.cells (mgC mgZ mgS none 0 0) 32)) = W at hb1 hr1 hz1 hBx ⊢
  try rw [hgr]
  have HB := Lib.hid hBx
  have X1 := Lib.hid (C1.out W (HIN.out.keep (hg ▸ hBx)))
  have HZ1 := Lib.hid hz1
  have hzg : g + 2 ≤ W.heap.size := by omega
  have z8 := hb1.mg.z8
  clear hBx hz1 C1
  go_wp2_with fail
  refine X1.out.mono ?_
  rintro e w1 ⟨QA, QC, ys, rfl, hym, hin1, hB1⟩
  rw [HZ1.out] at hin1
  have hb2 := hb1.below hB1 (by omega)
  have hr2 := hr1.below hB1 (by omega)
  have hzg1 : g + 2 ≤ w1.heap.size := by have := hB1.size; omega
  have HB1 := Lib.hid (HB.out.trans (hB1.mono (by omega)))
  have HI1 := Lib.hid hin1
  have HYM := Lib.hid hym
  clear hB1 z8 hb1 hr1 X1 HB hin1 hzg HZ1 hym
  have z8 := hb2.mg.z8
  have y8 := hb2.frozen 8
  have hb3 : Blk (w1.setCell ⟨g, 8, none⟩ (.slice QA ys.length QC)) g 32 (mgC m p QA ys.length QC) := Blk.setL (l := [Value.int .i64 m.k, .int .i64 m.fr, .int .i64 m.o, .int .u64 m.tm, .int .u64 m.ix, .int .u64 m.lt, .int .u64 m.cm, .bool m.fl, .slice PA xs.length PC, .int .u64 m.sh.i, .int .u64 m.sh.t, .slice p.A0 m.sh.ns.length p.c0, .int .i64 m.sh.lim, .int .u64 m.sh.nxt, .slice p.A1 m.sh.hs.length p.c1, .slice p.A2 m.sh.ls.length p.c2]) hb2 8 _
  have hr3 := hr2.far (p := ⟨g, 8, none⟩) (by show gr ≠ g; omega) (.slice QA ys.length QC)
  have HB3 := Lib.hid (HB1.out.setCell (p := ⟨g, 8, none⟩) (Nat.le_refl _) (.slice QA ys.length QC))
  have HI3 := Lib.hid (HI1.out.set (p := ⟨g, 8, none⟩) (by show g < g + 2; omega) (.slice QA ys.length QC))
  have hz3 : g + 2 ≤ (w1.setCell ⟨g, 8, none⟩ (.slice QA ys.length QC)).heap.size := by simpa [World.setCell] using hzg1
  clear HB1 HI1
  go_upto_region 2 with (fail)
  change Code.wp _ _ _ _ (w1.setCell ⟨g, 8, none⟩ (.slice QA ys.length QC))
  generalize (w1.setCell ⟨g, 8, none⟩ (.slice QA ys.length QC)) = W3 at hb3 HB3 HI3 hr3 hz3 ⊢
  clear z8 y8 hb2 hr2 hzg1
  have X2 := Lib.hid (C2.out W3 (HSH.out.keep (hg ▸ HB3.out)))
  obtain ⟨z0, z1, z2, z3, z4, z5, z6, z7, z8, z9, z10, z11, z12, z13, z14, z15⟩ := hb3.mg
  clear C2
  go_wp2_with fail
  refine X2.out.mono ?_
  rintro e w4 ⟨A0, c0, A1, c1, A2, c2, rfl, hin4, hB4⟩
  have hb4 := hb3.below hB4 (by omega)
  have hr4 := hr3.below hB4 (by omega)
  have HB4 := Lib.hid (HB3.out.trans (hB4.mono (by omega)))
  have hI4 : OwG w4 (g + 2) m.sh ⟨A0, c0, A1, c1, A2, c2⟩ QA QC ys := ⟨hin4.lower hz3, HI3.out.keep hB4⟩
  have hzg4 : g + 2 ≤ w4.heap.size := by have := hB4.size; omega
  clear hB4 z0 z1 z2 z3 z4 z5 z6 z7 z8 z9 z10 z11 z12 z13 z14 z15 hb3 hr3 X2 HB3 hin4 hz3 HI3
  obtain ⟨z0, z1, z2, z3, z4, z5, z6, z7, z8, z9, z10, z11, z12, z13, z14, z15⟩ := hb4.mg
  have y9 := hb4.frozen 9
  have y10 := hb4.frozen 10
  have y11 := hb4.frozen 11
  have y12 := hb4.frozen 12
  have y13 := hb4.frozen 13
  have y14 := hb4.frozen 14
  have y15 := hb4.frozen 15
  have hb5 : Blk (((((((w4.setCell ⟨g, 9, none⟩ (.int .u64 m.sh.i)).setCell ⟨g, 10, none⟩ (.int .u64 m.sh.t)).setCell ⟨g, 11, none⟩ (.slice A0 m.sh.ns.length c0)).setCell ⟨g, 12, none⟩ (.int .i64 m.sh.lim)).setCell ⟨g, 13, none⟩ (.int .u64 m.sh.nxt)).setCell ⟨g, 14, none⟩ (.slice A1 m.sh.hs.length c1)).setCell ⟨g, 15, none⟩ (.slice A2 m.sh.ls.length c2)) g 32 (mgC m ⟨A0, c0, A1, c1, A2, c2⟩ QA ys.length QC) := ((((((Blk.setL (l := [Value.int .i64 m.k, .int .i64 m.fr, .int .i64 m.o, .int .u64 m.tm, .int .u64 m.ix, .int .u64 m.lt, .int .u64 m.cm, .bool m.fl, .slice QA ys.length QC, .int .u64 m.sh.i, .int .u64 m.sh.t, .slice p.A0 m.sh.ns.length p.c0, .int .i64 m.sh.lim, .int .u64 m.sh.nxt, .slice p.A1 m.sh.hs.length p.c1, .slice p.A2 m.sh.ls.length p.c2]) hb4 9 _).setL 10 _).setL 11 _).setL 12 _).setL 13 _).setL 14 _).setL 15 _
  have f1 : ∀ (j : Nat) (W : World) (u : Value), Below g w W → Below g w (W.setCell ⟨g, j, none⟩ u) := fun j W u k => k.setCell (p := ⟨g, j, none⟩) (Nat.le_refl _) u
  have f2 : ∀ (j : Nat) (W : World) (u : Value), OwG W (g + 2) m.sh ⟨A0, c0, A1, c1, A2, c2⟩ QA QC ys → OwG (W.setCell ⟨g, j, none⟩ u) (g + 2) m.sh ⟨A0, c0, A1, c1, A2, c2⟩ QA QC ys := fun j W u k => k.set (q := ⟨g, j, none⟩) (by show g < g + 2; omega) u
  have f3 : ∀ (j : Nat) (W : World) (u : Value), Blk W gr 32 (mgC mgZ mgS none 0 0) → Blk (W.setCell ⟨g, j, none⟩ u) gr 32 (mgC mgZ mgS none 0 0) := fun j W u k => k.far (p := ⟨g, j, none⟩) (by show gr ≠ g; omega) u
  have HB5 : Hid (Below g w (((((((w4.setCell ⟨g, 9, none⟩ (.int .u64 m.sh.i)).setCell ⟨g, 10, none⟩ (.int .u64 m.sh.t)).setCell ⟨g, 11, none⟩ (.slice A0 m.sh.ns.length c0)).setCell ⟨g, 12, none⟩ (.int .i64 m.sh.lim)).setCell ⟨g, 13, none⟩ (.int .u64 m.sh.nxt)).setCell ⟨g, 14, none⟩ (.slice A1 m.sh.hs.length c1)).setCell ⟨g, 15, none⟩ (.slice A2 m.sh.ls.length c2))) := (f1 15 _ _ (f1 14 _ _ (f1 13 _ _ (f1 12 _ _ (f1 11 _ _ (f1 10 _ _ (f1 9 _ _ HB4.out)))))))
  have HI5 : Hid (OwG (((((((w4.setCell ⟨g, 9, none⟩ (.int .u64 m.sh.i)).setCell ⟨g, 10, none⟩ (.int .u64 m.sh.t)).setCell ⟨g, 11, none⟩ (.slice A0 m.sh.ns.length c0)).setCell ⟨g, 12, none⟩ (.int .i64 m.sh.lim)).setCell ⟨g, 13, none⟩ (.int .u64 m.sh.nxt)).setCell ⟨g, 14, none⟩ (.slice A1 m.sh.hs.length c1)).setCell ⟨g, 15, none⟩ (.slice A2 m.sh.ls.length c2)) (g + 2) m.sh ⟨A0, c0, A1, c1, A2, c2⟩ QA QC ys) := (f2 15 _ _ (f2 14 _ _ (f2 13 _ _ (f2 12 _ _ (f2 11 _ _ (f2 10 _ _ (f2 9 _ _ hI4)))))))
  have hr5 : Blk (((((((w4.setCell ⟨g, 9, none⟩ (.int .u64 m.sh.i)).setCell ⟨g, 10, none⟩ (.int .u64 m.sh.t)).setCell ⟨g, 11, none⟩ (.slice A0 m.sh.ns.length c0)).setCell ⟨g, 12, none⟩ (.int .i64 m.sh.lim)).setCell ⟨g, 13, none⟩ (.int .u64 m.sh.nxt)).setCell ⟨g, 14, none⟩ (.slice A1 m.sh.hs.length c1)).setCell ⟨g, 15, none⟩ (.slice A2 m.sh.ls.length c2)) gr 32 (mgC mgZ mgS none 0 0) := (f3 15 _ _ (f3 14 _ _ (f3 13 _ _ (f3 12 _ _ (f3 11 _ _ (f3 10 _ _ (f3 9 _ _ hr4)))))))
  clear f1 f2 f3 HB4 hI4
  go_upto_region 3 with (fail)
  change Code.wp _ _ _ _ (((((((w4.setCell ⟨g, 9, none⟩ (.int .u64 m.sh.i)).setCell ⟨g, 10, none⟩ (.int .u64 m.sh.t)).setCell ⟨g, 11, none⟩ (.slice A0 m.sh.ns.length c0)).setCell ⟨g, 12, none⟩ (.int .i64 m.sh.lim)).setCell ⟨g, 13, none⟩ (.int .u64 m.sh.nxt)).setCell ⟨g, 14, none⟩ (.slice A1 m.sh.hs.length c1)).setCell ⟨g, 15, none⟩ (.slice A2 m.sh.ls.length c2))
  generalize (((((((w4.setCell ⟨g, 9, none⟩ (.int .u64 m.sh.i)).setCell ⟨g, 10, none⟩ (.int .u64 m.sh.t)).setCell ⟨g, 11, none⟩ (.slice A0 m.sh.ns.length c0)).setCell ⟨g, 12, none⟩ (.int .i64 m.sh.lim)).setCell ⟨g, 13, none⟩ (.int .u64 m.sh.nxt)).setCell ⟨g, 14, none⟩ (.slice A1 m.sh.hs.length c1)).setCell ⟨g, 15, none⟩ (.slice A2 m.sh.ls.length c2)) = W5 at hb5 HB5 HI5 hr5 ⊢
  clear z0 z1 z2 z3 z4 z5 z6 z7 z8 z9 z10 z11 z12 z13 z14 z15 y9 y10 y11 y12 y13 y14 y15 hb4 hr4 hzg4
  have HR5 := Lib.hid hr5
  have HK5 := Lib.hid hb5
  have hne : g ≠ gr := by omega
  clear hb5 hr5
  go_wp2_with (first | (refine wpList_load_row rfl 32 _ rfl g rfl 32 (mgC m ⟨A0, c0, A1, c1, A2, c2⟩ QA ys.length QC) HK5.out _ Try.underlying32 rfl info_Msg ?_) | (refine wpList_store_row rfl 32 _ _ rfl gr (mgC m ⟨A0, c0, A1, c1, A2, c2⟩ QA ys.length QC) rfl rfl 32 (mgC mgZ mgS none 0 0) HR5.out info_Msg rfl (mgC_one _ _ _ _ _) ?_))
  (try simp only [Exit.inBlock, Exit.then])
  refine bodyPost_ret (results_cell1 rfl rfl (run_loadVar_row _ gr 32 32 _ (0, 0) _ (Blk.row (cs := mgC m ⟨A0, c0, A1, c1, A2, c2⟩ QA ys.length QC) HR5.out) Try.underlying32 rfl info_Msg)) rfl ?_
  exact ⟨⟨A0, c0, A1, c1, A2, c2⟩, QA, QC, ys, rfl, HYM.out, OwG.lower (OwG.keepRow HI5.out (by omega)) (by omega), row_below HB5.out (by omega) _⟩

set_option maxHeartbeats 8000000 in
theorem r08_Same_eq (w : World) (m : Mb) (p : Sa) (PA : Option Addr) (PC : Nat) (xs : List Ec) (q : Sa) (QA : Option Addr) (QC : Nat) (ys : List Ec) (h1 : InE w PA PC xs) (s1 : InSh w m.sh p) (h2 : InE w QA QC ys) (s2 : InSh w m.sh q) (he : xs.map (·.e) = ys.map (·.e)) :
    Calls Try.prog 7 #[mgV m p PA xs.length PC, mgV m q QA ys.length QC] w fun e w' => e = .returned (.bool true) ∧ Below w.heap.size w w' := by
  obtain ⟨g, hg⟩ : ∃ g, w.heap.size = g := ⟨_, rfl⟩
  rw [hg]
  obtain ⟨gr, hgr⟩ : ∃ gr, g + 1 = gr := ⟨_, rfl⟩
  have hBx : Below g w ((w.alloc (.cells (mgC m p PA xs.length PC) 32)).alloc (.cells (mgC m q QA ys.length QC) 32)) := ((Below.refl _ _).alloc (by omega) _).alloc (by simp; omega) _
  have hsz : (w.alloc (.cells (mgC m p PA xs.length PC) 32)).heap.size = gr := by simp [hg, hgr]
  have hb1 : Blk ((w.alloc (.cells (mgC m p PA xs.length PC) 32)).alloc (.cells (mgC m q QA ys.length QC) 32)) g 32 (mgC m p PA xs.length PC) := (hg ▸ Blk.new w 32 (mgC m p PA xs.length PC) : Blk (w.alloc (.cells (mgC m p PA xs.length PC) 32)) g 32 (mgC m p PA xs.length PC)).alloc _
  have hr1 : Blk ((w.alloc (.cells (mgC m p PA xs.length PC) 32)).alloc (.cells (mgC m q QA ys.length QC) 32)) gr 32 (mgC m q QA ys.length QC) := hsz ▸ Blk.new _ _ _
  have C1 := fun W (k1 : InSh W m.sh p) (k2 : InSh W m.sh q) => r06_Same_eq W m.sh.i m.sh.t p.A0 p.c0 q.A0 q.c0 m.sh.ns m.sh.lim m.sh.nxt p.A1 p.c1 q.A1 q.c1 m.sh.hs p.A2 p.c2 q.A2 q.c2 m.sh.ls k1.n k2.n k1.h k2.h k1.l k2.l
  have C2 := fun W (k1 : InE W PA PC xs) (k2 : InE W QA QC ys) => r04_SameEntries_eq W PA PC xs QA QC ys k1 k2 he
  unfold shV at C1
  have C1 := Lib.hid C1
  have C2 := Lib.hid C2
  have H1 := Lib.hid h1
  have H2 := Lib.hid h2
  have S1 := Lib.hid s1
  have S2 := Lib.hid s2
  clear hsz h1 h2 he s1 s2
  unfold mgV
  go_enter Try.func7, Try.ntmps7
  go_upto_region 1 with (fail)
  change Code.wp _ _ _ _ ((w.alloc (.cells (mgC m p PA xs.length PC) 32)).alloc (.cells (mgC m q QA ys.length QC) 32))
  generalize ((w.alloc (.cells (mgC m p PA xs.length PC) 32)).alloc (.cells (mgC m q QA ys.length QC) 32)) = W at hb1 hr1 hBx ⊢
  try rw [hgr]
  have HB := Lib.hid hBx
  obtain ⟨z0, z1, z2, z3, z4, z5, z6, z7, z8, z9, z10, z11, z12, z13, z14, z15⟩ := hb1.mg
  obtain ⟨q0, q1, q2, q3, q4, q5, q6, q7, q8, q9, q10, q11, q12, q13, q14, q15⟩ := hr1.mg
  have X2 := Lib.hid (C2.out W (H1.out.keep (hg ▸ hBx)) (H2.out.keep (hg ▸ hBx)))
  have hz1 := hb1.lt
  have hz2 := hr1.lt
  clear hBx C2
  cases hfl : m.fl
  all_goals
    rw [hfl] at z7 q7
    have HFL := Lib.hid hfl
    clear hfl
    go_wp2_with fail
    refine X2.out.mono ?_
    rintro e w1 ⟨rfl, hB1⟩
    have hb2 := hb1.below hB1 hz1
    have hr2 := hr1.below hB1 hz2
    have HB1 := Lib.hid (HB.out.trans (hB1.mono (Nat.le_of_lt hz1)))
    have X1 := Lib.hid (C1.out w1 (S1.out.keep (hg ▸ HB1.out)) (S2.out.keep (hg ▸ HB1.out)))
    have hz3 := hb2.lt
    clear hB1 hb1 hr1 z0 z1 z2 z3 z4 z5 z6 z7 z8 z9 z10 z11 z12 z13 z14 z15 q0 q1 q2 q3 q4 q5 q6 q7 q8 q9 q10 q11 q12 q13 q14 q15 X2 C1 HB
    obtain ⟨z0, z1, z2, z3, z4, z5, z6, z7, z8, z9, z10, z11, z12, z13, z14, z15⟩ := hb2.mg
    obtain ⟨q0, q1, q2, q3, q4, q5, q6, q7, q8, q9, q10, q11, q12, q13, q14, q15⟩ := hr2.mg
    clear hb2 hr2 z0 z1 z2 z3 z4 z5 z6 z7 z8 q0 q1 q2 q3 q4 q5 q6 q7 q8
    go_wp2_with fail
    refine X1.out.mono ?_
    rintro e w2 ⟨rfl, hB2⟩
    have HB2 := Lib.hid (HB1.out.trans (hB2.mono (Nat.le_of_lt hz3)))
    clear hB2 z9 z10 z11 z12 z13 z14 z15 q9 q10 q11 q12 q13 q14 q15 X1
    go_wp2
    go_ret
    exact ⟨rfl, HB2.out⟩
end Go.Proofs.Ytjnkpjhggeibeaa

/- Records: the code's may. -/
namespace Go.Proofs.Ytjnkpjhggeibeaa
set_option maxRecDepth 100000
open Go.RowKit

noncomputable instance (s : Sh) : Decidable s.Ok := inferInstanceAs (Decidable (ShotOk s.i s.t s.ns s.lim s.nxt s.hs s.ls))
/-- What the code asks, in its order. -/
noncomputable def mayB (r : Rc) : Bool :=
  !(decide (r.bt > 0) != (r.k == 1)) && (!(decide (r.tm > 0) != (r.k == 2)) && (!(decide (r.ix > 0) != (r.k == 3 || r.k == 4)) && (!decide (r.v < 0) && (!decide (r.v > 7) && (!(!(r.k == 2) && (r.v != 0)) &&
    (!((r.k == 3) && ((r.en.tm == 0) || !r.en.ok)) && (!(!(r.k == 3) && !enz r.en) && (if (r.k == 5) = true then decide r.sh.Ok else shz r.sh && (r.k == 1 || r.k == 2 || r.k == 3 || r.k == 4)))))))))
theorem rc_ext {a b : Rc} (h0 : a.k = b.k) (h1 : a.v = b.v) (h2 : a.bt = b.bt) (h3 : a.tm = b.tm) (h4 : a.ix = b.ix) (h5 : a.en = b.en) (h6 : a.sh = b.sh) : a = b := by
  cases a; cases b; simp only at h0 h1 h2 h3 h4 h5 h6; subst h0 h1 h2 h3 h4 h5 h6; rfl
theorem only_iff (r : Rc) : r.only = r ↔ ((r.k = 2 ∨ r.v = 0) ∧ (r.k = 1 ∨ r.bt = 0) ∧ (r.k = 2 ∨ r.tm = 0) ∧ (r.k = 3 ∨ r.k = 4 ∨ r.ix = 0) ∧ (r.k = 3 ∨ r.en = en0) ∧ (r.k = 5 ∨ r.sh = sh0)) := by
  constructor
  · intro h
    have h1 := congrArg Rc.v h
    have h2 := congrArg Rc.bt h
    have h3 := congrArg Rc.tm h
    have h4 := congrArg Rc.ix h
    have h5 := congrArg Rc.en h
    have h6 := congrArg Rc.sh h
    simp only [Rc.only] at h1 h2 h3 h4 h5 h6
    refine ⟨?_, ?_, ?_, ?_, ?_, ?_⟩
    · by_cases c : r.k = 2
      · exact Or.inl c
      · rw [if_neg c] at h1; exact Or.inr h1.symm
    · by_cases c : r.k = 1
      · exact Or.inl c
      · rw [if_neg c] at h2; exact Or.inr h2.symm
    · by_cases c : r.k = 2
      · exact Or.inl c
      · rw [if_neg c] at h3; exact Or.inr h3.symm
    · by_cases c : r.k = 3 ∨ r.k = 4
      · rcases c with c | c
        · exact Or.inl c
        · exact Or.inr (Or.inl c)
      · rw [if_neg c] at h4; exact Or.inr (Or.inr h4.symm)
    · by_cases c : r.k = 3
      · exact Or.inl c
      · rw [if_neg c] at h5; exact Or.inr h5.symm
    · by_cases c : r.k = 5
      · exact Or.inl c
      · rw [if_neg c] at h6; exact Or.inr h6.symm
  · rintro ⟨h1, h2, h3, h4, h5, h6⟩
    refine rc_ext rfl ?_ ?_ ?_ ?_ ?_ ?_
    · show (if r.k = 2 then r.v else 0) = r.v
      by_cases c : r.k = 2
      · rw [if_pos c]
      · rw [if_neg c]; rcases h1 with h | h
        · exact absurd h c
        · exact h.symm
    · show (if r.k = 1 then r.bt else 0) = r.bt
      by_cases c : r.k = 1
      · rw [if_pos c]
      · rw [if_neg c]; rcases h2 with h | h
        · exact absurd h c
        · exact h.symm
    · show (if r.k = 2 then r.tm else 0) = r.tm
      by_cases c : r.k = 2
      · rw [if_pos c]
      · rw [if_neg c]; rcases h3 with h | h
        · exact absurd h c
        · exact h.symm
    · show (if r.k = 3 ∨ r.k = 4 then r.ix else 0) = r.ix
      by_cases c : r.k = 3 ∨ r.k = 4
      · rw [if_pos c]
      · rw [if_neg c]; rcases h4 with h | h | h
        · exact absurd (Or.inl h) c
        · exact absurd (Or.inr h) c
        · exact h.symm
    · show (if r.k = 3 then r.en else en0) = r.en
      by_cases c : r.k = 3
      · rw [if_pos c]
      · rw [if_neg c]; rcases h5 with h | h
        · exact absurd h c
        · exact h.symm
    · show (if r.k = 5 then r.sh else sh0) = r.sh
      by_cases c : r.k = 5
      · rw [if_pos c]
      · rw [if_neg c]; rcases h6 with h | h
        · exact absurd h c
        · exact h.symm
theorem en0_tm {e : En} (h : 1 ≤ e.tm) : e ≠ en0 := by rintro rfl; exact absurd h (by decide)
theorem mayB_iff (r : Rc) (hb : 0 ≤ r.bt) (ht : 0 ≤ r.tm) (hx : 0 ≤ r.ix) (he : 0 ≤ r.en.tm) : mayB r = true ↔ r.May := by
  unfold Rc.May Rc.kind
  rw [only_iff]
  unfold mayB
  have e1 := @shz_iff r.sh
  have e2 := @enz_iff r.en
  generalize (r.sh = sh0) = P at *
  generalize (r.en = en0) = Q at *
  generalize shz r.sh = p at *
  generalize enz r.en = q at *
  generalize r.en.ok = ok at *
  generalize r.en.tm = etm at *
  generalize r.k = k at *
  generalize r.v = v at *
  generalize r.bt = bt at *
  generalize r.tm = tm at *
  generalize r.ix = ix at *
  simp only [Bool.and_eq_true, Bool.not_eq_true', bne_eq_false_iff_eq, decide_eq_false_iff_not]
  by_cases k1 : k = 1
  · subst k1
    cases p <;> cases q <;> simp_all <;> omega
  · by_cases k2 : k = 2
    · subst k2
      cases p <;> cases q <;> simp_all <;> omega
    · by_cases k3 : k = 3
      · subst k3
        cases p <;> cases ok <;> simp_all <;> omega
      · by_cases k4 : k = 4
        · subst k4
          cases p <;> cases q <;> simp_all <;> omega
        · by_cases k5 : k = 5
          · subst k5
            cases q <;> by_cases so : r.sh.Ok <;> simp_all <;> omega
          · simp [*]
theorem mayB_eq (r : Rc) (wf : r.Wf) : mayB r = decide r.May := by
  have := mayB_iff r wf.bt.1 wf.tm.1 wf.ix.1 wf.en.tm.1
  cases h : mayB r
  · rw [decide_eq_false (fun m => by rw [this.2 m] at h; exact Bool.noConfusion h)]
  · rw [decide_eq_true (this.1 h)]

end Go.Proofs.Ytjnkpjhggeibeaa

/- Records: the document's SameRec. -/
namespace Go.Proofs.Ytjnkpjhggeibeaa
set_option maxRecDepth 100000
open Go.RowKit

set_option maxHeartbeats 4000000 in
theorem r05_Same_zero (w : World) (lim nxt : Int) (A1 : Option Addr) (c1 : Nat) (A2 : Option Addr) (hn c2 : Nat) (A3 : Option Addr) (c3 : Nat) (A4 : Option Addr) (ln c4 : Nat) :
    Calls Try.prog 36 #[ledV 0 0 (.slice A1 0 c1) (.slice A3 0 c3), ledV lim nxt (.slice A2 hn c2) (.slice A4 ln c4)] w fun e w' =>
      e = .returned (.bool (lim == 0 && nxt == 0 && ((hn : Int) == 0) && ((ln : Int) == 0))) ∧ Below w.heap.size w w' := by
  obtain ⟨V, hV⟩ : ∃ V, (lim == 0 && nxt == 0 && ((hn : Int) == 0) && ((ln : Int) == 0)) = V := ⟨_, rfl⟩
  have HX := Lib.hid hV
  rw [hV]
  clear hV
  obtain ⟨g, hg⟩ : ∃ g, w.heap.size = g := ⟨_, rfl⟩
  rw [hg]
  obtain ⟨gr, hgr⟩ : ∃ gr, g + 1 = gr := ⟨_, rfl⟩
  have hBx : Below g w ((w.alloc (.cells (ledC 0 0 (.slice A1 0 c1) (.slice A3 0 c3)) 28)).alloc (.cells (ledC lim nxt (.slice A2 hn c2) (.slice A4 ln c4)) 28)) := ((Below.refl _ _).alloc (by omega) _).alloc (by simp; omega) _
  have hsz : (w.alloc (.cells (ledC 0 0 (.slice A1 0 c1) (.slice A3 0 c3)) 28)).heap.size = gr := by simp [hg, hgr]
  have hb1 : Blk ((w.alloc (.cells (ledC 0 0 (.slice A1 0 c1) (.slice A3 0 c3)) 28)).alloc (.cells (ledC lim nxt (.slice A2 hn c2) (.slice A4 ln c4)) 28)) g 28 (ledC 0 0 (.slice A1 0 c1) (.slice A3 0 c3)) := (hg ▸ Blk.new w 28 (ledC 0 0 (.slice A1 0 c1) (.slice A3 0 c3)) : Blk (w.alloc (.cells (ledC 0 0 (.slice A1 0 c1) (.slice A3 0 c3)) 28)) g 28 (ledC 0 0 (.slice A1 0 c1) (.slice A3 0 c3))).alloc _
  have hr1 : Blk ((w.alloc (.cells (ledC 0 0 (.slice A1 0 c1) (.slice A3 0 c3)) 28)).alloc (.cells (ledC lim nxt (.slice A2 hn c2) (.slice A4 ln c4)) 28)) gr 28 (ledC lim nxt (.slice A2 hn c2) (.slice A4 ln c4)) := hsz ▸ Blk.new _ _ _
  clear hsz
  unfold ledV
  go_enter Try.func36, Try.ntmps36
  go_upto_region 1 with (fail)
  change Code.wp _ _ _ _ ((w.alloc (.cells (ledC 0 0 (.slice A1 0 c1) (.slice A3 0 c3)) 28)).alloc (.cells (ledC lim nxt (.slice A2 hn c2) (.slice A4 ln c4)) 28))
  generalize ((w.alloc (.cells (ledC 0 0 (.slice A1 0 c1) (.slice A3 0 c3)) 28)).alloc (.cells (ledC lim nxt (.slice A2 hn c2) (.slice A4 ln c4)) 28)) = W at hb1 hr1 hBx ⊢
  try rw [hgr]
  have HB := Lib.hid hBx
  have hgl : g ≤ W.heap.size := Nat.le_of_lt hb1.lt
  obtain ⟨q0, q1, q2, q3⟩ := hb1.led
  obtain ⟨r0, r1, r2, r3⟩ := hr1.led
  clear hb1 hr1 hBx
  cases h0 : ((0 : Int) != lim)
  rotate_left
  · have HV : Hid (false = V) := by
      show _ = _
      rw [← HX.out]
      have k : (lim == 0) = false := by
        have := bne_iff_ne.1 h0
        exact beq_eq_false_iff_ne.2 (fun e => this e.symm)
      simp [k]
    go_wp2_with fail
    go_ret
    exact ⟨by rw [HV.out]; rfl, HB.out⟩
  cases h1 : ((0 : Int) != nxt)
  rotate_left
  · have HV : Hid (false = V) := by
      show _ = _
      rw [← HX.out]
      have k : (nxt == 0) = false := by
        have := bne_iff_ne.1 h1
        exact beq_eq_false_iff_ne.2 (fun e => this e.symm)
      simp [k]
    go_wp2_with fail
    go_ret
    exact ⟨by rw [HV.out]; rfl, HB.out⟩
  cases h2 : ((0 : Int) != (hn : Int))
  rotate_left
  · have HV : Hid (false = V) := by
      show _ = _
      rw [← HX.out]
      have k : ((hn : Int) == 0) = false := by
        have := bne_iff_ne.1 h2
        exact beq_eq_false_iff_ne.2 (fun e => this e.symm)
      simp [k]
    go_wp2_with fail
    go_ret
    exact ⟨by rw [HV.out]; rfl, HB.out⟩
  cases h3 : ((0 : Int) != (ln : Int))
  rotate_left
  · have HV : Hid (false = V) := by
      show _ = _
      rw [← HX.out]
      have k : ((ln : Int) == 0) = false := by
        have := bne_iff_ne.1 h3
        exact beq_eq_false_iff_ne.2 (fun e => this e.symm)
      simp [k]
    go_wp2_with fail
    go_ret
    exact ⟨by rw [HV.out]; rfl, HB.out⟩
  have HV : Hid (true = V) := by
    show _ = _
    rw [← HX.out]
    have k0 : lim = 0 := (bne_eq_false_iff_eq.1 h0).symm
    have k1 : nxt = 0 := (bne_eq_false_iff_eq.1 h1).symm
    have k2 : (hn : Int) = 0 := (bne_eq_false_iff_eq.1 h2).symm
    have k3 : (ln : Int) = 0 := (bne_eq_false_iff_eq.1 h3).symm
    rw [k0, k1, k2, k3]
    rfl
  go_wp2_with fail
  go_loopw [5, 40] (fun _ i wr => i = .int .i64 0 ∧ ∃ m, wr = W.drewN m) (fun _ _ _ => 0)
  case atStart => exact ⟨rfl, 0, rfl⟩
  case round =>
    obtain ⟨rfl, m, rfl⟩ := hrel
    go_wp2_with fail
    go_loopw [6, 58] (fun _ i wr => i = .int .i64 0 ∧ ∃ m, wr = W.drewN m) (fun _ _ _ => 0)
    case atStart => exact ⟨rfl, m, rfl⟩
    case round =>
      obtain ⟨rfl, m, rfl⟩ := hrel
      go_wp2
      go_ret
      exact ⟨by rw [HV.out]; rfl, below_drewN HB.out _⟩

set_option maxHeartbeats 4000000 in
theorem r06_Same_zero (w : World) (An1 : Option Addr) (cn1 : Nat) (A1 : Option Addr) (c1 : Nat) (A3 : Option Addr) (c3 : Nat) (s : Sh) (a : Sa) (hin : InN .i64 w a.A0 a.c0 s.ns) (h0 : InN .i64 w An1 cn1 []) :
    Calls Try.prog 23 #[shV 0 0 (.slice An1 0 cn1) 0 0 (.slice A1 0 c1) (.slice A3 0 c3), shtV s a] w fun e w' => e = .returned (.bool (shz s)) ∧ Below w.heap.size w w' := by
  obtain ⟨V, hV⟩ : ∃ V, shz s = V := ⟨_, rfl⟩
  have HX := Lib.hid hV
  rw [hV]
  clear hV
  obtain ⟨g, hg⟩ : ∃ g, w.heap.size = g := ⟨_, rfl⟩
  rw [hg]
  obtain ⟨gr, hgr⟩ : ∃ gr, g + 1 = gr := ⟨_, rfl⟩
  have hBx : Below g w ((w.alloc (.cells (shC 0 0 (.slice An1 0 cn1) 0 0 (.slice A1 0 c1) (.slice A3 0 c3)) 30)).alloc (.cells (shC s.i s.t (.slice a.A0 s.ns.length a.c0) s.lim s.nxt (.slice a.A1 s.hs.length a.c1) (.slice a.A2 s.ls.length a.c2)) 30)) := ((Below.refl _ _).alloc (by omega) _).alloc (by simp; omega) _
  have hsz : (w.alloc (.cells (shC 0 0 (.slice An1 0 cn1) 0 0 (.slice A1 0 c1) (.slice A3 0 c3)) 30)).heap.size = gr := by simp [hg, hgr]
  have hb1 : Blk ((w.alloc (.cells (shC 0 0 (.slice An1 0 cn1) 0 0 (.slice A1 0 c1) (.slice A3 0 c3)) 30)).alloc (.cells (shC s.i s.t (.slice a.A0 s.ns.length a.c0) s.lim s.nxt (.slice a.A1 s.hs.length a.c1) (.slice a.A2 s.ls.length a.c2)) 30)) g 30 (shC 0 0 (.slice An1 0 cn1) 0 0 (.slice A1 0 c1) (.slice A3 0 c3)) := (hg ▸ Blk.new w 30 (shC 0 0 (.slice An1 0 cn1) 0 0 (.slice A1 0 c1) (.slice A3 0 c3)) : Blk (w.alloc (.cells (shC 0 0 (.slice An1 0 cn1) 0 0 (.slice A1 0 c1) (.slice A3 0 c3)) 30)) g 30 (shC 0 0 (.slice An1 0 cn1) 0 0 (.slice A1 0 c1) (.slice A3 0 c3))).alloc _
  have hr1 : Blk ((w.alloc (.cells (shC 0 0 (.slice An1 0 cn1) 0 0 (.slice A1 0 c1) (.slice A3 0 c3)) 30)).alloc (.cells (shC s.i s.t (.slice a.A0 s.ns.length a.c0) s.lim s.nxt (.slice a.A1 s.hs.length a.c1) (.slice a.A2 s.ls.length a.c2)) 30)) gr 30 (shC s.i s.t (.slice a.A0 s.ns.length a.c0) s.lim s.nxt (.slice a.A1 s.hs.length a.c1) (.slice a.A2 s.ls.length a.c2)) := hsz ▸ Blk.new _ _ _
  clear hsz
  have H1 := Lib.hid (hin.keep (hg ▸ hBx))
  have H0 := Lib.hid (h0.keep (hg ▸ hBx))
  clear hin h0
  unfold shV shtV
  go_enter Try.func23, Try.ntmps23
  go_upto_region 1 with (fail)
  change Code.wp _ _ _ _ ((w.alloc (.cells (shC 0 0 (.slice An1 0 cn1) 0 0 (.slice A1 0 c1) (.slice A3 0 c3)) 30)).alloc (.cells (shC s.i s.t (.slice a.A0 s.ns.length a.c0) s.lim s.nxt (.slice a.A1 s.hs.length a.c1) (.slice a.A2 s.ls.length a.c2)) 30))
  generalize ((w.alloc (.cells (shC 0 0 (.slice An1 0 cn1) 0 0 (.slice A1 0 c1) (.slice A3 0 c3)) 30)).alloc (.cells (shC s.i s.t (.slice a.A0 s.ns.length a.c0) s.lim s.nxt (.slice a.A1 s.hs.length a.c1) (.slice a.A2 s.ls.length a.c2)) 30)) = W at hb1 hr1 hBx H1 H0 ⊢
  try rw [hgr]
  have HB := Lib.hid hBx
  have hgl : g ≤ W.heap.size := Nat.le_of_lt hb1.lt
  obtain ⟨q0, q1, q2, q3, q4, q5, q6⟩ := hb1.sh
  obtain ⟨r0, r1, r2, r3, r4, r5, r6⟩ := hr1.sh
  have C1 := r03_Same_any W An1 a.A0 cn1 a.c0 [] s.ns H0.out H1.out
  have C2 := fun m => r05_Same_zero (W.drewN m) s.lim s.nxt A1 c1 a.A1 s.hs.length a.c1 A3 c3 a.A2 s.ls.length a.c2
  unfold ledV at C2
  clear hb1 hr1 hBx hg
  cases h0 : ((0 : Int) == s.i)
  · have HV : Hid (false = V) := by
      show _ = _
      rw [← HX.out]
      have k : (s.i == 0) = false := beq_eq_false_iff_ne.2 (fun e => beq_eq_false_iff_ne.1 h0 e.symm)
      simp [shz, k]
    go_wp2_with fail
    go_ret
    exact ⟨by rw [HV.out]; rfl, HB.out⟩
  cases h1 : ((0 : Int) == s.t)
  · have HV : Hid (false = V) := by
      show _ = _
      rw [← HX.out]
      have k : (s.t == 0) = false := beq_eq_false_iff_ne.2 (fun e => beq_eq_false_iff_ne.1 h1 e.symm)
      simp [shz, k]
    go_wp2_with fail
    go_ret
    exact ⟨by rw [HV.out]; rfl, HB.out⟩
  have k0 : s.i = 0 := (beq_iff_eq.1 h0).symm
  have k1 : s.t = 0 := (beq_iff_eq.1 h1).symm
  cases hn : decide ([] = s.ns)
  · have HV : Hid (false = V) := by
      show _ = _
      rw [← HX.out]
      have k : ((s.ns.length : Int) == 0) = false := beq_eq_false_iff_ne.2 (fun e => of_decide_eq_false hn ((len0 _).1 e).symm)
      simp [shz, k]
    rw [hn] at C1
    have C1 := Lib.hid C1
    clear hn k0 k1
    go_wp2_with fail
    refine C1.out.mono ?_
    rintro e w1 ⟨rfl, m, rfl⟩
    go_wp2_with fail
    go_ret
    exact ⟨by rw [HV.out]; rfl, below_drewN HB.out m⟩
  have k2 : s.ns = [] := (of_decide_eq_true hn).symm
  have HV : Hid ((s.lim == 0 && s.nxt == 0 && ((s.hs.length : Int) == 0) && ((s.ls.length : Int) == 0)) = V) := by
    show _ = _
    rw [← HX.out]
    simp [shz, k0, k1, k2]
  rw [hn] at C1
  simp only [HV.out] at C2
  have C1 := Lib.hid C1
  have C2 := Lib.hid C2
  clear hn k0 k1 k2 HV
  go_wp2_with fail
  refine C1.out.mono ?_
  rintro e w1 ⟨rfl, m, rfl⟩
  go_wp2_with fail
  refine (C2.out m).mono ?_
  rintro e w2 ⟨rfl, hB2⟩
  have HB2 := Lib.hid ((below_drewN HB.out m).trans (hB2.mono hgl))
  clear hB2
  go_wp2
  go_ret
  exact ⟨rfl, HB2.out⟩
theorem r06_Same_of (w : World) (s1 s2 : Sh) (a1 a2 : Sa) (h1 : InSh w s1 a1) (h2 : InSh w s2 a2) (hz : s1 = s2 ∨ s1 = sh0) :
    Calls Try.prog 23 #[shtV s1 a1, shtV s2 a2] w fun e w' => ∃ V, e = .returned (.bool V) ∧ (V = true ↔ s1 = s2) ∧ Below w.heap.size w w' := by
  by_cases hz0 : s1 = s2
  · subst hz0
    refine (r06_Same_eq w s1.i s1.t a1.A0 a1.c0 a2.A0 a2.c0 s1.ns s1.lim s1.nxt a1.A1 a1.c1 a2.A1 a2.c1 s1.hs a1.A2 a1.c2 a2.A2 a2.c2 s1.ls h1.n h2.n h1.h h2.h h1.l h2.l).mono ?_
    rintro e w' ⟨rfl, hB⟩
    exact ⟨true, rfl, by simp, hB⟩
  · rcases hz with hz | hz
    · exact absurd hz hz0
    · subst hz
      refine (r06_Same_zero w a1.A0 a1.c0 a1.A1 a1.c1 a1.A2 a1.c2 s2 a2 h2.n h1.n).mono ?_
      rintro e w' ⟨rfl, hB⟩
      exact ⟨shz s2, rfl, by rw [shz_iff]; exact ⟨fun h => h.symm, fun h => h.symm⟩, hB⟩
end Go.Proofs.Ytjnkpjhggeibeaa

/- Messages: the document's Same of a snapshot with the zero one. -/
namespace Go.Proofs.Ytjnkpjhggeibeaa
set_option maxRecDepth 100000
open Go.RowKit

set_option maxHeartbeats 4000000 in
theorem r05_Same_zer2 (w : World) (lim nxt : Int) (A1 : Option Addr) (c1 : Nat) (A2 : Option Addr) (hn c2 : Nat) (A3 : Option Addr) (c3 : Nat) (A4 : Option Addr) (ln c4 : Nat) :
    Calls Try.prog 36 #[ledV lim nxt (.slice A2 hn c2) (.slice A4 ln c4), ledV 0 0 (.slice A1 0 c1) (.slice A3 0 c3)] w fun e w' =>
      e = .returned (.bool (lim == 0 && nxt == 0 && ((hn : Int) == 0) && ((ln : Int) == 0))) ∧ Below w.heap.size w w' := by
  obtain ⟨V, hV⟩ : ∃ V, (lim == 0 && nxt == 0 && ((hn : Int) == 0) && ((ln : Int) == 0)) = V := ⟨_, rfl⟩
  have HX := Lib.hid hV
  rw [hV]
  clear hV
  obtain ⟨g, hg⟩ : ∃ g, w.heap.size = g := ⟨_, rfl⟩
  rw [hg]
  obtain ⟨gr, hgr⟩ : ∃ gr, g + 1 = gr := ⟨_, rfl⟩
  have hBx : Below g w ((w.alloc (.cells (ledC lim nxt (.slice A2 hn c2) (.slice A4 ln c4)) 28)).alloc (.cells (ledC 0 0 (.slice A1 0 c1) (.slice A3 0 c3)) 28)) := ((Below.refl _ _).alloc (by omega) _).alloc (by simp; omega) _
  have hsz : (w.alloc (.cells (ledC lim nxt (.slice A2 hn c2) (.slice A4 ln c4)) 28)).heap.size = gr := by simp [hg, hgr]
  have hb1 : Blk ((w.alloc (.cells (ledC lim nxt (.slice A2 hn c2) (.slice A4 ln c4)) 28)).alloc (.cells (ledC 0 0 (.slice A1 0 c1) (.slice A3 0 c3)) 28)) g 28 (ledC lim nxt (.slice A2 hn c2) (.slice A4 ln c4)) := (hg ▸ Blk.new w 28 (ledC lim nxt (.slice A2 hn c2) (.slice A4 ln c4)) : Blk (w.alloc (.cells (ledC lim nxt (.slice A2 hn c2) (.slice A4 ln c4)) 28)) g 28 (ledC lim nxt (.slice A2 hn c2) (.slice A4 ln c4))).alloc _
  have hr1 : Blk ((w.alloc (.cells (ledC lim nxt (.slice A2 hn c2) (.slice A4 ln c4)) 28)).alloc (.cells (ledC 0 0 (.slice A1 0 c1) (.slice A3 0 c3)) 28)) gr 28 (ledC 0 0 (.slice A1 0 c1) (.slice A3 0 c3)) := hsz ▸ Blk.new _ _ _
  clear hsz
  unfold ledV
  go_enter Try.func36, Try.ntmps36
  go_upto_region 1 with (fail)
  change Code.wp _ _ _ _ ((w.alloc (.cells (ledC lim nxt (.slice A2 hn c2) (.slice A4 ln c4)) 28)).alloc (.cells (ledC 0 0 (.slice A1 0 c1) (.slice A3 0 c3)) 28))
  generalize ((w.alloc (.cells (ledC lim nxt (.slice A2 hn c2) (.slice A4 ln c4)) 28)).alloc (.cells (ledC 0 0 (.slice A1 0 c1) (.slice A3 0 c3)) 28)) = W at hb1 hr1 hBx ⊢
  try rw [hgr]
  have HB := Lib.hid hBx
  have hgl : g ≤ W.heap.size := Nat.le_of_lt hb1.lt
  obtain ⟨q0, q1, q2, q3⟩ := hb1.led
  obtain ⟨r0, r1, r2, r3⟩ := hr1.led
  clear hb1 hr1 hBx
  cases h0 : (lim != 0)
  rotate_left
  · have HV : Hid (false = V) := by
      show _ = _
      rw [← HX.out]
      have k : (lim == 0) = false := by
        have := bne_iff_ne.1 h0
        exact beq_eq_false_iff_ne.2 (fun e => this e)
      simp [k]
    go_wp2_with fail
    go_ret
    exact ⟨by rw [HV.out]; rfl, HB.out⟩
  cases h1 : (nxt != 0)
  rotate_left
  · have HV : Hid (false = V) := by
      show _ = _
      rw [← HX.out]
      have k : (nxt == 0) = false := by
        have := bne_iff_ne.1 h1
        exact beq_eq_false_iff_ne.2 (fun e => this e)
      simp [k]
    go_wp2_with fail
    go_ret
    exact ⟨by rw [HV.out]; rfl, HB.out⟩
  cases h2 : ((hn : Int) != 0)
  rotate_left
  · have HV : Hid (false = V) := by
      show _ = _
      rw [← HX.out]
      have k : ((hn : Int) == 0) = false := by
        have := bne_iff_ne.1 h2
        exact beq_eq_false_iff_ne.2 (fun e => this e)
      simp [k]
    go_wp2_with fail
    go_ret
    exact ⟨by rw [HV.out]; rfl, HB.out⟩
  cases h3 : ((ln : Int) != 0)
  rotate_left
  · have HV : Hid (false = V) := by
      show _ = _
      rw [← HX.out]
      have k : ((ln : Int) == 0) = false := by
        have := bne_iff_ne.1 h3
        exact beq_eq_false_iff_ne.2 (fun e => this e)
      simp [k]
    go_wp2_with fail
    go_ret
    exact ⟨by rw [HV.out]; rfl, HB.out⟩
  have HV : Hid (true = V) := by
    show _ = _
    rw [← HX.out]
    have k0 : lim = 0 := bne_eq_false_iff_eq.1 h0
    have k1 : nxt = 0 := bne_eq_false_iff_eq.1 h1
    have k2 : (hn : Int) = 0 := bne_eq_false_iff_eq.1 h2
    have k3 : (ln : Int) = 0 := bne_eq_false_iff_eq.1 h3
    rw [k0, k1, k2, k3]
    rfl
  obtain rfl : hn = 0 := by have := bne_eq_false_iff_eq.1 h2; omega
  obtain rfl : ln = 0 := by have := bne_eq_false_iff_eq.1 h3; omega
  clear h2 h3
  go_wp2_with fail
  go_loopw [5, 40] (fun _ i wr => i = .int .i64 0 ∧ ∃ m, wr = W.drewN m) (fun _ _ _ => 0)
  case atStart => exact ⟨rfl, 0, rfl⟩
  case round =>
    obtain ⟨rfl, m, rfl⟩ := hrel
    go_wp2_with fail
    go_loopw [6, 58] (fun _ i wr => i = .int .i64 0 ∧ ∃ m, wr = W.drewN m) (fun _ _ _ => 0)
    case atStart => exact ⟨rfl, m, rfl⟩
    case round =>
      obtain ⟨rfl, m, rfl⟩ := hrel
      go_wp2
      go_ret
      exact ⟨by rw [HV.out]; rfl, below_drewN HB.out _⟩

set_option maxHeartbeats 4000000 in
theorem r06_Same_zer2 (w : World) (An1 : Option Addr) (cn1 : Nat) (A1 : Option Addr) (c1 : Nat) (A3 : Option Addr) (c3 : Nat) (s : Sh) (a : Sa) (hin : InN .i64 w a.A0 a.c0 s.ns) (h0 : InN .i64 w An1 cn1 []) :
    Calls Try.prog 23 #[shtV s a, shV 0 0 (.slice An1 0 cn1) 0 0 (.slice A1 0 c1) (.slice A3 0 c3)] w fun e w' => e = .returned (.bool (shz s)) ∧ Below w.heap.size w w' := by
  obtain ⟨V, hV⟩ : ∃ V, shz s = V := ⟨_, rfl⟩
  have HX := Lib.hid hV
  rw [hV]
  clear hV
  obtain ⟨g, hg⟩ : ∃ g, w.heap.size = g := ⟨_, rfl⟩
  rw [hg]
  obtain ⟨gr, hgr⟩ : ∃ gr, g + 1 = gr := ⟨_, rfl⟩
  have hBx : Below g w ((w.alloc (.cells (shC s.i s.t (.slice a.A0 s.ns.length a.c0) s.lim s.nxt (.slice a.A1 s.hs.length a.c1) (.slice a.A2 s.ls.length a.c2)) 30)).alloc (.cells (shC 0 0 (.slice An1 0 cn1) 0 0 (.slice A1 0 c1) (.slice A3 0 c3)) 30)) := ((Below.refl _ _).alloc (by omega) _).alloc (by simp; omega) _
  have hsz : (w.alloc (.cells (shC s.i s.t (.slice a.A0 s.ns.length a.c0) s.lim s.nxt (.slice a.A1 s.hs.length a.c1) (.slice a.A2 s.ls.length a.c2)) 30)).heap.size = gr := by simp [hg, hgr]
  have hb1 : Blk ((w.alloc (.cells (shC s.i s.t (.slice a.A0 s.ns.length a.c0) s.lim s.nxt (.slice a.A1 s.hs.length a.c1) (.slice a.A2 s.ls.length a.c2)) 30)).alloc (.cells (shC 0 0 (.slice An1 0 cn1) 0 0 (.slice A1 0 c1) (.slice A3 0 c3)) 30)) g 30 (shC s.i s.t (.slice a.A0 s.ns.length a.c0) s.lim s.nxt (.slice a.A1 s.hs.length a.c1) (.slice a.A2 s.ls.length a.c2)) := (hg ▸ Blk.new w 30 (shC s.i s.t (.slice a.A0 s.ns.length a.c0) s.lim s.nxt (.slice a.A1 s.hs.length a.c1) (.slice a.A2 s.ls.length a.c2)) : Blk (w.alloc (.cells (shC s.i s.t (.slice a.A0 s.ns.length a.c0) s.lim s.nxt (.slice a.A1 s.hs.length a.c1) (.slice a.A2 s.ls.length a.c2)) 30)) g 30 (shC s.i s.t (.slice a.A0 s.ns.length a.c0) s.lim s.nxt (.slice a.A1 s.hs.length a.c1) (.slice a.A2 s.ls.length a.c2))).alloc _
  have hr1 : Blk ((w.alloc (.cells (shC s.i s.t (.slice a.A0 s.ns.length a.c0) s.lim s.nxt (.slice a.A1 s.hs.length a.c1) (.slice a.A2 s.ls.length a.c2)) 30)).alloc (.cells (shC 0 0 (.slice An1 0 cn1) 0 0 (.slice A1 0 c1) (.slice A3 0 c3)) 30)) gr 30 (shC 0 0 (.slice An1 0 cn1) 0 0 (.slice A1 0 c1) (.slice A3 0 c3)) := hsz ▸ Blk.new _ _ _
  clear hsz
  have H1 := Lib.hid (hin.keep (hg ▸ hBx))
  have H0 := Lib.hid (h0.keep (hg ▸ hBx))
  clear hin h0
  unfold shV shtV
  go_enter Try.func23, Try.ntmps23
  go_upto_region 1 with (fail)
  change Code.wp _ _ _ _ ((w.alloc (.cells (shC s.i s.t (.slice a.A0 s.ns.length a.c0) s.lim s.nxt (.slice a.A1 s.hs.length a.c1) (.slice a.A2 s.ls.length a.c2)) 30)).alloc (.cells (shC 0 0 (.slice An1 0 cn1) 0 0 (.slice A1 0 c1) (.slice A3 0 c3)) 30))
  generalize ((w.alloc (.cells (shC s.i s.t (.slice a.A0 s.ns.length a.c0) s.lim s.nxt (.slice a.A1 s.hs.length a.c1) (.slice a.A2 s.ls.length a.c2)) 30)).alloc (.cells (shC 0 0 (.slice An1 0 cn1) 0 0 (.slice A1 0 c1) (.slice A3 0 c3)) 30)) = W at hb1 hr1 hBx H1 H0 ⊢
  try rw [hgr]
  have HB := Lib.hid hBx
  have hgl : g ≤ W.heap.size := Nat.le_of_lt hb1.lt
  obtain ⟨q0, q1, q2, q3, q4, q5, q6⟩ := hb1.sh
  obtain ⟨r0, r1, r2, r3, r4, r5, r6⟩ := hr1.sh
  have C1 := r03_Same_any W a.A0 An1 a.c0 cn1 s.ns [] H1.out H0.out
  have C2 := fun m => r05_Same_zer2 (W.drewN m) s.lim s.nxt A1 c1 a.A1 s.hs.length a.c1 A3 c3 a.A2 s.ls.length a.c2
  unfold ledV at C2
  clear hb1 hr1 hBx hg
  cases h0 : (s.i == 0)
  · have HV : Hid (false = V) := by
      show _ = _
      rw [← HX.out]
      have k : (s.i == 0) = false := h0
      simp [shz, k]
    go_wp2_with fail
    go_ret
    exact ⟨by rw [HV.out]; rfl, HB.out⟩
  cases h1 : (s.t == 0)
  · have HV : Hid (false = V) := by
      show _ = _
      rw [← HX.out]
      have k : (s.t == 0) = false := h1
      simp [shz, k]
    go_wp2_with fail
    go_ret
    exact ⟨by rw [HV.out]; rfl, HB.out⟩
  have k0 : s.i = 0 := beq_iff_eq.1 h0
  have k1 : s.t = 0 := beq_iff_eq.1 h1
  cases hn : decide (s.ns = [])
  · have HV : Hid (false = V) := by
      show _ = _
      rw [← HX.out]
      have k : ((s.ns.length : Int) == 0) = false := beq_eq_false_iff_ne.2 (fun e => of_decide_eq_false hn ((len0 _).1 e))
      simp [shz, k]
    rw [hn] at C1
    have C1 := Lib.hid C1
    clear hn k0 k1
    go_wp2_with fail
    refine C1.out.mono ?_
    rintro e w1 ⟨rfl, m, rfl⟩
    go_wp2_with fail
    go_ret
    exact ⟨by rw [HV.out]; rfl, below_drewN HB.out m⟩
  have k2 : s.ns = [] := of_decide_eq_true hn
  have HV : Hid ((s.lim == 0 && s.nxt == 0 && ((s.hs.length : Int) == 0) && ((s.ls.length : Int) == 0)) = V) := by
    show _ = _
    rw [← HX.out]
    simp [shz, k0, k1, k2]
  rw [hn] at C1
  simp only [HV.out] at C2
  have C1 := Lib.hid C1
  have C2 := Lib.hid C2
  clear hn k0 k1 k2 HV
  go_wp2_with fail
  refine C1.out.mono ?_
  rintro e w1 ⟨rfl, m, rfl⟩
  go_wp2_with fail
  refine (C2.out m).mono ?_
  rintro e w2 ⟨rfl, hB2⟩
  have HB2 := Lib.hid ((below_drewN HB.out m).trans (hB2.mono hgl))
  clear hB2
  go_wp2
  go_ret
  exact ⟨rfl, HB2.out⟩
end Go.Proofs.Ytjnkpjhggeibeaa

/- Messages: the document's small functions: fields, has, node. -/
namespace Go.Proofs.Ytjnkpjhggeibeaa
set_option maxRecDepth 100000
open Go.RowKit

/-- The document's letters of a kind. -/
def fld8 (k : Int) : ByteArray := if k = 1 then ⟨#[116, 105, 108]⟩ else if k = 2 then ⟨#[116, 102]⟩ else if k = 3 then ⟨#[116, 105, 108, 99, 101]⟩ else if k = 4 then ⟨#[116, 102, 105]⟩ else if k = 5 then ⟨#[116, 115]⟩ else if k = 6 then ⟨#[101]⟩ else ⟨#[]⟩
set_option maxHeartbeats 1000000 in
theorem r08_fields_any (w : World) (k : Int) :
    Calls Try.prog 15 #[.int .i64 k] w fun e w' => e = .returned (.string (fld8 k)) ∧ w' = w := by
  rcases mkinds k with rfl | rfl | rfl | rfl | rfl | rfl | ⟨h1, h2, h3, h4, h5, h6⟩
  case inr.inr.inr.inr.inr.inr =>
    have e1 : fld8 k = ⟨#[]⟩ := by simp [fld8, h1, h2, h3, h4, h5, h6]
    rw [e1]
    clear e1
    go_enter Try.func15, Try.ntmps15
    go_wp2
    go_ret
    exact ⟨rfl, rfl⟩
  all_goals
    go_enter Try.func15, Try.ntmps15
    go_wp2
    go_ret
    exact ⟨rfl, rfl⟩
theorem fld8_size (k : Int) : (fld8 k).size ≤ 140737488351232 := by
  have h : (fld8 k).size ≤ 5 := by unfold fld8; split <;> (try split) <;> (try split) <;> (try split) <;> (try split) <;> (try split) <;> decide
  omega
theorem r08_has_any (w : World) (s : ByteArray) (c : Int) (hs : s.size ≤ 140737488351232) :
    Calls Try.prog 18 #[.string s, .int .u8 c] w fun e w' => e = .returned (.bool (hasB s c)) ∧ w' = w := by
  obtain ⟨X, hX⟩ : ∃ X, hasB s c = X := ⟨_, rfl⟩
  have HX := Lib.hid hX
  rw [hX]
  clear hX
  go_enter Try.func18, Try.ntmps18
  go_wp2
  go_loop [4, 5] (fun b i => ∃ k : Nat, k ≤ s.size ∧ b = .bool false ∧ i = .int .i64 k ∧ ∀ j (hj : j < (bytes s).length), j < k → (bytes s)[j] ≠ c) (fun _ i => s.size - (intOf i).toNat)
  case atStart => exact ⟨0, by omega, rfl, rfl, fun j _ h => by omega⟩
  case round =>
    obtain ⟨k, hk, rfl, rfl, hno⟩ := hrel
    have HNO := Lib.hid hno
    clear hno
    by_cases hlt : k < s.size
    · have hbk : (s[k].toNat : Int) = (bytes s)[k]'(by rw [bytes_length]; exact hlt) := (bytes_get hlt).symm
      have HBK := Lib.hid hbk
      clear hbk
      by_cases heq : ((s[k].toNat : Int) == c) = true
      · have HE : Hid (true = X) := by
          show _ = _
          rw [← HX.out]
          have e2 : (bytes s)[k]'(by rw [bytes_length]; exact hlt) = c := by rw [← HBK.out]; simpa using heq
          exact (by simp only [hasB, List.contains_eq_mem, decide_eq_true_eq]; exact e2 ▸ List.getElem_mem _ : hasB s c = true).symm
        go_wp2
        go_ret
        rw [← HE.out]
        exact ⟨rfl, rfl⟩
      · have hef : ((s[k].toNat : Int) == c) = false := by simpa using heq
        clear heq
        go_wp2
        go_round
        case rel =>
          refine ⟨k + 1, by omega, rfl, by go_num, fun j hj hjk => ?_⟩
          rcases Nat.lt_or_ge j k with h1 | h1
          · exact HNO.out j hj h1
          · obtain rfl : j = k := by omega
            rw [← HBK.out]
            simpa using hef
        case measure => simp [intOf]; omega
    · obtain rfl : k = s.size := by omega
      have HE : Hid (false = X) := by
        show _ = _
        rw [← HX.out]
        symm
        simp only [hasB, List.contains_eq_mem, decide_eq_false_iff_not]
        intro hm
        obtain ⟨j, hj, e⟩ := List.getElem_of_mem hm
        exact HNO.out j hj (by rw [bytes_length] at hj; exact hj) e
      go_wp2
      go_ret
      rw [← HE.out]
      exact ⟨rfl, rfl⟩


theorem r08_node_any (w : World) (n : Int) :
    Calls Try.prog 16 #[.int .i64 n] w fun e w' => e = .returned (.bool (nodeB n)) ∧ w' = w := by
  obtain ⟨X, hX⟩ : ∃ X, nodeB n = X := ⟨_, rfl⟩
  rw [hX]
  cases h1 : decide (1 ≤ n)
  · have e : X = false := by rw [← hX, nodeB, h1]; rfl
    rw [e]
    clear hX
    have h1' : decide (n ≥ 1) = false := h1
    go_enter Try.func16, Try.ntmps16
    go_wp2
    go_ret
    exact ⟨rfl, rfl⟩
  · have e : X = decide (n ≤ 7) := by rw [← hX, nodeB, h1]; rfl
    rw [e]
    clear hX
    have h1' : decide (n ≥ 1) = true := h1
    go_enter Try.func16, Try.ntmps16
    go_wp2
    go_ret
    exact ⟨rfl, rfl⟩
theorem has_t (k : Int) : hasB (fld8 k) 116 = mT k := by
  rcases mkinds k with rfl | rfl | rfl | rfl | rfl | rfl | ⟨h1, h2, h3, h4, h5, h6⟩
  case inr.inr.inr.inr.inr.inr => simp [fld8, mT, h1, h2, h3, h4, h5, h6, hasB, bytes]
  all_goals rfl
theorem has_i (k : Int) : hasB (fld8 k) 105 = mI k := by
  rcases mkinds k with rfl | rfl | rfl | rfl | rfl | rfl | ⟨h1, h2, h3, h4, h5, h6⟩
  case inr.inr.inr.inr.inr.inr => simp [fld8, mI, h1, h2, h3, h4, h5, h6, hasB, bytes]
  all_goals rfl
theorem has_l (k : Int) : hasB (fld8 k) 108 = mL k := by
  rcases mkinds k with rfl | rfl | rfl | rfl | rfl | rfl | ⟨h1, h2, h3, h4, h5, h6⟩
  case inr.inr.inr.inr.inr.inr => simp [fld8, mL, h1, h2, h3, h4, h5, h6, hasB, bytes]
  all_goals rfl
theorem has_c (k : Int) : hasB (fld8 k) 99 = mC k := by
  rcases mkinds k with rfl | rfl | rfl | rfl | rfl | rfl | ⟨h1, h2, h3, h4, h5, h6⟩
  case inr.inr.inr.inr.inr.inr => simp [fld8, mC, h1, h2, h3, h4, h5, h6, hasB, bytes]
  all_goals rfl
theorem has_f (k : Int) : hasB (fld8 k) 102 = mF k := by
  rcases mkinds k with rfl | rfl | rfl | rfl | rfl | rfl | ⟨h1, h2, h3, h4, h5, h6⟩
  case inr.inr.inr.inr.inr.inr => simp [fld8, mF, h1, h2, h3, h4, h5, h6, hasB, bytes]
  all_goals rfl
theorem has_e (k : Int) : hasB (fld8 k) 101 = mE k := by
  rcases mkinds k with rfl | rfl | rfl | rfl | rfl | rfl | ⟨h1, h2, h3, h4, h5, h6⟩
  case inr.inr.inr.inr.inr.inr => simp [fld8, mE, h1, h2, h3, h4, h5, h6, hasB, bytes]
  all_goals rfl
theorem has_s (k : Int) : hasB (fld8 k) 115 = mS k := by
  rcases mkinds k with rfl | rfl | rfl | rfl | rfl | rfl | ⟨h1, h2, h3, h4, h5, h6⟩
  case inr.inr.inr.inr.inr.inr => simp [fld8, mS, h1, h2, h3, h4, h5, h6, hasB, bytes]
  all_goals rfl
theorem fld8_empty (k : Int) : (fld8 k == ⟨#[]⟩) = !mK k := by
  rcases mkinds k with rfl | rfl | rfl | rfl | rfl | rfl | ⟨h1, h2, h3, h4, h5, h6⟩
  case inr.inr.inr.inr.inr.inr => simp [fld8, mK_of h1 h2 h3 h4 h5 h6, h1, h2, h3, h4, h5, h6]; try rfl
  all_goals rfl
/-- The letter is had, as a contract over the kind. -/
theorem r08_has_kind (w : World) (k c : Int) (b : Bool) (h : hasB (fld8 k) c = b) :
    Calls Try.prog 18 #[.string (fld8 k), .int .u8 c] w fun e w' => e = .returned (.bool b) ∧ w' = w := by
  rw [← h]
  exact r08_has_any w _ c (fld8_size k)
end Go.Proofs.Ytjnkpjhggeibeaa

/- Messages: the document's zero. -/
namespace Go.Proofs.Ytjnkpjhggeibeaa
set_option maxRecDepth 100000
set_option linter.unusedSimpArgs false
open Go.RowKit

set_option maxHeartbeats 8000000 in
theorem r08_zero_1 (w : World) (m : Mb) (p : Sa) (PA : Option Addr) (n PC : Nat) (hsh : InN .i64 w p.A0 p.c0 m.sh.ns) (kt : mT m.k = true) (ki : mI m.k = true) (kl : mL m.k = true) (kc : mC m.k = false) (kf : mF m.k = false) (ke : mE m.k = false) (ks : mS m.k = false) :
    Calls Try.prog 17 #[mgV m p PA n PC] w fun e w' => e = .returned (.bool (zeroM m n)) ∧ Below w.heap.size w w' := by
  obtain ⟨g, hg⟩ : ∃ g, w.heap.size = g := ⟨_, rfl⟩
  have hb0 : Blk (w.alloc (.cells (mgC m p PA n PC) 32)) g 32 (mgC m p PA n PC) := hg ▸ Blk.new _ _ _
  have hB0 : Below g w (w.alloc (.cells (mgC m p PA n PC) 32)) := (Below.refl _ _).alloc (by omega) _
  have HSH := Lib.hid (hsh.keep (hg ▸ hB0))
  have CF := Lib.hid (fun W => r08_fields_any W m.k)
  have Ct := Lib.hid (fun W => r08_has_kind W m.k 116 true (by rw [has_t, kt]))
  have Ci := Lib.hid (fun W => r08_has_kind W m.k 105 true (by rw [has_i, ki]))
  have Cl := Lib.hid (fun W => r08_has_kind W m.k 108 true (by rw [has_l, kl]))
  have Cc := Lib.hid (fun W => r08_has_kind W m.k 99 false (by rw [has_c, kc]))
  have Cf := Lib.hid (fun W => r08_has_kind W m.k 102 false (by rw [has_f, kf]))
  have Ce := Lib.hid (fun W => r08_has_kind W m.k 101 false (by rw [has_e, ke]))
  have Cs := Lib.hid (fun W => r08_has_kind W m.k 115 false (by rw [has_s, ks]))
  obtain ⟨V, hV⟩ : ∃ V, zeroM m n = V := ⟨_, rfl⟩
  rw [hV, hg]
  have HV : Hid (V = ((m.cm == 0) && ((!m.fl) && (((n : Int) == 0) && ((shz m.sh) && true))))) := by
    show _ = _
    rw [← hV, zeroM, kt, ki, kl, kc, kf, ke, ks]
    simp
  clear hV hsh kt ki kl kc kf ke ks
  unfold mgV
  go_enter Try.func17, Try.ntmps17
  go_upto_region 1 with (fail)
  change Code.wp _ _ _ _ (w.alloc (.cells (mgC m p PA n PC) 32))
  generalize (w.alloc (.cells (mgC m p PA n PC) 32)) = W0 at hb0 hB0 HSH ⊢
  try rw [hg]
  obtain ⟨z0, z1, z2, z3, z4, z5, z6, z7, z8, z9, z10, z11, z12, z13, z14, z15⟩ := hb0.mg
  have hlt : g < W0.heap.size := hb0.lt
  have HB0 := Lib.hid hB0
  have CZ := r06_Same_zer2 W0 none 0 none 0 none 0 m.sh p HSH.out InN.nil
  unfold shtV shV at CZ
  have CZ := Lib.hid CZ
  clear hB0 hb0 hg z1 z2 HSH
  go_wp2_with fail
  refine (CF.out _).mono ?_
  rintro e w1 ⟨rfl, rfl⟩
  clear z0
  go_wp2_with fail
  refine (Ct.out _).mono ?_
  rintro e w1 ⟨rfl, rfl⟩
  go_wp2_with fail
  refine (Ci.out _).mono ?_
  rintro e w1 ⟨rfl, rfl⟩
  go_wp2_with fail
  refine (Cl.out _).mono ?_
  rintro e w1 ⟨rfl, rfl⟩
  go_wp2_with fail
  refine (Cc.out _).mono ?_
  rintro e w1 ⟨rfl, rfl⟩
  cases vc : (m.cm == 0)
  ·
    have HN : Hid (V = false) := by
      show _ = _
      rw [HV.out, vc]
      rfl
    go_wp2
    go_ret
    exact ⟨by rw [HN.out]; rfl, HB0.out⟩
  have Hc : Hid (V = ((!m.fl) && (((n : Int) == 0) && ((shz m.sh) && true)))) := by
    show _ = _
    rw [HV.out, vc]
    rfl
  go_wp2_with fail
  refine (Cf.out _).mono ?_
  rintro e w1 ⟨rfl, rfl⟩
  cases vf : (m.fl)
  rotate_left
  ·
    have HN : Hid (V = false) := by
      show _ = _
      rw [Hc.out, vf]
      rfl
    go_wp2
    go_ret
    exact ⟨by rw [HN.out]; rfl, HB0.out⟩
  have Hf : Hid (V = (((n : Int) == 0) && ((shz m.sh) && true))) := by
    show _ = _
    rw [Hc.out, vf]
    rfl
  go_wp2_with fail
  refine (Ce.out _).mono ?_
  rintro e w1 ⟨rfl, rfl⟩
  cases ve : ((n : Int) == 0)
  ·
    have HN : Hid (V = false) := by
      show _ = _
      rw [Hf.out, ve]
      rfl
    go_wp2
    go_ret
    exact ⟨by rw [HN.out]; rfl, HB0.out⟩
  have He : Hid (V = ((shz m.sh) && true)) := by
    show _ = _
    rw [Hf.out, ve]
    rfl
  go_wp2_with fail
  refine (Cs.out _).mono ?_
  rintro e w1 ⟨rfl, rfl⟩
  have HN : Hid (V = shz m.sh) := by
    show _ = _
    rw [He.out]
    exact Bool.and_true _
  go_wp2_with fail
  refine CZ.out.mono ?_
  rintro e w1 ⟨rfl, hB1⟩
  have HB1 := Lib.hid (HB0.out.trans (hB1.mono (by omega)))
  clear hB1
  go_wp2
  go_ret
  exact ⟨by rw [HN.out]; rfl, HB1.out⟩
set_option maxHeartbeats 8000000 in
theorem r08_zero_2 (w : World) (m : Mb) (p : Sa) (PA : Option Addr) (n PC : Nat) (hsh : InN .i64 w p.A0 p.c0 m.sh.ns) (kt : mT m.k = true) (ki : mI m.k = false) (kl : mL m.k = false) (kc : mC m.k = false) (kf : mF m.k = true) (ke : mE m.k = false) (ks : mS m.k = false) :
    Calls Try.prog 17 #[mgV m p PA n PC] w fun e w' => e = .returned (.bool (zeroM m n)) ∧ Below w.heap.size w w' := by
  obtain ⟨g, hg⟩ : ∃ g, w.heap.size = g := ⟨_, rfl⟩
  have hb0 : Blk (w.alloc (.cells (mgC m p PA n PC) 32)) g 32 (mgC m p PA n PC) := hg ▸ Blk.new _ _ _
  have hB0 : Below g w (w.alloc (.cells (mgC m p PA n PC) 32)) := (Below.refl _ _).alloc (by omega) _
  have HSH := Lib.hid (hsh.keep (hg ▸ hB0))
  have CF := Lib.hid (fun W => r08_fields_any W m.k)
  have Ct := Lib.hid (fun W => r08_has_kind W m.k 116 true (by rw [has_t, kt]))
  have Ci := Lib.hid (fun W => r08_has_kind W m.k 105 false (by rw [has_i, ki]))
  have Cl := Lib.hid (fun W => r08_has_kind W m.k 108 false (by rw [has_l, kl]))
  have Cc := Lib.hid (fun W => r08_has_kind W m.k 99 false (by rw [has_c, kc]))
  have Cf := Lib.hid (fun W => r08_has_kind W m.k 102 true (by rw [has_f, kf]))
  have Ce := Lib.hid (fun W => r08_has_kind W m.k 101 false (by rw [has_e, ke]))
  have Cs := Lib.hid (fun W => r08_has_kind W m.k 115 false (by rw [has_s, ks]))
  obtain ⟨V, hV⟩ : ∃ V, zeroM m n = V := ⟨_, rfl⟩
  rw [hV, hg]
  have HV : Hid (V = ((m.ix == 0) && ((m.lt == 0) && ((m.cm == 0) && (((n : Int) == 0) && ((shz m.sh) && true)))))) := by
    show _ = _
    rw [← hV, zeroM, kt, ki, kl, kc, kf, ke, ks]
    simp
  clear hV hsh kt ki kl kc kf ke ks
  unfold mgV
  go_enter Try.func17, Try.ntmps17
  go_upto_region 1 with (fail)
  change Code.wp _ _ _ _ (w.alloc (.cells (mgC m p PA n PC) 32))
  generalize (w.alloc (.cells (mgC m p PA n PC) 32)) = W0 at hb0 hB0 HSH ⊢
  try rw [hg]
  obtain ⟨z0, z1, z2, z3, z4, z5, z6, z7, z8, z9, z10, z11, z12, z13, z14, z15⟩ := hb0.mg
  have hlt : g < W0.heap.size := hb0.lt
  have HB0 := Lib.hid hB0
  have CZ := r06_Same_zer2 W0 none 0 none 0 none 0 m.sh p HSH.out InN.nil
  unfold shtV shV at CZ
  have CZ := Lib.hid CZ
  clear hB0 hb0 hg z1 z2 HSH
  go_wp2_with fail
  refine (CF.out _).mono ?_
  rintro e w1 ⟨rfl, rfl⟩
  clear z0
  go_wp2_with fail
  refine (Ct.out _).mono ?_
  rintro e w1 ⟨rfl, rfl⟩
  go_wp2_with fail
  refine (Ci.out _).mono ?_
  rintro e w1 ⟨rfl, rfl⟩
  cases vi : (m.ix == 0)
  ·
    have HN : Hid (V = false) := by
      show _ = _
      rw [HV.out, vi]
      rfl
    go_wp2
    go_ret
    exact ⟨by rw [HN.out]; rfl, HB0.out⟩
  have Hi : Hid (V = ((m.lt == 0) && ((m.cm == 0) && (((n : Int) == 0) && ((shz m.sh) && true))))) := by
    show _ = _
    rw [HV.out, vi]
    rfl
  go_wp2_with fail
  refine (Cl.out _).mono ?_
  rintro e w1 ⟨rfl, rfl⟩
  cases vl : (m.lt == 0)
  ·
    have HN : Hid (V = false) := by
      show _ = _
      rw [Hi.out, vl]
      rfl
    go_wp2
    go_ret
    exact ⟨by rw [HN.out]; rfl, HB0.out⟩
  have Hl : Hid (V = ((m.cm == 0) && (((n : Int) == 0) && ((shz m.sh) && true)))) := by
    show _ = _
    rw [Hi.out, vl]
    rfl
  go_wp2_with fail
  refine (Cc.out _).mono ?_
  rintro e w1 ⟨rfl, rfl⟩
  cases vc : (m.cm == 0)
  ·
    have HN : Hid (V = false) := by
      show _ = _
      rw [Hl.out, vc]
      rfl
    go_wp2
    go_ret
    exact ⟨by rw [HN.out]; rfl, HB0.out⟩
  have Hc : Hid (V = (((n : Int) == 0) && ((shz m.sh) && true))) := by
    show _ = _
    rw [Hl.out, vc]
    rfl
  go_wp2_with fail
  refine (Cf.out _).mono ?_
  rintro e w1 ⟨rfl, rfl⟩
  go_wp2_with fail
  refine (Ce.out _).mono ?_
  rintro e w1 ⟨rfl, rfl⟩
  cases ve : ((n : Int) == 0)
  ·
    have HN : Hid (V = false) := by
      show _ = _
      rw [Hc.out, ve]
      rfl
    go_wp2
    go_ret
    exact ⟨by rw [HN.out]; rfl, HB0.out⟩
  have He : Hid (V = ((shz m.sh) && true)) := by
    show _ = _
    rw [Hc.out, ve]
    rfl
  go_wp2_with fail
  refine (Cs.out _).mono ?_
  rintro e w1 ⟨rfl, rfl⟩
  have HN : Hid (V = shz m.sh) := by
    show _ = _
    rw [He.out]
    exact Bool.and_true _
  go_wp2_with fail
  refine CZ.out.mono ?_
  rintro e w1 ⟨rfl, hB1⟩
  have HB1 := Lib.hid (HB0.out.trans (hB1.mono (by omega)))
  clear hB1
  go_wp2
  go_ret
  exact ⟨by rw [HN.out]; rfl, HB1.out⟩
set_option maxHeartbeats 8000000 in
theorem r08_zero_3 (w : World) (m : Mb) (p : Sa) (PA : Option Addr) (n PC : Nat) (hsh : InN .i64 w p.A0 p.c0 m.sh.ns) (kt : mT m.k = true) (ki : mI m.k = true) (kl : mL m.k = true) (kc : mC m.k = true) (kf : mF m.k = false) (ke : mE m.k = true) (ks : mS m.k = false) :
    Calls Try.prog 17 #[mgV m p PA n PC] w fun e w' => e = .returned (.bool (zeroM m n)) ∧ Below w.heap.size w w' := by
  obtain ⟨g, hg⟩ : ∃ g, w.heap.size = g := ⟨_, rfl⟩
  have hb0 : Blk (w.alloc (.cells (mgC m p PA n PC) 32)) g 32 (mgC m p PA n PC) := hg ▸ Blk.new _ _ _
  have hB0 : Below g w (w.alloc (.cells (mgC m p PA n PC) 32)) := (Below.refl _ _).alloc (by omega) _
  have HSH := Lib.hid (hsh.keep (hg ▸ hB0))
  have CF := Lib.hid (fun W => r08_fields_any W m.k)
  have Ct := Lib.hid (fun W => r08_has_kind W m.k 116 true (by rw [has_t, kt]))
  have Ci := Lib.hid (fun W => r08_has_kind W m.k 105 true (by rw [has_i, ki]))
  have Cl := Lib.hid (fun W => r08_has_kind W m.k 108 true (by rw [has_l, kl]))
  have Cc := Lib.hid (fun W => r08_has_kind W m.k 99 true (by rw [has_c, kc]))
  have Cf := Lib.hid (fun W => r08_has_kind W m.k 102 false (by rw [has_f, kf]))
  have Ce := Lib.hid (fun W => r08_has_kind W m.k 101 true (by rw [has_e, ke]))
  have Cs := Lib.hid (fun W => r08_has_kind W m.k 115 false (by rw [has_s, ks]))
  obtain ⟨V, hV⟩ : ∃ V, zeroM m n = V := ⟨_, rfl⟩
  rw [hV, hg]
  have HV : Hid (V = ((!m.fl) && ((shz m.sh) && true))) := by
    show _ = _
    rw [← hV, zeroM, kt, ki, kl, kc, kf, ke, ks]
    simp
  clear hV hsh kt ki kl kc kf ke ks
  unfold mgV
  go_enter Try.func17, Try.ntmps17
  go_upto_region 1 with (fail)
  change Code.wp _ _ _ _ (w.alloc (.cells (mgC m p PA n PC) 32))
  generalize (w.alloc (.cells (mgC m p PA n PC) 32)) = W0 at hb0 hB0 HSH ⊢
  try rw [hg]
  obtain ⟨z0, z1, z2, z3, z4, z5, z6, z7, z8, z9, z10, z11, z12, z13, z14, z15⟩ := hb0.mg
  have hlt : g < W0.heap.size := hb0.lt
  have HB0 := Lib.hid hB0
  have CZ := r06_Same_zer2 W0 none 0 none 0 none 0 m.sh p HSH.out InN.nil
  unfold shtV shV at CZ
  have CZ := Lib.hid CZ
  clear hB0 hb0 hg z1 z2 HSH
  go_wp2_with fail
  refine (CF.out _).mono ?_
  rintro e w1 ⟨rfl, rfl⟩
  clear z0
  go_wp2_with fail
  refine (Ct.out _).mono ?_
  rintro e w1 ⟨rfl, rfl⟩
  go_wp2_with fail
  refine (Ci.out _).mono ?_
  rintro e w1 ⟨rfl, rfl⟩
  go_wp2_with fail
  refine (Cl.out _).mono ?_
  rintro e w1 ⟨rfl, rfl⟩
  go_wp2_with fail
  refine (Cc.out _).mono ?_
  rintro e w1 ⟨rfl, rfl⟩
  go_wp2_with fail
  refine (Cf.out _).mono ?_
  rintro e w1 ⟨rfl, rfl⟩
  cases vf : (m.fl)
  rotate_left
  ·
    have HN : Hid (V = false) := by
      show _ = _
      rw [HV.out, vf]
      rfl
    go_wp2
    go_ret
    exact ⟨by rw [HN.out]; rfl, HB0.out⟩
  have Hf : Hid (V = ((shz m.sh) && true)) := by
    show _ = _
    rw [HV.out, vf]
    rfl
  go_wp2_with fail
  refine (Ce.out _).mono ?_
  rintro e w1 ⟨rfl, rfl⟩
  go_wp2_with fail
  refine (Cs.out _).mono ?_
  rintro e w1 ⟨rfl, rfl⟩
  have HN : Hid (V = shz m.sh) := by
    show _ = _
    rw [Hf.out]
    exact Bool.and_true _
  go_wp2_with fail
  refine CZ.out.mono ?_
  rintro e w1 ⟨rfl, hB1⟩
  have HB1 := Lib.hid (HB0.out.trans (hB1.mono (by omega)))
  clear hB1
  go_wp2
  go_ret
  exact ⟨by rw [HN.out]; rfl, HB1.out⟩
set_option maxHeartbeats 8000000 in
theorem r08_zero_4 (w : World) (m : Mb) (p : Sa) (PA : Option Addr) (n PC : Nat) (hsh : InN .i64 w p.A0 p.c0 m.sh.ns) (kt : mT m.k = true) (ki : mI m.k = true) (kl : mL m.k = false) (kc : mC m.k = false) (kf : mF m.k = true) (ke : mE m.k = false) (ks : mS m.k = false) :
    Calls Try.prog 17 #[mgV m p PA n PC] w fun e w' => e = .returned (.bool (zeroM m n)) ∧ Below w.heap.size w w' := by
  obtain ⟨g, hg⟩ : ∃ g, w.heap.size = g := ⟨_, rfl⟩
  have hb0 : Blk (w.alloc (.cells (mgC m p PA n PC) 32)) g 32 (mgC m p PA n PC) := hg ▸ Blk.new _ _ _
  have hB0 : Below g w (w.alloc (.cells (mgC m p PA n PC) 32)) := (Below.refl _ _).alloc (by omega) _
  have HSH := Lib.hid (hsh.keep (hg ▸ hB0))
  have CF := Lib.hid (fun W => r08_fields_any W m.k)
  have Ct := Lib.hid (fun W => r08_has_kind W m.k 116 true (by rw [has_t, kt]))
  have Ci := Lib.hid (fun W => r08_has_kind W m.k 105 true (by rw [has_i, ki]))
  have Cl := Lib.hid (fun W => r08_has_kind W m.k 108 false (by rw [has_l, kl]))
  have Cc := Lib.hid (fun W => r08_has_kind W m.k 99 false (by rw [has_c, kc]))
  have Cf := Lib.hid (fun W => r08_has_kind W m.k 102 true (by rw [has_f, kf]))
  have Ce := Lib.hid (fun W => r08_has_kind W m.k 101 false (by rw [has_e, ke]))
  have Cs := Lib.hid (fun W => r08_has_kind W m.k 115 false (by rw [has_s, ks]))
  obtain ⟨V, hV⟩ : ∃ V, zeroM m n = V := ⟨_, rfl⟩
  rw [hV, hg]
  have HV : Hid (V = ((m.lt == 0) && ((m.cm == 0) && (((n : Int) == 0) && ((shz m.sh) && true))))) := by
    show _ = _
    rw [← hV, zeroM, kt, ki, kl, kc, kf, ke, ks]
    simp
  clear hV hsh kt ki kl kc kf ke ks
  unfold mgV
  go_enter Try.func17, Try.ntmps17
  go_upto_region 1 with (fail)
  change Code.wp _ _ _ _ (w.alloc (.cells (mgC m p PA n PC) 32))
  generalize (w.alloc (.cells (mgC m p PA n PC) 32)) = W0 at hb0 hB0 HSH ⊢
  try rw [hg]
  obtain ⟨z0, z1, z2, z3, z4, z5, z6, z7, z8, z9, z10, z11, z12, z13, z14, z15⟩ := hb0.mg
  have hlt : g < W0.heap.size := hb0.lt
  have HB0 := Lib.hid hB0
  have CZ := r06_Same_zer2 W0 none 0 none 0 none 0 m.sh p HSH.out InN.nil
  unfold shtV shV at CZ
  have CZ := Lib.hid CZ
  clear hB0 hb0 hg z1 z2 HSH
  go_wp2_with fail
  refine (CF.out _).mono ?_
  rintro e w1 ⟨rfl, rfl⟩
  clear z0
  go_wp2_with fail
  refine (Ct.out _).mono ?_
  rintro e w1 ⟨rfl, rfl⟩
  go_wp2_with fail
  refine (Ci.out _).mono ?_
  rintro e w1 ⟨rfl, rfl⟩
  go_wp2_with fail
  refine (Cl.out _).mono ?_
  rintro e w1 ⟨rfl, rfl⟩
  cases vl : (m.lt == 0)
  ·
    have HN : Hid (V = false) := by
      show _ = _
      rw [HV.out, vl]
      rfl
    go_wp2
    go_ret
    exact ⟨by rw [HN.out]; rfl, HB0.out⟩
  have Hl : Hid (V = ((m.cm == 0) && (((n : Int) == 0) && ((shz m.sh) && true)))) := by
    show _ = _
    rw [HV.out, vl]
    rfl
  go_wp2_with fail
  refine (Cc.out _).mono ?_
  rintro e w1 ⟨rfl, rfl⟩
  cases vc : (m.cm == 0)
  ·
    have HN : Hid (V = false) := by
      show _ = _
      rw [Hl.out, vc]
      rfl
    go_wp2
    go_ret
    exact ⟨by rw [HN.out]; rfl, HB0.out⟩
  have Hc : Hid (V = (((n : Int) == 0) && ((shz m.sh) && true))) := by
    show _ = _
    rw [Hl.out, vc]
    rfl
  go_wp2_with fail
  refine (Cf.out _).mono ?_
  rintro e w1 ⟨rfl, rfl⟩
  go_wp2_with fail
  refine (Ce.out _).mono ?_
  rintro e w1 ⟨rfl, rfl⟩
  cases ve : ((n : Int) == 0)
  ·
    have HN : Hid (V = false) := by
      show _ = _
      rw [Hc.out, ve]
      rfl
    go_wp2
    go_ret
    exact ⟨by rw [HN.out]; rfl, HB0.out⟩
  have He : Hid (V = ((shz m.sh) && true)) := by
    show _ = _
    rw [Hc.out, ve]
    rfl
  go_wp2_with fail
  refine (Cs.out _).mono ?_
  rintro e w1 ⟨rfl, rfl⟩
  have HN : Hid (V = shz m.sh) := by
    show _ = _
    rw [He.out]
    exact Bool.and_true _
  go_wp2_with fail
  refine CZ.out.mono ?_
  rintro e w1 ⟨rfl, hB1⟩
  have HB1 := Lib.hid (HB0.out.trans (hB1.mono (by omega)))
  clear hB1
  go_wp2
  go_ret
  exact ⟨by rw [HN.out]; rfl, HB1.out⟩
set_option maxHeartbeats 8000000 in
theorem r08_zero_5 (w : World) (m : Mb) (p : Sa) (PA : Option Addr) (n PC : Nat) (hsh : InN .i64 w p.A0 p.c0 m.sh.ns) (kt : mT m.k = true) (ki : mI m.k = false) (kl : mL m.k = false) (kc : mC m.k = false) (kf : mF m.k = false) (ke : mE m.k = false) (ks : mS m.k = true) :
    Calls Try.prog 17 #[mgV m p PA n PC] w fun e w' => e = .returned (.bool (zeroM m n)) ∧ Below w.heap.size w w' := by
  obtain ⟨g, hg⟩ : ∃ g, w.heap.size = g := ⟨_, rfl⟩
  have hb0 : Blk (w.alloc (.cells (mgC m p PA n PC) 32)) g 32 (mgC m p PA n PC) := hg ▸ Blk.new _ _ _
  have hB0 : Below g w (w.alloc (.cells (mgC m p PA n PC) 32)) := (Below.refl _ _).alloc (by omega) _
  have HSH := Lib.hid (hsh.keep (hg ▸ hB0))
  have CF := Lib.hid (fun W => r08_fields_any W m.k)
  have Ct := Lib.hid (fun W => r08_has_kind W m.k 116 true (by rw [has_t, kt]))
  have Ci := Lib.hid (fun W => r08_has_kind W m.k 105 false (by rw [has_i, ki]))
  have Cl := Lib.hid (fun W => r08_has_kind W m.k 108 false (by rw [has_l, kl]))
  have Cc := Lib.hid (fun W => r08_has_kind W m.k 99 false (by rw [has_c, kc]))
  have Cf := Lib.hid (fun W => r08_has_kind W m.k 102 false (by rw [has_f, kf]))
  have Ce := Lib.hid (fun W => r08_has_kind W m.k 101 false (by rw [has_e, ke]))
  have Cs := Lib.hid (fun W => r08_has_kind W m.k 115 true (by rw [has_s, ks]))
  obtain ⟨V, hV⟩ : ∃ V, zeroM m n = V := ⟨_, rfl⟩
  rw [hV, hg]
  have HV : Hid (V = ((m.ix == 0) && ((m.lt == 0) && ((m.cm == 0) && ((!m.fl) && (((n : Int) == 0) && true)))))) := by
    show _ = _
    rw [← hV, zeroM, kt, ki, kl, kc, kf, ke, ks]
    simp
  clear hV hsh kt ki kl kc kf ke ks
  unfold mgV
  go_enter Try.func17, Try.ntmps17
  go_upto_region 1 with (fail)
  change Code.wp _ _ _ _ (w.alloc (.cells (mgC m p PA n PC) 32))
  generalize (w.alloc (.cells (mgC m p PA n PC) 32)) = W0 at hb0 hB0 HSH ⊢
  try rw [hg]
  obtain ⟨z0, z1, z2, z3, z4, z5, z6, z7, z8, z9, z10, z11, z12, z13, z14, z15⟩ := hb0.mg
  have hlt : g < W0.heap.size := hb0.lt
  have HB0 := Lib.hid hB0
  have CZ := r06_Same_zer2 W0 none 0 none 0 none 0 m.sh p HSH.out InN.nil
  unfold shtV shV at CZ
  have CZ := Lib.hid CZ
  clear hB0 hb0 hg z1 z2 HSH
  go_wp2_with fail
  refine (CF.out _).mono ?_
  rintro e w1 ⟨rfl, rfl⟩
  clear z0
  go_wp2_with fail
  refine (Ct.out _).mono ?_
  rintro e w1 ⟨rfl, rfl⟩
  go_wp2_with fail
  refine (Ci.out _).mono ?_
  rintro e w1 ⟨rfl, rfl⟩
  cases vi : (m.ix == 0)
  ·
    have HN : Hid (V = false) := by
      show _ = _
      rw [HV.out, vi]
      rfl
    go_wp2
    go_ret
    exact ⟨by rw [HN.out]; rfl, HB0.out⟩
  have Hi : Hid (V = ((m.lt == 0) && ((m.cm == 0) && ((!m.fl) && (((n : Int) == 0) && true))))) := by
    show _ = _
    rw [HV.out, vi]
    rfl
  go_wp2_with fail
  refine (Cl.out _).mono ?_
  rintro e w1 ⟨rfl, rfl⟩
  cases vl : (m.lt == 0)
  ·
    have HN : Hid (V = false) := by
      show _ = _
      rw [Hi.out, vl]
      rfl
    go_wp2
    go_ret
    exact ⟨by rw [HN.out]; rfl, HB0.out⟩
  have Hl : Hid (V = ((m.cm == 0) && ((!m.fl) && (((n : Int) == 0) && true)))) := by
    show _ = _
    rw [Hi.out, vl]
    rfl
  go_wp2_with fail
  refine (Cc.out _).mono ?_
  rintro e w1 ⟨rfl, rfl⟩
  cases vc : (m.cm == 0)
  ·
    have HN : Hid (V = false) := by
      show _ = _
      rw [Hl.out, vc]
      rfl
    go_wp2
    go_ret
    exact ⟨by rw [HN.out]; rfl, HB0.out⟩
  have Hc : Hid (V = ((!m.fl) && (((n : Int) == 0) && true))) := by
    show _ = _
    rw [Hl.out, vc]
    rfl
  go_wp2_with fail
  refine (Cf.out _).mono ?_
  rintro e w1 ⟨rfl, rfl⟩
  cases vf : (m.fl)
  rotate_left
  ·
    have HN : Hid (V = false) := by
      show _ = _
      rw [Hc.out, vf]
      rfl
    go_wp2
    go_ret
    exact ⟨by rw [HN.out]; rfl, HB0.out⟩
  have Hf : Hid (V = (((n : Int) == 0) && true)) := by
    show _ = _
    rw [Hc.out, vf]
    rfl
  go_wp2_with fail
  refine (Ce.out _).mono ?_
  rintro e w1 ⟨rfl, rfl⟩
  cases ve : ((n : Int) == 0)
  ·
    have HN : Hid (V = false) := by
      show _ = _
      rw [Hf.out, ve]
      rfl
    go_wp2
    go_ret
    exact ⟨by rw [HN.out]; rfl, HB0.out⟩
  have He : Hid (V = true) := by
    show _ = _
    rw [Hf.out, ve]
    rfl
  go_wp2_with fail
  refine (Cs.out _).mono ?_
  rintro e w1 ⟨rfl, rfl⟩
  have HN : Hid (V = true) := He
  go_wp2
  go_ret
  exact ⟨by rw [HN.out]; rfl, HB0.out⟩
set_option maxHeartbeats 8000000 in
theorem r08_zero_6 (w : World) (m : Mb) (p : Sa) (PA : Option Addr) (n PC : Nat) (hsh : InN .i64 w p.A0 p.c0 m.sh.ns) (kt : mT m.k = false) (ki : mI m.k = false) (kl : mL m.k = false) (kc : mC m.k = false) (kf : mF m.k = false) (ke : mE m.k = true) (ks : mS m.k = false) :
    Calls Try.prog 17 #[mgV m p PA n PC] w fun e w' => e = .returned (.bool (zeroM m n)) ∧ Below w.heap.size w w' := by
  obtain ⟨g, hg⟩ : ∃ g, w.heap.size = g := ⟨_, rfl⟩
  have hb0 : Blk (w.alloc (.cells (mgC m p PA n PC) 32)) g 32 (mgC m p PA n PC) := hg ▸ Blk.new _ _ _
  have hB0 : Below g w (w.alloc (.cells (mgC m p PA n PC) 32)) := (Below.refl _ _).alloc (by omega) _
  have HSH := Lib.hid (hsh.keep (hg ▸ hB0))
  have CF := Lib.hid (fun W => r08_fields_any W m.k)
  have Ct := Lib.hid (fun W => r08_has_kind W m.k 116 false (by rw [has_t, kt]))
  have Ci := Lib.hid (fun W => r08_has_kind W m.k 105 false (by rw [has_i, ki]))
  have Cl := Lib.hid (fun W => r08_has_kind W m.k 108 false (by rw [has_l, kl]))
  have Cc := Lib.hid (fun W => r08_has_kind W m.k 99 false (by rw [has_c, kc]))
  have Cf := Lib.hid (fun W => r08_has_kind W m.k 102 false (by rw [has_f, kf]))
  have Ce := Lib.hid (fun W => r08_has_kind W m.k 101 true (by rw [has_e, ke]))
  have Cs := Lib.hid (fun W => r08_has_kind W m.k 115 false (by rw [has_s, ks]))
  obtain ⟨V, hV⟩ : ∃ V, zeroM m n = V := ⟨_, rfl⟩
  rw [hV, hg]
  have HV : Hid (V = ((m.tm == 0) && ((m.ix == 0) && ((m.lt == 0) && ((m.cm == 0) && ((!m.fl) && ((shz m.sh) && true))))))) := by
    show _ = _
    rw [← hV, zeroM, kt, ki, kl, kc, kf, ke, ks]
    simp
  clear hV hsh kt ki kl kc kf ke ks
  unfold mgV
  go_enter Try.func17, Try.ntmps17
  go_upto_region 1 with (fail)
  change Code.wp _ _ _ _ (w.alloc (.cells (mgC m p PA n PC) 32))
  generalize (w.alloc (.cells (mgC m p PA n PC) 32)) = W0 at hb0 hB0 HSH ⊢
  try rw [hg]
  obtain ⟨z0, z1, z2, z3, z4, z5, z6, z7, z8, z9, z10, z11, z12, z13, z14, z15⟩ := hb0.mg
  have hlt : g < W0.heap.size := hb0.lt
  have HB0 := Lib.hid hB0
  have CZ := r06_Same_zer2 W0 none 0 none 0 none 0 m.sh p HSH.out InN.nil
  unfold shtV shV at CZ
  have CZ := Lib.hid CZ
  clear hB0 hb0 hg z1 z2 HSH
  go_wp2_with fail
  refine (CF.out _).mono ?_
  rintro e w1 ⟨rfl, rfl⟩
  clear z0
  go_wp2_with fail
  refine (Ct.out _).mono ?_
  rintro e w1 ⟨rfl, rfl⟩
  cases vt : (m.tm == 0)
  ·
    have HN : Hid (V = false) := by
      show _ = _
      rw [HV.out, vt]
      rfl
    go_wp2
    go_ret
    exact ⟨by rw [HN.out]; rfl, HB0.out⟩
  have Ht : Hid (V = ((m.ix == 0) && ((m.lt == 0) && ((m.cm == 0) && ((!m.fl) && ((shz m.sh) && true)))))) := by
    show _ = _
    rw [HV.out, vt]
    rfl
  go_wp2_with fail
  refine (Ci.out _).mono ?_
  rintro e w1 ⟨rfl, rfl⟩
  cases vi : (m.ix == 0)
  ·
    have HN : Hid (V = false) := by
      show _ = _
      rw [Ht.out, vi]
      rfl
    go_wp2
    go_ret
    exact ⟨by rw [HN.out]; rfl, HB0.out⟩
  have Hi : Hid (V = ((m.lt == 0) && ((m.cm == 0) && ((!m.fl) && ((shz m.sh) && true))))) := by
    show _ = _
    rw [Ht.out, vi]
    rfl
  go_wp2_with fail
  refine (Cl.out _).mono ?_
  rintro e w1 ⟨rfl, rfl⟩
  cases vl : (m.lt == 0)
  ·
    have HN : Hid (V = false) := by
      show _ = _
      rw [Hi.out, vl]
      rfl
    go_wp2
    go_ret
    exact ⟨by rw [HN.out]; rfl, HB0.out⟩
  have Hl : Hid (V = ((m.cm == 0) && ((!m.fl) && ((shz m.sh) && true)))) := by
    show _ = _
    rw [Hi.out, vl]
    rfl
  go_wp2_with fail
  refine (Cc.out _).mono ?_
  rintro e w1 ⟨rfl, rfl⟩
  cases vc : (m.cm == 0)
  ·
    have HN : Hid (V = false) := by
      show _ = _
      rw [Hl.out, vc]
      rfl
    go_wp2
    go_ret
    exact ⟨by rw [HN.out]; rfl, HB0.out⟩
  have Hc : Hid (V = ((!m.fl) && ((shz m.sh) && true))) := by
    show _ = _
    rw [Hl.out, vc]
    rfl
  go_wp2_with fail
  refine (Cf.out _).mono ?_
  rintro e w1 ⟨rfl, rfl⟩
  cases vf : (m.fl)
  rotate_left
  ·
    have HN : Hid (V = false) := by
      show _ = _
      rw [Hc.out, vf]
      rfl
    go_wp2
    go_ret
    exact ⟨by rw [HN.out]; rfl, HB0.out⟩
  have Hf : Hid (V = ((shz m.sh) && true)) := by
    show _ = _
    rw [Hc.out, vf]
    rfl
  go_wp2_with fail
  refine (Ce.out _).mono ?_
  rintro e w1 ⟨rfl, rfl⟩
  go_wp2_with fail
  refine (Cs.out _).mono ?_
  rintro e w1 ⟨rfl, rfl⟩
  have HN : Hid (V = shz m.sh) := by
    show _ = _
    rw [Hf.out]
    exact Bool.and_true _
  go_wp2_with fail
  refine CZ.out.mono ?_
  rintro e w1 ⟨rfl, hB1⟩
  have HB1 := Lib.hid (HB0.out.trans (hB1.mono (by omega)))
  clear hB1
  go_wp2
  go_ret
  exact ⟨by rw [HN.out]; rfl, HB1.out⟩
set_option maxHeartbeats 8000000 in
theorem r08_zero_0 (w : World) (m : Mb) (p : Sa) (PA : Option Addr) (n PC : Nat) (hsh : InN .i64 w p.A0 p.c0 m.sh.ns) (kt : mT m.k = false) (ki : mI m.k = false) (kl : mL m.k = false) (kc : mC m.k = false) (kf : mF m.k = false) (ke : mE m.k = false) (ks : mS m.k = false) :
    Calls Try.prog 17 #[mgV m p PA n PC] w fun e w' => e = .returned (.bool (zeroM m n)) ∧ Below w.heap.size w w' := by
  obtain ⟨g, hg⟩ : ∃ g, w.heap.size = g := ⟨_, rfl⟩
  have hb0 : Blk (w.alloc (.cells (mgC m p PA n PC) 32)) g 32 (mgC m p PA n PC) := hg ▸ Blk.new _ _ _
  have hB0 : Below g w (w.alloc (.cells (mgC m p PA n PC) 32)) := (Below.refl _ _).alloc (by omega) _
  have HSH := Lib.hid (hsh.keep (hg ▸ hB0))
  have CF := Lib.hid (fun W => r08_fields_any W m.k)
  have Ct := Lib.hid (fun W => r08_has_kind W m.k 116 false (by rw [has_t, kt]))
  have Ci := Lib.hid (fun W => r08_has_kind W m.k 105 false (by rw [has_i, ki]))
  have Cl := Lib.hid (fun W => r08_has_kind W m.k 108 false (by rw [has_l, kl]))
  have Cc := Lib.hid (fun W => r08_has_kind W m.k 99 false (by rw [has_c, kc]))
  have Cf := Lib.hid (fun W => r08_has_kind W m.k 102 false (by rw [has_f, kf]))
  have Ce := Lib.hid (fun W => r08_has_kind W m.k 101 false (by rw [has_e, ke]))
  have Cs := Lib.hid (fun W => r08_has_kind W m.k 115 false (by rw [has_s, ks]))
  obtain ⟨V, hV⟩ : ∃ V, zeroM m n = V := ⟨_, rfl⟩
  rw [hV, hg]
  have HV : Hid (V = ((m.tm == 0) && ((m.ix == 0) && ((m.lt == 0) && ((m.cm == 0) && ((!m.fl) && (((n : Int) == 0) && ((shz m.sh) && true)))))))) := by
    show _ = _
    rw [← hV, zeroM, kt, ki, kl, kc, kf, ke, ks]
    simp
  clear hV hsh kt ki kl kc kf ke ks
  unfold mgV
  go_enter Try.func17, Try.ntmps17
  go_upto_region 1 with (fail)
  change Code.wp _ _ _ _ (w.alloc (.cells (mgC m p PA n PC) 32))
  generalize (w.alloc (.cells (mgC m p PA n PC) 32)) = W0 at hb0 hB0 HSH ⊢
  try rw [hg]
  obtain ⟨z0, z1, z2, z3, z4, z5, z6, z7, z8, z9, z10, z11, z12, z13, z14, z15⟩ := hb0.mg
  have hlt : g < W0.heap.size := hb0.lt
  have HB0 := Lib.hid hB0
  have CZ := r06_Same_zer2 W0 none 0 none 0 none 0 m.sh p HSH.out InN.nil
  unfold shtV shV at CZ
  have CZ := Lib.hid CZ
  clear hB0 hb0 hg z1 z2 HSH
  go_wp2_with fail
  refine (CF.out _).mono ?_
  rintro e w1 ⟨rfl, rfl⟩
  clear z0
  go_wp2_with fail
  refine (Ct.out _).mono ?_
  rintro e w1 ⟨rfl, rfl⟩
  cases vt : (m.tm == 0)
  ·
    have HN : Hid (V = false) := by
      show _ = _
      rw [HV.out, vt]
      rfl
    go_wp2
    go_ret
    exact ⟨by rw [HN.out]; rfl, HB0.out⟩
  have Ht : Hid (V = ((m.ix == 0) && ((m.lt == 0) && ((m.cm == 0) && ((!m.fl) && (((n : Int) == 0) && ((shz m.sh) && true))))))) := by
    show _ = _
    rw [HV.out, vt]
    rfl
  go_wp2_with fail
  refine (Ci.out _).mono ?_
  rintro e w1 ⟨rfl, rfl⟩
  cases vi : (m.ix == 0)
  ·
    have HN : Hid (V = false) := by
      show _ = _
      rw [Ht.out, vi]
      rfl
    go_wp2
    go_ret
    exact ⟨by rw [HN.out]; rfl, HB0.out⟩
  have Hi : Hid (V = ((m.lt == 0) && ((m.cm == 0) && ((!m.fl) && (((n : Int) == 0) && ((shz m.sh) && true)))))) := by
    show _ = _
    rw [Ht.out, vi]
    rfl
  go_wp2_with fail
  refine (Cl.out _).mono ?_
  rintro e w1 ⟨rfl, rfl⟩
  cases vl : (m.lt == 0)
  ·
    have HN : Hid (V = false) := by
      show _ = _
      rw [Hi.out, vl]
      rfl
    go_wp2
    go_ret
    exact ⟨by rw [HN.out]; rfl, HB0.out⟩
  have Hl : Hid (V = ((m.cm == 0) && ((!m.fl) && (((n : Int) == 0) && ((shz m.sh) && true))))) := by
    show _ = _
    rw [Hi.out, vl]
    rfl
  go_wp2_with fail
  refine (Cc.out _).mono ?_
  rintro e w1 ⟨rfl, rfl⟩
  cases vc : (m.cm == 0)
  ·
    have HN : Hid (V = false) := by
      show _ = _
      rw [Hl.out, vc]
      rfl
    go_wp2
    go_ret
    exact ⟨by rw [HN.out]; rfl, HB0.out⟩
  have Hc : Hid (V = ((!m.fl) && (((n : Int) == 0) && ((shz m.sh) && true)))) := by
    show _ = _
    rw [Hl.out, vc]
    rfl
  go_wp2_with fail
  refine (Cf.out _).mono ?_
  rintro e w1 ⟨rfl, rfl⟩
  cases vf : (m.fl)
  rotate_left
  ·
    have HN : Hid (V = false) := by
      show _ = _
      rw [Hc.out, vf]
      rfl
    go_wp2
    go_ret
    exact ⟨by rw [HN.out]; rfl, HB0.out⟩
  have Hf : Hid (V = (((n : Int) == 0) && ((shz m.sh) && true))) := by
    show _ = _
    rw [Hc.out, vf]
    rfl
  go_wp2_with fail
  refine (Ce.out _).mono ?_
  rintro e w1 ⟨rfl, rfl⟩
  cases ve : ((n : Int) == 0)
  ·
    have HN : Hid (V = false) := by
      show _ = _
      rw [Hf.out, ve]
      rfl
    go_wp2
    go_ret
    exact ⟨by rw [HN.out]; rfl, HB0.out⟩
  have He : Hid (V = ((shz m.sh) && true)) := by
    show _ = _
    rw [Hf.out, ve]
    rfl
  go_wp2_with fail
  refine (Cs.out _).mono ?_
  rintro e w1 ⟨rfl, rfl⟩
  have HN : Hid (V = shz m.sh) := by
    show _ = _
    rw [He.out]
    exact Bool.and_true _
  go_wp2_with fail
  refine CZ.out.mono ?_
  rintro e w1 ⟨rfl, hB1⟩
  have HB1 := Lib.hid (HB0.out.trans (hB1.mono (by omega)))
  clear hB1
  go_wp2
  go_ret
  exact ⟨by rw [HN.out]; rfl, HB1.out⟩
theorem r08_zero_any (w : World) (m : Mb) (p : Sa) (PA : Option Addr) (n PC : Nat) (hsh : InN .i64 w p.A0 p.c0 m.sh.ns) :
    Calls Try.prog 17 #[mgV m p PA n PC] w fun e w' => e = .returned (.bool (zeroM m n)) ∧ Below w.heap.size w w' := by
  have hk := mkinds m.k
  rcases hk with h | h | h | h | h | h | ⟨h1, h2, h3, h4, h5, h6⟩
  · exact r08_zero_1 w m p PA n PC hsh (by rw [h]; rfl) (by rw [h]; rfl) (by rw [h]; rfl) (by rw [h]; rfl) (by rw [h]; rfl) (by rw [h]; rfl) (by rw [h]; rfl)
  · exact r08_zero_2 w m p PA n PC hsh (by rw [h]; rfl) (by rw [h]; rfl) (by rw [h]; rfl) (by rw [h]; rfl) (by rw [h]; rfl) (by rw [h]; rfl) (by rw [h]; rfl)
  · exact r08_zero_3 w m p PA n PC hsh (by rw [h]; rfl) (by rw [h]; rfl) (by rw [h]; rfl) (by rw [h]; rfl) (by rw [h]; rfl) (by rw [h]; rfl) (by rw [h]; rfl)
  · exact r08_zero_4 w m p PA n PC hsh (by rw [h]; rfl) (by rw [h]; rfl) (by rw [h]; rfl) (by rw [h]; rfl) (by rw [h]; rfl) (by rw [h]; rfl) (by rw [h]; rfl)
  · exact r08_zero_5 w m p PA n PC hsh (by rw [h]; rfl) (by rw [h]; rfl) (by rw [h]; rfl) (by rw [h]; rfl) (by rw [h]; rfl) (by rw [h]; rfl) (by rw [h]; rfl)
  · exact r08_zero_6 w m p PA n PC hsh (by rw [h]; rfl) (by rw [h]; rfl) (by rw [h]; rfl) (by rw [h]; rfl) (by rw [h]; rfl) (by rw [h]; rfl) (by rw [h]; rfl)
  · exact r08_zero_0 w m p PA n PC hsh (by simp [mT, h1, h2, h3, h4, h5, h6]) (by simp [mI, h1, h2, h3, h4, h5, h6]) (by simp [mL, h1, h2, h3, h4, h5, h6]) (by simp [mC, h1, h2, h3, h4, h5, h6]) (by simp [mF, h1, h2, h3, h4, h5, h6]) (by simp [mE, h1, h2, h3, h4, h5, h6]) (by simp [mS, h1, h2, h3, h4, h5, h6])
end Go.Proofs.Ytjnkpjhggeibeaa
