/- What lasts, compared by the document: two that are the same. -/
import Derived.Test.YtadkkhbbempaaaaHdM
import Derived.Test.YtadkkhbbempaaaaShS2
import Derived.Test.YtadkkhbbempaaaaClass
namespace Go.Proofs.Ytadkkhbbempaaaa
set_option maxRecDepth 100000
open Go.RowKit

set_option maxHeartbeats 8000000 in
theorem r04_SameEntries_eq (w : World) (A1 : Option Addr) (c1 : Nat) (xs : List Ec) (A2 : Option Addr) (c2 : Nat) (ys : List Ec) (h1 : InE w A1 c1 xs) (h2 : InE w A2 c2 ys) (he : xs.map (·.e) = ys.map (·.e)) :
    Calls Try.prog 39 #[.slice A1 xs.length c1, .slice A2 ys.length c2] w fun e w' => e = .returned (.bool true) ∧ Below w.heap.size w w' := by
  have hlen : ys.length = xs.length := by
    have := congrArg List.length he
    simpa using this.symm
  rw [hlen]
  obtain ⟨g, hg⟩ : ∃ g, w.heap.size = g := ⟨_, rfl⟩
  rw [hg]
  have H1 := Lib.hid h1
  have H2 := Lib.hid h2
  have HLEN := Lib.hid hlen
  have HEQ := Lib.hid he
  have hsm := h1.small
  obtain ⟨n, hn⟩ : ∃ n, xs.length = n := ⟨_, rfl⟩
  have HN := Lib.hid hn
  rw [hn] at hsm ⊢
  clear h1 h2 he hlen hn
  go_enter Try.func39, Try.ntmps39
  go_wp2_with fail
  go_loopw [5, 13] (fun _ iv wr => ∃ k : Nat, iv = .int .i64 (k : Int) ∧ k ≤ n ∧ Below g w wr) (fun _ iv _ => n - (intOf iv).toNat)
  case atStart => exact ⟨0, rfl, by omega, Below.refl _ _⟩
  case round =>
    obtain ⟨k, rfl, hk, hB⟩ := hrel
    have HB := Lib.hid hB
    clear hB
    by_cases hkl : k < n
    · have hk1 : k < xs.length := by have := HN.out; omega
      have hk2 : k < ys.length := by have := HLEN.out; omega
      obtain ⟨b, off, rfl, hbb, hat1⟩ := H1.out.rows.ec (by omega)
      obtain ⟨b2, off2, rfl, hbb2, hat2⟩ := H2.out.rows.ec (by omega)
      have hxy : ys[k].e = xs[k].e := by
        have h3 : (xs.map (·.e))[k]? = (ys.map (·.e))[k]? := by rw [HEQ.out]
        simp only [List.getElem?_map, List.getElem?_eq_getElem hk1, List.getElem?_eq_getElem hk2, Option.map_some, Option.some.injEq] at h3
        exact h3.symm
      have a1 := hat1 k hk1
      have a2 := hat2 k hk2
      have i1 := H1.out.inn _ (List.getElem_mem hk1)
      have i2 := H2.out.inn _ (List.getElem_mem hk2)
      obtain ⟨x, hx⟩ : ∃ x, xs[k] = x := ⟨_, rfl⟩
      obtain ⟨y, hy⟩ : ∃ y, ys[k] = y := ⟨_, rfl⟩
      rw [hx] at a1 i1 hxy
      rw [hy] at a2 i2 hxy
      obtain ⟨xa, xc, xe⟩ := x
      obtain ⟨ya, yc, ye⟩ := y
      simp only at hxy i1 i2
      subst hxy
      obtain ⟨x, hx2⟩ : ∃ x : Ec, x = ⟨xa, xc, ye⟩ := ⟨_, rfl⟩
      obtain ⟨y, hy2⟩ : ∃ y : Ec, y = ⟨ya, yc, ye⟩ := ⟨_, rfl⟩
      have hye : y.e = x.e := by rw [hx2, hy2]
      rw [← hx2] at a1
      rw [← hy2] at a2
      have i1' : InN .i64 w x.A x.c x.e.l := by rw [hx2]; exact i1
      have i2' : InN .i64 w y.A y.c x.e.l := by rw [hx2, hy2]; exact i2
      obtain ⟨KW, hKW⟩ : ∃ KW : World → Prop, KW = fun w1 => Below g w w1 := ⟨_, rfl⟩
      have KF : Hid (∀ w1, KW w1 → Below g w w1) := fun w1 k1 => by rw [hKW] at k1; exact k1
      have KC : Hid (∀ w1 w2, KW w1 → Below w1.heap.size w1 w2 → KW w2) := fun w1 w2 k1 k2 => by
        rw [hKW] at k1 ⊢
        exact k1.trans (k2.mono (by have := k1.size; omega))
      have HX : Hid (∀ w1, KW w1 → EcAt w1 b (off + k * 9) x) := fun w1 k1 => by
        have kb := KF.out _ k1
        have hc : ∀ o, w1.cell? ⟨b, o, none⟩ = w.cell? ⟨b, o, none⟩ := fun o => kb.cell (p := ⟨b, o, none⟩) (by show b < g; omega)
        exact ⟨(hc _).trans a1.c0, (hc _).trans a1.c1, (hc _).trans a1.c2, (hc _).trans a1.c3, (hc _).trans a1.c4, (hc _).trans a1.c5, (hc _).trans a1.c6, (hc _).trans a1.c7, (hc _).trans a1.c8⟩
      have HY : Hid (∀ w1, KW w1 → EcAt w1 b2 (off2 + k * 9) ⟨y.A, y.c, x.e⟩) := fun w1 k1 => by
        have kb := KF.out _ k1
        have hc : ∀ o, w1.cell? ⟨b2, o, none⟩ = w.cell? ⟨b2, o, none⟩ := fun o => kb.cell (p := ⟨b2, o, none⟩) (by show b2 < g; omega)
        rw [← hye]
        exact ⟨(hc _).trans a2.c0, (hc _).trans a2.c1, (hc _).trans a2.c2, (hc _).trans a2.c3, (hc _).trans a2.c4, (hc _).trans a2.c5, (hc _).trans a2.c6, (hc _).trans a2.c7, (hc _).trans a2.c8⟩
      have F0 : ∀ p : InClass KW, p.w.cell? ⟨b, off + k * 9, none⟩ = some (.int .u64 x.e.tm) := fun p => (HX.out _ p.ok).c0
      have F1 : ∀ p : InClass KW, p.w.cell? ⟨b, off + k * 9 + 1, none⟩ = some (.int .i64 x.e.k) := fun p => (HX.out _ p.ok).c1
      have F2 : ∀ p : InClass KW, p.w.cell? ⟨b, off + k * 9 + 2, none⟩ = some (.int .i64 x.e.n) := fun p => (HX.out _ p.ok).c2
      have F3 : ∀ p : InClass KW, p.w.cell? ⟨b, off + k * 9 + 3, none⟩ = some (.int .i64 x.e.t) := fun p => (HX.out _ p.ok).c3
      have F4 : ∀ p : InClass KW, p.w.cell? ⟨b, off + k * 9 + 4, none⟩ = some (.slice x.A x.e.l.length x.c) := fun p => (HX.out _ p.ok).c4
      have F5 : ∀ p : InClass KW, p.w.cell? ⟨b, off + k * 9 + 5, none⟩ = some (.int .u64 x.e.b) := fun p => (HX.out _ p.ok).c5
      have F6 : ∀ p : InClass KW, p.w.cell? ⟨b, off + k * 9 + 6, none⟩ = some (.int .u64 x.e.q) := fun p => (HX.out _ p.ok).c6
      have F7 : ∀ p : InClass KW, p.w.cell? ⟨b, off + k * 9 + 7, none⟩ = some (.int .u64 x.e.s) := fun p => (HX.out _ p.ok).c7
      have F8 : ∀ p : InClass KW, p.w.cell? ⟨b, off + k * 9 + 8, none⟩ = some (.int .u64 x.e.m) := fun p => (HX.out _ p.ok).c8
      have G0 : ∀ p : InClass KW, p.w.cell? ⟨b2, off2 + k * 9, none⟩ = some (.int .u64 x.e.tm) := fun p => (HY.out _ p.ok).c0
      have G1 : ∀ p : InClass KW, p.w.cell? ⟨b2, off2 + k * 9 + 1, none⟩ = some (.int .i64 x.e.k) := fun p => (HY.out _ p.ok).c1
      have G2 : ∀ p : InClass KW, p.w.cell? ⟨b2, off2 + k * 9 + 2, none⟩ = some (.int .i64 x.e.n) := fun p => (HY.out _ p.ok).c2
      have G3 : ∀ p : InClass KW, p.w.cell? ⟨b2, off2 + k * 9 + 3, none⟩ = some (.int .i64 x.e.t) := fun p => (HY.out _ p.ok).c3
      have G4 : ∀ p : InClass KW, p.w.cell? ⟨b2, off2 + k * 9 + 4, none⟩ = some (.slice y.A x.e.l.length y.c) := fun p => (HY.out _ p.ok).c4
      have G5 : ∀ p : InClass KW, p.w.cell? ⟨b2, off2 + k * 9 + 5, none⟩ = some (.int .u64 x.e.b) := fun p => (HY.out _ p.ok).c5
      have G6 : ∀ p : InClass KW, p.w.cell? ⟨b2, off2 + k * 9 + 6, none⟩ = some (.int .u64 x.e.q) := fun p => (HY.out _ p.ok).c6
      have G7 : ∀ p : InClass KW, p.w.cell? ⟨b2, off2 + k * 9 + 7, none⟩ = some (.int .u64 x.e.s) := fun p => (HY.out _ p.ok).c7
      have G8 : ∀ p : InClass KW, p.w.cell? ⟨b2, off2 + k * 9 + 8, none⟩ = some (.int .u64 x.e.m) := fun p => (HY.out _ p.ok).c8
      have CX : Hid (∀ p : InClass KW, Calls Try.prog 46 #[.agg #[.int .i64 x.e.k, .int .i64 x.e.n, .int .i64 x.e.t, .slice x.A x.e.l.length x.c, .int .u64 x.e.b, .int .u64 x.e.q, .int .u64 x.e.s, .int .u64 x.e.m], .agg #[.int .i64 x.e.k, .int .i64 x.e.n, .int .i64 x.e.t, .slice y.A x.e.l.length y.c, .int .u64 x.e.b, .int .u64 x.e.q, .int .u64 x.e.s, .int .u64 x.e.m]] p.w fun e w' => e = .returned (.bool true) ∧ Below p.w.heap.size p.w w') := fun p => by
        have kb := KF.out _ p.ok
        have := ref_Same_any p.w x.e.k x.e.n x.e.t x.A x.c x.e.l x.e.b x.e.q x.e.s x.e.m x.e.k x.e.n x.e.t y.A y.c x.e.l x.e.b x.e.q x.e.s x.e.m (i1'.keep (hg ▸ kb)) (i2'.keep (hg ▸ kb))
        rw [sameB_refl] at this
        exact this
      have K1 : KW wr.drew := by rw [hKW]; exact HB.out.drew
      haveI NE : Nonempty (InClass KW) := ⟨⟨wr.drew, K1⟩⟩
      clear a1 a2 i1 i2 i1' i2' hx hy hx2 hy2 hye hat1 hat2 hKW
      go_wp2_with fail
      refine wp_region_class_lit KW (by kernel_rfl) (by kernel_rfl) K1 ?_
      repeat (go_big_quiet_step ((go_at_call 46; refine (CX.out _).mono ?_; rintro e8 w8 ⟨he, hB8⟩; exact ⟨he, ⟨w8, KC.out _ w8 (InClass.ok _) hB8⟩, rfl⟩)))
      refine wpQuiet_nil ?_
      intro _ hw9
      obtain ⟨p9, hw9⟩ := hw9
      subst hw9
      have HB9 := Lib.hid (KF.out _ p9.ok)
      clear F0 F1 F2 F3 F4 F5 F6 F7 F8 G0 G1 G2 G3 G4 G5 G6 G7 G8
      go_wp2
      go_roundw
      case rel => exact ⟨k + 1, by go_num, by omega, HB9.out⟩
      case measure => simp [intOf]; omega
    · obtain rfl : k = n := by omega
      go_wp2
      go_ret
      exact ⟨rfl, HB.out⟩

set_option maxHeartbeats 8000000 in
theorem r13_Same_eq (w : World) (h : Hb) (p : Sa) (PA : Option Addr) (PC : Nat) (xs : List Ec) (q : Sa) (QA : Option Addr) (QC : Nat) (ys : List Ec) (h1 : InH w h p PA PC xs) (h2 : InH w h q QA QC ys) (he : xs.map (·.e) = ys.map (·.e)) :
    Calls Try.prog 15 #[hrdV h p PA PC xs, hrdV h q QA QC ys] w fun e w' => e = .returned (.bool true) ∧ Below w.heap.size w w' := by
  obtain ⟨g, hg⟩ : ∃ g, w.heap.size = g := ⟨_, rfl⟩
  rw [hg]
  obtain ⟨gr, hgr⟩ : ∃ gr, g + 1 = gr := ⟨_, rfl⟩
  have hBx : Below g w ((w.alloc (.cells (hrdC h p PA PC xs) 32)).alloc (.cells (hrdC h q QA QC ys) 32)) := ((Below.refl _ _).alloc (by omega) _).alloc (by simp; omega) _
  have hsz : (w.alloc (.cells (hrdC h p PA PC xs) 32)).heap.size = gr := by simp [hg, hgr]
  have hb1 : Blk ((w.alloc (.cells (hrdC h p PA PC xs) 32)).alloc (.cells (hrdC h q QA QC ys) 32)) g 32 (hrdC h p PA PC xs) := (hg ▸ Blk.new w 32 (hrdC h p PA PC xs) : Blk (w.alloc (.cells (hrdC h p PA PC xs) 32)) g 32 (hrdC h p PA PC xs)).alloc _
  have hr1 : Blk ((w.alloc (.cells (hrdC h p PA PC xs) 32)).alloc (.cells (hrdC h q QA QC ys) 32)) gr 32 (hrdC h q QA QC ys) := hsz ▸ Blk.new _ _ _
  have C1 := fun W (k1 : InSh W h.sh p) (k2 : InSh W h.sh q) => r06_Same_eq W h.sh.i h.sh.t p.A0 p.c0 q.A0 q.c0 h.sh.ns h.sh.lim h.sh.nxt p.A1 p.c1 q.A1 q.c1 h.sh.hs p.A2 p.c2 q.A2 q.c2 h.sh.ls k1.n k2.n k1.h k2.h k1.l k2.l
  have C2 := fun W (k1 : InE W PA PC xs) (k2 : InE W QA QC ys) => r04_SameEntries_eq W PA PC xs QA QC ys k1 k2 he
  unfold shV at C1
  have C1 := Lib.hid C1
  have C2 := Lib.hid C2
  have H1 := Lib.hid h1
  have H2 := Lib.hid h2
  clear hsz h1 h2 he
  unfold hrdV
  go_enter Try.func15, Try.ntmps15
  go_upto_region 1 with (fail)
  change Code.wp _ _ _ _ ((w.alloc (.cells (hrdC h p PA PC xs) 32)).alloc (.cells (hrdC h q QA QC ys) 32))
  generalize ((w.alloc (.cells (hrdC h p PA PC xs) 32)).alloc (.cells (hrdC h q QA QC ys) 32)) = W at hb1 hr1 hBx ⊢
  try rw [hgr]
  have HB := Lib.hid hBx
  obtain ⟨z0, z1, z2, z3, z4, z5, z6, z7, z8, z9, z10⟩ := hb1.hrd
  obtain ⟨q0, q1, q2, q3, q4, q5, q6, q7, q8, q9, q10⟩ := hr1.hrd
  have X1 := Lib.hid (C1.out W (H1.out.sh.keep (hg ▸ hBx)) (H2.out.sh.keep (hg ▸ hBx)))
  have hz1 := hb1.lt
  have hz2 := hr1.lt
  clear hBx C1
  go_wp2_with fail
  refine X1.out.mono ?_
  rintro e w1 ⟨rfl, hB1⟩
  have hb2 := hb1.below hB1 hz1
  have hr2 := hr1.below hB1 hz2
  have HB1 := Lib.hid (HB.out.trans (hB1.mono (Nat.le_of_lt hz1)))
  have X2 := Lib.hid (C2.out w1 (H1.out.log.keep (hg ▸ HB1.out)) (H2.out.log.keep (hg ▸ HB1.out)))
  have hz3 := hb2.lt
  clear hB1 hb1 hr1 z0 z1 z2 z3 z4 z5 z6 z7 z8 z9 z10 q0 q1 q2 q3 q4 q5 q6 q7 q8 q9 q10 X1 C2 HB
  have z10 := hb2.hrd.z10
  have q10 := hr2.hrd.z10
  clear hb2 hr2
  go_wp2_with fail
  refine X2.out.mono ?_
  rintro e w2 ⟨rfl, hB2⟩
  have HB2 := Lib.hid (HB1.out.trans (hB2.mono (Nat.le_of_lt hz3)))
  clear hB2 z10 q10 X2
  go_wp2
  go_ret
  exact ⟨rfl, HB2.out⟩
end Go.Proofs.Ytadkkhbbempaaaa
