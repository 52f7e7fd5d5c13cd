/- Ledgers: the document's Apply of a Reclaim that fits. -/
import Derived.Test.YtfkaggdjhopjpaaAp
import Derived.Test.YtfkaggdjhopjpaaCmdJ
import Derived.Test.YtfkaggdjhopjpaaMapR
namespace Go.Proofs.Ytfkaggdjhopjpaa
set_option maxRecDepth 100000
open Go.RowKit

def ansA (c t s : Int) : Array Value := #[.int .i64 c, .int .i64 t, .int .u64 s]
def recA (r : Rw) : Array Value := #[.int .i64 6, .int .i64 0, .int .i64 r.tok, .slice none 0 0, .int .u64 0, .int .u64 0, .int .u64 r.ser, .int .u64 r.stp]
def led0 : Array Value := #[.int .i64 0, .int .u64 0, .slice none 0 0, .slice none 0 0]
theorem info_Led1 : (Try.prog.info? 26).map (·.size) = some 4 := by kernel_rfl
theorem info_Ans1 : (Try.prog.info? 41).map (·.size) = some 3 := by kernel_rfl
theorem info_Cd1 : (Try.prog.info? 39).map (·.size) = some 8 := by kernel_rfl
theorem ledC_one (a b : Int) (A : Option Addr) (n c : Nat) (A2 : Option Addr) (n2 c2 : Nat) : (ledC a b (.slice A n c) (.slice A2 n2 c2)).all (·.oneCell') = true := by simp [ledC, Value.oneCell']
theorem ansA_one (c t s : Int) : (ansA c t s).all (·.oneCell') = true := by simp [ansA, Value.oneCell']
theorem OwS.past17 {α : Type} {f : α → List Value} {s : Nat} {w w' : World} {base q : Nat} {A : Option Addr} {c : Nat} {l : List α} (h : OwS f s w base A c l) (hg : w.grownBy w' (some q)) (hq : q < base) : OwS f s w' base A c l := by
  refine ⟨⟨⟨h.inn.reads.1, fun h0 => ?_⟩, h.inn.cap, h.inn.small⟩, h.own⟩
  obtain ⟨b, off, e, hb, hc⟩ := h.inn.reads.2 h0
  have := h.own _ e
  exact ⟨b, off, e, Nat.lt_of_lt_of_le hb hg.size, fun j u hu => (World.cell?_of_block (hg.block b hb (fun e => by injection e with e; dsimp only at this; omega))).trans (hc j u hu)⟩
theorem results_cc {fn : Func} {t u v : Tmp} {ty ty2 : TypeId} (h : fn.results = #[.cell t ty, .cell u ty2, .tmp v]) {tmps : Array Value} {P : Program} {w : World} {a b : Addr} {x y : Value} (ha : tmps.getD t undef = .pointer (some a)) (hl : (loadVar ty a).run P w = .ok x w) (hb : tmps.getD u undef = .pointer (some b)) (hl2 : (loadVar ty2 b).run P w = .ok y w) :
    (results fn tmps).run P w = .ok (.tuple #[x, y, tmps.getD v undef]) w := by
  have ha2 : tmps[t]?.getD undef = .pointer (some a) := by simpa using ha
  have hb2 : tmps[u]?.getD undef = .pointer (some b) := by simpa using hb
  have e : ∀ a : Addr, (asAddr (.pointer (some a))).run P w = .ok a w := fun _ => rfl
  simp [results, h, ha2, hb2, e, hl, hl2]
/-- A Reclaim that may be. -/
structure Rw.Rec (r : Rw) : Prop where
  t1 : 1 ≤ r.tok
  t2 : r.tok ≤ 65535
  s1 : 1 ≤ r.ser
  s2 : r.ser < 18446744073709551616
  m1 : 1 ≤ r.stp
  m2 : r.stp < 18446744073709551616
theorem Rw.Rec.ok {r : Rw} (h : r.Rec) : (numsOk 6 0 r.tok 0 0 r.ser r.stp && listOk 6 []) = true := by
  have e1 : hasB (fld 6) 110 = false := rfl
  have e2 : hasB (fld 6) 116 = true := rfl
  have e3 : hasB (fld 6) 98 = false := rfl
  have e4 : hasB (fld 6) 113 = false := rfl
  have e5 : hasB (fld 6) 115 = true := rfl
  have e6 : hasB (fld 6) 109 = true := rfl
  have e7 : hasB (fld 6) 108 = false := rfl
  have e8 : kI 6 = true := rfl
  obtain ⟨t1, t2, s1, s2, m1, m2⟩ := h
  unfold numsOk listOk
  rw [e1, e2, e3, e4, e5, e6, e7, e8]
  simp [rightB]
  omega
set_option maxHeartbeats 8000000 in
theorem r05_Apply_reclaim (w : World) (lim nxt : Int) (Ah : Option Addr) (ch : Nat) (hs : List Hd) (Al : Option Addr) (cl : Nat) (ls : List Ls) (i : Int) (r : Rw) (x : Hd)
    (hh : InS hdC 5 w Ah ch hs) (hl : InS lsC 6 w Al cl ls) (ok : LedOk lim nxt hs ls) (hi : 1 ≤ i) (hr : r.Rec) (hx : findT hs r.tok = some x) (hx1 : x.ser = r.ser) (hx2 : x.stp = r.stp) :
    Calls Try.prog 14 #[ledV lim nxt (.slice Ah hs.length ch) (.slice Al ls.length cl), .int .u64 i, cmdV 6 0 r.tok (.slice none 0 0) 0 0 r.ser r.stp] w fun e w' =>
      ∃ A1 c1 A2 c2, e = .returned (.tuple #[ledV lim nxt (.slice A1 (outT hs r.tok).length c1) (.slice A2 ls.length c2), .agg #[.int .i64 5, .int .i64 0, .int .u64 0], .int .i64 0]) ∧ InS hdC 5 w' A1 c1 (outT hs r.tok) ∧ InS lsC 6 w' A2 c2 ls ∧ Below w.heap.size w w' ∧ (∀ q, A1 = some q → w.heap.size ≤ q.block) ∧ (∀ q, A2 = some q → w.heap.size ≤ q.block) := by
  obtain ⟨g, hg⟩ : ∃ g, w.heap.size = g := ⟨_, rfl⟩
  obtain ⟨g1, hg1⟩ : ∃ g1, g + 1 = g1 := ⟨_, rfl⟩
  obtain ⟨g2, hg2⟩ : ∃ g2, g1 + 1 = g2 := ⟨_, rfl⟩
  obtain ⟨g3, hg3⟩ : ∃ g3, g2 + 1 = g3 := ⟨_, rfl⟩
  obtain ⟨Wa, hWa⟩ : ∃ W, w.alloc (.cells (ledC lim nxt (.slice Ah hs.length ch) (.slice Al ls.length cl)) 26) = W := ⟨_, rfl⟩
  obtain ⟨Wb, hWb⟩ : ∃ W, Wa.alloc (.cells (recA r) 39) = W := ⟨_, rfl⟩
  obtain ⟨Wc, hWc⟩ : ∃ W, Wb.alloc (.cells led0 26) = W := ⟨_, rfl⟩
  obtain ⟨W0, hW0⟩ : ∃ W, Wc.alloc (.cells (ansA 0 0 0) 41) = W := ⟨_, rfl⟩
  have sa : Wa.heap.size = g1 := by rw [← hWa]; simp [hg, hg1]
  have sb : Wb.heap.size = g2 := by rw [← hWb]; simp [sa, hg2]
  have sc : Wc.heap.size = g3 := by rw [← hWc]; simp [sb, hg3]
  have s0 : W0.heap.size = g3 + 1 := by rw [← hW0]; simp [sc]
  have ba : Blk Wa g 26 (ledC lim nxt (.slice Ah hs.length ch) (.slice Al ls.length cl)) := by rw [← hWa, ← hg]; exact Blk.new _ _ _
  have bb : Blk Wb g1 39 (recA r) := by rw [← hWb, ← sa]; exact Blk.new _ _ _
  have bc : Blk Wc g2 26 led0 := by rw [← hWc, ← sb]; exact Blk.new _ _ _
  have bd : Blk W0 g3 41 (ansA 0 0 0) := by rw [← hW0, ← sc]; exact Blk.new _ _ _
  have hb0 : Blk W0 g 26 (ledC lim nxt (.slice Ah hs.length ch) (.slice Al ls.length cl)) := by rw [← hW0, ← hWc, ← hWb]; exact ((ba.alloc _).alloc _).alloc _
  have hc0 : Blk W0 g1 39 (recA r) := by rw [← hW0, ← hWc]; exact (bb.alloc _).alloc _
  have hr0 : Blk W0 g2 26 led0 := by rw [← hW0]; exact bc.alloc _
  have hB0 : Below g w W0 := by rw [← hW0, ← hWc, ← hWb, ← hWa]; exact ((((Below.refl _ _).alloc (by omega) _).alloc (by rw [hWa]; omega) _).alloc (by rw [hWa, hWb]; omega) _).alloc (by rw [hWa, hWb, hWc]; omega) _
  have X1' := r05_Check_any W0 lim nxt Ah ch hs Al cl ls (hh.keep (hg ▸ hB0)) (hl.keep (hg ▸ hB0))
  rw [show decide (LedOk lim nxt hs ls) = true from decide_eq_true ok] at X1'
  have e0 : errLed true = 0 := rfl
  rw [e0] at X1'
  have C2 := fun W => ref_Check_any W 6 0 r.tok none 0 [] 0 0 r.ser r.stp InN.nil (by decide) (by have := hr.t1; have := hr.t2; simp [Lit.wf, IntKind.min, IntKind.max, IntKind.bits, IntKind.signed]; omega)
  have e1 : errCmd true = 0 := rfl
  rw [hr.ok, e1] at C2
  have C3 := fun W h1 h2 => r05_Copy_any W lim nxt Ah ch hs Al cl ls h1 h2
  have C4 := fun W A0 c0 A1 c1 h1 => r05_Find_any W lim nxt A0 c0 hs A1 c1 ls.length r.tok h1
  have C5 := fun W A0 c0 h1 => r05_without_any W A0 c0 hs r.tok h1 ok.head.len
  rw [hx] at C4
  simp only [Option.getD_some, Option.isSome_some] at C4
  unfold ledV at X1' C3 C4 ⊢
  unfold cmdV at C2 ⊢
  simp only [List.length_nil] at C2
  unfold hdV at C4
  have X1 := Lib.hid X1'
  have C2 := Lib.hid C2
  have C3 := Lib.hid C3
  have C4 := Lib.hid C4
  have C5 := Lib.hid C5
  have HH := Lib.hid hh
  have HL := Lib.hid hl
  have HR := Lib.hid hr
  have HX1 := Lib.hid hx1
  have HX2 := Lib.hid hx2
  clear hx1 hx2
  have hi0 : (i == 0) = false := by
    have : i ≠ 0 := by omega
    simpa using this
  rw [hg]
  have HG := Lib.hid hg
  have HGS : Hid (g + 1 = g1 ∧ g1 + 1 = g2 ∧ g2 + 1 = g3) := ⟨hg1, hg2, hg3⟩
  clear hh hl ok hr hx X1' e0 e1 sa sb sc ba bb bc
  go_enter Try.func14, Try.ntmps14
  go_upto_region 1 with (fail)
  have hWW : (((w.alloc (.cells (ledC lim nxt (.slice Ah hs.length ch) (.slice Al ls.length cl)) 26)).alloc (.cells (recA r) 39)).alloc (.cells led0 26)).alloc (.cells (ansA 0 0 0) 41) = W0 := by rw [hWa, hWb, hWc, hW0]
  change Code.wp _ _ _ _ ((((w.alloc (.cells (ledC lim nxt (.slice Ah hs.length ch) (.slice Al ls.length cl)) 26)).alloc (.cells (recA r) 39)).alloc (.cells led0 26)).alloc (.cells (ansA 0 0 0) 41))
  rw [hWW]
  try rw [hg]
  try rw [hg1]
  try rw [hg2]
  try rw [hg3]
  clear hWW hWa hWb hWc hW0 s0 hg
  have HB0 := Lib.hid hB0
  have HC0 := Lib.hid hc0
  have HR0 := Lib.hid hr0
  have HD0 := Lib.hid bd
  have HK0 := Lib.hid hb0
  clear hB0 hc0 hr0 bd
  go_wp2_with (refine wpList_load_row rfl 26 _ rfl g rfl 26 (ledC lim nxt (.slice Ah hs.length ch) (.slice Al ls.length cl)) hb0 _ Try.underlying26 rfl info_Led1 ?_)
  refine X1.out.mono ?_
  rintro e w1 ⟨rfl, hB1⟩
  have hc1 := HC0.out.below hB1 HC0.out.lt
  have HK1 := Lib.hid (HK0.out.below hB1 HK0.out.lt)
  have HC1 := Lib.hid hc1
  have HR1 := Lib.hid (HR0.out.below hB1 HR0.out.lt)
  have HD1 := Lib.hid (HD0.out.below hB1 HD0.out.lt)
  have HB1 := Lib.hid (HB0.out.trans (hB1.mono (by have := HR0.out.lt; have := HGS.out; omega)))
  clear hB1 hb0 X1 HB0 HC0 HR0 HD0 HK0
  go_wp2_with (refine wpList_load_row rfl 39 _ rfl g1 rfl 39 (recA r) hc1 _ Try.underlying39 rfl info_Cd1 ?_)
  refine (C2.out _).mono ?_
  rintro e w2 ⟨rfl, hB2⟩
  have hb2 := HK1.out.below hB2 HK1.out.lt
  have HK2 := Lib.hid hb2
  have HC2 := Lib.hid (HC1.out.below hB2 HC1.out.lt)
  have HR2 := Lib.hid (HR1.out.below hB2 HR1.out.lt)
  have HD2 := Lib.hid (HD1.out.below hB2 HD1.out.lt)
  have HB2 := Lib.hid (HB1.out.trans (hB2.mono (by have := HR1.out.lt; have := HGS.out; omega)))
  clear hB2 hc1 C2 HB1 HC1 HR1 HD1 HK1
  have X3 := C3.out w2 (HH.out.keep (HG.out ▸ HB2.out)) (HL.out.keep (HG.out ▸ HB2.out))
  have X3 := Lib.hid X3
  clear C3
  go_wp2_with (refine wpList_load_row rfl 26 _ rfl g rfl 26 (ledC lim nxt (.slice Ah hs.length ch) (.slice Al ls.length cl)) hb2 _ Try.underlying26 rfl info_Led1 ?_)
  refine X3.out.mono ?_
  rintro e w3 ⟨A3, c3, A4, c4, rfl, hin3, hB3⟩
  have hb3 := HK2.out.below hB3 HK2.out.lt
  have hc3 := HC2.out.below hB3 HC2.out.lt
  have HR3 := HR2.out.below hB3 HR2.out.lt
  have HD3 := HD2.out.below hB3 HD2.out.lt
  have HB3 := HB2.out.trans (hB3.mono (by have := HR2.out.lt; have := HGS.out; omega))
  have hz3 : g3 < w2.heap.size := HD2.out.lt
  have hb4 : Blk (w3.setRow g (ledC lim nxt (.slice A3 hs.length c3) (.slice A4 ls.length c4))) g 26 (ledC lim nxt (.slice A3 hs.length c3) (.slice A4 ls.length c4)) := Blk.row hb3
  have hc4 : Blk (w3.setRow g (ledC lim nxt (.slice A3 hs.length c3) (.slice A4 ls.length c4))) g1 39 (recA r) := Blk.rowFar hc3 (by have := HGS.out; omega)
  have hr4 : Blk (w3.setRow g (ledC lim nxt (.slice A3 hs.length c3) (.slice A4 ls.length c4))) g2 26 led0 := Blk.rowFar HR3 (by have := HGS.out; omega)
  have hd4 : Blk (w3.setRow g (ledC lim nxt (.slice A3 hs.length c3) (.slice A4 ls.length c4))) g3 41 (ansA 0 0 0) := Blk.rowFar HD3 (by have := HGS.out; omega)
  have hB4 : Below g w (w3.setRow g (ledC lim nxt (.slice A3 hs.length c3) (.slice A4 ls.length c4))) := row_below HB3 (Nat.le_refl _) _
  have hgl : g < w2.heap.size := by have := HGS.out; omega
  have hin4 : LedIn (w3.setRow g (ledC lim nxt (.slice A3 hs.length c3) (.slice A4 ls.length c4))) w2.heap.size A3 c3 hs A4 c4 ls := ⟨hin3.hh.past17 (row_grown g _) hgl, hin3.hl.past17 (row_grown g _) hgl⟩
  have hsz4 : w2.heap.size ≤ (w3.setRow g (ledC lim nxt (.slice A3 hs.length c3) (.slice A4 ls.length c4))).heap.size := by rw [row_size]; exact hB3.size
  obtain ⟨B, hBB⟩ : ∃ B, w2.heap.size = B := ⟨_, rfl⟩
  rw [hBB] at hin4 hz3 hsz4
  have HB3' := Lib.hid hb3
  clear HB2 HC2 HR2 HD2 HK2 hb2 X3 hB3 hc3 HR3 HD3 HB3 hin3 hgl hb3 hBB
  go_upto_region 8 with (refine wpList_store_row rfl 26 _ _ rfl g (ledC lim nxt (.slice A3 hs.length c3) (.slice A4 ls.length c4)) rfl rfl 26 (ledC lim nxt (.slice Ah hs.length ch) (.slice Al ls.length cl)) HB3'.out info_Led1 rfl (ledC_one _ _ _ _ _ _ _ _) ?_)
  change Code.wp _ _ _ _ (w3.setRow g (ledC lim nxt (.slice A3 hs.length c3) (.slice A4 ls.length c4)))
  generalize (w3.setRow g (ledC lim nxt (.slice A3 hs.length c3) (.slice A4 ls.length c4))) = W4 at hb4 hc4 hr4 hd4 hB4 hin4 hsz4 ⊢
  have k0 : W4.cell? ⟨g1, 0, none⟩ = some (.int .i64 6) := (hc4.cell 0).trans rfl
  have k2 : W4.cell? ⟨g1, 2, none⟩ = some (.int .i64 r.tok) := (hc4.cell 2).trans rfl
  have X4 := Lib.hid (C4.out W4 A3 c3 A4 c4 hin4.hh.inn)
  have HC4 := Lib.hid hc4
  have HR4 := Lib.hid hr4
  have HD4 := Lib.hid hd4
  have HB4 := Lib.hid hB4
  have HI4 := Lib.hid hin4
  have HK4 := Lib.hid hb4
  clear hc4 hr4 hd4 hB4 hin4 C4 HB3'
  go_wp2_with (refine wpList_load_row rfl 26 _ rfl g rfl 26 (ledC lim nxt (.slice A3 hs.length c3) (.slice A4 ls.length c4)) hb4 _ Try.underlying26 rfl info_Led1 ?_)
  refine X4.out.mono ?_
  rintro e w5 ⟨rfl, hB5⟩
  obtain ⟨g6, hg6⟩ : ∃ g6, w5.heap.size = g6 := ⟨_, rfl⟩
  have hal : Below W4.heap.size W4 (w5.alloc (.cells (hdA x) 55)) := hB5.alloc hB5.size _
  have hx6 : Blk (w5.alloc (.cells (hdA x) 55)) g6 55 (hdA x) := hg6 ▸ Blk.new _ _ _
  have hb6 := HK4.out.below hal HK4.out.lt
  have hc6 := HC4.out.below hal HC4.out.lt
  have HR6 := Lib.hid (HR4.out.below hal HR4.out.lt)
  have HD6 := Lib.hid (HD4.out.below hal HD4.out.lt)
  have HI6 := Lib.hid (HI4.out.keep hal)
  have HB6 := Lib.hid (HB4.out.trans (hal.mono (by have := HR4.out.lt; have := HGS.out; omega)))
  have hsz6 : B ≤ (w5.alloc (.cells (hdA x) 55)).heap.size := by have := hal.size; omega
  clear HC4 HR4 HD4 HB4 HI4 HK4 hb4 k0 k2 X4 hal hB5 hsz4
  go_upto_region 14 with (fail)
  change Code.wp _ _ _ _ (w5.alloc (.cells (hdA x) 55))
  generalize (w5.alloc (.cells (hdA x) 55)) = W6 at hx6 hb6 hc6 HR6 HD6 HI6 HB6 hsz6 ⊢
  try rw [hg6]
  have k2 : W6.cell? ⟨g1, 2, none⟩ = some (.int .i64 r.tok) := (hc6.cell 2).trans rfl
  have k6 : W6.cell? ⟨g1, 6, none⟩ = some (.int .u64 r.ser) := (hc6.cell 6).trans rfl
  have k7 : W6.cell? ⟨g1, 7, none⟩ = some (.int .u64 r.stp) := (hc6.cell 7).trans rfl
  have x3 : W6.cell? ⟨g6, 3, none⟩ = some (.int .u64 r.ser) := by rw [← HX1.out]; exact (hx6.cell 3).trans rfl
  have x4 : W6.cell? ⟨g6, 4, none⟩ = some (.int .u64 r.stp) := by rw [← HX2.out]; exact (hx6.cell 4).trans rfl
  obtain ⟨q0, q1, q2, q3⟩ := hb6.led
  have X5 := Lib.hid (C5.out W6 A3 c3 HI6.out.hh.inn)
  have HK6 := Lib.hid hb6
  clear hg6 hx6 hc6 C5 hb6
  go_upto_region 16 with (fail)
  go_wp2_with fail
  refine X5.out.mono ?_
  rintro e w7 ⟨A7, c7, rfl, hin7, hB7⟩
  have hb7 := HK6.out.below hB7 HK6.out.lt
  have HR7 := HR6.out.below hB7 HR6.out.lt
  have HD7 := HD6.out.below hB7 HD6.out.lt
  have HI7 := HI6.out.keep hB7
  have HB7 := HB6.out.trans (hB7.mono (by have := HR6.out.lt; have := HGS.out; omega))
  have hsz7 : B ≤ W6.heap.size := hsz6
  have f2 := hb7.frozen 2
  have z2 := hb7.led.q2
  have hb8 : Blk (w7.setCell ⟨g, 2, none⟩ (.slice A7 (outT hs r.tok).length c7)) g 26 (ledC lim nxt (.slice A7 (outT hs r.tok).length c7) (.slice A4 ls.length c4)) := by
    have := hb7.set_ 2 (.slice A7 (outT hs r.tok).length c7)
    simpa [ledC] using this
  have hr8 := HR7.far (p := ⟨g, 2, none⟩) (by show g2 ≠ g; have := HGS.out; omega) (.slice A7 (outT hs r.tok).length c7)
  have hd8 := HD7.far (p := ⟨g, 2, none⟩) (by show g3 ≠ g; have := HGS.out; omega) (.slice A7 (outT hs r.tok).length c7)
  have hgr8 : w7.grownBy (w7.setCell ⟨g, 2, none⟩ (.slice A7 (outT hs r.tok).length c7)) (some g) := only_setCell (World.grownBy.refl w7 (some g)) (.inl rfl) _
  have hgB : g < B := by have := HGS.out; omega
  have hl8 := HI7.hl.past17 hgr8 hgB
  have hh8 := hin7.past17 hgr8 (by omega)
  have hB8 := HB7.setCell (p := ⟨g, 2, none⟩) (Nat.le_refl _) (.slice A7 (outT hs r.tok).length c7)
  clear HR6 HD6 HI6 HB6 HK6 X5 hB7 hb7 HR7 HD7 HI7 HB7 hin7 hgr8 k2 k6 k7 x3 x4 q0 q1 q2 q3
  go_upto_region 17 with (fail)
  change Code.wp _ _ _ _ (w7.setCell ⟨g, 2, none⟩ (.slice A7 (outT hs r.tok).length c7))
  generalize (w7.setCell ⟨g, 2, none⟩ (.slice A7 (outT hs r.tok).length c7)) = W8 at hb8 hr8 hd8 hl8 hh8 hB8 ⊢
  have HB8 := Lib.hid hB8
  have HL8 := Lib.hid hl8
  have HH8 := Lib.hid hh8
  have hd9 : Blk (W8.setRow g2 (ledC lim nxt (.slice A7 (outT hs r.tok).length c7) (.slice A4 ls.length c4))) g3 41 (ansA 0 0 0) := Blk.rowFar hd8 (by have := HGS.out; omega)
  have HD9 := Lib.hid hd9
  have HR8 := Lib.hid hr8
  have hne : Hid (g2 ≠ g3) := by show _ ≠ _; have := HGS.out; omega
  clear hB8 hl8 hh8 f2 z2 hd9 hd8 hr8
  go_wp2_with (first | (refine wpList_load_row rfl 26 _ rfl g rfl 26 (ledC lim nxt (.slice A7 (outT hs r.tok).length c7) (.slice A4 ls.length c4)) hb8 _ Try.underlying26 rfl info_Led1 ?_) | (refine wpList_store_row rfl 26 _ _ rfl g2 (ledC lim nxt (.slice A7 (outT hs r.tok).length c7) (.slice A4 ls.length c4)) rfl rfl 26 led0 HR8.out info_Led1 rfl (ledC_one _ _ _ _ _ _ _ _) ?_) | (refine wpList_store_row rfl 41 _ _ rfl g3 (ansA 5 0 0) rfl rfl 41 (ansA 0 0 0) HD9.out info_Ans1 rfl (ansA_one _ _ _) ?_))
  (try simp only [Exit.inBlock, Exit.then])
  have hrF : Blk ((W8.setRow g2 (ledC lim nxt (.slice A7 (outT hs r.tok).length c7) (.slice A4 ls.length c4))).setRow g3 (ansA 5 0 0)) g2 26 (ledC lim nxt (.slice A7 (outT hs r.tok).length c7) (.slice A4 ls.length c4)) := Blk.rowFar (Blk.row HR8.out) hne.out
  have hdF : Blk ((W8.setRow g2 (ledC lim nxt (.slice A7 (outT hs r.tok).length c7) (.slice A4 ls.length c4))).setRow g3 (ansA 5 0 0)) g3 41 (ansA 5 0 0) := Blk.row HD9.out
  refine bodyPost_ret (results_cc rfl rfl (run_loadVar_row _ g2 26 26 _ (0, 0) _ hrF Try.underlying26 rfl info_Led1) rfl (run_loadVar_row _ g3 41 41 _ (0, 0) _ hdF Try.underlying41 rfl info_Ans1)) rfl ?_
  have g2B : g2 < B := by have := HGS.out; omega
  exact ⟨A7, c7, A4, c4, rfl, ((HH8.out.past17 (row_grown g2 _) (by omega)).past17 (row_grown g3 _) (by omega)).inn, ((HL8.out.past17 (row_grown g2 _) g2B).past17 (row_grown g3 _) (by omega)).inn, row_below (row_below HB8.out (by have := HGS.out; omega) _) (by have := HGS.out; omega) _, fun q e => by have := HH8.out.own q e; have := HGS.out; omega, fun q e => by have := HL8.out.own q e; have := HGS.out; omega⟩
end Go.Proofs.Ytfkaggdjhopjpaa
