/- Ledgers: the document's Copy; its Held is a row of the call's own. -/
import Derived.Test.YtfkaggdjhopjpaaRk
namespace Go.Proofs.Ytfkaggdjhopjpaa
set_option maxRecDepth 100000
open Go.RowKit

theorem own_set {w : World} {base : Nat} {e : TypeId} {s n : Nat} {v : Value} {xs : List Value} (h : w.ownsRow base e s v n xs) {p : Addr} (hp : p.block < base) (u : Value) : (w.setCell p u).ownsRow base e s v n xs :=
  own_tr h ((Tr.refl w (fun j => j = p.block)).setCell (fun _ => rfl) u) (fun j hj e => by have := own_base h j hj; omega)
set_option maxRecDepth 100000 in
set_option maxHeartbeats 4000000 in
theorem r05_Copy_row (w : World) (lim nxt : Int) (Ah : Option Addr) (ch : Nat) (hs : List Hd) (Al : Option Addr) (cl : Nat) (ls : List Ls) (hh : InS hdC 5 w Ah ch hs) (hl : InS lsC 6 w Al cl ls) :
    Calls Try.prog 13 #[ledV lim nxt (.slice Ah hs.length ch) (.slice Al ls.length cl)] w fun e w' => ∃ A1 c1 A2 c2, e = .returned (ledV lim nxt (.slice A1 hs.length c1) (.slice A2 ls.length c2)) ∧
      LedIn w' w.heap.size A1 c1 hs A2 c2 ls ∧ w'.ownsRow w.heap.size 55 5 (.slice A1 hs.length c1) hs.length (hs.flatMap hdC) ∧ Below w.heap.size w w' := by
  have hsz1 := hh.small
  have hsz2 := hl.small
  obtain ⟨g, hg⟩ : ∃ g, w.heap.size = g := ⟨_, rfl⟩
  rw [hg]
  obtain ⟨gr, hgr⟩ : ∃ gr, g + 1 = gr := ⟨_, rfl⟩
  have hBx : Below g w ((w.alloc (.cells (ledC lim nxt (.slice Ah hs.length ch) (.slice Al ls.length cl)) 26)).alloc (.cells (ledC 0 0 (.slice none 0 0) (.slice none 0 0)) 26)) := ((Below.refl _ _).alloc (by omega) _).alloc (by simp; omega) _
  have hs1 : (w.alloc (.cells (ledC lim nxt (.slice Ah hs.length ch) (.slice Al ls.length cl)) 26)).heap.size = gr := by simp [hg, hgr]
  have hb1 : Blk ((w.alloc (.cells (ledC lim nxt (.slice Ah hs.length ch) (.slice Al ls.length cl)) 26)).alloc (.cells (ledC 0 0 (.slice none 0 0) (.slice none 0 0)) 26)) g 26 (ledC lim nxt (.slice Ah hs.length ch) (.slice Al ls.length cl)) := (hg ▸ Blk.new w 26 (ledC lim nxt (.slice Ah hs.length ch) (.slice Al ls.length cl)) : Blk (w.alloc (.cells (ledC lim nxt (.slice Ah hs.length ch) (.slice Al ls.length cl)) 26)) g 26 (ledC lim nxt (.slice Ah hs.length ch) (.slice Al ls.length cl))).alloc _
  have hr1 : Blk ((w.alloc (.cells (ledC lim nxt (.slice Ah hs.length ch) (.slice Al ls.length cl)) 26)).alloc (.cells (ledC 0 0 (.slice none 0 0) (.slice none 0 0)) 26)) gr 26 (ledC 0 0 (.slice none 0 0) (.slice none 0 0)) := hs1 ▸ Blk.new _ _ _
  have hz1 : ((w.alloc (.cells (ledC lim nxt (.slice Ah hs.length ch) (.slice Al ls.length cl)) 26)).alloc (.cells (ledC 0 0 (.slice none 0 0) (.slice none 0 0)) 26)).heap.size = g + 2 := by simp [hg]
  have HH := Lib.hid (hh.keep (hg ▸ hBx))
  have HL0 := Lib.hid hl
  have HL := Lib.hid (hl.keep (hg ▸ hBx))
  clear hs1 hh hl
  unfold ledV
  go_enter Try.func13, Try.ntmps13
  go_upto_region 1 with (fail)
  change Code.wp _ _ _ _ ((w.alloc (.cells (ledC lim nxt (.slice Ah hs.length ch) (.slice Al ls.length cl)) 26)).alloc (.cells (ledC 0 0 (.slice none 0 0) (.slice none 0 0)) 26))
  generalize ((w.alloc (.cells (ledC lim nxt (.slice Ah hs.length ch) (.slice Al ls.length cl)) 26)).alloc (.cells (ledC 0 0 (.slice none 0 0) (.slice none 0 0)) 26)) = W at hb1 hr1 hBx hz1 HH HL ⊢
  try rw [hgr]
  have HB := Lib.hid hBx
  obtain ⟨q0, q1, q2, q3⟩ := hb1.led
  have y2 := hb1.frozen 2
  clear hBx
  go_upto_region 2 with ((at_builtin; refine app_own (w0 := W) (g + 2) rfl _ _ 23 55 _ 40 rfl Try.underlying23 5 info_Held rfl (by omega) (by omega) (.slice none 0 0) [] 0 rfl _ _ _ _ (hs.flatMap hdC) rfl (own_nil _ _ _ _) HH.out.reads (flat_one hdC_one hs) (Below.refl _ _) (by omega) (by omega) ?_; intro v1 w1 ho1 hB1 _ _; obtain ⟨A1, c1, rfl, hin1⟩ := OwS.of (f := hdC) (l := hs) (by simpa using ho1) (by omega); have HO1 := Lib.hid hin1; have hr1' : w1.ownsRow (g + 2) 55 5 (.slice A1 hs.length c1) hs.length (hs.flatMap hdC) := (by simpa using ho1); have HR1 := Lib.hid hr1'; clear hr1'; have hb2 := hb1.below hB1 (by omega); have hr2 := hr1.below hB1 (by omega); have HBB := Lib.hid (HB.out.trans (hB1.mono (by omega))); have HL1 := Lib.hid (HL.out.keep (hz1 ▸ hB1)); have hsz3 := hB1.size; clear q0 q1 q2 q3 y2 hB1 ho1 hin1 hb1 hr1; obtain ⟨q0, q1, q2, q3⟩ := hb2.led; have y2 := hb2.frozen 2))
  have hb3 : Blk (w1.setCell ⟨g, 2, none⟩ (.slice A1 hs.length c1)) g 26 (ledC lim nxt (.slice A1 hs.length c1) (.slice Al ls.length cl)) := Blk.setL (l := [Value.int .i64 lim, .int .u64 nxt, .slice Ah hs.length ch, .slice Al ls.length cl]) hb2 2 _
  have hr3 := hr2.far (p := ⟨g, 2, none⟩) (by show gr ≠ g; omega) (.slice A1 hs.length c1)
  have hB3 := HBB.out.setCell (p := ⟨g, 2, none⟩) (Nat.le_refl _) (.slice A1 hs.length c1)
  have HO3 := Lib.hid (HO1.out.set (p := ⟨g, 2, none⟩) (by show g < g + 2; omega) (.slice A1 hs.length c1))
  have HR3 : Hid ((w1.setCell ⟨g, 2, none⟩ (.slice A1 hs.length c1)).ownsRow (g + 2) 55 5 (.slice A1 hs.length c1) hs.length (hs.flatMap hdC)) := own_set HR1.out (by show g < g + 2; omega) _
  have hz3 : g + 2 ≤ (w1.setCell ⟨g, 2, none⟩ (.slice A1 hs.length c1)).heap.size := by simp [World.setCell]; omega
  generalize w1.setCell ⟨g, 2, none⟩ (.slice A1 hs.length c1) = W3 at hb3 hr3 hB3 HO3 HR3 hz3 ⊢
  have HL3 := Lib.hid (HL0.out.keep (hg ▸ hB3))
  have HB3 := Lib.hid hB3
  clear q0 q1 q2 q3 y2 hB3 hb2 hr2 HBB HO1 HL1 HL
  obtain ⟨q0, q1, q2, q3⟩ := hb3.led
  have y3 := hb3.frozen 3
  go_upto_region 3 with ((at_builtin; refine app_own (w0 := W3) (g + 2) rfl _ _ 24 100 _ 48 rfl Try.underlying24 6 info_Last rfl (by omega) (by omega) (.slice none 0 0) [] 0 rfl _ _ _ _ (ls.flatMap lsC) rfl (own_nil _ _ _ _) HL3.out.reads (flat_one lsC_one ls) (Below.refl _ _) (by omega) (by omega) ?_; intro v4 w4 ho4 hB4 hg4 _; obtain ⟨A2, c2, rfl, hin4⟩ := OwS.of (f := lsC) (l := ls) (by simpa using ho4) (by omega); have HO4 := Lib.hid hin4; have hb4 := hb3.below hB4 (by omega); have hr4 := hr3.below hB4 (by omega); have HBB := Lib.hid (HB3.out.trans (hB4.mono (by omega))); have HO5 := Lib.hid (HO3.out.keep (below_of_grown hg4)); have HR4 := Lib.hid (own_below HR3.out (below_of_grown hg4)); have hsz5 := hB4.size; clear q0 q1 q2 q3 y3 hB4 ho4 hin4 hb3 hr3 hg4; obtain ⟨q0, q1, q2, q3⟩ := hb4.led; have y3 := hb4.frozen 3))
  have hb5 : Blk (w4.setCell ⟨g, 3, none⟩ (.slice A2 ls.length c2)) g 26 (ledC lim nxt (.slice A1 hs.length c1) (.slice A2 ls.length c2)) := Blk.setL (l := [Value.int .i64 lim, .int .u64 nxt, .slice A1 hs.length c1, .slice Al ls.length cl]) hb4 3 _
  have hr5 := hr4.far (p := ⟨g, 3, none⟩) (by show gr ≠ g; omega) (.slice A2 ls.length c2)
  have hB5 := HBB.out.setCell (p := ⟨g, 3, none⟩) (Nat.le_refl _) (.slice A2 ls.length c2)
  have hI5 : LedIn (w4.setCell ⟨g, 3, none⟩ (.slice A2 ls.length c2)) (g + 2) A1 c1 hs A2 c2 ls := ⟨HO5.out.set (p := ⟨g, 3, none⟩) (by show g < g + 2; omega) _, HO4.out.set (p := ⟨g, 3, none⟩) (by show g < g + 2; omega) _⟩
  have HR5' : Hid ((w4.setCell ⟨g, 3, none⟩ (.slice A2 ls.length c2)).ownsRow (g + 2) 55 5 (.slice A1 hs.length c1) hs.length (hs.flatMap hdC)) := own_set HR4.out (by show g < g + 2; omega) _
  generalize w4.setCell ⟨g, 3, none⟩ (.slice A2 ls.length c2) = W5 at hb5 hr5 hB5 hI5 HR5' ⊢
  clear q0 q1 q2 q3 y3 hb4 hr4 HBB HO5 HO4 HO3 HL3 HB3
  have HI5 := Lib.hid hI5
  have HB5 := Lib.hid hB5
  have HR5 := Lib.hid hr5
  obtain ⟨q0, q1, q2, q3⟩ := hb5.led
  obtain ⟨z0, z1, z2, z3⟩ := hr5.led
  have y0 := hr5.frozen 0
  have y1 := hr5.frozen 1
  have y2 := hr5.frozen 2
  have y3 := hr5.frozen 3
  have hn : g ≠ gr := by omega
  clear hI5 hB5 hb5 hr5
  go_wp2
  have hrF := Blk.set4 HR5.out (.int .i64 lim) (.int .u64 nxt) (.slice A1 hs.length c1) (.slice A2 ls.length c2)
  refine bodyPost_ret (results_cell1 rfl rfl (run_loadVar_row _ _ _ _ _ (0, 0) _ hrF Try.underlying26 rfl info_Ledger)) rfl ?_
  have f := fun (i : Nat) (W : World) (u : Value) (h : LedIn W (g + 2) A1 c1 hs A2 c2 ls) => h.set (p := ⟨gr, i, none⟩) (by show gr < g + 2; omega) u
  have s := fun (i : Nat) (W : World) (u : Value) (h : Below g w W) => h.setCell (p := ⟨gr, i, none⟩) (by show g ≤ gr; omega) u
  exact ⟨A1, c1, A2, c2, rfl, LedIn.lower (f _ _ _ (f _ _ _ (f _ _ _ (f _ _ _ HI5.out)))) (by omega), own_lower (own_set (own_set (own_set (own_set HR5'.out (by show gr < g + 2; omega) _) (by show gr < g + 2; omega) _) (by show gr < g + 2; omega) _) (by show gr < g + 2; omega) _) (by omega), s _ _ _ (s _ _ _ (s _ _ _ (s _ _ _ HB5.out)))⟩
end Go.Proofs.Ytfkaggdjhopjpaa
