/- Walks over snapshots: the document's Same, of new ones. -/
import Derived.Test.YthdeappjankmmaaShotY
namespace Go.Proofs.Ythdeappjankmmaa
open Go.RowKit

set_option maxRecDepth 100000 in
set_option maxHeartbeats 4000000 in
theorem r05_Same_new (w : World) (a b : Int) :
    Calls Try.prog 27 #[ledgerV a b, ledgerV a b] w fun e w' => e = .returned (.bool true) ∧ Below w.heap.size w w' := by
  unfold ledgerV
  go_enter Try.func27, Try.ntmps27
  go_wp2_with fail
  refine wp_loop_rounds 1 ?_
  rw [rounds_succ]
  go_wp2_with fail
  refine wp_loop_rounds 1 ?_
  rw [rounds_succ]
  go_wp2
  go_ret
  exact ⟨rfl, ((Below.refl _ _).alloc (Nat.le_refl _) _).alloc (by simp) _⟩

set_option maxRecDepth 100000 in
set_option maxHeartbeats 4000000 in
theorem r06_Same_new (w : World) (A1 A2 : Option Addr) (c1 c2 : Nat) (l : List Int) (lim nxt : Int) (h1 : InN .i64 w A1 c1 l) (h2 : InN .i64 w A2 c2 l) :
    Calls Try.prog 12 #[shotV 0 0 (.slice A1 l.length c1) lim nxt, shotV 0 0 (.slice A2 l.length c2) lim nxt] w fun e w' => e = .returned (.bool true) ∧ Below w.heap.size w w' := by
  have H1 := Lib.hid h1
  have H2 := Lib.hid h2
  clear h1 h2
  have hbw : Below w.heap.size w ((w.alloc (.cells (shotCells 0 0 (.slice A1 l.length c1) lim nxt) 29)).alloc (.cells (shotCells 0 0 (.slice A2 l.length c2) lim nxt) 29)) := ((Below.refl _ _).alloc (Nat.le_refl _) _).alloc (by simp) _
  have C := r03_Same_any _ A1 A2 c1 c2 l l (H1.out.keep hbw) (H2.out.keep hbw)
  rw [decide_eq_true rfl] at C
  have C := Lib.hid C
  have CL := fun W => Lib.hid (r05_Same_new W lim nxt)
  have HB := Lib.hid hbw
  clear hbw
  have hx1 : Blk ((w.alloc (.cells (shotCells 0 0 (.slice A1 l.length c1) lim nxt) 29)).alloc (.cells (shotCells 0 0 (.slice A2 l.length c2) lim nxt) 29)) w.heap.size 29 (shotCells 0 0 (.slice A1 l.length c1) lim nxt) := (Blk.new _ _ _).alloc _
  have hs1 : (w.alloc (.cells (shotCells 0 0 (.slice A1 l.length c1) lim nxt) 29)).heap.size = w.heap.size + 1 := by simp
  have hx2 : Blk ((w.alloc (.cells (shotCells 0 0 (.slice A1 l.length c1) lim nxt) 29)).alloc (.cells (shotCells 0 0 (.slice A2 l.length c2) lim nxt) 29)) (w.heap.size + 1) 29 (shotCells 0 0 (.slice A2 l.length c2) lim nxt) := hs1 ▸ Blk.new _ _ _
  have HX1 := Lib.hid hx1
  have HX2 := Lib.hid hx2
  clear hx1 hx2 hs1
  unfold shotV
  go_enter Try.func12, Try.ntmps12
  go_wp2_with fail
  refine C.out.mono ?_
  rintro e w2 ⟨rfl, j, rfl⟩
  have hy1 := HX1.out.drewN j
  have hy2 := HX2.out.drewN j
  have hb2 := below_drewN HB.out j
  generalize ((w.alloc (.cells (shotCells 0 0 (.slice A1 l.length c1) lim nxt) 29)).alloc (.cells (shotCells 0 0 (.slice A2 l.length c2) lim nxt) 29)).drewN j = W2 at hy1 hy2 hb2 ⊢
  obtain ⟨z0, z1, z2, z3, z4, z5, z6⟩ := hy1.shot
  obtain ⟨y0, y1, y2, y3, y4, y5, y6⟩ := hy2.shot
  have hsz := hb2.size
  have HB2 := Lib.hid hb2
  clear hy1 hy2 hb2
  go_wp2_with fail
  refine (CL _).out.mono ?_
  rintro e w3 ⟨rfl, hB3⟩
  have hb := HB2.out.trans (hB3.mono hsz)
  clear z0 z1 z2 z3 z4 z5 z6 y0 y1 y2 y3 y4 y5 y6
  go_wp2
  go_ret
  exact ⟨rfl, hb⟩
end Go.Proofs.Ythdeappjankmmaa
