/- Snapshots: which may be, by the code. -/
import Derived.Test.YtadkkhbbempaaaaLedC
import Derived.Test.YtadkkhbbempaaaaShCp
namespace Go.Proofs.Ytadkkhbbempaaaa
set_option maxRecDepth 100000
open Go.RowKit

/-! ### Plain -/
structure ShotOk (i t : Int) (ns : List Int) (lim nxt : Int) (hs : List Hd) (ls : List Ls) : Prop where
  late : ∀ h ∈ hs, h.stp ≤ i
  set : IsSet ns
  led : LedOk lim nxt hs ls
  zero : i = 0 ↔ t = 0
noncomputable instance (i t : Int) (ns : List Int) (lim nxt : Int) (hs : List Hd) (ls : List Ls) : Decidable (ShotOk i t ns lim nxt hs ls) := Classical.propDecidable _
def errShot (b : Bool) : Int := if b then 0 else 60
/-- One that is late is there. -/
def lateB (i : Int) (hs : List Hd) : Bool := hs.any fun h => decide (i < h.stp)
theorem lateB_false {i : Int} {hs : List Hd} : lateB i hs = false ↔ ∀ h ∈ hs, h.stp ≤ i := by
  unfold lateB
  rw [List.any_eq_false]
  constructor
  · intro h x hx
    have := h x hx
    simp only [decide_eq_true_eq] at this
    omega
  · intro h x hx
    have := h x hx
    simp only [decide_eq_true_eq]
    omega
theorem shot_bad {i t : Int} {ns : List Int} {lim nxt : Int} {hs : List Hd} {ls : List Ls} (h : ¬ ShotOk i t ns lim nxt hs ls) : errShot (decide (ShotOk i t ns lim nxt hs ls)) = 60 := by rw [decide_eq_false h]; rfl

/-! ### The walk -/
def hdV (h : Hd) : Value := .agg #[.int .i64 h.tok, .int .i64 h.nod, .int .u64 h.bt, .int .u64 h.ser, .int .u64 h.stp]
def lateF (g : Nat) : Value := .func (.func 65) #[] #[.pointer (some ⟨g, 0, none⟩)]
/-- The closure: is this row late. -/
theorem late_any (w : World) (g : Nat) (i : Int) (h : Hd) (hc : w.cell? ⟨g, 0, none⟩ = some (.int .u64 i)) (hlt : g < w.heap.size) :
    Calls Try.prog 65 #[hdV h, .pointer (some ⟨g, 0, none⟩)] w fun e w' => e = .returned (.bool (decide (i < h.stp))) ∧ Below w.heap.size w w' := by
  have hB : Below w.heap.size w (w.alloc (.cells (hdA h) 98)) := (Below.refl _ _).alloc (Nat.le_refl _) _
  have HB := Lib.hid hB
  have hc2 : (w.alloc (.cells (hdA h) 98)).cell? ⟨g, 0, none⟩ = some (.int .u64 i) := (World.cell?_alloc_lt w _ ⟨g, 0, none⟩ hlt).trans hc
  have hn : Blk (w.alloc (.cells (hdA h) 98)) w.heap.size 98 (hdA h) := Blk.new _ _ _
  have hgn : g ≠ w.heap.size := by omega
  obtain ⟨gh, hgh⟩ : ∃ gh, w.heap.size = gh := ⟨_, rfl⟩
  unfold hdV
  rw [hgh] at hn HB ⊢
  clear hB
  go_enter Try.func65, Try.ntmps65
  go_upto_region 1 with (fail)
  change Code.wp _ _ _ _ (w.alloc (.cells (hdA h) 98))
  generalize w.alloc (.cells (hdA h) 98) = W at HB hc2 hn ⊢
  try rw [hgh]
  have d4 : W.cell? ⟨gh, 4, none⟩ = some (.int .u64 h.stp) := (hn.cell 4).trans rfl
  clear hn hc
  go_wp2
  go_ret
  exact ⟨rfl, HB.out⟩

set_option maxRecDepth 100000 in
theorem late_index (w : World) (g : Nat) (i : Int) (A : Option Addr) (c : Nat) (hs : List Hd) (hh : InS hdC 5 w A c hs) (T : TypeId) (cs : Array Value) (hb : Blk w g T cs) (hc : cs[0]? = some (.int .u64 i)) :
    Calls Try.prog 95 #[.slice A hs.length c, lateF g] w fun e w' => ∃ z, e = .returned (.int .i64 z) ∧ decide (0 ≤ z) = lateB i hs ∧ Below w.heap.size w w' := by
  have HH := Lib.hid hh
  have hsz := hh.small
  have hcp := hh.cap
  have HBK := Lib.hid hb
  have hlt0 := hb.lt
  obtain ⟨s, hs0⟩ : ∃ s, w.heap.size = s := ⟨_, rfl⟩
  have CL := Lib.hid (fun W h (hB : Below s w W) => late_any W g i h ((World.cell?_of_block (hB.block g (hs0 ▸ hlt0))).trans ((hb.cell 0).trans hc)) (by have := hB.size; omega))
  rw [hs0] at hlt0 ⊢
  clear hh hb hc
  unfold lateF
  go_enter Try.func95, Try.ntmps95
  go_wp2_with fail
  go_loopw [5, 8] (fun _ j wr => ∃ (k : Nat), j = .int .i64 (k : Int) ∧ k ≤ hs.length ∧ (∀ a (ha : a < hs.length), a < k → hs[a].stp ≤ i) ∧ Below s w wr) (fun _ j _ => hs.length - (intOf j).toNat)
  case atStart => exact ⟨0, rfl, by omega, (fun _ _ h => absurd h (by omega)), Below.refl _ _⟩
  case round =>
    obtain ⟨k, rfl, hk, hgd, hBr⟩ := hrel
    have HG := Lib.hid hgd
    have HB := Lib.hid hBr
    by_cases hlt : k < hs.length
    · obtain ⟨b, off, rfl, _, hall⟩ := (HH.out.keep (hs0 ▸ hBr)).hd (by omega)
      obtain ⟨c0, c1, c2, c3, c4⟩ := hall k hlt
      obtain ⟨x, hx⟩ : ∃ x, hs[k] = x := ⟨_, rfl⟩
      rw [hx] at c0 c1 c2 c3 c4
      have HX := Lib.hid hx
      have CX := CL.out wr x hBr
      unfold hdV at CX
      have hz : s ≤ wr.heap.size := by have := hBr.size; omega
      by_cases hl : i < x.stp
      · rw [decide_eq_true hl] at CX
        have CX := Lib.hid CX
        have HL : Hid (lateB i hs = true) := by
          show _ = _
          unfold lateB
          rw [List.any_eq_true]
          exact ⟨hs[k], List.getElem_mem hlt, by rw [hx]; exact decide_eq_true hl⟩
        clear hall hgd hBr hx hl
        go_wp2_with fail
        refine CX.out.mono ?_
        rintro e w2 ⟨rfl, hB2⟩
        have HB2 := Lib.hid (HB.out.trans (hB2.mono hz))
        clear hB2 c0 c1 c2 c3 c4
        go_wp2
        (try simp only [Exit.inBlock, Exit.then])
        go_ret
        exact ⟨(k : Int), rfl, by rw [HL.out]; exact decide_eq_true (by omega), HB2.out⟩
      · rw [decide_eq_false hl] at CX
        have CX := Lib.hid CX
        have HL := Lib.hid hl
        clear hall hgd hBr hx hl
        go_wp2_with fail
        refine CX.out.mono ?_
        rintro e w2 ⟨rfl, hB2⟩
        have HB2 := Lib.hid (HB.out.trans (hB2.mono hz))
        clear hB2 c0 c1 c2 c3 c4
        go_wp2
        go_roundw
        case rel =>
          refine ⟨k + 1, by go_num, by omega, fun a ha hak => ?_, HB2.out⟩
          rcases Nat.lt_or_ge a k with h1 | h1
          · exact HG.out a ha h1
          · obtain rfl : a = k := by omega
            rw [HX.out]
            have := HL.out
            omega
        case measure => simp [intOf]; omega
    · obtain rfl : k = hs.length := by omega
      have HL : Hid (lateB i hs = false) := lateB_false.2 (fun x hx => by
        obtain ⟨a, ha, rfl⟩ := List.getElem_of_mem hx
        exact hgd a ha ha)
      clear hgd hBr
      go_wp2
      go_ret
      exact ⟨-1, rfl, by rw [HL.out]; rfl, HB.out⟩

theorem late_contains (w : World) (g : Nat) (i : Int) (A : Option Addr) (c : Nat) (hs : List Hd) (hh : InS hdC 5 w A c hs) (T : TypeId) (cs : Array Value) (hb : Blk w g T cs) (hc : cs[0]? = some (.int .u64 i)) :
    Calls Try.prog 64 #[.slice A hs.length c, lateF g] w fun e w' => e = .returned (.bool (lateB i hs)) ∧ Below w.heap.size w w' := by
  have C := Lib.hid (late_index w g i A c hs hh T cs hb hc)
  clear hh hb hc
  go_enter Try.func64, Try.ntmps64
  go_wp2_with fail
  refine C.out.mono ?_
  rintro e w2 ⟨z, rfl, hz, hB2⟩
  have HB2 := Lib.hid hB2
  have HZ := Lib.hid hz
  clear hB2 hz
  go_wp2
  go_ret
  exact ⟨by rw [← HZ.out]; rfl, HB2.out⟩
end Go.Proofs.Ytadkkhbbempaaaa
