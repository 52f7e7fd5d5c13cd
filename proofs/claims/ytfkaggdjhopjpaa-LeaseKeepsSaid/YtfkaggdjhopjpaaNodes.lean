/- Walks over sets of nodes: nodes.of, nodes.Check, the document's Check; what they answer is 'setB'. -/
import Derived.Test.YtfkaggdjhopjpaaCom
import Derived.Test.YtfkaggdjhopjpaaMemN
namespace Go.Proofs.Ytfkaggdjhopjpaa
set_option maxRecDepth 100000
open Go.RowKit

/-- The first k of l are numbers from 1 to 7 and rise. -/
def Good (l : List Int) (k : Nat) : Prop := ∀ i (hi : i < l.length), i < k → 1 ≤ l[i] ∧ l[i] ≤ 7 ∧ (0 < i → l[i - 1] < l[i])
/-- A set of nodes. -/
def IsSet (l : List Int) : Prop := 0 < l.length ∧ Good l l.length
noncomputable instance (l : List Int) : Decidable (IsSet l) := Classical.propDecidable _
theorem Good.zero (l : List Int) : Good l 0 := fun _ _ h => by omega
theorem Good.step {l : List Int} {k : Nat} (h : Good l k) (hk : k < l.length) (h1 : 1 ≤ l[k]) (h7 : l[k] ≤ 7) (hr : 0 < k → l[k - 1] < l[k]) : Good l (k + 1) := by
  intro i hi hik
  rcases Nat.lt_or_ge i k with hlt | hge
  · exact h i hi hlt
  · obtain rfl : i = k := by omega
    exact ⟨h1, h7, hr⟩
theorem not_set {l : List Int} {k : Nat} (hk : k < l.length) (h : l[k] < 1 ∨ 7 < l[k] ∨ (0 < k ∧ l[k] ≤ l[k - 1])) : ¬ IsSet l := by
  intro ⟨_, hg⟩
  have := hg k hk hk
  omega

/-- Eight bools in a block of the call's own. -/
def Row8 (w : World) (g : Nat) (t : TypeId) (bs : List Bool) : Prop := bs.length = 8 ∧ Blk w g t (bs.map Value.bool).toArray
theorem Row8.set_ {w : World} {g : Nat} {t : TypeId} {bs : List Bool} (h : Row8 w g t bs) (n : Nat) (b : Bool) : Row8 (w.setCell ⟨g, n, none⟩ (.bool b)) g t (bs.set n b) := by
  refine ⟨by simp [h.1], ?_⟩
  have := h.2.set_ n (.bool b)
  rw [List.map_set]
  simpa using this
theorem Row8.cells {w : World} {g : Nat} {t : TypeId} {bs : List Bool} (h : Row8 w g t bs) : ∃ b0 b1 b2 b3 b4 b5 b6 b7, bs = [b0, b1, b2, b3, b4, b5, b6, b7] ∧
    (w.cell? ⟨g, 0, none⟩ = some (.bool b0) ∧ w.cell? ⟨g, 1, none⟩ = some (.bool b1) ∧ w.cell? ⟨g, 2, none⟩ = some (.bool b2) ∧ w.cell? ⟨g, 3, none⟩ = some (.bool b3) ∧
     w.cell? ⟨g, 4, none⟩ = some (.bool b4) ∧ w.cell? ⟨g, 5, none⟩ = some (.bool b5) ∧ w.cell? ⟨g, 6, none⟩ = some (.bool b6) ∧ w.cell? ⟨g, 7, none⟩ = some (.bool b7)) ∧
    (w.frozen? ⟨g, 0, none⟩ = false ∧ w.frozen? ⟨g, 1, none⟩ = false ∧ w.frozen? ⟨g, 2, none⟩ = false ∧ w.frozen? ⟨g, 3, none⟩ = false ∧
     w.frozen? ⟨g, 4, none⟩ = false ∧ w.frozen? ⟨g, 5, none⟩ = false ∧ w.frozen? ⟨g, 6, none⟩ = false ∧ w.frozen? ⟨g, 7, none⟩ = false) := by
  obtain ⟨hl, hb⟩ := h
  match bs, hl with
  | [b0, b1, b2, b3, b4, b5, b6, b7], _ =>
    refine ⟨b0, b1, b2, b3, b4, b5, b6, b7, rfl, ⟨?_, ?_, ?_, ?_, ?_, ?_, ?_, ?_⟩, hb.frozen 0, hb.frozen 1, hb.frozen 2, hb.frozen 3, hb.frozen 4, hb.frozen 5, hb.frozen 6, hb.frozen 7⟩
    all_goals exact (hb.cell _).trans rfl
theorem below_row8 {w wr : World} {g : Nat} (hB : Below g w wr) (b0 b1 b2 b3 b4 b5 b6 b7 : Bool) : Below g w ((((((((wr.setCell ⟨g, 0, none⟩ (.bool b0)).setCell ⟨g, 1, none⟩ (.bool b1)).setCell ⟨g, 2, none⟩ (.bool b2)).setCell ⟨g, 3, none⟩ (.bool b3)).setCell ⟨g, 4, none⟩ (.bool b4)).setCell ⟨g, 5, none⟩ (.bool b5)).setCell ⟨g, 6, none⟩ (.bool b6)).setCell ⟨g, 7, none⟩ (.bool b7)) := by
  exact ((((((((hB.setCell (p := ⟨g, 0, none⟩) (Nat.le_refl _) _).setCell (p := ⟨g, 1, none⟩) (Nat.le_refl _) _).setCell (p := ⟨g, 2, none⟩) (Nat.le_refl _) _).setCell (p := ⟨g, 3, none⟩) (Nat.le_refl _) _).setCell (p := ⟨g, 4, none⟩) (Nat.le_refl _) _).setCell (p := ⟨g, 5, none⟩) (Nat.le_refl _) _).setCell (p := ⟨g, 6, none⟩) (Nat.le_refl _) _).setCell (p := ⟨g, 7, none⟩) (Nat.le_refl _) _)
theorem below_row8_at {w wr : World} {g k : Nat} (hB : Below g w wr) (hk : g ≤ k) (b0 b1 b2 b3 b4 b5 b6 b7 : Bool) : Below g w ((((((((wr.setCell ⟨k, 0, none⟩ (.bool b0)).setCell ⟨k, 1, none⟩ (.bool b1)).setCell ⟨k, 2, none⟩ (.bool b2)).setCell ⟨k, 3, none⟩ (.bool b3)).setCell ⟨k, 4, none⟩ (.bool b4)).setCell ⟨k, 5, none⟩ (.bool b5)).setCell ⟨k, 6, none⟩ (.bool b6)).setCell ⟨k, 7, none⟩ (.bool b7)) :=
  ((((((((hB.setCell (p := ⟨k, 0, none⟩) hk _).setCell (p := ⟨k, 1, none⟩) hk _).setCell (p := ⟨k, 2, none⟩) hk _).setCell (p := ⟨k, 3, none⟩) hk _).setCell (p := ⟨k, 4, none⟩) hk _).setCell (p := ⟨k, 5, none⟩) hk _).setCell (p := ⟨k, 6, none⟩) hk _).setCell (p := ⟨k, 7, none⟩) hk _)
theorem row8_all {w : World} {g : Nat} {t : TypeId} {bs : List Bool} (h : Row8 w g t bs) (b0 b1 b2 b3 b4 b5 b6 b7 : Bool) : ∃ bs', Row8 ((((((((w.setCell ⟨g, 0, none⟩ (.bool b0)).setCell ⟨g, 1, none⟩ (.bool b1)).setCell ⟨g, 2, none⟩ (.bool b2)).setCell ⟨g, 3, none⟩ (.bool b3)).setCell ⟨g, 4, none⟩ (.bool b4)).setCell ⟨g, 5, none⟩ (.bool b5)).setCell ⟨g, 6, none⟩ (.bool b6)).setCell ⟨g, 7, none⟩ (.bool b7)) g t bs' := ⟨_, ((((((((h.set_ 0 b0).set_ 1 b1).set_ 2 b2).set_ 3 b3).set_ 4 b4).set_ 5 b5).set_ 6 b6).set_ 7 b7)⟩
theorem info_row : (Try.prog.info? 158).map (·.size) = some 8 := by kernel_rfl
/-- Eight bools as one value. -/
def Agg8 (v : Value) : Prop := ∃ b0 b1 b2 b3 b4 b5 b6 b7, v = .agg #[.bool b0, .bool b1, .bool b2, .bool b3, .bool b4, .bool b5, .bool b6, .bool b7]
theorem Row8.load {w : World} {g : Nat} {bs : List Bool} (h : Row8 w g 158 bs) : ∃ v, (loadVar 158 ⟨g, 0, none⟩).run Try.prog w = .ok v w ∧ Agg8 v := by
  obtain ⟨b0, b1, b2, b3, b4, b5, b6, b7, rfl, _, _⟩ := h.cells
  exact ⟨_, run_loadVar_row w g _ _ _ (0, 0) _ h.2 Try.underlying158 rfl info_row, b0, b1, b2, b3, b4, b5, b6, b7, rfl⟩
theorem Row8.at_ {w : World} {g : Nat} {t : TypeId} {bs : List Bool} (h : Row8 w g t bs) (n : Nat) (hn : n < 8) : ∃ b, w.cell? ⟨g, n, none⟩ = some (.bool b) := by
  have hl := h.1
  refine ⟨bs[n], ?_⟩
  rw [h.2.cell]
  simp [show n < bs.length by omega]

set_option maxHeartbeats 1000000 in
theorem nodes_of_any (w : World) (A : Option Addr) (c : Nat) (l : List Int) (h : InN .i64 w A c l) :
    Calls Try.prog 83 #[.slice A l.length c] w fun e w' => ∃ r, Agg8 r ∧ e = .returned (.tuple #[r, .bool (decide (IsSet l))]) ∧ Below w.heap.size w w' := by
  have hs := h.small
  have hcap := h.cap
  have HIN := Lib.hid h
  obtain ⟨B, hB⟩ : ∃ B, decide (IsSet l) = B := ⟨_, rfl⟩
  have HS := Lib.hid hB
  rw [hB]
  clear h hB
  go_enter Try.func83, Try.ntmps83
  go_wp2
  have hb0 : Row8 (w.alloc (.cells #[.bool false, .bool false, .bool false, .bool false, .bool false, .bool false, .bool false, .bool false] 158)) w.heap.size 158 [false, false, false, false, false, false, false, false] := ⟨rfl, Blk.new _ _ _⟩
  have hB0 : Below w.heap.size w (w.alloc (.cells #[.bool false, .bool false, .bool false, .bool false, .bool false, .bool false, .bool false, .bool false] 158)) := (Below.refl _ _).alloc (Nat.le_refl _) _
  go_loopw [4, 5, 8] (fun x y i wr => ∃ (k : Nat) (bs : List Bool), k ≤ l.length ∧ i = .int .i64 k ∧ Good l k ∧ Row8 wr w.heap.size 158 bs ∧ Below w.heap.size w wr) (fun _ _ i _ => l.length - (intOf i).toNat)
  case atStart => exact ⟨0, _, by omega, rfl, Good.zero l, hb0, hB0⟩
  case round =>
    clear hb0 hB0
    obtain ⟨k, bs, hk, rfl, hgd, hrow, hB⟩ := hrel
    obtain ⟨g, hg⟩ : ∃ g, w.heap.size = g := ⟨_, rfl⟩
    rw [hg] at hrow hB ⊢
    by_cases hlt : k < l.length
    · obtain ⟨b, off, rfl, hcell⟩ := (HIN.out.keep (hg ▸ hB)).all (by omega)
      have hck := hcell k hlt
      have hck1 : 0 < k → wr.cell? ⟨b, off + (k - 1), none⟩ = some (.int .i64 (l[k - 1])) := fun _ => hcell (k - 1) (by omega)
      obtain ⟨z, hz⟩ : ∃ z, l[k] = z := ⟨_, rfl⟩
      rw [hz] at hck
      have HZ := Lib.hid hz
      have NOT : (z < 1 ∨ 7 < z ∨ (0 < k ∧ z ≤ l[k - 1])) → Hid (false = B) := fun h => by
        show _ = _
        rw [← HS.out]
        have := not_set hlt (by rw [HZ.out]; exact h)
        exact (decide_eq_false this).symm
      clear hcell
      have HH : ∀ b0 b1 b2 b3 b4 b5 b6 b7 : Bool, Below g w ((((((((wr.setCell ⟨g, 0, none⟩ (.bool b0)).setCell ⟨g, 1, none⟩ (.bool b1)).setCell ⟨g, 2, none⟩ (.bool b2)).setCell ⟨g, 3, none⟩ (.bool b3)).setCell ⟨g, 4, none⟩ (.bool b4)).setCell ⟨g, 5, none⟩ (.bool b5)).setCell ⟨g, 6, none⟩ (.bool b6)).setCell ⟨g, 7, none⟩ (.bool b7)) := below_row8 hB
      by_cases h1 : z < 1
      · have NB := NOT (.inl h1)
        obtain ⟨b0, b1, b2, b3, b4, b5, b6, b7, rfl, ⟨c0, c1, c2, c3, c4, c5, c6, c7⟩, f0, f1, f2, f3, f4, f5, f6, f7⟩ := hrow.cells
        go_wp2
        (try simp only [Exit.inBlock, Exit.then])
        obtain ⟨_, hr8⟩ := row8_all hrow false false false false false false false false
        obtain ⟨lv, hlv, hag⟩ := hr8.load
        refine bodyPost_ret (results_cell rfl rfl hlv) rfl ?_
        have hfin := HH false false false false false false false false
        rw [← hg] at hfin
        rw [← NB.out]
        first | exact ⟨lv, hag, rfl, by simpa only [hg] using hfin⟩ | exact ⟨⟨lv, hag, rfl⟩, by simpa only [hg] using hfin⟩
      by_cases h7 : 7 < z
      · have NB := NOT (.inr (.inl h7))
        obtain ⟨b0, b1, b2, b3, b4, b5, b6, b7, rfl, ⟨c0, c1, c2, c3, c4, c5, c6, c7⟩, f0, f1, f2, f3, f4, f5, f6, f7⟩ := hrow.cells
        go_wp2
        (try simp only [Exit.inBlock, Exit.then])
        obtain ⟨_, hr8⟩ := row8_all hrow false false false false false false false false
        obtain ⟨lv, hlv, hag⟩ := hr8.load
        refine bodyPost_ret (results_cell rfl rfl hlv) rfl ?_
        have hfin := HH false false false false false false false false
        rw [← hg] at hfin
        rw [← NB.out]
        first | exact ⟨lv, hag, rfl, by simpa only [hg] using hfin⟩ | exact ⟨⟨lv, hag, rfl⟩, by simpa only [hg] using hfin⟩
      obtain ⟨n, rfl⟩ : ∃ n : Nat, z = (n : Int) := ⟨z.toNat, by omega⟩
      obtain ⟨bn, hcn⟩ := hrow.at_ n (by omega)
      have hfn := hrow.2.frozen n
      have hset := hrow.set_ n true
      have hB2 : Below g w (wr.setCell ⟨g, n, none⟩ (.bool true)) := hB.setCell (p := ⟨g, n, none⟩) (Nat.le_refl _) _
      by_cases h0 : 0 < k
      · have hckk := hck1 h0
        obtain ⟨y, hy⟩ : ∃ y, l[k - 1] = y := ⟨_, rfl⟩
        rw [hy] at hckk NOT
        have HY := Lib.hid hy
        clear hck1 hy
        obtain ⟨j, rfl⟩ : ∃ j, k = j + 1 := ⟨k - 1, by omega⟩
        simp only [Nat.add_sub_cancel] at hckk HY
        by_cases hge : (n : Int) ≤ y
        · have NB := NOT (.inr (.inr ⟨h0, hge⟩))
          obtain ⟨b0, b1, b2, b3, b4, b5, b6, b7, rfl, ⟨c0, c1, c2, c3, c4, c5, c6, c7⟩, f0, f1, f2, f3, f4, f5, f6, f7⟩ := hrow.cells
          clear hcn hfn hset hB2
          go_wp2
          (try simp only [Exit.inBlock, Exit.then])
          obtain ⟨_, hr8⟩ := row8_all hrow false false false false false false false false
          obtain ⟨lv, hlv, hag⟩ := hr8.load
          refine bodyPost_ret (results_cell rfl rfl hlv) rfl ?_
          have hfin := HH false false false false false false false false
          rw [← hg] at hfin
          rw [← NB.out]
          first | exact ⟨lv, hag, rfl, by simpa only [hg] using hfin⟩ | exact ⟨⟨lv, hag, rfl⟩, by simpa only [hg] using hfin⟩
        · go_wp2
          go_roundw
          case rel => exact ⟨j + 1 + 1, _, by omega, by go_num, hgd.step hlt (by rw [HZ.out]; omega) (by rw [HZ.out]; omega) (fun _ => by show l[j] < l[j + 1]; rw [HZ.out, HY.out]; omega), hset, hB2⟩
          case measure => simp [intOf]; omega
      · obtain rfl : k = 0 := by omega
        clear hck1
        rw [Nat.add_zero] at hck
        go_wp2
        go_roundw
        case rel => exact ⟨0 + 1, _, by omega, by go_num, hgd.step hlt (by rw [HZ.out]; omega) (by rw [HZ.out]; omega) (fun hh => absurd hh (by omega)), hset, hB2⟩
        case measure => simp [intOf]; omega
    · obtain rfl : k = l.length := by omega
      have HE : Hid (decide (0 < l.length) = B) := by
        show _ = _
        rw [← HS.out]
        exact decide_eq_decide.2 ⟨fun h => ⟨h, hgd⟩, fun h => h.1⟩
      have HH : ∀ b0 b1 b2 b3 b4 b5 b6 b7 : Bool, Below g w ((((((((wr.setCell ⟨g, 0, none⟩ (.bool b0)).setCell ⟨g, 1, none⟩ (.bool b1)).setCell ⟨g, 2, none⟩ (.bool b2)).setCell ⟨g, 3, none⟩ (.bool b3)).setCell ⟨g, 4, none⟩ (.bool b4)).setCell ⟨g, 5, none⟩ (.bool b5)).setCell ⟨g, 6, none⟩ (.bool b6)).setCell ⟨g, 7, none⟩ (.bool b7)) := below_row8 hB
      obtain ⟨b0, b1, b2, b3, b4, b5, b6, b7, rfl, ⟨c0, c1, c2, c3, c4, c5, c6, c7⟩, f0, f1, f2, f3, f4, f5, f6, f7⟩ := hrow.cells
      go_wp2
      (try simp only [Exit.inBlock, Exit.then])
      obtain ⟨_, hr8⟩ := row8_all hrow b0 b1 b2 b3 b4 b5 b6 b7
      obtain ⟨lv, hlv, hag⟩ := hr8.load
      refine bodyPost_ret (results_cell rfl rfl hlv) rfl ?_
      have hfin := HH b0 b1 b2 b3 b4 b5 b6 b7
      rw [← hg] at hfin
      rw [← HE.out]
      first | exact ⟨lv, hag, by simp, by simpa only [hg] using hfin⟩ | exact ⟨⟨lv, hag, by simp⟩, by simpa only [hg] using hfin⟩

end Go.Proofs.Ytfkaggdjhopjpaa
