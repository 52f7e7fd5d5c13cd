/- The law's first example: keeps. -/
import Derived.Test.YtfkaggdjhopjpaaLcP
import Derived.Test.YtfkaggdjhopjpaaCmdS
namespace Go.Proofs.Ytfkaggdjhopjpaa
set_option maxRecDepth 100000
open Go.RowKit

theorem step_no {L t : Int} {f : Rw → Option Int} {o : List Rw} {r : Rw} {v : Int} (h : f r = some v) (h1 : t - v < L) : dueStep L t (f, o) r = (f, o) := by
  unfold dueStep
  dsimp only
  have e : (f r).getD 0 = v := by rw [h]; rfl
  rw [e, if_neg (by omega)]
theorem step_yes {L t : Int} {f : Rw → Option Int} {o : List Rw} {r : Rw} {v : Int} (h : f r = some v) (h1 : L ≤ t - v) : dueStep L t (f, o) r = (fun x => if x = r then some t else f x, o ++ [r]) := by
  unfold dueStep
  dsimp only
  have e : (f r).getD 0 = v := by rw [h]; rfl
  rw [e, if_pos h1]
theorem dueK_one (L t : Int) (f : Rw → Option Int) (r : Rw) : dueK L t [r] f 1 = dueStep L t (f, []) r := rfl
theorem InS.tr {α : Type} {f : α → List Value} {s : Nat} {w w1 : World} {A : Option Addr} {c : Nat} {l : List α} {P : Nat → Prop} (h : InS f s w A c l) (ht : Tr w w1 P) (hp : 0 < l.length → ∀ q, A = some q → ¬ P q.block) : InS f s w1 A c l :=
  ⟨⟨h.reads.1, fun h0 => by
    obtain ⟨b, off, e, hb, hc⟩ := h.reads.2 h0
    exact ⟨b, off, e, Nat.lt_of_lt_of_le hb ht.size, fun j u hu => (World.cell?_of_block (ht.block b hb (hp h0 _ e))).trans (hc j u hu)⟩⟩, h.cap, h.small⟩
theorem due_of {w : World} {gk : Nat} {a : Ka} {L now : Int} {rs : List Rw} {f f' : Rw → Option Int} {n : Nat} {o : List Rw} (k : KS w gk a L rs f n) (hl : rs.length ≤ 64) (hn : n ≤ 1000000) (hd : dueK L (tmC now) rs f rs.length = (f', o)) :
    Calls Try.prog 12 #[.pointer (some ⟨gk, 0, none⟩), .int .i64 now] w fun e w' => ∃ A' c', e = .returned (.slice A' o.length c') ∧ InS cdC 8 w' A' c' o ∧ (∀ q, A' = some q → w.heap.size ≤ q.block) ∧ KS w' gk a L rs f' (n + rs.length) ∧ Tr w w' (fun j => a.mv = .map (some j)) :=
  (keeper_Due_any w gk a L rs f n now k hl hn).mono fun e w' h => by
    unfold DueE at h
    rw [hd] at h
    exact h
set_option maxHeartbeats 8000000 in
theorem keeps_any (w : World) : Calls Try.prog 7 #[] w fun e w' => e = .returned (.bool true) ∧ Below w.heap.size w w' := by
  obtain ⟨g, hg⟩ : ∃ g, w.heap.size = g := ⟨_, rfl⟩
  obtain ⟨gh, hgh⟩ : ∃ gh, g + 1 = gh := ⟨_, rfl⟩
  obtain ⟨f1, hf1⟩ : ∃ f1, seeF (fun _ => none) (tmC 5) [hdE] [hdE].length = f1 := ⟨_, rfl⟩
  have v1 : f1 rwE = some 5 := by
    rw [← hf1, seeF_mem _ _ _ (List.mem_singleton.2 rfl)]
    rfl
  have hd1 : dueK 10 (tmC 14) [rwE] f1 1 = (f1, []) := by
    rw [dueK_one]
    exact step_no v1 (by decide)
  obtain ⟨f2, hf2⟩ : ∃ f2 : Rw → Option Int, (fun x => if x = rwE then some (tmC 15) else f1 x) = f2 := ⟨_, rfl⟩
  have v2 : f2 rwE = some (tmC 15) := by rw [← hf2]; exact if_pos rfl
  have hd2 : dueK 10 (tmC 15) [rwE] f1 1 = (f2, [rwE]) := by
    rw [dueK_one, step_yes v1 (by decide), hf2]
    rfl
  have hd3 : dueK 10 (tmC 16) [rwE] f2 1 = (f2, []) := by
    rw [dueK_one]
    exact step_no v2 (by decide)
  have C1 : Calls Try.prog 8 #[.int .i64 10] w fun e w' => e = .returned (.tuple #[.pointer (some ⟨g, 0, none⟩), .int .i64 0]) ∧ w' = w.alloc (.cells (kpC 10 (.slice none 0 0) (.map none)) 98) :=
    (lease_NewKeeper_any w 10).mono fun e w' h => by
      unfold NewE at h
      rw [if_pos (by decide), hg] at h
      exact h
  have s1 : (w.alloc (.cells (kpC 10 (.slice none 0 0) (.map none)) 98)).heap.size = gh := by simp [hg, hgh]
  have k1 : KS (w.alloc (.cells (kpC 10 (.slice none 0 0) (.map none)) 98)) g ⟨none, 0, .map none⟩ 10 [] (fun _ => none) 0 := hg ▸ KS.start w 10
  have hB1 : Below g w (w.alloc (.cells (kpC 10 (.slice none 0 0) (.map none)) 98)) := (Below.refl _ _).alloc (by omega) _
  generalize (w.alloc (.cells (kpC 10 (.slice none 0 0) (.map none)) 98)) = W1 at C1 s1 k1 hB1
  have hB2' : Below W1.heap.size W1 (W1.alloc (.cells (hdA hdE) 55)) := (Below.refl _ _).alloc (Nat.le_refl _) _
  have k2 : KS (W1.alloc (.cells (hdA hdE) 55)) g ⟨none, 0, .map none⟩ 10 [] (fun _ => none) 0 := k1.keep hB2'
  have hb2 : Blk (W1.alloc (.cells (hdA hdE) 55)) gh 55 (hdA hdE) := s1 ▸ Blk.new _ _ _
  have hB2 : Below g w (W1.alloc (.cells (hdA hdE) 55)) := hB1.trans (hB2'.mono (by omega))
  have hin2 : InS hdC 5 (W1.alloc (.cells (hdA hdE) 55)) (some ⟨gh, 0, none⟩) 1 [hdE] := by
    refine ⟨⟨rfl, fun _ => ⟨gh, 0, rfl, hb2.lt, fun j u hu => ?_⟩⟩, by simp, by simp⟩
    rw [Nat.zero_add, hb2.cell]
    simpa [hdA, hdC] using hu
  have X2 := keeper_Leads_any (W1.alloc (.cells (hdA hdE) 55)) g ⟨none, 0, .map none⟩ 10 [] (fun _ => none) 0 5 2 2 (some ⟨gh, 0, none⟩) 1 [hdE] none 0 0 k2 hin2 (fun _ q e => by injection e with e; rw [← e]; show gh ≠ g; omega) (fun h hh => by rw [List.mem_singleton.1 hh]; exact hdE_wf) (by simp)
  rw [hf1] at X2
  unfold ledV at X2
  simp only [List.length_cons, List.length_nil, Nat.zero_add] at X2
  have C1 := Lib.hid C1
  have X2 := Lib.hid X2
  have HB2 := Lib.hid hB2
  have HG := Lib.hid hg
  have HZ1 := Lib.hid s1
  have H1 := Lib.hid hd1
  have H2 := Lib.hid hd2
  have H3 := Lib.hid hd3
  rw [hg]
  clear v1 v2 hf1 hf2 hd1 hd2 hd3 k1 k2 hb2 hin2 hB1 hB2 hB2' hg
  go_enter Try.func7, Try.ntmps7
  go_wp2_with fail
  refine C1.out.mono ?_
  rintro e w1 ⟨rfl, hw1⟩
  obtain rfl := hw1.symm
  clear C1
  go_wp2_with fail
  refine X2.out.mono ?_
  rintro e w3 ⟨rfl, a3, k3, ⟨M, hM, hMl⟩, hAl, ht3⟩
  have hz2 : gh + 1 = (W1.alloc (.cells (hdA hdE) 55)).heap.size := by have := HZ1.out; simp; omega
  have HB3 := Lib.hid (HB2.out.trans (ht3.below (B := g) (fun j _ e => by omega) (by omega)))
  have hMg : g ≤ M := by omega
  have hM3 : M < w3.heap.size := (k3.mapS hM).lt
  have X3 := Lib.hid (due_of (o := []) (now := 14) k3 (by simp) (by simp) H1.out)
  have hz3 : g ≤ w3.heap.size := by omega
  clear X2 HB2 ht3 hz2 hMl hAl
  go_wp2_with fail
  refine X3.out.mono ?_
  rintro e w4 ⟨A4, c4, rfl, _, _, k4, ht4⟩
  have HB4 := Lib.hid (HB3.out.trans (ht4.below (B := g) (fun j _ e => by rw [hM] at e; injection e with e; injection e with e; omega) hz3))
  have hz4 : w3.heap.size ≤ w4.heap.size := ht4.size
  have X4 := Lib.hid (due_of (o := [rwE]) (now := 15) k4 (by simp) (by simp) H2.out)
  clear X3 HB3 ht4 k3
  go_wp2_with fail
  refine X4.out.mono ?_
  rintro e w5 ⟨A5, c5, rfl, hin5, hown5, k5, ht5⟩
  have HB5 := Lib.hid (HB4.out.trans (ht5.below (B := g) (fun j _ e => by rw [hM] at e; injection e with e; injection e with e; omega) (by omega)))
  have hz5 : w4.heap.size ≤ w5.heap.size := ht5.size
  have X5 := Lib.hid (due_of (o := []) (now := 16) k5 (by simp) (by simp) H3.out)
  clear X4 HB4 ht5 k4
  go_wp2_with fail
  refine X5.out.mono ?_
  rintro e w6 ⟨A6, c6, rfl, _, _, k6, ht6⟩
  have HB6 := Lib.hid (HB5.out.trans (ht6.below (B := g) (fun j _ e => by rw [hM] at e; injection e with e; injection e with e; omega) (by omega)))
  have hz6 : w5.heap.size ≤ w6.heap.size := ht6.size
  have hin6 := hin5.tr ht6 (fun _ q e hq => by have := hown5 q e; rw [hM] at hq; injection hq with hq; injection hq with hq; omega)
  obtain ⟨b, off, rfl, hb, hc⟩ := hin6.all cdC_len (by simp)
  have d0 := hc 0 (by simp) 0 _ (by omega) rfl
  have d1 := hc 0 (by simp) 1 _ (by omega) rfl
  have d2 := hc 0 (by simp) 2 _ (by omega) rfl
  have d3 := hc 0 (by simp) 3 _ (by omega) rfl
  have d4 := hc 0 (by simp) 4 _ (by omega) rfl
  have d5 := hc 0 (by simp) 5 _ (by omega) rfl
  have d6 := hc 0 (by simp) 6 _ (by omega) rfl
  have d7 := hc 0 (by simp) 7 _ (by omega) rfl
  simp only [Nat.zero_mul, Nat.zero_add, Nat.add_zero, List.getElem_cons_zero] at d0 d1 d2 d3 d4 d5 d6 d7
  have C6 := ref_Same_any w6 6 0 1 none 0 [] 0 0 1 3 6 0 1 none 0 [] 0 0 1 3 InN.nil InN.nil
  have e6 : sameB 6 0 1 [] 0 0 1 3 6 0 1 [] 0 0 1 3 = true := by simp [sameB]
  rw [e6] at C6
  unfold cmdV at C6
  simp only [List.length_nil] at C6
  have C6 := Lib.hid C6
  have hg6 : g ≤ w6.heap.size := by omega
  have HG6 := Lib.hid hg6
  clear X5 HB5 ht6 k5 k6 hin5 hown5 hin6 hc hb e6 hg6 hz3 hz4 hz5 hz6 hM3 hMg H1 H2 H3
  go_wp2_with fail
  refine C6.out.mono ?_
  rintro e w7 ⟨rfl, hB7⟩
  have HB7 := Lib.hid (HB6.out.trans (hB7.mono HG6.out))
  clear hB7 d0 d1 d2 d3 d4 d5 d6 d7 C6
  go_wp2
  go_ret
  exact ⟨rfl, HB7.out⟩
end Go.Proofs.Ytfkaggdjhopjpaa
