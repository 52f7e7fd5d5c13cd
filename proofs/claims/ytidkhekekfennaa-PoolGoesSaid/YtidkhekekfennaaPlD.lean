/- Pools: the library's Insert, joined; its Delete of one. -/
import Derived.Test.YtidkhekekfennaaPlN
namespace Go.Proofs.Ytidkhekekfennaa
set_option maxRecDepth 100000
set_option linter.unusedVariables false
set_option linter.unusedSimpArgs false
open Go.RowKit

theorem cn_ins (w : World) (base : Nat) (v : Value) (l : List Cn) (n k : Nat) (x : Cn) (gb c1 : Nat) (hl : l.length = n) (hk : k ≤ n) (HO : w.ownsRow base 38 2 v n (l.flatMap cnC)) (hbase : base ≤ w.heap.size)
    (hbx : Blk w gb 38 (cnC x).toArray) (hne : v.ownBlock ≠ some gb) (hn : n ≤ 1000000) :
    Calls Try.prog 31 #[v, .int .i64 k, .slice (some ⟨gb, 0, none⟩) 1 c1] w fun e w' => ∃ v', e = .returned v' ∧ w'.ownsRow base 38 2 v' (n + 1) ((insL l k x).flatMap cnC) ∧ w.grownBy w' v.ownBlock ∧ (v'.ownBlock = v.ownBlock ∨ v'.ownBlock = some w.heap.size) := by
  rcases Nat.lt_or_ge k n with hlt | hge
  · rcases HO.2 with ⟨_, h0⟩ | ⟨g, cap, cur, rfl, hg, hb, hnc, hcm, hsz, htk⟩
    · omega
    · have hgb : g ≠ gb := fun e => hne (by rw [e]; rfl)
      rcases Nat.lt_or_ge cap (n + 1) with hr | hr
      · refine (cn_ins_grow w g cap cur l n k x gb c1 hl hb hsz htk hlt hr hnc hbx hn).mono ?_
        rintro e w' ⟨cap', rfl, h1, h2, ⟨cur', h3, h4, h5⟩, h6⟩
        refine ⟨_, rfl, ⟨by rw [flat_len cnC_len, insL_len l k x (by omega), hl], .inr ⟨w.heap.size, cap', cur', rfl, hbase, h3, h1, h2, h4, h5⟩⟩, only_of_below h6 _, .inr rfl⟩
      · refine (cn_ins_shift w g cap cur l n k x gb c1 hl hb hsz htk hcm hlt hr hbx hgb).mono ?_
        rintro e w' ⟨rfl, ⟨cur', h3, h4, h5⟩, h6⟩
        exact ⟨_, rfl, ⟨by rw [flat_len cnC_len, insL_len l k x (by omega), hl], .inr ⟨g, cap, cur', rfl, hg, h3, hr, hcm, h4, h5⟩⟩, h6, .inl rfl⟩
  · obtain rfl : k = n := by omega
    have e1 : insL l k x = l ++ [x] := by
      unfold insL
      rw [List.take_of_length_le (by omega), List.drop_of_length_le (by omega)]
    rw [e1]
    exact cn_ins_end w base v l k x gb c1 hl HO hbase hbx hn
/-- Without the k-th. -/
def delL {α : Type} (l : List α) (k : Nat) : List α := l.take k ++ l.drop (k + 1)
theorem delL_len {α : Type} (l : List α) (k : Nat) (hk : k < l.length) : (delL l k).length = l.length - 1 := by
  simp only [delL, List.length_append, List.length_take, List.length_drop]
  omega
theorem del_cells (s n k cap : Nat) (L news zs : List Value) (hL : L.length = cap * s) (hk : k < n) (hcap : n ≤ cap) (hnews : news.length = (n - (k + 1)) * s) (hz : zs.length = s) :
    (midL (midL L (k * s) news) ((n - 1) * s) zs).take ((n - 1) * s) = L.take (k * s) ++ news := by
  have m1 : n * s ≤ cap * s := Nat.mul_le_mul_right s hcap
  have m2 : (n - (k + 1)) * s + k * s = (n - 1) * s := by rw [← Nat.add_mul]; congr 1; omega
  have m3 : (n - 1) * s + s = n * s := by rw [← Nat.succ_mul]; congr 1; omega
  rw [midL_eq zs _ _ (by rw [midL_len]; omega), List.append_assoc, List.take_left' (by rw [List.length_take, midL_len]; omega), midL_eq _ _ _ (by omega)]
  exact List.take_left' (by rw [List.length_append, List.length_take]; omega)
set_option maxHeartbeats 4000000 in
theorem cn_del_row (w : World) (g cap : Nat) (cur : Array Value) (l : List Cn) (n k : Nat) (hl : l.length = n) (hb : Blk w g 38 cur) (hsz : cur.size = cap * 2) (htk : cur.toList.take (n * 2) = l.flatMap cnC)
    (hk : k < n) (hnc : n ≤ cap) (hcap : cap ≤ maxLen) (hn : n ≤ 1000000) :
    Calls Try.prog 34 #[.slice (some ⟨g, 0, none⟩) n cap, .int .i64 k, .int .i64 ((k : Int) + 1)] w fun e w' => e = .returned (.slice (some ⟨g, 0, none⟩) (n - 1) cap) ∧
      (∃ cur' : Array Value, Blk w' g 38 cur' ∧ cur'.size = cap * 2 ∧ cur'.toList.take ((n - 1) * 2) = (delL l k).flatMap cnC) ∧ w.grownBy w' (some g) := by
  obtain ⟨i0, hi0, hz0, hzs, hzb⟩ := info_parts info_Conn
  have hc63 : cap ≤ 9223372036854775807 := hcap
  have hcell : ∀ (j : Nat) v, (l.flatMap cnC)[j]? = some v → w.drew.cell? ⟨g, j, none⟩ = some v := fun j v hj => by
    rw [hb.drew.cell]
    rw [← htk, List.getElem?_take] at hj
    split at hj
    · simpa using hj
    · cases hj
  obtain ⟨news, hnews⟩ : ∃ news, news = (l.drop (k + 1)).flatMap cnC := ⟨_, rfl⟩
  have hnl : news.length = (n - (k + 1)) * 2 := by rw [hnews, flat_len cnC_len, List.length_drop, hl]
  obtain ⟨A, hA, hsrc⟩ : ∃ A : Addr, (if cap = k + 1 then some (⟨g, 0, none⟩ : Addr) else some ⟨g, (k + 1) * 2, none⟩) = some A ∧ Hid (∀ j u, news[j]? = some u → w.drew.cell? (A.add j) = some u) := by
    by_cases h : cap = k + 1
    · refine ⟨⟨g, 0, none⟩, by simp [h], (show ∀ j u, _ from fun j u hu => ?_)⟩
      have hz : n - (k + 1) = 0 := by omega
      have h0 : news.length = 0 := by rw [hnl, hz, Nat.zero_mul]
      rw [List.length_eq_zero_iff.1 h0] at hu
      simp at hu
    · refine ⟨⟨g, (k + 1) * 2, none⟩, by simp [h], (show ∀ j u, _ from fun j u hu => ?_)⟩
      rw [add_plain]
      refine hcell _ u ?_
      rw [hnews, ← flat_drop cnC_len, List.getElem?_drop] at hu
      exact hu
  have hone : Hid (∀ u ∈ news, u.oneCell' = true) := hnews ▸ flat_one cnC_one _
  have hbd : Blk w.drew g 38 cur.toList.toArray := by simpa using hb.drew
  have hroomc : Hid (∀ j, j < news.length → (w.drew.cell? ⟨g, 0 + k * 2 + j, none⟩).isSome = true ∧ w.drew.frozen? ⟨g, 0 + k * 2 + j, none⟩ = false) := by
    show ∀ j, _
    intro j hj
    rw [hnl] at hj
    refine ⟨?_, hbd.frozen _⟩
    rw [hbd.cell]
    have : 0 + k * 2 + j < cur.toList.length := by rw [Array.length_toList, hsz]; omega
    simp only [List.getElem?_toArray, List.getElem?_eq_getElem this, Option.isSome_some]
  obtain ⟨W1, hW1⟩ : ∃ W1, W1 = w.drew.setCells g (0 + k * 2) news := ⟨_, rfl⟩
  have hb1 : Blk W1 g 38 (midL cur.toList (k * 2) news).toArray := by
    rw [hW1, Nat.zero_add]
    exact hbd.mid _ _
  have hcl : ∀ ty c', (Builtin.clear_ #[35] ty #[.slice (some ⟨g, (n - 1) * 2, none⟩) 1 c']).run Try.prog W1 = .ok (.tuple #[]) (W1.setCells g ((n - 1) * 2) [Value.int .i64 0, .int .i64 0]) := fun ty c' =>
    run_clear_rows W1 35 38 ty (Value.agg #[.int .i64 0, .int .i64 0]) Try.underlying35 (fun w => by kernel_rfl) [Value.int .i64 0, .int .i64 0] g ((n - 1) * 2) 1 c' (by omega) (by kernel_rfl) (by simp [Value.oneCell'])
      (fun j hj => by
        rw [hb1.cell]
        have hj2 : j < 2 := hj
        have : (n - 1) * 2 + j < (midL cur.toList (k * 2) news).length := by rw [midL_len, Array.length_toList, hsz]; omega
        simp only [List.getElem?_toArray, List.getElem?_eq_getElem this, Option.isSome_some]) (fun j _ => hb1.frozen _)
  have HFIN : Hid ((∃ cur' : Array Value, Blk (W1.setCells g ((n - 1) * 2) [Value.int .i64 0, .int .i64 0]) g 38 cur' ∧ cur'.size = cap * 2 ∧ cur'.toList.take ((n - 1) * 2) = (delL l k).flatMap cnC) ∧ w.grownBy (W1.setCells g ((n - 1) * 2) [Value.int .i64 0, .int .i64 0]) (some g)) := by
    refine (show _ ∧ _ from ⟨⟨_, hb1.mid _ _, ?_, ?_⟩, ?_⟩)
    · rw [List.size_toArray, midL_len, midL_len, Array.length_toList, hsz]
    · rw [List.toList_toArray, del_cells 2 n k cap cur.toList news [Value.int .i64 0, .int .i64 0] (by rw [Array.length_toList, hsz]) hk hnc hnl rfl, hnews, delL, List.flatMap_append, ← flat_take cnC_len, ← htk, List.take_take, Nat.min_eq_left (by omega)]
    · have q1 : w.grownBy W1 (some g) := hW1 ▸ World.grownBy.trans (only_drew (World.grownBy.refl w (some g))) (mid_grown g _ _)
      exact World.grownBy.trans q1 (mid_grown g _ _)
  have hw1 : IntKind.i64.wrap ((k : Int) + 1) = (k : Int) + 1 := by rw [IntKind.wrap_i64]; omega
  have hb1' : (0 : Int) ≤ (k : Int) + 1 := by omega
  have htn : ((k : Int) + 1).toNat = k + 1 := by omega
  have hkc : ¬ (cap = k) := by omega
  have hq1 : (k : Int) + 1 ≤ (n : Int) := by omega
  have hq2 : k ≤ n := by omega
  have hq3 : ¬ ((k : Int) = (k : Int) + 1) := by omega
  have hq4 : k + (n - (k + 1)) = n - 1 := by omega
  have hq5 : ¬ (cap = n - 1) := by omega
  have hq6 : n - (n - 1) = 1 := by omega
  have hq7 : k + 1 ≤ n := by omega
  have hq8 : n - 1 ≤ n := by omega
  have hq9 : k ≤ cap := by omega
  have hNL := Lib.hid hnl
  have HW1 := Lib.hid hW1
  clear hcell hnews hnl hbd hb1 hW1 hb hsz htk hl hcap
  by_cases hck : cap = k + 1
  · have hA1 : (⟨g, 0, none⟩ : Addr) = A := by
      rw [if_pos hck] at hA
      injection hA
    subst hA1
    obtain rfl : n = k + 1 := by omega
    subst hck
    have hNL0 : Hid (news.length = 0 * 2) := by
      show _ = _
      rw [hNL.out, Nat.sub_self]
    clear hq4 hq6 hA
    have hqz : (k : Int) ≤ (k : Int) + 1 := by omega
    go_enter Try.func34, Try.ntmps34
    go_wp2
    go_region_law (refine step_append_room rfl _ _ 35 rfl 38 i0 2 Try.underlying35 hi0 hzs g 0 k (k + 1) (by simp [Act.eval, Act.put]) ⟨g, 0, none⟩ 0 0 news (by simp [Act.eval, Act.put]) hNL0.out hsrc.out hone.out (by omega) hroomc.out ?_; rw [← HW1.out])
    go_wp2_with (refine wpList_clear_eq _ rfl _ 35 rfl _ rfl (hcl _ _) ?_)
    go_ret
    exact ⟨by first | rfl | (congr 1), HFIN.out⟩
  · have hA1 : (⟨g, (k + 1) * 2, none⟩ : Addr) = A := by
      rw [if_neg hck] at hA
      injection hA
    subst hA1
    go_enter Try.func34, Try.ntmps34
    go_wp2
    go_region_law (refine step_append_room rfl _ _ 35 rfl 38 i0 2 Try.underlying35 hi0 hzs g 0 k cap (by simp [Act.eval, Act.put]) ⟨g, (k + 1) * 2, none⟩ (n - (k + 1)) _ news (by simp [Act.eval, Act.put]; rfl) hNL.out hsrc.out hone.out (by omega) hroomc.out ?_; rw [← HW1.out])
    go_wp2_with (refine wpList_clear_eq _ rfl _ 35 rfl _ rfl (hcl _ _) ?_)
    go_ret
    exact ⟨by first | rfl | (congr 1), HFIN.out⟩
end Go.Proofs.Ytidkhekekfennaa
