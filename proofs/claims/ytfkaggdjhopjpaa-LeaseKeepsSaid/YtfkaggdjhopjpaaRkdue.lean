/- The document's keeper: Due. -/
import Derived.Test.YtfkaggdjhopjpaaRksee
namespace Go.Proofs.Ytfkaggdjhopjpaa
set_option maxRecDepth 100000
open Go.RowKit

/-! ### Plain -/
def updR (L t : Int) (x : Rk) : Rk := if L ≤ t - x.s then ⟨x.h, t⟩ else x
def updK (L t : Int) (xs : List Rk) (k : Nat) : List Rk := (xs.take k).map (updR L t) ++ xs.drop k
def outR (L t : Int) (xs : List Rk) : List Rw := (xs.filter (fun x => decide (L ≤ t - x.s))).map (·.h.rw)
theorem updK_len (L t : Int) (xs : List Rk) (k : Nat) : (updK L t xs k).length = xs.length := by
  simp [updK]
  omega
theorem updK_get (L t : Int) (xs : List Rk) (k : Nat) (hk : k < xs.length) : (updK L t xs k)[k]'(by rw [updK_len]; exact hk) = xs[k] := by
  unfold updK
  rw [List.getElem_append_right (by simp; omega), List.getElem_drop]
  congr 1
  simp
  omega
theorem updK_succ (L t : Int) (xs : List Rk) (k : Nat) (hk : k < xs.length) : updK L t xs (k + 1) = (updK L t xs k).set k (updR L t xs[k]) := by
  unfold updK
  have h1 : ((xs.take k).map (updR L t)).length = k := by simp; omega
  have h2 : xs.drop k = xs[k] :: xs.drop (k + 1) := List.drop_eq_getElem_cons hk
  have h3 : xs.take (k + 1) = xs.take k ++ [xs[k]] := (List.take_append_getElem hk).symm
  rw [h3, List.map_append, h2, List.set_append_right _ _ (by omega), h1, Nat.sub_self, List.set_cons_zero, List.append_assoc]
  rfl
theorem updK_all (L t : Int) (xs : List Rk) : updK L t xs xs.length = xs.map (updR L t) := by simp [updK]
theorem outR_succ (L t : Int) (xs : List Rk) (k : Nat) (hk : k < xs.length) : outR L t (xs.take (k + 1)) = outR L t (xs.take k) ++ (if L ≤ t - xs[k].s then [xs[k].h.rw] else []) := by
  unfold outR
  rw [← List.take_append_getElem hk, List.filter_append, List.map_append]
  congr 1
  by_cases h : L ≤ t - xs[k].s
  · simp [h]
  · simp [h]
theorem outR_len (L t : Int) (xs : List Rk) : (outR L t xs).length ≤ xs.length := by
  unfold outR
  rw [List.length_map]
  exact List.length_filter_le _ _
theorem rk_flat (xs : List Rk) (k : Nat) (hk : k < xs.length) (t : Int) : (xs.set k ⟨xs[k].h, t⟩).flatMap rkC = (xs.flatMap rkC).set (k * 6 + 5) (.int .i64 t) := by
  induction xs generalizing k with
  | nil => simp at hk
  | cons y ys ih =>
    cases k with
    | zero => simp [rkC]
    | succ k =>
      have h := ih k (by simpa using hk)
      have e : (y :: ys).set (k + 1) ⟨((y :: ys)[k + 1]).h, t⟩ = y :: ys.set k ⟨(ys[k]'(by simpa using hk)).h, t⟩ := rfl
      rw [e, List.flatMap_cons, List.flatMap_cons, h]
      have e2 : (k + 1) * 6 + 5 = (rkC y).length + (k * 6 + 5) := by rw [rkC_len]; omega
      rw [e2, List.set_append_right _ _ (by omega)]
      congr 1
      · congr 1
        omega

/-! ### In memory -/
def RDueE (w : World) (gr : Nat) (A : Option Addr) (c : Nat) (L t : Int) (xs : List Rk) (e : Ending) (w' : World) : Prop :=
  ∃ A' c', e = .returned (.slice A' (outR L t xs).length c') ∧ InS cdC 8 w' A' c' (outR L t xs) ∧ (∀ q, A' = some q → w.heap.size ≤ q.block) ∧ RS w' gr A c L (xs.map (updR L t)) ∧ Tr w w' (fun j => (Value.slice A xs.length c).ownBlock = some j)
set_option maxHeartbeats 8000000 in
theorem ref_Due_any (w : World) (gr : Nat) (A : Option Addr) (c : Nat) (L : Int) (xs : List Rk) (now : Int) (k : RS w gr A c L xs) (hl : xs.length ≤ 64) :
    Calls Try.prog 19 #[.pointer (some ⟨gr, 0, none⟩), .int .i64 now] w (RDueE w gr A c L (tmC now) xs) := by
  obtain ⟨g, hg⟩ : ∃ g, w.heap.size = g := ⟨_, rfl⟩
  have hkg : gr < g := hg ▸ k.lt
  have CT := fun W => Lib.hid (ref_Time_any W now)
  obtain ⟨t, ht⟩ : ∃ t, tmC now = t := ⟨_, rfl⟩
  have htr : 0 ≤ t ∧ t ≤ 4611686018427387904 := ⟨ht ▸ tmC_lo now, ht ▸ tmC_hi now⟩
  rw [ht] at CT ⊢
  have HTR := Lib.hid htr
  have HK := Lib.hid k
  have k1 : w.cell? ⟨gr, 1, none⟩ = some (.slice A xs.length c) := (k.blk.cell 1).trans rfl
  obtain ⟨Q, hQ⟩ : ∃ Q, RDueE w gr A c L t xs = Q := ⟨_, rfl⟩
  have HQ := Lib.hid hQ
  rw [hQ]
  have HG := Lib.hid hg
  have hne := own_blk_ne k.row k.blk (by decide)
  have HNE := Lib.hid hne
  clear k ht hg htr hQ hne
  go_enter Try.func19, Try.ntmps19
  go_wp2_with fail
  clear k1
  go_loopw [5, 6, 7, 13] (fun v _ _ iv wr => ∃ (k : Nat) (ys : List Rk), iv = .int .i64 (k : Int) ∧ k ≤ xs.length ∧ ys = updK L t xs k ∧ wr.ownsRow g 39 8 v (outR L t (xs.take k)).length ((outR L t (xs.take k)).flatMap cdC) ∧ Blk wr gr 114 (rkpC L (.slice A xs.length c)) ∧ wr.ownsRow 0 116 6 (.slice A xs.length c) xs.length (ys.flatMap rkC) ∧ Tr w wr (fun j => (Value.slice A xs.length c).ownBlock = some j)) (fun _ _ _ iv _ => xs.length - (intOf iv).toNat)
  case atStart => exact ⟨0, xs, rfl, by omega, rfl, own_nil _ _ _ _, HK.out.blk, HK.out.row, Tr.refl _ _⟩
  case round =>
    obtain ⟨k, ys, rfl, hk, hys, ho, hb, hrow, hT⟩ := hrel
    have HO := Lib.hid ho
    have HB := Lib.hid hb
    have HRW := Lib.hid hrow
    have HT := Lib.hid hT
    have HYS := Lib.hid hys
    clear ho hT hb hys
    by_cases hkl : k < xs.length
    · have hyl : ys.length = xs.length := by rw [HYS.out, updK_len]
      have hin : InS rkC 6 wr A c ys := by
        have := HRW.out
        rw [← hyl] at this
        exact InS.own_at this (by omega)
      obtain ⟨b, off, e, hbb, hat⟩ := hin.rk (by omega)
      have hoff : off = 0 := by
        rcases HRW.out.2 with ⟨h1, _⟩ | ⟨g', cap, cur, h1, _⟩
        · rw [e] at h1; injection h1 with h1; cases h1
        · rw [e] at h1
          injection h1 with h1
          injection h1 with h1
          injection h1 with _ h1
      subst hoff
      subst e
      have hatk := hat k (by omega)
      have hyk : ys[k]'(by omega) = xs[k] := by
        have h := updK_get L t xs k hkl
        simp only [HYS.out]
        exact h
      rw [hyk] at hatk
      have hsu := updK_succ L t xs k hkl
      have hou := outR_succ L t xs k hkl
      obtain ⟨x, hx⟩ : ∃ x, xs[k] = x := ⟨_, rfl⟩
      have hsr := HK.out.rng _ (List.getElem_mem hkl)
      rw [hx] at hatk hsu hou hsr hyk
      rw [← HYS.out] at hsu
      simp only [Nat.zero_add] at hatk
      have HSU := Lib.hid hsu
      have HOU := Lib.hid hou
      have HX := Lib.hid hx
      have HYK := Lib.hid hyk
      obtain ⟨c0, c1, c2, c3, c4, c5⟩ := hatk
      have hz := HT.out.size
      have hgz : g ≤ wr.heap.size := by have := HG.out; omega
      have hrowlt := (World.ownsRow.lt HRW.out b rfl).2
      have hbg : b < g := by
        have h1 := HK.out.alt ⟨b, 0, none⟩ rfl
        have := HG.out
        dsimp only at h1
        omega
      obtain ⟨gx, hgx⟩ : ∃ gx, wr.heap.size = gx := ⟨_, rfl⟩
      have hgxg : g ≤ gx := by omega
      have hx5 : Blk (wr.alloc (.cells (rkA x) 116)) gx 116 (rkA x) := hgx ▸ Blk.new _ _ _
      have hO5 := HO.out.alloc (.cells (rkA x) 116)
      have hb5 := HB.out.alloc (.cells (rkA x) 116)
      have hR5 := HRW.out.alloc (.cells (rkA x) 116)
      have hT5 := HT.out.alloc (.cells (rkA x) 116)
      have hz5 : (wr.alloc (.cells (rkA x) 116)).heap.size = gx + 1 := by simp [hgx]
      have HVB : Hid (∀ b, u5.ownBlock = some b → b < gx) := fun b hb => hgx ▸ (World.ownsRow.lt HO.out b hb).2
      clear hat hx hyk hsu hou HO HB HRW HT hin hz hrowlt hrow
      go_upto_region 5 with (fail)
      change Code.wp _ _ _ _ (wr.alloc (.cells (rkA x) 116))
      generalize (wr.alloc (.cells (rkA x) 116)) = W5 at hx5 hO5 hb5 hR5 hT5 hz5 ⊢
      try rw [hgx]
      clear c0 c1 c2 c3 c4 c5 hbb
      obtain ⟨d0, d1, d2, d3, d4, d5⟩ := hx5.rk
      simp only [Nat.zero_add] at d1 d2 d3 d4 d5
      have k0 : W5.cell? ⟨gr, 0, none⟩ = some (.int .i64 L) := (hb5.cell 0).trans rfl
      have hwr : IntKind.i64.wrap (t - x.s) = t - x.s := by have := HTR.out; rw [IntKind.wrap_i64]; omega
      have HX5 := Lib.hid hx5
      have HO5 := Lib.hid hO5
      have HB5 := Lib.hid hb5
      have HR5 := Lib.hid hR5
      have HT5 := Lib.hid hT5
      have HZ5 := Lib.hid hz5
      clear hx5 hO5 hb5 hR5 hT5 hz5 hsr
      by_cases c1 : L ≤ t - x.s
      · have e1 : decide (L ≤ t - x.s) = true := decide_eq_true c1
        have HU : Hid (updK L t xs (k + 1) = ys.set k ⟨x.h, t⟩) := by
          show _ = _
          rw [HSU.out]
          unfold updR
          rw [if_pos c1]
        have HQ2 : Hid (outR L t (xs.take (k + 1)) = outR L t (xs.take k) ++ [x.h.rw]) := by
          show _ = _
          rw [HOU.out, if_pos c1]
        clear c1
        go_quiet ((go_at_call 51; exact Calls.quiet_of_same (CT _).out))
        have hx6 : Blk (W5.drewN nq) gx 116 (rkA x) := HX5.out
        have ho6 : (W5.drewN nq).ownsRow g 39 8 u5 (outR L t (xs.take k)).length ((outR L t (xs.take k)).flatMap cdC) := HO5.out
        have HB6 : Hid (Blk (W5.drewN nq) gr 114 (rkpC L (.slice (some ⟨b, 0, none⟩) xs.length c))) := HB5.out
        have HR6 : Hid ((W5.drewN nq).ownsRow 0 116 6 (.slice (some ⟨b, 0, none⟩) xs.length c) xs.length (ys.flatMap rkC)) := HR5.out
        have HT6 := Lib.hid (HT5.out.drewN nq)
        have HZ6 : Hid ((W5.drewN nq).heap.size = gx + 1) := HZ5.out
        generalize W5.drewN nq = W6 at hx6 ho6 HB6 HR6 HT6 HZ6 ⊢
        clear d0 d1 d2 d3 d4 d5 k0 hwr HX5 HO5 HB5 HR5 HT5 HZ5 e1
        obtain ⟨d0, d1, d2, d3, d4, d5⟩ := hx6.rk
        simp only [Nat.zero_add] at d1 d2 d3 d4 d5
        have HO6 := Lib.hid ho6
        have HVR : Hid (∀ j, u5.ownBlock = some j → j ≠ b ∧ j ≠ gr) := fun j hj => by
          have := own_base ho6 j hj
          exact ⟨by omega, by omega⟩
        have HLN : Hid (((outR L t (xs.take k)).length + 1) * 80 ≤ 140737488355328) := by
          have h1 := outR_len L t (xs.take k)
          rw [List.length_take] at h1
          show _ ≤ _
          omega
        have HZG : Hid (g ≤ W6.heap.size) := by have := HZ6.out; show _ ≤ _; omega
        clear hx6
        go_upto_region 7 with (refine wpList_oneH (f := cdC) (W := W6) Try.underlying34 info_Cd rfl (by omega) cdC_len cdC_one g rfl _ _ rfl u5 (outR L t (xs.take k)) x.h.rw rfl rfl rfl ho6 HZG.out HLN.out (by omega) ?_; intro v8 w8 ho8 hg8 hat8)
        have htr8 : Tr W6 w8 (fun j => u5.ownBlock = some j) := Tr.of_grown hg8 (fun _ e _ => e)
        have hb8 : Blk w8 gr 114 (rkpC L (.slice (some ⟨b, 0, none⟩) xs.length c)) := HB6.out.grown hg8 (fun e => (HVR.out _ e.symm).2 rfl)
        have hr8 : w8.ownsRow 0 116 6 (.slice (some ⟨b, 0, none⟩) xs.length c) xs.length (ys.flatMap rkC) := own_tr HR6.out htr8 (fun j e hj => (HVR.out j hj).1 (by injection e with e; exact e.symm))
        have hT8 : Tr w w8 (fun j => (Value.slice (some (⟨b, 0, none⟩ : Addr)) xs.length c).ownBlock = some j) := HT6.out.more htr8 (fun j hj e => absurd (own_base HO6.out _ e) (by have := HG.out; omega))
        have hin8 : InS rkC 6 w8 (some ⟨b, 0, none⟩) c ys := by
          have := hr8
          rw [← hyl] at this
          exact InS.own_at this (by omega)
        obtain ⟨b', off', e', _, hat8⟩ := hin8.rk (by omega)
        injection e' with e'
        injection e' with e1' e2' _
        subst e1' e2'
        have hc5 := (hat8 k (by omega)).c5
        rw [Nat.zero_add] at hc5
        have hfz : w8.frozen? ⟨b, k * 6 + 5, none⟩ = false := by
          rcases hr8.2 with ⟨h1, _⟩ | ⟨g', cap, cur, h1, _, hh, _⟩
          · cases h1
          · injection h1 with h1
            injection h1 with h1
            injection h1 with h1
            subst h1
            simp [World.frozen?, hh]
        have hst := (hr8.stored (k * 6 + 5) (.int .i64 t)).1
        have k1 : w8.cell? ⟨gr, 1, none⟩ = some (.slice (some ⟨b, 0, none⟩) xs.length c) := (hb8.cell 1).trans rfl
        have hbgr : b ≠ gr := fun e => HNE.out (by rw [e]; rfl)
        have hrk := rk_flat ys k (by omega) t
        have hyk := HYK.out
        rw [hyk] at hrk
        rw [← hrk] at hst
        have HST := Lib.hid hst
        have HB9 := Lib.hid (hb8.far (p := ⟨b, k * 6 + 5, none⟩) (show gr ≠ b from fun e => hbgr e.symm) (.int .i64 t))
        have HO9 : Hid ((w8.setCell ⟨b, k * 6 + 5, none⟩ (.int .i64 t)).ownsRow g 39 8 v8 (outR L t (xs.take k) ++ [x.h.rw]).length ((outR L t (xs.take k) ++ [x.h.rw]).flatMap cdC)) := own_tr ho8 ((Tr.refl w8 (fun j => j = b)).setCell (a := ⟨b, k * 6 + 5, none⟩) (fun _ => rfl) _) (fun j hj e => by have := own_base ho8 j hj; omega)
        have HT9 := Lib.hid (hT8.setCell (a := ⟨b, k * 6 + 5, none⟩) (fun _ => rfl) (.int .i64 t))
        clear htr8 ho8 hg8 hb8 hr8 hT8 hin8 hat8 hst hrk hyk d0 d1 d2 d3 d4 d5
        go_still_tail 9, (by kernel_rfl)
        still_call (CT _).out
        repeat still_step
        refine wpStill_nil ?_
        change wpList _ _ _ _ _ w8.drew
        go_wp2
        go_roundw
        case rel => exact ⟨k + 1, ys.set k ⟨x.h, t⟩, by go_num, by omega, HU.out.symm, by rw [HQ2.out]; exact HO9.out, HB9.out, HST.out, HT9.out.drew⟩
        case measure => simp [intOf]; omega
      · have e1 : decide (L ≤ t - x.s) = false := decide_eq_false c1
        have HU : Hid (updK L t xs (k + 1) = ys) := by
          show _ = _
          rw [HSU.out]
          unfold updR
          rw [if_neg c1]
          have h := HYK.out
          rw [← h]
          exact List.set_getElem_self _
        have HQ2 : Hid (outR L t (xs.take (k + 1)) = outR L t (xs.take k)) := by
          show _ = _
          rw [HOU.out, if_neg c1, List.append_nil]
        clear c1
        go_quiet ((go_at_call 51; exact Calls.quiet_of_same (CT _).out))
        have HO6 : Hid ((W5.drewN nq).ownsRow g 39 8 u5 (outR L t (xs.take k)).length ((outR L t (xs.take k)).flatMap cdC)) := HO5.out
        have HB6 : Hid (Blk (W5.drewN nq) gr 114 (rkpC L (.slice (some ⟨b, 0, none⟩) xs.length c))) := HB5.out
        have HR6 : Hid ((W5.drewN nq).ownsRow 0 116 6 (.slice (some ⟨b, 0, none⟩) xs.length c) xs.length (ys.flatMap rkC)) := HR5.out
        have HT6 := Lib.hid (HT5.out.drewN nq)
        generalize W5.drewN nq = W6 at HO6 HB6 HR6 HT6 ⊢
        clear d0 d1 d2 d3 d4 d5 k0 hwr HX5 HO5 HB5 HR5 HT5 HZ5
        go_wp2
        go_roundw
        case rel => exact ⟨k + 1, ys, by go_num, by omega, HU.out.symm, by rw [HQ2.out]; exact HO6.out, HB6.out, HR6.out, HT6.out⟩
        case measure => simp [intOf]; omega
    · obtain rfl : k = xs.length := by omega
      have hown : wr.ownsRow g 39 8 u5 (outR L t xs).length ((outR L t xs).flatMap cdC) := by
        have := HO.out
        rwa [List.take_length] at this
      have hbase := own_base hown
      have hol := outR_len L t xs
      obtain ⟨A8, c8, e8, hin⟩ := InS.own hown (by omega)
      subst e8
      have hys : ys = xs.map (updR L t) := by rw [HYS.out, updK_all]
      subst hys
      have hml : (xs.map (updR L t)).length = xs.length := List.length_map _
      have HP : Hid (Q (.returned (.slice A8 (outR L t xs).length c8)) wr) := by
        rw [← HQ.out]
        refine ⟨A8, c8, rfl, hin, fun q e => by have := hbase q.block (by rw [e]; rfl); have := HG.out; omega, ⟨by rw [hml]; exact HB.out, by rw [hml]; exact HRW.out, ?_, ?_⟩, HT.out⟩
        · intro y hy
          obtain ⟨x, hx, rfl⟩ := List.mem_map.1 hy
          unfold updR
          split
          · exact HK.out.wf x hx
          · exact HK.out.wf x hx
        · intro y hy
          obtain ⟨x, hx, rfl⟩ := List.mem_map.1 hy
          unfold updR
          split
          · exact HTR.out
          · exact HK.out.rng x hx
      clear hin hown hbase HO HB HRW HT hol hrow hml
      go_wp2
      exact HP.out
end Go.Proofs.Ytfkaggdjhopjpaa
