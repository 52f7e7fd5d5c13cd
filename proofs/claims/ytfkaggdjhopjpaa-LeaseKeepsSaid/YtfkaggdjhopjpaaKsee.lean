/- Keepers: Sees, Leads. -/
import Derived.Test.YtfkaggdjhopjpaaKp
import Derived.Test.YtfkaggdjhopjpaaOneH
import Derived.Deep.QuietTactic
namespace Go.Proofs.Ytfkaggdjhopjpaa
set_option maxRecDepth 100000
open Go.RowKit Go.Maps

theorem lit_u {a : Int} (h : 0 ≤ a ∧ a < 18446744073709551616) : (Lit.int .u64 a).wf = true := by
  simp [Lit.wf, IntKind.min, IntKind.max, IntKind.bits, IntKind.signed]
  omega
theorem lit_t {a : Int} (h : 0 ≤ a ∧ a ≤ 4611686018427387904) : (Lit.int .i64 a).wf = true := by
  simp [Lit.wf, IntKind.min, IntKind.max, IntKind.bits, IntKind.signed]
  omega
theorem Hd.Wf.rw {h : Hd} (w : h.Wf) : h.rw.Wf := ⟨w.tok, lit_u w.ser, lit_u w.stp⟩
/-- What is known behind the first k rows that are seen. -/
noncomputable def seeF (f : Rw → Option Int) (t : Int) (hs : List Hd) (k : Nat) : Rw → Option Int := fun r => if r ∈ (hs.take k).map Hd.rw then some ((f r).getD t) else none
theorem seeF_zero (f : Rw → Option Int) (t : Int) (hs : List Hd) : seeF f t hs 0 = fun _ => none := by
  funext r
  simp [seeF]
theorem seeF_succ (f : Rw → Option Int) (t : Int) (hs : List Hd) (k : Nat) (hk : k < hs.length) : seeF f t hs (k + 1) = fun r => if r = hs[k].rw then some ((f hs[k].rw).getD t) else seeF f t hs k r := by
  funext r
  unfold seeF
  rw [← List.take_append_getElem hk, List.map_append]
  simp only [List.map_cons, List.map_nil, List.mem_append, List.mem_singleton]
  by_cases h : r = hs[k].rw
  · subst h
    simp
  · simp [h]
theorem info_Kp : (Try.prog.info? 98).map (·.size) = some 3 := by kernel_rfl
theorem info_Row : (Try.prog.info? 103).map (fun i => (i.zero, i.size, i.bytes)) = some (some (.agg #[.int .i64 0, .int .u64 0, .int .u64 0]), 3, 24) := by kernel_rfl
theorem rwC_one (x : Rw) : ∀ u ∈ rwC x, u.oneCell' = true := by
  intro u hu
  simp only [rwC, List.mem_cons, List.not_mem_nil, or_false] at hu
  rcases hu with rfl | rfl | rfl <;> rfl
theorem KS0.look_ok {w : World} {gk : Nat} {rv mv : Value} {L : Int} {f : Rw → Option Int} {n : Nat} (h : KS0 w gk rv mv L f n) {r : Rw} (hr : r.Wf) (j : Nat) :
    (Instr.lookup 96 mv (rwV r) true).run Try.prog (w.drewN j) = .ok (.tuple #[.int .i64 ((f r).getD 0), .bool (f r).isSome]) (w.drewN j) := by
  rcases h.map with ⟨e, hf⟩ | ⟨M, e, hm⟩
  · rw [e, hf]
    exact look_none (w.drewN j) hr
  · rw [e]
    exact MapF.look_ok (w := w.drewN j) hm hr
theorem own_map_ne {w : World} {base : Nat} {e : TypeId} {s n : Nat} {v : Value} {xs : List Value} {M m : Nat} {f : Rw → Option Int} (h : w.ownsRow base e s v n xs) (hm : MapF w M m f) : v.ownBlock ≠ some M := by
  rcases h.2 with ⟨rfl, _⟩ | ⟨g', cap, cur, rfl, _, hh, _⟩
  · simp [Value.ownBlock]
  · intro he
    have he : g' = M := by simpa [Value.ownBlock] using he
    subst he
    obtain ⟨D, ⟨es, cl, hb, _⟩, _⟩ := hm
    rw [hh] at hb
    injection hb with hb
    cases hb
theorem own_kept {w w1 : World} {base : Nat} {e : TypeId} {s n : Nat} {v : Value} {xs : List Value} {M : Nat} (h : w.ownsRow base e s v n xs) (hne : v.ownBlock ≠ some M) (hg : w.grownBy w1 (some M)) : w1.ownsRow base e s v n xs := by
  rcases h.2 with h1 | ⟨g', cap, cur, rfl, hb, hh, h3⟩
  · exact ⟨h.1, .inl h1⟩
  · refine ⟨h.1, .inr ⟨g', cap, cur, rfl, hb, (hg.block g' (Array.getElem?_eq_some_iff.1 hh).1 ?_).trans hh, h3⟩⟩
    intro e
    exact hne e
set_option maxHeartbeats 8000000 in
theorem keeper_Sees_any0 (w : World) (gk : Nat) (rv mv : Value) (L : Int) (f : Rw → Option Int) (n : Nat) (now lim nxt : Int) (Ah : Option Addr) (ch : Nat) (hs : List Hd) (ll : Value)
    (k : KS0 w gk rv mv L f n) (hh : InS hdC 5 w Ah ch hs) (hw : ∀ h ∈ hs, h.Wf) (hl : hs.length ≤ 64) :
    Calls Try.prog 11 #[.pointer (some ⟨gk, 0, none⟩), .int .i64 now, ledV lim nxt (.slice Ah hs.length ch) ll] w fun e w' => e = .returned (.tuple #[]) ∧ ∃ a', KS w' gk a' L (hs.map Hd.rw) (seeF f (tmC now) hs hs.length) hs.length ∧ (∃ M, a'.mv = .map (some M) ∧ w.heap.size ≤ M) ∧ (∀ q, a'.A = some q → w.heap.size ≤ q.block) ∧ Tr w w' (fun j => j = gk) := by
  obtain ⟨g, hg⟩ : ∃ g, w.heap.size = g := ⟨_, rfl⟩
  have hkg : gk < g := hg ▸ k.lt
  have hb0 : Blk (w.alloc (.cells (ledC lim nxt (.slice Ah hs.length ch) ll) 26)) g 26 (ledC lim nxt (.slice Ah hs.length ch) ll) := hg ▸ Blk.new _ _ _
  have hB0 : Below g w (w.alloc (.cells (ledC lim nxt (.slice Ah hs.length ch) ll) 26)) := (Below.refl _ _).alloc (by omega) _
  have hz0 : (w.alloc (.cells (ledC lim nxt (.slice Ah hs.length ch) ll) 26)).heap.size = g + 1 := by simp [hg]
  have HH := Lib.hid hh
  have HW := Lib.hid hw
  have HK := Lib.hid k
  have hcap := hh.cap
  have CT := Lib.hid (fun W => lease_time_any W now)
  obtain ⟨t, ht⟩ : ∃ t, tmC now = t := ⟨_, rfl⟩
  have htr : 0 ≤ t ∧ t ≤ 4611686018427387904 := ⟨ht ▸ tmC_lo now, ht ▸ tmC_hi now⟩
  have HTR := Lib.hid htr
  rw [ht] at CT ⊢
  rw [hg]
  have HG := Lib.hid hg
  clear hh hw k ht htr
  have hmm := @run_makeMap Try.prog
  obtain ⟨i0, hi0, hz, hz1, hz2⟩ := info_parts info_Row
  unfold ledV
  go_enter Try.func11, Try.ntmps11
  go_upto_region 1 with (fail)
  change Code.wp _ _ _ _ (w.alloc (.cells (ledC lim nxt (.slice Ah hs.length ch) ll) 26))
  generalize (w.alloc (.cells (ledC lim nxt (.slice Ah hs.length ch) ll) 26)) = W0 at hb0 hB0 hz0 ⊢
  try rw [hg]
  have HB0 := Lib.hid hB0
  obtain ⟨q0, q1, q2, q3⟩ := hb0.led
  have HL0 := Lib.hid hb0
  have HKW := Lib.hid (HK.out.keep (hg ▸ hB0))
  clear hB0 hb0 hg
  go_upto_region 2 with (at_make; refine wpList_make_own _ rfl _ _ 95 rfl g 103 i0 _ 3 Try.underlying95 hi0 hz hz1 _ _ _ hs.length rfl rfl rfl (by rw [hz2]; omega) (by unfold maxLen; omega) (by omega) ?_; intro w1 ho1 hg1)
  have hz2 : g + 1 ≤ w1.heap.size := by have := hg1.size; omega
  have HB1 := Lib.hid (HB0.out.grown hg1 (by omega) (fun _ e => by cases e))
  have hl1 : Blk w1 g 26 (ledC lim nxt (.slice Ah hs.length ch) ll) := HL0.out.grown hg1 (by simp)
  have hm2 := MapF.made w1
  have ho2 := World.ownsRow.alloc ho1 (.map #[] 0)
  have hl2 := hl1.alloc (.map #[] 0)
  have HB2 := Lib.hid (HB1.out.alloc (by omega) (.map #[] 0))
  obtain ⟨M, hM⟩ : ∃ M, w1.heap.size = M := ⟨_, rfl⟩
  have hgM : g + 1 ≤ M := by omega
  try rw [hM]
  rw [hM] at hm2
  change Code.wp _ _ _ _ (w1.alloc (.map #[] 0))
  generalize (w1.alloc (.map #[] 0)) = W2 at hm2 ho2 hl2 HB2 ⊢
  clear q0 q1 q2 q3 hmm ho1 hg1 hl1 HL0 HB1 hM
  obtain ⟨q0, q1, q2, q3⟩ := hl2.led
  rw [hz0] at ho2
  have HO2 := Lib.hid ho2
  have HM2 := Lib.hid hm2
  have HL2 := Lib.hid hl2
  clear ho2 hm2 hl2
  go_wp2_with fail
  go_loopw [6, 9, 10, 11, 12, 21] (fun rv _ _ _ _ iv wr => ∃ (k : Nat), iv = .int .i64 (k : Int) ∧ k ≤ hs.length ∧ wr.ownsRow g 103 3 rv ((hs.take k).map Hd.rw).length (((hs.take k).map Hd.rw).flatMap rwC) ∧ MapF wr M k (seeF f t hs k) ∧ Below g w wr) (fun _ _ _ _ _ iv _ => hs.length - (intOf iv).toNat)
  case atStart => exact ⟨0, rfl, by omega, HO2.out, (seeF_zero f t hs).symm ▸ HM2.out, HB2.out⟩
  case round =>
    obtain ⟨k, rfl, hk, ho, hm, hB⟩ := hrel
    have HO := Lib.hid ho
    have HM := Lib.hid hm
    have HB := Lib.hid hB
    clear ho hm HO2 HM2 HL2 HB2
    by_cases hkl : k < hs.length
    · obtain ⟨b, off, rfl, hbb, hat⟩ := (HH.out.keep (HG.out ▸ hB)).hd (by omega)
      have hatk := hat k hkl
      have hwx := HW.out _ (List.getElem_mem hkl)
      obtain ⟨x, hx⟩ : ∃ x, hs[k] = x := ⟨_, rfl⟩
      rw [hx] at hatk hwx
      have HX := Lib.hid hx
      have HWX := Lib.hid hwx
      obtain ⟨c0, c1, c2, c3, c4⟩ := hatk
      have hKr := HK.out.keep (HG.out ▸ hB)
      have hMl := HM.out.lt
      have HVB0 := Lib.hid (fun b hb => (World.ownsRow.lt HO.out b hb).2)
      obtain ⟨gx, hgx⟩ : ∃ gx, wr.heap.size = gx := ⟨_, rfl⟩
      have HVB : Hid (∀ b, u6.ownBlock = some b → b < gx) := fun b hb => hgx ▸ HVB0.out b hb
      obtain ⟨gy, hgy⟩ : ∃ gy, gx + 1 = gy := ⟨_, rfl⟩
      have hs1 : (wr.alloc (.cells (hdA x) 55)).heap.size = gy := by simp [hgx, hgy]
      have hr5 : Blk ((wr.alloc (.cells (hdA x) 55)).alloc (.cells (rwA x.rw) 103)) gy 103 (rwA x.rw) := hs1 ▸ Blk.new _ _ _
      have hB5 : Below wr.heap.size wr ((wr.alloc (.cells (hdA x) 55)).alloc (.cells (rwA x.rw) 103)) := ((Below.refl _ _).alloc (Nat.le_refl _) _).alloc (by simp) _
      have hO5 := (HO.out.alloc (.cells (hdA x) 55)).alloc (.cells (rwA x.rw) 103)
      have hM5 := (HM.out.alloc (.cells (hdA x) 55)).alloc (.cells (rwA x.rw) 103)
      have hK5 := hKr.keep hB5
      have hz5 : ((wr.alloc (.cells (hdA x) 55)).alloc (.cells (rwA x.rw) 103)).heap.size = gy + 1 := by simp [hgx, hgy]
      have hBw5 := HB.out.trans (hB5.mono (by have := hB.size; have := HG.out; omega))
      clear hat hx hwx hKr hB hs1 hB5
      go_upto_region 6 with (fail)
      change Code.wp _ _ _ _ ((wr.alloc (.cells (hdA x) 55)).alloc (.cells (rwA x.rw) 103))
      generalize ((wr.alloc (.cells (hdA x) 55)).alloc (.cells (rwA x.rw) 103)) = W5 at hr5 hO5 hM5 hK5 hz5 hBw5 ⊢
      try rw [hgx]
      try rw [hgy]
      clear c0 c1 c2 c3 c4 HO HM HB hbb
      have hlk : ∀ j, (Instr.lookup 96 mv (.agg #[.int .i64 x.tok, .int .u64 x.ser, .int .u64 x.stp]) true).run Try.prog (W5.drewN j) = .ok (.tuple #[.int .i64 ((f x.rw).getD 0), .bool (f x.rw).isSome]) (W5.drewN j) := fun j => hK5.look_ok HWX.out.rw j
      have k2 := hK5.blk.kp.k2
      have d0 : W5.cell? ⟨gy, 0, none⟩ = some (.int .i64 x.tok) := (hr5.cell 0).trans rfl
      have d1 : W5.cell? ⟨gy, 1, none⟩ = some (.int .u64 x.ser) := (hr5.cell 1).trans rfl
      have d2 : W5.cell? ⟨gy, 2, none⟩ = some (.int .u64 x.stp) := (hr5.cell 2).trans rfl
      obtain ⟨v0, hv0⟩ : ∃ v0, (f x.rw).getD 0 = v0 := ⟨_, rfl⟩
      obtain ⟨b0, hb0⟩ : ∃ b0, (f x.rw).isSome = b0 := ⟨_, rfl⟩
      rw [hv0, hb0] at hlk
      have HV0 := Lib.hid hv0
      have HBB := Lib.hid hb0
      have HR5 := Lib.hid hr5
      have HO5 := Lib.hid hO5
      have HM5 := Lib.hid hM5
      have HK5 := Lib.hid hK5
      have HB5 := Lib.hid hBw5
      clear hv0 hb0 hr5 hO5 hM5 hK5 hBw5
      go_quiet (fail)
      have hr6 : Blk (W5.drewN nq) gy 103 (rwA x.rw) := HR5.out
      have ho6 : (W5.drewN nq).ownsRow g 103 3 u6 ((hs.take k).map Hd.rw).length (((hs.take k).map Hd.rw).flatMap rwC) := HO5.out
      have hm6 : MapF (W5.drewN nq) M k (seeF f t hs k) := HM5.out
      have hB6 : Below g w (W5.drewN nq) := ⟨HB5.out.os, HB5.out.tape, HB5.out.output, HB5.out.size, HB5.out.block⟩
      have hz6 : (W5.drewN nq).heap.size = gy + 1 := hz5
      have HRG : Hid (∀ v, f x.rw = some v → 0 ≤ v ∧ v ≤ 4611686018427387904) := fun v h => HK5.out.rng _ _ h
      have HLN : Hid ((((hs.take k).map Hd.rw).length + 1) * 24 ≤ 140737488355328) := by show _ ≤ _; simp; omega
      generalize W5.drewN nq = W6 at hr6 ho6 hm6 hB6 hz6 ⊢
      clear hlk k2 d0 d1 d2 hz5 HR5 HO5 HM5 HK5 HB5
      have d0 : W6.cell? ⟨gy, 0, none⟩ = some (.int .i64 x.tok) := (hr6.cell 0).trans rfl
      have d1 : W6.cell? ⟨gy, 1, none⟩ = some (.int .u64 x.ser) := (hr6.cell 1).trans rfl
      have d2 : W6.cell? ⟨gy, 2, none⟩ = some (.int .u64 x.stp) := (hr6.cell 2).trans rfl
      have HZ6 := Lib.hid hz6
      have HVY : Hid (some gy ≠ u6.ownBlock) := fun e => by have := HVB.out _ e.symm; omega
      have HVM : Hid (some M ≠ u6.ownBlock) := fun e => own_map_ne ho6 hm6 e.symm
      have HO6 := Lib.hid ho6
      have HB6 := Lib.hid hB6
      clear hz6 hB6
      cases b0
      · have HVAL := Lib.hid HTR.out
        have HFN : Hid (f x.rw = none) := by have := HBB.out; show _ = _; cases h : f x.rw; rfl; rw [h] at this; cases this
        go_wp2_with fail
        refine (CT.out _).mono ?_
        rintro e w7 ⟨rfl, hw7⟩
        obtain rfl := hw7.symm
        go_wp2_with (first | (refine wpList_oneH (f := rwC) (W := W6) Try.underlying95 info_Row rfl (by omega) rwC_len rwC_one g rfl _ _ rfl u6 ((hs.take k).map Hd.rw) x.rw rfl rfl rfl ho6 (by have := HZ6.out; omega) HLN.out (by omega) ?_; intro v8 w8 ho8 hg8 hat8; have hr8 := hr6.grown hg8 HVY.out; have HM8 := Lib.hid (hm6.kept hg8 HVM.out); obtain ⟨w9, hup9, hm9, hg9⟩ := HM8.out.upd HWX.out.rw (by unfold maxLen; omega) (v := t) (lit_t HVAL.out); have e0 : w8.cell? ⟨gy, 0, none⟩ = some (.int .i64 x.tok) := (hr8.cell 0).trans rfl; have e1 : w8.cell? ⟨gy, 1, none⟩ = some (.int .u64 x.ser) := (hr8.cell 1).trans rfl; have e2 : w8.cell? ⟨gy, 2, none⟩ = some (.int .u64 x.stp) := (hr8.cell 2).trans rfl; have HO8 := Lib.hid ho8; have HG8 := Lib.hid hg8; have HM9 := Lib.hid hm9; have HG9 := Lib.hid hg9; unfold rwV Hd.rw at hup9; clear ho8 hg8 hat8 hm9 hg9 hr8))
        go_roundw
        case rel =>
          have hM9 : MapF w9 M (k + 1) (seeF f t hs (k + 1)) := by
            rw [seeF_succ f t hs k hkl, HX.out]
            have h1 : (f x.rw).getD t = t := by rw [HFN.out]; rfl
            rw [h1]
            exact HM9.out
          have ht1 : (hs.take (k + 1)).map Hd.rw = (hs.take k).map Hd.rw ++ [x.rw] := by
            rw [← List.take_append_getElem hkl, List.map_append, HX.out]
            rfl
          have hsz8 := HG8.out.size
          refine ⟨k + 1, by go_num, by omega, ?_, hM9, (HB6.out.grown HG8.out (by have := HZ6.out; omega) (fun j hj => own_base HO6.out j hj)).grown HG9.out (by have := HZ6.out; omega) (fun j hj => by injection hj with hj; omega)⟩
          rw [ht1]
          exact own_kept HO8.out (own_map_ne HO8.out HM8.out) HG9.out
        case measure => simp [intOf]; omega
      · have HFS : Hid (f x.rw = some v0) := by have := HBB.out; have h2 := HV0.out; show _ = _; cases h : f x.rw; rw [h] at this; cases this; rw [h] at h2; rw [← h2]; rfl
        have HVAL := Lib.hid (HRG.out _ HFS.out)
        go_wp2_with (first | (refine wpList_oneH (f := rwC) (W := W6) Try.underlying95 info_Row rfl (by omega) rwC_len rwC_one g rfl _ _ rfl u6 ((hs.take k).map Hd.rw) x.rw rfl rfl rfl ho6 (by have := HZ6.out; omega) HLN.out (by omega) ?_; intro v8 w8 ho8 hg8 hat8; have hr8 := hr6.grown hg8 HVY.out; have HM8 := Lib.hid (hm6.kept hg8 HVM.out); obtain ⟨w9, hup9, hm9, hg9⟩ := HM8.out.upd HWX.out.rw (by unfold maxLen; omega) (v := v0) (lit_t HVAL.out); have e0 : w8.cell? ⟨gy, 0, none⟩ = some (.int .i64 x.tok) := (hr8.cell 0).trans rfl; have e1 : w8.cell? ⟨gy, 1, none⟩ = some (.int .u64 x.ser) := (hr8.cell 1).trans rfl; have e2 : w8.cell? ⟨gy, 2, none⟩ = some (.int .u64 x.stp) := (hr8.cell 2).trans rfl; have HO8 := Lib.hid ho8; have HG8 := Lib.hid hg8; have HM9 := Lib.hid hm9; have HG9 := Lib.hid hg9; unfold rwV Hd.rw at hup9; clear ho8 hg8 hat8 hm9 hg9 hr8))
        go_roundw
        case rel =>
          have hM9 : MapF w9 M (k + 1) (seeF f t hs (k + 1)) := by
            rw [seeF_succ f t hs k hkl, HX.out]
            have h1 : (f x.rw).getD t = v0 := by rw [HFS.out]; rfl
            rw [h1]
            exact HM9.out
          have ht1 : (hs.take (k + 1)).map Hd.rw = (hs.take k).map Hd.rw ++ [x.rw] := by
            rw [← List.take_append_getElem hkl, List.map_append, HX.out]
            rfl
          have hsz8 := HG8.out.size
          refine ⟨k + 1, by go_num, by omega, ?_, hM9, (HB6.out.grown HG8.out (by have := HZ6.out; omega) (fun j hj => own_base HO6.out j hj)).grown HG9.out (by have := HZ6.out; omega) (fun j hj => by injection hj with hj; omega)⟩
          rw [ht1]
          exact own_kept HO8.out (own_map_ne HO8.out HM8.out) HG9.out
        case measure => simp [intOf]; omega
    · obtain rfl : k = hs.length := by omega
      have hown : wr.ownsRow g 103 3 u6 (hs.map Hd.rw).length ((hs.map Hd.rw).flatMap rwC) := by
        have := HO.out
        rwa [List.take_length] at this
      have hbase := own_base hown
      obtain ⟨A8, c8, rfl, hin⟩ := InS.own hown (by simp; omega)
      have hKr := HK.out.keep (HG.out ▸ hB)
      have k1 := hKr.blk.kp.k1
      have k2 := hKr.blk.kp.k2
      have f1 := hKr.blk.frozen 1
      have f2 := hKr.blk.frozen 2
      have HKR := Lib.hid hKr
      have HIN := Lib.hid hin
      have HBS := Lib.hid hbase
      clear hown hin hKr hbase hB
      go_wp2
      have hMg : M ≠ gk := by omega
      have hAg : ∀ b off, A8 = some ⟨b, off, none⟩ → gk ≠ b := fun b off e => by
        subst e
        have := HBS.out b rfl
        omega
      have hblk : Blk ((wr.setCell ⟨gk, 1, none⟩ (.slice A8 hs.length c8)).setCell ⟨gk, 2, none⟩ (.map (some M))) gk 98 (kpC L (.slice A8 (hs.map Hd.rw).length c8) (.map (some M))) := by
        have := (HKR.out.blk.set_ 1 (.slice A8 hs.length c8)).set_ 2 (.map (some M))
        rw [List.length_map]
        simpa [kpC] using this
      have hin2 : InS rwC 3 ((wr.setCell ⟨gk, 1, none⟩ (.slice A8 hs.length c8)).setCell ⟨gk, 2, none⟩ (.map (some M))) A8 c8 (hs.map Hd.rw) := (HIN.out.far (p := ⟨gk, 1, none⟩) hAg _).far (p := ⟨gk, 2, none⟩) hAg _
      have hmap2 : MapF ((wr.setCell ⟨gk, 1, none⟩ (.slice A8 hs.length c8)).setCell ⟨gk, 2, none⟩ (.map (some M))) M hs.length (seeF f t hs hs.length) := (HM.out.setCell (a := ⟨gk, 1, none⟩) hMg _).setCell (a := ⟨gk, 2, none⟩) hMg _
      have htr : Tr w ((wr.setCell ⟨gk, 1, none⟩ (.slice A8 hs.length c8)).setCell ⟨gk, 2, none⟩ (.map (some M))) (fun j => j = gk) := ((Tr.of_below (P := fun j => j = gk) (by rw [HG.out]; exact HB.out)).setCell (a := ⟨gk, 1, none⟩) (fun _ => rfl) _).setCell (a := ⟨gk, 2, none⟩) (fun _ => rfl) _
      refine bodyPost_end (results_none rfl _ _ _) rfl ⟨rfl, ⟨A8, c8, .map (some M)⟩, ⟨hblk, hin2, .inr ⟨M, rfl, hmap2⟩, ?_, ?_⟩, ⟨M, rfl, by omega⟩, ?_, htr⟩
      · intro r hr
        obtain ⟨h, hh, rfl⟩ := List.mem_map.1 hr
        exact (HW.out h hh).rw
      · intro r v hr
        unfold seeF at hr
        split at hr
        · injection hr with hr
          cases hfr : f r with
          | none => rw [hfr] at hr; rw [← hr]; exact HTR.out
          | some u => rw [hfr] at hr; rw [← hr]; exact HK.out.rng _ _ hfr
        · cases hr
      · rintro q rfl
        exact HBS.out _ rfl
/-- What Sees and Leads leave. -/
def SeeE (w : World) (gk : Nat) (L : Int) (hs : List Hd) (f : Rw → Option Int) (e : Ending) (w' : World) : Prop :=
  e = .returned (.tuple #[]) ∧ ∃ a', KS w' gk a' L (hs.map Hd.rw) f hs.length ∧ (∃ M, a'.mv = .map (some M) ∧ w.heap.size ≤ M) ∧ (∀ q, a'.A = some q → w.heap.size ≤ q.block) ∧ Tr w w' (fun j => j = gk)
theorem keeper_Sees_any (w : World) (gk : Nat) (a : Ka) (L : Int) (rs : List Rw) (f : Rw → Option Int) (n : Nat) (now lim nxt : Int) (Ah : Option Addr) (ch : Nat) (hs : List Hd) (ll : Value)
    (k : KS w gk a L rs f n) (hh : InS hdC 5 w Ah ch hs) (hw : ∀ h ∈ hs, h.Wf) (hl : hs.length ≤ 64) :
    Calls Try.prog 11 #[.pointer (some ⟨gk, 0, none⟩), .int .i64 now, ledV lim nxt (.slice Ah hs.length ch) ll] w (SeeE w gk L hs (seeF f (tmC now) hs hs.length)) :=
  keeper_Sees_any0 w gk _ _ L f n now lim nxt Ah ch hs ll k.ks0 hh hw hl
set_option maxHeartbeats 8000000 in
theorem keeper_Leads_any (w : World) (gk : Nat) (a : Ka) (L : Int) (rs : List Rw) (f : Rw → Option Int) (n : Nat) (now lim nxt : Int) (Ah : Option Addr) (ch : Nat) (hs : List Hd) (Al : Option Addr) (cl m : Nat)
    (k : KS w gk a L rs f n) (hh : InS hdC 5 w Ah ch hs) (hf : 0 < hs.length → ∀ q, Ah = some q → q.block ≠ gk) (hw : ∀ h ∈ hs, h.Wf) (hl : hs.length ≤ 64) :
    Calls Try.prog 10 #[.pointer (some ⟨gk, 0, none⟩), .int .i64 now, ledV lim nxt (.slice Ah hs.length ch) (.slice Al m cl)] w (SeeE w gk L hs (seeF (fun _ => none) (tmC now) hs hs.length)) := by
  obtain ⟨g, hg⟩ : ∃ g, w.heap.size = g := ⟨_, rfl⟩
  have hkg : gk < g := hg ▸ k.lt
  have hb0 : Blk (w.alloc (.cells (ledC lim nxt (.slice Ah hs.length ch) (.slice Al m cl)) 26)) g 26 (ledC lim nxt (.slice Ah hs.length ch) (.slice Al m cl)) := hg ▸ Blk.new _ _ _
  have hB0 : Below w.heap.size w (w.alloc (.cells (ledC lim nxt (.slice Ah hs.length ch) (.slice Al m cl)) 26)) := (Below.refl _ _).alloc (by omega) _
  have hz0 : (w.alloc (.cells (ledC lim nxt (.slice Ah hs.length ch) (.slice Al m cl)) 26)).heap.size = g + 1 := by simp [hg]
  have hk0 := k.keep hB0
  have hh0 := hh.keep hB0
  have ht0 : Tr w (w.alloc (.cells (ledC lim nxt (.slice Ah hs.length ch) (.slice Al m cl)) 26)) (fun j => j = gk) := Tr.of_below hB0
  have HW := Lib.hid hw
  obtain ⟨Q, hQ⟩ : ∃ Q, SeeE w gk L hs (seeF (fun _ => none) (tmC now) hs hs.length) = Q := ⟨_, rfl⟩
  have HQ := Lib.hid hQ
  rw [hQ]
  have HG := Lib.hid hg
  have HF := Lib.hid hf
  clear hh hw k hQ hB0 hf
  unfold ledV
  go_enter Try.func10, Try.ntmps10
  go_upto_region 1 with (fail)
  change Code.wp _ _ _ _ (w.alloc (.cells (ledC lim nxt (.slice Ah hs.length ch) (.slice Al m cl)) 26))
  generalize (w.alloc (.cells (ledC lim nxt (.slice Ah hs.length ch) (.slice Al m cl)) 26)) = W0 at hb0 hz0 hk0 hh0 ht0 ⊢
  try rw [hg]
  have k2 := hk0.blk.kp.k2
  have f2 := hk0.blk.frozen 2
  have hblk : Blk (W0.setCell ⟨gk, 2, none⟩ (.map none)) gk 98 (kpC L (.slice a.A rs.length a.c) (.map none)) := by
    have := hk0.blk.set_ 2 (.map none)
    simpa [kpC] using this
  have hks : KS0 (W0.setCell ⟨gk, 2, none⟩ (.map none)) gk (.slice a.A rs.length a.c) (.map none) L (fun _ => none) 0 := ⟨hblk, .inl ⟨rfl, fun _ => rfl⟩, (fun _ _ h => by cases h)⟩
  have hin : InS hdC 5 (W0.setCell ⟨gk, 2, none⟩ (.map none)) Ah ch hs := by
    refine ⟨⟨hh0.reads.1, fun h0 => ?_⟩, hh0.cap, hh0.small⟩
    obtain ⟨b, off, e, hb, hc⟩ := hh0.reads.2 h0
    refine ⟨b, off, e, by simpa [World.setCell] using hb, fun j u' hu => ?_⟩
    rw [World.cell?_setCell_other W0 ⟨gk, 2, none⟩ ⟨b, off + j, none⟩ _ (fun hh => HF.out h0 _ e (congrArg Addr.block hh).symm)]
    exact hc j u' hu
  have hb1 := hb0.far (p := ⟨gk, 2, none⟩) (by show g ≠ gk; omega) (.map none)
  have ht1 := ht0.setCell (a := ⟨gk, 2, none⟩) (fun _ => rfl) (.map none)
  have hz1 : (W0.setCell ⟨gk, 2, none⟩ (.map none)).heap.size = g + 1 := by rw [← hz0]; simp [World.setCell]
  clear hb0 hz0 hk0 hh0 ht0
  go_upto_region 2 with (fail)
  change Code.wp _ _ _ _ (W0.setCell ⟨gk, 2, none⟩ (.map none))
  generalize (W0.setCell ⟨gk, 2, none⟩ (.map none)) = W1 at hblk hks hin hb1 ht1 hz1 ⊢
  clear k2 f2 hg
  have X := keeper_Sees_any0 W1 gk (.slice a.A rs.length a.c) (.map none) L (fun _ => none) 0 now lim nxt Ah ch hs (.slice Al m cl) hks hin HW.out hl
  unfold ledV at X
  have X := Lib.hid X
  obtain ⟨q0, q1, q2, q3⟩ := hb1.led
  have HT := Lib.hid ht1
  have HZ := Lib.hid hz1
  clear hblk hks hin hb1 ht1 hz1
  go_wp2_with fail
  refine X.out.mono ?_
  rintro e w2 ⟨rfl, a', h1, ⟨M, h2, h3⟩, h4, h5⟩
  have hz := HZ.out
  have hg := HG.out
  have HP : Hid (Q (.returned (.tuple #[])) w2) := by
    rw [← HQ.out]
    exact ⟨rfl, a', h1, ⟨M, h2, by omega⟩, fun q e => by have := h4 q e; omega, HT.out.trans h5⟩
  clear h1 h2 h3 h4 h5 q0 q1 q2 q3 X HT HQ hz hg HZ HG
  go_wp2
  exact bodyPost_end (results_none rfl _ _ _) rfl HP.out
end Go.Proofs.Ytfkaggdjhopjpaa
