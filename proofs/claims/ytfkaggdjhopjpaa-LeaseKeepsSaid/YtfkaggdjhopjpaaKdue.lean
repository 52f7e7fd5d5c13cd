/- Keepers: Due. -/
import Derived.Test.YtfkaggdjhopjpaaKsee
import Derived.StillTailTactics
namespace Go.Proofs.Ytfkaggdjhopjpaa
set_option maxRecDepth 100000
open Go.RowKit Go.Maps

/-! ### Plain -/
noncomputable def dueStep (L t : Int) (s : (Rw → Option Int) × List Rw) (r : Rw) : (Rw → Option Int) × List Rw :=
  if L ≤ t - (s.1 r).getD 0 then (fun x => if x = r then some t else s.1 x, s.2 ++ [r]) else s
/-- What is known, and what is due, behind the first k rows. -/
noncomputable def dueK (L t : Int) (rs : List Rw) (f : Rw → Option Int) (k : Nat) : (Rw → Option Int) × List Rw := (rs.take k).foldl (dueStep L t) (f, [])
theorem dueK_zero (L t : Int) (rs : List Rw) (f : Rw → Option Int) : dueK L t rs f 0 = (f, []) := rfl
theorem dueK_succ (L t : Int) (rs : List Rw) (f : Rw → Option Int) (k : Nat) (hk : k < rs.length) : dueK L t rs f (k + 1) = dueStep L t (dueK L t rs f k) rs[k] := by
  unfold dueK
  rw [← List.take_append_getElem hk, List.foldl_append]
  rfl
theorem dueK_len (L t : Int) (rs : List Rw) (f : Rw → Option Int) : ∀ k, (dueK L t rs f k).2.length ≤ k := by
  intro k
  induction k with
  | zero => exact Nat.le_refl _
  | succ k ih =>
    rcases Nat.lt_or_ge k rs.length with h | h
    · rw [dueK_succ L t rs f k h]
      unfold dueStep
      split
      · simp; exact ih
      · omega
    · have : dueK L t rs f (k + 1) = dueK L t rs f k := by unfold dueK; rw [List.take_of_length_le h, List.take_of_length_le (by omega)]
      rw [this]
      omega
theorem dueK_wf (L t : Int) (rs : List Rw) (f : Rw → Option Int) (hw : ∀ r ∈ rs, r.Wf) : ∀ k, ∀ r ∈ (dueK L t rs f k).2, r.Wf := by
  intro k
  induction k with
  | zero => intro r h; cases h
  | succ k ih =>
    rcases Nat.lt_or_ge k rs.length with h | h
    · rw [dueK_succ L t rs f k h]
      unfold dueStep
      split
      · intro r hr
        rcases List.mem_append.1 hr with q | q
        · exact ih r q
        · rw [List.mem_singleton] at q
          rw [q]
          exact hw _ (List.getElem_mem h)
      · exact ih
    · have : dueK L t rs f (k + 1) = dueK L t rs f k := by unfold dueK; rw [List.take_of_length_le h, List.take_of_length_le (by omega)]
      rw [this]
      exact ih

/-! ### In memory -/
def cdC (r : Rw) : List Value := [.int .i64 6, .int .i64 0, .int .i64 r.tok, .slice none 0 0, .int .u64 0, .int .u64 0, .int .u64 r.ser, .int .u64 r.stp]
theorem cdC_len (r : Rw) : (cdC r).length = 8 := rfl
theorem cdC_one (x : Rw) : ∀ u ∈ cdC x, u.oneCell' = true := by
  intro u hu
  simp only [cdC, List.mem_cons, List.not_mem_nil, or_false] at hu
  rcases hu with rfl | rfl | rfl | rfl | rfl | rfl | rfl | rfl <;> rfl
theorem info_Cd : (Try.prog.info? 39).map (fun i => (i.zero, i.size, i.bytes)) = some (some (.agg #[.int .i64 0, .int .i64 0, .int .i64 0, .slice none 0 0, .int .u64 0, .int .u64 0, .int .u64 0, .int .u64 0]), 8, 80) := by kernel_rfl
theorem InS.rw {w : World} {A : Option Addr} {c : Nat} {l : List Rw} (h : InS rwC 3 w A c l) (h0 : 0 < l.length) : ∃ b off, A = some ⟨b, off, none⟩ ∧ b < w.heap.size ∧ ∀ (j : Nat) (hj : j < l.length), RwAt w b (off + j * 3) l[j] := by
  obtain ⟨b, off, e, hb, hc⟩ := h.all rwC_len h0
  refine ⟨b, off, e, hb, fun j hj => ⟨?_, ?_, ?_⟩⟩
  · exact hc j hj 0 _ (by omega) rfl
  · rw [Nat.add_assoc]; exact hc j hj 1 _ (by omega) rfl
  · rw [Nat.add_assoc]; exact hc j hj 2 _ (by omega) rfl
/-- What Due tells, and what it leaves. -/
def DueE (w : World) (gk : Nat) (a : Ka) (L t : Int) (rs : List Rw) (f : Rw → Option Int) (n : Nat) (e : Ending) (w' : World) : Prop :=
  ∃ A' c', e = .returned (.slice A' (dueK L t rs f rs.length).2.length c') ∧ InS cdC 8 w' A' c' (dueK L t rs f rs.length).2 ∧ (∀ q, A' = some q → w.heap.size ≤ q.block) ∧ KS w' gk a L rs (dueK L t rs f rs.length).1 (n + rs.length) ∧ Tr w w' (fun j => a.mv = .map (some j))
set_option maxHeartbeats 8000000 in
theorem keeper_Due_any (w : World) (gk : Nat) (a : Ka) (L : Int) (rs : List Rw) (f : Rw → Option Int) (n : Nat) (now : Int)
    (k : KS w gk a L rs f n) (hl : rs.length ≤ 64) (hn : n ≤ 1000000) :
    Calls Try.prog 12 #[.pointer (some ⟨gk, 0, none⟩), .int .i64 now] w (DueE w gk a L (tmC now) rs f n) := by
  obtain ⟨A, c, mv⟩ := a
  obtain ⟨g, hg⟩ : ∃ g, w.heap.size = g := ⟨_, rfl⟩
  have hkg : gk < g := hg ▸ k.lt
  have CT := fun W => Lib.hid (lease_time_any W now)
  obtain ⟨t, ht⟩ : ∃ t, tmC now = t := ⟨_, rfl⟩
  have htr : 0 ≤ t ∧ t ≤ 4611686018427387904 := ⟨ht ▸ tmC_lo now, ht ▸ tmC_hi now⟩
  rw [ht] at CT ⊢
  have HTR := Lib.hid htr
  have HK := Lib.hid k
  have k1 := k.blk.kp.k1
  obtain ⟨Q, hQ⟩ : ∃ Q, DueE w gk ⟨A, c, mv⟩ L t rs f n = Q := ⟨_, rfl⟩
  have HQ := Lib.hid hQ
  rw [hQ]
  have HG := Lib.hid hg
  clear k ht hg htr hQ
  go_enter Try.func12, Try.ntmps12
  go_wp2_with fail
  clear k1
  go_loopw [4, 6, 12] (fun v _ iv wr => ∃ (k : Nat), iv = .int .i64 (k : Int) ∧ k ≤ rs.length ∧ wr.ownsRow g 39 8 v (dueK L t rs f k).2.length ((dueK L t rs f k).2.flatMap cdC) ∧ KS wr gk ⟨A, c, mv⟩ L rs (dueK L t rs f k).1 (n + k) ∧ Tr w wr (fun j => mv = .map (some j))) (fun _ _ iv _ => rs.length - (intOf iv).toNat)
  case atStart => exact ⟨0, rfl, by omega, own_nil _ _ _ _, HK.out, Tr.refl _ _⟩
  case round =>
    obtain ⟨k, rfl, hk, ho, hks, hT⟩ := hrel
    have HO := Lib.hid ho
    have HKS := Lib.hid hks
    have HT := Lib.hid hT
    clear ho hT
    by_cases hkl : k < rs.length
    · obtain ⟨b, off, e, hbb, hat⟩ := hks.rows.rw (by omega)
      have hatk := hat k hkl
      obtain ⟨M, eM, hm⟩ : ∃ M, mv = .map (some M) ∧ MapF wr M (n + k) (dueK L t rs f k).1 := by
        rcases hks.map with ⟨_, _, h3⟩ | ⟨M, e, h⟩
        · rw [h3] at hkl
          simp at hkl
        · exact ⟨M, e, h⟩
      dsimp only at e
      subst e eM
      have hwx := hks.wf _ (List.getElem_mem hkl)
      have hsu := dueK_succ L t rs f k hkl
      have hle := dueK_len L t rs f k
      obtain ⟨x, hx⟩ : ∃ x, rs[k] = x := ⟨_, rfl⟩
      rw [hx] at hatk hwx hsu
      obtain ⟨fk, ok, hfo⟩ : ∃ fk ok, dueK L t rs f k = (fk, ok) := ⟨_, _, rfl⟩
      rw [hfo] at hsu hm hks hle
      dsimp only at hm hks hle
      have HO2 : Hid (wr.ownsRow g 39 8 u4 ok.length (ok.flatMap cdC)) := by have := HO.out; rw [hfo] at this; exact this
      have HSU := Lib.hid hsu
      have HFO := Lib.hid hfo
      have HWX := Lib.hid hwx
      obtain ⟨c0, c1, c2⟩ := hatk
      have hMl := hm.lt
      have hMb : M ≠ b := hm.apart c0
      have hz := HT.out.size
      have hgz : g ≤ wr.heap.size := by have := HG.out; omega
      obtain ⟨gx, hgx⟩ : ∃ gx, wr.heap.size = gx := ⟨_, rfl⟩
      have hB5 : Below wr.heap.size wr (wr.alloc (.cells (rwA x) 103)) := (Below.refl _ _).alloc (Nat.le_refl _) _
      have hr5 : Blk (wr.alloc (.cells (rwA x) 103)) gx 103 (rwA x) := hgx ▸ Blk.new _ _ _
      have hO5 := HO2.out.alloc (.cells (rwA x) 103)
      have hK5 := hks.keep hB5
      have hT5 := HT.out.alloc (.cells (rwA x) 103)
      have hz5 : (wr.alloc (.cells (rwA x) 103)).heap.size = gx + 1 := by simp [hgx]
      have HVB : Hid (∀ b, u4.ownBlock = some b → b < gx) := fun b hb => hgx ▸ (World.ownsRow.lt HO2.out b hb).2
      have hbx : b < gx := by omega
      have HRB : Hid (b < g) := by
        have := HK.out.rows.reads.2 (by omega)
        obtain ⟨b', off', e', hb', _⟩ := this
        injection e' with e'
        injection e' with e1 _ _
        rw [e1]
        have := HG.out
        show _ < _
        omega
      clear hat hx hwx HO HO2 HKS HT hB5 hks hm hsu hfo hz
      go_upto_region 4 with (fail)
      change Code.wp _ _ _ _ (wr.alloc (.cells (rwA x) 103))
      generalize (wr.alloc (.cells (rwA x) 103)) = W5 at hr5 hO5 hK5 hT5 hz5 ⊢
      try rw [hgx]
      clear c0 c1 c2 hbb
      obtain ⟨s0, hs0⟩ : ∃ s0, (fk x).getD 0 = s0 := ⟨_, rfl⟩
      have hsr : 0 ≤ s0 ∧ s0 ≤ 4611686018427387904 := by
        rw [← hs0]
        cases h : fk x with
        | none => exact ⟨Int.le_refl _, by decide⟩
        | some v => exact hK5.rng _ _ h
      have hlk : ∀ j, (Instr.lookup 96 (.map (some M)) (.agg #[.int .i64 x.tok, .int .u64 x.ser, .int .u64 x.stp]) false).run Try.prog (W5.drewN j) = .ok (.int .i64 s0) (W5.drewN j) := fun j => hs0 ▸ MapF.look (w := W5.drewN j) (hK5.mapS rfl) HWX.out
      have k0 := hK5.blk.kp.k0
      have k2 := hK5.blk.kp.k2
      have d0 : W5.cell? ⟨gx, 0, none⟩ = some (.int .i64 x.tok) := (hr5.cell 0).trans rfl
      have d1 : W5.cell? ⟨gx, 1, none⟩ = some (.int .u64 x.ser) := (hr5.cell 1).trans rfl
      have d2 : W5.cell? ⟨gx, 2, none⟩ = some (.int .u64 x.stp) := (hr5.cell 2).trans rfl
      have hwr : IntKind.i64.wrap (t - s0) = t - s0 := by have := HTR.out; rw [IntKind.wrap_i64]; omega
      have HS0 := Lib.hid hs0
      have HR5 := Lib.hid hr5
      have HO5 := Lib.hid hO5
      have HK5 := Lib.hid hK5
      have HT5 := Lib.hid hT5
      clear hs0 hr5 hO5 hK5 hT5 hsr
      by_cases c1 : L ≤ t - s0
      · have e1 : decide (L ≤ t - s0) = true := decide_eq_true c1
        have HD : Hid (dueK L t rs f (k + 1) = (fun y => if y = x then some t else fk y, ok ++ [x])) := by
          show _ = _
          rw [HSU.out]
          unfold dueStep
          dsimp only
          rw [HS0.out, if_pos c1]
        clear c1
        go_quiet ((go_at_call 45; exact Calls.quiet_of_same (CT _).out))
        have hr6 : Blk (W5.drewN nq) gx 103 (rwA x) := HR5.out
        have ho6 : (W5.drewN nq).ownsRow g 39 8 u4 ok.length (ok.flatMap cdC) := HO5.out
        have hk6 : KS (W5.drewN nq) gk ⟨some ⟨b, off, none⟩, c, .map (some M)⟩ L rs fk (n + k) := HK5.out.tr (Tr.drewN (Tr.refl _ (fun _ => False)) nq) (fun q => q) (fun _ _ q => q) (fun _ _ _ q => q)
        have HT6 := Lib.hid (HT5.out.drewN nq)
        have HZ6 : Hid ((W5.drewN nq).heap.size = gx + 1) := hz5
        generalize W5.drewN nq = W6 at hr6 ho6 hk6 HT6 HZ6 ⊢
        clear hlk k0 k2 d0 d1 d2 hwr HR5 HO5 HK5 HT5 hz5 e1
        have d0 : W6.cell? ⟨gx, 0, none⟩ = some (.int .i64 x.tok) := (hr6.cell 0).trans rfl
        have d1 : W6.cell? ⟨gx, 1, none⟩ = some (.int .u64 x.ser) := (hr6.cell 1).trans rfl
        have d2 : W6.cell? ⟨gx, 2, none⟩ = some (.int .u64 x.stp) := (hr6.cell 2).trans rfl
        have HVY : Hid (some gx ≠ u4.ownBlock) := fun e => by have := HVB.out _ e.symm; omega
        have HVM : Hid (some M ≠ u4.ownBlock) := fun e => own_map_ne ho6 (hk6.mapS rfl) e.symm
        have HVK : Hid (some gk ≠ u4.ownBlock) := fun e => by have := own_base ho6 _ e.symm; omega
        have HRow : Hid (some b ≠ u4.ownBlock) := fun e => by
          have h1 := own_base ho6 _ e.symm
          have h2 := HRB.out
          omega
        have HO6 := Lib.hid ho6
        have HK6 := Lib.hid hk6
        have HR6 := Lib.hid hr6
        have HLN : Hid ((ok.length + 1) * 80 ≤ 140737488355328) := by show _ ≤ _; omega
        clear hk6 hr6
        go_upto_region 6 with (refine wpList_oneH (f := cdC) (W := W6) Try.underlying34 info_Cd rfl (by omega) cdC_len cdC_one g rfl _ _ rfl u4 ok x rfl rfl rfl ho6 (by have := HZ6.out; omega) HLN.out (by omega) ?_; intro v8 w8 ho8 hg8 hat8)
        have hr8 := HR6.out.grown hg8 HVY.out
        have hk8 : KS w8 gk ⟨some ⟨b, off, none⟩, c, .map (some M)⟩ L rs fk (n + k) := HK6.out.tr (P := fun j => u4.ownBlock = some j) (Tr.of_grown hg8 (fun _ e _ => e)) (fun e => HVK.out e.symm) (fun M' e => by injection e with e; injection e with e; subst e; exact fun e => HVM.out e.symm) (fun _ q e => by injection e with e; subst e; exact fun e => HRow.out e.symm)
        have hT8 : Tr w w8 (fun j => Value.map (some M) = .map (some j)) := HT6.out.more (Tr.of_grown (P := fun j => u4.ownBlock = some j) hg8 (fun _ e _ => e)) (fun j hj e => absurd (own_base HO6.out _ e) (by have := HG.out; omega))
        obtain ⟨w9, hup9, hm9, hg9⟩ := MapF.upd (w := w8.drew) (hk8.mapS rfl) HWX.out (by unfold maxLen; omega) (v := t) (lit_t HTR.out)
        have k2 := hk8.blk.kp.k2
        have e0 : w8.cell? ⟨gx, 0, none⟩ = some (.int .i64 x.tok) := (hr8.cell 0).trans rfl
        have e1 : w8.cell? ⟨gx, 1, none⟩ = some (.int .u64 x.ser) := (hr8.cell 1).trans rfl
        have e2 : w8.cell? ⟨gx, 2, none⟩ = some (.int .u64 x.stp) := (hr8.cell 2).trans rfl
        have hbM : ∀ q, (Value.slice (some (⟨b, off, none⟩ : Addr)) rs.length c).ownBlock = some q → q ≠ M := fun q e => by
          have : b = q := by simpa [Value.ownBlock] using e
          omega
        have hk9 : KS w9 gk ⟨some ⟨b, off, none⟩, c, .map (some M)⟩ L rs (fun y => if y = x then some t else fk y) (n + k + 1) := by
          have hne1 : gk ≠ M := fun e => by
            have := (hk8.mapS rfl).apart k2
            exact this e.symm
          refine ⟨(hg9.block gk hk8.blk.lt (fun e => hne1 (by injection e))).trans hk8.blk, ⟨⟨hk8.rows.reads.1, fun h0 => ?_⟩, hk8.rows.cap, hk8.rows.small⟩, .inr ⟨M, rfl, hm9⟩, hk8.wf, ?_⟩
          · obtain ⟨b', off', e', hb', hc'⟩ := hk8.rows.reads.2 h0
            injection e' with e'
            injection e' with e1 e2 _
            subst e1 e2
            exact ⟨b, off, rfl, Nat.lt_of_lt_of_le hb' hg9.size, fun j u hu => (World.cell?_of_block (hg9.block b hb' (fun e => hMb (by injection e with e; exact e.symm)))).trans (hc' j u hu)⟩
          · intro r v hr
            split at hr
            · injection hr with hr
              rw [← hr]
              exact HTR.out
            · exact hk8.rng _ _ hr
        have HO9 : Hid (w9.ownsRow g 39 8 v8 (ok ++ [x]).length ((ok ++ [x]).flatMap cdC)) := own_kept (w := w8.drew) ho8 (own_map_ne (w := w8) ho8 (hk8.mapS rfl)) hg9
        have HT9 : Hid (Tr w w9 (fun j => Value.map (some M) = .map (some j))) := hT8.trans ((Tr.refl w8 _).drew.trans (Tr.of_grown hg9 (fun j e _ => by injection e with e; rw [e])))
        have HK9 := Lib.hid hk9
        unfold rwV at hup9
        clear ho8 hg8 hat8 hr8 hk8 hT8 hm9 hg9 hk9 d0 d1 d2 hbM
        go_still_tail 7, (by kernel_rfl)
        still_call (CT _).out
        refine wpStill_nil ?_
        change wpList _ _ _ _ _ w8.drew
        go_wp2
        go_roundw
        case rel =>
          refine ⟨k + 1, by go_num, by omega, ?_, ?_, HT9.out⟩
          · rw [HD.out]; exact HO9.out
          · rw [HD.out]; exact HK9.out
        case measure => simp [intOf]; omega
      · have e1 : decide (L ≤ t - s0) = false := decide_eq_false c1
        have HD : Hid (dueK L t rs f (k + 1) = (fk, ok)) := by
          show _ = _
          rw [HSU.out]
          unfold dueStep
          dsimp only
          rw [HS0.out, if_neg c1]
        clear c1
        go_quiet ((go_at_call 45; exact Calls.quiet_of_same (CT _).out))
        have ho6 : (W5.drewN nq).ownsRow g 39 8 u4 ok.length (ok.flatMap cdC) := HO5.out
        have hk6 : KS (W5.drewN nq) gk ⟨some ⟨b, off, none⟩, c, .map (some M)⟩ L rs fk (n + k) := HK5.out.tr (Tr.drewN (Tr.refl _ (fun _ => False)) nq) (fun q => q) (fun _ _ q => q) (fun _ _ _ q => q)
        have HO6 := Lib.hid ho6
        have HK6 := Lib.hid hk6
        have HT6 := Lib.hid (HT5.out.drewN nq)
        generalize W5.drewN nq = W6 at HO6 HK6 HT6 ⊢
        clear hlk k0 k2 d0 d1 d2 hwr HR5 HO5 HK5 HT5
        go_wp2
        go_roundw
        case rel =>
          refine ⟨k + 1, by go_num, by omega, ?_, ?_, HT6.out⟩
          · rw [HD.out]; exact HO6.out
          · rw [HD.out]
            exact ⟨HK6.out.blk, HK6.out.rows, .inr ⟨M, rfl, (HK6.out.mapS rfl).mono (by omega)⟩, HK6.out.wf, HK6.out.rng⟩
        case measure => simp [intOf]; omega
    · obtain rfl : k = rs.length := by omega
      have hbase := own_base HO.out
      obtain ⟨A8, c8, e8, hin⟩ := InS.own HO.out (by have := dueK_len L t rs f rs.length; omega)
      subst e8
      have HP : Hid (Q (.returned (.slice A8 (dueK L t rs f rs.length).2.length c8)) wr) := by
        rw [← HQ.out]
        exact ⟨A8, c8, rfl, hin, fun q e => by have := hbase q.block (by rw [e]; rfl); have := HG.out; omega, HKS.out, HT.out⟩
      clear hin hks hbase HO HKS HT
      go_wp2
      exact HP.out
end Go.Proofs.Ytfkaggdjhopjpaa
