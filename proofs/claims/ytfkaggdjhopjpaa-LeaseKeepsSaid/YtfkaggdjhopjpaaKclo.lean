/- Keepers: Clone. -/
import Derived.Test.YtfkaggdjhopjpaaKdue
import Derived.Test.YtfkaggdjhopjpaaShCp
import Derived.Lib.SliceRun
import Derived.Deep.RegionHeld
import Derived.Maps.RangeWalk
import Derived.Maps.Ext
namespace Go.Proofs.Ytfkaggdjhopjpaa
set_option maxRecDepth 100000
open Go.RowKit Go.Maps

theorem own_emptyS (W : World) (base : Nat) (e : TypeId) (s : Nat) (hb : base ≤ W.heap.size) : (W.alloc (.cells #[] e)).ownsRow base e s (.slice (some ⟨W.heap.size, 0, none⟩) 0 0) 0 [] :=
  ⟨by simp, .inr ⟨W.heap.size, 0, #[], rfl, hb, heap_alloc_new W _, by simp, by unfold maxLen; omega, by simp, by simp⟩⟩
theorem len_none {α : Type} {f : α → List Value} {s : Nat} {w : World} {c : Nat} {l : List α} (h : InS f s w none c l) : l = [] := by
  rcases Nat.eq_zero_or_pos l.length with h0 | h0
  · exact List.eq_nil_of_length_eq_zero h0
  · obtain ⟨b, off, e, _⟩ := h.reads.2 h0
    cases e

set_option maxHeartbeats 1000000 in
theorem clone_Row (w : World) (A : Option Addr) (c : Nat) (l : List Rw) (h : InS rwC 3 w A c l) (hs : l.length * 24 ≤ 140737488355328) :
    Calls Try.prog 52 #[.slice A l.length c] w fun e w' => ∃ A' c', e = .returned (.slice A' l.length c') ∧ OwS rwC 3 w' w.heap.size A' c' l ∧ Below w.heap.size w w' := by
  have q22 : ∀ (w : World) (a : Option Addr) (n c n' c' : Nat), (binOp .eql 95 (.slice a n c) (.slice none n' c')).run Try.prog w = .ok (.bool a.isNone) w := fun w a n c n' c' => Lib.run_eql_slice_nil w _ _ a n c n' c' Try.underlying95
  cases A with
  | none =>
    have hnil := len_none h
    subst hnil
    clear h hs
    go_enter Try.func52, Try.ntmps52
    go_wp2
    go_ret
    exact ⟨none, 0, rfl, ⟨InS.nil, fun b e => by cases e⟩, Below.refl _ _⟩
  | some ad =>
    have HIN := Lib.hid h
    have hcap := h.cap
    clear h
    have HOE := Lib.hid (own_emptyS w w.heap.size 103 3 (Nat.le_refl _))
    have hB0 : Below w.heap.size w (w.alloc (.cells #[] 103)) := (Below.refl _ _).alloc (Nat.le_refl _) _
    have HB0 := Lib.hid hB0
    have HR := Lib.hid (HIN.out.keep hB0).reads
    clear hB0
    go_enter Try.func52, Try.ntmps52
    go_wp2_with (at_builtin; refine app_own (w0 := w) w.heap.size rfl _ _ 95 103 _ 24 rfl Try.underlying95 3 info_Row rfl (by omega) (by omega) _ [] 0 rfl _ _ _ _ (l.flatMap rwC) rfl HOE.out HR.out (flat_one rwC_one l) HB0.out HB0.out.size (by omega) ?_; intro v1 w1 ho1 hB1 _ _; obtain ⟨A1, c1, rfl, hin1⟩ := OwS.of (f := rwC) (l := l) (by simpa using ho1) (by omega); have HO1 := Lib.hid hin1; have HB1 := Lib.hid hB1; clear ho1 hB1 hin1)
    go_ret
    exact ⟨A1, c1, rfl, HO1.out, HB1.out⟩


theorem lits_int {n : Nat} {t : TypeId} {q : IntKind} (ht : Try.prog.underlying t = some (.int q)) {a : Value} {L : List Lit} (h : Try.prog.keyLits (n + 1) t [a] = some L) : ∃ x, a = .int q x ∧ (Lit.int q x).wf = true ∧ L = [.int q x] := by
  simp only [Program.keyLits, ht] at h
  cases a <;> simp at h
  obtain ⟨⟨rfl, hw⟩, rfl⟩ := h
  exact ⟨_, rfl, hw, rfl⟩
theorem key_inv {v : Value} {kl : Lit} (h : keyOf Try.prog 103 v = some kl) : ∃ x : Rw, v = rwV x ∧ x.Wf ∧ kl = rwK x := by
  obtain ⟨xs, L, rfl, hL, rfl⟩ := keyOf_top wideR h
  obtain ⟨n, hn⟩ := szT
  rw [hn] at hL
  obtain ⟨l⟩ := xs
  unfold Program.keyLits at hL
  simp only [Try.underlying103, c_row] at hL
  match l with
  | [a, b, c] =>
    simp [c_int_, c_u64_] at hL
    rw [Option.bind_eq_some_iff] at hL
    obtain ⟨La, ha, hL⟩ := hL
    simp only [Function.comp] at hL
    obtain ⟨xa, rfl, wa, rfl⟩ := lits_int Try.underlying3 ha
    cases hb : Try.prog.keyLits (n + 1) 22 [b] with
    | none => rw [hb] at hL; simp at hL
    | some Lb =>
      cases hc : Try.prog.keyLits (n + 1) 22 [c] with
      | none => rw [hb, hc] at hL; simp at hL
      | some Lc =>
        rw [hb, hc] at hL
        obtain ⟨xb, rfl, wb, rfl⟩ := lits_int Try.underlying22 hb
        obtain ⟨xc, rfl, wc, rfl⟩ := lits_int Try.underlying22 hc
        simp at hL
        subst hL
        exact ⟨⟨xa, xb, xc⟩, rfl, ⟨wa, wb, wc⟩, rfl⟩
  | [] => simp at hL
  | [_] => simp at hL
  | [_, _] => simp at hL
  | _ :: _ :: _ :: _ :: _ => simp at hL
theorem OwS.lower17 {α : Type} {f : α → List Value} {s : Nat} {w : World} {base base' : Nat} {A : Option Addr} {c : Nat} {l : List α} (h : OwS f s w base A c l) (hb : base' ≤ base) : OwS f s w base' A c l := ⟨h.inn, fun a e => Nat.le_trans hb (h.own a e)⟩
theorem InS.tr17 {α : Type} {f : α → List Value} {s : Nat} {w w1 : World} {A : Option Addr} {c : Nat} {l : List α} {P : Nat → Prop} (h : InS f s w A c l) (ht : Tr w w1 P) (hp : 0 < l.length → ∀ q, A = some q → ¬ P q.block) : InS f s w1 A c l :=
  ⟨⟨h.reads.1, fun h0 => by
    obtain ⟨b, off, e, hb, hc⟩ := h.reads.2 h0
    exact ⟨b, off, e, Nat.lt_of_lt_of_le hb ht.size, fun j u hu => (World.cell?_of_block (ht.block b hb (hp h0 _ e))).trans (hc j u hu)⟩⟩, h.cap, h.small⟩
/-- A clone, just made: its rows are copied, its map holds nothing. -/
def Cl0 (w : World) (L : Int) (rs : List Rw) (x : Value) (W : World) : Prop :=
  ∃ gc M A' c', x = .pointer (some ⟨gc, 0, none⟩) ∧ Blk W gc 98 (kpC L (.slice A' rs.length c') (.map (some M))) ∧ InS rwC 3 W A' c' rs ∧ (∀ q, A' = some q → w.heap.size ≤ q.block) ∧ W.ownsMap (H := Unit) Try.prog 103 (plainElem Try.prog 2) M 0 (.map []) ∧ Below w.heap.size w W ∧ w.heap.size ≤ gc ∧ w.heap.size ≤ M
set_option maxHeartbeats 4000000 in
theorem keeper_Clone_any (w : World) (gk : Nat) (a : Ka) (L : Int) (rs : List Rw) (f : Rw → Option Int) (n : Nat) (k : KS w gk a L rs f n) (hl : rs.length ≤ 64) (hn : n ≤ 1000000) :
    Calls Try.prog 20 #[.pointer (some ⟨gk, 0, none⟩)] w fun e w' => ∃ gc a', e = .returned (.pointer (some ⟨gc, 0, none⟩)) ∧ KS w' gc a' L rs f n ∧ w.heap.size ≤ gc ∧ (∃ M, a'.mv = .map (some M) ∧ w.heap.size ≤ M) ∧ (∀ q, a'.A = some q → w.heap.size ≤ q.block) ∧ Below w.heap.size w w' := by
  have HK0 := Lib.hid k
  have F0 : ∀ W, Below w.heap.size w W → W.cell? ⟨gk, 0, none⟩ = some (.int .i64 L) := fun W hB => (HK0.out.keep hB).blk.kp.k0
  have F1 : ∀ W, Below w.heap.size w W → W.cell? ⟨gk, 1, none⟩ = some (.slice a.A rs.length a.c) := fun W hB => (HK0.out.keep hB).blk.kp.k1
  have HF0 := Lib.hid F0
  have HF1 := Lib.hid F1
  have CC := Lib.hid (fun W h1 => clone_Row W a.A a.c rs h1 (by omega))
  have hmm := @run_makeMap Try.prog
  clear k F0 F1
  go_enter Try.func20, Try.ntmps20
  go_upto_region 1 with (fail)
  go_cut [3] (fun x wx => Cl0 w L rs x wx)
  case first =>
    have B0 : Below w.heap.size w w.drew := (Below.refl _ _).drew
    refine wp_region_held_drew (S := fun w' => w'.cell? ⟨gk, 0, none⟩ = some (.int .i64 L) ∧ w'.cell? ⟨gk, 1, none⟩ = some (.slice a.A rs.length a.c)) (by kernel_rfl) ⟨HF0.out _ B0, HF1.out _ B0⟩ (fun hHeld => ?_)
    have HB0 := Lib.hid B0
    clear B0
    refine wpAnyH_take (i := 0) (v := ?v0x0) rfl (by kernel_rfl) (by kernel_rfl) (by kernel_rfl) (fun _ _ _ h => h) (Or.inl ⟨by rfl, ?yv0x0⟩) (by assumption) ?rv0x0
    case yv0x0 => (intro w hSw; obtain ⟨hS1, hS2⟩ := hSw; (try go_simp); first | done | with_reducible rfl)
    ((try simp only [List.getElem_toArray, List.getElem_cons_zero]); (try simp only [Act.put, List.setIfInBounds_toArray, List.set_cons_zero, List.set_cons_succ]))
    refine wpAnyH_take (i := 1) (v := ?v1x1) rfl (by kernel_rfl) (by kernel_rfl) (by kernel_rfl) (fun _ _ _ h => h) (Or.inl ⟨by rfl, ?yv1x1⟩) (by assumption) ?rv1x1
    case yv1x1 => (intro w hSw; obtain ⟨hS1, hS2⟩ := hSw; (try go_simp); first | done | with_reducible rfl)
    ((try simp only [List.getElem_toArray, List.getElem_cons_succ, List.getElem_cons_zero]); (try simp only [Act.put, List.setIfInBounds_toArray, List.set_cons_zero, List.set_cons_succ]))
    refine wpAnyH_take (i := 2) (v := ?v2x2) rfl (by kernel_rfl) (by kernel_rfl) (by kernel_rfl) (fun _ _ _ h => h) (Or.inl ⟨by rfl, ?yv2x2⟩) (by assumption) ?rv2x2
    case yv2x2 => (intro w hSw; obtain ⟨hS1, hS2⟩ := hSw; (try go_simp); first | done | with_reducible rfl)
    ((try simp only [List.getElem_toArray, List.getElem_cons_succ, List.getElem_cons_zero]); (try simp only [Act.put, List.setIfInBounds_toArray, List.set_cons_zero, List.set_cons_succ]))
    refine wpAnyH_take (i := 3) (v := ?v3x3) rfl (by kernel_rfl) (by kernel_rfl) (by kernel_rfl) (fun _ _ _ h => h) (Or.inl ⟨by rfl, ?yv3x3⟩) (by assumption) ?rv3x3
    case yv3x3 => (intro w hSw; obtain ⟨hS1, hS2⟩ := hSw; (try go_simp); first | done | with_reducible rfl)
    ((try simp only [List.getElem_toArray, List.getElem_cons_succ, List.getElem_cons_zero]); (try simp only [Act.put, List.setIfInBounds_toArray, List.set_cons_zero, List.set_cons_succ]))
    refine wpAnyH_take (i := 4) (v := ?v4x4) rfl (by kernel_rfl) (by kernel_rfl) (by kernel_rfl) (fun _ _ _ h => h) (Or.inl ⟨by rfl, ?yv4x4⟩) (by assumption) ?rv4x4
    case yv4x4 => (intro w hSw; obtain ⟨hS1, hS2⟩ := hSw; (try go_simp); first | done | with_reducible rfl)
    ((try simp only [List.getElem_toArray, List.getElem_cons_succ, List.getElem_cons_zero]); (try simp only [Act.put, List.setIfInBounds_toArray, List.set_cons_zero, List.set_cons_succ]))
    refine wpAnyH_take (i := 5) (v := ?v5x5) rfl (by kernel_rfl) (by kernel_rfl) (by kernel_rfl) (fun _ _ _ h => h) (Or.inl ⟨by rfl, ?yv5x5⟩) (by assumption) ?rv5x5
    case yv5x5 => (intro w hSw; obtain ⟨hS1, hS2⟩ := hSw; (try go_simp); first | done | with_reducible rfl)
    ((try simp only [List.getElem_toArray, List.getElem_cons_succ, List.getElem_cons_zero]); (try simp only [Act.put, List.setIfInBounds_toArray, List.set_cons_zero, List.set_cons_succ]))
    refine wpAnyH_take (i := 6) (v := ?v6x6) rfl (by kernel_rfl) (by kernel_rfl) (by kernel_rfl) (fun _ _ _ h => h) (Or.inl ⟨by rfl, ?yv6x6⟩) (by assumption) ?rv6x6
    case yv6x6 => (intro w hSw; obtain ⟨hS1, hS2⟩ := hSw; (try go_simp); first | done | with_reducible rfl)
    ((try simp only [List.getElem_toArray, List.getElem_cons_succ, List.getElem_cons_zero]); (try simp only [Act.put, List.setIfInBounds_toArray, List.set_cons_zero, List.set_cons_succ]))
    refine wpAnyH_take (i := 7) (v := ?v7x7) rfl (by kernel_rfl) (by kernel_rfl) (by kernel_rfl) (fun _ _ _ h => h) (Or.inl ⟨by rfl, ?yv7x7⟩) (by assumption) ?rv7x7
    case yv7x7 => (intro w hSw; obtain ⟨hS1, hS2⟩ := hSw; (try go_simp); first | done | with_reducible rfl)
    ((try simp only [List.getElem_toArray, List.getElem_cons_succ, List.getElem_cons_zero]); (try simp only [Act.put, List.setIfInBounds_toArray, List.set_cons_zero, List.set_cons_succ]))
    refine wpAnyH_ready (rs := [8, 9]) (by kernel_rfl) (by simp) ?_
    refine AllReadyH.cons rfl (fun K hK => ?_) (AllReadyH.cons rfl (fun K hK => ?_) AllReadyH.nil)
    · go_simp
      refine (CC.out _ (HK0.out.keep HB0.out).rows).mono ?_
      rintro e w5 ⟨A5, c5, rfl, how, hB5⟩
      have HB5 := Lib.hid (HB0.out.trans (hB5.mono (Nat.le_refl _)))
      have HO5 := Lib.hid how
      clear how hB5
      go_simp
      refine hK.out _ _ ⟨HF0.out _ HB5.out, HF1.out _ HB5.out⟩ (fun hHeld2 => ?_)
      clear hK K hHeld
      have hHeld := hHeld2
      clear hHeld2
      ((try simp only [List.getElem_toArray, List.getElem_cons_succ, List.getElem_cons_zero]); (try simp only [Act.put, List.setIfInBounds_toArray, List.set_cons_zero, List.set_cons_succ]))
      refine wpAnyH_ready (rs := [9]) (by kernel_rfl) (by simp) ?_
      refine AllReadyH.cons rfl (fun K hK => ?_) AllReadyH.nil
      go_simp
      have HB6 := Lib.hid (HB5.out.alloc HB5.out.size (.map #[] 0))
      have HM6 := Lib.hid (World.ownsMap_made (H := Unit) w5 Try.prog 103 (plainElem Try.prog 2))
      refine hK.out _ _ ⟨HF0.out _ HB6.out, HF1.out _ HB6.out⟩ (fun hHeld2 => ?_)
      clear hK K hHeld
      have hHeld := hHeld2
      clear hHeld2
      ((try simp only [List.getElem_toArray, List.getElem_cons_succ, List.getElem_cons_zero]); (try simp only [Act.put, List.setIfInBounds_toArray, List.set_cons_zero, List.set_cons_succ]))
      have HO6 := Lib.hid (HO5.out.keep ((Below.refl _ _).alloc (Nat.le_refl _) (.map #[] 0)))
      have HBM := Lib.hid HB5.out.size
      refine wpAnyH_take (i := 10) (v := ?v10x100) rfl (by kernel_rfl) (by kernel_rfl) (by kernel_rfl) (fun _ _ _ h => h) (Or.inl ⟨by rfl, ?yv10x100⟩) (by assumption) ?rv10x100
      case yv10x100 => (intro w hSw; obtain ⟨hS1, hS2⟩ := hSw; (try go_simp); first | done | with_reducible rfl)
      ((try simp only [List.getElem_toArray, List.getElem_cons_succ, List.getElem_cons_zero]); (try simp only [Act.put, List.setIfInBounds_toArray, List.set_cons_zero, List.set_cons_succ]))
      refine wpAnyH_ready (rs := [11]) (by kernel_rfl) (by simp) ?_
      refine AllReadyH.cons rfl (fun K hK => ?_) AllReadyH.nil
      go_simp
      have HB7 := Lib.hid (HB6.out.alloc HB6.out.size (.cells (kpC L (.slice A5 rs.length c5) (.map (some w5.heap.size))) 98))
      have HN7 : Hid (Blk ((w5.alloc (.map #[] 0)).alloc (.cells (kpC L (.slice A5 rs.length c5) (.map (some w5.heap.size))) 98)) (w5.heap.size + 1) 98 (kpC L (.slice A5 rs.length c5) (.map (some w5.heap.size)))) := by
        have h := Blk.new (w5.alloc (.map #[] 0)) 98 (kpC L (.slice A5 rs.length c5) (.map (some w5.heap.size)))
        rw [show (w5.alloc (.map #[] 0)).heap.size = w5.heap.size + 1 by simp] at h
        exact h
      have HM7 := Lib.hid (HM6.out.alloc (.cells (kpC L (.slice A5 rs.length c5) (.map (some w5.heap.size))) 98))
      have HO7 := Lib.hid (HO6.out.keep ((Below.refl _ _).alloc (Nat.le_refl _) (.cells (kpC L (.slice A5 rs.length c5) (.map (some w5.heap.size))) 98)))
      refine hK.out _ _ ⟨HF0.out _ HB7.out, HF1.out _ HB7.out⟩ (fun hHeld2 => ?_)
      clear hK K hHeld
      have hHeld := hHeld2
      clear hHeld2
      ((try simp only [List.getElem_toArray, List.getElem_cons_succ, List.getElem_cons_zero]); (try simp only [Act.put, List.setIfInBounds_toArray, List.set_cons_zero, List.set_cons_succ]))
      refine wpAnyH_ready (rs := [12]) (by kernel_rfl) (by simp) ?_
      refine AllReadyH.cons rfl (fun K hK => ?_) AllReadyH.nil
      go_simp
      refine hK.out _ _ ⟨HF0.out _ HB7.out, HF1.out _ HB7.out⟩ (fun hHeld2 => ?_)
      clear hK K hHeld
      have hHeld := hHeld2
      clear hHeld2
      ((try simp only [List.getElem_toArray, List.getElem_cons_succ, List.getElem_cons_zero]); (try simp only [Act.put, List.setIfInBounds_toArray, List.set_cons_zero, List.set_cons_succ]))
      refine wpAnyH_done (by kernel_rfl) ?_ _
      go_wp2
      go_meet
      case rel => exact ⟨_, _, A5, c5, rfl, HN7.out, HO7.out.inn, HO7.out.own, HM7.out, HB7.out, by have := HB6.out.size; simpa using this, HBM.out⟩
    · go_simp
      have HBm := Lib.hid (HB0.out.alloc HB0.out.size (.map #[] 0))
      have HMm := Lib.hid (World.ownsMap_made (H := Unit) w.drew Try.prog 103 (plainElem Try.prog 2))
      have HBM := Lib.hid HB0.out.size
      refine hK.out _ _ ⟨HF0.out _ HBm.out, HF1.out _ HBm.out⟩ (fun hHeld2 => ?_)
      clear hK K hHeld
      have hHeld := hHeld2
      clear hHeld2
      ((try simp only [List.getElem_toArray, List.getElem_cons_succ, List.getElem_cons_zero]); (try simp only [Act.put, List.setIfInBounds_toArray, List.set_cons_zero, List.set_cons_succ]))
      refine wpAnyH_ready (rs := [8]) (by kernel_rfl) (by simp) ?_
      refine AllReadyH.cons rfl (fun K hK => ?_) AllReadyH.nil
      go_simp
      refine (CC.out _ (HK0.out.keep HBm.out).rows).mono ?_
      rintro e w5 ⟨A5, c5, rfl, how, hB5⟩
      have HB6 := Lib.hid (HBm.out.trans (hB5.mono HBm.out.size))
      have HO6 := Lib.hid (how.lower17 HBm.out.size)
      have HM6 := Lib.hid (HMm.out.kept (row := none) ⟨hB5.os, hB5.tape, hB5.output, hB5.size, fun i hi _ => hB5.block i hi⟩ (by simp))
      clear how hB5
      go_simp
      refine hK.out _ _ ⟨HF0.out _ HB6.out, HF1.out _ HB6.out⟩ (fun hHeld2 => ?_)
      clear hK K hHeld
      have hHeld := hHeld2
      clear hHeld2
      ((try simp only [List.getElem_toArray, List.getElem_cons_succ, List.getElem_cons_zero]); (try simp only [Act.put, List.setIfInBounds_toArray, List.set_cons_zero, List.set_cons_succ]))
      refine wpAnyH_take (i := 10) (v := ?v10x200) rfl (by kernel_rfl) (by kernel_rfl) (by kernel_rfl) (fun _ _ _ h => h) (Or.inl ⟨by rfl, ?yv10x200⟩) (by assumption) ?rv10x200
      case yv10x200 => (intro w hSw; obtain ⟨hS1, hS2⟩ := hSw; (try go_simp); first | done | with_reducible rfl)
      ((try simp only [List.getElem_toArray, List.getElem_cons_succ, List.getElem_cons_zero]); (try simp only [Act.put, List.setIfInBounds_toArray, List.set_cons_zero, List.set_cons_succ]))
      refine wpAnyH_ready (rs := [11]) (by kernel_rfl) (by simp) ?_
      refine AllReadyH.cons rfl (fun K hK => ?_) AllReadyH.nil
      go_simp
      have HB7 := Lib.hid (HB6.out.alloc HB6.out.size (.cells (kpC L (.slice A5 rs.length c5) (.map (some w.heap.size))) 98))
      have HN7 : Hid (Blk (w5.alloc (.cells (kpC L (.slice A5 rs.length c5) (.map (some w.heap.size))) 98)) (w5.heap.size) 98 (kpC L (.slice A5 rs.length c5) (.map (some w.heap.size)))) := by
        have h := Blk.new w5 98 (kpC L (.slice A5 rs.length c5) (.map (some w.heap.size)))
        exact h
      have HM7 := Lib.hid (HM6.out.alloc (.cells (kpC L (.slice A5 rs.length c5) (.map (some w.heap.size))) 98))
      have HO7 := Lib.hid (HO6.out.keep ((Below.refl _ _).alloc (Nat.le_refl _) (.cells (kpC L (.slice A5 rs.length c5) (.map (some w.heap.size))) 98)))
      refine hK.out _ _ ⟨HF0.out _ HB7.out, HF1.out _ HB7.out⟩ (fun hHeld2 => ?_)
      clear hK K hHeld
      have hHeld := hHeld2
      clear hHeld2
      ((try simp only [List.getElem_toArray, List.getElem_cons_succ, List.getElem_cons_zero]); (try simp only [Act.put, List.setIfInBounds_toArray, List.set_cons_zero, List.set_cons_succ]))
      refine wpAnyH_ready (rs := [12]) (by kernel_rfl) (by simp) ?_
      refine AllReadyH.cons rfl (fun K hK => ?_) AllReadyH.nil
      go_simp
      refine hK.out _ _ ⟨HF0.out _ HB7.out, HF1.out _ HB7.out⟩ (fun hHeld2 => ?_)
      clear hK K hHeld
      have hHeld := hHeld2
      clear hHeld2
      ((try simp only [List.getElem_toArray, List.getElem_cons_succ, List.getElem_cons_zero]); (try simp only [Act.put, List.setIfInBounds_toArray, List.set_cons_zero, List.set_cons_succ]))
      refine wpAnyH_done (by kernel_rfl) ?_ _
      go_wp2
      go_meet
      case rel => exact ⟨_, _, A5, c5, rfl, HN7.out, HO7.out.inn, HO7.out.own, HM7.out, HB7.out, by have := HB6.out.size; simpa using this, HBM.out⟩
  case rest =>
    obtain ⟨gc, M, A', c', rfl, hb, hin, hown, hm, hB, hgc, hM⟩ := hcut
    have kW : KS wc gk a L rs f n := HK0.out.keep hB
    have k2 := kW.blk.kp.k2
    have HBB := Lib.hid hB
    have HBL := Lib.hid hb
    have HIN := Lib.hid hin
    have HOW := Lib.hid hown
    have HGC := Lib.hid hgc
    have HMM := Lib.hid hM
    have hmp := kW.map
    have HKW := Lib.hid kW
    clear hB hb hin hown kW hgc hM hmm
    rcases hmp with ⟨e, hf, hrs⟩ | ⟨M0, e, hm0⟩
    · rw [e] at k2
      have hfn : f = fun _ => none := funext hf
      have hrg := run_range_nilMap (P := Try.prog) wc 96 103 2 Try.underlying96
      have hnx : ∀ ty, (Instr.next (.pointer (some ⟨wc.heap.size, 0, none⟩)) false ty).run Try.prog (wc.alloc (.mapIter none 0 #[] 0)) = _ := fun ty => run_next_nilMap _ ty 0 0 #[]
      have HM := Lib.hid hm
      clear hm e hf
      go_wp2_with fail
      refine wp_loop_rounds 1 ?_
      rw [rounds_succ]
      go_wp2
      go_ret
      have hal : Below wc.heap.size wc (wc.alloc (.mapIter none 0 #[] 0)) := (Below.refl _ _).alloc (Nat.le_refl _) _
      refine ⟨gc, ⟨A', c', .map (some M)⟩, rfl, ⟨HBL.out.below hal HBL.out.lt, HIN.out.keep hal, .inr ⟨M, rfl, .map [], (HM.out.alloc _).mono (Nat.zero_le _), fun r _ => ?_⟩, HKW.out.wf, HKW.out.rng⟩, HGC.out, ⟨M, rfl, HMM.out⟩, HOW.out, HBB.out.trans (hal.mono HBB.out.size)⟩
      rw [hfn]
      exact ⟨rfl, rfl⟩
    · rw [e] at k2
      obtain ⟨D0, ho0, hf0⟩ := hm0
      have HM := Lib.hid hm
      have HO0 := Lib.hid ho0
      have HF0' := Lib.hid hf0
      have hsz := ho0.size_le
      clear hm e hf0
      go_wp2_with (at_range; refine wpList_range_own _ rfl _ 96 rfl 103 2 lawR Try.underlying96 _ M0 n D0 rfl HO0.out ?_; intro w0 hrg0 hg0 hs0)
      go_frame
      obtain ⟨r, hr⟩ : ∃ r, wc.heap.size = r := ⟨_, rfl⟩
      rw [hr] at hrg0
      try rw [hr]
      have hbw := HBB.out.size
      have hM0 : M0 < w.heap.size := by
        have h1 := HK0.out.mapS (M := M0)
        have h2 := HK0.out.blk.kp.k2
        have h3 := (HKW.out.blk.kp.k2)
        rw [k2] at h3
        injection h3 with h3
        exact (h1 h3.symm).lt
      have hMr : M < r := hr ▸ HM.out.lt
      have hgr : gc < r := hr ▸ HBL.out.lt
      have HMW : Hid (w.heap.size ≤ M) := HMM.out
      have HGW : Hid (w.heap.size ≤ gc) := HGC.out
      have hgM : M ≠ gc := by
        have h := ownsMap_cells HM.out HBL.out.kp.k0
        exact h
      have HAr : Hid (∀ b off, 0 < rs.length → A' = some ⟨b, off, none⟩ → b < r ∧ b ≠ M) := by
        intro b off h0 e
        obtain ⟨b', off', e', hb', hc'⟩ := HIN.out.reads.2 h0
        rw [e] at e'
        injection e' with e'
        injection e' with e1 e2 _
        subst e1 e2
        have hrow := HIN.out.all rwC_len h0
        obtain ⟨b2, o2, e2, _, hc2⟩ := hrow
        rw [e] at e2
        injection e2 with e2
        injection e2 with e3 e4 _
        subst e3 e4
        have := hc2 0 h0 0 _ (by omega) rfl
        exact ⟨hr ▸ hb', fun h => (ownsMap_cells HM.out this) (by dsimp only; exact h.symm)⟩
      have hin0 : InS rwC 3 w0 A' c' rs := HIN.out.tr17 (Tr.of_grown (P := fun _ => False) hg0 (fun _ h _ => by cases h)) (fun _ _ _ h => h)
      have hb0 : Blk w0 gc 98 (kpC L (.slice A' rs.length c') (.map (some M))) := HBL.out.grown hg0 (by simp)
      have hm0 := HM.out.kept hg0 (by simp)
      have hB0 : Below w.heap.size w w0 := HBB.out.grown hg0 hbw (fun _ h => by cases h)
      clear k2
      go_loopw [4, 5] (fun _ _ wr => ∃ (left : Lit → Bool) (cnt : Nat) (Dout : DataW Unit), wr.ranges Try.prog 103 (plainElem Try.prog 2) M0 r n D0 left cnt ∧ cnt ≤ Maps.size D0 ∧ wr.ownsMap Try.prog 103 (plainElem Try.prog 2) M (Maps.size D0 - cnt) Dout ∧ Agree Dout D0 left ∧ Blk wr gc 98 (kpC L (.slice A' rs.length c') (.map (some M))) ∧ InS rwC 3 wr A' c' rs ∧ Below w.heap.size w wr) (fun _ _ wr => wr.rangeLeft M0 r)
      case atStart => exact ⟨_, _, .map [], hrg0, Nat.le_refl _, hm0.mono (Nat.zero_le _), agree_start D0, hb0, hin0, hB0⟩
      case round =>
        clear hrg0 hg0 hs0 hin0 hb0 hm0 hB0
        obtain ⟨left, cnt, Dout, hrg, hcs, hout, hA, hb, hin, hB⟩ := hrel
        go_wp2_with (at_next; refine wpList_next_ranges _ rfl _ rfl 103 lawR (plainElem Try.prog 2) rwV (Value.int .i64) (fun key kl hkey => by obtain ⟨x, rfl, _⟩ := key_inv hkey; exact ⟨x, rfl⟩) (fun v y hv => by obtain ⟨c, rfl, _⟩ := plainElem_int_inv Try.underlying2 hv; exact ⟨c, rfl⟩) M0 r n D0 left cnt rfl hrg ?_ ?_)
        · intro hc0 hl0
          have HR := Lib.hid hout
          have HBx := Lib.hid hb
          have HIx := Lib.hid hin
          clear hrg hb hin
          go_wp2
          go_ret
          subst hc0
          have e := agree_end hA hl0 (hout.canon lawR) (HO0.out.canon lawR)
          subst e
          exact ⟨gc, ⟨A', c', .map (some M)⟩, rfl, ⟨HBx.out, HIx.out, .inr ⟨M, rfl, Dout, hout.mono (by omega), HF0'.out⟩, HKW.out.wf, HKW.out.rng⟩, HGC.out, ⟨M, rfl, HMM.out⟩, HOW.out, hB⟩
        · intro x cv kl y1 y2 w1 cnt1 hkey hlx hR hat hrg1 hlt hg1 hs1 hen
          obtain ⟨x', hx', hxw, rfl⟩ := key_inv hkey
          have exx : x = x' := by
            obtain ⟨p1, p2, p3⟩ := x
            obtain ⟨q1, q2, q3⟩ := x'
            simp [rwV] at hx'
            obtain ⟨rfl, rfl, rfl⟩ := hx'
            rfl
          subst exx
          obtain ⟨cw, ec, ez, hwc⟩ := plainElem_int_inv Try.underlying2 hR
          injection ez with ez1 ez2
          subst ez1 ez2
          injection ec with _ ec
          subst ec
          have hlim : Maps.size D0 ≤ 1000000 := by omega
          have hrw : r < wr.heap.size := hrg.lt
          have hout1 := hout.kept hg1 (by intro e; injection e with e; omega)
          have hb1 : Blk w1 gc 98 (kpC L (.slice A' rs.length c') (.map (some M))) := hb.grown hg1 (by intro e; injection e with e; omega)
          have hin1 : InS rwC 3 w1 A' c' rs := hin.tr17 (P := fun j => j = r) (Tr.of_grown hg1 (fun j e _ => by injection e with e; exact e.symm)) (fun h0 q e he => by
            obtain ⟨b, off, e', _⟩ := hin.reads.2 h0
            rw [e'] at e
            injection e with e
            subst e
            have := (HAr.out b off h0 e').1
            dsimp only at he
            omega)
          have hB1 : Below w.heap.size w w1 := hB.grown hg1 hB.size (fun j hj => by injection hj with hj; omega)
          obtain ⟨gx, hgx⟩ : ∃ gx, w1.heap.size = gx := ⟨_, rfl⟩
          have hal : Below w1.heap.size w1 (w1.alloc (.cells (rwA x) 103)) := (Below.refl _ _).alloc (Nat.le_refl _) _
          have hx5 : Blk (w1.alloc (.cells (rwA x) 103)) gx 103 (rwA x) := hgx ▸ Blk.new _ _ _
          have hb5 := hb1.alloc (.cells (rwA x) 103)
          have hin5 := hin1.keep hal
          have hout5 := hout1.alloc (.cells (rwA x) 103)
          have hrg5 := hrg1.alloc (.cells (rwA x) 103)
          have hB5 : Below w.heap.size w (w1.alloc (.cells (rwA x) 103)) := hB1.alloc hB1.size _
          have hz5 : (w1.alloc (.cells (rwA x) 103)).heap.size = gx + 1 := by simp [hgx]
          have HAT := Lib.hid hat
          have HLT := Lib.hid hlt
          have HA2 := Lib.hid hA
          have HI2 := Lib.hid hout.isMap
          have HRL := Lib.hid hrg.left_eq
          unfold rwV at hen
          clear hrg hrg1 hb hin hout hout1 hb1 hin1 hB1 hg1 hs1 hal hB hkey hx' hR hlx hat hlt hA
          go_upto_region 5 with (fail)
          change Code.wp _ _ _ _ (w1.alloc (.cells (rwA x) 103))
          generalize (w1.alloc (.cells (rwA x) 103)) = W5 at hx5 hb5 hin5 hout5 hrg5 hB5 hz5 ⊢
          try rw [hgx]
          clear hen
          obtain ⟨w6, hup, hout6, hg6⟩ := World.ownsMap.update (w := W5.drew) hout5 lawR Try.underlying96 (by unfold maxLen; omega) (key_rw hxw) (plainElem_int Try.underlying2 hwc)
          have k2 := hb5.kp.k2
          have d0 : W5.cell? ⟨gx, 0, none⟩ = some (.int .i64 x.tok) := (hx5.cell 0).trans rfl
          have d1 : W5.cell? ⟨gx, 1, none⟩ = some (.int .u64 x.ser) := (hx5.cell 1).trans rfl
          have d2 : W5.cell? ⟨gx, 2, none⟩ = some (.int .u64 x.stp) := (hx5.cell 2).trans rfl
          have hb6 : Blk w6 gc 98 (kpC L (.slice A' rs.length c') (.map (some M))) := Blk.grown (w := W5.drew) hb5 hg6 (fun e => by injection e with e; exact hgM e.symm)
          have hin6 : InS rwC 3 w6 A' c' rs := InS.tr17 (w := W5.drew) (P := fun j => j = M) ⟨hin5.reads.drew, hin5.cap, hin5.small⟩ (Tr.of_grown hg6 (fun j e _ => by injection e with e; exact e.symm)) (fun h0 q e he => by
            obtain ⟨b, off, e', _⟩ := hin5.reads.2 h0
            rw [e'] at e
            injection e with e
            subst e
            exact (HAr.out b off h0 e').2 he)
          have hrg5d : W5.drew.ranges Try.prog 103 (plainElem Try.prog 2) M0 r n D0 (fun z => left z && !z.sameKey (rwK x)) cnt1 := hrg5
          have hmw := HMW.out
          have hrg6 := hrg5d.kept hg6 (fun e => by have := Option.some.inj e; omega) (fun e => by have := Option.some.inj e; omega)
          have hB6 : Below w.heap.size w w6 := (hB5.drew).grown hg6 hB5.size (fun j hj => by injection hj with hj; omega)
          have HR6 := Lib.hid hrg6
          have HO6 := Lib.hid hout6
          have HB6 := Lib.hid hb6
          have HI6 := Lib.hid hin6
          unfold rwV at hup
          clear hx5 hb5 hin5 hout5 hrg5 hrg5d hmw hB5 hrg6 hout6 hb6 hin6 hg6 hz5
          go_still_tail 6, (by kernel_rfl)
          change wpList _ _ _ _ _ W5.drew
          go_wp2
          go_roundw
          case rel =>
            have hlt := HLT.out
            exact ⟨_, cnt1, _, HR6.out, by omega, HO6.out.mono (by omega), agree_step HA2.out HI2.out trivial HAT.out, HB6.out, HI6.out, hB6⟩
          case measure => rw [HR6.out.left_eq, HRL.out]; exact HLT.out
end Go.Proofs.Ytfkaggdjhopjpaa
