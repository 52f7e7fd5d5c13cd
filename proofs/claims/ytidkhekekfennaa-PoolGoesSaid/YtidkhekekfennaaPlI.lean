/- Pools: the library's IndexFunc among connections, Index and Contains among numbers, Clone of connections. -/
import Derived.Test.YtidkhekekfennaaPlM
namespace Go.Proofs.Ytidkhekekfennaa
set_option maxRecDepth 100000
open Go.RowKit

/-- A place, or -1. -/
def plI : Option Nat → Int
  | some i => i
  | none => -1
def ofI (l : List Cn) (s : Int) : Int := plI (l.findIdx? (fun c => c.s == s))
def ixI (l : List Int) (s : Int) : Int := plI (l.findIdx? (fun x => x == s))
theorem find_at {α : Type} {p : α → Bool} {l : List α} {k : Nat} (hk : k < l.length) (h0 : ∀ j (hj : j < l.length), j < k → p l[j] = false) (h1 : p l[k] = true) : l.findIdx? p = some k := by
  rw [List.findIdx?_eq_some_iff_getElem]
  exact ⟨hk, h1, fun j hj => by rw [h0 j (by omega) hj]; simp⟩
theorem find_no {α : Type} {p : α → Bool} {l : List α} (h0 : ∀ j (hj : j < l.length), p l[j] = false) : l.findIdx? p = none := by
  rw [List.findIdx?_eq_none_iff]
  intro x hx
  obtain ⟨j, hj, rfl⟩ := List.getElem_of_mem hx
  exact h0 j hj
set_option maxHeartbeats 4000000 in
theorem ixf_any (w : World) (A : Option Addr) (c : Nat) (l : List Cn) (s : Int) (gs : Nat) (h : InS cnC 2 w A c l) (hg : w.cell? ⟨gs, 0, none⟩ = some (.int .i64 s)) :
    Calls Try.prog 41 #[.slice A l.length c, .func (.func 42) #[] #[.pointer (some ⟨gs, 0, none⟩)]] w fun e w' => e = .returned (.int .i64 (ofI l s)) ∧ Below w.heap.size w w' := by
  obtain ⟨g, hgw⟩ : ∃ g, w.heap.size = g := ⟨_, rfl⟩
  obtain ⟨n, hln⟩ : ∃ n, l.length = n := ⟨_, rfl⟩
  obtain ⟨F, hF⟩ : ∃ F, ofI l s = F := ⟨_, rfl⟩
  have hlt : gs < g := by have := World.block_lt_of_cell? w _ hg; rw [hgw] at this; simpa using this
  have hn := h.small
  have HIN := Lib.hid h
  have HF := Lib.hid hF
  have HL := Lib.hid hln
  have HG := Lib.hid hgw
  have HC := Lib.hid hg
  rw [hgw, hF, hln]
  rw [hln] at hn
  have hB0 : Below g w w := Below.refl _ _
  have HB0 := Lib.hid hB0
  clear h hF hln hgw hB0 hg
  go_enter Try.func41, Try.ntmps41
  go_wp2
  go_loopw [8] (fun v wr => ∃ k : Nat, v = .int .i64 k ∧ k ≤ n ∧ Below g w wr ∧ Hid (∀ j (hj : j < l.length), j < k → (l[j].s == s) = false)) (fun v _ => n - (intOf v).toNat)
  case atStart => exact ⟨0, rfl, Nat.zero_le _, HB0.out, (show ∀ j (hj : j < l.length), j < 0 → _ from fun j hj h => absurd h (Nat.not_lt_zero _))⟩
  case round =>
    clear HB0
    obtain ⟨k, rfl, hk, hB, I⟩ := hrel
    have HB := Lib.hid hB
    have hgs : g ≤ wr.heap.size := by have h1 := hB.size; have h2 := HG.out; omega
    by_cases hkn : k < n
    · have hkl : k < l.length := by rw [HL.out]; exact hkn
      obtain ⟨b, off, rfl, hbb, hat⟩ := (HIN.out.keep (HG.out ▸ hB)).cn (by omega)
      have hc := hat k hkl
      obtain ⟨y, hy⟩ : ∃ y, l[k] = y := ⟨_, rfl⟩
      rw [hy] at hc
      obtain ⟨c0, c1⟩ := hc
      have X := of1_any wr y s gs ((hB.cell (p := ⟨gs, 0, none⟩) hlt).trans HC.out)
      have HY := Lib.hid hy
      clear hat hy hB
      cases hys : (y.s == s)
      · rw [hys] at X
        have X := Lib.hid X
        have HYS := Lib.hid hys
        clear hys
        go_wp2_with fail
        refine X.out.mono ?_
        rintro e w1 ⟨rfl, hB1⟩
        have HB1 := Lib.hid (HB.out.trans (hB1.mono hgs))
        clear hB1 X
        go_wp2
        go_roundw
        case rel =>
          refine ⟨k + 1, by go_num, by omega, HB1.out, (show ∀ j (hj : j < l.length), j < k + 1 → _ from fun j hj hjk => ?_)⟩
          rcases Nat.lt_or_ge j k with h1 | h1
          · exact I.out j hj h1
          · obtain rfl : j = k := by omega
            rw [HY.out]
            exact HYS.out
        case measure => simp [intOf]; omega
      · rw [hys] at X
        have X := Lib.hid X
        have HYS := Lib.hid hys
        clear hys
        go_wp2_with fail
        refine X.out.mono ?_
        rintro e w1 ⟨rfl, hB1⟩
        have HB1 := Lib.hid (HB.out.trans (hB1.mono hgs))
        have HV : Hid (F = (k : Int)) := by
          show _ = _
          rw [← HF.out]
          unfold ofI
          rw [find_at (k := k) hkl I.out (by rw [HY.out]; exact HYS.out)]
          rfl
        clear hB1 X
        go_wp2
        go_ret
        exact ⟨by rw [HV.out]; rfl, HB1.out⟩
    · obtain rfl : k = n := by omega
      have HV : Hid (F = -1) := by
        show _ = _
        rw [← HF.out]
        unfold ofI
        rw [find_no (fun j hj => I.out j hj (by rw [HL.out] at hj; exact hj))]
        rfl
      clear hB
      go_wp2
      go_ret
      exact ⟨by rw [HV.out]; rfl, HB.out⟩
set_option maxHeartbeats 4000000 in
theorem ix_any (w : World) (A : Option Addr) (c : Nat) (l : List Int) (s : Int) (h : InN .i64 w A c l) :
    Calls Try.prog 37 #[.slice A l.length c, .int .i64 s] w fun e w' => e = .returned (.int .i64 (ixI l s)) ∧ w = w' := by
  obtain ⟨n, hln⟩ : ∃ n, l.length = n := ⟨_, rfl⟩
  obtain ⟨F, hF⟩ : ∃ F, ixI l s = F := ⟨_, rfl⟩
  have hn := h.small
  have HIN := Lib.hid h
  have HF := Lib.hid hF
  have HL := Lib.hid hln
  rw [hF, hln]
  rw [hln] at hn
  clear h hF hln
  go_enter Try.func37, Try.ntmps37
  go_wp2
  go_loop [8] (fun v => ∃ k : Nat, v = .int .i64 k ∧ k ≤ n ∧ Hid (∀ j (hj : j < l.length), j < k → (l[j] == s) = false)) (fun v => n - (intOf v).toNat)
  case atStart => exact ⟨0, rfl, Nat.zero_le _, (show ∀ j (hj : j < l.length), j < 0 → _ from fun j hj h => absurd h (Nat.not_lt_zero _))⟩
  case round =>
    obtain ⟨k, rfl, hk, I⟩ := hrel
    by_cases hkn : k < n
    · have hkl : k < l.length := by rw [HL.out]; exact hkn
      obtain ⟨b, off, rfl, hat⟩ := HIN.out.all (by omega)
      have hc := hat k hkl
      obtain ⟨y, hy⟩ : ∃ y, l[k] = y := ⟨_, rfl⟩
      rw [hy] at hc
      have HY := Lib.hid hy
      clear hat hy
      cases hys : (s == y)
      · have HYS : Hid ((y == s) = false) := by
          show _ = _
          rw [Bool.eq_false_iff] at hys ⊢
          simp only [ne_eq, beq_iff_eq] at hys ⊢
          exact fun h => hys h.symm
        go_wp2
        go_round
        case rel =>
          refine ⟨k + 1, by go_num, by omega, (show ∀ j (hj : j < l.length), j < k + 1 → _ from fun j hj hjk => ?_)⟩
          rcases Nat.lt_or_ge j k with h1 | h1
          · exact I.out j hj h1
          · obtain rfl : j = k := by omega
            rw [HY.out]
            exact HYS.out
        case measure => simp [intOf]; omega
      · have HYS : Hid ((y == s) = true) := by
          show _ = _
          simp only [beq_iff_eq] at hys ⊢
          exact hys.symm
        have HV : Hid (F = (k : Int)) := by
          show _ = _
          rw [← HF.out]
          unfold ixI
          rw [find_at (k := k) hkl I.out (by rw [HY.out]; exact HYS.out)]
          rfl
        go_wp2
        go_ret
        exact ⟨by rw [HV.out]; rfl, rfl⟩
    · obtain rfl : k = n := by omega
      have HV : Hid (F = -1) := by
        show _ = _
        rw [← HF.out]
        unfold ixI
        rw [find_no (fun j hj => I.out j hj (by rw [HL.out] at hj; exact hj))]
        rfl
      go_wp2
      go_ret
      exact ⟨by rw [HV.out]; rfl, rfl⟩
theorem plI_ge (o : Option Nat) : decide (plI o ≥ 0) = o.isSome := by
  cases o with
  | none => rfl
  | some i => simp [plI]
theorem con_any (w : World) (A : Option Addr) (c : Nat) (l : List Int) (s : Int) (h : InN .i64 w A c l) :
    Calls Try.prog 35 #[.slice A l.length c, .int .i64 s] w fun e w' => e = .returned (.bool (decide (0 ≤ ixI l s))) ∧ w = w' := by
  have C := ix_any w A c l s h
  obtain ⟨F, hF⟩ : ∃ F, ixI l s = F := ⟨_, rfl⟩
  rw [hF] at C ⊢
  have C := Lib.hid C
  clear h hF
  go_enter Try.func35, Try.ntmps35
  go_wp2_with fail
  refine C.out.mono ?_
  rintro e w1 ⟨rfl, rfl⟩
  go_wp2
  go_ret
  exact ⟨rfl, rfl⟩
/-! ### Clone -/
theorem own_emptyC (W : World) (base : Nat) (e : TypeId) (s : Nat) (hb : base ≤ W.heap.size) : (W.alloc (.cells #[] e)).ownsRow base e s (.slice (some ⟨W.heap.size, 0, none⟩) 0 0) 0 [] :=
  ⟨by simp, .inr ⟨W.heap.size, 0, #[], rfl, hb, heap_alloc_new W _, by simp, by unfold maxLen; omega, by simp, by simp⟩⟩
theorem len_noneC {α : Type} {f : α → List Value} {s : Nat} {w : World} {c : Nat} {l : List α} (h : InS f s w none c l) : l = [] := by
  rcases Nat.eq_zero_or_pos l.length with h0 | h0
  · exact List.eq_nil_of_length_eq_zero h0
  · obtain ⟨b, off, e, _⟩ := h.reads.2 h0
    cases e
set_option maxHeartbeats 1000000 in
theorem clone_Conn (w : World) (A : Option Addr) (c : Nat) (l : List Cn) (h : InS cnC 2 w A c l) (hs : l.length * 16 ≤ 140737488355328) :
    Calls Try.prog 28 #[.slice A l.length c] w fun e w' => ∃ v, e = .returned v ∧ w'.ownsRow w.heap.size 38 2 v l.length (l.flatMap cnC) ∧ Below w.heap.size w w' := by
  have q22 : ∀ (w : World) (a : Option Addr) (n c n' c' : Nat), (binOp .eql 35 (.slice a n c) (.slice none n' c')).run Try.prog w = .ok (.bool a.isNone) w := fun w a n c n' c' => Lib.run_eql_slice_nil w _ _ a n c n' c' Try.underlying35
  cases A with
  | none =>
    have hnil := len_noneC h
    subst hnil
    clear h hs
    go_enter Try.func28, Try.ntmps28
    go_wp2
    go_ret
    exact ⟨_, rfl, own_nil _ _ _ _, Below.refl _ _⟩
  | some ad =>
    have HIN := Lib.hid h
    have hcap := h.cap
    clear h
    have HOE := Lib.hid (own_emptyC w w.heap.size 38 2 (Nat.le_refl _))
    have hB0 : Below w.heap.size w (w.alloc (.cells #[] 38)) := (Below.refl _ _).alloc (Nat.le_refl _) _
    have HB0 := Lib.hid hB0
    have HR := Lib.hid (HIN.out.keep hB0).reads
    clear hB0
    go_enter Try.func28, Try.ntmps28
    go_wp2_with (at_builtin; refine app_own (w0 := w) w.heap.size rfl _ _ 35 38 _ 16 rfl Try.underlying35 2 info_Conn rfl (by omega) (by omega) _ [] 0 rfl _ _ _ _ (l.flatMap cnC) rfl HOE.out HR.out (flat_one cnC_one l) HB0.out HB0.out.size (by omega) ?_; intro v1 w1 ho1 hB1 _ _; have HO1 := Lib.hid ho1; have HB1 := Lib.hid hB1; clear ho1 hB1)
    go_ret
    exact ⟨_, rfl, by simpa using HO1.out, HB1.out⟩
set_option maxHeartbeats 1000000 in
theorem clone_own (w : World) (A : Option Addr) (c : Nat) (l : List Int) (h : InN .i64 w A c l) (hs : l.length ≤ 17592186043904) :
    Calls Try.prog 26 #[.slice A l.length c] w fun e w' => ∃ v, e = .returned v ∧ OwnN .i64 3 w' w.heap.size v l ∧ Below w.heap.size w w' := by
  have q22 : ∀ (w : World) (a : Option Addr) (n c n' c' : Nat), (binOp .eql 28 (.slice a n c) (.slice none n' c')).run Try.prog w = .ok (.bool a.isNone) w := fun w a n c n' c' => Lib.run_eql_slice_nil w _ _ a n c n' c' Try.underlying28
  cases A with
  | none =>
    have h0 : l.length = 0 := by
      rcases Nat.eq_zero_or_pos l.length with h0 | h0
      · exact h0
      · obtain ⟨b, off, e, _⟩ := h.reads.2 h0
        cases e
    have hnil : l = [] := List.eq_nil_of_length_eq_zero h0
    subst hnil
    clear h hs h0
    go_enter Try.func26, Try.ntmps26
    go_wp2
    go_ret
    exact ⟨_, rfl, own_nil _ _ _ _, Below.refl _ _⟩
  | some ad =>
    have HIN := Lib.hid h
    have hcap := h.cap
    clear h
    have HOE := Lib.hid (own_empty w w.heap.size 3 (Nat.le_refl _))
    have hB0 : Below w.heap.size w (w.alloc (.cells #[] 3)) := (Below.refl _ _).alloc (Nat.le_refl _) _
    have HB0 := Lib.hid hB0
    have HR := Lib.hid (HIN.out.keep hB0).reads
    clear hB0
    go_enter Try.func26, Try.ntmps26
    go_wp2_with (at_builtin; refine app_own (w0 := w) w.heap.size rfl _ _ 28 3 (.int .i64 0) 8 rfl Try.underlying28 1 info_int rfl (by omega) (by omega) _ [] 0 rfl _ _ _ _ (nums .i64 l) rfl HOE.out HR.out (nums_one_cell .i64 l) HB0.out HB0.out.size (by omega) ?_; intro v1 w1 ho1 hB1 _ _; have hO1 : OwnN .i64 3 w1 w.heap.size v1 l := (by simpa [OwnN] using ho1); have HO1 := Lib.hid hO1; have HB1 := Lib.hid hB1; clear ho1 hB1 hO1)
    go_ret
    exact ⟨_, rfl, HO1.out, HB1.out⟩
end Go.Proofs.Ytidkhekekfennaa
