/- The document's pool: Open. -/
import Derived.Test.YtidkhekekfennaaRpC
namespace Go.Proofs.Ytidkhekekfennaa
set_option maxRecDepth 100000
set_option linter.unusedVariables false
open Go.RowKit

theorem lb_at : ∀ (l : List Cn) (t : Int) (k : Nat), k ≤ l.length → (∀ j (hj : j < l.length), j < k → l[j].t < t) → (∀ (hk : k < l.length), ¬ l[k].t < t) → lbT l t = k
  | [], t, k, hk, _, _ => by simp at hk; subst hk; rfl
  | c :: l, t, 0, _, _, h2 => by
    have := h2 (by simp)
    simp only [List.getElem_cons_zero] at this
    simp [lbT, this]
  | c :: l, t, k + 1, hk, h1, h2 => by
    have h0 := h1 0 (by simp) (by omega)
    simp only [List.getElem_cons_zero] at h0
    have ih := lb_at l t k (by simpa using hk) (fun j hj hjk => by have := h1 (j + 1) (by simpa using hj) (by omega); simpa using this) (fun hj => by have := h2 (by simpa using hj); simpa using this)
    unfold lbT at ih ⊢
    simp [h0, ih]
theorem InS.headA {α : Type} {f : α → List Value} {s : Nat} {w : World} {A : Option Addr} {c : Nat} {l : List α} (h : InS f s w A c l) (hf : ∀ x, (f x).length = s) (k : Nat) (hk : k ≤ l.length) : Reads w w.heap.size s A (l.take k).length ((l.take k).flatMap f) := by
  refine ⟨by rw [flat_len hf], fun h0 => ?_⟩
  have hlt : (l.take k).length = k := by rw [List.length_take]; omega
  obtain ⟨b, o, e, hb, hc⟩ := h.reads.2 (by omega)
  refine ⟨b, o, e, hb, fun j u hu => hc j u ?_⟩
  have e2 : l.flatMap f = (l.take k).flatMap f ++ (l.drop k).flatMap f := by rw [← List.flatMap_append, List.take_append_drop]
  rw [e2]
  have hj : j < ((l.take k).flatMap f).length := by
    rcases Nat.lt_or_ge j ((l.take k).flatMap f).length with q | q
    · exact q
    · rw [List.getElem?_eq_none q] at hu; cases hu
  rw [List.getElem?_append_left hj]
  exact hu
def ropenP (cs : List Cn) (ws : List Int) (t : Int) : Rs := if t < 1 ∨ 65535 < t then ⟨0, 1, cs, ws⟩ else if (fdT cs t).isSome = true then ⟨0, 3, cs, ws⟩ else if 8 ≤ cs.length then ⟨0, 6, cs, ws⟩ else
  ⟨ws.headD 0, 0, giveC (insL cs (lbT cs t) ⟨t, 0⟩) t (ws.headD 0), ws.tail⟩
set_option maxHeartbeats 2000000 in
theorem ropen_bad (w : World) (base g : Nat) (v u : Value) (cs : List Cn) (ws : List Int) (h : RpAt w base g v u cs ws) (t : Int) (ht : t < 1 ∨ 65535 < t) :
    Calls Try.prog 14 #[.pointer (some ⟨g, 0, none⟩), .int .i64 t] w (RPost w base g v u ⟨0, 1, cs, ws⟩) := by
  have HP := Lib.hid (RPost.same h (Below.refl _ _) 0 1)
  obtain ⟨Q, hQ⟩ : ∃ Q, RPost w base g v u ⟨0, 1, cs, ws⟩ = Q := ⟨_, rfl⟩
  rw [hQ]
  have HQ := Lib.hid hQ
  clear h hQ
  by_cases h1 : t < 1
  all_goals
    go_enter Try.func14, Try.ntmps14
    go_wp2
    show Q (.returned (.tuple #[.int .i64 0, .int .i64 1])) _
    rw [← HQ.out]
    exact HP.out
set_option maxHeartbeats 8000000 in
theorem ropen_ok (w : World) (base g : Nat) (v u : Value) (cs : List Cn) (ws : List Int) (h : RpAt w base g v u cs ws) (hbase : base ≤ w.heap.size) (t : Int) (h1 : 1 ≤ t) (h6 : t ≤ 65535) :
    Calls Try.prog 14 #[.pointer (some ⟨g, 0, none⟩), .int .i64 t] w (RPost w base g v u (ropenP cs ws t)) := by
  have CF := rfind_any w base g v u cs ws h t
  obtain ⟨R, hR⟩ : ∃ R, ropenP cs ws t = R := ⟨_, rfl⟩
  rw [hR]
  rw [ropenP, if_neg (by omega)] at hR
  obtain ⟨Q, hQ⟩ : ∃ Q, RPost w base g v u R = Q := ⟨_, rfl⟩
  rw [hQ]
  have HQ := Lib.hid hQ
  have HH := Lib.hid h
  have HBS := Lib.hid hbase
  have e1 : decide (t < 1) = false := decide_eq_false (by omega)
  have e2 : decide (t > 65535) = false := decide_eq_false (by omega)
  clear h hQ hbase h1 h6
  cases hf : fdT cs t with
  | some i =>
    rw [hf] at hR CF
    have HR : Hid ((⟨0, 3, cs, ws⟩ : Rs) = R) := Lib.hid ((if_pos rfl).symm.trans hR)
    change Calls _ _ _ _ (fun e w' => e = .returned (.int .i64 (i : Int)) ∧ _) at CF
    have CF := Lib.hid CF
    have e3 : decide ((i : Int) ≥ 0) = true := decide_eq_true (by omega)
    clear hR hf
    go_enter Try.func14, Try.ntmps14
    go_wp2_with fail
    refine CF.out.mono ?_
    rintro e w1 ⟨rfl, hb⟩
    have HE := Lib.hid (RPost.same HH.out hb 0 3)
    clear hb CF
    go_wp2
    show Q (.returned (.tuple #[.int .i64 0, .int .i64 3])) _
    rw [← HQ.out, ← HR.out]
    exact HE.out
  | none =>
    rw [hf] at hR CF
    have HR0 := Lib.hid ((if_neg (by simp)).symm.trans hR)
    change Calls _ _ _ _ (fun e w' => e = .returned (.int .i64 (-1)) ∧ _) at CF
    have CF := Lib.hid CF
    clear hR hf
    go_enter Try.func14, Try.ntmps14
    go_wp2_with fail
    refine CF.out.mono ?_
    rintro e w1 ⟨rfl, hb⟩
    have hp := HH.out.keep hb
    have z0 := hp.z0
    obtain ⟨A, c, hv, hins⟩ := hp.ins
    obtain ⟨n, hn⟩ : ∃ n, cs.length = n := ⟨_, rfl⟩
    have hn8 : n ≤ 8 := hn ▸ hp.c8
    have hnc : n ≤ c := hn ▸ hins.cap
    rw [hv, hn] at z0
    have HR1 : Hid ((if 8 ≤ n then (⟨0, 6, cs, ws⟩ : Rs) else ⟨ws.headD 0, 0, giveC (insL cs (lbT cs t) ⟨t, 0⟩) t (ws.headD 0), ws.tail⟩) = R) := Lib.hid (hn ▸ HR0.out)
    have HB := Lib.hid hb
    have HP1 := Lib.hid hp
    have HIN := Lib.hid hins
    have HN := Lib.hid hn
    have HV : Hid (v = .slice A n c) := Lib.hid (hn ▸ hv)
    clear CF hb hp hv hins hn HR0
    by_cases hn9 : n = 8
    · subst hn9
      have HR : Hid ((⟨0, 6, cs, ws⟩ : Rs) = R) := Lib.hid ((if_pos (Nat.le_refl 8)).symm.trans HR1.out)
      have HE := Lib.hid (RPost.same HH.out HB.out 0 6)
      go_wp2
      show Q (.returned (.tuple #[.int .i64 0, .int .i64 6])) _
      rw [← HQ.out, ← HR.out]
      exact HE.out
    · obtain ⟨r, hr⟩ : ∃ r, ws.headD 0 = r := ⟨_, rfl⟩
      have HRR := Lib.hid hr
      have HR2 : Hid ((⟨r, 0, giveC (insL cs (lbT cs t) ⟨t, 0⟩) t r, ws.tail⟩ : Rs) = R) := Lib.hid (by
        have := (if_neg (show ¬ 8 ≤ n by omega)).symm.trans HR1.out
        rw [hr] at this
        exact this)
      have HB1 : Hid (base ≤ w1.heap.size) := Lib.hid (Nat.le_trans HBS.out HB.out.size)
      have e3 : decide ((n : Int) ≥ 8) = false := decide_eq_false (by omega)
      have e4 : decide ((8 : Int) ≤ (n : Int)) = false := decide_eq_false (by omega)
      have e5 : decide (8 ≤ n) = false := decide_eq_false (by omega)
      clear hr HR1
      go_wp2
      clear e3 e4 e5 e1 e2
      go_loopw [6] (fun s6 wr => ∃ k : Nat, s6 = .int .i64 k ∧ k ≤ n ∧ (∀ j (hj : j < cs.length), j < k → cs[j].t < t) ∧ wr = w1) (fun s6 _ => n - (intOf s6).toNat)
      case atStart => exact ⟨0, rfl, Nat.zero_le _, fun _ _ h => absurd h (Nat.not_lt_zero _), rfl⟩
      case round =>
        obtain ⟨k, rfl, hk, hno, hw⟩ := hrel
        obtain rfl := hw.symm
        have HNO := Lib.hid hno
        have HHD := Lib.hid (HIN.out.headA cnC_len k (by rw [HN.out]; exact hk))
        have HL1 : Hid ((cs.take k).length = k) := Lib.hid (by rw [List.length_take, HN.out]; omega)
        have HL2 : Hid ((cs.drop k).length = n - k) := Lib.hid (by rw [List.length_drop, HN.out])
        obtain ⟨LL, hLL⟩ : ∃ LL, cs.take k ++ [⟨t, 0⟩] ++ cs.drop k = LL := ⟨_, rfl⟩
        have HLL := Lib.hid hLL
        have HINS : Hid (insL cs k ⟨t, 0⟩ = LL) := Lib.hid (by rw [← hLL, insL]; simp)
        have HL8 : Hid (LL.length ≤ 8) := Lib.hid (by rw [← HINS.out, insL_len _ _ _ (by rw [HN.out]; exact hk), HN.out]; omega)
        clear hno hLL
        have hk1 : (k : Int) ≤ (n : Int) := by omega
        have hk2 : (k : Int) ≤ (c : Int) := by omega
        have hk3 : k ≤ c := by omega
        by_cases hkn : k < n
        · have hkl : k < cs.length := by rw [HN.out]; exact hkn
          obtain ⟨gb, off, rfl, hbb, hat⟩ := HIN.out.cn (by omega)
          have hcn := hat k hkl
          have HNX : Hid (cs[k].t < t → ∀ j (hj : j < cs.length), j < k + 1 → cs[j].t < t) := Lib.hid (fun hh j hj hjk => by
            rcases Nat.lt_or_ge j k with h1 | h1
            · exact HNO.out j hj h1
            · obtain rfl : j = k := by omega
              exact hh)
          have HLB : Hid (¬ cs[k].t < t → lbT cs t = k) := Lib.hid (fun hh => lb_at cs t k (by omega) HNO.out (fun _ => hh))
          obtain ⟨y, hy⟩ : ∃ y, cs[k] = y := ⟨_, rfl⟩
          rw [hy] at hcn HNX HLB
          obtain ⟨p, hp'⟩ : ∃ p, y.t = p := ⟨_, rfl⟩
          obtain ⟨c0, -⟩ := hcn
          rw [hp'] at c0 HNX HLB
          clear hy hp' hat hkl
          by_cases hpt : p < t
          · have e6 : decide (p < t) = true := decide_eq_true hpt
            have HNX := Lib.hid (HNX.out hpt)
            clear hpt
            go_wp2
            go_roundw
            case rel => exact ⟨k + 1, by go_num, by omega, HNX.out, by first | trivial | rfl⟩
            case measure => simp [intOf]; omega
          · have e6 : decide (p < t) = false := decide_eq_false hpt
            have HR : Hid ((⟨r, 0, giveC LL t r, ws.tail⟩ : Rs) = R) := Lib.hid (by rw [← HINS.out, ← HLB.out hpt]; exact HR2.out)
            have HR1 := HHD
            have hoff : off = 0 := by
              obtain ⟨gb2, cap2, hv2, _⟩ := HP1.out.row1 (k := k) (by rw [HN.out]; exact hkn)
              have := HV.out.symm.trans hv2
              injection this with q1
              injection q1 with q1
              injection q1
            subst hoff
            rw [Nat.zero_add] at c0
            have HR2 := Lib.hid (HIN.out.tailA cnC_len k (by rw [HN.out]; omega))
            rw [if_neg (by omega)] at HR2
            have hne : ¬ c = k := by omega
            clear hpt HLB HNX HHD
            go_wp2_with (first
              | (at_builtin; refine wpList_rowsH (f := cnC) (W := w1) Try.underlying40 info_RConn rfl (by omega) cnC_one w1.heap.size rfl _ _ rfl (.slice none 0 0) [] (cs.take k) 0 rfl rfl _ _ _ HL1.out rfl (own_nil _ _ _ _) HR1.out (Nat.le_refl _) (by omega) (by omega) ?_; intro v2 w2 ho2 hg2 _; rw [List.nil_append] at ho2; have hb2 : Below w1.heap.size w1 w2 := (Below.refl _ _).grown hg2 (Nat.le_refl _) (fun b e => by cases e); have HO2 := Lib.hid ho2; have HB2 := Lib.hid hb2; clear ho2 hg2 hb2)
              | (at_builtin; refine wpList_oneH (f := cnC) (W := w2) Try.underlying40 info_RConn rfl (by omega) cnC_len cnC_one w1.heap.size rfl _ _ rfl v2 (cs.take k) ⟨t, 0⟩ rfl rfl rfl HO2.out HB2.out.size (by rw [HL1.out]; omega) (by omega) ?_; intro v3 w3 ho3 hg3 _; have hb3 : Below w1.heap.size w1 w3 := HB2.out.grown hg3 HB2.out.size (fun b e => own_base HO2.out b e); have HO3 := Lib.hid ho3; have HB3 := Lib.hid hb3; have z0c := ((HP1.out.keep hb3).z0).trans (congrArg some HV.out); clear ho3 hg3 hb3)
              | (at_builtin; refine wpList_rowsH (f := cnC) (W := w3) Try.underlying40 info_RConn rfl (by omega) cnC_one w1.heap.size rfl _ _ rfl v3 (cs.take k ++ [⟨t, 0⟩]) (cs.drop k) (k + 1) (by rw [List.length_append, HL1.out]; rfl) rfl _ _ _ HL2.out rfl HO3.out (HR2.out.mono_ HB3.out) HB3.out.size (by omega) (by omega) ?_; intro v4 w4 ho4 hg4 _; rw [HLL.out] at ho4; have hb4 : Below w1.heap.size w1 w4 := HB3.out.grown hg4 HB3.out.size (fun b e => own_base HO3.out b e); obtain ⟨A4, c4, rfl⟩ := own_slice ho4; have hp4 := HP1.out.keep hb4; have z0d := hp4.z0; have f0d := hp4.blk.frozen 0; have HP5 := Lib.hid (hp4.setV (own_lower ho4 HB1.out) HL8.out); have HO4 := Lib.hid ho4; have HB4 := Lib.hid hb4; clear ho4 hg4 hb4 hp4))
            have CG := give_any _ base g _ u LL ws HP5.out (Nat.le_trans HB1.out (by have := HB4.out.size; simpa [World.setCell] using this)) t
            rw [HRR.out] at CG
            have hT : Tr w (w4.setCell ⟨g, 0, none⟩ (.slice A4 LL.length c4)) (RB g v u) := ((Tr.of_below HB.out).more (Tr.of_below (P := fun _ => False) HB4.out) (fun _ _ q => q.elim)).setCell (fun _ => Or.inl rfl) _
            have HT := Lib.hid hT
            have HSZ : Hid (w4.heap.size ≤ (w4.setCell ⟨g, 0, none⟩ (.slice A4 LL.length c4)).heap.size) := Lib.hid (by simp [World.setCell])
            have CG := Lib.hid CG
            clear hT
            refine CG.out.mono ?_
            rintro e w6 ⟨v6, u6, rfl, hp6, ht6, hf6⟩
            have HE : Hid (RPost w base g v u R (.returned (.tuple #[.int .i64 r, .int .i64 0])) w6) := Lib.hid (by
              rw [← HR.out]
              refine ⟨v6, u6, rfl, hp6, HT.out.more ht6 (fun j hj q => ?_), fun j hj => ?_⟩
              · rcases q with q | q | q
                · exact Or.inl q
                · have h1 := own_base HO4.out j q
                  have h2 := HB.out.size
                  omega
                · exact Or.inr (Or.inr q)
              · rcases hf6 j hj with q | q
                · rcases q with q | q | q
                  · exact Or.inl (Or.inl q)
                  · exact Or.inr (Nat.le_trans HB.out.size (own_base HO4.out j q))
                  · exact Or.inl (Or.inr (Or.inr q))
                · exact Or.inr (Nat.le_trans (Nat.le_trans HB.out.size HB4.out.size) (Nat.le_trans HSZ.out q)))
            clear hp6 ht6 hf6 CG
            go_wp2
            show Q (.returned (.tuple #[.int .i64 r, .int .i64 0])) _
            rw [← HQ.out]
            exact HE.out
        · obtain rfl : k = n := by omega
          have HLB : Hid (lbT cs t = k) := Lib.hid (lb_at cs t k (by rw [HN.out]; omega) HNO.out (fun hh => by rw [HN.out] at hh; omega))
          have HR : Hid ((⟨r, 0, giveC LL t r, ws.tail⟩ : Rs) = R) := Lib.hid (by rw [← HINS.out, ← HLB.out]; exact HR2.out)
          have HR1 := HHD
          have HL2 : Hid ((cs.drop k).length = 0) := Lib.hid (HL2.out.trans (by omega))
          have HR2 : ∀ A, Hid (Reads w1 w1.heap.size 2 A (cs.drop k).length ((cs.drop k).flatMap cnC)) := fun A => Lib.hid (by
            have : cs.drop k = [] := List.length_eq_zero_iff.1 HL2.out
            rw [this]
            exact Reads.empty)
          clear HLB HHD hkn
          rcases A with _ | ⟨gb, off, fl⟩
          · have hk0 : k = 0 ∧ c = 0 := by
              rcases HP1.out.row.2 with ⟨q1, q2⟩ | ⟨g', cap', cur, q1, _⟩
              · have := HV.out.symm.trans q1
                injection this with _ q2 q3
                exact ⟨q2, q3⟩
              · have := HV.out.symm.trans q1
                injection this with q1
                cases q1
            obtain ⟨hk0, hc0⟩ := hk0
            have HR2 := HR2 none
            obtain rfl : k = c := by omega
            clear hk0 hc0
            go_wp2_with (first
              | (at_builtin; refine wpList_rowsH (f := cnC) (W := w1) Try.underlying40 info_RConn rfl (by omega) cnC_one w1.heap.size rfl _ _ rfl (.slice none 0 0) [] (cs.take k) 0 rfl rfl _ _ _ HL1.out rfl (own_nil _ _ _ _) HR1.out (Nat.le_refl _) (by omega) (by omega) ?_; intro v2 w2 ho2 hg2 _; rw [List.nil_append] at ho2; have hb2 : Below w1.heap.size w1 w2 := (Below.refl _ _).grown hg2 (Nat.le_refl _) (fun b e => by cases e); have HO2 := Lib.hid ho2; have HB2 := Lib.hid hb2; clear ho2 hg2 hb2)
              | (at_builtin; refine wpList_oneH (f := cnC) (W := w2) Try.underlying40 info_RConn rfl (by omega) cnC_len cnC_one w1.heap.size rfl _ _ rfl v2 (cs.take k) ⟨t, 0⟩ rfl rfl rfl HO2.out HB2.out.size (by rw [HL1.out]; omega) (by omega) ?_; intro v3 w3 ho3 hg3 _; have hb3 : Below w1.heap.size w1 w3 := HB2.out.grown hg3 HB2.out.size (fun b e => own_base HO2.out b e); have HO3 := Lib.hid ho3; have HB3 := Lib.hid hb3; have z0c := ((HP1.out.keep hb3).z0).trans (congrArg some HV.out); clear ho3 hg3 hb3)
              | (at_builtin; refine wpList_rowsH (f := cnC) (W := w3) Try.underlying40 info_RConn rfl (by omega) cnC_one w1.heap.size rfl _ _ rfl v3 (cs.take k ++ [⟨t, 0⟩]) (cs.drop k) (k + 1) (by rw [List.length_append, HL1.out]; rfl) rfl _ _ _ HL2.out rfl HO3.out (HR2.out.mono_ HB3.out) HB3.out.size (by omega) (by omega) ?_; intro v4 w4 ho4 hg4 _; rw [HLL.out] at ho4; have hb4 : Below w1.heap.size w1 w4 := HB3.out.grown hg4 HB3.out.size (fun b e => own_base HO3.out b e); obtain ⟨A4, c4, rfl⟩ := own_slice ho4; have hp4 := HP1.out.keep hb4; have z0d := hp4.z0; have f0d := hp4.blk.frozen 0; have HP5 := Lib.hid (hp4.setV (own_lower ho4 HB1.out) HL8.out); have HO4 := Lib.hid ho4; have HB4 := Lib.hid hb4; clear ho4 hg4 hb4 hp4))
            have CG := give_any _ base g _ u LL ws HP5.out (Nat.le_trans HB1.out (by have := HB4.out.size; simpa [World.setCell] using this)) t
            rw [HRR.out] at CG
            have hT : Tr w (w4.setCell ⟨g, 0, none⟩ (.slice A4 LL.length c4)) (RB g v u) := ((Tr.of_below HB.out).more (Tr.of_below (P := fun _ => False) HB4.out) (fun _ _ q => q.elim)).setCell (fun _ => Or.inl rfl) _
            have HT := Lib.hid hT
            have HSZ : Hid (w4.heap.size ≤ (w4.setCell ⟨g, 0, none⟩ (.slice A4 LL.length c4)).heap.size) := Lib.hid (by simp [World.setCell])
            have CG := Lib.hid CG
            clear hT
            refine CG.out.mono ?_
            rintro e w6 ⟨v6, u6, rfl, hp6, ht6, hf6⟩
            have HE : Hid (RPost w base g v u R (.returned (.tuple #[.int .i64 r, .int .i64 0])) w6) := Lib.hid (by
              rw [← HR.out]
              refine ⟨v6, u6, rfl, hp6, HT.out.more ht6 (fun j hj q => ?_), fun j hj => ?_⟩
              · rcases q with q | q | q
                · exact Or.inl q
                · have h1 := own_base HO4.out j q
                  have h2 := HB.out.size
                  omega
                · exact Or.inr (Or.inr q)
              · rcases hf6 j hj with q | q
                · rcases q with q | q | q
                  · exact Or.inl (Or.inl q)
                  · exact Or.inr (Nat.le_trans HB.out.size (own_base HO4.out j q))
                  · exact Or.inl (Or.inr (Or.inr q))
                · exact Or.inr (Nat.le_trans (Nat.le_trans HB.out.size HB4.out.size) (Nat.le_trans HSZ.out q)))
            clear hp6 ht6 hf6 CG
            go_wp2
            show Q (.returned (.tuple #[.int .i64 r, .int .i64 0])) _
            rw [← HQ.out]
            exact HE.out
          · obtain ⟨hoff, hfl⟩ : off = 0 ∧ fl = none := by
              rcases HP1.out.row.2 with ⟨q1, _⟩ | ⟨g', cap', cur, q1, _⟩
              · have := HV.out.symm.trans q1
                injection this with q1
                cases q1
              · have := HV.out.symm.trans q1
                injection this with q1
                injection q1 with q1
                injection q1 with q1 q2 q3
                exact ⟨q2, q3⟩
            subst hoff hfl
            by_cases hck : c = k
            · have HR2 := HR2 (some ⟨gb, 0, none⟩)
              obtain rfl : k = c := hck.symm
              go_wp2_with (first
                | (at_builtin; refine wpList_rowsH (f := cnC) (W := w1) Try.underlying40 info_RConn rfl (by omega) cnC_one w1.heap.size rfl _ _ rfl (.slice none 0 0) [] (cs.take k) 0 rfl rfl _ _ _ HL1.out rfl (own_nil _ _ _ _) HR1.out (Nat.le_refl _) (by omega) (by omega) ?_; intro v2 w2 ho2 hg2 _; rw [List.nil_append] at ho2; have hb2 : Below w1.heap.size w1 w2 := (Below.refl _ _).grown hg2 (Nat.le_refl _) (fun b e => by cases e); have HO2 := Lib.hid ho2; have HB2 := Lib.hid hb2; clear ho2 hg2 hb2)
                | (at_builtin; refine wpList_oneH (f := cnC) (W := w2) Try.underlying40 info_RConn rfl (by omega) cnC_len cnC_one w1.heap.size rfl _ _ rfl v2 (cs.take k) ⟨t, 0⟩ rfl rfl rfl HO2.out HB2.out.size (by rw [HL1.out]; omega) (by omega) ?_; intro v3 w3 ho3 hg3 _; have hb3 : Below w1.heap.size w1 w3 := HB2.out.grown hg3 HB2.out.size (fun b e => own_base HO2.out b e); have HO3 := Lib.hid ho3; have HB3 := Lib.hid hb3; have z0c := ((HP1.out.keep hb3).z0).trans (congrArg some HV.out); clear ho3 hg3 hb3)
                | (at_builtin; refine wpList_rowsH (f := cnC) (W := w3) Try.underlying40 info_RConn rfl (by omega) cnC_one w1.heap.size rfl _ _ rfl v3 (cs.take k ++ [⟨t, 0⟩]) (cs.drop k) (k + 1) (by rw [List.length_append, HL1.out]; rfl) rfl _ _ _ HL2.out rfl HO3.out (HR2.out.mono_ HB3.out) HB3.out.size (by omega) (by omega) ?_; intro v4 w4 ho4 hg4 _; rw [HLL.out] at ho4; have hb4 : Below w1.heap.size w1 w4 := HB3.out.grown hg4 HB3.out.size (fun b e => own_base HO3.out b e); obtain ⟨A4, c4, rfl⟩ := own_slice ho4; have hp4 := HP1.out.keep hb4; have z0d := hp4.z0; have f0d := hp4.blk.frozen 0; have HP5 := Lib.hid (hp4.setV (own_lower ho4 HB1.out) HL8.out); have HO4 := Lib.hid ho4; have HB4 := Lib.hid hb4; clear ho4 hg4 hb4 hp4))
              have CG := give_any _ base g _ u LL ws HP5.out (Nat.le_trans HB1.out (by have := HB4.out.size; simpa [World.setCell] using this)) t
              rw [HRR.out] at CG
              have hT : Tr w (w4.setCell ⟨g, 0, none⟩ (.slice A4 LL.length c4)) (RB g v u) := ((Tr.of_below HB.out).more (Tr.of_below (P := fun _ => False) HB4.out) (fun _ _ q => q.elim)).setCell (fun _ => Or.inl rfl) _
              have HT := Lib.hid hT
              have HSZ : Hid (w4.heap.size ≤ (w4.setCell ⟨g, 0, none⟩ (.slice A4 LL.length c4)).heap.size) := Lib.hid (by simp [World.setCell])
              have CG := Lib.hid CG
              clear hT
              refine CG.out.mono ?_
              rintro e w6 ⟨v6, u6, rfl, hp6, ht6, hf6⟩
              have HE : Hid (RPost w base g v u R (.returned (.tuple #[.int .i64 r, .int .i64 0])) w6) := Lib.hid (by
                rw [← HR.out]
                refine ⟨v6, u6, rfl, hp6, HT.out.more ht6 (fun j hj q => ?_), fun j hj => ?_⟩
                · rcases q with q | q | q
                  · exact Or.inl q
                  · have h1 := own_base HO4.out j q
                    have h2 := HB.out.size
                    omega
                  · exact Or.inr (Or.inr q)
                · rcases hf6 j hj with q | q
                  · rcases q with q | q | q
                    · exact Or.inl (Or.inl q)
                    · exact Or.inr (Nat.le_trans HB.out.size (own_base HO4.out j q))
                    · exact Or.inl (Or.inr (Or.inr q))
                  · exact Or.inr (Nat.le_trans (Nat.le_trans HB.out.size HB4.out.size) (Nat.le_trans HSZ.out q)))
              clear hp6 ht6 hf6 CG
              go_wp2
              show Q (.returned (.tuple #[.int .i64 r, .int .i64 0])) _
              rw [← HQ.out]
              exact HE.out
            · have HR2 := HR2 (some ⟨gb, k * 2, none⟩)
              go_wp2_with (first
                | (at_builtin; refine wpList_rowsH (f := cnC) (W := w1) Try.underlying40 info_RConn rfl (by omega) cnC_one w1.heap.size rfl _ _ rfl (.slice none 0 0) [] (cs.take k) 0 rfl rfl _ _ _ HL1.out rfl (own_nil _ _ _ _) HR1.out (Nat.le_refl _) (by omega) (by omega) ?_; intro v2 w2 ho2 hg2 _; rw [List.nil_append] at ho2; have hb2 : Below w1.heap.size w1 w2 := (Below.refl _ _).grown hg2 (Nat.le_refl _) (fun b e => by cases e); have HO2 := Lib.hid ho2; have HB2 := Lib.hid hb2; clear ho2 hg2 hb2)
                | (at_builtin; refine wpList_oneH (f := cnC) (W := w2) Try.underlying40 info_RConn rfl (by omega) cnC_len cnC_one w1.heap.size rfl _ _ rfl v2 (cs.take k) ⟨t, 0⟩ rfl rfl rfl HO2.out HB2.out.size (by rw [HL1.out]; omega) (by omega) ?_; intro v3 w3 ho3 hg3 _; have hb3 : Below w1.heap.size w1 w3 := HB2.out.grown hg3 HB2.out.size (fun b e => own_base HO2.out b e); have HO3 := Lib.hid ho3; have HB3 := Lib.hid hb3; have z0c := ((HP1.out.keep hb3).z0).trans (congrArg some HV.out); clear ho3 hg3 hb3)
                | (at_builtin; refine wpList_rowsH (f := cnC) (W := w3) Try.underlying40 info_RConn rfl (by omega) cnC_one w1.heap.size rfl _ _ rfl v3 (cs.take k ++ [⟨t, 0⟩]) (cs.drop k) (k + 1) (by rw [List.length_append, HL1.out]; rfl) rfl _ _ _ HL2.out rfl HO3.out (HR2.out.mono_ HB3.out) HB3.out.size (by omega) (by omega) ?_; intro v4 w4 ho4 hg4 _; rw [HLL.out] at ho4; have hb4 : Below w1.heap.size w1 w4 := HB3.out.grown hg4 HB3.out.size (fun b e => own_base HO3.out b e); obtain ⟨A4, c4, rfl⟩ := own_slice ho4; have hp4 := HP1.out.keep hb4; have z0d := hp4.z0; have f0d := hp4.blk.frozen 0; have HP5 := Lib.hid (hp4.setV (own_lower ho4 HB1.out) HL8.out); have HO4 := Lib.hid ho4; have HB4 := Lib.hid hb4; clear ho4 hg4 hb4 hp4))
              have CG := give_any _ base g _ u LL ws HP5.out (Nat.le_trans HB1.out (by have := HB4.out.size; simpa [World.setCell] using this)) t
              rw [HRR.out] at CG
              have hT : Tr w (w4.setCell ⟨g, 0, none⟩ (.slice A4 LL.length c4)) (RB g v u) := ((Tr.of_below HB.out).more (Tr.of_below (P := fun _ => False) HB4.out) (fun _ _ q => q.elim)).setCell (fun _ => Or.inl rfl) _
              have HT := Lib.hid hT
              have HSZ : Hid (w4.heap.size ≤ (w4.setCell ⟨g, 0, none⟩ (.slice A4 LL.length c4)).heap.size) := Lib.hid (by simp [World.setCell])
              have CG := Lib.hid CG
              clear hT
              refine CG.out.mono ?_
              rintro e w6 ⟨v6, u6, rfl, hp6, ht6, hf6⟩
              have HE : Hid (RPost w base g v u R (.returned (.tuple #[.int .i64 r, .int .i64 0])) w6) := Lib.hid (by
                rw [← HR.out]
                refine ⟨v6, u6, rfl, hp6, HT.out.more ht6 (fun j hj q => ?_), fun j hj => ?_⟩
                · rcases q with q | q | q
                  · exact Or.inl q
                  · have h1 := own_base HO4.out j q
                    have h2 := HB.out.size
                    omega
                  · exact Or.inr (Or.inr q)
                · rcases hf6 j hj with q | q
                  · rcases q with q | q | q
                    · exact Or.inl (Or.inl q)
                    · exact Or.inr (Nat.le_trans HB.out.size (own_base HO4.out j q))
                    · exact Or.inl (Or.inr (Or.inr q))
                  · exact Or.inr (Nat.le_trans (Nat.le_trans HB.out.size HB4.out.size) (Nat.le_trans HSZ.out q)))
              clear hp6 ht6 hf6 CG
              go_wp2
              show Q (.returned (.tuple #[.int .i64 r, .int .i64 0])) _
              rw [← HQ.out]
              exact HE.out
end Go.Proofs.Ytidkhekekfennaa
