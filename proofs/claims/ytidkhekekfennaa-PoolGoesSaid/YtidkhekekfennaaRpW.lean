/- The document's pool: Want. -/
import Derived.Test.YtidkhekekfennaaRpC
import Derived.Deep.RegionLawGrows
namespace Go.Proofs.Ytidkhekekfennaa
set_option maxRecDepth 100000
set_option linter.unusedVariables false
open Go.RowKit

/-- append(l[:n:n], y): always a new row. -/
theorem step_fullN {W : World} {ops : Array Oper} {o : Oper} {a : Act} {K : Act → World → Prop} {Q : Exit → Act → World → Prop} {E : Prop} {cs : Array Value} (hgd : o.guard = none) (sx x : Operand)
    (ho : o.op = .call { callee := .builtin .append, args := #[sx, x], argTypes := #[28, 28] })
    (ao : Option Addr) (ws : List Int) (m : Nat) (y : Int) (hm : ws.length = m) (hs : a.eval sx = .slice ao m m) (hcs : cs = #[.int .i64 y]) (hx : a.eval x = .slice (some ⟨W.heap.size, 0, none⟩) 1 1) (hr : Reads W W.heap.size 1 ao ws.length (nums .i64 ws)) (h0 : ao = none → m = 0) (h4 : m ≤ 4)
    (h : ∀ v1 w1, OwnN .i64 3 w1 W.heap.size v1 (ws ++ [y]) → W.grownBy w1 none → K (a.put o.dst v1) w1) :
    if Region.wanted o (yielded ops a.tmps) = true then Oper.wp Try.prog o a (W.alloc (.cells cs 3)) K Q else E := by
  subst hm hcs
  obtain ⟨i0, hi, hz0, hz1, hz2⟩ := info_parts info_intF
  refine step_append_grows (w := W.alloc (.cells #[.int .i64 y] 3)) hgd sx x 28 ho 3 i0 (.int .i64 0) 1 8 Try.underlying28 hi hz0 hz1 hz2 rfl (by omega) ao ws.length ws.length (nums .i64 ws) hs (fun e => ⟨h0 e, h0 e⟩) (by simp [nums]) ?_ ⟨W.heap.size, 0, none⟩ 1 1 [.int .i64 y] hx rfl ?_ (by simp [Value.oneCell']) (by omega) (by unfold maxLen; omega) (by omega) ?_
  · intro b hb j u hj
    have hlt : 0 < ws.length := by
      rcases Nat.eq_zero_or_pos ws.length with q | q
      · rw [show nums .i64 ws = [] by rw [List.length_eq_zero_iff.1 q]; rfl] at hj; simp at hj
      · exact q
    obtain ⟨b', off, e, hb', hc⟩ := hr.2 hlt
    rw [hb] at e
    injection e with e
    subst e
    have hc := hc j u hj
    rw [Addr.add_lit]
    rw [World.cell?_alloc_lt W _ _ hb']
    exact hc
  · intro j u hj
    rw [Addr.add_lit, Nat.zero_add, World.cell?_alloc_mark]
    simpa using hj
  · intro v' w' ho1 hg
    refine h v' w' ?_ (World.grownBy.trans (World.grownBy_alloc W _ _) hg)
    show w'.ownsRow _ _ _ _ _ _
    have := own_lower (base' := W.heap.size) ho1 (by simp)
    simpa [nums] using this
def rwantP (cs : List Cn) (ws : List Int) (s : Int) : Rs := if s < 1 ∨ 6 < s then ⟨0, 1, cs, ws⟩ else if hasP cs s ≠ 0 ∨ inW ws s = true then ⟨0, 3, cs, ws⟩ else match fdS cs 0 with
  | some k => ⟨tokAt cs k, 0, setS cs k s, ws⟩
  | none => if 4 ≤ ws.length then ⟨0, 180, cs, ws⟩ else ⟨0, 0, cs, ws ++ [s]⟩
set_option maxHeartbeats 2000000 in
theorem rwant_bad (w : World) (base g : Nat) (v u : Value) (cs : List Cn) (ws : List Int) (h : RpAt w base g v u cs ws) (s : Int) (hs : s < 1 ∨ 6 < s) :
    Calls Try.prog 18 #[.pointer (some ⟨g, 0, none⟩), .int .i64 s] w (RPost w base g v u ⟨0, 1, cs, ws⟩) := by
  have HP := Lib.hid (RPost.same h (Below.refl _ _) 0 1)
  obtain ⟨Q, hQ⟩ : ∃ Q, RPost w base g v u ⟨0, 1, cs, ws⟩ = Q := ⟨_, rfl⟩
  rw [hQ]
  have HQ := Lib.hid hQ
  clear h hQ
  by_cases h1 : s < 1
  all_goals
    go_enter Try.func18, Try.ntmps18
    go_wp2
    show Q (.returned (.tuple #[.int .i64 0, .int .i64 1])) _
    rw [← HQ.out]
    exact HP.out
set_option maxHeartbeats 8000000 in
theorem rwant_ok (w : World) (base g : Nat) (v u : Value) (cs : List Cn) (ws : List Int) (h : RpAt w base g v u cs ws) (hbase : base ≤ w.heap.size) (s : Int) (h1 : 1 ≤ s) (h6 : s ≤ 6) :
    Calls Try.prog 18 #[.pointer (some ⟨g, 0, none⟩), .int .i64 s] w (RPost w base g v u (rwantP cs ws s)) := by
  have CH := rhas_any w base g v u cs ws h s
  obtain ⟨R, hR⟩ : ∃ R, rwantP cs ws s = R := ⟨_, rfl⟩
  rw [hR]
  rw [rwantP, if_neg (by omega)] at hR
  obtain ⟨X, hX⟩ : ∃ X, hasP cs s = X := ⟨_, rfl⟩
  obtain ⟨B, hB⟩ : ∃ B, inW ws s = B := ⟨_, rfl⟩
  rw [hX, hB] at hR
  rw [hX] at CH
  obtain ⟨Q, hQ⟩ : ∃ Q, RPost w base g v u R = Q := ⟨_, rfl⟩
  rw [hQ]
  have HQ := Lib.hid hQ
  have HR := Lib.hid hR
  have HH := Lib.hid h
  have HBS := Lib.hid hbase
  have CH := Lib.hid CH
  have HX := Lib.hid hX
  have HBB := Lib.hid hB
  have e1 : decide (s < 1) = false := decide_eq_false (by omega)
  have e2 : decide (s > 6) = false := decide_eq_false (by omega)
  have HS : Hid (1 ≤ s ∧ s ≤ 6) := Lib.hid ⟨h1, h6⟩
  clear h hQ hR hX hB hbase h1 h6
  by_cases hx : X = 0
  · have e3 : (X != 0) = false := by simpa using hx
    have HXZ := Lib.hid hx
    have HQ' : Hid (hasP cs s = 0) := Lib.hid (HX.out.trans hx)
    clear hx
    cases B
    · have HR := Lib.hid ((if_neg (by rw [HXZ.out]; simp)).symm.trans HR.out)
      go_enter Try.func18, Try.ntmps18
      go_wp2_with fail
      refine CH.out.mono ?_
      rintro e w1 ⟨rfl, hb⟩
      have hp := HH.out.keep hb
      have CW := rwaits_any w1 base g v u cs ws hp s
      rw [HBB.out] at CW
      have HP := Lib.hid hp
      have HB := Lib.hid hb
      have CW := Lib.hid CW
      clear hp hb CH
      go_wp2_with fail
      refine CW.out.mono ?_
      rintro e w2 ⟨rfl, hw⟩
      obtain rfl := hw
      obtain ⟨n, hn⟩ : ∃ n, cs.length = n := ⟨_, rfl⟩
      have hn8 : n ≤ 8 := hn ▸ HP.out.c8
      have z0 := HP.out.z0
      obtain ⟨A, c, e4, hins⟩ := HP.out.ins
      rw [e4, hn] at z0
      have HN := Lib.hid hn
      have HV := Lib.hid e4
      have HIN := Lib.hid hins
      obtain ⟨G, hG⟩ : ∃ G, w2.heap.size = G := ⟨_, rfl⟩
      have HG := Lib.hid hG
      clear CW hn e4 hins hG
      go_wp2
      clear z0
      go_loopw [28] (fun s28 wr => ∃ k : Nat, s28 = .int .i64 k ∧ k ≤ n ∧ (∀ j (hj : j < cs.length), j < k → cs[j].s ≠ 0) ∧ Below G w2 wr) (fun s28 _ => n - (intOf s28).toNat)
      case atStart => exact ⟨0, rfl, Nat.zero_le _, fun _ _ h => absurd h (Nat.not_lt_zero _), Below.refl _ _⟩
      case round =>
        obtain ⟨k, rfl, hk, hno, hB⟩ := hrel
        have HB2 := Lib.hid hB
        by_cases hkn : k < n
        · have hkl : k < cs.length := by rw [HN.out]; exact hkn
          have hp := HP.out.keep (HG.out.symm ▸ hB)
          obtain ⟨gb, cap, hv, hne, hlt, hu, hcn, hfz⟩ := hp.row1 hkl
          have hv2 := HV.out.symm.trans hv
          injection hv2 with q1 _ q3
          subst q1 q3
          have z0 := hp.z0
          rw [hv, HN.out] at z0
          have HHIT := Lib.hid (fun h1 => fd_hit hkl hno (s := 0) h1)
          have HNX : Hid (cs[k].s ≠ 0 → ∀ j (hj : j < cs.length), j < k + 1 → cs[j].s ≠ 0) := Lib.hid (fun hh j hj hjk => by
            rcases Nat.lt_or_ge j k with h1 | h1
            · exact hno j hj h1
            · obtain rfl : j = k := by omega
              exact hh)
          have HTK : Hid (tokAt cs k = cs[k].t) := Lib.hid (fd_at hkl)
          obtain ⟨y, hy⟩ : ∃ y, cs[k] = y := ⟨_, rfl⟩
          rw [hy] at hcn HHIT HNX HTK
          obtain ⟨p, hp'⟩ : ∃ p, y.t = p := ⟨_, rfl⟩
          obtain ⟨q, hq⟩ : ∃ q, y.s = q := ⟨_, rfl⟩
          obtain ⟨c0, c1⟩ := hcn
          rw [hp'] at c0 HTK
          rw [hq] at c1 HHIT HNX
          have hgs : G ≤ wr.heap.size := by have h1 := hB.size; have h2 := HG.out; omega
          have hB5 := hB.alloc hgs (.cells #[.int .i64 p, .int .i64 q] 56)
          have hx5 := Blk.new wr 56 #[.int .i64 p, .int .i64 q]
          clear hy hp' hq hno hB hkl hp hu hfz hlt
          go_upto_region 8 with (fail)
          change Code.wp _ _ _ _ (wr.alloc (.cells #[.int .i64 p, .int .i64 q] 56))
          generalize wr.heap.size = gx at hx5 hgs ⊢
          generalize (wr.alloc (.cells #[.int .i64 p, .int .i64 q] 56)) = W5 at hx5 hB5 ⊢
          clear c0 c1 z0
          have d0 : W5.cell? ⟨gx, 0, none⟩ = some (.int .i64 p) := by rw [hx5.cell]; rfl
          have d1 : W5.cell? ⟨gx, 1, none⟩ = some (.int .i64 q) := by rw [hx5.cell]; rfl
          have HB5 := Lib.hid hB5
          have HX5 := Lib.hid hx5
          have hgx : G ≤ gx := hgs
          clear hB5 hx5 hgs
          cases e5 : (q == 0)
          · have HNX := Lib.hid (HNX.out (by simpa using e5))
            go_wp2
            go_roundw
            case rel => exact ⟨k + 1, by go_num, by omega, HNX.out, HB5.out⟩
            case measure => simp [intOf]; omega
          · have HF : Hid (fdS cs 0 = some k) := Lib.hid (HHIT.out (by simpa using e5))
            have hp5 := HP.out.keep (HG.out.symm ▸ HB5.out)
            have hkl : k < cs.length := by rw [HN.out]; exact hkn
            obtain ⟨gb', cap', hv', -, hlt', -, hcn', hfz'⟩ := hp5.row1 hkl
            have hv3 := hv.symm.trans hv'
            injection hv3 with q1 _ q3
            injection q1 with q1
            injection q1 with q1
            subst q1 q3
            have z0 := hp5.z0
            rw [hv, HN.out] at z0
            have c1 := hcn'.c1
            have f1 := hfz' (k * 2 + 1)
            have hgn : gb ≠ gx := fun e => by
              have h1 : gb < w2.heap.size := by
                obtain ⟨gb2, _, hv4, _, h5, _⟩ := HP.out.row1 hkl
                have := hv.symm.trans hv4
                injection this with q1
                injection q1 with q1
                injection q1 with q1
                omega
              have := HG.out
              omega
            have h3 : RpAt (W5.setCell ⟨gb, k * 2 + 1, none⟩ (.int .i64 s)) base g v u (setS cs k s) ws := by
              have h2 := (hv ▸ hp5 : RpAt W5 base g (.slice (some ⟨gb, 0, none⟩) cs.length c) u cs ws)
              have := h2.setS k s
              rw [← hv] at this
              exact this
            have hT : Tr w (W5.setCell ⟨gb, k * 2 + 1, none⟩ (.int .i64 s)) (RB g v u) := (((Tr.of_below HB.out).more (Tr.of_below (P := fun _ => False) (HG.out.symm ▸ HB5.out)) (fun _ _ q => q.elim)).setCell (fun _ => Or.inr (Or.inl (by rw [hv]; rfl))) _)
            have hx6 := HX5.out.far (p := ⟨gb, k * 2 + 1, none⟩) (fun e => hgn e.symm) (.int .i64 s)
            have d0' : (W5.setCell ⟨gb, k * 2 + 1, none⟩ (.int .i64 s)).cell? ⟨gx, 0, none⟩ = some (.int .i64 p) := by rw [hx6.cell]; rfl
            have HE : Hid (RPost w base g v u R (.returned (.tuple #[.int .i64 p, .int .i64 0])) (W5.setCell ⟨gb, k * 2 + 1, none⟩ (.int .i64 s))) := Lib.hid (by
              have e := HR.out
              rw [HF.out] at e
              change (⟨tokAt cs k, 0, setS cs k s, ws⟩ : Rs) = R at e
              rw [HTK.out] at e
              rw [← e]
              exact ⟨v, u, rfl, h3, hT, fun j hj => Or.inl hj⟩)
            clear h3 hT hx6 hp5 hcn' hfz' hlt' hgn
            go_wp2
            show Q (.returned (.tuple #[.int .i64 p, .int .i64 0])) _
            rw [← HQ.out]
            exact HE.out
        · obtain rfl : k = n := by omega
          have HF : Hid (fdS cs 0 = none) := Lib.hid (fd_miss (fun j hj => hno j hj (HN.out ▸ hj)))
          have HR := Lib.hid HR.out
          rw [HF.out] at HR
          change Hid ((if 4 ≤ ws.length then (⟨0, 180, cs, ws⟩ : Rs) else ⟨0, 0, cs, ws ++ [s]⟩) = R) at HR
          have hp := HP.out.keep (HG.out.symm ▸ hB)
          have z1 := hp.z1
          have f1 := hp.blk.frozen 1
          obtain ⟨A2, c2, e5, hin⟩ := hp.inn
          obtain ⟨m, hm⟩ : ∃ m, ws.length = m := ⟨_, rfl⟩
          have hm4 : m ≤ 4 := hm ▸ hp.w4
          have hmc : m ≤ c2 := hm ▸ hin.cap
          rw [e5, hm] at z1
          rw [hm] at HR
          have HM := Lib.hid hm
          have HP3 := Lib.hid hp
          have HRD := Lib.hid hin.reads
          have hBw : Below w.heap.size w wr := HB.out.trans ((HG.out.symm ▸ hB : Below w2.heap.size w2 wr).mono HB.out.size)
          have HBW := Lib.hid hBw
          clear hno hB hp e5 hin hm hkn hBw HB2
          by_cases hm5 : m = 4
          · subst hm5
            have HR := Lib.hid ((if_pos (Nat.le_refl 4)).symm.trans HR.out)
            have HE := Lib.hid (RPost.same HH.out HBW.out 0 180)
            go_wp2
            show Q (.returned (.tuple #[.int .i64 0, .int .i64 180])) _
            rw [← HQ.out, ← HR.out]
            exact HE.out
          · have HR := Lib.hid ((if_neg (by omega)).symm.trans HR.out)
            have e6 : decide ((m : Int) ≥ 4) = false := decide_eq_false (by omega)
            have e7 : decide ((4 : Int) ≤ (m : Int)) = false := decide_eq_false (by omega)
            have e8 : decide (4 ≤ m) = false := decide_eq_false (by omega)
            go_upto_region 14 with (fail)
            have hwd : Below wr.heap.size wr wr.drew := (Below.refl _ _).drew
            have z1d : wr.drew.cell? ⟨g, 1, none⟩ = some (.slice A2 m c2) := z1
            have z1a : (wr.drew.alloc (.cells #[.int .i64 s] 3)).cell? ⟨g, 1, none⟩ = some (.slice A2 m c2) := (World.cell?_alloc_lt _ _ _ HP3.out.lt).trans z1
            have z1b : (wr.alloc (.cells #[.int .i64 s] 3)).cell? ⟨g, 1, none⟩ = some (.slice A2 m c2) := (World.cell?_alloc_lt _ _ _ HP3.out.lt).trans z1
            have H0 : Hid (A2 = none → m = 0) := Lib.hid (fun e => by
              rcases Nat.eq_zero_or_pos m with q | q
              · exact q
              · obtain ⟨b, off, e2, _⟩ := HRD.out.2 (by rw [HM.out]; exact q)
                rw [e] at e2; cases e2)
            have hmi : (m : Int) ≤ (c2 : Int) := by omega
            have hmi2 : (m : Int) ≤ (m : Int) := by omega
            go_region_law (refine step_fullN (W := wr.drew) rfl _ _ rfl A2 ws m s HM.out (by first | rfl | simp [Act.eval]) rfl (by first | rfl | simp [Act.eval]) HRD.out H0.out (by omega) ?_; intro v1 w3 ho3 hg3; obtain ⟨L, hL⟩ : ∃ L, ws ++ [s] = L := ⟨_, rfl⟩; rw [hL] at ho3; have HL := Lib.hid hL; obtain ⟨A3, c3, rfl⟩ := own_slice ho3; have hb3 : Below wr.heap.size wr w3 := (Below.refl _ _).drew.grown hg3 (Nat.le_refl _) (fun b e => by cases e); have z1w := (HP3.out.keep hb3).z1; have f1w := (HP3.out.keep hb3).blk.frozen 1; have HO3 := Lib.hid ho3; have HB3 := Lib.hid hb3; clear ho3 hg3 hL hb3)
            all_goals (
              have hp4 := (HP3.out.keep HB3.out).setW (own_lower HO3.out (Nat.le_trans HBS.out HBW.out.size)) (by rw [← HL.out, List.length_append, HM.out]; simp; omega) (fun x hx => by
                rw [← HL.out] at hx
                rcases List.mem_append.1 hx with hx | hx
                · exact HH.out.wr x hx
                · rw [List.mem_singleton.1 hx]; exact HS.out)
              have hT : Tr w (w3.setCell ⟨g, 1, none⟩ (.slice A3 L.length c3)) (RB g v u) := ((Tr.of_below HBW.out).more (Tr.of_below (P := fun _ => False) HB3.out) (fun _ _ q => q.elim)).setCell (fun _ => Or.inl rfl) _
              have HE : Hid (RPost w base g v u R (.returned (.tuple #[.int .i64 0, .int .i64 0])) (w3.setCell ⟨g, 1, none⟩ (.slice A3 L.length c3))) := Lib.hid (by
                rw [← HR.out, HL.out]
                exact ⟨v, _, rfl, hp4, hT, fun j hj => by
                  rcases hj with e | e | e
                  · exact Or.inl (Or.inl e)
                  · exact Or.inl (Or.inr (Or.inl e))
                  · exact Or.inr (Nat.le_trans HBW.out.size (own_base HO3.out j e))⟩)
              clear hp4 hT
              go_wp2
              show Q (.returned (.tuple #[.int .i64 0, .int .i64 0])) _
              rw [← HQ.out]
              exact HE.out)
    · have HR2 : Hid ((⟨0, 3, cs, ws⟩ : Rs) = R) := Lib.hid ((if_pos (Or.inr rfl)).symm.trans HR.out)
      clear HR
      go_enter Try.func18, Try.ntmps18
      go_wp2_with fail
      refine CH.out.mono ?_
      rintro e w1 ⟨rfl, hb⟩
      have hp := HH.out.keep hb
      have CW := rwaits_any w1 base g v u cs ws hp s
      rw [HBB.out] at CW
      have CW := Lib.hid CW
      have HE := Lib.hid (RPost.same HH.out hb 0 3)
      clear hp hb CH
      go_wp2_with fail
      refine CW.out.mono ?_
      rintro e w2 ⟨rfl, hw⟩
      obtain rfl := hw
      clear CW
      go_wp2
      show Q (.returned (.tuple #[.int .i64 0, .int .i64 3])) _
      rw [← HQ.out, ← HR2.out]
      exact HE.out
  · have e3 : (X != 0) = true := by simpa using hx
    have HR : Hid (⟨0, 3, cs, ws⟩ = R) := Lib.hid ((if_pos (Or.inl hx)).symm.trans HR.out)
    clear hx
    go_enter Try.func18, Try.ntmps18
    go_wp2_with fail
    refine CH.out.mono ?_
    rintro e w1 ⟨rfl, hb⟩
    have HE := Lib.hid (RPost.same HH.out hb 0 3)
    clear hb CH
    go_wp2
    show Q (.returned (.tuple #[.int .i64 0, .int .i64 3])) _
    rw [← HQ.out, ← HR.out]
    exact HE.out
theorem rwant_any (w : World) (base g : Nat) (v u : Value) (cs : List Cn) (ws : List Int) (h : RpAt w base g v u cs ws) (hbase : base ≤ w.heap.size) (s : Int) :
    Calls Try.prog 18 #[.pointer (some ⟨g, 0, none⟩), .int .i64 s] w (RPost w base g v u (rwantP cs ws s)) := by
  by_cases hs : s < 1 ∨ 6 < s
  · rw [rwantP, if_pos hs]
    exact rwant_bad w base g v u cs ws h s hs
  · exact rwant_ok w base g v u cs ws h hbase s (by omega) (by omega)
end Go.Proofs.Ytidkhekekfennaa
