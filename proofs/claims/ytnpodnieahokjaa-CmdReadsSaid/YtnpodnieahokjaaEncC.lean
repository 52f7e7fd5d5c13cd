/- Walks over commands: the code's Encode. -/
import Derived.Test.YtnpodnieahokjaaEnc
import Derived.Test.YtnpodnieahokjaaCmdE
namespace Go.Proofs.Ytnpodnieahokjaa
open Go.RowKit

theorem info_u64 : (Try.prog.info? 23).map (fun i => (i.zero, i.size, i.bytes)) = some (some (.int .u64 0), 1, 8) := by kernel_rfl
/-- Numbers of 64 bits in a row of the call's own. -/
def OwnU (w : World) (base : Nat) (v : Value) (l : List Int) : Prop := OwnN .u64 23 w base v l
/-- append(b, x, ..): the numbers lie in a block just made. -/
theorem app_lits {ops : Array Oper} {rest : List Oper} {o : Oper} {a : Act} {Q : Exit → Act → World → Prop} {w0 W : World} {cs : Array Value} (base : Nat) (hgd : o.guard = none) (s x : Operand)
    (ho : o.op = .call { callee := .builtin .append, args := #[s, x], argTypes := #[48, 48] })
    (v : Value) (l news : List Int) (hs : a.eval s = v) (hcs : cs = (nums .u64 news).toArray) (hx : a.eval x = .slice (some ⟨W.heap.size, 0, none⟩) news.length news.length) (HO : OwnU W base v l) (HB : Below base w0 W) (hbase : base ≤ W.heap.size) (hl : l.length + news.length ≤ 1000000)
    (h : ∀ v1 w1, OwnU w1 base v1 (l ++ news) → Below base w0 w1 → wpList Try.prog ops Q rest (a.put o.dst v1) w1) : wpList Try.prog ops Q (o :: rest) a (W.alloc (.cells cs 23)) := by
  have hr : Reads (W.alloc (.cells cs 23)) (W.heap.size + 1) 1 (some ⟨W.heap.size, 0, none⟩) news.length (nums .u64 news) := by
    subst hcs
    refine ⟨by simp [nums], fun h => ⟨W.heap.size, 0, rfl, by omega, fun j u hu => ?_⟩⟩
    rw [Nat.zero_add, World.cell?_alloc_mark]
    simpa using hu
  refine app_own (w0 := w0) base hgd s x 48 23 (.int .u64 0) 8 ho Try.underlying48 1 info_u64 rfl (by omega) (by omega) v (nums .u64 l) l.length hs (W.heap.size + 1) _ _ _ (nums .u64 news) hx (World.ownsRow.alloc HO _) hr (nums_one_cell .u64 news) (HB.alloc hbase _) (by simp; omega) (by omega) ?_
  intro v1 w1 ho1 hB1 _ _
  refine h v1 w1 ?_ hB1
  unfold OwnU OwnN
  rw [List.length_append, nums_append]
  exact ho1

theorem wf_of_u64 {z : Int} (h1 : 0 ≤ z) (h2 : z < 18446744073709551616) : (Lit.int .u64 z).wf = true := by
  simp [Lit.wf, IntKind.min, IntKind.max, IntKind.bits, IntKind.signed]
  omega
/-- A command's numbers, in order. -/
def numsL (k n t : Int) (l : List Int) (b q s m : Int) : List Int :=
  [k] ++ (if kN k then (l.length : Int) :: l else []) ++ (if kR k then [n, b, q] else []) ++ (if kT k then [t, s] else []) ++ (if kS k then [m] else [])

set_option maxRecDepth 100000 in
set_option maxHeartbeats 4000000 in
theorem cmd_Encode_ok (w : World) (k n t : Nat) (A : Option Addr) (c : Nat) (l : List Int) (b q s m : Nat) (h : InN .i64 w A c l) (hk : k < 9223372036854775808) (hn : n < 9223372036854775808) (ht : t < 9223372036854775808)
    (hb : b < 18446744073709551616) (hq : q < 18446744073709551616) (hs : s < 18446744073709551616) (hm : m < 18446744073709551616) (hset : kN k = true → IsSet l)
    (C0 : ∀ W, InN .i64 W A c l → Calls Try.prog 10 #[cmdV k n t (.slice A l.length c) b q s m] W fun e w' => e = .returned (.int .i64 0) ∧ Below W.heap.size W w') :
    Calls Try.prog 13 #[cmdV k n t (.slice A l.length c) b q s m] w fun e w' => ∃ v, e = .returned (.tuple #[v, .int .i64 0]) ∧ Own8 w' w.heap.size v (numsB (numsL k n t l b q s m)) ∧ Below w.heap.size w w' := by
  have C0 := fun W hin => Lib.hid (C0 W hin)
  have C1 := fun W => Lib.hid (cmd_of_any W k)
  have wk : IntKind.u64.wrap (k : Int) = (k : Int) := by simp [IntKind.wrap_u64]; omega
  have wn : IntKind.u64.wrap (n : Int) = (n : Int) := by simp [IntKind.wrap_u64]; omega
  have wt : IntKind.u64.wrap (t : Int) = (t : Int) := by simp [IntKind.wrap_u64]; omega
  have CN := fun x hx w => Lib.hid (num_any x hx w)
  have HIN := Lib.hid h
  have HST := Lib.hid hset
  have HK := Lib.hid (show k < 18446744073709551616 by omega)
  have HN := Lib.hid (show n < 18446744073709551616 by omega)
  have HT := Lib.hid (show t < 18446744073709551616 by omega)
  have HBB := Lib.hid hb
  have HQ := Lib.hid hq
  have HS := Lib.hid hs
  have HM := Lib.hid hm
  obtain ⟨enc, henc⟩ : ∃ enc, numsB (numsL k n t l b q s m) = enc := ⟨_, rfl⟩
  have HENC := Lib.hid henc
  rw [henc]
  clear henc hset h hk hn ht hb hq hs hm
  obtain ⟨g, hg⟩ : ∃ g, w.heap.size = g := ⟨_, rfl⟩
  have hb0 : Blk (w.alloc (.cells (cmdCells k n t (.slice A l.length c) b q s m) 25)) g 25 (cmdCells k n t (.slice A l.length c) b q s m) := hg ▸ Blk.new _ _ _
  have hB0 : Below g w (w.alloc (.cells (cmdCells k n t (.slice A l.length c) b q s m) 25)) := (Below.refl _ _).alloc (by omega) _
  simp only [cmdV]
  go_enter Try.func13, Try.ntmps13
  go_wp2_with fail
  refine (C0 _ (HIN.out.keep (by rw [hg]; exact hB0))).out.mono ?_
  rintro e w1 ⟨rfl, hB1⟩
  have hb1 := hb0.below hB1 hb0.lt
  have hBw1 : Below g w w1 := hB0.trans (hB1.mono (Nat.le_of_lt hb0.lt))
  clear hb0 hB0 hB1
  obtain ⟨c0, c1, c2, c3, c4, c5, c6, c7⟩ := hb1.cmd
  go_wp2_with fail
  refine (C1 _).out.mono ?_
  rintro e w2 ⟨rfl, hB2⟩
  clear c0 c1 c2 c3 c4 c5 c6 c7
  unfold which
  have hb2 := hb1.below hB2 hb1.lt
  have hBw2 : Below g w w2 := hBw1.trans (hB2.mono (Nat.le_of_lt hb1.lt))
  obtain ⟨g1, hg1⟩ : ∃ g1, w2.heap.size = g1 := ⟨_, rfl⟩
  have hlt : g < g1 := hg1 ▸ hb2.lt
  have hb3 := hb2.alloc (.cells #[.bool (kN k), .bool (kR k), .bool (kT k), .bool (kS k), .bool (kI k)] 40)
  have hw3 : Blk (w2.alloc (.cells #[.bool (kN k), .bool (kR k), .bool (kT k), .bool (kS k), .bool (kI k)] 40)) g1 40 _ := hg1 ▸ Blk.new _ _ _
  have hBw3 : Below g w (w2.alloc (.cells #[.bool (kN k), .bool (kR k), .bool (kT k), .bool (kS k), .bool (kI k)] 40)) := hBw2.alloc (by omega) _
  clear hb1 hBw1 hB2 hb2 hBw2
  go_upto_region 5 with (fail)
  generalize w2.alloc (.cells #[.bool (kN k), .bool (kR k), .bool (kT k), .bool (kS k), .bool (kI k)] 40) = W at hb3 hw3 hBw3 ⊢
  clear hg1
  obtain ⟨B, hB⟩ : ∃ B, W.heap.size = B := ⟨_, rfl⟩
  have hgB : g1 < B := hB ▸ hw3.lt
  have hlit : OwnU (W.alloc (.cells #[.int .u64 k] 23)) B (.slice (some ⟨B, 0, none⟩) 1 1) [(k : Int)] := by
    have := own_lit1 W B 23 (.int .u64 k) (by omega)
    rw [hB] at this
    exact this
  have hBl : Below B W (W.alloc (.cells #[.int .u64 k] 23)) := (Below.refl _ _).alloc (by omega) _
  have HL := Lib.hid hlit
  have HBL := Lib.hid hBl
  have HCM : Hid (∀ wx, Below B W wx → Blk wx g 25 (cmdCells k n t (.slice A l.length c) b q s m) ∧ Blk wx g1 40 #[.bool (kN k), .bool (kR k), .bool (kT k), .bool (kS k), .bool (kI k)] ∧ Below g w wx ∧ B ≤ wx.heap.size) :=
    fun wx hx => ⟨hb3.below hx (by omega), hw3.below hx (by omega), hBw3.trans (hx.mono (by omega)), by have := hx.size; omega⟩
  clear hlit hBl
  obtain ⟨c0, c1, c2, c3, c4, c5, c6, c7⟩ := hb3.cmd
  clear hb3 hw3 hBw3 C0 C1
  go_upto_region 6 with (fail)
  generalize W.alloc (.cells #[.int .u64 k] 23) = W4 at HL HBL ⊢
  clear c0 c1 c2 c3 c4 c5 c6 c7
  obtain ⟨hbc, hwc, -, hzc⟩ := HCM.out _ (HBL.out)
  obtain ⟨c0, c1, c2, c3, c4, c5, c6, c7⟩ := hbc.cmd
  obtain ⟨d0, d1, d2, d3, d4⟩ := hwc.which
  have hl7 : kN k = true → l.length ≤ 7 := fun e => set_len (HST.out e)
  have HL7 := Lib.hid hl7
  clear hl7
  go_upto_if 25 with (fail)
  go_cut [6] (fun x wx => OwnU wx B x ([(k : Int)] ++ (if kN k then (l.length : Int) :: l else [])) ∧ Below B W wx)
  case first =>
    cases hN : kN k
    · have HV : Hid ([(k : Int)] ++ (if kN k then (l.length : Int) :: l else []) = [(k : Int)]) := by
        show _ = _
        simp [hN]
      go_wp2
      go_meet
      case rel => exact ⟨by rw [HV.out]; exact HL.out, HBL.out⟩
    · have HN1 := Lib.hid hN
      have h7 := HL7.out hN
      have wl : IntKind.u64.wrap (l.length : Int) = (l.length : Int) := by simp [IntKind.wrap_u64]; omega
      have hset := HST.out hN
      have HSE := Lib.hid hset
      clear hset hN
      have hcap := (HIN.out).cap
      go_wp2_with (at_builtin; refine app_lits (w0 := W) B rfl _ _ rfl _ [(k : Int)] [(l.length : Int)] rfl rfl rfl HL.out HBL.out hzc (by simp) ?_; intro v1 w1 ho1 hB1; have HO1 := Lib.hid ho1; have HB1 := Lib.hid hB1; clear ho1; clear c0 c1 c2 c3 c4 c5 c6 c7 d0 d1 d2 d3 d4 hbc hwc; obtain ⟨hbc, hwc, -, hzc⟩ := HCM.out _ (hB1); obtain ⟨c0, c1, c2, c3, c4, c5, c6, c7⟩ := hbc.cmd; obtain ⟨d0, d1, d2, d3, d4⟩ := hwc.which)
      clear hzc
      go_loopw [6, 8, 36] (fun x z i wr => ∃ j : Nat, j ≤ l.length ∧ i = .int .i64 j ∧ OwnU wr B x ([(k : Int)] ++ [(l.length : Int)] ++ l.take j) ∧ Below B W wr) (fun _ _ i _ => l.length - (intOf i).toNat)
      case atStart => exact ⟨0, by omega, rfl, by simpa using HO1.out, HB1.out⟩
      case round =>
        clear c0 c1 c2 c3 c4 c5 c6 c7 d0 d1 d2 d3 d4 hbc hwc
        clear HO1 HB1
        obtain ⟨j, hj, rfl, hrow, hB9⟩ := hrel
        have HR := Lib.hid hrow
        have HB9 := Lib.hid hB9
        clear hrow
        obtain ⟨-, -, hgw, hzz⟩ := HCM.out _ hB9
        by_cases hlt : j < l.length
        · obtain ⟨ba, off, rfl, hcell⟩ := (HIN.out.keep (by rw [hg]; exact hgw)).all (by omega)
          have hck := hcell j hlt
          have hmem := set_mem HSE.out hlt
          have HTK := Lib.hid (List.take_append_getElem hlt)
          clear hcell hB9 hgw
          obtain ⟨z, hz⟩ : ∃ z, l[j] = z := ⟨_, rfl⟩
          rw [hz] at hck hmem HTK
          clear hz
          have wz : IntKind.u64.wrap z = z := by simp [IntKind.wrap_u64]; omega
          go_wp2_with (at_builtin; refine app_lits (w0 := W) B rfl _ _ rfl _ ([(k : Int)] ++ [(l.length : Int)] ++ l.take j) [z] rfl rfl rfl HR.out HB9.out hzz (by simp; omega) ?_; intro v2 w2 ho2 hB2; have HO2 := Lib.hid ho2; have HB2 := Lib.hid hB2; clear ho2 hB2)
          go_roundw
          case rel => exact ⟨j + 1, by omega, by go_num, by rw [← HTK.out, ← List.append_assoc]; exact HO2.out, HB2.out⟩
          case measure => simp [intOf]; omega
        · obtain rfl : j = l.length := by omega
          clear hB9 hgw
          have HV : Hid ([(k : Int)] ++ (if kN k then (l.length : Int) :: l else []) = [(k : Int)] ++ [(l.length : Int)] ++ l) := by
            show _ = _
            simp [HN1.out]
          have HR2 := Lib.hid HR.out
          go_wp2
          go_meet
          case rel => exact ⟨by rw [HV.out]; simpa using HR.out, HB9.out⟩
  case rest =>
    clear c0 c1 c2 c3 c4 c5 c6 c7 d0 d1 d2 d3 d4 hbc hwc
    clear HL HBL
    obtain ⟨hrow, hBc⟩ := hcut
    have HR := Lib.hid hrow
    have HBc := Lib.hid hBc
    clear hrow hBc
    obtain ⟨hbc, hwc, -, hzc⟩ := HCM.out _ (HBc.out)
    obtain ⟨c0, c1, c2, c3, c4, c5, c6, c7⟩ := hbc.cmd
    obtain ⟨d0, d1, d2, d3, d4⟩ := hwc.which
    go_upto_if 47 with (fail)
    go_cut [6] (fun x wx => OwnU wx B x ([(k : Int)] ++ (if kN k then (l.length : Int) :: l else []) ++ (if kR k then [(n : Int), (b : Int), (q : Int)] else [])) ∧ Below B W wx)
    case first =>
      have HLN : Hid (([(k : Int)] ++ (if kN k then (l.length : Int) :: l else [])).length ≤ 100) := by
        show _ ≤ _
        have := HL7.out
        repeat' rw [List.length_append]
        have e1 : (if kN k = true then (l.length : Int) :: l else []).length ≤ 8 := by
          split
          · rename_i h; have := HL7.out h; simp; omega
          · simp
        have e2 : (if kR k = true then [(n : Int), (b : Int), (q : Int)] else []).length ≤ 3 := by split <;> simp
        have e3 : (if kT k = true then [(t : Int), (s : Int)] else []).length ≤ 2 := by split <;> simp
        have e4 : ([(k : Int)]).length = 1 := rfl
        omega
      cases hF : kR k
      · have HV : Hid ([(k : Int)] ++ (if kN k then (l.length : Int) :: l else []) ++ (if kR k then [(n : Int), (b : Int), (q : Int)] else []) = [(k : Int)] ++ (if kN k then (l.length : Int) :: l else [])) := by
          show _ = _
          rw [if_neg (by simp [hF] : ¬ (kR (k : Int) = true)), List.append_nil]
        clear hF
        go_wp2
        go_meet
        case rel => exact ⟨by rw [HV.out]; exact HR.out, HBc.out⟩
      · have HV : Hid ([(k : Int)] ++ (if kN k then (l.length : Int) :: l else []) ++ (if kR k then [(n : Int), (b : Int), (q : Int)] else []) = [(k : Int)] ++ (if kN k then (l.length : Int) :: l else []) ++ [(n : Int), (b : Int), (q : Int)]) := by
          show _ = _
          rw [if_pos hF]
        clear hF
        have hln := HLN.out
        go_wp2_with (at_builtin; refine app_lits (w0 := W) B rfl _ _ rfl _ ([(k : Int)] ++ (if kN k then (l.length : Int) :: l else [])) ([(n : Int), (b : Int), (q : Int)]) rfl rfl rfl HR.out HBc.out hzc (by simp only [List.length_cons, List.length_nil]; omega) ?_; intro v1 w1 ho1 hB1; have HO1 := Lib.hid ho1; have HB1 := Lib.hid hB1; clear ho1 hB1)
        go_meet
        case rel => exact ⟨by rw [HV.out]; exact HO1.out, HB1.out⟩
    case rest =>
      clear c0 c1 c2 c3 c4 c5 c6 c7 d0 d1 d2 d3 d4 hbc hwc
      clear HR HBc hzc
      obtain ⟨hrow, hBc⟩ := hcut
      have HR := Lib.hid hrow
      have HBc := Lib.hid hBc
      clear hrow hBc
      obtain ⟨hbc, hwc, -, hzc⟩ := HCM.out _ (HBc.out)
      obtain ⟨c0, c1, c2, c3, c4, c5, c6, c7⟩ := hbc.cmd
      obtain ⟨d0, d1, d2, d3, d4⟩ := hwc.which
      go_upto_if 59 with (fail)
      go_cut [6] (fun x wx => OwnU wx B x ([(k : Int)] ++ (if kN k then (l.length : Int) :: l else []) ++ (if kR k then [(n : Int), (b : Int), (q : Int)] else []) ++ (if kT k then [(t : Int), (s : Int)] else [])) ∧ Below B W wx)
      case first =>
        have HLN : Hid (([(k : Int)] ++ (if kN k then (l.length : Int) :: l else []) ++ (if kR k then [(n : Int), (b : Int), (q : Int)] else [])).length ≤ 100) := by
          show _ ≤ _
          have := HL7.out
          repeat' rw [List.length_append]
          have e1 : (if kN k = true then (l.length : Int) :: l else []).length ≤ 8 := by
            split
            · rename_i h; have := HL7.out h; simp; omega
            · simp
          have e2 : (if kR k = true then [(n : Int), (b : Int), (q : Int)] else []).length ≤ 3 := by split <;> simp
          have e3 : (if kT k = true then [(t : Int), (s : Int)] else []).length ≤ 2 := by split <;> simp
          have e4 : ([(k : Int)]).length = 1 := rfl
          omega
        cases hF : kT k
        · have HV : Hid ([(k : Int)] ++ (if kN k then (l.length : Int) :: l else []) ++ (if kR k then [(n : Int), (b : Int), (q : Int)] else []) ++ (if kT k then [(t : Int), (s : Int)] else []) = [(k : Int)] ++ (if kN k then (l.length : Int) :: l else []) ++ (if kR k then [(n : Int), (b : Int), (q : Int)] else [])) := by
            show _ = _
            rw [if_neg (by simp [hF] : ¬ (kT (k : Int) = true)), List.append_nil]
          clear hF
          go_wp2
          go_meet
          case rel => exact ⟨by rw [HV.out]; exact HR.out, HBc.out⟩
        · have HV : Hid ([(k : Int)] ++ (if kN k then (l.length : Int) :: l else []) ++ (if kR k then [(n : Int), (b : Int), (q : Int)] else []) ++ (if kT k then [(t : Int), (s : Int)] else []) = [(k : Int)] ++ (if kN k then (l.length : Int) :: l else []) ++ (if kR k then [(n : Int), (b : Int), (q : Int)] else []) ++ [(t : Int), (s : Int)]) := by
            show _ = _
            rw [if_pos hF]
          clear hF
          have hln := HLN.out
          go_wp2_with (at_builtin; refine app_lits (w0 := W) B rfl _ _ rfl _ ([(k : Int)] ++ (if kN k then (l.length : Int) :: l else []) ++ (if kR k then [(n : Int), (b : Int), (q : Int)] else [])) ([(t : Int), (s : Int)]) rfl rfl rfl HR.out HBc.out hzc (by simp only [List.length_cons, List.length_nil]; omega) ?_; intro v1 w1 ho1 hB1; have HO1 := Lib.hid ho1; have HB1 := Lib.hid hB1; clear ho1 hB1)
          go_meet
          case rel => exact ⟨by rw [HV.out]; exact HO1.out, HB1.out⟩
      case rest =>
        clear c0 c1 c2 c3 c4 c5 c6 c7 d0 d1 d2 d3 d4 hbc hwc
        clear HR HBc hzc
        obtain ⟨hrow, hBc⟩ := hcut
        have HR := Lib.hid hrow
        have HBc := Lib.hid hBc
        clear hrow hBc
        obtain ⟨hbc, hwc, -, hzc⟩ := HCM.out _ (HBc.out)
        obtain ⟨c0, c1, c2, c3, c4, c5, c6, c7⟩ := hbc.cmd
        obtain ⟨d0, d1, d2, d3, d4⟩ := hwc.which
        go_upto_if 69 with (fail)
        go_cut [6] (fun x wx => OwnU wx B x ([(k : Int)] ++ (if kN k then (l.length : Int) :: l else []) ++ (if kR k then [(n : Int), (b : Int), (q : Int)] else []) ++ (if kT k then [(t : Int), (s : Int)] else []) ++ (if kS k then [(m : Int)] else [])) ∧ Below B W wx)
        case first =>
          have HLN : Hid (([(k : Int)] ++ (if kN k then (l.length : Int) :: l else []) ++ (if kR k then [(n : Int), (b : Int), (q : Int)] else []) ++ (if kT k then [(t : Int), (s : Int)] else [])).length ≤ 100) := by
            show _ ≤ _
            have := HL7.out
            repeat' rw [List.length_append]
            have e1 : (if kN k = true then (l.length : Int) :: l else []).length ≤ 8 := by
              split
              · rename_i h; have := HL7.out h; simp; omega
              · simp
            have e2 : (if kR k = true then [(n : Int), (b : Int), (q : Int)] else []).length ≤ 3 := by split <;> simp
            have e3 : (if kT k = true then [(t : Int), (s : Int)] else []).length ≤ 2 := by split <;> simp
            have e4 : ([(k : Int)]).length = 1 := rfl
            omega
          cases hF : kS k
          · have HV : Hid ([(k : Int)] ++ (if kN k then (l.length : Int) :: l else []) ++ (if kR k then [(n : Int), (b : Int), (q : Int)] else []) ++ (if kT k then [(t : Int), (s : Int)] else []) ++ (if kS k then [(m : Int)] else []) = [(k : Int)] ++ (if kN k then (l.length : Int) :: l else []) ++ (if kR k then [(n : Int), (b : Int), (q : Int)] else []) ++ (if kT k then [(t : Int), (s : Int)] else [])) := by
              show _ = _
              rw [if_neg (by simp [hF] : ¬ (kS (k : Int) = true)), List.append_nil]
            clear hF
            go_wp2
            go_meet
            case rel => exact ⟨by rw [HV.out]; exact HR.out, HBc.out⟩
          · have HV : Hid ([(k : Int)] ++ (if kN k then (l.length : Int) :: l else []) ++ (if kR k then [(n : Int), (b : Int), (q : Int)] else []) ++ (if kT k then [(t : Int), (s : Int)] else []) ++ (if kS k then [(m : Int)] else []) = [(k : Int)] ++ (if kN k then (l.length : Int) :: l else []) ++ (if kR k then [(n : Int), (b : Int), (q : Int)] else []) ++ (if kT k then [(t : Int), (s : Int)] else []) ++ [(m : Int)]) := by
              show _ = _
              rw [if_pos hF]
            clear hF
            have hln := HLN.out
            go_wp2_with (at_builtin; refine app_lits (w0 := W) B rfl _ _ rfl _ ([(k : Int)] ++ (if kN k then (l.length : Int) :: l else []) ++ (if kR k then [(n : Int), (b : Int), (q : Int)] else []) ++ (if kT k then [(t : Int), (s : Int)] else [])) ([(m : Int)]) rfl rfl rfl HR.out HBc.out hzc (by simp only [List.length_cons, List.length_nil]; omega) ?_; intro v1 w1 ho1 hB1; have HO1 := Lib.hid ho1; have HB1 := Lib.hid hB1; clear ho1 hB1)
            go_meet
            case rel => exact ⟨by rw [HV.out]; exact HO1.out, HB1.out⟩
        case rest =>
          clear c0 c1 c2 c3 c4 c5 c6 c7 d0 d1 d2 d3 d4 hbc hwc
          clear HR HBc hzc
          obtain ⟨hrow, hBc⟩ := hcut
          have e4 : ([(k : Int)] ++ (if kN k then (l.length : Int) :: l else []) ++ (if kR k then [(n : Int), (b : Int), (q : Int)] else []) ++ (if kT k then [(t : Int), (s : Int)] else []) ++ (if kS k then [(m : Int)] else [])) = numsL k n t l b q s m := rfl
          rw [e4] at hrow
          have hlen : (numsL (k : Int) n t l b q s m).length ≤ 100 := by
            unfold numsL
            repeat' rw [List.length_append]
            have e1 : (if kN k = true then (l.length : Int) :: l else []).length ≤ 8 := by
              split
              · rename_i h; have := HL7.out h; simp; omega
              · simp
            have e2 : (if kR k = true then [(n : Int), (b : Int), (q : Int)] else []).length ≤ 3 := by split <;> simp
            have e3 : (if kT k = true then [(t : Int), (s : Int)] else []).length ≤ 2 := by split <;> simp
            have e5 : (if kS k = true then [(m : Int)] else []).length ≤ 1 := by split <;> simp
            have e4 : ([(k : Int)]).length = 1 := rfl
            omega
          have hnat : ∀ z ∈ numsL (k : Int) n t l b q s m, 0 ≤ z ∧ z < 18446744073709551616 := by
            intro z hz
            simp only [numsL, List.mem_append] at hz
            rcases hz with (((hz | hz) | hz) | hz) | hz
            · simp at hz; have := HK.out; omega
            · split at hz
              · rename_i h
                have h7 := HL7.out h
                rcases List.mem_cons.1 hz with e | hz
                · omega
                · obtain ⟨i, hi, e⟩ := List.getElem_of_mem hz
                  have := set_mem (HST.out h) hi
                  omega
              · cases hz
            · split at hz
              · simp at hz; have := HN.out; have := HBB.out; have := HQ.out; omega
              · cases hz
            · split at hz
              · simp at hz; have := HT.out; have := HS.out; omega
              · cases hz
            · split at hz
              · simp at hz; have := HM.out; omega
              · cases hz
          obtain ⟨-, -, hgc, hzc⟩ := HCM.out _ hBc
          generalize numsL (k : Int) n t l b q s m = L at hrow hlen hnat HENC
          have HNAT := Lib.hid hnat
          obtain ⟨A9, c9, rfl, hin9⟩ := InN.own (k := .u64) (l := L) hrow (fun z hz => wf_of_u64 (hnat z hz).1 (hnat z hz).2) (by omega)
          have HI9 := Lib.hid hin9
          have HGC := Lib.hid hgc
          clear hrow hnat hin9 hgc hBc hzc e4 HCM HL7 HST HK HN HT HBB HQ HS HM HIN
          go_wp2_with fail
          have hnil : Own8 wc wc.heap.size (.slice none 0 0) [] := own_nil _ _ _ _
          have HNIL := Lib.hid hnil
          clear hnil
          go_loopw [9, 11, 77] (fun x z i wr => ∃ j : Nat, j ≤ L.length ∧ i = .int .i64 j ∧ Own8 wr wc.heap.size x (numsB (L.take j)) ∧ Below wc.heap.size wc wr) (fun _ _ i _ => L.length - (intOf i).toNat)
          case atStart => exact ⟨0, by omega, rfl, HNIL.out, Below.refl _ _⟩
          case round =>
            clear HNIL
            obtain ⟨j, hj, rfl, hrow, hB9⟩ := hrel
            have HR := Lib.hid hrow
            have HB9 := Lib.hid hB9
            clear hrow
            by_cases hlt : j < L.length
            · obtain ⟨ba, off, rfl, hcell⟩ := (HI9.out.keep hB9).all (by omega)
              have hck := hcell j hlt
              have hmem := HNAT.out _ (List.getElem_mem hlt)
              have HTK := Lib.hid (numsB_take_succ L hlt)
              have hn9 := numsB_le (L.take j)
              rw [List.length_take, Nat.min_eq_left (by omega)] at hn9
              clear hcell hB9
              obtain ⟨z, hz⟩ : ∃ z, L[j] = z := ⟨_, rfl⟩
              rw [hz] at hck hmem HTK
              clear hz
              obtain ⟨y, rfl⟩ : ∃ y : Nat, z = (y : Int) := ⟨z.toNat, by omega⟩
              have hyy : y < 18446744073709551616 := by omega
              have CY := CN y hyy
              clear hyy hmem
              have hy9 := numB_le y
              rw [Int.toNat_natCast] at HTK
              go_wp2_with fail
              refine (CY _).out.mono ?_
              rintro e w5 ⟨v5, rfl, ho5, hB5⟩
              have HO5 := Lib.hid (own_below HR.out hB5)
              have HX5 := Lib.hid ho5
              have HB5 := Lib.hid (HB9.out.trans (hB5.mono HB9.out.size))
              clear ho5 hB5
              go_wp2_with (at_builtin; refine app_row (w0 := wc) wc.heap.size rfl _ _ rfl _ (numsB (L.take j)) rfl _ _ _ rfl HO5.out HX5.out HB5.out HB5.out.size (by omega) ?_; intro v6 w6 ho6 hB6 _)
              have HO6 := Lib.hid ho6
              have HB6 := Lib.hid hB6
              clear ho6 hB6
              go_roundw
              case rel => exact ⟨j + 1, by omega, by go_num, by rw [HTK.out]; exact HO6.out, HB6.out⟩
              case measure => simp [intOf]; omega
            · obtain rfl : j = L.length := by omega
              clear hB9
              go_wp2
              go_ret2
              have hge := HGC.out.size
              refine ⟨_, rfl, ?_, ?_⟩
              · rw [← HENC.out, hg]
                have := HR.out
                rw [List.take_length] at this
                exact own_lower this (by omega)
              · rw [hg]
                exact HGC.out.trans (HB9.out.mono (by omega))
end Go.Proofs.Ytnpodnieahokjaa
