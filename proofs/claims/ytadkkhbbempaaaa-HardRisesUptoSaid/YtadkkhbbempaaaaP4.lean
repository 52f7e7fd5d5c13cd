/- Texts drawn together (12 of them): words, plain laws and walks that the row leans on. -/
import Derived.Test.YtadkkhbbempaaaaP3
import Derived.Test.YtadkkhbbempaaaaP1
import Derived.Lib.ConvBytes
import Derived.Lib.AtoiErrMem
import Derived.Test.YtadkkhbbempaaaaP2
import Derived.Deep.RegionHeld3
import Derived.Deep.RegionLaw
/- Walks over commands: the code's Encode. -/
namespace Go.Proofs.Ytadkkhbbempaaaa
set_option maxRecDepth 100000
open Go.RowKit

theorem info_u64 : (Try.prog.info? 22).map (fun i => (i.zero, i.size, i.bytes)) = some (some (.int .u64 0), 1, 8) := by kernel_rfl
/-- Numbers of 64 bits in a row of the call's own. -/
def OwnU (w : World) (base : Nat) (v : Value) (l : List Int) : Prop := OwnN .u64 22 w base v l
/-- append(b, x, ..): the numbers lie in a block just made. -/
theorem app_lits {ops : Array Oper} {rest : List Oper} {o : Oper} {a : Act} {Q : Exit → Act → World → Prop} {w0 W : World} {cs : Array Value} (base : Nat) (hgd : o.guard = none) (s x : Operand)
    (ho : o.op = .call { callee := .builtin .append, args := #[s, x], argTypes := #[118, 118] })
    (v : Value) (l news : List Int) (hs : a.eval s = v) (hcs : cs = (nums .u64 news).toArray) (hx : a.eval x = .slice (some ⟨W.heap.size, 0, none⟩) news.length news.length) (HO : OwnU W base v l) (HB : Below base w0 W) (hbase : base ≤ W.heap.size) (hl : l.length + news.length ≤ 1000000)
    (h : ∀ v1 w1, OwnU w1 base v1 (l ++ news) → Below base w0 w1 → wpList Try.prog ops Q rest (a.put o.dst v1) w1) : wpList Try.prog ops Q (o :: rest) a (W.alloc (.cells cs 22)) := by
  have hr : Reads (W.alloc (.cells cs 22)) (W.heap.size + 1) 1 (some ⟨W.heap.size, 0, none⟩) news.length (nums .u64 news) := by
    subst hcs
    refine ⟨by simp [nums], fun h => ⟨W.heap.size, 0, rfl, by omega, fun j u hu => ?_⟩⟩
    rw [Nat.zero_add, World.cell?_alloc_mark]
    simpa using hu
  refine app_own (w0 := w0) base hgd s x 118 22 (.int .u64 0) 8 ho Try.underlying118 1 info_u64 rfl (by omega) (by omega) v (nums .u64 l) l.length hs (W.heap.size + 1) _ _ _ (nums .u64 news) hx (World.ownsRow.alloc HO _) hr (nums_one_cell .u64 news) (HB.alloc hbase _) (by simp; omega) (by omega) ?_
  intro v1 w1 ho1 hB1 _ _
  refine h v1 w1 ?_ hB1
  unfold OwnU OwnN
  rw [List.length_append, nums_append]
  exact ho1

theorem wf_of_u64 {z : Int} (h1 : 0 ≤ z) (h2 : z < 18446744073709551616) : (Lit.int .u64 z).wf = true := by
  simp [Lit.wf, IntKind.min, IntKind.max, IntKind.bits, IntKind.signed]
  omega
/-- A command's numbers, in order. -/
def numsL (k n t : Int) (l : List Int) (b q s m : Int) : List Int :=
  [k] ++ (if kN k then (l.length : Int) :: l else []) ++ (if kR k then [n, b, q] else []) ++ (if kT k then [t, s] else []) ++ (if kS k then [m] else [])

set_option maxRecDepth 100000 in
set_option maxHeartbeats 4000000 in
theorem cmd_Encode_ok (w : World) (k n t : Nat) (A : Option Addr) (c : Nat) (l : List Int) (b q s m : Nat) (h : InN .i64 w A c l) (hk : k < 9223372036854775808) (hn : n < 9223372036854775808) (ht : t < 9223372036854775808)
    (hb : b < 18446744073709551616) (hq : q < 18446744073709551616) (hs : s < 18446744073709551616) (hm : m < 18446744073709551616) (hset : kN k = true → IsSet l)
    (C0 : ∀ W, InN .i64 W A c l → Calls Try.prog 34 #[cmdV k n t (.slice A l.length c) b q s m] W fun e w' => e = .returned (.int .i64 0) ∧ Below W.heap.size W w') :
    Calls Try.prog 49 #[cmdV k n t (.slice A l.length c) b q s m] w fun e w' => ∃ v, e = .returned (.tuple #[v, .int .i64 0]) ∧ Own8 w' w.heap.size v (numsB (numsL k n t l b q s m)) ∧ Below w.heap.size w w' := by
  have C0 := fun W hin => Lib.hid (C0 W hin)
  have C1 := fun W => Lib.hid (cmd_of_any W k)
  have wk : IntKind.u64.wrap (k : Int) = (k : Int) := by simp [IntKind.wrap_u64]; omega
  have wn : IntKind.u64.wrap (n : Int) = (n : Int) := by simp [IntKind.wrap_u64]; omega
  have wt : IntKind.u64.wrap (t : Int) = (t : Int) := by simp [IntKind.wrap_u64]; omega
  have CN := fun x hx w => Lib.hid (num_any x hx w)
  have HIN := Lib.hid h
  have HST := Lib.hid hset
  have HK := Lib.hid (show k < 18446744073709551616 by omega)
  have HN := Lib.hid (show n < 18446744073709551616 by omega)
  have HT := Lib.hid (show t < 18446744073709551616 by omega)
  have HBB := Lib.hid hb
  have HQ := Lib.hid hq
  have HS := Lib.hid hs
  have HM := Lib.hid hm
  obtain ⟨enc, henc⟩ : ∃ enc, numsB (numsL k n t l b q s m) = enc := ⟨_, rfl⟩
  have HENC := Lib.hid henc
  rw [henc]
  clear henc hset h hk hn ht hb hq hs hm
  obtain ⟨g, hg⟩ : ∃ g, w.heap.size = g := ⟨_, rfl⟩
  have hb0 : Blk (w.alloc (.cells (cmdCells k n t (.slice A l.length c) b q s m) 44)) g 44 (cmdCells k n t (.slice A l.length c) b q s m) := hg ▸ Blk.new _ _ _
  have hB0 : Below g w (w.alloc (.cells (cmdCells k n t (.slice A l.length c) b q s m) 44)) := (Below.refl _ _).alloc (by omega) _
  simp only [cmdV]
  go_enter Try.func49, Try.ntmps49
  go_wp2_with fail
  refine (C0 _ (HIN.out.keep (by rw [hg]; exact hB0))).out.mono ?_
  rintro e w1 ⟨rfl, hB1⟩
  have hb1 := hb0.below hB1 hb0.lt
  have hBw1 : Below g w w1 := hB0.trans (hB1.mono (Nat.le_of_lt hb0.lt))
  clear hb0 hB0 hB1
  obtain ⟨c0, c1, c2, c3, c4, c5, c6, c7⟩ := hb1.cmd
  go_wp2_with fail
  refine (C1 _).out.mono ?_
  rintro e w2 ⟨rfl, hB2⟩
  clear c0 c1 c2 c3 c4 c5 c6 c7
  unfold which
  have hb2 := hb1.below hB2 hb1.lt
  have hBw2 : Below g w w2 := hBw1.trans (hB2.mono (Nat.le_of_lt hb1.lt))
  obtain ⟨g1, hg1⟩ : ∃ g1, w2.heap.size = g1 := ⟨_, rfl⟩
  have hlt : g < g1 := hg1 ▸ hb2.lt
  have hb3 := hb2.alloc (.cells #[.bool (kN k), .bool (kR k), .bool (kT k), .bool (kS k), .bool (kI k)] 103)
  have hw3 : Blk (w2.alloc (.cells #[.bool (kN k), .bool (kR k), .bool (kT k), .bool (kS k), .bool (kI k)] 103)) g1 103 _ := hg1 ▸ Blk.new _ _ _
  have hBw3 : Below g w (w2.alloc (.cells #[.bool (kN k), .bool (kR k), .bool (kT k), .bool (kS k), .bool (kI k)] 103)) := hBw2.alloc (by omega) _
  clear hb1 hBw1 hB2 hb2 hBw2
  go_upto_region 5 with (fail)
  generalize w2.alloc (.cells #[.bool (kN k), .bool (kR k), .bool (kT k), .bool (kS k), .bool (kI k)] 103) = W at hb3 hw3 hBw3 ⊢
  clear hg1
  obtain ⟨B, hB⟩ : ∃ B, W.heap.size = B := ⟨_, rfl⟩
  have hgB : g1 < B := hB ▸ hw3.lt
  have hlit : OwnU (W.alloc (.cells #[.int .u64 k] 22)) B (.slice (some ⟨B, 0, none⟩) 1 1) [(k : Int)] := by
    have := own_lit1 W B 22 (.int .u64 k) (by omega)
    rw [hB] at this
    exact this
  have hBl : Below B W (W.alloc (.cells #[.int .u64 k] 22)) := (Below.refl _ _).alloc (by omega) _
  have HL := Lib.hid hlit
  have HBL := Lib.hid hBl
  have HCM : Hid (∀ wx, Below B W wx → Blk wx g 44 (cmdCells k n t (.slice A l.length c) b q s m) ∧ Blk wx g1 103 #[.bool (kN k), .bool (kR k), .bool (kT k), .bool (kS k), .bool (kI k)] ∧ Below g w wx ∧ B ≤ wx.heap.size) :=
    fun wx hx => ⟨hb3.below hx (by omega), hw3.below hx (by omega), hBw3.trans (hx.mono (by omega)), by have := hx.size; omega⟩
  clear hlit hBl
  obtain ⟨c0, c1, c2, c3, c4, c5, c6, c7⟩ := hb3.cmd
  clear hb3 hw3 hBw3 C0 C1
  go_upto_region 6 with (fail)
  generalize W.alloc (.cells #[.int .u64 k] 22) = W4 at HL HBL ⊢
  clear c0 c1 c2 c3 c4 c5 c6 c7
  obtain ⟨hbc, hwc, -, hzc⟩ := HCM.out _ (HBL.out)
  obtain ⟨c0, c1, c2, c3, c4, c5, c6, c7⟩ := hbc.cmd
  obtain ⟨d0, d1, d2, d3, d4⟩ := hwc.which
  have hl7 : kN k = true → l.length ≤ 7 := fun e => set_len (HST.out e)
  have HL7 := Lib.hid hl7
  clear hl7
  go_upto_if 25 with (fail)
  go_cut [6] (fun x wx => OwnU wx B x ([(k : Int)] ++ (if kN k then (l.length : Int) :: l else [])) ∧ Below B W wx)
  case first =>
    cases hN : kN k
    · have HV : Hid ([(k : Int)] ++ (if kN k then (l.length : Int) :: l else []) = [(k : Int)]) := by
        show _ = _
        simp [hN]
      go_wp2
      go_meet
      case rel => exact ⟨by rw [HV.out]; exact HL.out, HBL.out⟩
    · have HN1 := Lib.hid hN
      have h7 := HL7.out hN
      have wl : IntKind.u64.wrap (l.length : Int) = (l.length : Int) := by simp [IntKind.wrap_u64]; omega
      have hset := HST.out hN
      have HSE := Lib.hid hset
      clear hset hN
      have hcap := (HIN.out).cap
      go_wp2_with (at_builtin; refine app_lits (w0 := W) B rfl _ _ rfl _ [(k : Int)] [(l.length : Int)] rfl rfl rfl HL.out HBL.out hzc (by simp) ?_; intro v1 w1 ho1 hB1; have HO1 := Lib.hid ho1; have HB1 := Lib.hid hB1; clear ho1; clear c0 c1 c2 c3 c4 c5 c6 c7 d0 d1 d2 d3 d4 hbc hwc; obtain ⟨hbc, hwc, -, hzc⟩ := HCM.out _ (hB1); obtain ⟨c0, c1, c2, c3, c4, c5, c6, c7⟩ := hbc.cmd; obtain ⟨d0, d1, d2, d3, d4⟩ := hwc.which)
      clear hzc
      go_loopw [6, 8, 36] (fun x z i wr => ∃ j : Nat, j ≤ l.length ∧ i = .int .i64 j ∧ OwnU wr B x ([(k : Int)] ++ [(l.length : Int)] ++ l.take j) ∧ Below B W wr) (fun _ _ i _ => l.length - (intOf i).toNat)
      case atStart => exact ⟨0, by omega, rfl, by simpa using HO1.out, HB1.out⟩
      case round =>
        clear c0 c1 c2 c3 c4 c5 c6 c7 d0 d1 d2 d3 d4 hbc hwc
        clear HO1 HB1
        obtain ⟨j, hj, rfl, hrow, hB9⟩ := hrel
        have HR := Lib.hid hrow
        have HB9 := Lib.hid hB9
        clear hrow
        obtain ⟨-, -, hgw, hzz⟩ := HCM.out _ hB9
        by_cases hlt : j < l.length
        · obtain ⟨ba, off, rfl, hcell⟩ := (HIN.out.keep (by rw [hg]; exact hgw)).all (by omega)
          have hck := hcell j hlt
          have hmem := set_mem HSE.out hlt
          have HTK := Lib.hid (List.take_append_getElem hlt)
          clear hcell hB9 hgw
          obtain ⟨z, hz⟩ : ∃ z, l[j] = z := ⟨_, rfl⟩
          rw [hz] at hck hmem HTK
          clear hz
          have wz : IntKind.u64.wrap z = z := by simp [IntKind.wrap_u64]; omega
          go_wp2_with (at_builtin; refine app_lits (w0 := W) B rfl _ _ rfl _ ([(k : Int)] ++ [(l.length : Int)] ++ l.take j) [z] rfl rfl rfl HR.out HB9.out hzz (by simp; omega) ?_; intro v2 w2 ho2 hB2; have HO2 := Lib.hid ho2; have HB2 := Lib.hid hB2; clear ho2 hB2)
          go_roundw
          case rel => exact ⟨j + 1, by omega, by go_num, by rw [← HTK.out, ← List.append_assoc]; exact HO2.out, HB2.out⟩
          case measure => simp [intOf]; omega
        · obtain rfl : j = l.length := by omega
          clear hB9 hgw
          have HV : Hid ([(k : Int)] ++ (if kN k then (l.length : Int) :: l else []) = [(k : Int)] ++ [(l.length : Int)] ++ l) := by
            show _ = _
            simp [HN1.out]
          have HR2 := Lib.hid HR.out
          go_wp2
          go_meet
          case rel => exact ⟨by rw [HV.out]; simpa using HR.out, HB9.out⟩
  case rest =>
    clear c0 c1 c2 c3 c4 c5 c6 c7 d0 d1 d2 d3 d4 hbc hwc
    clear HL HBL
    obtain ⟨hrow, hBc⟩ := hcut
    have HR := Lib.hid hrow
    have HBc := Lib.hid hBc
    clear hrow hBc
    obtain ⟨hbc, hwc, -, hzc⟩ := HCM.out _ (HBc.out)
    obtain ⟨c0, c1, c2, c3, c4, c5, c6, c7⟩ := hbc.cmd
    obtain ⟨d0, d1, d2, d3, d4⟩ := hwc.which
    go_upto_if 47 with (fail)
    go_cut [6] (fun x wx => OwnU wx B x ([(k : Int)] ++ (if kN k then (l.length : Int) :: l else []) ++ (if kR k then [(n : Int), (b : Int), (q : Int)] else [])) ∧ Below B W wx)
    case first =>
      have HLN : Hid (([(k : Int)] ++ (if kN k then (l.length : Int) :: l else [])).length ≤ 100) := by
        show _ ≤ _
        have := HL7.out
        repeat' rw [List.length_append]
        have e1 : (if kN k = true then (l.length : Int) :: l else []).length ≤ 8 := by
          split
          · rename_i h; have := HL7.out h; simp; omega
          · simp
        have e2 : (if kR k = true then [(n : Int), (b : Int), (q : Int)] else []).length ≤ 3 := by split <;> simp
        have e3 : (if kT k = true then [(t : Int), (s : Int)] else []).length ≤ 2 := by split <;> simp
        have e4 : ([(k : Int)]).length = 1 := rfl
        omega
      cases hF : kR k
      · have HV : Hid ([(k : Int)] ++ (if kN k then (l.length : Int) :: l else []) ++ (if kR k then [(n : Int), (b : Int), (q : Int)] else []) = [(k : Int)] ++ (if kN k then (l.length : Int) :: l else [])) := by
          show _ = _
          rw [if_neg (by simp [hF] : ¬ (kR (k : Int) = true)), List.append_nil]
        clear hF
        go_wp2
        go_meet
        case rel => exact ⟨by rw [HV.out]; exact HR.out, HBc.out⟩
      · have HV : Hid ([(k : Int)] ++ (if kN k then (l.length : Int) :: l else []) ++ (if kR k then [(n : Int), (b : Int), (q : Int)] else []) = [(k : Int)] ++ (if kN k then (l.length : Int) :: l else []) ++ [(n : Int), (b : Int), (q : Int)]) := by
          show _ = _
          rw [if_pos hF]
        clear hF
        have hln := HLN.out
        go_wp2_with (at_builtin; refine app_lits (w0 := W) B rfl _ _ rfl _ ([(k : Int)] ++ (if kN k then (l.length : Int) :: l else [])) ([(n : Int), (b : Int), (q : Int)]) rfl rfl rfl HR.out HBc.out hzc (by simp only [List.length_cons, List.length_nil]; omega) ?_; intro v1 w1 ho1 hB1; have HO1 := Lib.hid ho1; have HB1 := Lib.hid hB1; clear ho1 hB1)
        go_meet
        case rel => exact ⟨by rw [HV.out]; exact HO1.out, HB1.out⟩
    case rest =>
      clear c0 c1 c2 c3 c4 c5 c6 c7 d0 d1 d2 d3 d4 hbc hwc
      clear HR HBc hzc
      obtain ⟨hrow, hBc⟩ := hcut
      have HR := Lib.hid hrow
      have HBc := Lib.hid hBc
      clear hrow hBc
      obtain ⟨hbc, hwc, -, hzc⟩ := HCM.out _ (HBc.out)
      obtain ⟨c0, c1, c2, c3, c4, c5, c6, c7⟩ := hbc.cmd
      obtain ⟨d0, d1, d2, d3, d4⟩ := hwc.which
      go_upto_if 59 with (fail)
      go_cut [6] (fun x wx => OwnU wx B x ([(k : Int)] ++ (if kN k then (l.length : Int) :: l else []) ++ (if kR k then [(n : Int), (b : Int), (q : Int)] else []) ++ (if kT k then [(t : Int), (s : Int)] else [])) ∧ Below B W wx)
      case first =>
        have HLN : Hid (([(k : Int)] ++ (if kN k then (l.length : Int) :: l else []) ++ (if kR k then [(n : Int), (b : Int), (q : Int)] else [])).length ≤ 100) := by
          show _ ≤ _
          have := HL7.out
          repeat' rw [List.length_append]
          have e1 : (if kN k = true then (l.length : Int) :: l else []).length ≤ 8 := by
            split
            · rename_i h; have := HL7.out h; simp; omega
            · simp
          have e2 : (if kR k = true then [(n : Int), (b : Int), (q : Int)] else []).length ≤ 3 := by split <;> simp
          have e3 : (if kT k = true then [(t : Int), (s : Int)] else []).length ≤ 2 := by split <;> simp
          have e4 : ([(k : Int)]).length = 1 := rfl
          omega
        cases hF : kT k
        · have HV : Hid ([(k : Int)] ++ (if kN k then (l.length : Int) :: l else []) ++ (if kR k then [(n : Int), (b : Int), (q : Int)] else []) ++ (if kT k then [(t : Int), (s : Int)] else []) = [(k : Int)] ++ (if kN k then (l.length : Int) :: l else []) ++ (if kR k then [(n : Int), (b : Int), (q : Int)] else [])) := by
            show _ = _
            rw [if_neg (by simp [hF] : ¬ (kT (k : Int) = true)), List.append_nil]
          clear hF
          go_wp2
          go_meet
          case rel => exact ⟨by rw [HV.out]; exact HR.out, HBc.out⟩
        · have HV : Hid ([(k : Int)] ++ (if kN k then (l.length : Int) :: l else []) ++ (if kR k then [(n : Int), (b : Int), (q : Int)] else []) ++ (if kT k then [(t : Int), (s : Int)] else []) = [(k : Int)] ++ (if kN k then (l.length : Int) :: l else []) ++ (if kR k then [(n : Int), (b : Int), (q : Int)] else []) ++ [(t : Int), (s : Int)]) := by
            show _ = _
            rw [if_pos hF]
          clear hF
          have hln := HLN.out
          go_wp2_with (at_builtin; refine app_lits (w0 := W) B rfl _ _ rfl _ ([(k : Int)] ++ (if kN k then (l.length : Int) :: l else []) ++ (if kR k then [(n : Int), (b : Int), (q : Int)] else [])) ([(t : Int), (s : Int)]) rfl rfl rfl HR.out HBc.out hzc (by simp only [List.length_cons, List.length_nil]; omega) ?_; intro v1 w1 ho1 hB1; have HO1 := Lib.hid ho1; have HB1 := Lib.hid hB1; clear ho1 hB1)
          go_meet
          case rel => exact ⟨by rw [HV.out]; exact HO1.out, HB1.out⟩
      case rest =>
        clear c0 c1 c2 c3 c4 c5 c6 c7 d0 d1 d2 d3 d4 hbc hwc
        clear HR HBc hzc
        obtain ⟨hrow, hBc⟩ := hcut
        have HR := Lib.hid hrow
        have HBc := Lib.hid hBc
        clear hrow hBc
        obtain ⟨hbc, hwc, -, hzc⟩ := HCM.out _ (HBc.out)
        obtain ⟨c0, c1, c2, c3, c4, c5, c6, c7⟩ := hbc.cmd
        obtain ⟨d0, d1, d2, d3, d4⟩ := hwc.which
        go_upto_if 69 with (fail)
        go_cut [6] (fun x wx => OwnU wx B x ([(k : Int)] ++ (if kN k then (l.length : Int) :: l else []) ++ (if kR k then [(n : Int), (b : Int), (q : Int)] else []) ++ (if kT k then [(t : Int), (s : Int)] else []) ++ (if kS k then [(m : Int)] else [])) ∧ Below B W wx)
        case first =>
          have HLN : Hid (([(k : Int)] ++ (if kN k then (l.length : Int) :: l else []) ++ (if kR k then [(n : Int), (b : Int), (q : Int)] else []) ++ (if kT k then [(t : Int), (s : Int)] else [])).length ≤ 100) := by
            show _ ≤ _
            have := HL7.out
            repeat' rw [List.length_append]
            have e1 : (if kN k = true then (l.length : Int) :: l else []).length ≤ 8 := by
              split
              · rename_i h; have := HL7.out h; simp; omega
              · simp
            have e2 : (if kR k = true then [(n : Int), (b : Int), (q : Int)] else []).length ≤ 3 := by split <;> simp
            have e3 : (if kT k = true then [(t : Int), (s : Int)] else []).length ≤ 2 := by split <;> simp
            have e4 : ([(k : Int)]).length = 1 := rfl
            omega
          cases hF : kS k
          · have HV : Hid ([(k : Int)] ++ (if kN k then (l.length : Int) :: l else []) ++ (if kR k then [(n : Int), (b : Int), (q : Int)] else []) ++ (if kT k then [(t : Int), (s : Int)] else []) ++ (if kS k then [(m : Int)] else []) = [(k : Int)] ++ (if kN k then (l.length : Int) :: l else []) ++ (if kR k then [(n : Int), (b : Int), (q : Int)] else []) ++ (if kT k then [(t : Int), (s : Int)] else [])) := by
              show _ = _
              rw [if_neg (by simp [hF] : ¬ (kS (k : Int) = true)), List.append_nil]
            clear hF
            go_wp2
            go_meet
            case rel => exact ⟨by rw [HV.out]; exact HR.out, HBc.out⟩
          · have HV : Hid ([(k : Int)] ++ (if kN k then (l.length : Int) :: l else []) ++ (if kR k then [(n : Int), (b : Int), (q : Int)] else []) ++ (if kT k then [(t : Int), (s : Int)] else []) ++ (if kS k then [(m : Int)] else []) = [(k : Int)] ++ (if kN k then (l.length : Int) :: l else []) ++ (if kR k then [(n : Int), (b : Int), (q : Int)] else []) ++ (if kT k then [(t : Int), (s : Int)] else []) ++ [(m : Int)]) := by
              show _ = _
              rw [if_pos hF]
            clear hF
            have hln := HLN.out
            go_wp2_with (at_builtin; refine app_lits (w0 := W) B rfl _ _ rfl _ ([(k : Int)] ++ (if kN k then (l.length : Int) :: l else []) ++ (if kR k then [(n : Int), (b : Int), (q : Int)] else []) ++ (if kT k then [(t : Int), (s : Int)] else [])) ([(m : Int)]) rfl rfl rfl HR.out HBc.out hzc (by simp only [List.length_cons, List.length_nil]; omega) ?_; intro v1 w1 ho1 hB1; have HO1 := Lib.hid ho1; have HB1 := Lib.hid hB1; clear ho1 hB1)
            go_meet
            case rel => exact ⟨by rw [HV.out]; exact HO1.out, HB1.out⟩
        case rest =>
          clear c0 c1 c2 c3 c4 c5 c6 c7 d0 d1 d2 d3 d4 hbc hwc
          clear HR HBc hzc
          obtain ⟨hrow, hBc⟩ := hcut
          have e4 : ([(k : Int)] ++ (if kN k then (l.length : Int) :: l else []) ++ (if kR k then [(n : Int), (b : Int), (q : Int)] else []) ++ (if kT k then [(t : Int), (s : Int)] else []) ++ (if kS k then [(m : Int)] else [])) = numsL k n t l b q s m := rfl
          rw [e4] at hrow
          have hlen : (numsL (k : Int) n t l b q s m).length ≤ 100 := by
            unfold numsL
            repeat' rw [List.length_append]
            have e1 : (if kN k = true then (l.length : Int) :: l else []).length ≤ 8 := by
              split
              · rename_i h; have := HL7.out h; simp; omega
              · simp
            have e2 : (if kR k = true then [(n : Int), (b : Int), (q : Int)] else []).length ≤ 3 := by split <;> simp
            have e3 : (if kT k = true then [(t : Int), (s : Int)] else []).length ≤ 2 := by split <;> simp
            have e5 : (if kS k = true then [(m : Int)] else []).length ≤ 1 := by split <;> simp
            have e4 : ([(k : Int)]).length = 1 := rfl
            omega
          have hnat : ∀ z ∈ numsL (k : Int) n t l b q s m, 0 ≤ z ∧ z < 18446744073709551616 := by
            intro z hz
            simp only [numsL, List.mem_append] at hz
            rcases hz with (((hz | hz) | hz) | hz) | hz
            · simp at hz; have := HK.out; omega
            · split at hz
              · rename_i h
                have h7 := HL7.out h
                rcases List.mem_cons.1 hz with e | hz
                · omega
                · obtain ⟨i, hi, e⟩ := List.getElem_of_mem hz
                  have := set_mem (HST.out h) hi
                  omega
              · cases hz
            · split at hz
              · simp at hz; have := HN.out; have := HBB.out; have := HQ.out; omega
              · cases hz
            · split at hz
              · simp at hz; have := HT.out; have := HS.out; omega
              · cases hz
            · split at hz
              · simp at hz; have := HM.out; omega
              · cases hz
          obtain ⟨-, -, hgc, hzc⟩ := HCM.out _ hBc
          generalize numsL (k : Int) n t l b q s m = L at hrow hlen hnat HENC
          have HNAT := Lib.hid hnat
          obtain ⟨A9, c9, rfl, hin9⟩ := InN.own (k := .u64) (l := L) hrow (fun z hz => wf_of_u64 (hnat z hz).1 (hnat z hz).2) (by omega)
          have HI9 := Lib.hid hin9
          have HGC := Lib.hid hgc
          clear hrow hnat hin9 hgc hBc hzc e4 HCM HL7 HST HK HN HT HBB HQ HS HM HIN
          go_wp2_with fail
          have hnil : Own8 wc wc.heap.size (.slice none 0 0) [] := own_nil _ _ _ _
          have HNIL := Lib.hid hnil
          clear hnil
          go_loopw [9, 11, 77] (fun x z i wr => ∃ j : Nat, j ≤ L.length ∧ i = .int .i64 j ∧ Own8 wr wc.heap.size x (numsB (L.take j)) ∧ Below wc.heap.size wc wr) (fun _ _ i _ => L.length - (intOf i).toNat)
          case atStart => exact ⟨0, by omega, rfl, HNIL.out, Below.refl _ _⟩
          case round =>
            clear HNIL
            obtain ⟨j, hj, rfl, hrow, hB9⟩ := hrel
            have HR := Lib.hid hrow
            have HB9 := Lib.hid hB9
            clear hrow
            by_cases hlt : j < L.length
            · obtain ⟨ba, off, rfl, hcell⟩ := (HI9.out.keep hB9).all (by omega)
              have hck := hcell j hlt
              have hmem := HNAT.out _ (List.getElem_mem hlt)
              have HTK := Lib.hid (numsB_take_succ L hlt)
              have hn9 := numsB_le (L.take j)
              rw [List.length_take, Nat.min_eq_left (by omega)] at hn9
              clear hcell hB9
              obtain ⟨z, hz⟩ : ∃ z, L[j] = z := ⟨_, rfl⟩
              rw [hz] at hck hmem HTK
              clear hz
              obtain ⟨y, rfl⟩ : ∃ y : Nat, z = (y : Int) := ⟨z.toNat, by omega⟩
              have hyy : y < 18446744073709551616 := by omega
              have CY := CN y hyy
              clear hyy hmem
              have hy9 := numB_le y
              rw [Int.toNat_natCast] at HTK
              go_wp2_with fail
              refine (CY _).out.mono ?_
              rintro e w5 ⟨v5, rfl, ho5, hB5⟩
              have HO5 := Lib.hid (own_below HR.out hB5)
              have HX5 := Lib.hid ho5
              have HB5 := Lib.hid (HB9.out.trans (hB5.mono HB9.out.size))
              clear ho5 hB5
              go_wp2_with (at_builtin; refine app_row (w0 := wc) wc.heap.size rfl _ _ rfl _ (numsB (L.take j)) rfl _ _ _ rfl HO5.out HX5.out HB5.out HB5.out.size (by omega) ?_; intro v6 w6 ho6 hB6 _)
              have HO6 := Lib.hid ho6
              have HB6 := Lib.hid hB6
              clear ho6 hB6
              go_roundw
              case rel => exact ⟨j + 1, by omega, by go_num, by rw [HTK.out]; exact HO6.out, HB6.out⟩
              case measure => simp [intOf]; omega
            · obtain rfl : j = L.length := by omega
              clear hB9
              go_wp2
              go_ret2
              have hge := HGC.out.size
              refine ⟨_, rfl, ?_, ?_⟩
              · rw [← HENC.out, hg]
                have := HR.out
                rw [List.take_length] at this
                exact own_lower this (by omega)
              · rw [hg]
                exact HGC.out.trans (HB9.out.mono (by omega))
end Go.Proofs.Ytadkkhbbempaaaa

/- The code's Encode of a command refuses. -/
namespace Go.Proofs.Ytadkkhbbempaaaa
set_option maxRecDepth 100000
open Go.RowKit

set_option maxRecDepth 100000 in
set_option maxHeartbeats 4000000 in
theorem cmd_Encode_bad (w : World) (k n t : Int) (A : Option Addr) (c : Nat) (l : List Int) (b q s m : Int) (h : InN .i64 w A c l)
    (C0 : ∀ W, InN .i64 W A c l → Calls Try.prog 34 #[cmdV k n t (.slice A l.length c) b q s m] W fun e w' => e = .returned (.int .i64 40) ∧ Below W.heap.size W w') :
    Calls Try.prog 49 #[cmdV k n t (.slice A l.length c) b q s m] w fun e w' => e = .returned (.tuple #[.slice none 0 0, .int .i64 40]) ∧ Below w.heap.size w w' := by
  have C0 := fun W hin => Lib.hid (C0 W hin)
  have HIN := Lib.hid h
  clear h
  obtain ⟨g, hg⟩ : ∃ g, w.heap.size = g := ⟨_, rfl⟩
  have hB0 : Below g w (w.alloc (.cells (cmdCells k n t (.slice A l.length c) b q s m) 44)) := (Below.refl _ _).alloc (by omega) _
  have hs0 : g ≤ (w.alloc (.cells (cmdCells k n t (.slice A l.length c) b q s m) 44)).heap.size := by simp; omega
  simp only [cmdV]
  go_enter Try.func49, Try.ntmps49
  go_wp2_with fail
  refine (C0 _ (HIN.out.keep (by rw [hg]; exact hB0))).out.mono ?_
  rintro e w1 ⟨rfl, hB1⟩
  have hBw1 := Lib.hid (hB0.trans (hB1.mono hs0))
  clear hB0 hs0 hB1
  go_wp2
  go_ret2
  exact ⟨rfl, by rw [hg]; exact hBw1.out⟩
end Go.Proofs.Ytadkkhbbempaaaa

/- Plain laws of commands' bytes: what is refused, and that the code's bytes are the document's. -/
namespace Go.Proofs.Ytadkkhbbempaaaa
set_option maxRecDepth 100000
open Go.RowKit

theorem ok_nats {k n t : Int} {l : List Int} {b q s m : Int} (h : codeOk k n t l b q s m = true) : 1 ≤ k ∧ k ≤ 6 ∧ 0 ≤ n ∧ n ≤ 7 ∧ 0 ≤ t ∧ t ≤ 65535 ∧ (kN k = true → IsSet l) ∧ (kN k = false → l = []) := by
  unfold codeOk at h
  simp only [Bool.and_eq_true] at h
  obtain ⟨⟨⟨⟨h1, h2⟩, h3⟩, h4⟩, _⟩ := h
  have hk : 1 ≤ k ∧ k ≤ 6 := by simpa [kI] using h1
  refine ⟨hk.1, hk.2, ?_, ?_, ?_, ?_, ?_, ?_⟩
  · unfold reqB reqZ at h3
    split at h3
    · simp at h3; omega
    · simp at h3; omega
  · unfold reqB reqZ at h3
    split at h3
    · simp at h3; omega
    · simp at h3; omega
  · unfold tokB tokZ at h4
    split at h4
    · simp at h4; omega
    · simp at h4; omega
  · unfold tokB tokZ at h4
    split at h4
    · simp at h4; omega
    · simp at h4; omega
  · intro hN
    simpa [listB, hN] using h2
  · intro hN
    simpa [listB, hN] using h2
end Go.Proofs.Ytadkkhbbempaaaa

/- Walks over commands: the document's Encode. -/
namespace Go.Proofs.Ytadkkhbbempaaaa
set_option maxRecDepth 100000
open Go.RowKit

theorem wf_of_i64 {z : Int} (h1 : -9223372036854775808 ≤ z) (h2 : z ≤ 9223372036854775807) : (Lit.int .i64 z).wf = true := by
  simp [Lit.wf, IntKind.min, IntKind.max, IntKind.bits, IntKind.signed]
  omega
/-- A field's bytes, by its letter. -/
def encL (n t : Nat) (l : List Int) (b q s m : Nat) (x : Int) : List Int :=
  if x = 108 then numB l.length ++ numsB l else if x = 110 then numB n else if x = 116 then numB t else if x = 98 then numB b else if x = 113 then numB q else if x = 115 then numB s else numB m
/-- A command's bytes, by the document. -/
def encB (k n t : Nat) (l : List Int) (b q s m : Nat) : List Int := numB k ++ (bytes (fld k)).flatMap (encL n t l b q s m)
theorem letters (k : Int) : ∀ x ∈ bytes (fld k), x = 108 ∨ x = 110 ∨ x = 116 ∨ x = 98 ∨ x = 113 ∨ x = 115 ∨ x = 109 := by
  intro x hx
  rcases kinds k with rfl | rfl | rfl | rfl | rfl | rfl | ⟨h1, h2, h3, h4, h5, h6⟩
  case inr.inr.inr.inr.inr.inr =>
    have e : fld k = ⟨#[]⟩ := by simp [fld, h2, h3, h4, h5, h6]
    rw [e] at hx
    simp [bytes] at hx
  all_goals
    simp [bytes, fld] at hx
    try omega
theorem fld_len (k : Int) : (fld k).size ≤ 5 := by
  unfold fld
  split
  · decide
  split
  · decide
  split
  · decide
  split <;> decide
theorem encL_le (n t : Nat) (l : List Int) (b q s m : Nat) (x : Int) (hl : l.length ≤ 7) : (encL n t l b q s m x).length ≤ 72 := by
  have h1 := numB_le l.length
  have h2 := numsB_le l
  have h3 := numB_le n
  have h4 := numB_le t
  have h5 := numB_le b
  have h6 := numB_le q
  have h7 := numB_le s
  have h8 := numB_le m
  unfold encL
  repeat (split; (first | (rw [List.length_append]; omega) | omega))
  omega
theorem flat_le (f : Int → List Int) (hf : ∀ x, (f x).length ≤ 72) (l : List Int) : (l.flatMap f).length ≤ 72 * l.length := by
  induction l with
  | nil => simp
  | cons z l ih =>
    rw [List.flatMap_cons, List.length_append, List.length_cons]
    have := hf z
    omega

set_option maxRecDepth 100000 in
set_option maxHeartbeats 4000000 in
theorem ref_Encode_ok (w : World) (k n t : Nat) (A : Option Addr) (c : Nat) (l : List Int) (b q s m : Nat) (h : InN .i64 w A c l) (hk : k < 9223372036854775808) (hn : n < 9223372036854775808) (ht : t < 9223372036854775808)
    (hb : b < 18446744073709551616) (hq : q < 18446744073709551616) (hs : s < 18446744073709551616) (hm : m < 18446744073709551616) (ok : (numsOk k n t b q s m && listOk k l) = true) :
    Calls Try.prog 52 #[cmdV k n t (.slice A l.length c) b q s m] w fun e w' => ∃ v, e = .returned (.tuple #[v, .int .i64 0]) ∧ Own8 w' w.heap.size v (encB k n t l b q s m) ∧ Below w.heap.size w w' := by
  have ok1 : numsOk k n t b q s m = true := by rw [Bool.and_eq_true] at ok; exact ok.1
  have ok2 : listOk k l = true := by rw [Bool.and_eq_true] at ok; exact ok.2
  have hset : hasB (fld k) 108 = true → IsSet l := fun h1 => by simpa [listOk, h1] using ok2
  have h7 : l.length ≤ 7 := by
    cases h1 : hasB (fld k) 108
    · have : l.length = 0 := by simpa [listOk, h1] using ok2
      omega
    · exact set_len (hset h1)
  have C0 := fun W hin => Lib.hid (ref_Check_any W k n t A c l b q s m hin (wf_of_i64 (by omega) (by omega)) (wf_of_i64 (by omega) (by omega)))
  rw [ok, show errCmd true = 0 from rfl] at C0
  have wk : IntKind.u64.wrap (k : Int) = (k : Int) := by simp [IntKind.wrap_u64]; omega
  have wn : IntKind.u64.wrap (n : Int) = (n : Int) := by simp [IntKind.wrap_u64]; omega
  have wt : IntKind.u64.wrap (t : Int) = (t : Int) := by simp [IntKind.wrap_u64]; omega
  have CN := fun x hx w => Lib.hid (refNum_any x hx w)
  have CF := fun W => Lib.hid (ref_fields_any W k)
  have HIN := Lib.hid h
  have HST := Lib.hid hset
  have H7 := Lib.hid h7
  have HK := Lib.hid (show k < 18446744073709551616 by omega)
  have HN := Lib.hid (show n < 18446744073709551616 by omega)
  have HT := Lib.hid (show t < 18446744073709551616 by omega)
  have HBB := Lib.hid hb
  have HQ := Lib.hid hq
  have HS := Lib.hid hs
  have HM := Lib.hid hm
  obtain ⟨enc, henc⟩ : ∃ enc, encB k n t l b q s m = enc := ⟨_, rfl⟩
  have HENC := Lib.hid henc
  rw [henc]
  clear henc ok ok1 ok2 hset h7 h hk hn ht hb hq hs hm
  obtain ⟨g, hg⟩ : ∃ g, w.heap.size = g := ⟨_, rfl⟩
  have hb0 : Blk (w.alloc (.cells (cmdCells k n t (.slice A l.length c) b q s m) 44)) g 44 (cmdCells k n t (.slice A l.length c) b q s m) := hg ▸ Blk.new _ _ _
  have hB0 : Below g w (w.alloc (.cells (cmdCells k n t (.slice A l.length c) b q s m) 44)) := (Below.refl _ _).alloc (by omega) _
  simp only [cmdV]
  go_enter Try.func52, Try.ntmps52
  go_wp2_with fail
  refine (C0 _ (HIN.out.keep (by rw [hg]; exact hB0))).out.mono ?_
  rintro e w1 ⟨rfl, hB1⟩
  have hb1 := hb0.below hB1 hb0.lt
  have hBw1 : Below g w w1 := hB0.trans (hB1.mono (Nat.le_of_lt hb0.lt))
  clear hb0 hB0 hB1
  obtain ⟨c0, c1, c2, c3, c4, c5, c6, c7⟩ := hb1.cmd
  go_wp2_with fail
  refine (CN k HK.out _).out.mono ?_
  rintro e w2 ⟨v1, rfl, ho1, hB2⟩
  clear c0 c1 c2 c3 c4 c5 c6 c7
  have hb2 := hb1.below hB2 hb1.lt
  have hBw2 : Below g w w2 := hBw1.trans (hB2.mono (Nat.le_of_lt hb1.lt))
  have hlt1 := hb1.lt
  have HO1 := Lib.hid ho1
  clear hb1 hBw1 hB2 ho1
  obtain ⟨c0, c1, c2, c3, c4, c5, c6, c7⟩ := hb2.cmd
  go_wp2_with fail
  refine (CF _).out.mono ?_
  rintro e w3 ⟨rfl, rfl⟩
  have kc := fun (s : ByteArray) => Lib.run_convert_string_bytes (P := Try.prog) w3 9 75 5 s Try.underlying9 Try.underlying75 Try.underlying5
  obtain ⟨gb, hgb⟩ : ∃ gb, w3.heap.size = gb := ⟨_, rfl⟩
  have hgg : g < gb := hgb ▸ hb2.lt
  have hB3 := Lib.bytesWorld_below w3 5 (fld k)
  have hb3 := hb2.below hB3 hb2.lt
  have hBw3 : Below g w (Lib.bytesWorld w3 5 (fld k)) := hBw2.trans (hB3.mono (Nat.le_of_lt hb2.lt))
  have HO3 := Lib.hid (own_below HO1.out hB3)
  have hlet : ∀ j (hj : j < (fld k).size), (Lib.bytesWorld w3 5 (fld k)).cell? ⟨gb, j, none⟩ = some (.int .u8 ((bytes (fld k))[j]'(by rw [bytes_length]; exact hj))) := fun j hj => by
    rw [← hgb, Lib.bytesWorld_cell w3 _ _ j hj]
    simp [bytes, List.getD_eq_getElem?_getD, Array.getElem?_eq_getElem (show j < (fld k).data.size from hj)]
  have hgl : gb < (Lib.bytesWorld w3 5 (fld k)).heap.size := by rw [Lib.bytesWorld_size]; omega
  have hown : v1.ownBlock ≠ some gb := fun e => by
    have := (World.ownsRow.lt HO1.out gb e).2
    omega
  have hown2 : some g ≠ v1.ownBlock := fun e => by
    have := (World.ownsRow.lt HO1.out g e.symm).1
    omega
  have hbase := World.ownsRow.lt HO1.out
  go_wp2_with fail
  generalize Lib.bytesWorld w3 5 (fld k) = W3 at hb3 hBw3 HO3 hlet hgl ⊢
  have HBX : Hid (∀ wr x, Grow W3 v1.ownBlock wr x → Blk wr g 44 (cmdCells k n t (.slice A l.length c) b q s m)) := fun wr x hG => (hG.grown.block g hb3.lt hown2).trans hb3
  have HLT : Hid (∀ wr x, Grow W3 v1.ownBlock wr x → ∀ j (hj : j < (fld k).size), wr.cell? ⟨gb, j, none⟩ = some (.int .u8 ((bytes (fld k))[j]'(by rw [bytes_length]; exact hj)))) :=
    fun wr x hG j hj => (World.cell?_of_block (hG.grown.block gb hgl (fun e => hown e.symm))).trans (hlet j hj)
  have HBW : Hid (∀ wr x, Grow W3 v1.ownBlock wr x → Below g w wr) := fun wr x hG => hBw3.trans (hG.below (by have := hb3.lt; omega) (fun i e => by have := (hbase i e).1; omega))
  have HSZ : Hid (∀ wr x, Grow W3 v1.ownBlock wr x → g ≤ wr.heap.size) := fun wr x hG => by have := hG.grown.size; have := hb3.lt; omega
  have hf5 := fld_len k
  have HOG : Hid (Own8 W3 g v1 (numB k)) := own_lower HO3.out (by omega)
  have HFL : Hid (∀ j, (((bytes (fld k)).take j).flatMap (encL n t l b q s m)).length ≤ 360) := by
    intro j
    have h1 := flat_le (encL n t l b q s m) (fun x => encL_le n t l b q s m x H7.out) ((bytes (fld k)).take j)
    have h2 : ((bytes (fld k)).take j).length ≤ 5 := by
      rw [List.length_take, bytes_length]
      omega
    omega
  have HTS : Hid (∀ j (hj : j < (bytes (fld k)).length), ((bytes (fld k)).take (j + 1)).flatMap (encL n t l b q s m) = ((bytes (fld k)).take j).flatMap (encL n t l b q s m) ++ encL n t l b q s m (bytes (fld k))[j]) := by
    intro j hj
    rw [← List.take_append_getElem hj, List.flatMap_append, List.flatMap_singleton]
  have HLX := Lib.hid (letters k)
  have HK9 := Lib.hid (numB_le k)
  have HR0 : Hid (Grow W3 v1.ownBlock W3 v1) := Grow.refl _ _
  obtain ⟨r1, hr1⟩ : ∃ r1, v1.ownBlock = r1 := ⟨_, rfl⟩
  rw [hr1] at HBX HLT HBW HSZ HR0
  clear hb3 hBw3 HO3 hlet hgl hown hown2 hbase HO1 hb2 hBw2 hB3 hr1 kc c0 c1 c2 c3 c4 c5 c6 c7 CF C0
  go_loopw [5, 9, 28] (fun x z i wr => ∃ j : Nat, j ≤ (fld k).size ∧ i = .int .i64 j ∧ Own8 wr g x (numB k ++ ((bytes (fld k)).take j).flatMap (encL n t l b q s m)) ∧ Grow W3 r1 wr x) (fun _ _ i _ => (fld k).size - (intOf i).toNat)
  case atStart => exact ⟨0, by omega, rfl, by simpa using HOG.out, HR0.out⟩
  case round =>
    clear HOG HR0
    obtain ⟨j, hj, rfl, hrow, hG⟩ := hrel
    have HR := Lib.hid hrow
    have HG := Lib.hid hG
    have HB := Lib.hid (HBW.out _ _ hG)
    have HZ := Lib.hid (HSZ.out _ _ hG)
    clear hrow
    by_cases hlt : j < (fld k).size
    · have hltb : j < (bytes (fld k)).length := by rw [bytes_length]; exact hlt
      have hcl := HLT.out _ _ hG j hlt
      have hlx := HLX.out _ (List.getElem_mem hltb)
      have hts := HTS.out j hltb
      have hfl := HFL.out j
      obtain ⟨c0, c1, c2, c3, c4, c5, c6, c7⟩ := (HBX.out _ _ hG).cmd
      obtain ⟨x, hx⟩ : ∃ x, (bytes (fld k))[j] = x := ⟨_, rfl⟩
      rw [hx] at hcl hlx hts
      have HX := Lib.hid hx
      have HTJ := Lib.hid hts
      have HMEM : Hid (x ∈ bytes (fld k)) := by
        show _ ∈ _
        rw [← hx]
        exact List.getElem_mem _
      clear hx hts hG
      rcases hlx with rfl | rfl | rfl | rfl | rfl | rfl | rfl
      · have hset := HST.out (by simp only [hasB, List.contains_eq_mem, decide_eq_true_eq]; exact HMEM.out)
        have CD := Lib.hid (fun wr v' A0 c0 lb (hlb : lb.length ≤ 1000000) (ho : Own8 wr g v' lb) (hz : g ≤ wr.heap.size) (hin : ∀ w', Below g wr w' → InN .i64 w' A0 c0 l) => ref_Nodes_any wr g v' lb A0 c0 l hset hlb ho hz hin)
        have HEQ : Hid (encL n t l b q s m 108 = numB l.length ++ numsB l) := by
          show _ = _
          simp [encL]
        clear hset
        go_wp2_with fail
        refine (CD.out _ _ A c _ (by rw [List.length_append]; have := HK9.out; omega) HR.out HZ.out (fun w' hw' => HIN.out.keep (by rw [hg]; exact HB.out.trans hw'))).mono ?_
        rintro e w5 ⟨v5, rfl, ho5, hB5, hG5⟩
        have HO5 := Lib.hid ho5
        have HG5 := Lib.hid (HG.out.then_ hG5)
        clear ho5 hB5 hG5
        go_wp2
        go_roundw
        case rel => exact ⟨j + 1, by omega, by go_num, by rw [HTJ.out, HEQ.out, ← List.append_assoc]; exact HO5.out, HG5.out⟩
        case measure => simp [intOf]; omega
      · have HEQ : Hid (encL n t l b q s m 110 = numB n) := by
          show _ = _
          simp [encL]
        have hn9 := numB_le n
        have CX := CN n HN.out
        go_wp2_with fail
        refine (CX _).out.mono ?_
        rintro e w5 ⟨v5, rfl, ho5, hB5⟩
        have HO5 := Lib.hid (own_below HR.out hB5)
        have HX5 := Lib.hid ho5
        have HB5 := Lib.hid (HB.out.trans (hB5.mono HZ.out))
        have HG5 := Lib.hid (HG.out.step hB5)
        have HZ5 := Lib.hid (Nat.le_trans HZ.out hB5.size)
        clear ho5 hB5 c0 c1 c2 c3 c4 c5 c6 c7
        go_wp2_with (at_builtin; refine app_row (w0 := w) g rfl _ _ rfl _ (numB k ++ ((bytes (fld k)).take j).flatMap (encL n t l b q s m)) rfl _ _ _ rfl HO5.out HX5.out HB5.out HZ5.out (by rw [List.length_append]; have := HK9.out; omega) ?_; intro v6 w6 ho6 hB6 hG6)
        have HO6 := Lib.hid ho6
        have HG6 := Lib.hid (hG6 _ _ HG5.out)
        clear ho6 hB6 hG6
        go_roundw
        case rel => exact ⟨j + 1, by omega, by go_num, by rw [HTJ.out, HEQ.out, ← List.append_assoc]; exact HO6.out, HG6.out⟩
        case measure => simp [intOf]; omega
      · have HEQ : Hid (encL n t l b q s m 116 = numB t) := by
          show _ = _
          simp [encL]
        have hn9 := numB_le t
        have CX := CN t HT.out
        go_wp2_with fail
        refine (CX _).out.mono ?_
        rintro e w5 ⟨v5, rfl, ho5, hB5⟩
        have HO5 := Lib.hid (own_below HR.out hB5)
        have HX5 := Lib.hid ho5
        have HB5 := Lib.hid (HB.out.trans (hB5.mono HZ.out))
        have HG5 := Lib.hid (HG.out.step hB5)
        have HZ5 := Lib.hid (Nat.le_trans HZ.out hB5.size)
        clear ho5 hB5 c0 c1 c2 c3 c4 c5 c6 c7
        go_wp2_with (at_builtin; refine app_row (w0 := w) g rfl _ _ rfl _ (numB k ++ ((bytes (fld k)).take j).flatMap (encL n t l b q s m)) rfl _ _ _ rfl HO5.out HX5.out HB5.out HZ5.out (by rw [List.length_append]; have := HK9.out; omega) ?_; intro v6 w6 ho6 hB6 hG6)
        have HO6 := Lib.hid ho6
        have HG6 := Lib.hid (hG6 _ _ HG5.out)
        clear ho6 hB6 hG6
        go_roundw
        case rel => exact ⟨j + 1, by omega, by go_num, by rw [HTJ.out, HEQ.out, ← List.append_assoc]; exact HO6.out, HG6.out⟩
        case measure => simp [intOf]; omega
      · have HEQ : Hid (encL n t l b q s m 98 = numB b) := by
          show _ = _
          simp [encL]
        have hn9 := numB_le b
        have CX := CN b HBB.out
        go_wp2_with fail
        refine (CX _).out.mono ?_
        rintro e w5 ⟨v5, rfl, ho5, hB5⟩
        have HO5 := Lib.hid (own_below HR.out hB5)
        have HX5 := Lib.hid ho5
        have HB5 := Lib.hid (HB.out.trans (hB5.mono HZ.out))
        have HG5 := Lib.hid (HG.out.step hB5)
        have HZ5 := Lib.hid (Nat.le_trans HZ.out hB5.size)
        clear ho5 hB5 c0 c1 c2 c3 c4 c5 c6 c7
        go_wp2_with (at_builtin; refine app_row (w0 := w) g rfl _ _ rfl _ (numB k ++ ((bytes (fld k)).take j).flatMap (encL n t l b q s m)) rfl _ _ _ rfl HO5.out HX5.out HB5.out HZ5.out (by rw [List.length_append]; have := HK9.out; omega) ?_; intro v6 w6 ho6 hB6 hG6)
        have HO6 := Lib.hid ho6
        have HG6 := Lib.hid (hG6 _ _ HG5.out)
        clear ho6 hB6 hG6
        go_roundw
        case rel => exact ⟨j + 1, by omega, by go_num, by rw [HTJ.out, HEQ.out, ← List.append_assoc]; exact HO6.out, HG6.out⟩
        case measure => simp [intOf]; omega
      · have HEQ : Hid (encL n t l b q s m 113 = numB q) := by
          show _ = _
          simp [encL]
        have hn9 := numB_le q
        have CX := CN q HQ.out
        go_wp2_with fail
        refine (CX _).out.mono ?_
        rintro e w5 ⟨v5, rfl, ho5, hB5⟩
        have HO5 := Lib.hid (own_below HR.out hB5)
        have HX5 := Lib.hid ho5
        have HB5 := Lib.hid (HB.out.trans (hB5.mono HZ.out))
        have HG5 := Lib.hid (HG.out.step hB5)
        have HZ5 := Lib.hid (Nat.le_trans HZ.out hB5.size)
        clear ho5 hB5 c0 c1 c2 c3 c4 c5 c6 c7
        go_wp2_with (at_builtin; refine app_row (w0 := w) g rfl _ _ rfl _ (numB k ++ ((bytes (fld k)).take j).flatMap (encL n t l b q s m)) rfl _ _ _ rfl HO5.out HX5.out HB5.out HZ5.out (by rw [List.length_append]; have := HK9.out; omega) ?_; intro v6 w6 ho6 hB6 hG6)
        have HO6 := Lib.hid ho6
        have HG6 := Lib.hid (hG6 _ _ HG5.out)
        clear ho6 hB6 hG6
        go_roundw
        case rel => exact ⟨j + 1, by omega, by go_num, by rw [HTJ.out, HEQ.out, ← List.append_assoc]; exact HO6.out, HG6.out⟩
        case measure => simp [intOf]; omega
      · have HEQ : Hid (encL n t l b q s m 115 = numB s) := by
          show _ = _
          simp [encL]
        have hn9 := numB_le s
        have CX := CN s HS.out
        go_wp2_with fail
        refine (CX _).out.mono ?_
        rintro e w5 ⟨v5, rfl, ho5, hB5⟩
        have HO5 := Lib.hid (own_below HR.out hB5)
        have HX5 := Lib.hid ho5
        have HB5 := Lib.hid (HB.out.trans (hB5.mono HZ.out))
        have HG5 := Lib.hid (HG.out.step hB5)
        have HZ5 := Lib.hid (Nat.le_trans HZ.out hB5.size)
        clear ho5 hB5 c0 c1 c2 c3 c4 c5 c6 c7
        go_wp2_with (at_builtin; refine app_row (w0 := w) g rfl _ _ rfl _ (numB k ++ ((bytes (fld k)).take j).flatMap (encL n t l b q s m)) rfl _ _ _ rfl HO5.out HX5.out HB5.out HZ5.out (by rw [List.length_append]; have := HK9.out; omega) ?_; intro v6 w6 ho6 hB6 hG6)
        have HO6 := Lib.hid ho6
        have HG6 := Lib.hid (hG6 _ _ HG5.out)
        clear ho6 hB6 hG6
        go_roundw
        case rel => exact ⟨j + 1, by omega, by go_num, by rw [HTJ.out, HEQ.out, ← List.append_assoc]; exact HO6.out, HG6.out⟩
        case measure => simp [intOf]; omega
      · have HEQ : Hid (encL n t l b q s m 109 = numB m) := by
          show _ = _
          simp [encL]
        have hn9 := numB_le m
        have CX := CN m HM.out
        go_wp2_with fail
        refine (CX _).out.mono ?_
        rintro e w5 ⟨v5, rfl, ho5, hB5⟩
        have HO5 := Lib.hid (own_below HR.out hB5)
        have HX5 := Lib.hid ho5
        have HB5 := Lib.hid (HB.out.trans (hB5.mono HZ.out))
        have HG5 := Lib.hid (HG.out.step hB5)
        have HZ5 := Lib.hid (Nat.le_trans HZ.out hB5.size)
        clear ho5 hB5 c0 c1 c2 c3 c4 c5 c6 c7
        go_wp2_with (at_builtin; refine app_row (w0 := w) g rfl _ _ rfl _ (numB k ++ ((bytes (fld k)).take j).flatMap (encL n t l b q s m)) rfl _ _ _ rfl HO5.out HX5.out HB5.out HZ5.out (by rw [List.length_append]; have := HK9.out; omega) ?_; intro v6 w6 ho6 hB6 hG6)
        have HO6 := Lib.hid ho6
        have HG6 := Lib.hid (hG6 _ _ HG5.out)
        clear ho6 hB6 hG6
        go_roundw
        case rel => exact ⟨j + 1, by omega, by go_num, by rw [HTJ.out, HEQ.out, ← List.append_assoc]; exact HO6.out, HG6.out⟩
        case measure => simp [intOf]; omega
    · obtain rfl : j = (fld k).size := by omega
      clear hG
      go_wp2
      go_ret2
      refine ⟨_, rfl, ?_, by rw [hg]; exact HB.out⟩
      rw [hg, ← HENC.out]
      have e : (bytes (fld k)).take (fld k).size = bytes (fld k) := List.take_of_length_le (by rw [bytes_length]; exact Nat.le_refl _)
      have := HR.out
      rw [e] at this
      exact this
end Go.Proofs.Ytadkkhbbempaaaa

/- Commands: both Encodes answer the same. -/
namespace Go.Proofs.Ytadkkhbbempaaaa
set_option maxRecDepth 100000
open Go.RowKit

theorem encs_eq (k n t : Nat) (l : List Int) (b q s m : Nat) (h : 1 ≤ k ∧ k ≤ 6) : encB k n t l b q s m = numsB (numsL k n t l b q s m) := by
  have hk : k = 1 ∨ k = 2 ∨ k = 3 ∨ k = 4 ∨ k = 5 ∨ k = 6 := by omega
  rcases hk with rfl | rfl | rfl | rfl | rfl | rfl <;> simp [encB, encL, numsB, numsL, fld, bytes, kN, kR, kT, kS]

set_option maxRecDepth 100000 in
set_option maxHeartbeats 4000000 in
theorem ref_Encode_bad (w : World) (k n t : Int) (A : Option Addr) (c : Nat) (l : List Int) (b q s m : Int) (h : InN .i64 w A c l)
    (C0 : ∀ W, InN .i64 W A c l → Calls Try.prog 37 #[cmdV k n t (.slice A l.length c) b q s m] W fun e w' => e = .returned (.int .i64 40) ∧ Below W.heap.size W w') :
    Calls Try.prog 52 #[cmdV k n t (.slice A l.length c) b q s m] w fun e w' => e = .returned (.tuple #[.slice none 0 0, .int .i64 40]) ∧ Below w.heap.size w w' := by
  have C0 := fun W hin => Lib.hid (C0 W hin)
  have HIN := Lib.hid h
  clear h
  obtain ⟨g, hg⟩ : ∃ g, w.heap.size = g := ⟨_, rfl⟩
  have hB0 : Below g w (w.alloc (.cells (cmdCells k n t (.slice A l.length c) b q s m) 44)) := (Below.refl _ _).alloc (by omega) _
  have hs0 : g ≤ (w.alloc (.cells (cmdCells k n t (.slice A l.length c) b q s m) 44)).heap.size := by simp; omega
  simp only [cmdV]
  go_enter Try.func52, Try.ntmps52
  go_wp2_with fail
  refine (C0 _ (HIN.out.keep (by rw [hg]; exact hB0))).out.mono ?_
  rintro e w1 ⟨rfl, hB1⟩
  have hBw1 := Lib.hid (hB0.trans (hB1.mono hs0))
  clear hB0 hs0 hB1
  go_wp2
  go_ret2
  exact ⟨rfl, by rw [hg]; exact hBw1.out⟩

/-- What both answer of any command: some bytes, an error. -/
theorem encs_any (k n t : Int) (A : Option Addr) (c : Nat) (l : List Int) (b q s m : Int)
    (hn : (Lit.int .i64 n).wf = true) (ht : (Lit.int .i64 t).wf = true) (hb : 0 ≤ b ∧ b < 18446744073709551616) (hq : 0 ≤ q ∧ q < 18446744073709551616) (hs : 0 ≤ s ∧ s < 18446744073709551616) (hm : 0 ≤ m ∧ m < 18446744073709551616) :
    ∃ (bs : List Int) (E : Int), Byt bs ∧ bs.length ≤ 1000 ∧
      (∀ W, InN .i64 W A c l → Calls Try.prog 49 #[cmdV k n t (.slice A l.length c) b q s m] W fun e w' => ∃ v, e = .returned (.tuple #[v, .int .i64 E]) ∧ Own8 w' W.heap.size v bs ∧ Below W.heap.size W w') ∧
      (∀ W, InN .i64 W A c l → Calls Try.prog 52 #[cmdV k n t (.slice A l.length c) b q s m] W fun e w' => ∃ v, e = .returned (.tuple #[v, .int .i64 E]) ∧ Own8 w' W.heap.size v bs ∧ Below W.heap.size W w') := by
  have he := codeOk_eq k n t l b q s m hb hq hs hm
  cases hok : codeOk k n t l b q s m
  · refine ⟨[], 40, Byt.nil, by simp, fun W hW => ?_, fun W hW => ?_⟩
    · refine (cmd_Encode_bad W k n t A c l b q s m hW (fun W hW => ?_)).mono (fun e w' hh => ⟨_, hh.1, own_nil _ _ _ _, hh.2⟩)
      have := cmd_Check_any W k n t A c l b q s m hW
      rw [hok] at this
      exact this
    · refine (ref_Encode_bad W k n t A c l b q s m hW (fun W hW => ?_)).mono (fun e w' hh => ⟨_, hh.1, own_nil _ _ _ _, hh.2⟩)
      have := ref_Check_any W k n t A c l b q s m hW hn ht
      rw [← he, hok] at this
      exact this
  · obtain ⟨k1, k6, n0, n7, t0, t6, hset, hnil⟩ := ok_nats hok
    obtain ⟨k, rfl⟩ : ∃ k' : Nat, k = (k' : Int) := ⟨k.toNat, by omega⟩
    obtain ⟨n, rfl⟩ : ∃ k' : Nat, n = (k' : Int) := ⟨n.toNat, by omega⟩
    obtain ⟨t, rfl⟩ : ∃ k' : Nat, t = (k' : Int) := ⟨t.toNat, by omega⟩
    obtain ⟨b, rfl⟩ : ∃ k' : Nat, b = (k' : Int) := ⟨b.toNat, by omega⟩
    obtain ⟨q, rfl⟩ : ∃ k' : Nat, q = (k' : Int) := ⟨q.toNat, by omega⟩
    obtain ⟨s, rfl⟩ : ∃ k' : Nat, s = (k' : Int) := ⟨s.toNat, by omega⟩
    obtain ⟨m, rfl⟩ : ∃ k' : Nat, m = (k' : Int) := ⟨m.toNat, by omega⟩
    have hl7 : l.length ≤ 7 := by
      cases hN : kN k
      · rw [hnil hN]; simp
      · exact set_len (hset hN)
    have hlen : (numsL (k : Int) n t l b q s m).length ≤ 100 := by
      unfold numsL
      repeat' rw [List.length_append]
      have e1 : (if kN k = true then (l.length : Int) :: l else []).length ≤ 8 := by split <;> simp <;> omega
      have e2 : (if kR k = true then [(n : Int), (b : Int), (q : Int)] else []).length ≤ 3 := by split <;> simp
      have e3 : (if kT k = true then [(t : Int), (s : Int)] else []).length ≤ 2 := by split <;> simp
      have e5 : (if kS k = true then [(m : Int)] else []).length ≤ 1 := by split <;> simp
      have e4 : ([(k : Int)]).length = 1 := rfl
      omega
    have hnb := numsB_le (numsL (k : Int) n t l b q s m)
    refine ⟨numsB (numsL k n t l b q s m), 0, numsB_byt _, by omega, fun W hW => ?_, fun W hW => ?_⟩
    · refine (cmd_Encode_ok W k n t A c l b q s m hW (by omega) (by omega) (by omega) (by omega) (by omega) (by omega) (by omega) hset (fun W hW => ?_))
      have := cmd_Check_any W k n t A c l b q s m hW
      rw [hok] at this
      exact this
    · rw [← encs_eq k n t l b q s m (by omega)]
      exact ref_Encode_ok W k n t A c l b q s m hW (by omega) (by omega) (by omega) (by omega) (by omega) (by omega) (by omega) (by rw [← he]; exact hok)
end Go.Proofs.Ytadkkhbbempaaaa

/- Snapshots' bytes: plain; the code's lay, the document's num. -/
namespace Go.Proofs.Ytadkkhbbempaaaa
set_option maxRecDepth 100000
open Go.RowKit

theorem InN.grown {k : IntKind} {w w' : World} {A : Option Addr} {c : Nat} {l : List Int} {r : Option Nat} (h : InN k w A c l) (hg : w.grownBy w' r) (hne : ∀ b off, A = some ⟨b, off, none⟩ → some b ≠ r) : InN k w' A c l := by
  refine ⟨⟨h.reads.1, fun h0 => ?_⟩, h.wf, h.cap, h.small⟩
  obtain ⟨b, off, e, hb, hc⟩ := h.reads.2 h0
  exact ⟨b, off, e, Nat.lt_of_lt_of_le hb hg.size, fun j u hu => (World.cell?_of_block (hg.block b hb (hne b off e))).trans (hc j u hu)⟩
/-- All of them are words. -/
def Wds (l : List Int) : Prop := ∀ z ∈ l, 0 ≤ z ∧ z < 18446744073709551616
theorem Wds.wfs {l : List Int} (h : Wds l) : Wfs .u64 l := fun z hz => by
  have := h z hz
  simp [Lit.wf, IntKind.min, IntKind.max, IntKind.bits, IntKind.signed]
  omega

set_option maxHeartbeats 1000000 in
theorem lay_any (w : World) (base : Nat) (v : Value) (lb : List Int) (A : Option Addr) (c : Nat) (l : List Int) (hlb : lb.length ≤ 1000000) (hl : l.length ≤ 10) (hu : Wds l) (ho : Own8 w base v lb) (hbase : base ≤ w.heap.size)
    (hin : ∀ w', w.grownBy w' v.ownBlock → InN .u64 w' A c l) :
    Calls Try.prog 85 #[v, .slice A l.length c] w fun e w' => ∃ v', e = .returned v' ∧ Own8 w' base v' (lb ++ numsB l) ∧ Grow w v.ownBlock w' v' := by
  have HIN := Lib.hid hin
  have hcap := (hin w (World.grownBy.refl _ _)).cap
  have CN := fun x hx w => Lib.hid (num_any x hx w)
  have HO := Lib.hid ho
  have HU := Lib.hid hu
  have hbs := own_base ho
  clear hin ho hu
  obtain ⟨A0, c0, rfl⟩ := own_slice HO.out
  obtain ⟨r0, hr0⟩ : ∃ r0, (Value.slice A0 lb.length c0).ownBlock = r0 := ⟨_, rfl⟩
  have hG0 : Grow w r0 w (Value.slice A0 lb.length c0) := hr0 ▸ Grow.refl _ _
  rw [hr0] at hbs HIN ⊢
  have HG0 := Lib.hid hG0
  have HBS := Lib.hid hbs
  clear hr0 hG0 hbs
  go_enter Try.func85, Try.ntmps85
  go_wp2_with fail
  go_loopw [0, 6, 9] (fun x z i wr => ∃ k : Nat, k ≤ l.length ∧ i = .int .i64 k ∧ Own8 wr base x (lb ++ numsB (l.take k)) ∧ Grow w r0 wr x) (fun _ _ i _ => l.length - (intOf i).toNat)
  case atStart => exact ⟨0, by omega, rfl, by simpa [numsB] using HO.out, HG0.out⟩
  case round =>
    clear HG0
    obtain ⟨k, hk, rfl, hrow, hG⟩ := hrel
    have HG := Lib.hid hG
    have HR := Lib.hid hrow
    have HB := Lib.hid (hG.below hbase HBS.out)
    clear hrow
    by_cases hlt : k < l.length
    · obtain ⟨b, off, rfl, hcell⟩ := (HIN.out _ hG.grown).all (by omega)
      have hck := hcell k hlt
      have hmem := HU.out _ (List.getElem_mem hlt)
      have HST := Lib.hid (numsB_take_succ l hlt)
      have hn9 := numsB_le (l.take k)
      rw [List.length_take, Nat.min_eq_left (by omega)] at hn9
      clear hcell hG
      obtain ⟨z, hz⟩ : ∃ z, l[k] = z := ⟨_, rfl⟩
      rw [hz] at hck hmem HST
      clear hz
      obtain ⟨n, rfl⟩ : ∃ n : Nat, z = (n : Int) := ⟨z.toNat, by omega⟩
      have C1 := CN n (by omega)
      have hnb := numB_le n
      rw [Int.toNat_natCast] at HST
      go_wp2_with fail
      refine (C1 _).out.mono ?_
      rintro e w1 ⟨v1, rfl, ho1, hB1⟩
      have HO1 := Lib.hid (own_below HR.out hB1)
      have HX1 := Lib.hid ho1
      have HB1 := Lib.hid (HB.out.trans (hB1.mono (Nat.le_trans hbase HB.out.size)))
      have HG1 := Lib.hid (HG.out.step hB1)
      clear ho1 hB1
      go_wp2_with (at_builtin; refine app_row (w0 := w) base rfl _ _ rfl _ (lb ++ numsB (l.take k)) rfl _ _ _ rfl HO1.out HX1.out HB1.out (Nat.le_trans hbase HB1.out.size) (by simp only [List.length_append]; omega) ?_; intro v2 w2 ho2 hB2 hG2)
      have HO2 := Lib.hid ho2
      have HG2 := Lib.hid (hG2 _ _ HG1.out)
      clear ho2 hB2 hG2
      go_roundw
      case rel => exact ⟨k + 1, by omega, by go_num, by rw [HST.out]; simpa using HO2.out, HG2.out⟩
      case measure => simp [intOf]; omega
    · obtain rfl : k = l.length := by omega
      clear hG
      go_wp2
      go_ret
      exact ⟨_, rfl, by simpa using HR.out, HG.out⟩

/-- lay(b, x, ..): the numbers lie in a block just made. -/
theorem lay_lit (wx : World) (base : Nat) (v : Value) (lb : List Int) (l : List Int) (cs : Array Value) (p n : Nat) (hp : p = wx.heap.size) (hn : n = l.length) (hcs : cs = (nums .u64 l).toArray) (hlb : lb.length ≤ 1000000) (hl : l.length ≤ 10) (hu : Wds l) (ho : Own8 wx base v lb) (hbase : base ≤ wx.heap.size) :
    Calls Try.prog 85 #[v, .slice (some ⟨p, 0, none⟩) n n] (wx.alloc (.cells cs 22)) fun e w' => ∃ v', e = .returned v' ∧ Own8 w' base v' (lb ++ numsB l) ∧ Grow wx v.ownBlock w' v' := by
  subst hp hn
  have hb : Below wx.heap.size wx (wx.alloc (.cells cs 22)) := (Below.refl _ _).alloc (Nat.le_refl _) _
  refine (lay_any (wx.alloc (.cells cs 22)) base v lb (some ⟨wx.heap.size, 0, none⟩) l.length l hlb hl hu (own_below ho hb) (Nat.le_trans hbase hb.size) (fun w' hg => ?_)).mono fun e w' ⟨v', he, h1, h2⟩ => ⟨v', he, h1, ?_⟩
  · refine (InN.lit wx l hu.wfs (by omega) cs (0, 0) hcs).grown hg (fun b off e hh => ?_)
    injection e with e
    injection e with e _ _
    subst e
    have := (World.ownsRow.lt ho wx.heap.size hh.symm).2
    omega
  · exact ((Grow.refl wx v).step hb).then_ h2

theorem r06_num_any (w : World) (base : Nat) (v : Value) (lb : List Int) (n : Nat) (hn : n < 18446744073709551616) (hlb : lb.length ≤ 1000000) (ho : Own8 w base v lb) (hbase : base ≤ w.heap.size) :
    Calls Try.prog 88 #[v, .int .u64 n] w fun e w' => ∃ v', e = .returned v' ∧ Own8 w' base v' (lb ++ numB n) ∧ Grow w v.ownBlock w' v' := by
  have C1 := fun w => Lib.hid (refNum_any n hn w)
  have hnb := numB_le n
  have HO := Lib.hid ho
  have HG := Lib.hid (Grow.refl w v)
  obtain ⟨A0, c0, rfl⟩ := own_slice ho
  clear ho
  go_enter Try.func88, Try.ntmps88
  go_wp2_with fail
  refine (C1 _).out.mono ?_
  rintro e w1 ⟨v1, rfl, ho1, hB1⟩
  have HO1 := Lib.hid (own_below HO.out hB1)
  have HX1 := Lib.hid ho1
  have HB1 := Lib.hid (hB1.mono hbase)
  have HG1 := Lib.hid (HG.out.step hB1)
  clear ho1 hB1
  go_wp2_with (at_builtin; refine app_row (w0 := w) base rfl _ _ rfl _ lb rfl _ _ _ rfl HO1.out HX1.out HB1.out (Nat.le_trans hbase HB1.out.size) (by omega) ?_; intro v2 w2 ho2 hB2 hG2)
  have HO2 := Lib.hid ho2
  have HG2 := Lib.hid (hG2 _ _ HG1.out)
  clear ho2 hB2 hG2
  go_ret
  exact ⟨_, rfl, HO2.out, HG2.out⟩

/-! ### Plain -/
def hdL (h : Hd) : List Int := [h.tok, h.nod, h.bt, h.ser, h.stp]
def lsL (x : Ls) : List Int := [x.nod, x.bt, x.sq, x.cod, x.tok, x.ser]
/-- A snapshot's numbers, in order. -/
def shotL (i t : Int) (ns : List Int) (lim nxt : Int) (hs : List Hd) (ls : List Ls) : List Int :=
  [i, t, (ns.length : Int)] ++ (ns ++ ([lim, nxt, (hs.length : Int)] ++ (hs.flatMap hdL ++ ([(ls.length : Int)] ++ ls.flatMap lsL))))
/-- A snapshot's bytes. -/
def shotB (i t : Int) (ns : List Int) (lim nxt : Int) (hs : List Hd) (ls : List Ls) : List Int := 83 :: numsB (shotL i t ns lim nxt hs ls)
theorem LssOk.len {lim nxt : Int} {ls : List Ls} (h : LssOk lim nxt ls ls.length) : ls.length ≤ 7 := by
  have hge : ∀ j (hj : j < ls.length), (j : Int) + 1 ≤ ls[j].nod := by
    intro j
    induction j with
    | zero =>
      intro hj
      have := (h 0 hj hj).nod1
      omega
    | succ j ih =>
      intro hj
      have h1 := ih (by omega)
      have h2 := (h (j + 1) hj hj).rise (by omega) (by omega)
      simp only [Nat.add_sub_cancel] at h2
      omega
  rcases Nat.eq_zero_or_pos ls.length with h0 | h0
  · omega
  · have h1 := hge (ls.length - 1) (by omega)
    have h2 := (h (ls.length - 1) (by omega) (by omega)).nod2
    omega
end Go.Proofs.Ytadkkhbbempaaaa

/- Snapshots' bytes: the code's Encode. -/
namespace Go.Proofs.Ytadkkhbbempaaaa
set_option maxRecDepth 100000
open Go.RowKit

/-- What stands while a snapshot is written: its cells, the ledger's, the bytes of the numbers L. -/
structure ENs (w : World) (g gl base : Nat) (SH LD : Array Value) (wx : World) (v : Value) (L : List Int) : Prop where
  sh : Blk wx g 29 SH
  led : Blk wx gl 27 LD
  own : Own8 wx base v (83 :: numsB L)
  bel : Below g w wx
  sz : base ≤ wx.heap.size
structure ENo (g gl base : Nat) : Prop where
  h1 : g < gl
  h2 : gl < base
section
variable {w : World} {g gl base : Nat} {SH LD : Array Value} {wx : World} {v : Value} {L : List Int}
theorem ENs.alloc (h : ENs w g gl base SH LD wx v L) (o : ENo g gl base) (ob : Obj) : ENs w g gl base SH LD (wx.alloc ob) v L := by
  have o1 := o.h1
  have o2 := o.h2
  have hz := h.sz
  have hb : Below wx.heap.size wx (wx.alloc ob) := (Below.refl _ _).alloc (Nat.le_refl _) _
  exact ⟨h.sh.alloc ob, h.led.alloc ob, own_below h.own hb, h.bel.trans (hb.mono (by omega)), Nat.le_trans hz hb.size⟩
theorem ENs.grow (h : ENs w g gl base SH LD wx v L) (o : ENo g gl base) {w1 : World} {v1 : Value} {L1 : List Int} (hg : Grow wx v.ownBlock w1 v1) (ho : Own8 w1 base v1 (83 :: numsB L1)) : ENs w g gl base SH LD w1 v1 L1 := by
  have o1 := o.h1
  have o2 := o.h2
  have hz := h.sz
  have hb := own_base h.own
  have hne : ∀ i, i < base → some i ≠ v.ownBlock := fun i hi hh => by have := hb i hh.symm; omega
  exact ⟨h.sh.grown hg.grown (hne _ (by omega)), h.led.grown hg.grown (hne _ (by omega)), ho, h.bel.grown hg.grown (by omega) (fun i hi => by have := hb i hi; omega), Nat.le_trans hz hg.grown.size⟩
theorem numsB_len (L : List Int) (hL : L.length ≤ 1000) : (83 :: numsB L).length ≤ 1000000 := by
  have := numsB_le L
  rw [List.length_cons]
  omega
theorem ENs.lay (h : ENs w g gl base SH LD wx v L) (o : ENo g gl base) (l : List Int) (cs : Array Value) (p n : Nat) (hp : p = wx.heap.size) (hn : n = l.length) (hcs : cs = (nums .u64 l).toArray) (hL : L.length ≤ 1000) (hl : l.length ≤ 10) (hu : Wds l) :
    Calls Try.prog 85 #[v, .slice (some ⟨p, 0, none⟩) n n] (wx.alloc (.cells cs 22)) fun e w' => ∃ v', e = .returned v' ∧ ENs w g gl base SH LD w' v' (L ++ l) :=
  (lay_lit wx base v (83 :: numsB L) l cs p n hp hn hcs (numsB_len L hL) hl hu h.own h.sz).mono fun _ _ ⟨v', he, h1, h2⟩ => ⟨v', he, h.grow o h2 (by rw [numsB_append]; exact h1)⟩
end
theorem flatI_len {α : Type} {f : α → List Int} {s : Nat} (hf : ∀ x, (f x).length = s) : ∀ l : List α, (l.flatMap f).length = l.length * s := by
  intro l
  induction l with
  | nil => simp
  | cons x l ih => rw [List.flatMap_cons, List.length_append, ih, hf, List.length_cons, Nat.add_mul, Nat.one_mul, Nat.add_comm]
/-- Numbers of a snapshot that may be. -/
structure ShNums (i t : Int) (ns : List Int) (lim nxt : Int) (hs : List Hd) (ls : List Ls) : Prop where
  i : 0 ≤ i ∧ i < 18446744073709551616
  t : 0 ≤ t ∧ t < 18446744073709551616
  nsl : ns.length ≤ 7
  ns : ∀ z ∈ ns, 1 ≤ z ∧ z ≤ 7
  lim : 1 ≤ lim ∧ lim ≤ 65535
  nxt : 0 ≤ nxt ∧ nxt < 18446744073709551616
  hsl : hs.length ≤ 64
  hs : ∀ h ∈ hs, (1 ≤ h.tok ∧ h.tok ≤ 65535) ∧ (1 ≤ h.nod ∧ h.nod ≤ 7) ∧ (0 ≤ h.bt ∧ h.bt < 18446744073709551616) ∧ (0 ≤ h.ser ∧ h.ser < 18446744073709551616) ∧ (0 ≤ h.stp ∧ h.stp < 18446744073709551616)
  lsl : ls.length ≤ 7
  ls : ∀ x ∈ ls, (1 ≤ x.nod ∧ x.nod ≤ 7) ∧ (0 ≤ x.bt ∧ x.bt < 18446744073709551616) ∧ (0 ≤ x.sq ∧ x.sq < 18446744073709551616) ∧ (1 ≤ x.cod ∧ x.cod ≤ 5) ∧ (0 ≤ x.tok ∧ x.tok ≤ 65535) ∧ (0 ≤ x.ser ∧ x.ser < 18446744073709551616)
theorem ShotOk.nums {i t : Int} {ns : List Int} {lim nxt : Int} {hs : List Hd} {ls : List Ls} (h : ShotOk i t ns lim nxt hs ls) (hi : 0 ≤ i ∧ i < 18446744073709551616) (ht : 0 ≤ t ∧ t < 18446744073709551616) (hnx : 0 ≤ nxt ∧ nxt < 18446744073709551616)
    (hw1 : ∀ h ∈ hs, h.Wf) (hw2 : ∀ x ∈ ls, x.Wf) : ShNums i t ns lim nxt hs ls := by
  have hl1 := h.led.head.l1
  have hl2 := h.led.head.l2
  refine ⟨hi, ht, set_len h.set, fun z hz => ?_, ⟨hl1, hl2⟩, hnx, h.led.head.len, fun x hx => ?_, h.led.lss.len, fun x hx => ?_⟩
  · obtain ⟨a, ha, rfl⟩ := List.getElem_of_mem hz
    exact set_mem h.set ha
  · have hw := hw1 x hx
    obtain ⟨a, ha, rfl⟩ := List.getElem_of_mem hx
    have k := h.led.hds a ha ha
    have := k.tok2
    exact ⟨⟨k.tok1, by omega⟩, ⟨k.nod1, k.nod2⟩, hw.bt, hw.ser, hw.stp⟩
  · have hw := hw2 x hx
    obtain ⟨a, ha, rfl⟩ := List.getElem_of_mem hx
    have k := h.led.lss a ha ha
    have ka := k.ans
    unfold ansOk at ka
    refine ⟨⟨k.nod1, k.nod2⟩, hw.bt, hw.sq, ?_⟩
    split at ka
    · rw [decide_eq_true_iff] at ka
      exact ⟨by omega, by omega, hw.ser⟩
    · rw [decide_eq_true_iff] at ka
      exact ⟨by omega, by omega, hw.ser⟩
theorem wrap_u {z : Int} (h1 : 0 ≤ z) (h2 : z < 18446744073709551616) : IntKind.u64.wrap z = z := by
  rw [IntKind.wrap_u64]
  omega

set_option maxRecDepth 100000 in
set_option maxHeartbeats 4000000 in
theorem shot_Encode_bad (w : World) (i t : Int) (An : Option Addr) (cn : Nat) (ns : List Int) (lim nxt : Int) (Ah : Option Addr) (ch : Nat) (hs : List Hd) (Al : Option Addr) (cl : Nat) (ls : List Ls) (hn : InN .i64 w An cn ns) (hh : InS hdC 5 w Ah ch hs) (hl : InS lsC 6 w Al cl ls)
    (hw1 : ∀ h ∈ hs, h.Wf) (hw2 : ∀ x ∈ ls, x.Wf) (hnx : nxt < 18446744073709551616) (bad : ¬ ShotOk i t ns lim nxt hs ls) :
    Calls Try.prog 50 #[shV i t (.slice An ns.length cn) lim nxt (.slice Ah hs.length ch) (.slice Al ls.length cl)] w fun e w' => e = .returned (.tuple #[.slice none 0 0, .int .i64 60]) ∧ Below w.heap.size w w' := by
  obtain ⟨g, hg⟩ : ∃ g, w.heap.size = g := ⟨_, rfl⟩
  rw [hg]
  have hBx : Below g w (w.alloc (.cells (shC i t (.slice An ns.length cn) lim nxt (.slice Ah hs.length ch) (.slice Al ls.length cl)) 29)) := (Below.refl _ _).alloc (by omega) _
  have hb1 : Blk (w.alloc (.cells (shC i t (.slice An ns.length cn) lim nxt (.slice Ah hs.length ch) (.slice Al ls.length cl)) 29)) g 29 (shC i t (.slice An ns.length cn) lim nxt (.slice Ah hs.length ch) (.slice Al ls.length cl)) := hg ▸ Blk.new _ _ _
  have HN := Lib.hid hn
  have HH := Lib.hid hh
  have HL := Lib.hid hl
  have CK := fun W h1 h2 h3 => shot_Check_any W i t An cn ns lim nxt Ah ch hs Al cl ls h1 h2 h3 hw1 hw2 hnx
  rw [shot_bad bad] at CK
  unfold shV at CK ⊢
  have CK := Lib.hid CK
  clear hn hh hl hw1 hw2 hnx bad
  go_enter Try.func50, Try.ntmps50
  go_upto_region 1 with (fail)
  change Code.wp _ _ _ _ (w.alloc (.cells (shC i t (.slice An ns.length cn) lim nxt (.slice Ah hs.length ch) (.slice Al ls.length cl)) 29))
  generalize (w.alloc (.cells (shC i t (.slice An ns.length cn) lim nxt (.slice Ah hs.length ch) (.slice Al ls.length cl)) 29)) = W at hb1 hBx ⊢
  try rw [hg]
  have X := Lib.hid (CK.out W (HN.out.keep (hg ▸ hBx)) (HH.out.keep (hg ▸ hBx)) (HL.out.keep (hg ▸ hBx)))
  obtain ⟨q0, q1, q2, q3, q4, q5, q6⟩ := hb1.sh
  go_wp2_with fail
  refine X.out.mono ?_
  rintro e w1 ⟨rfl, hB1⟩
  have HB1 := Lib.hid (hBx.trans (hB1.mono (Nat.le_of_lt hb1.lt)))
  clear q0 q1 q2 q3 q4 q5 q6 hb1 hBx hB1 X
  go_wp2
  go_ret2
  exact ⟨rfl, HB1.out⟩

set_option maxRecDepth 100000 in
set_option maxHeartbeats 8000000 in
theorem shot_Encode_ok (w : World) (i t : Int) (An : Option Addr) (cn : Nat) (ns : List Int) (lim nxt : Int) (Ah : Option Addr) (ch : Nat) (hs : List Hd) (Al : Option Addr) (cl : Nat) (ls : List Ls) (hn : InN .i64 w An cn ns) (hh : InS hdC 5 w Ah ch hs) (hl : InS lsC 6 w Al cl ls)
    (hw1 : ∀ h ∈ hs, h.Wf) (hw2 : ∀ x ∈ ls, x.Wf) (hnx : nxt < 18446744073709551616) (ok : ShotOk i t ns lim nxt hs ls) (nu : ShNums i t ns lim nxt hs ls) :
    Calls Try.prog 50 #[shV i t (.slice An ns.length cn) lim nxt (.slice Ah hs.length ch) (.slice Al ls.length cl)] w fun e w' => ∃ v, e = .returned (.tuple #[v, .int .i64 0]) ∧ Own8 w' w.heap.size v (shotB i t ns lim nxt hs ls) ∧ Below w.heap.size w w' := by
  obtain ⟨g, hg⟩ : ∃ g, w.heap.size = g := ⟨_, rfl⟩
  rw [hg]
  have hBx : Below g w (w.alloc (.cells (shC i t (.slice An ns.length cn) lim nxt (.slice Ah hs.length ch) (.slice Al ls.length cl)) 29)) := (Below.refl _ _).alloc (by omega) _
  have hb1 : Blk (w.alloc (.cells (shC i t (.slice An ns.length cn) lim nxt (.slice Ah hs.length ch) (.slice Al ls.length cl)) 29)) g 29 (shC i t (.slice An ns.length cn) lim nxt (.slice Ah hs.length ch) (.slice Al ls.length cl)) := hg ▸ Blk.new _ _ _
  have HN := Lib.hid hn
  have HH := Lib.hid hh
  have HL := Lib.hid hl
  have NU := Lib.hid nu
  have hnl := nu.nsl
  have hhl := nu.hsl
  have hll := nu.lsl
  have hcn := hn.cap
  have hch := hh.cap
  have hcl := hl.cap
  have CK := fun W h1 h2 h3 => shot_Check_any W i t An cn ns lim nxt Ah ch hs Al cl ls h1 h2 h3 hw1 hw2 hnx
  rw [decide_eq_true ok, show errShot true = 0 from rfl] at CK
  unfold shV at CK ⊢
  have CK := Lib.hid CK
  obtain ⟨SB, hSB⟩ : ∃ SB, shotB i t ns lim nxt hs ls = SB := ⟨_, rfl⟩
  have HSB := Lib.hid hSB
  rw [hSB]
  have wn : IntKind.u64.wrap (ns.length : Int) = (ns.length : Int) := wrap_u (by omega) (by omega)
  have wh : IntKind.u64.wrap (hs.length : Int) = (hs.length : Int) := wrap_u (by omega) (by omega)
  have wl : IntKind.u64.wrap (ls.length : Int) = (ls.length : Int) := wrap_u (by omega) (by omega)
  have wm : IntKind.u64.wrap lim = lim := wrap_u (by have := nu.lim; omega) (by have := nu.lim; omega)
  clear hn hh hl hw1 hw2 hnx ok nu hSB
  go_enter Try.func50, Try.ntmps50
  go_upto_region 1 with (fail)
  change Code.wp _ _ _ _ (w.alloc (.cells (shC i t (.slice An ns.length cn) lim nxt (.slice Ah hs.length ch) (.slice Al ls.length cl)) 29))
  generalize (w.alloc (.cells (shC i t (.slice An ns.length cn) lim nxt (.slice Ah hs.length ch) (.slice Al ls.length cl)) 29)) = W at hb1 hBx ⊢
  try rw [hg]
  have X := Lib.hid (CK.out W (HN.out.keep (hg ▸ hBx)) (HH.out.keep (hg ▸ hBx)) (HL.out.keep (hg ▸ hBx)))
  obtain ⟨q0, q1, q2, q3, q4, q5, q6⟩ := hb1.sh
  go_wp2_with fail
  refine X.out.mono ?_
  rintro e w1 ⟨rfl, hB1⟩
  have hb2 := hb1.below hB1 hb1.lt
  have hB2 := hBx.trans (hB1.mono (Nat.le_of_lt hb1.lt))
  clear q0 q1 q2 q3 q4 q5 q6 hb1 hBx hB1 X CK
  obtain ⟨gl, hgl⟩ : ∃ gl, w1.heap.size = gl := ⟨_, rfl⟩
  have hlt : g < gl := hgl ▸ hb2.lt
  have hb3 := hb2.alloc (.cells (ledC lim nxt (.slice Ah hs.length ch) (.slice Al ls.length cl)) 27)
  have hl3 : Blk (w1.alloc (.cells (ledC lim nxt (.slice Ah hs.length ch) (.slice Al ls.length cl)) 27)) gl 27 (ledC lim nxt (.slice Ah hs.length ch) (.slice Al ls.length cl)) := hgl ▸ Blk.new _ _ _
  have hB3 := hB2.alloc (by omega) (.cells (ledC lim nxt (.slice Ah hs.length ch) (.slice Al ls.length cl)) 27)
  obtain ⟨q0, q1, q2, q3, q4, q5, q6⟩ := hb2.sh
  go_upto_region 5 with (fail)
  change Code.wp _ _ _ _ (w1.alloc (.cells (ledC lim nxt (.slice Ah hs.length ch) (.slice Al ls.length cl)) 27))
  generalize (w1.alloc (.cells (ledC lim nxt (.slice Ah hs.length ch) (.slice Al ls.length cl)) 27)) = W2 at hb3 hl3 hB3 ⊢
  try rw [hgl]
  clear q0 q1 q2 q3 q4 q5 q6 hb2 hB2 hgl
  obtain ⟨B, hB⟩ : ∃ B, W2.heap.size = B := ⟨_, rfl⟩
  have hltB : gl < B := hB ▸ hl3.lt
  have HO : Hid (ENo g gl B) := ⟨hlt, hltB⟩
  have q0 : ∀ o, (W2.alloc o).cell? ⟨g, 0, none⟩ = some (.int .u64 i) := fun o => (hb3.alloc o).sh.z0
  have q1 : ∀ o, (W2.alloc o).cell? ⟨g, 1, none⟩ = some (.int .u64 t) := fun o => (hb3.alloc o).sh.z1
  have q2 : ∀ o, (W2.alloc o).cell? ⟨g, 2, none⟩ = some (.slice An ns.length cn) := fun o => (hb3.alloc o).sh.z2
  have hlit : Own8 (W2.alloc (.cells #[.int .u8 83] 5)) B (.slice (some ⟨B, 0, none⟩) 1 1) [83] := by
    have h := own_lit1 W2 B 5 (.int .u8 83) (by omega)
    rw [hB] at h
    exact h
  have E0 : Hid (ENs w g gl B (shC i t (.slice An ns.length cn) lim nxt (.slice Ah hs.length ch) (.slice Al ls.length cl)) (ledC lim nxt (.slice Ah hs.length ch) (.slice Al ls.length cl)) (W2.alloc (.cells #[.int .u8 83] 5)) (.slice (some ⟨B, 0, none⟩) 1 1) []) :=
    ⟨hb3.alloc _, hl3.alloc _, hlit, hB3.alloc (by omega) _, by simp; omega⟩
  have X0 := Lib.hid (E0.out.lay HO.out [i, t, (ns.length : Int)] #[.int .u64 i, .int .u64 t, .int .u64 (ns.length : Int)] (B + 1) 3 (by simp [hB]) rfl rfl (by simp) (by simp) (fun z hz => by
    have n := NU.out
    simp only [List.mem_cons, List.not_mem_nil, or_false] at hz
    rcases hz with rfl | rfl | rfl
    · exact n.i
    · exact n.t
    · omega))
  clear hlit hb3 hl3 hB3 E0
  go_wp2_with fail
  refine X0.out.mono ?_
  rintro e w4 ⟨v4, rfl, h4⟩
  have H4 := Lib.hid h4
  obtain ⟨x0, x1, x2, x3, x4, x5, x6⟩ := h4.sh.sh
  clear h4 q0 q1 q2 X0 hB
  go_wp2_with fail
  clear x0 x1 x2 x3 x4 x5 x6
  go_loopw [6, 8, 34] (fun x _ j wr => ∃ k : Nat, j = .int .i64 (k : Int) ∧ k ≤ ns.length ∧ ENs w g gl B (shC i t (.slice An ns.length cn) lim nxt (.slice Ah hs.length ch) (.slice Al ls.length cl)) (ledC lim nxt (.slice Ah hs.length ch) (.slice Al ls.length cl)) wr x ([i, t, (ns.length : Int)] ++ ns.take k)) (fun _ _ j _ => ns.length - (intOf j).toNat)
  case atStart => exact ⟨0, rfl, by omega, by simpa using H4.out⟩
  case round =>
    clear H4
    obtain ⟨k, rfl, hk, hst⟩ := hrel
    have HS := Lib.hid hst
    by_cases hlt : k < ns.length
    · obtain ⟨b, off, rfl, hcell⟩ := (HN.out.keep (hg ▸ hst.bel)).all (by omega)
      have hck := hcell k hlt
      have hmem := NU.out.ns _ (List.getElem_mem hlt)
      have htk := List.take_append_getElem hlt
      obtain ⟨z, hz⟩ : ∃ z, ns[k] = z := ⟨_, rfl⟩
      rw [hz] at hck hmem htk
      have HTK := Lib.hid htk
      have wz : IntKind.u64.wrap z = z := wrap_u (by omega) (by omega)
      have CX := Lib.hid (hst.lay HO.out [z] #[.int .u64 z] wr.heap.size 1 rfl rfl rfl (by simp; omega) (by simp) (fun y hy => by
        simp only [List.mem_singleton] at hy
        subst hy
        omega))
      clear hcell hst hz htk hmem
      go_wp2_with fail
      refine CX.out.mono ?_
      rintro e w5 ⟨v5, rfl, h5⟩
      have H5 := Lib.hid h5
      clear h5 CX
      go_wp2
      go_roundw
      case rel => exact ⟨k + 1, by go_num, by omega, by have := H5.out; rw [List.append_assoc, HTK.out] at this; exact this⟩
      case measure => simp [intOf]; omega
    · obtain rfl : k = ns.length := by omega
      obtain ⟨q0, q1, q2, q3⟩ := hst.led.led
      have CX := Lib.hid (hst.lay HO.out [lim, nxt, (hs.length : Int)] #[.int .u64 lim, .int .u64 nxt, .int .u64 (hs.length : Int)] wr.heap.size 3 rfl rfl rfl (by simp; omega) (by simp) (fun z hz => by
        have n := NU.out
        simp only [List.mem_cons, List.not_mem_nil, or_false] at hz
        rcases hz with rfl | rfl | rfl
        · have := n.lim; omega
        · exact n.nxt
        · omega))
      clear hst HS
      go_wp2_with fail
      refine CX.out.mono ?_
      rintro e w5 ⟨v5, rfl, h5⟩
      rw [List.take_length] at h5
      obtain ⟨P2, hP2⟩ : ∃ P2, [i, t, (ns.length : Int)] ++ ns ++ [lim, nxt, (hs.length : Int)] = P2 := ⟨_, rfl⟩
      have hl2 : P2.length ≤ 13 := by rw [← hP2]; simp; omega
      rw [hP2] at h5
      have HP2 := Lib.hid hP2
      have H5 := Lib.hid h5
      clear q0 q1 q2 q3 CX hP2
      obtain ⟨q0, q1, q2, q3⟩ := h5.led.led
      clear h5
      go_wp2_with fail
      clear q0 q1 q2 q3
      go_loopw [6, 10, 59] (fun x _ j wr => ∃ k : Nat, j = .int .i64 (k : Int) ∧ k ≤ hs.length ∧ ENs w g gl B (shC i t (.slice An ns.length cn) lim nxt (.slice Ah hs.length ch) (.slice Al ls.length cl)) (ledC lim nxt (.slice Ah hs.length ch) (.slice Al ls.length cl)) wr x (P2 ++ (hs.take k).flatMap hdL)) (fun _ _ j _ => hs.length - (intOf j).toNat)
      case atStart => exact ⟨0, rfl, by omega, by simpa using H5.out⟩
      case round =>
        clear H5
        obtain ⟨k, rfl, hk, hst⟩ := hrel
        have hfl := flatI_len (f := hdL) (s := 5) (fun _ => rfl) (hs.take k)
        rw [List.length_take, Nat.min_eq_left hk] at hfl
        by_cases hlt : k < hs.length
        · obtain ⟨b, off, rfl, _, hall⟩ := (HH.out.keep (hg ▸ hst.bel)).hd (by omega)
          obtain ⟨c0, c1, c2, c3, c4⟩ := hall k hlt
          have hmem := NU.out.hs _ (List.getElem_mem hlt)
          have htk := List.take_append_getElem hlt
          obtain ⟨y, hy⟩ : ∃ y, hs[k] = y := ⟨_, rfl⟩
          rw [hy] at c0 c1 c2 c3 c4 hmem htk
          have HTK : Hid ((hs.take (k + 1)).flatMap hdL = (hs.take k).flatMap hdL ++ hdL y) := by
            show _ = _
            rw [← htk, List.flatMap_append, List.flatMap_singleton]
          obtain ⟨m1, m2, m3, m4, m5⟩ := hmem
          have w1' : IntKind.u64.wrap y.tok = y.tok := wrap_u (by omega) (by omega)
          have w2' : IntKind.u64.wrap y.nod = y.nod := wrap_u (by omega) (by omega)
          obtain ⟨gh, hgh⟩ : ∃ gh, wr.heap.size = gh := ⟨_, rfl⟩
          have hnew : Blk (wr.alloc (.cells (hdA y) 98)) gh 98 (hdA y) := hgh ▸ Blk.new _ _ _
          have hst2 := hst.alloc HO.out (.cells (hdA y) 98)
          have HWD : Hid (Wds (hdL y)) := fun z hz => by
            simp only [hdL, List.mem_cons, List.not_mem_nil, or_false] at hz
            rcases hz with rfl | rfl | rfl | rfl | rfl <;> omega
          clear hall hst hy htk m1 m2 m3 m4 m5
          go_upto_region 15 with (fail)
          change Code.wp _ _ _ _ (wr.alloc (.cells (hdA y) 98))
          generalize wr.alloc (.cells (hdA y) 98) = W3 at hnew hst2 ⊢
          try rw [hgh]
          clear c0 c1 c2 c3 c4 hgh
          have d0 : W3.cell? ⟨gh, 0, none⟩ = some (.int .i64 y.tok) := (hnew.cell 0).trans rfl
          have d1 : W3.cell? ⟨gh, 1, none⟩ = some (.int .i64 y.nod) := (hnew.cell 1).trans rfl
          have d2 : W3.cell? ⟨gh, 2, none⟩ = some (.int .u64 y.bt) := (hnew.cell 2).trans rfl
          have d3 : W3.cell? ⟨gh, 3, none⟩ = some (.int .u64 y.ser) := (hnew.cell 3).trans rfl
          have d4 : W3.cell? ⟨gh, 4, none⟩ = some (.int .u64 y.stp) := (hnew.cell 4).trans rfl
          have CX := Lib.hid (hst2.lay HO.out (hdL y) #[.int .u64 y.tok, .int .u64 y.nod, .int .u64 y.bt, .int .u64 y.ser, .int .u64 y.stp] W3.heap.size 5 rfl rfl rfl (by rw [List.length_append]; omega) (by simp [hdL]) HWD.out)
          clear hnew hst2
          go_wp2_with fail
          refine CX.out.mono ?_
          rintro e w6 ⟨v6, rfl, h6⟩
          have H6 := Lib.hid h6
          clear h6 CX d0 d1 d2 d3 d4
          go_wp2
          go_roundw
          case rel => exact ⟨k + 1, by go_num, by omega, by have := H6.out; rw [List.append_assoc] at this; rw [HTK.out]; exact this⟩
          case measure => simp [intOf]; omega
        · obtain rfl : k = hs.length := by omega
          obtain ⟨q0, q1, q2, q3⟩ := hst.led.led
          have CX := Lib.hid (hst.lay HO.out [(ls.length : Int)] #[.int .u64 (ls.length : Int)] wr.heap.size 1 rfl rfl rfl (by rw [List.length_append]; omega) (by simp) (fun z hz => by
            simp only [List.mem_singleton] at hz
            subst hz
            omega))
          clear hst
          go_wp2_with fail
          refine CX.out.mono ?_
          rintro e w6 ⟨v6, rfl, h6⟩
          rw [List.take_length] at h6
          rw [List.take_length] at hfl
          obtain ⟨P3, hP3⟩ : ∃ P3, P2 ++ hs.flatMap hdL ++ [(ls.length : Int)] = P3 := ⟨_, rfl⟩
          have hl3 : P3.length ≤ 400 := by rw [← hP3, List.length_append, List.length_append, hfl, List.length_singleton]; omega
          rw [hP3] at h6
          have HP3 := Lib.hid hP3
          have H6 := Lib.hid h6
          clear q0 q1 q2 q3 CX hP3 hfl
          obtain ⟨q0, q1, q2, q3⟩ := h6.led.led
          clear h6
          go_wp2_with fail
          clear q0 q1 q2 q3
          go_loopw [6, 12, 89] (fun x _ j wr => ∃ k : Nat, j = .int .i64 (k : Int) ∧ k ≤ ls.length ∧ ENs w g gl B (shC i t (.slice An ns.length cn) lim nxt (.slice Ah hs.length ch) (.slice Al ls.length cl)) (ledC lim nxt (.slice Ah hs.length ch) (.slice Al ls.length cl)) wr x (P3 ++ (ls.take k).flatMap lsL)) (fun _ _ j _ => ls.length - (intOf j).toNat)
          case atStart => exact ⟨0, rfl, by omega, by simpa using H6.out⟩
          case round =>
            clear H6
            obtain ⟨k, rfl, hk, hst⟩ := hrel
            have hfl := flatI_len (f := lsL) (s := 6) (fun _ => rfl) (ls.take k)
            rw [List.length_take, Nat.min_eq_left hk] at hfl
            by_cases hlt : k < ls.length
            · obtain ⟨b, off, rfl, _, hall⟩ := (HL.out.keep (hg ▸ hst.bel)).ls (by omega)
              obtain ⟨c0, c1, c2, c3, c4, c5⟩ := hall k hlt
              have hmem := NU.out.ls _ (List.getElem_mem hlt)
              have htk := List.take_append_getElem hlt
              obtain ⟨y, hy⟩ : ∃ y, ls[k] = y := ⟨_, rfl⟩
              rw [hy] at c0 c1 c2 c3 c4 c5 hmem htk
              have HTK : Hid ((ls.take (k + 1)).flatMap lsL = (ls.take k).flatMap lsL ++ lsL y) := by
                show _ = _
                rw [← htk, List.flatMap_append, List.flatMap_singleton]
              obtain ⟨m1, m2, m3, m4, m5, m6⟩ := hmem
              have w1' : IntKind.u64.wrap y.nod = y.nod := wrap_u (by omega) (by omega)
              have w2' : IntKind.u64.wrap y.cod = y.cod := wrap_u (by omega) (by omega)
              have w3' : IntKind.u64.wrap y.tok = y.tok := wrap_u (by omega) (by omega)
              obtain ⟨gh, hgh⟩ : ∃ gh, wr.heap.size = gh := ⟨_, rfl⟩
              have hnew : Blk (wr.alloc (.cells (lsA y) 123)) gh 123 (lsA y) := hgh ▸ Blk.new _ _ _
              have hst2 := hst.alloc HO.out (.cells (lsA y) 123)
              have HWD : Hid (Wds (lsL y)) := fun z hz => by
                simp only [lsL, List.mem_cons, List.not_mem_nil, or_false] at hz
                rcases hz with rfl | rfl | rfl | rfl | rfl | rfl <;> omega
              clear hall hst hy htk m1 m2 m3 m4 m5 m6
              go_upto_region 21 with (fail)
              change Code.wp _ _ _ _ (wr.alloc (.cells (lsA y) 123))
              generalize wr.alloc (.cells (lsA y) 123) = W3 at hnew hst2 ⊢
              try rw [hgh]
              clear c0 c1 c2 c3 c4 c5 hgh
              have d0 : W3.cell? ⟨gh, 0, none⟩ = some (.int .i64 y.nod) := (hnew.cell 0).trans rfl
              have d1 : W3.cell? ⟨gh, 1, none⟩ = some (.int .u64 y.bt) := (hnew.cell 1).trans rfl
              have d2 : W3.cell? ⟨gh, 2, none⟩ = some (.int .u64 y.sq) := (hnew.cell 2).trans rfl
              have d3 : W3.cell? ⟨gh, 3, none⟩ = some (.int .i64 y.cod) := (hnew.cell 3).trans rfl
              have d4 : W3.cell? ⟨gh, 4, none⟩ = some (.int .i64 y.tok) := (hnew.cell 4).trans rfl
              have d5 : W3.cell? ⟨gh, 5, none⟩ = some (.int .u64 y.ser) := (hnew.cell 5).trans rfl
              have CX := Lib.hid (hst2.lay HO.out (lsL y) #[.int .u64 y.nod, .int .u64 y.bt, .int .u64 y.sq, .int .u64 y.cod, .int .u64 y.tok, .int .u64 y.ser] W3.heap.size 6 rfl rfl rfl (by rw [List.length_append]; omega) (by simp [lsL]) HWD.out)
              clear hnew hst2
              go_wp2_with fail
              refine CX.out.mono ?_
              rintro e w7 ⟨v7, rfl, h7⟩
              have H7 := Lib.hid h7
              clear h7 CX d0 d1 d2 d3 d4 d5
              go_wp2
              go_roundw
              case rel => exact ⟨k + 1, by go_num, by omega, by have := H7.out; rw [List.append_assoc] at this; rw [HTK.out]; exact this⟩
              case measure => simp [intOf]; omega
            · obtain rfl : k = ls.length := by omega
              have HS := Lib.hid hst
              clear hst hfl
              go_wp2
              go_ret2
              have o1 := HO.out.h1
              have o2 := HO.out.h2
              refine ⟨_, rfl, ?_, HS.out.bel⟩
              have hown := HS.out.own
              rw [List.take_length] at hown
              rw [← HSB.out]
              have e : shotB i t ns lim nxt hs ls = 83 :: numsB (P3 ++ ls.flatMap lsL) := by
                unfold shotB shotL
                rw [← HP3.out, ← HP2.out]
                simp only [List.append_assoc]
              rw [e]
              exact own_lower hown (by omega)
end Go.Proofs.Ytadkkhbbempaaaa

/- A snapshot's bytes: how many. -/
namespace Go.Proofs.Ytadkkhbbempaaaa
set_option maxRecDepth 100000
open Go.RowKit

theorem shotB_len4 {i t : Int} {ns : List Int} {lim nxt : Int} {hs : List Hd} {ls : List Ls} (n : ShNums i t ns lim nxt hs ls) : (shotB i t ns lim nxt hs ls).length ≤ 4000 := by
  have h1 := numsB_le (shotL i t ns lim nxt hs ls)
  have h2 := flatI_len (f := hdL) (s := 5) (fun _ => rfl) hs
  have h3 := flatI_len (f := lsL) (s := 6) (fun _ => rfl) ls
  have n1 := n.nsl
  have n2 := n.hsl
  have n3 := n.lsl
  have h4 : (shotL i t ns lim nxt hs ls).length ≤ 3 + 7 + 3 + 320 + 1 + 42 := by
    unfold shotL
    simp only [List.length_append, List.length_cons, List.length_nil, h2, h3]
    omega
  unfold shotB
  rw [List.length_cons]
  omega
theorem shotB_len {i t : Int} {ns : List Int} {lim nxt : Int} {hs : List Hd} {ls : List Ls} (n : ShNums i t ns lim nxt hs ls) : (shotB i t ns lim nxt hs ls).length ≤ 8000 := by
  have := shotB_len4 n
  omega
theorem shotB_byt (i t : Int) (ns : List Int) (lim nxt : Int) (hs : List Hd) (ls : List Ls) : Byt (shotB i t ns lim nxt hs ls) := by
  have h := (show Byt [83] by unfold Byt; decide).append (numsB_byt (shotL i t ns lim nxt hs ls))
  exact h
end Go.Proofs.Ytadkkhbbempaaaa

/- Snapshots' bytes: the document's Bytes, Encode. -/
namespace Go.Proofs.Ytadkkhbbempaaaa
set_option maxRecDepth 100000
open Go.RowKit

/-- What stands while the document writes a snapshot: its cells, a row's block, the bytes of the numbers L. -/
structure ENr (w : World) (g base : Nat) (SH : Array Value) (gh : Nat) (T : TypeId) (cs : Array Value) (wx : World) (v : Value) (L : List Int) : Prop where
  sh : Blk wx g 29 SH
  row : Blk wx gh T cs
  own : Own8 wx base v (83 :: numsB L)
  ne : v.ownBlock ≠ some gh
  bel : Below g w wx
  sz : base ≤ wx.heap.size
section
variable {w : World} {g base gh : Nat} {SH cs : Array Value} {T : TypeId} {wx : World} {v : Value} {L : List Int}
theorem ENr.drew (h : ENr w g base SH gh T cs wx v L) : ENr w g base SH gh T cs wx.drew v L := ⟨h.sh, h.row, h.own, h.ne, h.bel.drew, h.sz⟩
theorem ENr.grow (h : ENr w g base SH gh T cs wx v L) (o : g < base) {w1 : World} {v1 : Value} {L1 : List Int} (hg : Grow wx v.ownBlock w1 v1) (ho : Own8 w1 base v1 (83 :: numsB L1)) : ENr w g base SH gh T cs w1 v1 L1 := by
  have hz := h.sz
  have hb := own_base h.own
  have hne : ∀ i, i < base → some i ≠ v.ownBlock := fun i hi hh => by have := hb i hh.symm; omega
  refine ⟨h.sh.grown hg.grown (hne _ o), h.row.grown hg.grown (fun e => h.ne e.symm), ho, ?_, h.bel.grown hg.grown (by omega) (fun i hi => by have := hb i hi; omega), Nat.le_trans hz hg.grown.size⟩
  rcases hg.at_ with e | ⟨b, e, hbz⟩
  · rw [e]
    exact h.ne
  · rw [e]
    intro hh
    injection hh with hh
    have := h.row.lt
    omega
/-- Another row in the old one's place. -/
theorem ENr.new (h : ENr w g base SH gh T cs wx v L) (o : g < base) (T2 : TypeId) (cs2 : Array Value) : ENr w g base SH wx.heap.size T2 cs2 (wx.alloc (.cells cs2 T2)) v L := by
  have hz := h.sz
  have hb : Below wx.heap.size wx (wx.alloc (.cells cs2 T2)) := (Below.refl _ _).alloc (Nat.le_refl _) _
  refine ⟨h.sh.alloc _, Blk.new _ _ _, own_below h.own hb, fun e => ?_, h.bel.trans (hb.mono (by omega)), Nat.le_trans hz hb.size⟩
  have := (World.ownsRow.lt h.own _ e).2
  omega
theorem ENr.num (h : ENr w g base SH gh T cs wx v L) (o : g < base) (z : Int) (hz : 0 ≤ z ∧ z < 18446744073709551616) (hL : L.length ≤ 1000) :
    Calls Try.prog 88 #[v, .int .u64 z] wx fun e w' => ∃ v', e = .returned v' ∧ ENr w g base SH gh T cs w' v' (L ++ [z]) := by
  obtain ⟨n, rfl⟩ := Int.eq_ofNat_of_zero_le hz.1
  refine (r06_num_any wx base v (83 :: numsB L) n (by omega) (numsB_len L hL) h.own h.sz).mono fun _ _ ⟨v', he, h1, h2⟩ => ⟨v', he, h.grow o h2 ?_⟩
  rw [numsB_append]
  simpa [numsB] using h1
end
/-- A row's cells. -/
def HdS (w : World) (b : Nat) (h : Hd) : Prop := w.cell? ⟨b, 0, none⟩ = some (.int .i64 h.tok) ∧ w.cell? ⟨b, 1, none⟩ = some (.int .i64 h.nod) ∧ w.cell? ⟨b, 2, none⟩ = some (.int .u64 h.bt) ∧ w.cell? ⟨b, 3, none⟩ = some (.int .u64 h.ser) ∧ w.cell? ⟨b, 4, none⟩ = some (.int .u64 h.stp)
theorem Blk.hdS {w : World} {g : Nat} {T : TypeId} {h : Hd} (hb : Blk w g T (hdA h)) : HdS w g h := ⟨(hb.cell 0).trans rfl, (hb.cell 1).trans rfl, (hb.cell 2).trans rfl, (hb.cell 3).trans rfl, (hb.cell 4).trans rfl⟩
def LsS (w : World) (b : Nat) (x : Ls) : Prop := w.cell? ⟨b, 0, none⟩ = some (.int .i64 x.nod) ∧ w.cell? ⟨b, 1, none⟩ = some (.int .u64 x.bt) ∧ w.cell? ⟨b, 2, none⟩ = some (.int .u64 x.sq) ∧ w.cell? ⟨b, 3, none⟩ = some (.int .i64 x.cod) ∧ w.cell? ⟨b, 4, none⟩ = some (.int .i64 x.tok) ∧ w.cell? ⟨b, 5, none⟩ = some (.int .u64 x.ser)
theorem Blk.lsS {w : World} {g : Nat} {T : TypeId} {x : Ls} (hb : Blk w g T (lsA x)) : LsS w g x := ⟨(hb.cell 0).trans rfl, (hb.cell 1).trans rfl, (hb.cell 2).trans rfl, (hb.cell 3).trans rfl, (hb.cell 4).trans rfl, (hb.cell 5).trans rfl⟩
def ShS (w : World) (b : Nat) (i t lim nxt : Int) : Prop := w.cell? ⟨b, 0, none⟩ = some (.int .u64 i) ∧ w.cell? ⟨b, 1, none⟩ = some (.int .u64 t) ∧ w.cell? ⟨b, 3, none⟩ = some (.int .i64 lim) ∧ w.cell? ⟨b, 4, none⟩ = some (.int .u64 nxt)
theorem Blk.shS {w : World} {g : Nat} {T : TypeId} {i t : Int} {sl : Value} {lim nxt : Int} {hl ll : Value} (h : Blk w g T (shC i t sl lim nxt hl ll)) : ShS w g i t lim nxt := ⟨h.sh.z0, h.sh.z1, h.sh.z3, h.sh.z4⟩

set_option maxRecDepth 100000 in
set_option maxHeartbeats 8000000 in
theorem r06_Bytes_any (w : World) (i t : Int) (An : Option Addr) (cn : Nat) (ns : List Int) (lim nxt : Int) (Ah : Option Addr) (ch : Nat) (hs : List Hd) (Al : Option Addr) (cl : Nat) (ls : List Ls) (hn : InN .i64 w An cn ns) (hh : InS hdC 5 w Ah ch hs) (hl : InS lsC 6 w Al cl ls)
    (hset : IsSet ns) (nu : ShNums i t ns lim nxt hs ls) :
    Calls Try.prog 53 #[shV i t (.slice An ns.length cn) lim nxt (.slice Ah hs.length ch) (.slice Al ls.length cl)] w fun e w' => ∃ v, e = .returned v ∧ Own8 w' w.heap.size v (shotB i t ns lim nxt hs ls) ∧ Below w.heap.size w w' := by
  obtain ⟨g, hg⟩ : ∃ g, w.heap.size = g := ⟨_, rfl⟩
  rw [hg]
  have hBx : Below g w (w.alloc (.cells (shC i t (.slice An ns.length cn) lim nxt (.slice Ah hs.length ch) (.slice Al ls.length cl)) 29)) := (Below.refl _ _).alloc (by omega) _
  have hb1 : Blk (w.alloc (.cells (shC i t (.slice An ns.length cn) lim nxt (.slice Ah hs.length ch) (.slice Al ls.length cl)) 29)) g 29 (shC i t (.slice An ns.length cn) lim nxt (.slice Ah hs.length ch) (.slice Al ls.length cl)) := hg ▸ Blk.new _ _ _
  have HN := Lib.hid hn
  have HH := Lib.hid hh
  have HL := Lib.hid hl
  have NU := Lib.hid nu
  have HSET := Lib.hid hset
  have hnl := nu.nsl
  have hhl := nu.hsl
  have hll := nu.lsl
  have hcn := hn.cap
  have hch := hh.cap
  have hcl := hl.cap
  unfold shV
  obtain ⟨SB, hSB⟩ : ∃ SB, shotB i t ns lim nxt hs ls = SB := ⟨_, rfl⟩
  have HSB := Lib.hid hSB
  rw [hSB]
  have wn : IntKind.u64.wrap (ns.length : Int) = (ns.length : Int) := wrap_u (by omega) (by omega)
  have wh : IntKind.u64.wrap (hs.length : Int) = (hs.length : Int) := wrap_u (by omega) (by omega)
  have wl : IntKind.u64.wrap (ls.length : Int) = (ls.length : Int) := wrap_u (by omega) (by omega)
  have wm : IntKind.u64.wrap lim = lim := wrap_u (by have := nu.lim; omega) (by have := nu.lim; omega)
  clear hn hh hl nu hSB hset
  go_enter Try.func53, Try.ntmps53
  go_upto_region 1 with (fail)
  change Code.wp _ _ _ _ (w.alloc (.cells (shC i t (.slice An ns.length cn) lim nxt (.slice Ah hs.length ch) (.slice Al ls.length cl)) 29))
  generalize (w.alloc (.cells (shC i t (.slice An ns.length cn) lim nxt (.slice Ah hs.length ch) (.slice Al ls.length cl)) 29)) = W at hb1 hBx ⊢
  try rw [hg]
  obtain ⟨B, hB⟩ : ∃ B, W.heap.size = B := ⟨_, rfl⟩
  have hlt : g < B := hB ▸ hb1.lt
  have hlit : Own8 (W.drew.alloc (.cells #[.int .u8 83] 5)) B (.slice (some ⟨B, 0, none⟩) 1 1) [83] := by
    have h := own_lit1 W.drew B 5 (.int .u8 83) (by show B ≤ W.heap.size; omega)
    rw [show W.drew.heap.size = B from hB] at h
    exact h
  have E0 : ENr w g B (shC i t (.slice An ns.length cn) lim nxt (.slice Ah hs.length ch) (.slice Al ls.length cl)) g 29 (shC i t (.slice An ns.length cn) lim nxt (.slice Ah hs.length ch) (.slice Al ls.length cl)) (W.drew.alloc (.cells #[.int .u8 83] 5)) (.slice (some ⟨B, 0, none⟩) 1 1) [] :=
    ⟨hb1.drew.alloc _, hb1.drew.alloc _, hlit, (by show some B ≠ some g; intro hh; injection hh with hh; omega), hBx.drew.alloc (by show g ≤ W.heap.size; omega) _, by simp; omega⟩
  have HS0 : ShS W.drew g i t lim nxt := hb1.drew.shS
  have HS1 := E0.sh.shS
  have X0 := Lib.hid (E0.num hlt i NU.out.i (by simp))
  unfold ShS at HS0 HS1
  clear hlit E0 hb1 hBx
  go_wp2_with fail
  go_region_held3 (fun w' => w'.cell? ⟨g, 0, none⟩ = some (.int .u64 i) ∧ w'.cell? ⟨g, 1, none⟩ = some (.int .u64 t) ∧ w'.cell? ⟨g, 3, none⟩ = some (.int .i64 lim) ∧ w'.cell? ⟨g, 4, none⟩ = some (.int .u64 nxt)) (first | exact HS0 | exact HS1 | exact HS2 | exact HS3)
    (first
      | (go_at_call 88; refine X0.out.mono ?_; rintro e w2 ⟨v2, rfl, h2⟩; have HS2 := h2.sh.shS; unfold ShS at HS2; have X1 := Lib.hid (h2.num hlt t NU.out.t (by simp)); clear h2)
      | (go_at_call 88; refine X1.out.mono ?_; rintro e w3 ⟨v3, rfl, h3⟩; have HS3 := h3.sh.shS; unfold ShS at HS3; have H3 := Lib.hid h3; clear h3))
  obtain ⟨q0, q1, q2, q3, q4, q5, q6⟩ := H3.out.sh.sh
  have CND := Lib.hid (ref_Nodes_any w3 B v3 (83 :: numsB ([] ++ [i] ++ [t])) An cn ns HSET.out (numsB_len _ (by simp)) H3.out.own H3.out.sz (fun w' hBB => HN.out.keep (hg ▸ H3.out.bel.trans (hBB.mono (Nat.le_of_lt hlt)))))
  clear HS0 HS1 HS2 HS3 X0 X1 hB
  go_wp2_with fail
  refine CND.out.mono ?_
  rintro e w4 ⟨v4, rfl, ho4, hB4, hG4⟩
  have e4 : (83 :: numsB ([] ++ [i] ++ [t])) ++ (numB ns.length ++ numsB ns) = 83 :: numsB ([i, t, (ns.length : Int)] ++ ns) := by simp [numsB]
  rw [e4] at ho4
  have h4 := H3.out.grow hlt hG4 ho4
  have HS4 := h4.drew.sh.shS
  unfold ShS at HS4
  have X2 := Lib.hid (h4.drew.num hlt lim (by have := NU.out.lim; omega) (by simp; omega))
  clear h4 ho4 hB4 hG4 e4 CND H3 q0 q1 q2 q3 q4 q5 q6
  go_wp2_with fail
  go_region_held3 (fun w' => w'.cell? ⟨g, 0, none⟩ = some (.int .u64 i) ∧ w'.cell? ⟨g, 1, none⟩ = some (.int .u64 t) ∧ w'.cell? ⟨g, 3, none⟩ = some (.int .i64 lim) ∧ w'.cell? ⟨g, 4, none⟩ = some (.int .u64 nxt)) (first | exact HS4 | exact HS5 | exact HS6)
    (first
      | (go_at_call 88; refine X2.out.mono ?_; rintro e w5 ⟨v5, rfl, h5⟩; have HS5 := h5.sh.shS; unfold ShS at HS5; have X3 := Lib.hid (h5.num hlt nxt NU.out.nxt (by simp; omega)); clear h5)
      | (go_at_call 88; refine X3.out.mono ?_; rintro e w6 ⟨v6, rfl, h6⟩; have HS6 := h6.sh.shS; unfold ShS at HS6; have H6 := Lib.hid h6; clear h6))
  obtain ⟨q0, q1, q2, q3, q4, q5, q6⟩ := H6.out.sh.sh
  have X4 := Lib.hid (H6.out.num hlt (hs.length : Int) (by omega) (by simp; omega))
  clear HS4 HS5 HS6 X2 X3
  go_wp2_with fail
  refine X4.out.mono ?_
  rintro e w7 ⟨v7, rfl, h7⟩
  obtain ⟨P2, hP2⟩ : ∃ P2, [i, t, (ns.length : Int)] ++ ns ++ [lim] ++ [nxt] ++ [(hs.length : Int)] = P2 := ⟨_, rfl⟩
  have hl2 : P2.length ≤ 13 := by rw [← hP2]; simp; omega
  rw [hP2] at h7
  have HP2 := Lib.hid hP2
  have H7 := Lib.hid h7
  clear q0 q1 q2 q3 q4 q5 q6 X4 hP2 H6
  obtain ⟨q0, q1, q2, q3, q4, q5, q6⟩ := h7.sh.sh
  clear h7
  go_wp2_with fail
  clear q0 q1 q2 q3 q4 q5 q6
  go_loopw [3, 5, 40] (fun x _ j wr => ∃ (k gh : Nat) (T : TypeId) (cs : Array Value), j = .int .i64 (k : Int) ∧ k ≤ hs.length ∧ ENr w g B (shC i t (.slice An ns.length cn) lim nxt (.slice Ah hs.length ch) (.slice Al ls.length cl)) gh T cs wr x (P2 ++ (hs.take k).flatMap hdL)) (fun _ _ j _ => hs.length - (intOf j).toNat)
  case atStart => exact ⟨0, _, _, _, rfl, by omega, by simpa using H7.out⟩
  case round =>
    clear H7
    obtain ⟨k, gh, T, cs, rfl, hk, hst⟩ := hrel
    have hfl := flatI_len (f := hdL) (s := 5) (fun _ => rfl) (hs.take k)
    rw [List.length_take, Nat.min_eq_left hk] at hfl
    by_cases hlt2 : k < hs.length
    · obtain ⟨b, off, rfl, _, hall⟩ := (HH.out.keep (hg ▸ hst.bel)).hd (by omega)
      obtain ⟨c0, c1, c2, c3, c4⟩ := hall k hlt2
      have hmem := NU.out.hs _ (List.getElem_mem hlt2)
      have htk := List.take_append_getElem hlt2
      obtain ⟨y, hy⟩ : ∃ y, hs[k] = y := ⟨_, rfl⟩
      rw [hy] at c0 c1 c2 c3 c4 hmem htk
      have HTK : Hid ((hs.take (k + 1)).flatMap hdL = (hs.take k).flatMap hdL ++ hdL y) := by
        show _ = _
        rw [← htk, List.flatMap_append, List.flatMap_singleton]
      have HM := Lib.hid hmem
      have w1' : IntKind.u64.wrap y.tok = y.tok := wrap_u (by omega) (by omega)
      have w2' : IntKind.u64.wrap y.nod = y.nod := wrap_u (by omega) (by omega)
      have hst2 := hst.new hlt 98 (hdA y)
      obtain ⟨ge, hge⟩ : ∃ ge, wr.heap.size = ge := ⟨_, rfl⟩
      rw [hge] at hst2
      clear hall hst hy htk hmem
      go_upto_region 8 with (fail)
      change Code.wp _ _ _ _ (wr.alloc (.cells (hdA y) 98))
      generalize wr.alloc (.cells (hdA y) 98) = W3 at hst2 ⊢
      try rw [hge]
      clear c0 c1 c2 c3 c4 hge
      have T0 := hst2.drew.row.hdS
      unfold HdS at T0
      obtain ⟨PR, hPR⟩ : ∃ PR, P2 ++ (hs.take k).flatMap hdL = PR := ⟨_, rfl⟩
      have hlr : PR.length ≤ 900 := by rw [← hPR, List.length_append]; omega
      rw [hPR] at hst2
      have HPR := Lib.hid hPR
      have Y0 := Lib.hid (hst2.drew.num hlt y.tok (by have := HM.out; omega) (by omega))
      clear hst2 hPR hfl
      go_wp2_with fail
      go_region_held3 (fun w' => w'.cell? ⟨ge, 0, none⟩ = some (.int .i64 y.tok) ∧ w'.cell? ⟨ge, 1, none⟩ = some (.int .i64 y.nod) ∧ w'.cell? ⟨ge, 2, none⟩ = some (.int .u64 y.bt) ∧ w'.cell? ⟨ge, 3, none⟩ = some (.int .u64 y.ser) ∧ w'.cell? ⟨ge, 4, none⟩ = some (.int .u64 y.stp)) (first | exact T0 | exact T1 | exact T2 | exact T3 | exact T4 | exact T5)
        (first
          | (go_at_call 88; refine Y0.out.mono ?_; rintro e wq0 ⟨vq0, rfl, hq⟩; have T1 := hq.row.hdS; unfold HdS at T1; have Y1 := Lib.hid (hq.num hlt y.nod (by have := HM.out; omega) (by simp; omega)); clear hq)
          | (go_at_call 88; refine Y1.out.mono ?_; rintro e wq1 ⟨vq1, rfl, hq⟩; have T2 := hq.row.hdS; unfold HdS at T2; have Y2 := Lib.hid (hq.num hlt y.bt (by have := HM.out; omega) (by simp; omega)); clear hq)
          | (go_at_call 88; refine Y2.out.mono ?_; rintro e wq2 ⟨vq2, rfl, hq⟩; have T3 := hq.row.hdS; unfold HdS at T3; have Y3 := Lib.hid (hq.num hlt y.ser (by have := HM.out; omega) (by simp; omega)); clear hq)
          | (go_at_call 88; refine Y3.out.mono ?_; rintro e wq3 ⟨vq3, rfl, hq⟩; have T4 := hq.row.hdS; unfold HdS at T4; have Y4 := Lib.hid (hq.num hlt y.stp (by have := HM.out; omega) (by simp; omega)); clear hq)
          | (go_at_call 88; refine Y4.out.mono ?_; rintro e wq4 ⟨vq4, rfl, hq⟩; have T5 := hq.row.hdS; unfold HdS at T5; have ZF := Lib.hid hq; clear hq))
      go_wp2
      go_roundw
      case rel => exact ⟨k + 1, _, _, _, by go_num, by omega, by have := ZF.out; rw [← HPR.out] at this; simp only [List.append_assoc] at this; rw [HTK.out]; exact this⟩
      case measure => simp [intOf]; omega
    · obtain rfl : k = hs.length := by omega
      obtain ⟨q0, q1, q2, q3, q4, q5, q6⟩ := hst.sh.sh
      have CX := Lib.hid (hst.num hlt (ls.length : Int) (by omega) (by rw [List.length_append]; omega))
      clear hst
      go_wp2_with fail
      refine CX.out.mono ?_
      rintro e w8 ⟨v8, rfl, h8⟩
      rw [List.take_length] at h8
      rw [List.take_length] at hfl
      obtain ⟨P3, hP3⟩ : ∃ P3, P2 ++ hs.flatMap hdL ++ [(ls.length : Int)] = P3 := ⟨_, rfl⟩
      have hl3 : P3.length ≤ 400 := by rw [← hP3, List.length_append, List.length_append, hfl, List.length_singleton]; omega
      rw [hP3] at h8
      have HP3 := Lib.hid hP3
      have H8 := Lib.hid h8
      clear q0 q1 q2 q3 q4 q5 q6 CX hP3 hfl
      obtain ⟨q0, q1, q2, q3, q4, q5, q6⟩ := h8.sh.sh
      clear h8
      go_wp2_with fail
      clear q0 q1 q2 q3 q4 q5 q6
      go_loopw [3, 7, 74] (fun x _ j wr => ∃ (k gh : Nat) (T : TypeId) (cs : Array Value), j = .int .i64 (k : Int) ∧ k ≤ ls.length ∧ ENr w g B (shC i t (.slice An ns.length cn) lim nxt (.slice Ah hs.length ch) (.slice Al ls.length cl)) gh T cs wr x (P3 ++ (ls.take k).flatMap lsL)) (fun _ _ j _ => ls.length - (intOf j).toNat)
      case atStart => exact ⟨0, _, _, _, rfl, by omega, by simpa using H8.out⟩
      case round =>
        clear H8
        obtain ⟨k, gh, T, cs, rfl, hk, hst⟩ := hrel
        have hfl := flatI_len (f := lsL) (s := 6) (fun _ => rfl) (ls.take k)
        rw [List.length_take, Nat.min_eq_left hk] at hfl
        by_cases hlt2 : k < ls.length
        · obtain ⟨b, off, rfl, _, hall⟩ := (HL.out.keep (hg ▸ hst.bel)).ls (by omega)
          obtain ⟨c0, c1, c2, c3, c4, c5⟩ := hall k hlt2
          have hmem := NU.out.ls _ (List.getElem_mem hlt2)
          have htk := List.take_append_getElem hlt2
          obtain ⟨y, hy⟩ : ∃ y, ls[k] = y := ⟨_, rfl⟩
          rw [hy] at c0 c1 c2 c3 c4 c5 hmem htk
          have HTK : Hid ((ls.take (k + 1)).flatMap lsL = (ls.take k).flatMap lsL ++ lsL y) := by
            show _ = _
            rw [← htk, List.flatMap_append, List.flatMap_singleton]
          have HM := Lib.hid hmem
          have w1' : IntKind.u64.wrap y.nod = y.nod := wrap_u (by omega) (by omega)
          have w2' : IntKind.u64.wrap y.cod = y.cod := wrap_u (by omega) (by omega)
          have w3' : IntKind.u64.wrap y.tok = y.tok := wrap_u (by omega) (by omega)
          have hst2 := hst.new hlt 123 (lsA y)
          obtain ⟨ge, hge⟩ : ∃ ge, wr.heap.size = ge := ⟨_, rfl⟩
          rw [hge] at hst2
          clear hall hst hy htk hmem
          go_upto_region 14 with (fail)
          change Code.wp _ _ _ _ (wr.alloc (.cells (lsA y) 123))
          generalize wr.alloc (.cells (lsA y) 123) = W3 at hst2 ⊢
          try rw [hge]
          clear c0 c1 c2 c3 c4 c5 hge
          have T0 := hst2.drew.row.lsS
          unfold LsS at T0
          obtain ⟨PR, hPR⟩ : ∃ PR, P3 ++ (ls.take k).flatMap lsL = PR := ⟨_, rfl⟩
          have hlr : PR.length ≤ 900 := by rw [← hPR, List.length_append]; omega
          rw [hPR] at hst2
          have HPR := Lib.hid hPR
          have Y0 := Lib.hid (hst2.drew.num hlt y.nod (by have := HM.out; omega) (by omega))
          clear hst2 hPR hfl
          go_wp2_with fail
          go_region_held3 (fun w' => w'.cell? ⟨ge, 0, none⟩ = some (.int .i64 y.nod) ∧ w'.cell? ⟨ge, 1, none⟩ = some (.int .u64 y.bt) ∧ w'.cell? ⟨ge, 2, none⟩ = some (.int .u64 y.sq) ∧ w'.cell? ⟨ge, 3, none⟩ = some (.int .i64 y.cod) ∧ w'.cell? ⟨ge, 4, none⟩ = some (.int .i64 y.tok) ∧ w'.cell? ⟨ge, 5, none⟩ = some (.int .u64 y.ser)) (first | exact T0 | exact T1 | exact T2 | exact T3)
            (first
              | (go_at_call 88; refine Y0.out.mono ?_; rintro e wq0 ⟨vq0, rfl, hq⟩; have T1 := hq.row.lsS; unfold LsS at T1; have Y1 := Lib.hid (hq.num hlt y.bt (by have := HM.out; omega) (by simp; omega)); clear hq)
              | (go_at_call 88; refine Y1.out.mono ?_; rintro e wq1 ⟨vq1, rfl, hq⟩; have T2 := hq.row.lsS; unfold LsS at T2; have Y2 := Lib.hid (hq.num hlt y.sq (by have := HM.out; omega) (by simp; omega)); clear hq)
              | (go_at_call 88; refine Y2.out.mono ?_; rintro e wq2 ⟨vq2, rfl, hq⟩; have T3 := hq.row.lsS; unfold LsS at T3; have ZM := Lib.hid hq; clear hq))
          have U0' := ZM.out.drew.row.lsS
          unfold LsS at U0'
          have Y3 := Lib.hid (ZM.out.drew.num hlt y.cod (by have := HM.out; omega) (by simp; omega))
          clear T0 T1 T2 T3 Y0 Y1 Y2
          go_wp2_with fail
          go_region_held3 (fun w' => w'.cell? ⟨ge, 0, none⟩ = some (.int .i64 y.nod) ∧ w'.cell? ⟨ge, 1, none⟩ = some (.int .u64 y.bt) ∧ w'.cell? ⟨ge, 2, none⟩ = some (.int .u64 y.sq) ∧ w'.cell? ⟨ge, 3, none⟩ = some (.int .i64 y.cod) ∧ w'.cell? ⟨ge, 4, none⟩ = some (.int .i64 y.tok) ∧ w'.cell? ⟨ge, 5, none⟩ = some (.int .u64 y.ser)) (first | exact U0' | exact U1' | exact U2' | exact U3')
            (first
              | (go_at_call 88; refine Y3.out.mono ?_; rintro e wq3 ⟨vq3, rfl, hq⟩; have U1' := hq.row.lsS; unfold LsS at U1'; have Y4 := Lib.hid (hq.num hlt y.tok (by have := HM.out; omega) (by simp; omega)); clear hq)
              | (go_at_call 88; refine Y4.out.mono ?_; rintro e wq4 ⟨vq4, rfl, hq⟩; have U2' := hq.row.lsS; unfold LsS at U2'; have Y5 := Lib.hid (hq.num hlt y.ser (by have := HM.out; omega) (by simp; omega)); clear hq)
              | (go_at_call 88; refine Y5.out.mono ?_; rintro e wq5 ⟨vq5, rfl, hq⟩; have U3' := hq.row.lsS; unfold LsS at U3'; have ZF := Lib.hid hq; clear hq))
          go_wp2
          go_roundw
          case rel => exact ⟨k + 1, _, _, _, by go_num, by omega, by have := ZF.out; rw [← HPR.out] at this; simp only [List.append_assoc] at this; rw [HTK.out]; exact this⟩
          case measure => simp [intOf]; omega
        · obtain rfl : k = ls.length := by omega
          have HS := Lib.hid hst
          clear hst hfl
          go_wp2
          go_ret
          refine ⟨_, rfl, ?_, HS.out.bel⟩
          have hown := HS.out.own
          rw [List.take_length] at hown
          rw [← HSB.out]
          have e : shotB i t ns lim nxt hs ls = 83 :: numsB (P3 ++ ls.flatMap lsL) := by
            unfold shotB shotL
            rw [← HP3.out, ← HP2.out]
            simp only [List.append_assoc, List.cons_append, List.nil_append]
          rw [e]
          exact own_lower hown (by omega)
end Go.Proofs.Ytadkkhbbempaaaa

/- Records' bytes: plain; what both Encodes answer of a command, a snapshot that may be. -/
namespace Go.Proofs.Ytadkkhbbempaaaa
set_option maxRecDepth 100000
open Go.RowKit

def En.cB (e : En) : List Int := numsB (numsL e.k e.n e.t e.l e.b e.q e.s e.m)
def Sh.B (s : Sh) : List Int := shotB s.i s.t s.ns s.lim s.nxt s.hs s.ls
/-- A record's bytes. -/
def Rc.B (r : Rc) : List Int := [r.k] ++ (if r.k = 1 then numB r.bt.toNat else if r.k = 2 then numB r.tm.toNat ++ numB r.v.toNat else if r.k = 3 then numB r.ix.toNat ++ numB r.en.tm.toNat ++ r.en.cB else if r.k = 4 then numB r.ix.toNat else r.sh.B)
/-- A command that may be is written by both. -/
theorem cmd_both (e : En) (wf : e.Wf) (ok : e.ok = true) (A : Option Addr) (c : Nat) :
    Byt e.cB ∧ e.cB.length ≤ 900 ∧
      (∀ W, InN .i64 W A c e.l → Calls Try.prog 49 #[cmdV e.k e.n e.t (.slice A e.l.length c) e.b e.q e.s e.m] W fun x w' => ∃ v, x = .returned (.tuple #[v, .int .i64 0]) ∧ Own8 w' W.heap.size v e.cB ∧ Below W.heap.size W w') ∧
      (∀ W, InN .i64 W A c e.l → Calls Try.prog 52 #[cmdV e.k e.n e.t (.slice A e.l.length c) e.b e.q e.s e.m] W fun x w' => ∃ v, x = .returned (.tuple #[v, .int .i64 0]) ∧ Own8 w' W.heap.size v e.cB ∧ Below W.heap.size W w') := by
  obtain ⟨tm, k, n, t, l, b, q, s, m⟩ := e
  have hb := wf.b
  have hq := wf.q
  have hs := wf.s
  have hm := wf.m
  have hok : codeOk k n t l b q s m = true := ok
  have he := codeOk_eq k n t l b q s m hb hq hs hm
  obtain ⟨k1, k6, n0, n7, t0, t6, hset, hnil⟩ := ok_nats hok
  clear wf ok
  simp only at hb hq hs hm
  obtain ⟨k, rfl⟩ : ∃ k' : Nat, k = (k' : Int) := ⟨k.toNat, by omega⟩
  obtain ⟨n, rfl⟩ : ∃ k' : Nat, n = (k' : Int) := ⟨n.toNat, by omega⟩
  obtain ⟨t, rfl⟩ : ∃ k' : Nat, t = (k' : Int) := ⟨t.toNat, by omega⟩
  obtain ⟨b, rfl⟩ : ∃ k' : Nat, b = (k' : Int) := ⟨b.toNat, by omega⟩
  obtain ⟨q, rfl⟩ : ∃ k' : Nat, q = (k' : Int) := ⟨q.toNat, by omega⟩
  obtain ⟨s, rfl⟩ : ∃ k' : Nat, s = (k' : Int) := ⟨s.toNat, by omega⟩
  obtain ⟨m, rfl⟩ : ∃ k' : Nat, m = (k' : Int) := ⟨m.toNat, by omega⟩
  have hl7 : l.length ≤ 7 := by
    cases hN : kN k
    · rw [hnil hN]; simp
    · exact set_len (hset hN)
  have hlen : (numsL (k : Int) n t l b q s m).length ≤ 100 := by
    unfold numsL
    repeat' rw [List.length_append]
    have e1 : (if kN k = true then (l.length : Int) :: l else []).length ≤ 8 := by split <;> simp <;> omega
    have e2 : (if kR k = true then [(n : Int), (b : Int), (q : Int)] else []).length ≤ 3 := by split <;> simp
    have e3 : (if kT k = true then [(t : Int), (s : Int)] else []).length ≤ 2 := by split <;> simp
    have e5 : (if kS k = true then [(m : Int)] else []).length ≤ 1 := by split <;> simp
    have e4 : ([(k : Int)]).length = 1 := rfl
    omega
  have hnb := numsB_le (numsL (k : Int) n t l b q s m)
  refine ⟨numsB_byt _, by show (numsB (numsL (k : Int) n t l b q s m)).length ≤ 900; omega, fun W hW => ?_, fun W hW => ?_⟩
  · refine (cmd_Encode_ok W k n t A c l b q s m hW (by omega) (by omega) (by omega) (by omega) (by omega) (by omega) (by omega) hset (fun W hW => ?_))
    have := cmd_Check_any W k n t A c l b q s m hW
    rw [hok] at this
    exact this
  · show Calls _ _ _ _ fun x w' => ∃ v, x = .returned (.tuple #[v, .int .i64 0]) ∧ Own8 w' W.heap.size v (numsB (numsL (k : Int) n t l b q s m)) ∧ Below W.heap.size W w'
    rw [← encs_eq k n t l b q s m (by omega)]
    exact ref_Encode_ok W k n t A c l b q s m hW (by omega) (by omega) (by omega) (by omega) (by omega) (by omega) (by omega) (by rw [← he]; exact hok)
/-- A snapshot that may be is written by both. -/
theorem sh_both (s : Sh) (wf : s.Wf) (ok : s.Ok) (a : Sa) :
    Byt s.B ∧ s.B.length ≤ 7990 ∧
      (∀ W, InSh W s a → Calls Try.prog 50 #[shtV s a] W fun x w' => ∃ v, x = .returned (.tuple #[v, .int .i64 0]) ∧ Own8 w' W.heap.size v s.B ∧ Below W.heap.size W w') ∧
      (∀ W, InSh W s a → Calls Try.prog 53 #[shtV s a] W fun x w' => ∃ v, x = .returned v ∧ Own8 w' W.heap.size v s.B ∧ Below W.heap.size W w') := by
  have nu : ShNums s.i s.t s.ns s.lim s.nxt s.hs s.ls := ShotOk.nums ok wf.i wf.t wf.nxt wf.hs wf.ls
  refine ⟨shotB_byt _ _ _ _ _ _ _, ?_, fun W h => ?_, fun W h => ?_⟩
  · show (shotB s.i s.t s.ns s.lim s.nxt s.hs s.ls).length ≤ 7990
    have := shotB_len4 nu
    omega
  · exact shot_Encode_ok W s.i s.t a.A0 a.c0 s.ns s.lim s.nxt a.A1 a.c1 s.hs a.A2 a.c2 s.ls h.n h.h h.l wf.hs wf.ls wf.nxt.2 ok nu
  · exact r06_Bytes_any W s.i s.t a.A0 a.c0 s.ns s.lim s.nxt a.A1 a.c1 s.hs a.A2 a.c2 s.ls h.n h.h h.l ok.set nu
end Go.Proofs.Ytadkkhbbempaaaa

/- Records written: the code's closure lay; the document's appends. -/
namespace Go.Proofs.Ytadkkhbbempaaaa
set_option maxRecDepth 100000
open Go.RowKit

theorem step_row {ops : Array Oper} {o : Oper} {a : Act} {K : Act → World → Prop} {Q : Exit → Act → World → Prop} {E : Prop} {W : World} (base : Nat) (hgd : o.guard = none) (s x : Operand)
    (ho : o.op = .call { callee := .builtin .append, args := #[s, x], argTypes := #[75, 75] })
    (v : Value) (l : List Int) (hs : a.eval s = v) (b2 : Nat) (v2 : Value) (l2 : List Int) (hx : a.eval x = v2) (HO : Own8 W base v l) (HX : Own8 W b2 v2 l2) (hbase : base ≤ W.heap.size) (hl : l.length + l2.length ≤ 140737488355328)
    (h : ∀ v1 w1, Own8 w1 base v1 (l ++ l2) → W.grownBy w1 v.ownBlock → K (a.put o.dst v1) w1) :
    if Region.wanted o (yielded ops a.tmps) = true then Oper.wp Try.prog o a W K Q else E := by
  obtain ⟨A2, c2, rfl⟩ := own_slice HX
  obtain ⟨i0, hi, hzz⟩ := Option.map_eq_some_iff.1 info_u8
  simp only [Prod.mk.injEq] at hzz
  obtain ⟨hz0, hz1, hz2⟩ := hzz
  refine step_append_any W hgd s x 75 ho base 5 i0 (.int .u8 0) 1 1 Try.underlying75 hi hz0 hz1 hz2 rfl (by omega) v l.length (u8s l) hs HO _ A2 _ c2 (u8s l2) hx (Reads.of_own HX) (u8s_one_cell l2) (by simp only [maxLen]; omega) (by omega) hbase ?_
  intro v1 w1 ho1 hg _
  refine h v1 w1 ?_ hg
  unfold Own8
  rw [List.length_append, u8s_append]
  exact ho1

/-- A record is being written: its cells in block g, the bytes so far a row of the call's own that the variable in block gb holds. -/
structure BW (w : World) (g gb : Nat) (wx : World) (R : Array Value) (v : Value) (lb : List Int) : Prop where
  rc : Blk wx g 48 R
  b : Blk wx gb 75 #[v]
  own : Own8 wx (g + 1) v lb
  bel : Below g w wx
section
variable {w : World} {g gb : Nat} {wx : World} {R : Array Value} {v : Value} {lb : List Int}
theorem BW.drew (h : BW w g gb wx R v lb) : BW w g gb wx.drew R v lb := ⟨h.rc, h.b, h.own, h.bel.drew⟩
theorem BW.below (h : BW w g gb wx R v lb) {w1 : World} (hb : Below wx.heap.size wx w1) : BW w g gb w1 R v lb :=
  ⟨h.rc.below hb h.rc.lt, h.b.below hb h.b.lt, own_below h.own hb, h.bel.trans (hb.mono (Nat.le_of_lt h.rc.lt))⟩
theorem BW.ne (h : BW w g gb wx R v lb) : some gb ≠ v.ownBlock := fun e => own_blk_ne h.own h.b (by decide) e.symm
theorem BW.ng (h : BW w g gb wx R v lb) : some g ≠ v.ownBlock := fun e => by have := own_base h.own g e.symm; omega
theorem BW.app (h : BW w g gb wx R v lb) (o : g < gb) {w1 : World} {v1 : Value} {l1 : List Int} (hg : wx.grownBy w1 v.ownBlock) (ho : Own8 w1 (g + 1) v1 l1) : BW w g gb (w1.setCell ⟨gb, 0, none⟩ v1) R v1 l1 := by
  have hlt := h.rc.lt
  have hb := own_base h.own
  have hb1 := h.b.grown hg h.ne
  have hr1 := h.rc.grown hg h.ng
  refine ⟨hr1.far (p := ⟨gb, 0, none⟩) (by show g ≠ gb; omega) v1, ?_, ?_, ?_⟩
  · have := hb1.set_ 0 v1
    exact this
  · exact ho.kept (only_setCell (World.grownBy.refl _ _ : w1.grownBy w1 (some gb)) (.inl rfl) v1) (.inr (fun e => own_blk_ne ho hb1 (by decide) e))
  · have k : Below g w w1 := h.bel.grown hg (by omega) (fun i hi => by have := hb i hi; omega)
    exact k.setCell (p := ⟨gb, 0, none⟩) (by show g ≤ gb; omega) v1
end

set_option maxHeartbeats 2000000 in
theorem hlay_any {w : World} {g gb : Nat} {wx : World} {R : Array Value} {v : Value} {lb : List Int} (h : BW w g gb wx R v lb) (o : g < gb) (z : Int) (hz : 0 ≤ z ∧ z < 18446744073709551616) (hlb : lb.length ≤ 1000000) :
    Calls Try.prog 47 #[.int .u64 z, .pointer (some ⟨gb, 0, none⟩)] wx fun e w' => e = .returned (.tuple #[]) ∧ ∃ v', BW w g gb w' R v' (lb ++ numB z.toNat) := by
  obtain ⟨n, rfl⟩ : ∃ n : Nat, z = (n : Int) := ⟨z.toNat, by omega⟩
  rw [Int.toNat_natCast]
  have CN := fun w => Lib.hid (num_any n (by omega) w)
  have hnb := numB_le n
  have H := Lib.hid h
  have c0 : wx.cell? ⟨gb, 0, none⟩ = some v := h.b.cell 0
  have d0 : wx.drew.cell? ⟨gb, 0, none⟩ = some v := h.b.cell 0
  have hgl := h.rc.lt
  obtain ⟨A0, k0, rfl⟩ := own_slice h.own
  clear h
  go_enter Try.func47, Try.ntmps47
  go_wp2_with fail
  go_region_law (first
    | (refine step_row (W := w5) (g + 1) rfl _ _ rfl _ lb rfl _ _ _ rfl H5.out.own HX5.out HZ5.out (by omega) ?_; intro v6 w6 ho6 hg6; obtain ⟨A6, k6, rfl⟩ := own_slice ho6; have H6 := Lib.hid (H5.out.app o hg6 ho6); have f6 : w6.frozen? ⟨gb, 0, none⟩ = false := (H5.out.b.grown hg6 H5.out.ne).frozen 0; have e6 : w6.cell? ⟨gb, 0, none⟩ = some _ := (H5.out.b.grown hg6 H5.out.ne).cell 0; clear ho6 hg6)
    | (go_simp; go_at_call 48; refine (CN _).out.mono ?_; rintro x w5 ⟨v5, rfl, ho5, hB5⟩; have H5 := Lib.hid (H.out.drew.below hB5); have HX5 := Lib.hid ho5; have HZ5 : Hid (g + 1 ≤ w5.heap.size) := H5.out.rc.lt; have c5 : w5.cell? ⟨gb, 0, none⟩ = some _ := H5.out.b.cell 0; clear ho5 hB5))
  all_goals
    go_end0
    have h6 := H6.out
    rw [List.length_append] at h6
    exact ⟨rfl, _, h6⟩
end Go.Proofs.Ytadkkhbbempaaaa

/- Records written: the code's Encode. -/
namespace Go.Proofs.Ytadkkhbbempaaaa
set_option maxRecDepth 100000
open Go.RowKit

set_option maxHeartbeats 8000000 in
theorem hard_Encode_bad (w : World) (r : Rc) (a : Ra) (hin : InR w r a) (wf : r.Wf) (m : ¬ r.May) :
    Calls Try.prog 25 #[recV r a] w fun e w' => e = .returned (.tuple #[.string ⟨#[]⟩, .int .i64 130]) ∧ Below w.heap.size w w' := by
  have hmf : ∀ (fn : Fn) (first cap : Array Value) (w : World), (Instr.makeFunc fn first cap).run Try.prog w = .ok (.func fn first cap) w := fun _ _ _ _ => rfl
  obtain ⟨g, hg⟩ : ∃ g, w.heap.size = g := ⟨_, rfl⟩
  rw [hg]
  have CM := fun W h => hard_may_any W r a h wf
  rw [decide_eq_false m] at CM
  unfold recV at CM
  have CM := Lib.hid CM
  clear m
  have hBx : Below g w (w.alloc (.cells (recC r a) 48)) := (Below.refl _ _).alloc (by omega) _
  have hb1 : Blk (w.alloc (.cells (recC r a) 48)) g 48 (recC r a) := hg ▸ Blk.new _ _ _
  have X := Lib.hid (CM.out _ (hin.keep (hg ▸ hBx)))
  have HIN := Lib.hid hin
  clear hin wf
  unfold recV
  go_enter Try.func25, Try.ntmps25
  go_upto_region 1 with (fail)
  change Code.wp _ _ _ _ (w.alloc (.cells (recC r a) 48))
  generalize (w.alloc (.cells (recC r a) 48)) = W at hb1 hBx X ⊢
  try rw [hg]
  go_wp2_with (refine wpList_load_row rfl 48 _ rfl g rfl 48 (recC r a) hb1 _ Try.underlying48 rfl info_Rec ?_)
  refine X.out.mono ?_
  rintro e w1 ⟨rfl, hB1⟩
  have hb2 := hb1.below hB1 hb1.lt
  have hB2 := hBx.trans (hB1.mono (Nat.le_of_lt hb1.lt))
  clear hb1 hBx hB1 X CM
  have HB2 := Lib.hid hB2
  clear hb2 hB2
  go_wp2
  go_ret2
  exact ⟨rfl, HB2.out⟩

set_option maxHeartbeats 8000000 in
theorem hard_Encode_1 (w : World) (r : Rc) (a : Ra) (hin : InR w r a) (wf : r.Wf) (hk : r.k = 1) (m : r.May) :
    Calls Try.prog 25 #[recV r a] w fun e w' => e = .returned (.tuple #[.string (strOfNums r.B), .int .i64 0]) ∧ Below w.heap.size w w' := by
  have hmf : ∀ (fn : Fn) (first cap : Array Value) (w : World), (Instr.makeFunc fn first cap).run Try.prog w = .ok (.func fn first cap) w := fun _ _ _ _ => rfl
  obtain ⟨g, hg⟩ : ∃ g, w.heap.size = g := ⟨_, rfl⟩
  rw [hg]
  have CM := fun W h => hard_may_any W r a h wf
  rw [decide_eq_true m] at CM
  unfold recV at CM
  have CM := Lib.hid CM
  have k1 : (r.k == 1) = true := by rw [hk]; rfl
  have k2 : (r.k == 2) = false := by rw [hk]; rfl
  have k3 : (r.k == 3) = false := by rw [hk]; rfl
  have k4 : (r.k == 4) = false := by rw [hk]; rfl
  have k5 : (r.k == 5) = false := by rw [hk]; rfl
  have wk : IntKind.u8.wrap r.k = r.k := by rw [hk]; rfl
  obtain ⟨BB, hBB⟩ : ∃ BB, r.B = BB := ⟨_, rfl⟩
  have HV : Hid (BB = [r.k] ++ numB r.bt.toNat) := by
    show _ = _
    rw [← hBB]
    unfold Rc.B
    simp [hk]
  rw [hBB]
  have wbt := Lib.hid wf.bt
  have wtm := Lib.hid wf.tm
  have wix := Lib.hid wf.ix
  have wet := Lib.hid wf.en.tm
  have n1 := numB_le r.bt.toNat
  have n2 := numB_le r.tm.toNat
  have n3 := numB_le r.v.toNat
  have n4 := numB_le r.ix.toNat
  have n5 := numB_le r.en.tm.toNat
  clear hBB m hk
  have hBx : Below g w (w.alloc (.cells (recC r a) 48)) := (Below.refl _ _).alloc (by omega) _
  have hb1 : Blk (w.alloc (.cells (recC r a) 48)) g 48 (recC r a) := hg ▸ Blk.new _ _ _
  have X := Lib.hid (CM.out _ (hin.keep (hg ▸ hBx)))
  have HIN := Lib.hid hin
  clear hin wf
  unfold recV
  go_enter Try.func25, Try.ntmps25
  go_upto_region 1 with (fail)
  change Code.wp _ _ _ _ (w.alloc (.cells (recC r a) 48))
  generalize (w.alloc (.cells (recC r a) 48)) = W at hb1 hBx X ⊢
  try rw [hg]
  go_wp2_with (refine wpList_load_row rfl 48 _ rfl g rfl 48 (recC r a) hb1 _ Try.underlying48 rfl info_Rec ?_)
  refine X.out.mono ?_
  rintro e w1 ⟨rfl, hB1⟩
  have hb2 := hb1.below hB1 hb1.lt
  have hB2 := hBx.trans (hB1.mono (Nat.le_of_lt hb1.lt))
  clear hb1 hBx hB1 X CM
  obtain ⟨gs, hgs⟩ : ∃ gs, w1.heap.size = gs := ⟨_, rfl⟩
  have hgl : g < gs := hgs ▸ hb2.lt
  obtain ⟨gb, hgb⟩ : ∃ gb, gs + 1 = gb := ⟨_, rfl⟩
  have hsz : (w1.alloc (.cells #[.int .u8 r.k] 5)).heap.size = gb := by simp [hgs, hgb]
  have hol : g < gb := by omega
  have hbw : BW w g gb ((w1.alloc (.cells #[.int .u8 r.k] 5)).alloc (.cells #[.slice (some ⟨gs, 0, none⟩) 1 1] 75)) (recC r a) (.slice (some ⟨gs, 0, none⟩) 1 1) [r.k] := by
    have hb3 : Blk ((w1.alloc (.cells #[.int .u8 r.k] 5)).alloc (.cells #[.slice (some ⟨gs, 0, none⟩) 1 1] 75)) gb 75 #[.slice (some ⟨gs, 0, none⟩) 1 1] := hsz ▸ Blk.new _ _ _
    have ho3 : Own8 ((w1.alloc (.cells #[.int .u8 r.k] 5)).alloc (.cells #[.slice (some ⟨gs, 0, none⟩) 1 1] 75)) (g + 1) (.slice (some ⟨gs, 0, none⟩) 1 1) [r.k] := by
      have := own8_one w1 (g + 1) r.k (by omega)
      rw [hgs] at this
      exact World.ownsRow.alloc this _
    exact ⟨(hb2.alloc _).alloc _, hb3, ho3, (hB2.alloc (by omega) _).alloc (by omega) _⟩
  obtain ⟨z0, z1, z2, z3, z4, z5, z6, z7, z8, z9, z10, z11, z12, z13, z14, z15, z16, z17, z18, z19, z20⟩ := hb2.rc
  clear hb2 hB2
  go_upto_region 5 with (fail)
  try simp only [hgb]
  change Code.wp _ _ _ _ ((w1.alloc (.cells #[.int .u8 r.k] 5)).alloc (.cells #[.slice (some ⟨gs, 0, none⟩) 1 1] 75))
  generalize ((w1.alloc (.cells #[.int .u8 r.k] 5)).alloc (.cells #[.slice (some ⟨gs, 0, none⟩) 1 1] 75)) = W3 at hbw ⊢
  clear hgs hgb hsz z0 z1 z2 z3 z4 z5 z6 z7 z8 z9 z10 z11 z12 z13 z14 z15 z16 z17 z18 z19 z20
  obtain ⟨v3, hv3⟩ : ∃ v3, Value.slice (some ⟨gs, 0, none⟩) 1 1 = v3 := ⟨_, rfl⟩
  rw [hv3] at hbw
  clear hv3 hgl
  have HBW := Lib.hid hbw
  obtain ⟨z0, z1, z2, z3, z4, z5, z6, z7, z8, z9, z10, z11, z12, z13, z14, z15, z16, z17, z18, z19, z20⟩ := hbw.rc.rc
  clear hbw
  have HLN : Hid (([r.k]).length ≤ 1000000) := by
    show _ ≤ _
    simp
    try omega
  go_wp2_with fail
  refine (hlay_any HBW.out hol r.bt wbt.out HLN.out).mono ?_
  rintro e w5 ⟨rfl, v5, h5⟩
  clear z0 z1 z2 z3 z4 z5 z6 z7 z8 z9 z10 z11 z12 z13 z14 z15 z16 z17 z18 z19 z20 HBW HLN
  have HBW := Lib.hid h5
  have hrc5 := h5.rc
  clear h5
  obtain ⟨z0, z1, z2, z3, z4, z5, z6, z7, z8, z9, z10, z11, z12, z13, z14, z15, z16, z17, z18, z19, z20⟩ := hrc5.rc
  clear hrc5
  clear z0 z1 z2 z3 z4 z5 z6 z7 z8 z9 z10 z11 z12 z13 z14 z15 z16 z17 z18 z19 z20
  have hf := HBW.out
  rw [← HV.out] at hf
  clear HBW HV
  have HBW := Lib.hid hf
  have c0 := hf.b.cell 0
  have hown := hf.own
  obtain ⟨A9, c9, rfl⟩ := own_slice hown
  simp only [List.getElem?_toArray, List.getElem?_cons_zero] at c0
  have hcv := conv_str _ _ A9 _ c9 _ (Reads.of_own hown)
  clear hf hown
  go_wp2
  go_ret2
  exact ⟨rfl, HBW.out.bel⟩

set_option maxHeartbeats 8000000 in
theorem hard_Encode_2 (w : World) (r : Rc) (a : Ra) (hin : InR w r a) (wf : r.Wf) (hk : r.k = 2) (m : r.May) :
    Calls Try.prog 25 #[recV r a] w fun e w' => e = .returned (.tuple #[.string (strOfNums r.B), .int .i64 0]) ∧ Below w.heap.size w w' := by
  have hmf : ∀ (fn : Fn) (first cap : Array Value) (w : World), (Instr.makeFunc fn first cap).run Try.prog w = .ok (.func fn first cap) w := fun _ _ _ _ => rfl
  obtain ⟨g, hg⟩ : ∃ g, w.heap.size = g := ⟨_, rfl⟩
  rw [hg]
  have CM := fun W h => hard_may_any W r a h wf
  rw [decide_eq_true m] at CM
  unfold recV at CM
  have CM := Lib.hid CM
  have k1 : (r.k == 1) = false := by rw [hk]; rfl
  have k2 : (r.k == 2) = true := by rw [hk]; rfl
  have k3 : (r.k == 3) = false := by rw [hk]; rfl
  have k4 : (r.k == 4) = false := by rw [hk]; rfl
  have k5 : (r.k == 5) = false := by rw [hk]; rfl
  have wk : IntKind.u8.wrap r.k = r.k := by rw [hk]; rfl
  obtain ⟨BB, hBB⟩ : ∃ BB, r.B = BB := ⟨_, rfl⟩
  have HV : Hid (BB = [r.k] ++ numB r.tm.toNat ++ numB r.v.toNat) := by
    show _ = _
    rw [← hBB]
    unfold Rc.B
    simp [hk]
  rw [hBB]
  have wbt := Lib.hid wf.bt
  have wtm := Lib.hid wf.tm
  have wix := Lib.hid wf.ix
  have wet := Lib.hid wf.en.tm
  have n1 := numB_le r.bt.toNat
  have n2 := numB_le r.tm.toNat
  have n3 := numB_le r.v.toNat
  have n4 := numB_le r.ix.toNat
  have n5 := numB_le r.en.tm.toNat
  have hv : 0 ≤ r.v ∧ r.v ≤ 7 := by
    rcases m.2 with h | h | h | h | h
    · omega
    · omega
    · omega
    · omega
    · omega
  have wv : IntKind.u64.wrap r.v = r.v := by rw [IntKind.wrap_u64]; omega
  have HVV := Lib.hid hv
  clear hv
  clear hBB m hk
  have hBx : Below g w (w.alloc (.cells (recC r a) 48)) := (Below.refl _ _).alloc (by omega) _
  have hb1 : Blk (w.alloc (.cells (recC r a) 48)) g 48 (recC r a) := hg ▸ Blk.new _ _ _
  have X := Lib.hid (CM.out _ (hin.keep (hg ▸ hBx)))
  have HIN := Lib.hid hin
  clear hin wf
  unfold recV
  go_enter Try.func25, Try.ntmps25
  go_upto_region 1 with (fail)
  change Code.wp _ _ _ _ (w.alloc (.cells (recC r a) 48))
  generalize (w.alloc (.cells (recC r a) 48)) = W at hb1 hBx X ⊢
  try rw [hg]
  go_wp2_with (refine wpList_load_row rfl 48 _ rfl g rfl 48 (recC r a) hb1 _ Try.underlying48 rfl info_Rec ?_)
  refine X.out.mono ?_
  rintro e w1 ⟨rfl, hB1⟩
  have hb2 := hb1.below hB1 hb1.lt
  have hB2 := hBx.trans (hB1.mono (Nat.le_of_lt hb1.lt))
  clear hb1 hBx hB1 X CM
  obtain ⟨gs, hgs⟩ : ∃ gs, w1.heap.size = gs := ⟨_, rfl⟩
  have hgl : g < gs := hgs ▸ hb2.lt
  obtain ⟨gb, hgb⟩ : ∃ gb, gs + 1 = gb := ⟨_, rfl⟩
  have hsz : (w1.alloc (.cells #[.int .u8 r.k] 5)).heap.size = gb := by simp [hgs, hgb]
  have hol : g < gb := by omega
  have hbw : BW w g gb ((w1.alloc (.cells #[.int .u8 r.k] 5)).alloc (.cells #[.slice (some ⟨gs, 0, none⟩) 1 1] 75)) (recC r a) (.slice (some ⟨gs, 0, none⟩) 1 1) [r.k] := by
    have hb3 : Blk ((w1.alloc (.cells #[.int .u8 r.k] 5)).alloc (.cells #[.slice (some ⟨gs, 0, none⟩) 1 1] 75)) gb 75 #[.slice (some ⟨gs, 0, none⟩) 1 1] := hsz ▸ Blk.new _ _ _
    have ho3 : Own8 ((w1.alloc (.cells #[.int .u8 r.k] 5)).alloc (.cells #[.slice (some ⟨gs, 0, none⟩) 1 1] 75)) (g + 1) (.slice (some ⟨gs, 0, none⟩) 1 1) [r.k] := by
      have := own8_one w1 (g + 1) r.k (by omega)
      rw [hgs] at this
      exact World.ownsRow.alloc this _
    exact ⟨(hb2.alloc _).alloc _, hb3, ho3, (hB2.alloc (by omega) _).alloc (by omega) _⟩
  obtain ⟨z0, z1, z2, z3, z4, z5, z6, z7, z8, z9, z10, z11, z12, z13, z14, z15, z16, z17, z18, z19, z20⟩ := hb2.rc
  clear hb2 hB2
  go_upto_region 5 with (fail)
  try simp only [hgb]
  change Code.wp _ _ _ _ ((w1.alloc (.cells #[.int .u8 r.k] 5)).alloc (.cells #[.slice (some ⟨gs, 0, none⟩) 1 1] 75))
  generalize ((w1.alloc (.cells #[.int .u8 r.k] 5)).alloc (.cells #[.slice (some ⟨gs, 0, none⟩) 1 1] 75)) = W3 at hbw ⊢
  clear hgs hgb hsz z0 z1 z2 z3 z4 z5 z6 z7 z8 z9 z10 z11 z12 z13 z14 z15 z16 z17 z18 z19 z20
  obtain ⟨v3, hv3⟩ : ∃ v3, Value.slice (some ⟨gs, 0, none⟩) 1 1 = v3 := ⟨_, rfl⟩
  rw [hv3] at hbw
  clear hv3 hgl
  have HBW := Lib.hid hbw
  obtain ⟨z0, z1, z2, z3, z4, z5, z6, z7, z8, z9, z10, z11, z12, z13, z14, z15, z16, z17, z18, z19, z20⟩ := hbw.rc.rc
  clear hbw
  have HLN : Hid (([r.k]).length ≤ 1000000) := by
    show _ ≤ _
    simp
    try omega
  go_wp2_with fail
  refine (hlay_any HBW.out hol r.tm wtm.out HLN.out).mono ?_
  rintro e w5 ⟨rfl, v5, h5⟩
  clear z0 z1 z2 z3 z4 z5 z6 z7 z8 z9 z10 z11 z12 z13 z14 z15 z16 z17 z18 z19 z20 HBW HLN
  have HBW := Lib.hid h5
  have hrc5 := h5.rc
  clear h5
  obtain ⟨z0, z1, z2, z3, z4, z5, z6, z7, z8, z9, z10, z11, z12, z13, z14, z15, z16, z17, z18, z19, z20⟩ := hrc5.rc
  clear hrc5
  have HLN : Hid (([r.k] ++ numB r.tm.toNat).length ≤ 1000000) := by
    show _ ≤ _
    simp
    try omega
  have hv9 := HVV.out
  go_wp2_with fail
  refine (hlay_any HBW.out hol r.v ⟨by omega, by omega⟩ HLN.out).mono ?_
  rintro e w6 ⟨rfl, v6, h6⟩
  clear z0 z1 z2 z3 z4 z5 z6 z7 z8 z9 z10 z11 z12 z13 z14 z15 z16 z17 z18 z19 z20 HBW HLN
  have HBW := Lib.hid h6
  have hrc6 := h6.rc
  clear h6
  obtain ⟨z0, z1, z2, z3, z4, z5, z6, z7, z8, z9, z10, z11, z12, z13, z14, z15, z16, z17, z18, z19, z20⟩ := hrc6.rc
  clear hrc6
  clear hv9
  clear z0 z1 z2 z3 z4 z5 z6 z7 z8 z9 z10 z11 z12 z13 z14 z15 z16 z17 z18 z19 z20
  have hf := HBW.out
  rw [← HV.out] at hf
  clear HBW HV
  have HBW := Lib.hid hf
  have c0 := hf.b.cell 0
  have hown := hf.own
  obtain ⟨A9, c9, rfl⟩ := own_slice hown
  simp only [List.getElem?_toArray, List.getElem?_cons_zero] at c0
  have hcv := conv_str _ _ A9 _ c9 _ (Reads.of_own hown)
  clear hf hown
  go_wp2
  go_ret2
  exact ⟨rfl, HBW.out.bel⟩

set_option maxHeartbeats 8000000 in
theorem hard_Encode_3 (w : World) (r : Rc) (a : Ra) (hin : InR w r a) (wf : r.Wf) (hk : r.k = 3) (m : r.May) :
    Calls Try.prog 25 #[recV r a] w fun e w' => e = .returned (.tuple #[.string (strOfNums r.B), .int .i64 0]) ∧ Below w.heap.size w w' := by
  have hmf : ∀ (fn : Fn) (first cap : Array Value) (w : World), (Instr.makeFunc fn first cap).run Try.prog w = .ok (.func fn first cap) w := fun _ _ _ _ => rfl
  obtain ⟨g, hg⟩ : ∃ g, w.heap.size = g := ⟨_, rfl⟩
  rw [hg]
  have CM := fun W h => hard_may_any W r a h wf
  rw [decide_eq_true m] at CM
  unfold recV at CM
  have CM := Lib.hid CM
  have k1 : (r.k == 1) = false := by rw [hk]; rfl
  have k2 : (r.k == 2) = false := by rw [hk]; rfl
  have k3 : (r.k == 3) = true := by rw [hk]; rfl
  have k4 : (r.k == 4) = false := by rw [hk]; rfl
  have k5 : (r.k == 5) = false := by rw [hk]; rfl
  have wk : IntKind.u8.wrap r.k = r.k := by rw [hk]; rfl
  obtain ⟨BB, hBB⟩ : ∃ BB, r.B = BB := ⟨_, rfl⟩
  have HV : Hid (BB = [r.k] ++ numB r.ix.toNat ++ numB r.en.tm.toNat ++ r.en.cB) := by
    show _ = _
    rw [← hBB]
    unfold Rc.B
    simp [hk]
  rw [hBB]
  have wbt := Lib.hid wf.bt
  have wtm := Lib.hid wf.tm
  have wix := Lib.hid wf.ix
  have wet := Lib.hid wf.en.tm
  have n1 := numB_le r.bt.toNat
  have n2 := numB_le r.tm.toNat
  have n3 := numB_le r.v.toNat
  have n4 := numB_le r.ix.toNat
  have n5 := numB_le r.en.tm.toNat
  have hok : r.en.ok = true := by
    rcases m.2 with h | h | h | h | h
    · omega
    · omega
    · exact h.2.2.2
    · omega
    · omega
  obtain ⟨cb1, cb2, cb3, -⟩ := cmd_both r.en wf.en hok a.A a.c
  unfold cmdV at cb3
  have CE := Lib.hid cb3
  clear cb1 cb3 hok
  clear hBB m hk
  have hBx : Below g w (w.alloc (.cells (recC r a) 48)) := (Below.refl _ _).alloc (by omega) _
  have hb1 : Blk (w.alloc (.cells (recC r a) 48)) g 48 (recC r a) := hg ▸ Blk.new _ _ _
  have X := Lib.hid (CM.out _ (hin.keep (hg ▸ hBx)))
  have HIN := Lib.hid hin
  clear hin wf
  unfold recV
  go_enter Try.func25, Try.ntmps25
  go_upto_region 1 with (fail)
  change Code.wp _ _ _ _ (w.alloc (.cells (recC r a) 48))
  generalize (w.alloc (.cells (recC r a) 48)) = W at hb1 hBx X ⊢
  try rw [hg]
  go_wp2_with (refine wpList_load_row rfl 48 _ rfl g rfl 48 (recC r a) hb1 _ Try.underlying48 rfl info_Rec ?_)
  refine X.out.mono ?_
  rintro e w1 ⟨rfl, hB1⟩
  have hb2 := hb1.below hB1 hb1.lt
  have hB2 := hBx.trans (hB1.mono (Nat.le_of_lt hb1.lt))
  clear hb1 hBx hB1 X CM
  obtain ⟨gs, hgs⟩ : ∃ gs, w1.heap.size = gs := ⟨_, rfl⟩
  have hgl : g < gs := hgs ▸ hb2.lt
  obtain ⟨gb, hgb⟩ : ∃ gb, gs + 1 = gb := ⟨_, rfl⟩
  have hsz : (w1.alloc (.cells #[.int .u8 r.k] 5)).heap.size = gb := by simp [hgs, hgb]
  have hol : g < gb := by omega
  have hbw : BW w g gb ((w1.alloc (.cells #[.int .u8 r.k] 5)).alloc (.cells #[.slice (some ⟨gs, 0, none⟩) 1 1] 75)) (recC r a) (.slice (some ⟨gs, 0, none⟩) 1 1) [r.k] := by
    have hb3 : Blk ((w1.alloc (.cells #[.int .u8 r.k] 5)).alloc (.cells #[.slice (some ⟨gs, 0, none⟩) 1 1] 75)) gb 75 #[.slice (some ⟨gs, 0, none⟩) 1 1] := hsz ▸ Blk.new _ _ _
    have ho3 : Own8 ((w1.alloc (.cells #[.int .u8 r.k] 5)).alloc (.cells #[.slice (some ⟨gs, 0, none⟩) 1 1] 75)) (g + 1) (.slice (some ⟨gs, 0, none⟩) 1 1) [r.k] := by
      have := own8_one w1 (g + 1) r.k (by omega)
      rw [hgs] at this
      exact World.ownsRow.alloc this _
    exact ⟨(hb2.alloc _).alloc _, hb3, ho3, (hB2.alloc (by omega) _).alloc (by omega) _⟩
  obtain ⟨z0, z1, z2, z3, z4, z5, z6, z7, z8, z9, z10, z11, z12, z13, z14, z15, z16, z17, z18, z19, z20⟩ := hb2.rc
  clear hb2 hB2
  go_upto_region 5 with (fail)
  try simp only [hgb]
  change Code.wp _ _ _ _ ((w1.alloc (.cells #[.int .u8 r.k] 5)).alloc (.cells #[.slice (some ⟨gs, 0, none⟩) 1 1] 75))
  generalize ((w1.alloc (.cells #[.int .u8 r.k] 5)).alloc (.cells #[.slice (some ⟨gs, 0, none⟩) 1 1] 75)) = W3 at hbw ⊢
  clear hgs hgb hsz z0 z1 z2 z3 z4 z5 z6 z7 z8 z9 z10 z11 z12 z13 z14 z15 z16 z17 z18 z19 z20
  obtain ⟨v3, hv3⟩ : ∃ v3, Value.slice (some ⟨gs, 0, none⟩) 1 1 = v3 := ⟨_, rfl⟩
  rw [hv3] at hbw
  clear hv3 hgl
  have HBW := Lib.hid hbw
  obtain ⟨z0, z1, z2, z3, z4, z5, z6, z7, z8, z9, z10, z11, z12, z13, z14, z15, z16, z17, z18, z19, z20⟩ := hbw.rc.rc
  clear hbw
  have HLN : Hid (([r.k]).length ≤ 1000000) := by
    show _ ≤ _
    simp
    try omega
  go_wp2_with fail
  refine (hlay_any HBW.out hol r.ix wix.out HLN.out).mono ?_
  rintro e w4 ⟨rfl, v4, h4⟩
  clear z0 z1 z2 z3 z4 z5 z6 z7 z8 z9 z10 z11 z12 z13 z14 z15 z16 z17 z18 z19 z20 HBW HLN
  have HBW := Lib.hid h4
  have hrc4 := h4.rc
  clear h4
  obtain ⟨z0, z1, z2, z3, z4, z5, z6, z7, z8, z9, z10, z11, z12, z13, z14, z15, z16, z17, z18, z19, z20⟩ := hrc4.rc
  clear hrc4
  have HLN : Hid (([r.k] ++ numB r.ix.toNat).length ≤ 1000000) := by
    show _ ≤ _
    simp
    try omega
  go_wp2_with fail
  refine (hlay_any HBW.out hol r.en.tm wet.out HLN.out).mono ?_
  rintro e w5 ⟨rfl, v5, h5⟩
  clear z0 z1 z2 z3 z4 z5 z6 z7 z8 z9 z10 z11 z12 z13 z14 z15 z16 z17 z18 z19 z20 HBW HLN
  have HBW := Lib.hid h5
  have hrc5 := h5.rc
  clear h5
  obtain ⟨z0, z1, z2, z3, z4, z5, z6, z7, z8, z9, z10, z11, z12, z13, z14, z15, z16, z17, z18, z19, z20⟩ := hrc5.rc
  clear hrc5
  have HLN : Hid (([r.k] ++ numB r.ix.toNat ++ numB r.en.tm.toNat).length ≤ 1000000) := by
    show _ ≤ _
    simp
    try omega
  go_wp2_with fail
  refine (CE.out _ (HIN.out.keep (hg ▸ HBW.out.bel)).l).mono ?_
  rintro e w6 ⟨v6, rfl, ho6, hB6⟩
  have HBW6 := Lib.hid (HBW.out.below hB6)
  have HX6 := Lib.hid ho6
  clear z0 z1 z2 z3 z4 z5 z6 z7 z8 z9 z10 z11 z12 z13 z14 z15 z16 z17 z18 z19 z20 HBW ho6 hB6
  have c6 := HBW6.out.b.cell 0
  simp only [List.getElem?_toArray, List.getElem?_cons_zero] at c6
  have hz6 := HBW6.out.rc.lt
  have hln6 := HLN.out
  go_wp2_with (at_builtin; refine app_row (w0 := w6) (g + 1) rfl _ _ rfl _ ([r.k] ++ numB r.ix.toNat ++ numB r.en.tm.toNat) rfl _ _ _ rfl HBW6.out.own HX6.out (Below.refl _ _) hz6 (by omega) ?_; intro v7 w7 ho7 hB7 hG7; rw [← HV.out] at ho7; obtain ⟨A7, k7, rfl⟩ := own_slice ho7; have f7 : w7.frozen? ⟨gb, 0, none⟩ = false := (HBW6.out.b.grown (hG7 _ _ (Grow.refl _ _)).grown HBW6.out.ne).frozen 0; have e7 : w7.cell? ⟨gb, 0, none⟩ = some _ := (HBW6.out.b.grown (hG7 _ _ (Grow.refl _ _)).grown HBW6.out.ne).cell 0; have HBW7 := Lib.hid (HBW6.out.app hol (hG7 _ _ (Grow.refl _ _)).grown ho7); have hcv := conv_str _ _ A7 _ k7 _ (Reads.of_own HBW7.out.own); clear ho7 hB7 hG7)
  go_ret2
  exact ⟨rfl, HBW7.out.bel⟩

set_option maxHeartbeats 8000000 in
theorem hard_Encode_4 (w : World) (r : Rc) (a : Ra) (hin : InR w r a) (wf : r.Wf) (hk : r.k = 4) (m : r.May) :
    Calls Try.prog 25 #[recV r a] w fun e w' => e = .returned (.tuple #[.string (strOfNums r.B), .int .i64 0]) ∧ Below w.heap.size w w' := by
  have hmf : ∀ (fn : Fn) (first cap : Array Value) (w : World), (Instr.makeFunc fn first cap).run Try.prog w = .ok (.func fn first cap) w := fun _ _ _ _ => rfl
  obtain ⟨g, hg⟩ : ∃ g, w.heap.size = g := ⟨_, rfl⟩
  rw [hg]
  have CM := fun W h => hard_may_any W r a h wf
  rw [decide_eq_true m] at CM
  unfold recV at CM
  have CM := Lib.hid CM
  have k1 : (r.k == 1) = false := by rw [hk]; rfl
  have k2 : (r.k == 2) = false := by rw [hk]; rfl
  have k3 : (r.k == 3) = false := by rw [hk]; rfl
  have k4 : (r.k == 4) = true := by rw [hk]; rfl
  have k5 : (r.k == 5) = false := by rw [hk]; rfl
  have wk : IntKind.u8.wrap r.k = r.k := by rw [hk]; rfl
  obtain ⟨BB, hBB⟩ : ∃ BB, r.B = BB := ⟨_, rfl⟩
  have HV : Hid (BB = [r.k] ++ numB r.ix.toNat) := by
    show _ = _
    rw [← hBB]
    unfold Rc.B
    simp [hk]
  rw [hBB]
  have wbt := Lib.hid wf.bt
  have wtm := Lib.hid wf.tm
  have wix := Lib.hid wf.ix
  have wet := Lib.hid wf.en.tm
  have n1 := numB_le r.bt.toNat
  have n2 := numB_le r.tm.toNat
  have n3 := numB_le r.v.toNat
  have n4 := numB_le r.ix.toNat
  have n5 := numB_le r.en.tm.toNat
  clear hBB m hk
  have hBx : Below g w (w.alloc (.cells (recC r a) 48)) := (Below.refl _ _).alloc (by omega) _
  have hb1 : Blk (w.alloc (.cells (recC r a) 48)) g 48 (recC r a) := hg ▸ Blk.new _ _ _
  have X := Lib.hid (CM.out _ (hin.keep (hg ▸ hBx)))
  have HIN := Lib.hid hin
  clear hin wf
  unfold recV
  go_enter Try.func25, Try.ntmps25
  go_upto_region 1 with (fail)
  change Code.wp _ _ _ _ (w.alloc (.cells (recC r a) 48))
  generalize (w.alloc (.cells (recC r a) 48)) = W at hb1 hBx X ⊢
  try rw [hg]
  go_wp2_with (refine wpList_load_row rfl 48 _ rfl g rfl 48 (recC r a) hb1 _ Try.underlying48 rfl info_Rec ?_)
  refine X.out.mono ?_
  rintro e w1 ⟨rfl, hB1⟩
  have hb2 := hb1.below hB1 hb1.lt
  have hB2 := hBx.trans (hB1.mono (Nat.le_of_lt hb1.lt))
  clear hb1 hBx hB1 X CM
  obtain ⟨gs, hgs⟩ : ∃ gs, w1.heap.size = gs := ⟨_, rfl⟩
  have hgl : g < gs := hgs ▸ hb2.lt
  obtain ⟨gb, hgb⟩ : ∃ gb, gs + 1 = gb := ⟨_, rfl⟩
  have hsz : (w1.alloc (.cells #[.int .u8 r.k] 5)).heap.size = gb := by simp [hgs, hgb]
  have hol : g < gb := by omega
  have hbw : BW w g gb ((w1.alloc (.cells #[.int .u8 r.k] 5)).alloc (.cells #[.slice (some ⟨gs, 0, none⟩) 1 1] 75)) (recC r a) (.slice (some ⟨gs, 0, none⟩) 1 1) [r.k] := by
    have hb3 : Blk ((w1.alloc (.cells #[.int .u8 r.k] 5)).alloc (.cells #[.slice (some ⟨gs, 0, none⟩) 1 1] 75)) gb 75 #[.slice (some ⟨gs, 0, none⟩) 1 1] := hsz ▸ Blk.new _ _ _
    have ho3 : Own8 ((w1.alloc (.cells #[.int .u8 r.k] 5)).alloc (.cells #[.slice (some ⟨gs, 0, none⟩) 1 1] 75)) (g + 1) (.slice (some ⟨gs, 0, none⟩) 1 1) [r.k] := by
      have := own8_one w1 (g + 1) r.k (by omega)
      rw [hgs] at this
      exact World.ownsRow.alloc this _
    exact ⟨(hb2.alloc _).alloc _, hb3, ho3, (hB2.alloc (by omega) _).alloc (by omega) _⟩
  obtain ⟨z0, z1, z2, z3, z4, z5, z6, z7, z8, z9, z10, z11, z12, z13, z14, z15, z16, z17, z18, z19, z20⟩ := hb2.rc
  clear hb2 hB2
  go_upto_region 5 with (fail)
  try simp only [hgb]
  change Code.wp _ _ _ _ ((w1.alloc (.cells #[.int .u8 r.k] 5)).alloc (.cells #[.slice (some ⟨gs, 0, none⟩) 1 1] 75))
  generalize ((w1.alloc (.cells #[.int .u8 r.k] 5)).alloc (.cells #[.slice (some ⟨gs, 0, none⟩) 1 1] 75)) = W3 at hbw ⊢
  clear hgs hgb hsz z0 z1 z2 z3 z4 z5 z6 z7 z8 z9 z10 z11 z12 z13 z14 z15 z16 z17 z18 z19 z20
  obtain ⟨v3, hv3⟩ : ∃ v3, Value.slice (some ⟨gs, 0, none⟩) 1 1 = v3 := ⟨_, rfl⟩
  rw [hv3] at hbw
  clear hv3 hgl
  have HBW := Lib.hid hbw
  obtain ⟨z0, z1, z2, z3, z4, z5, z6, z7, z8, z9, z10, z11, z12, z13, z14, z15, z16, z17, z18, z19, z20⟩ := hbw.rc.rc
  clear hbw
  have HLN : Hid (([r.k]).length ≤ 1000000) := by
    show _ ≤ _
    simp
    try omega
  go_wp2_with fail
  refine (hlay_any HBW.out hol r.ix wix.out HLN.out).mono ?_
  rintro e w5 ⟨rfl, v5, h5⟩
  clear z0 z1 z2 z3 z4 z5 z6 z7 z8 z9 z10 z11 z12 z13 z14 z15 z16 z17 z18 z19 z20 HBW HLN
  have HBW := Lib.hid h5
  have hrc5 := h5.rc
  clear h5
  obtain ⟨z0, z1, z2, z3, z4, z5, z6, z7, z8, z9, z10, z11, z12, z13, z14, z15, z16, z17, z18, z19, z20⟩ := hrc5.rc
  clear hrc5
  clear z0 z1 z2 z3 z4 z5 z6 z7 z8 z9 z10 z11 z12 z13 z14 z15 z16 z17 z18 z19 z20
  have hf := HBW.out
  rw [← HV.out] at hf
  clear HBW HV
  have HBW := Lib.hid hf
  have c0 := hf.b.cell 0
  have hown := hf.own
  obtain ⟨A9, c9, rfl⟩ := own_slice hown
  simp only [List.getElem?_toArray, List.getElem?_cons_zero] at c0
  have hcv := conv_str _ _ A9 _ c9 _ (Reads.of_own hown)
  clear hf hown
  go_wp2
  go_ret2
  exact ⟨rfl, HBW.out.bel⟩

set_option maxHeartbeats 8000000 in
theorem hard_Encode_5 (w : World) (r : Rc) (a : Ra) (hin : InR w r a) (wf : r.Wf) (hk : r.k = 5) (m : r.May) :
    Calls Try.prog 25 #[recV r a] w fun e w' => e = .returned (.tuple #[.string (strOfNums r.B), .int .i64 0]) ∧ Below w.heap.size w w' := by
  have hmf : ∀ (fn : Fn) (first cap : Array Value) (w : World), (Instr.makeFunc fn first cap).run Try.prog w = .ok (.func fn first cap) w := fun _ _ _ _ => rfl
  obtain ⟨g, hg⟩ : ∃ g, w.heap.size = g := ⟨_, rfl⟩
  rw [hg]
  have CM := fun W h => hard_may_any W r a h wf
  rw [decide_eq_true m] at CM
  unfold recV at CM
  have CM := Lib.hid CM
  have k1 : (r.k == 1) = false := by rw [hk]; rfl
  have k2 : (r.k == 2) = false := by rw [hk]; rfl
  have k3 : (r.k == 3) = false := by rw [hk]; rfl
  have k4 : (r.k == 4) = false := by rw [hk]; rfl
  have k5 : (r.k == 5) = true := by rw [hk]; rfl
  have wk : IntKind.u8.wrap r.k = r.k := by rw [hk]; rfl
  obtain ⟨BB, hBB⟩ : ∃ BB, r.B = BB := ⟨_, rfl⟩
  have HV : Hid (BB = [r.k] ++ r.sh.B) := by
    show _ = _
    rw [← hBB]
    unfold Rc.B
    simp [hk]
  rw [hBB]
  have wbt := Lib.hid wf.bt
  have wtm := Lib.hid wf.tm
  have wix := Lib.hid wf.ix
  have wet := Lib.hid wf.en.tm
  have n1 := numB_le r.bt.toNat
  have n2 := numB_le r.tm.toNat
  have n3 := numB_le r.v.toNat
  have n4 := numB_le r.ix.toNat
  have n5 := numB_le r.en.tm.toNat
  have hok : r.sh.Ok := by
    rcases m.2 with h | h | h | h | h
    · omega
    · omega
    · omega
    · omega
    · exact h.2
  obtain ⟨cb1, cb2, cb3, -⟩ := sh_both r.sh wf.sh hok a.s
  unfold shtV at cb3
  have CE := Lib.hid cb3
  clear cb1 cb3 hok
  clear hBB m hk
  have hBx : Below g w (w.alloc (.cells (recC r a) 48)) := (Below.refl _ _).alloc (by omega) _
  have hb1 : Blk (w.alloc (.cells (recC r a) 48)) g 48 (recC r a) := hg ▸ Blk.new _ _ _
  have X := Lib.hid (CM.out _ (hin.keep (hg ▸ hBx)))
  have HIN := Lib.hid hin
  clear hin wf
  unfold recV
  go_enter Try.func25, Try.ntmps25
  go_upto_region 1 with (fail)
  change Code.wp _ _ _ _ (w.alloc (.cells (recC r a) 48))
  generalize (w.alloc (.cells (recC r a) 48)) = W at hb1 hBx X ⊢
  try rw [hg]
  go_wp2_with (refine wpList_load_row rfl 48 _ rfl g rfl 48 (recC r a) hb1 _ Try.underlying48 rfl info_Rec ?_)
  refine X.out.mono ?_
  rintro e w1 ⟨rfl, hB1⟩
  have hb2 := hb1.below hB1 hb1.lt
  have hB2 := hBx.trans (hB1.mono (Nat.le_of_lt hb1.lt))
  clear hb1 hBx hB1 X CM
  obtain ⟨gs, hgs⟩ : ∃ gs, w1.heap.size = gs := ⟨_, rfl⟩
  have hgl : g < gs := hgs ▸ hb2.lt
  obtain ⟨gb, hgb⟩ : ∃ gb, gs + 1 = gb := ⟨_, rfl⟩
  have hsz : (w1.alloc (.cells #[.int .u8 r.k] 5)).heap.size = gb := by simp [hgs, hgb]
  have hol : g < gb := by omega
  have hbw : BW w g gb ((w1.alloc (.cells #[.int .u8 r.k] 5)).alloc (.cells #[.slice (some ⟨gs, 0, none⟩) 1 1] 75)) (recC r a) (.slice (some ⟨gs, 0, none⟩) 1 1) [r.k] := by
    have hb3 : Blk ((w1.alloc (.cells #[.int .u8 r.k] 5)).alloc (.cells #[.slice (some ⟨gs, 0, none⟩) 1 1] 75)) gb 75 #[.slice (some ⟨gs, 0, none⟩) 1 1] := hsz ▸ Blk.new _ _ _
    have ho3 : Own8 ((w1.alloc (.cells #[.int .u8 r.k] 5)).alloc (.cells #[.slice (some ⟨gs, 0, none⟩) 1 1] 75)) (g + 1) (.slice (some ⟨gs, 0, none⟩) 1 1) [r.k] := by
      have := own8_one w1 (g + 1) r.k (by omega)
      rw [hgs] at this
      exact World.ownsRow.alloc this _
    exact ⟨(hb2.alloc _).alloc _, hb3, ho3, (hB2.alloc (by omega) _).alloc (by omega) _⟩
  obtain ⟨z0, z1, z2, z3, z4, z5, z6, z7, z8, z9, z10, z11, z12, z13, z14, z15, z16, z17, z18, z19, z20⟩ := hb2.rc
  clear hb2 hB2
  go_upto_region 5 with (fail)
  try simp only [hgb]
  change Code.wp _ _ _ _ ((w1.alloc (.cells #[.int .u8 r.k] 5)).alloc (.cells #[.slice (some ⟨gs, 0, none⟩) 1 1] 75))
  generalize ((w1.alloc (.cells #[.int .u8 r.k] 5)).alloc (.cells #[.slice (some ⟨gs, 0, none⟩) 1 1] 75)) = W3 at hbw ⊢
  clear hgs hgb hsz z0 z1 z2 z3 z4 z5 z6 z7 z8 z9 z10 z11 z12 z13 z14 z15 z16 z17 z18 z19 z20
  obtain ⟨v3, hv3⟩ : ∃ v3, Value.slice (some ⟨gs, 0, none⟩) 1 1 = v3 := ⟨_, rfl⟩
  rw [hv3] at hbw
  clear hv3 hgl
  have HBW := Lib.hid hbw
  obtain ⟨z0, z1, z2, z3, z4, z5, z6, z7, z8, z9, z10, z11, z12, z13, z14, z15, z16, z17, z18, z19, z20⟩ := hbw.rc.rc
  clear hbw
  have HLN : Hid (([r.k]).length ≤ 1000000) := by
    show _ ≤ _
    simp
    try omega
  go_wp2_with fail
  refine (CE.out _ (HIN.out.keep (hg ▸ HBW.out.bel)).sh).mono ?_
  rintro e w6 ⟨v6, rfl, ho6, hB6⟩
  have HBW6 := Lib.hid (HBW.out.below hB6)
  have HX6 := Lib.hid ho6
  clear z0 z1 z2 z3 z4 z5 z6 z7 z8 z9 z10 z11 z12 z13 z14 z15 z16 z17 z18 z19 z20 HBW ho6 hB6
  have c6 := HBW6.out.b.cell 0
  simp only [List.getElem?_toArray, List.getElem?_cons_zero] at c6
  have hz6 := HBW6.out.rc.lt
  have hln6 := HLN.out
  go_wp2_with (at_builtin; refine app_row (w0 := w6) (g + 1) rfl _ _ rfl _ ([r.k]) rfl _ _ _ rfl HBW6.out.own HX6.out (Below.refl _ _) hz6 (by omega) ?_; intro v7 w7 ho7 hB7 hG7; rw [← HV.out] at ho7; obtain ⟨A7, k7, rfl⟩ := own_slice ho7; have f7 : w7.frozen? ⟨gb, 0, none⟩ = false := (HBW6.out.b.grown (hG7 _ _ (Grow.refl _ _)).grown HBW6.out.ne).frozen 0; have e7 : w7.cell? ⟨gb, 0, none⟩ = some _ := (HBW6.out.b.grown (hG7 _ _ (Grow.refl _ _)).grown HBW6.out.ne).cell 0; have HBW7 := Lib.hid (HBW6.out.app hol (hG7 _ _ (Grow.refl _ _)).grown ho7); have hcv := conv_str _ _ A7 _ k7 _ (Reads.of_own HBW7.out.own); clear ho7 hB7 hG7)
  go_ret2
  exact ⟨rfl, HBW7.out.bel⟩

end Go.Proofs.Ytadkkhbbempaaaa
