/- Ledgers: the code's Check. -/
import Derived.Test.YtadkkhbbempaaaaLedM
import Derived.Deep.DeepCutAuto
namespace Go.Proofs.Ytadkkhbbempaaaa
set_option maxRecDepth 100000
open Go.RowKit

set_option maxRecDepth 100000 in
set_option maxHeartbeats 8000000 in
theorem ledger_Check_any (w : World) (lim nxt : Int) (Ah : Option Addr) (ch : Nat) (hs : List Hd) (Al : Option Addr) (cl : Nat) (ls : List Ls) (hh : InS hdC 5 w Ah ch hs) (hl : InS lsC 6 w Al cl ls)
    (hw1 : ∀ h ∈ hs, h.Wf) (hw2 : ∀ x ∈ ls, x.Wf) (hn : nxt < 18446744073709551616) :
    Calls Try.prog 67 #[ledV lim nxt (.slice Ah hs.length ch) (.slice Al ls.length cl)] w fun e w' => e = .returned (.int .i64 (errLed (decide (LedOk lim nxt hs ls)))) ∧ Below w.heap.size w w' := by
  have HH := Lib.hid hh
  have HL := Lib.hid hl
  have HW1 := Lib.hid hw1
  have HW2 := Lib.hid hw2
  have HN := Lib.hid hn
  have hsz1 := hh.small
  have hsz2 := hl.small
  have hcp1 := hh.cap
  have hcp2 := hl.cap
  obtain ⟨B, hB⟩ : ∃ B, decide (LedOk lim nxt hs ls) = B := ⟨_, rfl⟩
  rw [hB]
  have HOK := Lib.hid hB
  obtain ⟨g, hg⟩ : ∃ g, w.heap.size = g := ⟨_, rfl⟩
  rw [hg]
  have hb0 : Blk (w.alloc (.cells (ledC lim nxt (.slice Ah hs.length ch) (.slice Al ls.length cl)) 27)) g 27 (ledC lim nxt (.slice Ah hs.length ch) (.slice Al ls.length cl)) := hg ▸ Blk.new _ _ _
  have hB0 : Below g w (w.alloc (.cells (ledC lim nxt (.slice Ah hs.length ch) (.slice Al ls.length cl)) 27)) := (Below.refl _ _).alloc (by omega) _
  clear hB hh hl hw1 hw2 hn
  have CN := Lib.hid (fun W n => ledger_node_any W n)
  have CA := fun W hl ll cod tok ser h1 h2 => ledger_answer_any W lim nxt hl ll cod tok ser h1 h2
  unfold ledV at CA ⊢
  have CA := Lib.hid CA
  go_enter Try.func67, Try.ntmps67
  go_upto_region 1 with (fail)
  change Code.wp _ _ _ _ (w.alloc (.cells (ledC lim nxt (.slice Ah hs.length ch) (.slice Al ls.length cl)) 27))
  generalize (w.alloc (.cells (ledC lim nxt (.slice Ah hs.length ch) (.slice Al ls.length cl)) 27)) = W at hb0 hB0 ⊢
  obtain ⟨q0, q1, q2, q3⟩ := hb0.led
  go_cut [3] (fun x wx => x = .bool (headB lim nxt hs.length) ∧ wx = W)
  case first =>
    by_cases h1 : 1 ≤ lim
    rotate_left
    · go_wp2
      go_meet
      case rel => exact ⟨by rw [headB, show decide (1 ≤ lim) = false from decide_eq_false (by omega)]; rfl, rfl⟩
    by_cases h2 : lim ≤ 65535
    rotate_left
    · go_wp2
      go_meet
      case rel => exact ⟨by rw [headB, show decide (1 ≤ lim) = true from decide_eq_true (by omega), show decide (lim ≤ 65535) = false from decide_eq_false (by omega)]; rfl, rfl⟩
    by_cases h3 : 1 ≤ nxt
    rotate_left
    · go_wp2
      go_meet
      case rel => exact ⟨by rw [headB, show decide (1 ≤ lim) = true from decide_eq_true (by omega), show decide (lim ≤ 65535) = true from decide_eq_true (by omega), show decide (1 ≤ nxt) = false from decide_eq_false (by omega)]; rfl, rfl⟩
    go_wp2
    go_meet
    case rel => exact ⟨by rw [headB, show decide (1 ≤ lim) = true from decide_eq_true (by omega), show decide (lim ≤ 65535) = true from decide_eq_true (by omega), show decide (1 ≤ nxt) = true from decide_eq_true (by omega)]; rfl, rfl⟩
  case rest =>
  obtain ⟨rfl, hcw⟩ := hcut
  obtain rfl := hcw.symm
  obtain ⟨HB, hHB⟩ : ∃ HB, headB lim nxt hs.length = HB := ⟨_, rfl⟩
  rw [hHB]
  have HHB := Lib.hid hHB
  clear hHB q0 q1 q2 q3
  have hmm := @run_makeMap Try.prog
  obtain ⟨M, hM⟩ : ∃ M, W.heap.size = M := ⟨_, rfl⟩
  have hltM : g < M := hM ▸ hb0.lt
  have hb1 := hb0.alloc (.map #[] 0)
  have hB1 : Below g w (W.alloc (.map #[] 0)) := hB0.alloc (by omega) _
  have H0 : Hid (Cnt (W.alloc (.map #[] 0)) M 0 (cntS hs 0)) := hM ▸ Cnt.made W
  clear hB0 hb0
  go_upto_region 3 with (fail)
  change Code.wp _ _ _ _ (W.alloc (.map #[] 0))
  generalize W.alloc (.map #[] 0) = W1 at hb1 hB1 H0 ⊢
  try rw [hM]
  clear hM hmm

  obtain ⟨q0, q1, q2, q3⟩ := hb1.led
  go_wp2_with fail
  clear q0 q1 q2 q3
  go_loopw [3, 5, 7, 34] (fun gd tk _ i wr => ∃ (k : Nat) (G : Bool), gd = .bool G ∧ tk = .int .i64 (prevT hs k) ∧ i = .int .i64 (k : Int) ∧ k ≤ hs.length ∧ (G = true ↔ (HB = true ∧ HdsOk lim nxt hs k)) ∧ Cnt wr M k (cntS hs k) ∧ Blk wr g 27 (ledC lim nxt (.slice Ah hs.length ch) (.slice Al ls.length cl)) ∧ Below g w wr) (fun _ _ _ i _ => hs.length - (intOf i).toNat)
  case atStart => exact ⟨0, HB, rfl, rfl, rfl, by omega, ⟨fun h => ⟨h, HdsOk.zero⟩, fun h => h.1⟩, H0.out, hb1, hB1⟩
  case round =>
    clear H0 hb1 hB1
    obtain ⟨k, G, rfl, rfl, rfl, hk, hG, hcn, hbr, hBr⟩ := hrel
    have HG := Lib.hid hG
    have HBB := Lib.hid hBr
    by_cases hlt : k < hs.length
    · obtain ⟨b, off, rfl, hbl, hall⟩ := (HH.out.keep (by rw [hg]; exact hBr)).hd (by omega)
      have hd := hall k hlt
      have hwx := HW1.out _ (List.getElem_mem hlt)
      obtain ⟨x, hx⟩ : ∃ x, hs[k] = x := ⟨_, rfl⟩
      rw [hx] at hd hwx
      have HX := Lib.hid hx
      obtain ⟨q0, q1, q2, q3⟩ := hbr.led
      obtain ⟨c0, c1, c2, c3, c4⟩ := hd
      obtain ⟨gh, hgh⟩ : ∃ gh, wr.heap.size = gh := ⟨_, rfl⟩
      have hlt0 : g < gh := hgh ▸ hbr.lt
      have hlM : M < gh := hgh ▸ hcn.lt
      have hnew : Blk (wr.alloc (.cells (hdA x) 98)) gh 98 (hdA x) := hgh ▸ Blk.new _ _ _
      have hbr2 := hbr.alloc (.cells (hdA x) 98)
      have hcn2 := hcn.alloc (.cells (hdA x) 98)
      have hBr2 := hBr.alloc (by omega) (.cells (hdA x) 98)
      have hws : (Lit.int .u64 x.ser).wf = true := by
        have := hwx.ser
        simp [Lit.wf, IntKind.min, IntKind.max, IntKind.bits, IntKind.signed]
        omega
      clear hall hG hcn hBr hbr hx hwx
      go_upto_region 7 with (fail)
      change Code.wp _ _ _ _ (wr.alloc (.cells (hdA x) 98))
      generalize wr.alloc (.cells (hdA x) 98) = W2 at hnew hbr2 hcn2 hBr2 ⊢
      try rw [hgh]
      clear c0 c1 c2 c3 c4 q0 q1 q2 q3 hgh hbl
      obtain ⟨q0, q1, q2, q3⟩ := hbr2.led
      have d0 : W2.cell? ⟨gh, 0, none⟩ = some (.int .i64 x.tok) := (hnew.cell 0).trans rfl
      have d1 : W2.cell? ⟨gh, 1, none⟩ = some (.int .i64 x.nod) := (hnew.cell 1).trans rfl
      have d2 : W2.cell? ⟨gh, 2, none⟩ = some (.int .u64 x.bt) := (hnew.cell 2).trans rfl
      have d3 : W2.cell? ⟨gh, 3, none⟩ = some (.int .u64 x.ser) := (hnew.cell 3).trans rfl
      have d4 : W2.cell? ⟨gh, 4, none⟩ = some (.int .u64 x.stp) := (hnew.cell 4).trans rfl
      have hlook := hcn2.look hws
      have hcle := cntS_le hs k x.ser
      obtain ⟨w3, hupd, hc3, hg3⟩ := hcn2.upd hws (by unfold maxLen; omega) (by omega)
      have HC3 : Hid (Cnt w3 M (k + 1) (cntS hs (k + 1))) := by
        show Cnt _ _ _ _
        rw [cntS_succ hlt, HX.out]
        exact hc3
      have HB3 : Hid (Blk w3 g 27 (ledC lim nxt (.slice (some ⟨b, off, none⟩) hs.length ch) (.slice Al ls.length cl))) := hbr2.grown hg3 (fun hh => by injection hh with hh; omega)
      have HBE3 : Hid (Below g w w3) := hBr2.grown hg3 (by have := hbr2.lt; omega) (fun i hi => by injection hi with hi; omega)
      have d5 : w3.cell? ⟨gh, 0, none⟩ = some (.int .i64 x.tok) := hg3.cell d0 (show some gh ≠ some M from fun hh => by injection hh with hh; omega)
      obtain ⟨cn, hcnE⟩ : ∃ cn, cntS hs k x.ser = cn := ⟨_, rfl⟩
      rw [hcnE] at hlook hupd hcle
      have HCN := Lib.hid hcnE
      obtain ⟨T, hT⟩ : ∃ T, prevT hs k = T := ⟨_, rfl⟩
      rw [hT]
      have HT := Lib.hid hT
      have hwr : IntKind.i64.wrap ((cn : Int) + 1) = (cn : Int) + 1 := by simp [IntKind.wrap_i64]; omega
      clear hcn2 hbr2 hBr2 hnew hc3 hg3 hcnE hT
      go_cut [3] (fun y wx => y = .bool (G && hdB lim nxt T cn x) ∧ wx = W2)
      case first =>
        clear hupd hwr d5
        cases G
        · go_wp2
          go_meet
          case rel => exact ⟨rfl, rfl⟩
        by_cases h1 : T < x.tok
        rotate_left
        · have H1 : Hid (decide (T < x.tok) = false) := decide_eq_false h1
          have e1 : decide (T < x.tok) = false := H1.out
          go_wp2
          go_meet
          case rel => exact ⟨by rw [Bool.true_and, hdB, H1.out]; rfl, rfl⟩
        have H1 : Hid (decide (T < x.tok) = true) := decide_eq_true h1
        have e1 : decide (T < x.tok) = true := H1.out
        by_cases h2 : x.tok ≤ lim
        rotate_left
        · have H2 : Hid (decide (x.tok ≤ lim) = false) := decide_eq_false h2
          have e2 : decide (x.tok ≤ lim) = false := H2.out
          go_wp2
          go_meet
          case rel => exact ⟨by rw [Bool.true_and, hdB, H1.out, H2.out]; rfl, rfl⟩
        have H2 : Hid (decide (x.tok ≤ lim) = true) := decide_eq_true h2
        have e2 : decide (x.tok ≤ lim) = true := H2.out
        by_cases h3 : 1 ≤ x.nod ∧ x.nod ≤ 7
        rotate_left
        · have H3 : Hid (decide (1 ≤ x.nod ∧ x.nod ≤ 7) = false) := decide_eq_false h3
          have e3 : decide (1 ≤ x.nod ∧ x.nod ≤ 7) = false := H3.out
          go_wp2_with fail
          refine (CN.out _ _).mono ?_
          rintro e w9 ⟨rfl, hw9⟩
          obtain rfl := hw9.symm
          go_wp2
          go_meet
          case rel => exact ⟨by rw [Bool.true_and, hdB, H1.out, H2.out, H3.out]; rfl, rfl⟩
        have H3 : Hid (decide (1 ≤ x.nod ∧ x.nod ≤ 7) = true) := decide_eq_true h3
        have e3 : decide (1 ≤ x.nod ∧ x.nod ≤ 7) = true := H3.out
        by_cases h4 : 1 ≤ x.bt
        rotate_left
        · have H4 : Hid (decide (1 ≤ x.bt) = false) := decide_eq_false h4
          have e4 : decide (1 ≤ x.bt) = false := H4.out
          go_wp2_with fail
          refine (CN.out _ _).mono ?_
          rintro e w9 ⟨rfl, hw9⟩
          obtain rfl := hw9.symm
          go_wp2
          go_meet
          case rel => exact ⟨by rw [Bool.true_and, hdB, H1.out, H2.out, H3.out, H4.out]; rfl, rfl⟩
        have H4 : Hid (decide (1 ≤ x.bt) = true) := decide_eq_true h4
        have e4 : decide (1 ≤ x.bt) = true := H4.out
        by_cases h5 : 1 ≤ x.stp
        rotate_left
        · have H5 : Hid (decide (1 ≤ x.stp) = false) := decide_eq_false h5
          have e5 : decide (1 ≤ x.stp) = false := H5.out
          go_wp2_with fail
          refine (CN.out _ _).mono ?_
          rintro e w9 ⟨rfl, hw9⟩
          obtain rfl := hw9.symm
          go_wp2
          go_meet
          case rel => exact ⟨by rw [Bool.true_and, hdB, H1.out, H2.out, H3.out, H4.out, H5.out]; rfl, rfl⟩
        have H5 : Hid (decide (1 ≤ x.stp) = true) := decide_eq_true h5
        have e5 : decide (1 ≤ x.stp) = true := H5.out
        by_cases h6 : 1 ≤ x.ser
        rotate_left
        · have H6 : Hid (decide (1 ≤ x.ser) = false) := decide_eq_false h6
          have e6 : decide (1 ≤ x.ser) = false := H6.out
          go_wp2_with fail
          refine (CN.out _ _).mono ?_
          rintro e w9 ⟨rfl, hw9⟩
          obtain rfl := hw9.symm
          go_wp2
          go_meet
          case rel => exact ⟨by rw [Bool.true_and, hdB, H1.out, H2.out, H3.out, H4.out, H5.out, H6.out]; rfl, rfl⟩
        have H6 : Hid (decide (1 ≤ x.ser) = true) := decide_eq_true h6
        have e6 : decide (1 ≤ x.ser) = true := H6.out
        by_cases h7 : x.ser < nxt
        rotate_left
        · have H7 : Hid (decide (x.ser < nxt) = false) := decide_eq_false h7
          have e7 : decide (x.ser < nxt) = false := H7.out
          go_wp2_with fail
          refine (CN.out _ _).mono ?_
          rintro e w9 ⟨rfl, hw9⟩
          obtain rfl := hw9.symm
          go_wp2
          go_meet
          case rel => exact ⟨by rw [Bool.true_and, hdB, H1.out, H2.out, H3.out, H4.out, H5.out, H6.out, H7.out]; rfl, rfl⟩
        have H7 : Hid (decide (x.ser < nxt) = true) := decide_eq_true h7
        have e7 : decide (x.ser < nxt) = true := H7.out
        by_cases h8 : (cn : Int) = 0
        rotate_left
        · have H8 : Hid (decide ((cn : Int) = 0) = false) := decide_eq_false h8
          have e8 : decide ((cn : Int) = 0) = false := H8.out
          have f8 : ((cn : Int) == 0) = false := beq_eq_false_iff_ne.2 h8
          go_wp2_with fail
          refine (CN.out _ _).mono ?_
          rintro e w9 ⟨rfl, hw9⟩
          obtain rfl := hw9.symm
          go_wp2
          go_meet
          case rel => exact ⟨by rw [Bool.true_and, hdB, H1.out, H2.out, H3.out, H4.out, H5.out, H6.out, H7.out, H8.out]; rfl, rfl⟩
        have H8 : Hid (decide ((cn : Int) = 0) = true) := decide_eq_true h8
        have e8 : decide ((cn : Int) = 0) = true := H8.out
        go_wp2_with fail
        refine (CN.out _ _).mono ?_
        rintro e w9 ⟨rfl, hw9⟩
        obtain rfl := hw9.symm
        go_wp2
        go_meet
        case rel => exact ⟨by rw [Bool.true_and, hdB, H1.out, H2.out, H3.out, H4.out, H5.out, H6.out, H7.out, H8.out]; rfl, rfl⟩
      case rest =>
      obtain ⟨rfl, hcw⟩ := hcut
      obtain rfl := hcw.symm
      clear q0 q1 q2 q3
      go_wp2
      go_roundw
      case rel =>
        refine ⟨k + 1, _, rfl, by rw [prevT_succ hlt, HX.out], by go_num, by omega, ?_, HC3.out, HB3.out, HBE3.out⟩
        rw [Bool.and_eq_true]
        constructor
        · rintro ⟨hg1, hg2⟩
          obtain ⟨a1, a2⟩ := HG.out.1 hg1
          refine ⟨a1, a2.step hlt ?_⟩
          refine (hdB_iff a2 hlt).1 ?_
          rw [HT.out, HX.out, HCN.out]
          exact hg2
        · rintro ⟨hg1, hg2⟩
          have a2 : HdsOk lim nxt hs k := fun i hi hik => hg2 i hi (by omega)
          refine ⟨HG.out.2 ⟨hg1, a2⟩, ?_⟩
          have := (hdB_iff a2 hlt).2 (hg2 k hlt (by omega))
          rw [HT.out, HX.out, HCN.out] at this
          exact this
      case measure => simp [intOf]; omega
    · obtain rfl : k = hs.length := by omega
      obtain ⟨q0, q1, q2, q3⟩ := hbr.led
      have HBR := Lib.hid hbr
      clear hG hcn hBr hbr hlt hk
      go_wp2_with fail
      clear q0 q1 q2 q3
      go_loopw [3, 8, 10, 97] (fun gd tk _ i wr => ∃ (k : Nat) (G : Bool), gd = .bool G ∧ tk = .int .i64 (prevN ls k) ∧ i = .int .i64 (k : Int) ∧ k ≤ ls.length ∧ (G = true ↔ (HB = true ∧ HdsOk lim nxt hs hs.length ∧ LssOk lim nxt ls k)) ∧ Blk wr g 27 (ledC lim nxt (.slice Ah hs.length ch) (.slice Al ls.length cl)) ∧ Below g w wr) (fun _ _ _ i _ => ls.length - (intOf i).toNat)
      case atStart => exact ⟨0, G, rfl, rfl, rfl, by omega, ⟨fun h => ⟨(HG.out.1 h).1, (HG.out.1 h).2, LssOk.zero⟩, fun h => HG.out.2 ⟨h.1, h.2.1⟩⟩, HBR.out, HBB.out⟩
      case round =>
        clear HBR HBB HG
        obtain ⟨k, G, rfl, rfl, rfl, hk, hG, hbr, hBr⟩ := hrel
        have HG := Lib.hid hG
        have HBB := Lib.hid hBr
        by_cases hlt : k < ls.length
        · obtain ⟨b, off, rfl, hbl, hall⟩ := (HL.out.keep (by rw [hg]; exact hBr)).ls (by omega)
          have hd := hall k hlt
          have hwx := HW2.out _ (List.getElem_mem hlt)
          obtain ⟨x, hx⟩ : ∃ x, ls[k] = x := ⟨_, rfl⟩
          rw [hx] at hd hwx
          have HX := Lib.hid hx
          obtain ⟨q0, q1, q2, q3⟩ := hbr.led
          obtain ⟨c0, c1, c2, c3, c4, c5⟩ := hd
          obtain ⟨gh, hgh⟩ : ∃ gh, wr.heap.size = gh := ⟨_, rfl⟩
          have hlt0 : g < gh := hgh ▸ hbr.lt
          have hnew : Blk (wr.alloc (.cells (lsA x) 123)) gh 123 (lsA x) := hgh ▸ Blk.new _ _ _
          have hbr2 := hbr.alloc (.cells (lsA x) 123)
          have hBr2 := hBr.alloc (by omega) (.cells (lsA x) 123)
          have hn1 : G = true → 1 ≤ nxt ∧ nxt < 18446744073709551616 := fun h => ⟨(headB_iff.1 (HHB.out.trans (hG.1 h).1)).n1, HN.out⟩
          have hser := hwx.ser
          clear hall hG hBr hbr hx hwx
          go_upto_region 15 with (fail)
          change Code.wp _ _ _ _ (wr.alloc (.cells (lsA x) 123))
          generalize wr.alloc (.cells (lsA x) 123) = W2 at hnew hbr2 hBr2 ⊢
          try rw [hgh]
          clear c0 c1 c2 c3 c4 c5 q0 q1 q2 q3 hgh hbl
          obtain ⟨q0, q1, q2, q3⟩ := hbr2.led
          have d0 : W2.cell? ⟨gh, 0, none⟩ = some (.int .i64 x.nod) := (hnew.cell 0).trans rfl
          have d1 : W2.cell? ⟨gh, 1, none⟩ = some (.int .u64 x.bt) := (hnew.cell 1).trans rfl
          have d2 : W2.cell? ⟨gh, 2, none⟩ = some (.int .u64 x.sq) := (hnew.cell 2).trans rfl
          have d3 : W2.cell? ⟨gh, 3, none⟩ = some (.int .i64 x.cod) := (hnew.cell 3).trans rfl
          have d4 : W2.cell? ⟨gh, 4, none⟩ = some (.int .i64 x.tok) := (hnew.cell 4).trans rfl
          have d5 : W2.cell? ⟨gh, 5, none⟩ = some (.int .u64 x.ser) := (hnew.cell 5).trans rfl
          have CA2 := fun h => CA.out W2 (.slice Ah hs.length ch) (.slice (some ⟨b, off, none⟩) ls.length cl) x.cod x.tok x.ser h hser
          obtain ⟨T, hT⟩ : ∃ T, prevN ls k = T := ⟨_, rfl⟩
          rw [hT]
          have HT := Lib.hid hT
          have HN1 := Lib.hid hn1
          have CA2 := Lib.hid CA2
          have HNW := Lib.hid hnew
          have HB2 := Lib.hid hbr2
          have HBE2 := Lib.hid hBr2
          clear hbr2 hBr2 hnew hT hn1
          go_cut [3] (fun y wx => y = .bool (G && lsB lim nxt T x) ∧ Blk wx gh 123 (lsA x) ∧ Blk wx g 27 (ledC lim nxt (.slice Ah hs.length ch) (.slice (some ⟨b, off, none⟩) ls.length cl)) ∧ Below g w wx)
          case first =>
            cases G
            · go_wp2
              go_meet
              case rel => exact ⟨rfl, HNW.out, HB2.out, HBE2.out⟩
            by_cases h1 : T < x.nod
            rotate_left
            · have H1 : Hid (decide (T < x.nod) = false) := decide_eq_false h1
              have e1 : decide (T < x.nod) = false := H1.out
              go_wp2
              go_meet
              case rel => exact ⟨by rw [Bool.true_and, lsB, H1.out]; rfl, HNW.out, HB2.out, HBE2.out⟩
            have H1 : Hid (decide (T < x.nod) = true) := decide_eq_true h1
            have e1 : decide (T < x.nod) = true := H1.out
            by_cases h2 : 1 ≤ x.nod ∧ x.nod ≤ 7
            rotate_left
            · have H2 : Hid (decide (1 ≤ x.nod ∧ x.nod ≤ 7) = false) := decide_eq_false h2
              have e2 : decide (1 ≤ x.nod ∧ x.nod ≤ 7) = false := H2.out
              go_wp2_with fail
              refine (CN.out _ _).mono ?_
              rintro e w9 ⟨rfl, hw9⟩
              obtain rfl := hw9.symm
              go_wp2
              go_meet
              case rel => exact ⟨by rw [Bool.true_and, lsB, H1.out, H2.out]; rfl, HNW.out, HB2.out, HBE2.out⟩
            have H2 : Hid (decide (1 ≤ x.nod ∧ x.nod ≤ 7) = true) := decide_eq_true h2
            have e2 : decide (1 ≤ x.nod ∧ x.nod ≤ 7) = true := H2.out
            by_cases h3 : 1 ≤ x.bt
            rotate_left
            · have H3 : Hid (decide (1 ≤ x.bt) = false) := decide_eq_false h3
              have e3 : decide (1 ≤ x.bt) = false := H3.out
              go_wp2_with fail
              refine (CN.out _ _).mono ?_
              rintro e w9 ⟨rfl, hw9⟩
              obtain rfl := hw9.symm
              go_wp2
              go_meet
              case rel => exact ⟨by rw [Bool.true_and, lsB, H1.out, H2.out, H3.out]; rfl, HNW.out, HB2.out, HBE2.out⟩
            have H3 : Hid (decide (1 ≤ x.bt) = true) := decide_eq_true h3
            have e3 : decide (1 ≤ x.bt) = true := H3.out
            by_cases h4 : 1 ≤ x.sq
            rotate_left
            · have H4 : Hid (decide (1 ≤ x.sq) = false) := decide_eq_false h4
              have e4 : decide (1 ≤ x.sq) = false := H4.out
              go_wp2_with fail
              refine (CN.out _ _).mono ?_
              rintro e w9 ⟨rfl, hw9⟩
              obtain rfl := hw9.symm
              go_wp2
              go_meet
              case rel => exact ⟨by rw [Bool.true_and, lsB, H1.out, H2.out, H3.out, H4.out]; rfl, HNW.out, HB2.out, HBE2.out⟩
            have H4 : Hid (decide (1 ≤ x.sq) = true) := decide_eq_true h4
            have e4 : decide (1 ≤ x.sq) = true := H4.out
            go_wp2_with fail
            refine (CN.out _ _).mono ?_
            rintro e w9 ⟨rfl, hw9⟩
            obtain rfl := hw9.symm
            go_wp2_with fail
            refine (CA2.out (HN1.out (by trivial))).mono ?_
            rintro e w8 ⟨rfl, hB8⟩
            have HNW8 := Lib.hid (HNW.out.below hB8 HNW.out.lt)
            have HB8 := Lib.hid (HB2.out.below hB8 HB2.out.lt)
            have HBE8 := Lib.hid (HBE2.out.trans (hB8.mono (Nat.le_of_lt HB2.out.lt)))
            clear hB8 d0 d1 d2 d3 d4 d5 q0 q1 q2 q3
            go_wp2
            go_meet
            case rel => exact ⟨by rw [Bool.true_and, lsB, H1.out, H2.out, H3.out, H4.out]; rfl, HNW8.out, HB8.out, HBE8.out⟩
          case rest =>
          obtain ⟨rfl, hnw, hbw, hBw⟩ := hcut
          clear q0 q1 q2 q3 d0 d1 d2 d3 d4 d5 CA2 HNW HB2 HBE2
          have d0 : wc.cell? ⟨gh, 0, none⟩ = some (.int .i64 x.nod) := (hnw.cell 0).trans rfl
          have HB9 := Lib.hid hbw
          have HBE9 := Lib.hid hBw
          clear hnw hbw hBw
          go_wp2
          go_roundw
          case rel =>
            refine ⟨k + 1, _, rfl, by rw [prevN_succ hlt, HX.out], by go_num, by omega, ?_, HB9.out, HBE9.out⟩
            rw [Bool.and_eq_true]
            constructor
            · rintro ⟨hg1, hg2⟩
              obtain ⟨a1, a2, a3⟩ := HG.out.1 hg1
              refine ⟨a1, a2, a3.step hlt ?_⟩
              refine (lsB_iff hlt).1 ?_
              rw [HT.out, HX.out]
              exact hg2
            · rintro ⟨hg1, hg2, hg3⟩
              have a3 : LssOk lim nxt ls k := fun i hi hik => hg3 i hi (by omega)
              refine ⟨HG.out.2 ⟨hg1, hg2, a3⟩, ?_⟩
              have := (lsB_iff hlt).2 (hg3 k hlt (by omega))
              rw [HT.out, HX.out] at this
              exact this
          case measure => simp [intOf]; omega
        · obtain rfl : k = ls.length := by omega
          have HBG : Hid (B = G) := by
            show _ = _
            rw [← HOK.out, Bool.eq_iff_iff, HG.out, decide_eq_true_iff]
            exact ⟨fun h => ⟨HHB.out.symm.trans (headB_iff.2 h.head), h.hds, h.lss⟩, fun h => ⟨headB_iff.1 (HHB.out.trans h.1), h.2.1, h.2.2⟩⟩
          clear hG hBr hbr
          cases G
          · go_wp2
            go_ret
            exact ⟨by rw [HBG.out]; rfl, HBB.out⟩
          · go_wp2
            go_ret
            exact ⟨by rw [HBG.out]; rfl, HBB.out⟩
end Go.Proofs.Ytadkkhbbempaaaa
