/- Texts drawn together (7 of them): words, plain laws and walks that the row leans on. -/
import Derived.Test.YtjnkpjhggeibeaaP2
import Derived.Deep.DeepCutAuto
import Derived.Lib.SliceRun
import Derived.Deep.RegionLaw
import Derived.Test.YtjnkpjhggeibeaaP1
/- Ledgers: the code's Check. -/
namespace Go.Proofs.Ytjnkpjhggeibeaa
set_option maxRecDepth 100000
open Go.RowKit

set_option maxRecDepth 100000 in
set_option maxHeartbeats 8000000 in
theorem ledger_Check_any (w : World) (lim nxt : Int) (Ah : Option Addr) (ch : Nat) (hs : List Hd) (Al : Option Addr) (cl : Nat) (ls : List Ls) (hh : InS hdC 5 w Ah ch hs) (hl : InS lsC 6 w Al cl ls)
    (hw1 : ∀ h ∈ hs, h.Wf) (hw2 : ∀ x ∈ ls, x.Wf) (hn : nxt < 18446744073709551616) :
    Calls Try.prog 29 #[ledV lim nxt (.slice Ah hs.length ch) (.slice Al ls.length cl)] w fun e w' => e = .returned (.int .i64 (errLed (decide (LedOk lim nxt hs ls)))) ∧ Below w.heap.size w w' := by
  have HH := Lib.hid hh
  have HL := Lib.hid hl
  have HW1 := Lib.hid hw1
  have HW2 := Lib.hid hw2
  have HN := Lib.hid hn
  have hsz1 := hh.small
  have hsz2 := hl.small
  have hcp1 := hh.cap
  have hcp2 := hl.cap
  obtain ⟨B, hB⟩ : ∃ B, decide (LedOk lim nxt hs ls) = B := ⟨_, rfl⟩
  rw [hB]
  have HOK := Lib.hid hB
  obtain ⟨g, hg⟩ : ∃ g, w.heap.size = g := ⟨_, rfl⟩
  rw [hg]
  have hb0 : Blk (w.alloc (.cells (ledC lim nxt (.slice Ah hs.length ch) (.slice Al ls.length cl)) 28)) g 28 (ledC lim nxt (.slice Ah hs.length ch) (.slice Al ls.length cl)) := hg ▸ Blk.new _ _ _
  have hB0 : Below g w (w.alloc (.cells (ledC lim nxt (.slice Ah hs.length ch) (.slice Al ls.length cl)) 28)) := (Below.refl _ _).alloc (by omega) _
  clear hB hh hl hw1 hw2 hn
  have CN := Lib.hid (fun W n => ledger_node_any W n)
  have CA := fun W hl ll cod tok ser h1 h2 => ledger_answer_any W lim nxt hl ll cod tok ser h1 h2
  unfold ledV at CA ⊢
  have CA := Lib.hid CA
  go_enter Try.func29, Try.ntmps29
  go_upto_region 1 with (fail)
  change Code.wp _ _ _ _ (w.alloc (.cells (ledC lim nxt (.slice Ah hs.length ch) (.slice Al ls.length cl)) 28))
  generalize (w.alloc (.cells (ledC lim nxt (.slice Ah hs.length ch) (.slice Al ls.length cl)) 28)) = W at hb0 hB0 ⊢
  obtain ⟨q0, q1, q2, q3⟩ := hb0.led
  go_cut [3] (fun x wx => x = .bool (headB lim nxt hs.length) ∧ wx = W)
  case first =>
    by_cases h1 : 1 ≤ lim
    rotate_left
    · go_wp2
      go_meet
      case rel => exact ⟨by rw [headB, show decide (1 ≤ lim) = false from decide_eq_false (by omega)]; rfl, rfl⟩
    by_cases h2 : lim ≤ 65535
    rotate_left
    · go_wp2
      go_meet
      case rel => exact ⟨by rw [headB, show decide (1 ≤ lim) = true from decide_eq_true (by omega), show decide (lim ≤ 65535) = false from decide_eq_false (by omega)]; rfl, rfl⟩
    by_cases h3 : 1 ≤ nxt
    rotate_left
    · go_wp2
      go_meet
      case rel => exact ⟨by rw [headB, show decide (1 ≤ lim) = true from decide_eq_true (by omega), show decide (lim ≤ 65535) = true from decide_eq_true (by omega), show decide (1 ≤ nxt) = false from decide_eq_false (by omega)]; rfl, rfl⟩
    go_wp2
    go_meet
    case rel => exact ⟨by rw [headB, show decide (1 ≤ lim) = true from decide_eq_true (by omega), show decide (lim ≤ 65535) = true from decide_eq_true (by omega), show decide (1 ≤ nxt) = true from decide_eq_true (by omega)]; rfl, rfl⟩
  case rest =>
  obtain ⟨rfl, hcw⟩ := hcut
  obtain rfl := hcw.symm
  obtain ⟨HB, hHB⟩ : ∃ HB, headB lim nxt hs.length = HB := ⟨_, rfl⟩
  rw [hHB]
  have HHB := Lib.hid hHB
  clear hHB q0 q1 q2 q3
  have hmm := @run_makeMap Try.prog
  obtain ⟨M, hM⟩ : ∃ M, W.heap.size = M := ⟨_, rfl⟩
  have hltM : g < M := hM ▸ hb0.lt
  have hb1 := hb0.alloc (.map #[] 0)
  have hB1 : Below g w (W.alloc (.map #[] 0)) := hB0.alloc (by omega) _
  have H0 : Hid (Cnt (W.alloc (.map #[] 0)) M 0 (cntS hs 0)) := hM ▸ Cnt.made W
  clear hB0 hb0
  go_upto_region 3 with (fail)
  change Code.wp _ _ _ _ (W.alloc (.map #[] 0))
  generalize W.alloc (.map #[] 0) = W1 at hb1 hB1 H0 ⊢
  try rw [hM]
  clear hM hmm

  obtain ⟨q0, q1, q2, q3⟩ := hb1.led
  go_wp2_with fail
  clear q0 q1 q2 q3
  go_loopw [3, 5, 7, 34] (fun gd tk _ i wr => ∃ (k : Nat) (G : Bool), gd = .bool G ∧ tk = .int .i64 (prevT hs k) ∧ i = .int .i64 (k : Int) ∧ k ≤ hs.length ∧ (G = true ↔ (HB = true ∧ HdsOk lim nxt hs k)) ∧ Cnt wr M k (cntS hs k) ∧ Blk wr g 28 (ledC lim nxt (.slice Ah hs.length ch) (.slice Al ls.length cl)) ∧ Below g w wr) (fun _ _ _ i _ => hs.length - (intOf i).toNat)
  case atStart => exact ⟨0, HB, rfl, rfl, rfl, by omega, ⟨fun h => ⟨h, HdsOk.zero⟩, fun h => h.1⟩, H0.out, hb1, hB1⟩
  case round =>
    clear H0 hb1 hB1
    obtain ⟨k, G, rfl, rfl, rfl, hk, hG, hcn, hbr, hBr⟩ := hrel
    have HG := Lib.hid hG
    have HBB := Lib.hid hBr
    by_cases hlt : k < hs.length
    · obtain ⟨b, off, rfl, hbl, hall⟩ := (HH.out.keep (by rw [hg]; exact hBr)).hd (by omega)
      have hd := hall k hlt
      have hwx := HW1.out _ (List.getElem_mem hlt)
      obtain ⟨x, hx⟩ : ∃ x, hs[k] = x := ⟨_, rfl⟩
      rw [hx] at hd hwx
      have HX := Lib.hid hx
      obtain ⟨q0, q1, q2, q3⟩ := hbr.led
      obtain ⟨c0, c1, c2, c3, c4⟩ := hd
      obtain ⟨gh, hgh⟩ : ∃ gh, wr.heap.size = gh := ⟨_, rfl⟩
      have hlt0 : g < gh := hgh ▸ hbr.lt
      have hlM : M < gh := hgh ▸ hcn.lt
      have hnew : Blk (wr.alloc (.cells (hdA x) 59)) gh 59 (hdA x) := hgh ▸ Blk.new _ _ _
      have hbr2 := hbr.alloc (.cells (hdA x) 59)
      have hcn2 := hcn.alloc (.cells (hdA x) 59)
      have hBr2 := hBr.alloc (by omega) (.cells (hdA x) 59)
      have hws : (Lit.int .u64 x.ser).wf = true := by
        have := hwx.ser
        simp [Lit.wf, IntKind.min, IntKind.max, IntKind.bits, IntKind.signed]
        omega
      clear hall hG hcn hBr hbr hx hwx
      go_upto_region 7 with (fail)
      change Code.wp _ _ _ _ (wr.alloc (.cells (hdA x) 59))
      generalize wr.alloc (.cells (hdA x) 59) = W2 at hnew hbr2 hcn2 hBr2 ⊢
      try rw [hgh]
      clear c0 c1 c2 c3 c4 q0 q1 q2 q3 hgh hbl
      obtain ⟨q0, q1, q2, q3⟩ := hbr2.led
      have d0 : W2.cell? ⟨gh, 0, none⟩ = some (.int .i64 x.tok) := (hnew.cell 0).trans rfl
      have d1 : W2.cell? ⟨gh, 1, none⟩ = some (.int .i64 x.nod) := (hnew.cell 1).trans rfl
      have d2 : W2.cell? ⟨gh, 2, none⟩ = some (.int .u64 x.bt) := (hnew.cell 2).trans rfl
      have d3 : W2.cell? ⟨gh, 3, none⟩ = some (.int .u64 x.ser) := (hnew.cell 3).trans rfl
      have d4 : W2.cell? ⟨gh, 4, none⟩ = some (.int .u64 x.stp) := (hnew.cell 4).trans rfl
      have hlook := hcn2.look hws
      have hcle := cntS_le hs k x.ser
      obtain ⟨w3, hupd, hc3, hg3⟩ := hcn2.upd hws (by unfold maxLen; omega) (by omega)
      have HC3 : Hid (Cnt w3 M (k + 1) (cntS hs (k + 1))) := by
        show Cnt _ _ _ _
        rw [cntS_succ hlt, HX.out]
        exact hc3
      have HB3 : Hid (Blk w3 g 28 (ledC lim nxt (.slice (some ⟨b, off, none⟩) hs.length ch) (.slice Al ls.length cl))) := hbr2.grown hg3 (fun hh => by injection hh with hh; omega)
      have HBE3 : Hid (Below g w w3) := hBr2.grown hg3 (by have := hbr2.lt; omega) (fun i hi => by injection hi with hi; omega)
      have d5 : w3.cell? ⟨gh, 0, none⟩ = some (.int .i64 x.tok) := hg3.cell d0 (show some gh ≠ some M from fun hh => by injection hh with hh; omega)
      obtain ⟨cn, hcnE⟩ : ∃ cn, cntS hs k x.ser = cn := ⟨_, rfl⟩
      rw [hcnE] at hlook hupd hcle
      have HCN := Lib.hid hcnE
      obtain ⟨T, hT⟩ : ∃ T, prevT hs k = T := ⟨_, rfl⟩
      rw [hT]
      have HT := Lib.hid hT
      have hwr : IntKind.i64.wrap ((cn : Int) + 1) = (cn : Int) + 1 := by simp [IntKind.wrap_i64]; omega
      clear hcn2 hbr2 hBr2 hnew hc3 hg3 hcnE hT
      go_cut [3] (fun y wx => y = .bool (G && hdB lim nxt T cn x) ∧ wx = W2)
      case first =>
        clear hupd hwr d5
        cases G
        · go_wp2
          go_meet
          case rel => exact ⟨rfl, rfl⟩
        by_cases h1 : T < x.tok
        rotate_left
        · have H1 : Hid (decide (T < x.tok) = false) := decide_eq_false h1
          have e1 : decide (T < x.tok) = false := H1.out
          go_wp2
          go_meet
          case rel => exact ⟨by rw [Bool.true_and, hdB, H1.out]; rfl, rfl⟩
        have H1 : Hid (decide (T < x.tok) = true) := decide_eq_true h1
        have e1 : decide (T < x.tok) = true := H1.out
        by_cases h2 : x.tok ≤ lim
        rotate_left
        · have H2 : Hid (decide (x.tok ≤ lim) = false) := decide_eq_false h2
          have e2 : decide (x.tok ≤ lim) = false := H2.out
          go_wp2
          go_meet
          case rel => exact ⟨by rw [Bool.true_and, hdB, H1.out, H2.out]; rfl, rfl⟩
        have H2 : Hid (decide (x.tok ≤ lim) = true) := decide_eq_true h2
        have e2 : decide (x.tok ≤ lim) = true := H2.out
        by_cases h3 : 1 ≤ x.nod ∧ x.nod ≤ 7
        rotate_left
        · have H3 : Hid (decide (1 ≤ x.nod ∧ x.nod ≤ 7) = false) := decide_eq_false h3
          have e3 : decide (1 ≤ x.nod ∧ x.nod ≤ 7) = false := H3.out
          go_wp2_with fail
          refine (CN.out _ _).mono ?_
          rintro e w9 ⟨rfl, hw9⟩
          obtain rfl := hw9.symm
          go_wp2
          go_meet
          case rel => exact ⟨by rw [Bool.true_and, hdB, H1.out, H2.out, H3.out]; rfl, rfl⟩
        have H3 : Hid (decide (1 ≤ x.nod ∧ x.nod ≤ 7) = true) := decide_eq_true h3
        have e3 : decide (1 ≤ x.nod ∧ x.nod ≤ 7) = true := H3.out
        by_cases h4 : 1 ≤ x.bt
        rotate_left
        · have H4 : Hid (decide (1 ≤ x.bt) = false) := decide_eq_false h4
          have e4 : decide (1 ≤ x.bt) = false := H4.out
          go_wp2_with fail
          refine (CN.out _ _).mono ?_
          rintro e w9 ⟨rfl, hw9⟩
          obtain rfl := hw9.symm
          go_wp2
          go_meet
          case rel => exact ⟨by rw [Bool.true_and, hdB, H1.out, H2.out, H3.out, H4.out]; rfl, rfl⟩
        have H4 : Hid (decide (1 ≤ x.bt) = true) := decide_eq_true h4
        have e4 : decide (1 ≤ x.bt) = true := H4.out
        by_cases h5 : 1 ≤ x.stp
        rotate_left
        · have H5 : Hid (decide (1 ≤ x.stp) = false) := decide_eq_false h5
          have e5 : decide (1 ≤ x.stp) = false := H5.out
          go_wp2_with fail
          refine (CN.out _ _).mono ?_
          rintro e w9 ⟨rfl, hw9⟩
          obtain rfl := hw9.symm
          go_wp2
          go_meet
          case rel => exact ⟨by rw [Bool.true_and, hdB, H1.out, H2.out, H3.out, H4.out, H5.out]; rfl, rfl⟩
        have H5 : Hid (decide (1 ≤ x.stp) = true) := decide_eq_true h5
        have e5 : decide (1 ≤ x.stp) = true := H5.out
        by_cases h6 : 1 ≤ x.ser
        rotate_left
        · have H6 : Hid (decide (1 ≤ x.ser) = false) := decide_eq_false h6
          have e6 : decide (1 ≤ x.ser) = false := H6.out
          go_wp2_with fail
          refine (CN.out _ _).mono ?_
          rintro e w9 ⟨rfl, hw9⟩
          obtain rfl := hw9.symm
          go_wp2
          go_meet
          case rel => exact ⟨by rw [Bool.true_and, hdB, H1.out, H2.out, H3.out, H4.out, H5.out, H6.out]; rfl, rfl⟩
        have H6 : Hid (decide (1 ≤ x.ser) = true) := decide_eq_true h6
        have e6 : decide (1 ≤ x.ser) = true := H6.out
        by_cases h7 : x.ser < nxt
        rotate_left
        · have H7 : Hid (decide (x.ser < nxt) = false) := decide_eq_false h7
          have e7 : decide (x.ser < nxt) = false := H7.out
          go_wp2_with fail
          refine (CN.out _ _).mono ?_
          rintro e w9 ⟨rfl, hw9⟩
          obtain rfl := hw9.symm
          go_wp2
          go_meet
          case rel => exact ⟨by rw [Bool.true_and, hdB, H1.out, H2.out, H3.out, H4.out, H5.out, H6.out, H7.out]; rfl, rfl⟩
        have H7 : Hid (decide (x.ser < nxt) = true) := decide_eq_true h7
        have e7 : decide (x.ser < nxt) = true := H7.out
        by_cases h8 : (cn : Int) = 0
        rotate_left
        · have H8 : Hid (decide ((cn : Int) = 0) = false) := decide_eq_false h8
          have e8 : decide ((cn : Int) = 0) = false := H8.out
          have f8 : ((cn : Int) == 0) = false := beq_eq_false_iff_ne.2 h8
          go_wp2_with fail
          refine (CN.out _ _).mono ?_
          rintro e w9 ⟨rfl, hw9⟩
          obtain rfl := hw9.symm
          go_wp2
          go_meet
          case rel => exact ⟨by rw [Bool.true_and, hdB, H1.out, H2.out, H3.out, H4.out, H5.out, H6.out, H7.out, H8.out]; rfl, rfl⟩
        have H8 : Hid (decide ((cn : Int) = 0) = true) := decide_eq_true h8
        have e8 : decide ((cn : Int) = 0) = true := H8.out
        go_wp2_with fail
        refine (CN.out _ _).mono ?_
        rintro e w9 ⟨rfl, hw9⟩
        obtain rfl := hw9.symm
        go_wp2
        go_meet
        case rel => exact ⟨by rw [Bool.true_and, hdB, H1.out, H2.out, H3.out, H4.out, H5.out, H6.out, H7.out, H8.out]; rfl, rfl⟩
      case rest =>
      obtain ⟨rfl, hcw⟩ := hcut
      obtain rfl := hcw.symm
      clear q0 q1 q2 q3
      go_wp2
      go_roundw
      case rel =>
        refine ⟨k + 1, _, rfl, by rw [prevT_succ hlt, HX.out], by go_num, by omega, ?_, HC3.out, HB3.out, HBE3.out⟩
        rw [Bool.and_eq_true]
        constructor
        · rintro ⟨hg1, hg2⟩
          obtain ⟨a1, a2⟩ := HG.out.1 hg1
          refine ⟨a1, a2.step hlt ?_⟩
          refine (hdB_iff a2 hlt).1 ?_
          rw [HT.out, HX.out, HCN.out]
          exact hg2
        · rintro ⟨hg1, hg2⟩
          have a2 : HdsOk lim nxt hs k := fun i hi hik => hg2 i hi (by omega)
          refine ⟨HG.out.2 ⟨hg1, a2⟩, ?_⟩
          have := (hdB_iff a2 hlt).2 (hg2 k hlt (by omega))
          rw [HT.out, HX.out, HCN.out] at this
          exact this
      case measure => simp [intOf]; omega
    · obtain rfl : k = hs.length := by omega
      obtain ⟨q0, q1, q2, q3⟩ := hbr.led
      have HBR := Lib.hid hbr
      clear hG hcn hBr hbr hlt hk
      go_wp2_with fail
      clear q0 q1 q2 q3
      go_loopw [3, 8, 10, 97] (fun gd tk _ i wr => ∃ (k : Nat) (G : Bool), gd = .bool G ∧ tk = .int .i64 (prevN ls k) ∧ i = .int .i64 (k : Int) ∧ k ≤ ls.length ∧ (G = true ↔ (HB = true ∧ HdsOk lim nxt hs hs.length ∧ LssOk lim nxt ls k)) ∧ Blk wr g 28 (ledC lim nxt (.slice Ah hs.length ch) (.slice Al ls.length cl)) ∧ Below g w wr) (fun _ _ _ i _ => ls.length - (intOf i).toNat)
      case atStart => exact ⟨0, G, rfl, rfl, rfl, by omega, ⟨fun h => ⟨(HG.out.1 h).1, (HG.out.1 h).2, LssOk.zero⟩, fun h => HG.out.2 ⟨h.1, h.2.1⟩⟩, HBR.out, HBB.out⟩
      case round =>
        clear HBR HBB HG
        obtain ⟨k, G, rfl, rfl, rfl, hk, hG, hbr, hBr⟩ := hrel
        have HG := Lib.hid hG
        have HBB := Lib.hid hBr
        by_cases hlt : k < ls.length
        · obtain ⟨b, off, rfl, hbl, hall⟩ := (HL.out.keep (by rw [hg]; exact hBr)).ls (by omega)
          have hd := hall k hlt
          have hwx := HW2.out _ (List.getElem_mem hlt)
          obtain ⟨x, hx⟩ : ∃ x, ls[k] = x := ⟨_, rfl⟩
          rw [hx] at hd hwx
          have HX := Lib.hid hx
          obtain ⟨q0, q1, q2, q3⟩ := hbr.led
          obtain ⟨c0, c1, c2, c3, c4, c5⟩ := hd
          obtain ⟨gh, hgh⟩ : ∃ gh, wr.heap.size = gh := ⟨_, rfl⟩
          have hlt0 : g < gh := hgh ▸ hbr.lt
          have hnew : Blk (wr.alloc (.cells (lsA x) 76)) gh 76 (lsA x) := hgh ▸ Blk.new _ _ _
          have hbr2 := hbr.alloc (.cells (lsA x) 76)
          have hBr2 := hBr.alloc (by omega) (.cells (lsA x) 76)
          have hn1 : G = true → 1 ≤ nxt ∧ nxt < 18446744073709551616 := fun h => ⟨(headB_iff.1 (HHB.out.trans (hG.1 h).1)).n1, HN.out⟩
          have hser := hwx.ser
          clear hall hG hBr hbr hx hwx
          go_upto_region 15 with (fail)
          change Code.wp _ _ _ _ (wr.alloc (.cells (lsA x) 76))
          generalize wr.alloc (.cells (lsA x) 76) = W2 at hnew hbr2 hBr2 ⊢
          try rw [hgh]
          clear c0 c1 c2 c3 c4 c5 q0 q1 q2 q3 hgh hbl
          obtain ⟨q0, q1, q2, q3⟩ := hbr2.led
          have d0 : W2.cell? ⟨gh, 0, none⟩ = some (.int .i64 x.nod) := (hnew.cell 0).trans rfl
          have d1 : W2.cell? ⟨gh, 1, none⟩ = some (.int .u64 x.bt) := (hnew.cell 1).trans rfl
          have d2 : W2.cell? ⟨gh, 2, none⟩ = some (.int .u64 x.sq) := (hnew.cell 2).trans rfl
          have d3 : W2.cell? ⟨gh, 3, none⟩ = some (.int .i64 x.cod) := (hnew.cell 3).trans rfl
          have d4 : W2.cell? ⟨gh, 4, none⟩ = some (.int .i64 x.tok) := (hnew.cell 4).trans rfl
          have d5 : W2.cell? ⟨gh, 5, none⟩ = some (.int .u64 x.ser) := (hnew.cell 5).trans rfl
          have CA2 := fun h => CA.out W2 (.slice Ah hs.length ch) (.slice (some ⟨b, off, none⟩) ls.length cl) x.cod x.tok x.ser h hser
          obtain ⟨T, hT⟩ : ∃ T, prevN ls k = T := ⟨_, rfl⟩
          rw [hT]
          have HT := Lib.hid hT
          have HN1 := Lib.hid hn1
          have CA2 := Lib.hid CA2
          have HNW := Lib.hid hnew
          have HB2 := Lib.hid hbr2
          have HBE2 := Lib.hid hBr2
          clear hbr2 hBr2 hnew hT hn1
          go_cut [3] (fun y wx => y = .bool (G && lsB lim nxt T x) ∧ Blk wx gh 76 (lsA x) ∧ Blk wx g 28 (ledC lim nxt (.slice Ah hs.length ch) (.slice (some ⟨b, off, none⟩) ls.length cl)) ∧ Below g w wx)
          case first =>
            cases G
            · go_wp2
              go_meet
              case rel => exact ⟨rfl, HNW.out, HB2.out, HBE2.out⟩
            by_cases h1 : T < x.nod
            rotate_left
            · have H1 : Hid (decide (T < x.nod) = false) := decide_eq_false h1
              have e1 : decide (T < x.nod) = false := H1.out
              go_wp2
              go_meet
              case rel => exact ⟨by rw [Bool.true_and, lsB, H1.out]; rfl, HNW.out, HB2.out, HBE2.out⟩
            have H1 : Hid (decide (T < x.nod) = true) := decide_eq_true h1
            have e1 : decide (T < x.nod) = true := H1.out
            by_cases h2 : 1 ≤ x.nod ∧ x.nod ≤ 7
            rotate_left
            · have H2 : Hid (decide (1 ≤ x.nod ∧ x.nod ≤ 7) = false) := decide_eq_false h2
              have e2 : decide (1 ≤ x.nod ∧ x.nod ≤ 7) = false := H2.out
              go_wp2_with fail
              refine (CN.out _ _).mono ?_
              rintro e w9 ⟨rfl, hw9⟩
              obtain rfl := hw9.symm
              go_wp2
              go_meet
              case rel => exact ⟨by rw [Bool.true_and, lsB, H1.out, H2.out]; rfl, HNW.out, HB2.out, HBE2.out⟩
            have H2 : Hid (decide (1 ≤ x.nod ∧ x.nod ≤ 7) = true) := decide_eq_true h2
            have e2 : decide (1 ≤ x.nod ∧ x.nod ≤ 7) = true := H2.out
            by_cases h3 : 1 ≤ x.bt
            rotate_left
            · have H3 : Hid (decide (1 ≤ x.bt) = false) := decide_eq_false h3
              have e3 : decide (1 ≤ x.bt) = false := H3.out
              go_wp2_with fail
              refine (CN.out _ _).mono ?_
              rintro e w9 ⟨rfl, hw9⟩
              obtain rfl := hw9.symm
              go_wp2
              go_meet
              case rel => exact ⟨by rw [Bool.true_and, lsB, H1.out, H2.out, H3.out]; rfl, HNW.out, HB2.out, HBE2.out⟩
            have H3 : Hid (decide (1 ≤ x.bt) = true) := decide_eq_true h3
            have e3 : decide (1 ≤ x.bt) = true := H3.out
            by_cases h4 : 1 ≤ x.sq
            rotate_left
            · have H4 : Hid (decide (1 ≤ x.sq) = false) := decide_eq_false h4
              have e4 : decide (1 ≤ x.sq) = false := H4.out
              go_wp2_with fail
              refine (CN.out _ _).mono ?_
              rintro e w9 ⟨rfl, hw9⟩
              obtain rfl := hw9.symm
              go_wp2
              go_meet
              case rel => exact ⟨by rw [Bool.true_and, lsB, H1.out, H2.out, H3.out, H4.out]; rfl, HNW.out, HB2.out, HBE2.out⟩
            have H4 : Hid (decide (1 ≤ x.sq) = true) := decide_eq_true h4
            have e4 : decide (1 ≤ x.sq) = true := H4.out
            go_wp2_with fail
            refine (CN.out _ _).mono ?_
            rintro e w9 ⟨rfl, hw9⟩
            obtain rfl := hw9.symm
            go_wp2_with fail
            refine (CA2.out (HN1.out (by trivial))).mono ?_
            rintro e w8 ⟨rfl, hB8⟩
            have HNW8 := Lib.hid (HNW.out.below hB8 HNW.out.lt)
            have HB8 := Lib.hid (HB2.out.below hB8 HB2.out.lt)
            have HBE8 := Lib.hid (HBE2.out.trans (hB8.mono (Nat.le_of_lt HB2.out.lt)))
            clear hB8 d0 d1 d2 d3 d4 d5 q0 q1 q2 q3
            go_wp2
            go_meet
            case rel => exact ⟨by rw [Bool.true_and, lsB, H1.out, H2.out, H3.out, H4.out]; rfl, HNW8.out, HB8.out, HBE8.out⟩
          case rest =>
          obtain ⟨rfl, hnw, hbw, hBw⟩ := hcut
          clear q0 q1 q2 q3 d0 d1 d2 d3 d4 d5 CA2 HNW HB2 HBE2
          have d0 : wc.cell? ⟨gh, 0, none⟩ = some (.int .i64 x.nod) := (hnw.cell 0).trans rfl
          have HB9 := Lib.hid hbw
          have HBE9 := Lib.hid hBw
          clear hnw hbw hBw
          go_wp2
          go_roundw
          case rel =>
            refine ⟨k + 1, _, rfl, by rw [prevN_succ hlt, HX.out], by go_num, by omega, ?_, HB9.out, HBE9.out⟩
            rw [Bool.and_eq_true]
            constructor
            · rintro ⟨hg1, hg2⟩
              obtain ⟨a1, a2, a3⟩ := HG.out.1 hg1
              refine ⟨a1, a2, a3.step hlt ?_⟩
              refine (lsB_iff hlt).1 ?_
              rw [HT.out, HX.out]
              exact hg2
            · rintro ⟨hg1, hg2, hg3⟩
              have a3 : LssOk lim nxt ls k := fun i hi hik => hg3 i hi (by omega)
              refine ⟨HG.out.2 ⟨hg1, hg2, a3⟩, ?_⟩
              have := (lsB_iff hlt).2 (hg3 k hlt (by omega))
              rw [HT.out, HX.out] at this
              exact this
          case measure => simp [intOf]; omega
        · obtain rfl : k = ls.length := by omega
          have HBG : Hid (B = G) := by
            show _ = _
            rw [← HOK.out, Bool.eq_iff_iff, HG.out, decide_eq_true_iff]
            exact ⟨fun h => ⟨HHB.out.symm.trans (headB_iff.2 h.head), h.hds, h.lss⟩, fun h => ⟨headB_iff.1 (HHB.out.trans h.1), h.2.1, h.2.2⟩⟩
          clear hG hBr hbr
          cases G
          · go_wp2
            go_ret
            exact ⟨by rw [HBG.out]; rfl, HBB.out⟩
          · go_wp2
            go_ret
            exact ⟨by rw [HBG.out]; rfl, HBB.out⟩
end Go.Proofs.Ytjnkpjhggeibeaa

/- slices.Clone of a list of numbers. -/
namespace Go.Proofs.Ytjnkpjhggeibeaa
set_option maxRecDepth 100000
open Go.RowKit

theorem own_empty (W : World) (base : Nat) (e : TypeId) (hb : base ≤ W.heap.size) : (W.alloc (.cells #[] e)).ownsRow base e 1 (.slice (some ⟨W.heap.size, 0, none⟩) 0 0) 0 [] :=
  ⟨by simp, .inr ⟨W.heap.size, 0, #[], rfl, hb, heap_alloc_new W _, by simp, by unfold maxLen; omega, by simp, by simp⟩⟩
/-- A copy: its cells are the call's own. -/
structure Cop (w w' : World) (A : Option Addr) (c : Nat) (l : List Int) : Prop where
  inn : InN .i64 w' A c l
  own : ∀ b, (Value.slice A l.length c).ownBlock = some b → w.heap.size ≤ b
theorem Cop.of_own {w w' : World} {base : Nat} {v : Value} {l : List Int} (h : OwnN .i64 3 w' base v l) (hb : w.heap.size ≤ base) (hl : Wfs .i64 l) (hs : l.length ≤ 140737488355328) : ∃ A c, v = .slice A l.length c ∧ Cop w w' A c l := by
  obtain ⟨A, c, rfl, hin⟩ := InN.own h hl hs
  exact ⟨A, c, rfl, hin, fun b e => Nat.le_trans hb (World.ownsRow.lt h b e).1⟩

end Go.Proofs.Ytjnkpjhggeibeaa

/- Walks over snapshots: a new snapshot, by the code and by the document. -/
namespace Go.Proofs.Ytjnkpjhggeibeaa
set_option maxRecDepth 100000
open Go.RowKit

theorem step_copyI {ops : Array Oper} {o : Oper} {a : Act} {K : Act → World → Prop} {Q : Exit → Act → World → Prop} {E : Prop} {W : World} (base : Nat) (hgd : o.guard = none) (s x : Operand)
    (ho : o.op = .call { callee := .builtin .append, args := #[s, x], argTypes := #[24, 24] })
    (hs : a.eval s = .slice none 0 0) (A : Option Addr) (c : Nat) (l : List Int) (hx : a.eval x = .slice A l.length c) (hin : InN .i64 W A c l) (hbase : base ≤ W.heap.size) (hl : l.length ≤ 17592186043904)
    (h : ∀ v1 w1, OwnN .i64 3 w1 base v1 l → Below base W w1 → K (a.put o.dst v1) w1) :
    if Region.wanted o (yielded ops a.tmps) = true then Oper.wp Try.prog o a W K Q else E := by
  obtain ⟨i0, hi, hz0, hz1, hz2⟩ := info_parts info_int
  refine step_append_any _ hgd s x 24 ho base 3 i0 (.int .i64 0) 1 8 Try.underlying24 hi hz0 hz1 hz2 rfl (by omega) (.slice none 0 0) 0 [] hs (own_nil _ _ _ _) W.heap.size A l.length c (nums .i64 l) hx hin.reads (nums_one_cell .i64 l) (by simp only [maxLen]; omega) (by omega) hbase ?_
  intro v1 w1 ho1 hg _
  refine h v1 w1 (by simpa [OwnN] using ho1) ((Below.refl base W).grown hg hbase (fun k e => by simp [Value.ownBlock] at e))

def shotV (i t : Int) (sl : Value) (lim nxt : Int) : Value := .agg #[.int .u64 i, .int .u64 t, sl, .int .i64 lim, .int .u64 nxt, .slice none 0 0, .slice none 0 0]
def shotCells (i t : Int) (sl : Value) (lim nxt : Int) : Array Value := #[.int .u64 i, .int .u64 t, sl, .int .i64 lim, .int .u64 nxt, .slice none 0 0, .slice none 0 0]
structure ShotAt (w : World) (g : Nat) (i t : Int) (sl : Value) (lim nxt : Int) : Prop where
  z0 : w.cell? ⟨g, 0, none⟩ = some (.int .u64 i)
  z1 : w.cell? ⟨g, 1, none⟩ = some (.int .u64 t)
  z2 : w.cell? ⟨g, 2, none⟩ = some sl
  z3 : w.cell? ⟨g, 3, none⟩ = some (.int .i64 lim)
  z4 : w.cell? ⟨g, 4, none⟩ = some (.int .u64 nxt)
  z5 : w.cell? ⟨g, 5, none⟩ = some (.slice none 0 0)
  z6 : w.cell? ⟨g, 6, none⟩ = some (.slice none 0 0)
theorem Blk.shot {w : World} {g : Nat} {T : TypeId} {i t : Int} {sl : Value} {lim nxt : Int} (h : Blk w g T (shotCells i t sl lim nxt)) : ShotAt w g i t sl lim nxt := by
  constructor <;> (rw [h.cell]; rfl)
structure LedgerAt (w : World) (g : Nat) (lim nxt : Int) : Prop where
  q0 : w.cell? ⟨g, 0, none⟩ = some (.int .i64 lim)
  q1 : w.cell? ⟨g, 1, none⟩ = some (.int .u64 nxt)
  q2 : w.cell? ⟨g, 2, none⟩ = some (.slice none 0 0)
  q3 : w.cell? ⟨g, 3, none⟩ = some (.slice none 0 0)
def ledgerCells (lim nxt : Int) : Array Value := #[.int .i64 lim, .int .u64 nxt, .slice none 0 0, .slice none 0 0]
theorem Blk.ledger {w : World} {g : Nat} {T : TypeId} {lim nxt : Int} (h : Blk w g T (ledgerCells lim nxt)) : LedgerAt w g lim nxt := by
  constructor <;> (rw [h.cell]; rfl)
theorem Blk.set7 {w : World} {g : Nat} {T : TypeId} {v0 v1 v2 v3 v4 v5 v6 : Value} (h : Blk w g T #[v0, v1, v2, v3, v4, v5, v6]) (u0 u1 u2 u3 u4 u5 u6 : Value) :
    Blk (((((((w.setCell ⟨g, 0, none⟩ u0).setCell ⟨g, 1, none⟩ u1).setCell ⟨g, 2, none⟩ u2).setCell ⟨g, 3, none⟩ u3).setCell ⟨g, 4, none⟩ u4).setCell ⟨g, 5, none⟩ u5).setCell ⟨g, 6, none⟩ u6) g T #[u0, u1, u2, u3, u4, u5, u6] :=
  (((((((h.setL 0 u0).setL 1 u1).setL 2 u2).setL 3 u3).setL 4 u4).setL 5 u5).setL 6 u6)
theorem Cop.far {w w' : World} {A : Option Addr} {c : Nat} {l : List Int} (h : Cop w w' A c l) {g : Nat} (hg : g < w.heap.size) (i : Nat) (u : Value) : Cop w (w'.setCell ⟨g, i, none⟩ u) A c l :=
  ⟨InN.far (n := l.length) h.inn (fun b hb => by have := h.own b hb; show g ≠ b; omega) u, h.own⟩

theorem Cop.mono {w w1 w' : World} {A : Option Addr} {c : Nat} {l : List Int} (h : Cop w1 w' A c l) (hw : w.heap.size ≤ w1.heap.size) : Cop w w' A c l := ⟨h.inn, fun b e => Nat.le_trans hw (h.own b e)⟩
end Go.Proofs.Ytjnkpjhggeibeaa

/- What the program says of ledgers and snapshots. -/
namespace Go.Proofs.Ytjnkpjhggeibeaa
set_option maxRecDepth 100000
open Go.RowKit

theorem info_Ledger : (Try.prog.info? 28).map (·.size) = some 4 := by kernel_rfl
theorem info_Shot : (Try.prog.info? 30).map (·.size) = some 7 := by kernel_rfl
end Go.Proofs.Ytjnkpjhggeibeaa

/- Snapshots and ledgers in new memory: the document's Copy. -/
namespace Go.Proofs.Ytjnkpjhggeibeaa
set_option maxRecDepth 100000
open Go.RowKit

/-- A slice of structs that is read and whose block is the call's own, from base on. -/
structure OwS {α : Type} (f : α → List Value) (s : Nat) (w : World) (base : Nat) (A : Option Addr) (c : Nat) (l : List α) : Prop where
  inn : InS f s w A c l
  own : ∀ a, A = some a → base ≤ a.block
section
variable {α : Type} {f : α → List Value} {s : Nat} {w w1 : World} {base : Nat} {A : Option Addr} {c : Nat} {l : List α}
theorem OwS.of {e : TypeId} {v : Value} (h : w.ownsRow base e s v l.length (l.flatMap f)) (hs : l.length * (8 * s) ≤ 140737488355328) : ∃ A c, v = .slice A l.length c ∧ OwS f s w base A c l := by
  obtain ⟨A, c, rfl, hin⟩ := InS.own h hs
  exact ⟨A, c, rfl, hin, fun a e => own_base h a.block (by rw [e]; rfl)⟩
theorem OwS.keep (h : OwS f s w base A c l) (hb : Below w.heap.size w w1) : OwS f s w1 base A c l := ⟨h.inn.keep hb, h.own⟩
theorem OwS.set (h : OwS f s w base A c l) {p : Addr} (hp : p.block < base) (u : Value) : OwS f s (w.setCell p u) base A c l := ⟨h.inn.far (fun b off e => by have := h.own _ e; simp only at this; omega) u, h.own⟩
end
/-- The same of ints. -/
structure OwI (w : World) (base : Nat) (A : Option Addr) (c : Nat) (l : List Int) : Prop where
  inn : InN .i64 w A c l
  own : ∀ a, A = some a → base ≤ a.block
theorem OwI.of {w : World} {base : Nat} {e : TypeId} {v : Value} {l : List Int} (h : OwnN .i64 e w base v l) (hl : Wfs .i64 l) (hs : l.length ≤ 140737488355328) : ∃ A c, v = .slice A l.length c ∧ OwI w base A c l := by
  obtain ⟨A, c, rfl, hin⟩ := InN.own h hl hs
  exact ⟨A, c, rfl, hin, fun a e => own_base h a.block (by rw [e]; rfl)⟩
theorem OwI.keep {w w1 : World} {base : Nat} {A : Option Addr} {c : Nat} {l : List Int} (h : OwI w base A c l) (hb : Below w.heap.size w w1) : OwI w1 base A c l := ⟨h.inn.keep hb, h.own⟩
theorem OwI.set {w : World} {base : Nat} {A : Option Addr} {c : Nat} {l : List Int} (h : OwI w base A c l) {p : Addr} (hp : p.block < base) (u : Value) : OwI (w.setCell p u) base A c l := by
  refine ⟨InN.far (n := l.length) h.inn (fun b hb => ?_) u, h.own⟩
  cases A with
  | none => simp [Value.ownBlock] at hb
  | some a =>
    have := h.own a rfl
    simp only [Value.ownBlock, Option.some.injEq] at hb
    omega
theorem info_Held : (Try.prog.info? 59).map (fun i => (i.zero, i.size, i.bytes)) = some (some (.agg #[.int .i64 0, .int .i64 0, .int .u64 0, .int .u64 0, .int .u64 0]), 5, 40) := by kernel_rfl
theorem info_Last : (Try.prog.info? 76).map (fun i => (i.zero, i.size, i.bytes)) = some (some (.agg #[.int .i64 0, .int .u64 0, .int .u64 0, .int .i64 0, .int .i64 0, .int .u64 0]), 6, 48) := by kernel_rfl
/-- What is known of a ledger's slices: read, and from block base on. -/
structure LedIn (w : World) (base : Nat) (Ah : Option Addr) (ch : Nat) (hs : List Hd) (Al : Option Addr) (cl : Nat) (ls : List Ls) : Prop where
  hh : OwS hdC 5 w base Ah ch hs
  hl : OwS lsC 6 w base Al cl ls
theorem LedIn.keep {w w1 : World} {base : Nat} {Ah : Option Addr} {ch : Nat} {hs : List Hd} {Al : Option Addr} {cl : Nat} {ls : List Ls} (h : LedIn w base Ah ch hs Al cl ls) (hb : Below w.heap.size w w1) : LedIn w1 base Ah ch hs Al cl ls := ⟨h.hh.keep hb, h.hl.keep hb⟩
theorem LedIn.set {w : World} {base : Nat} {Ah : Option Addr} {ch : Nat} {hs : List Hd} {Al : Option Addr} {cl : Nat} {ls : List Ls} (h : LedIn w base Ah ch hs Al cl ls) {p : Addr} (hp : p.block < base) (u : Value) : LedIn (w.setCell p u) base Ah ch hs Al cl ls := ⟨h.hh.set hp u, h.hl.set hp u⟩
theorem LedIn.lower {w : World} {base base' : Nat} {Ah : Option Addr} {ch : Nat} {hs : List Hd} {Al : Option Addr} {cl : Nat} {ls : List Ls} (h : LedIn w base Ah ch hs Al cl ls) (hb : base' ≤ base) : LedIn w base' Ah ch hs Al cl ls := ⟨⟨h.hh.inn, fun a e => Nat.le_trans hb (h.hh.own a e)⟩, ⟨h.hl.inn, fun a e => Nat.le_trans hb (h.hl.own a e)⟩⟩
theorem below_of_grown {w w1 : World} {A : Value} (h : w.grownBy w1 A.ownBlock) (hA : A.ownBlock = none := by rfl) : Below w.heap.size w w1 := ⟨h.os, h.tape, h.output, h.size, fun i hi => h.block i hi (by rw [hA]; simp)⟩
theorem Blk.set4 {w : World} {g : Nat} {T : TypeId} {v0 v1 v2 v3 : Value} (h : Blk w g T #[v0, v1, v2, v3]) (u0 u1 u2 u3 : Value) :
    Blk ((((w.setCell ⟨g, 0, none⟩ u0).setCell ⟨g, 1, none⟩ u1).setCell ⟨g, 2, none⟩ u2).setCell ⟨g, 3, none⟩ u3) g T #[u0, u1, u2, u3] :=
  ((((h.setL 0 u0).setL 1 u1).setL 2 u2).setL 3 u3)

set_option maxRecDepth 100000 in
set_option maxHeartbeats 4000000 in
theorem r05_Copy_any (w : World) (lim nxt : Int) (Ah : Option Addr) (ch : Nat) (hs : List Hd) (Al : Option Addr) (cl : Nat) (ls : List Ls) (hh : InS hdC 5 w Ah ch hs) (hl : InS lsC 6 w Al cl ls) :
    Calls Try.prog 25 #[ledV lim nxt (.slice Ah hs.length ch) (.slice Al ls.length cl)] w fun e w' => ∃ A1 c1 A2 c2, e = .returned (ledV lim nxt (.slice A1 hs.length c1) (.slice A2 ls.length c2)) ∧
      LedIn w' w.heap.size A1 c1 hs A2 c2 ls ∧ Below w.heap.size w w' := by
  have hsz1 := hh.small
  have hsz2 := hl.small
  obtain ⟨g, hg⟩ : ∃ g, w.heap.size = g := ⟨_, rfl⟩
  rw [hg]
  obtain ⟨gr, hgr⟩ : ∃ gr, g + 1 = gr := ⟨_, rfl⟩
  have hBx : Below g w ((w.alloc (.cells (ledC lim nxt (.slice Ah hs.length ch) (.slice Al ls.length cl)) 28)).alloc (.cells (ledC 0 0 (.slice none 0 0) (.slice none 0 0)) 28)) := ((Below.refl _ _).alloc (by omega) _).alloc (by simp; omega) _
  have hs1 : (w.alloc (.cells (ledC lim nxt (.slice Ah hs.length ch) (.slice Al ls.length cl)) 28)).heap.size = gr := by simp [hg, hgr]
  have hb1 : Blk ((w.alloc (.cells (ledC lim nxt (.slice Ah hs.length ch) (.slice Al ls.length cl)) 28)).alloc (.cells (ledC 0 0 (.slice none 0 0) (.slice none 0 0)) 28)) g 28 (ledC lim nxt (.slice Ah hs.length ch) (.slice Al ls.length cl)) := (hg ▸ Blk.new w 28 (ledC lim nxt (.slice Ah hs.length ch) (.slice Al ls.length cl)) : Blk (w.alloc (.cells (ledC lim nxt (.slice Ah hs.length ch) (.slice Al ls.length cl)) 28)) g 28 (ledC lim nxt (.slice Ah hs.length ch) (.slice Al ls.length cl))).alloc _
  have hr1 : Blk ((w.alloc (.cells (ledC lim nxt (.slice Ah hs.length ch) (.slice Al ls.length cl)) 28)).alloc (.cells (ledC 0 0 (.slice none 0 0) (.slice none 0 0)) 28)) gr 28 (ledC 0 0 (.slice none 0 0) (.slice none 0 0)) := hs1 ▸ Blk.new _ _ _
  have hz1 : ((w.alloc (.cells (ledC lim nxt (.slice Ah hs.length ch) (.slice Al ls.length cl)) 28)).alloc (.cells (ledC 0 0 (.slice none 0 0) (.slice none 0 0)) 28)).heap.size = g + 2 := by simp [hg]
  have HH := Lib.hid (hh.keep (hg ▸ hBx))
  have HL0 := Lib.hid hl
  have HL := Lib.hid (hl.keep (hg ▸ hBx))
  clear hs1 hh hl
  unfold ledV
  go_enter Try.func25, Try.ntmps25
  go_upto_region 1 with (fail)
  change Code.wp _ _ _ _ ((w.alloc (.cells (ledC lim nxt (.slice Ah hs.length ch) (.slice Al ls.length cl)) 28)).alloc (.cells (ledC 0 0 (.slice none 0 0) (.slice none 0 0)) 28))
  generalize ((w.alloc (.cells (ledC lim nxt (.slice Ah hs.length ch) (.slice Al ls.length cl)) 28)).alloc (.cells (ledC 0 0 (.slice none 0 0) (.slice none 0 0)) 28)) = W at hb1 hr1 hBx hz1 HH HL ⊢
  try rw [hgr]
  have HB := Lib.hid hBx
  obtain ⟨q0, q1, q2, q3⟩ := hb1.led
  have y2 := hb1.frozen 2
  clear hBx
  go_upto_region 2 with ((at_builtin; refine app_own (w0 := W) (g + 2) rfl _ _ 25 59 _ 40 rfl Try.underlying25 5 info_Held rfl (by omega) (by omega) (.slice none 0 0) [] 0 rfl _ _ _ _ (hs.flatMap hdC) rfl (own_nil _ _ _ _) HH.out.reads (flat_one hdC_one hs) (Below.refl _ _) (by omega) (by omega) ?_; intro v1 w1 ho1 hB1 _ _; obtain ⟨A1, c1, rfl, hin1⟩ := OwS.of (f := hdC) (l := hs) (by simpa using ho1) (by omega); have HO1 := Lib.hid hin1; have hb2 := hb1.below hB1 (by omega); have hr2 := hr1.below hB1 (by omega); have HBB := Lib.hid (HB.out.trans (hB1.mono (by omega))); have HL1 := Lib.hid (HL.out.keep (hz1 ▸ hB1)); have hsz3 := hB1.size; clear q0 q1 q2 q3 y2 hB1 ho1 hin1 hb1 hr1; obtain ⟨q0, q1, q2, q3⟩ := hb2.led; have y2 := hb2.frozen 2))
  have hb3 : Blk (w1.setCell ⟨g, 2, none⟩ (.slice A1 hs.length c1)) g 28 (ledC lim nxt (.slice A1 hs.length c1) (.slice Al ls.length cl)) := Blk.setL (l := [Value.int .i64 lim, .int .u64 nxt, .slice Ah hs.length ch, .slice Al ls.length cl]) hb2 2 _
  have hr3 := hr2.far (p := ⟨g, 2, none⟩) (by show gr ≠ g; omega) (.slice A1 hs.length c1)
  have hB3 := HBB.out.setCell (p := ⟨g, 2, none⟩) (Nat.le_refl _) (.slice A1 hs.length c1)
  have HO3 := Lib.hid (HO1.out.set (p := ⟨g, 2, none⟩) (by show g < g + 2; omega) (.slice A1 hs.length c1))
  have hz3 : g + 2 ≤ (w1.setCell ⟨g, 2, none⟩ (.slice A1 hs.length c1)).heap.size := by simp [World.setCell]; omega
  generalize w1.setCell ⟨g, 2, none⟩ (.slice A1 hs.length c1) = W3 at hb3 hr3 hB3 HO3 hz3 ⊢
  have HL3 := Lib.hid (HL0.out.keep (hg ▸ hB3))
  have HB3 := Lib.hid hB3
  clear q0 q1 q2 q3 y2 hB3 hb2 hr2 HBB HO1 HL1 HL
  obtain ⟨q0, q1, q2, q3⟩ := hb3.led
  have y3 := hb3.frozen 3
  go_upto_region 3 with ((at_builtin; refine app_own (w0 := W3) (g + 2) rfl _ _ 26 76 _ 48 rfl Try.underlying26 6 info_Last rfl (by omega) (by omega) (.slice none 0 0) [] 0 rfl _ _ _ _ (ls.flatMap lsC) rfl (own_nil _ _ _ _) HL3.out.reads (flat_one lsC_one ls) (Below.refl _ _) (by omega) (by omega) ?_; intro v4 w4 ho4 hB4 hg4 _; obtain ⟨A2, c2, rfl, hin4⟩ := OwS.of (f := lsC) (l := ls) (by simpa using ho4) (by omega); have HO4 := Lib.hid hin4; have hb4 := hb3.below hB4 (by omega); have hr4 := hr3.below hB4 (by omega); have HBB := Lib.hid (HB3.out.trans (hB4.mono (by omega))); have HO5 := Lib.hid (HO3.out.keep (below_of_grown hg4)); have hsz5 := hB4.size; clear q0 q1 q2 q3 y3 hB4 ho4 hin4 hb3 hr3 hg4; obtain ⟨q0, q1, q2, q3⟩ := hb4.led; have y3 := hb4.frozen 3))
  have hb5 : Blk (w4.setCell ⟨g, 3, none⟩ (.slice A2 ls.length c2)) g 28 (ledC lim nxt (.slice A1 hs.length c1) (.slice A2 ls.length c2)) := Blk.setL (l := [Value.int .i64 lim, .int .u64 nxt, .slice A1 hs.length c1, .slice Al ls.length cl]) hb4 3 _
  have hr5 := hr4.far (p := ⟨g, 3, none⟩) (by show gr ≠ g; omega) (.slice A2 ls.length c2)
  have hB5 := HBB.out.setCell (p := ⟨g, 3, none⟩) (Nat.le_refl _) (.slice A2 ls.length c2)
  have hI5 : LedIn (w4.setCell ⟨g, 3, none⟩ (.slice A2 ls.length c2)) (g + 2) A1 c1 hs A2 c2 ls := ⟨HO5.out.set (p := ⟨g, 3, none⟩) (by show g < g + 2; omega) _, HO4.out.set (p := ⟨g, 3, none⟩) (by show g < g + 2; omega) _⟩
  generalize w4.setCell ⟨g, 3, none⟩ (.slice A2 ls.length c2) = W5 at hb5 hr5 hB5 hI5 ⊢
  clear q0 q1 q2 q3 y3 hb4 hr4 HBB HO5 HO4 HO3 HL3 HB3
  have HI5 := Lib.hid hI5
  have HB5 := Lib.hid hB5
  have HR5 := Lib.hid hr5
  obtain ⟨q0, q1, q2, q3⟩ := hb5.led
  obtain ⟨z0, z1, z2, z3⟩ := hr5.led
  have y0 := hr5.frozen 0
  have y1 := hr5.frozen 1
  have y2 := hr5.frozen 2
  have y3 := hr5.frozen 3
  have hn : g ≠ gr := by omega
  clear hI5 hB5 hb5 hr5
  go_wp2
  have hrF := Blk.set4 HR5.out (.int .i64 lim) (.int .u64 nxt) (.slice A1 hs.length c1) (.slice A2 ls.length c2)
  refine bodyPost_ret (results_cell1 rfl rfl (run_loadVar_row _ _ _ _ _ (0, 0) _ hrF Try.underlying28 rfl info_Ledger)) rfl ?_
  have f := fun (i : Nat) (W : World) (u : Value) (h : LedIn W (g + 2) A1 c1 hs A2 c2 ls) => h.set (p := ⟨gr, i, none⟩) (by show gr < g + 2; omega) u
  have s := fun (i : Nat) (W : World) (u : Value) (h : Below g w W) => h.setCell (p := ⟨gr, i, none⟩) (by show g ≤ gr; omega) u
  exact ⟨A1, c1, A2, c2, rfl, LedIn.lower (f _ _ _ (f _ _ _ (f _ _ _ (f _ _ _ HI5.out)))) (by omega), s _ _ _ (s _ _ _ (s _ _ _ (s _ _ _ HB5.out)))⟩
/-! ### Snapshots -/
def shV (i t : Int) (sl : Value) (lim nxt : Int) (hl ll : Value) : Value := .agg #[.int .u64 i, .int .u64 t, sl, .int .i64 lim, .int .u64 nxt, hl, ll]
def shC (i t : Int) (sl : Value) (lim nxt : Int) (hl ll : Value) : Array Value := #[.int .u64 i, .int .u64 t, sl, .int .i64 lim, .int .u64 nxt, hl, ll]
structure ShAt (w : World) (g : Nat) (i t : Int) (sl : Value) (lim nxt : Int) (hl ll : Value) : Prop where
  z0 : w.cell? ⟨g, 0, none⟩ = some (.int .u64 i)
  z1 : w.cell? ⟨g, 1, none⟩ = some (.int .u64 t)
  z2 : w.cell? ⟨g, 2, none⟩ = some sl
  z3 : w.cell? ⟨g, 3, none⟩ = some (.int .i64 lim)
  z4 : w.cell? ⟨g, 4, none⟩ = some (.int .u64 nxt)
  z5 : w.cell? ⟨g, 5, none⟩ = some hl
  z6 : w.cell? ⟨g, 6, none⟩ = some ll
theorem Blk.sh {w : World} {g : Nat} {T : TypeId} {i t : Int} {sl : Value} {lim nxt : Int} {hl ll : Value} (h : Blk w g T (shC i t sl lim nxt hl ll)) : ShAt w g i t sl lim nxt hl ll := by
  constructor <;> (rw [h.cell]; rfl)
/-- What is known of a snapshot's slices. -/
structure ShIn (w : World) (base : Nat) (An : Option Addr) (cn : Nat) (ns : List Int) (Ah : Option Addr) (ch : Nat) (hs : List Hd) (Al : Option Addr) (cl : Nat) (ls : List Ls) : Prop where
  hn : OwI w base An cn ns
  led : LedIn w base Ah ch hs Al cl ls
section
variable {w w1 : World} {base base' : Nat} {An : Option Addr} {cn : Nat} {ns : List Int} {Ah : Option Addr} {ch : Nat} {hs : List Hd} {Al : Option Addr} {cl : Nat} {ls : List Ls}
theorem ShIn.keep (h : ShIn w base An cn ns Ah ch hs Al cl ls) (hb : Below w.heap.size w w1) : ShIn w1 base An cn ns Ah ch hs Al cl ls := ⟨h.hn.keep hb, h.led.keep hb⟩
theorem ShIn.set (h : ShIn w base An cn ns Ah ch hs Al cl ls) {p : Addr} (hp : p.block < base) (u : Value) : ShIn (w.setCell p u) base An cn ns Ah ch hs Al cl ls := ⟨h.hn.set hp u, h.led.set hp u⟩
theorem ShIn.lower (h : ShIn w base An cn ns Ah ch hs Al cl ls) (hb : base' ≤ base) : ShIn w base' An cn ns Ah ch hs Al cl ls := ⟨⟨h.hn.inn, fun a e => Nat.le_trans hb (h.hn.own a e)⟩, h.led.lower hb⟩
end

set_option maxRecDepth 100000 in
set_option maxHeartbeats 4000000 in
theorem r06_Copy_any (w : World) (i t : Int) (An : Option Addr) (cn : Nat) (ns : List Int) (lim nxt : Int) (Ah : Option Addr) (ch : Nat) (hs : List Hd) (Al : Option Addr) (cl : Nat) (ls : List Ls) (hn : InN .i64 w An cn ns) (hns : ns.length ≤ 17592186043904) (hh : InS hdC 5 w Ah ch hs) (hl : InS lsC 6 w Al cl ls) :
    Calls Try.prog 9 #[shV i t (.slice An ns.length cn) lim nxt (.slice Ah hs.length ch) (.slice Al ls.length cl)] w fun e w' => ∃ A0 c0 A1 c1 A2 c2, e = .returned (shV i t (.slice A0 ns.length c0) lim nxt (.slice A1 hs.length c1) (.slice A2 ls.length c2)) ∧
      ShIn w' w.heap.size A0 c0 ns A1 c1 hs A2 c2 ls ∧ Below w.heap.size w w' := by
  obtain ⟨g, hg⟩ : ∃ g, w.heap.size = g := ⟨_, rfl⟩
  rw [hg]
  obtain ⟨gr, hgr⟩ : ∃ gr, g + 1 = gr := ⟨_, rfl⟩
  have hBx : Below g w ((w.alloc (.cells (shC i t (.slice An ns.length cn) lim nxt (.slice Ah hs.length ch) (.slice Al ls.length cl)) 30)).alloc (.cells (shC 0 0 (.slice none 0 0) 0 0 (.slice none 0 0) (.slice none 0 0)) 30)) := ((Below.refl _ _).alloc (by omega) _).alloc (by simp; omega) _
  have hs1 : (w.alloc (.cells (shC i t (.slice An ns.length cn) lim nxt (.slice Ah hs.length ch) (.slice Al ls.length cl)) 30)).heap.size = gr := by simp [hg, hgr]
  have hb1 : Blk ((w.alloc (.cells (shC i t (.slice An ns.length cn) lim nxt (.slice Ah hs.length ch) (.slice Al ls.length cl)) 30)).alloc (.cells (shC 0 0 (.slice none 0 0) 0 0 (.slice none 0 0) (.slice none 0 0)) 30)) g 30 (shC i t (.slice An ns.length cn) lim nxt (.slice Ah hs.length ch) (.slice Al ls.length cl)) := (hg ▸ Blk.new w 30 (shC i t (.slice An ns.length cn) lim nxt (.slice Ah hs.length ch) (.slice Al ls.length cl)) : Blk (w.alloc (.cells (shC i t (.slice An ns.length cn) lim nxt (.slice Ah hs.length ch) (.slice Al ls.length cl)) 30)) g 30 (shC i t (.slice An ns.length cn) lim nxt (.slice Ah hs.length ch) (.slice Al ls.length cl))).alloc _
  have hr1 : Blk ((w.alloc (.cells (shC i t (.slice An ns.length cn) lim nxt (.slice Ah hs.length ch) (.slice Al ls.length cl)) 30)).alloc (.cells (shC 0 0 (.slice none 0 0) 0 0 (.slice none 0 0) (.slice none 0 0)) 30)) gr 30 (shC 0 0 (.slice none 0 0) 0 0 (.slice none 0 0) (.slice none 0 0)) := hs1 ▸ Blk.new _ _ _
  have hz1 : ((w.alloc (.cells (shC i t (.slice An ns.length cn) lim nxt (.slice Ah hs.length ch) (.slice Al ls.length cl)) 30)).alloc (.cells (shC 0 0 (.slice none 0 0) 0 0 (.slice none 0 0) (.slice none 0 0)) 30)).heap.size = g + 2 := by simp [hg]
  have HN := Lib.hid (hn.keep (hg ▸ hBx))
  have HH := Lib.hid hh
  have HL := Lib.hid hl
  have hwf := hn.wf
  clear hs1 hh hl hn
  unfold shV
  go_enter Try.func9, Try.ntmps9
  go_upto_region 1 with (fail)
  change Code.wp _ _ _ _ ((w.alloc (.cells (shC i t (.slice An ns.length cn) lim nxt (.slice Ah hs.length ch) (.slice Al ls.length cl)) 30)).alloc (.cells (shC 0 0 (.slice none 0 0) 0 0 (.slice none 0 0) (.slice none 0 0)) 30))
  generalize ((w.alloc (.cells (shC i t (.slice An ns.length cn) lim nxt (.slice Ah hs.length ch) (.slice Al ls.length cl)) 30)).alloc (.cells (shC 0 0 (.slice none 0 0) 0 0 (.slice none 0 0) (.slice none 0 0)) 30)) = W at hb1 hr1 hBx hz1 HN ⊢
  try rw [hgr]
  have HB := Lib.hid hBx
  have HWF := Lib.hid hwf
  obtain ⟨q0, q1, q2, q3, q4, q5, q6⟩ := hb1.sh
  have y2 := hb1.frozen 2
  clear hBx hwf
  go_upto_region 2 with ((at_builtin; refine app_own (w0 := W) (g + 2) rfl _ _ 24 3 _ 8 rfl Try.underlying24 1 info_int rfl (by omega) (by omega) (.slice none 0 0) [] 0 rfl _ _ _ _ (nums .i64 ns) rfl (own_nil _ _ _ _) HN.out.reads (nums_one_cell .i64 ns) (Below.refl _ _) (by omega) (by omega) ?_; intro v1 w1 ho1 hB1 _ _; obtain ⟨A1, c1, rfl, hin1⟩ := OwI.of (l := ns) (by simpa [OwnN] using ho1) HWF.out (by omega); have HO1 := Lib.hid hin1; have hb2 := hb1.below hB1 (by omega); have hr2 := hr1.below hB1 (by omega); have HBB := Lib.hid (HB.out.trans (hB1.mono (by omega))); have hsz3 := hB1.size; clear q0 q1 q2 q3 q4 q5 q6 y2 hB1 ho1 hin1 hb1 hr1; obtain ⟨q0, q1, q2, q3, q4, q5, q6⟩ := hb2.sh; have y2 := hb2.frozen 2))
  have hb3 : Blk (w1.setCell ⟨g, 2, none⟩ (.slice A1 ns.length c1)) g 30 (shC i t (.slice A1 ns.length c1) lim nxt (.slice Ah hs.length ch) (.slice Al ls.length cl)) := Blk.setL (l := [Value.int .u64 i, .int .u64 t, (.slice An ns.length cn), .int .i64 lim, .int .u64 nxt, (.slice Ah hs.length ch), (.slice Al ls.length cl)]) hb2 2 _
  have hr3 := hr2.far (p := ⟨g, 2, none⟩) (by show gr ≠ g; omega) (.slice A1 ns.length c1)
  have hB3 := HBB.out.setCell (p := ⟨g, 2, none⟩) (Nat.le_refl _) (.slice A1 ns.length c1)
  have HO3 := Lib.hid (HO1.out.set (p := ⟨g, 2, none⟩) (by show g < g + 2; omega) (.slice A1 ns.length c1))
  have hz3 : g + 2 ≤ (w1.setCell ⟨g, 2, none⟩ (.slice A1 ns.length c1)).heap.size := by simp [World.setCell]; omega
  generalize w1.setCell ⟨g, 2, none⟩ (.slice A1 ns.length c1) = W3 at hb3 hr3 hB3 HO3 hz3 ⊢
  have HB3 := Lib.hid hB3
  have CP := r05_Copy_any W3 lim nxt Ah ch hs Al cl ls (HH.out.keep (hg ▸ hB3)) (HL.out.keep (hg ▸ hB3))
  unfold ledV at CP
  have CP := Lib.hid CP
  clear q0 q1 q2 q3 q4 q5 q6 y2 hB3 hb2 hr2 HBB HO1
  obtain ⟨q0, q1, q2, q3, q4, q5, q6⟩ := hb3.sh
  go_wp2_with fail
  refine CP.out.mono ?_
  rintro e w4 ⟨A3, c3, A4, c4, rfl, hin4, hB4⟩
  have hb4 := hb3.below hB4 hb3.lt
  have hr4 := hr3.below hB4 hr3.lt
  have HB4 := Lib.hid (HB3.out.trans (hB4.mono (by omega)))
  have HI4 : Hid (ShIn w4 (g + 2) A1 c1 ns A3 c3 hs A4 c4 ls) := ⟨HO3.out.keep hB4, hin4.lower (by omega)⟩
  clear q0 q1 q2 q3 q4 q5 q6 hb3 hr3 hB4 hin4 HO3 HB3
  obtain ⟨q0, q1, q2, q3, q4, q5, q6⟩ := hb4.sh
  have y3 := hb4.frozen 3
  have y4 := hb4.frozen 4
  have y5 := hb4.frozen 5
  have y6 := hb4.frozen 6
  go_upto_region 3 with (fail)
  have hb5 : Blk ((((w4.setCell ⟨g, 3, none⟩ (.int .i64 lim)).setCell ⟨g, 4, none⟩ (.int .u64 nxt)).setCell ⟨g, 5, none⟩ (.slice A3 hs.length c3)).setCell ⟨g, 6, none⟩ (.slice A4 ls.length c4)) g 30 (shC i t (.slice A1 ns.length c1) lim nxt (.slice A3 hs.length c3) (.slice A4 ls.length c4)) :=
    ((((Blk.setL (l := [Value.int .u64 i, .int .u64 t, .slice A1 ns.length c1, .int .i64 lim, .int .u64 nxt, .slice Ah hs.length ch, .slice Al ls.length cl]) hb4 3 _).setL 4 _).setL 5 _).setL 6 _)
  have hr5 := (((hr4.far (p := ⟨g, 3, none⟩) (by show gr ≠ g; omega) (.int .i64 lim)).far (p := ⟨g, 4, none⟩) (by show gr ≠ g; omega) (.int .u64 nxt)).far (p := ⟨g, 5, none⟩) (by show gr ≠ g; omega) (.slice A3 hs.length c3)).far (p := ⟨g, 6, none⟩) (by show gr ≠ g; omega) (.slice A4 ls.length c4)
  have f0 := fun (j : Nat) (W : World) (u : Value) (h : ShIn W (g + 2) A1 c1 ns A3 c3 hs A4 c4 ls) => h.set (p := ⟨g, j, none⟩) (by show g < g + 2; omega) u
  have s0 := fun (j : Nat) (W : World) (u : Value) (h : Below g w W) => h.setCell (p := ⟨g, j, none⟩) (Nat.le_refl _) u
  have HI5 : Hid (ShIn ((((w4.setCell ⟨g, 3, none⟩ (.int .i64 lim)).setCell ⟨g, 4, none⟩ (.int .u64 nxt)).setCell ⟨g, 5, none⟩ (.slice A3 hs.length c3)).setCell ⟨g, 6, none⟩ (.slice A4 ls.length c4)) (g + 2) A1 c1 ns A3 c3 hs A4 c4 ls) := f0 _ _ _ (f0 _ _ _ (f0 _ _ _ (f0 _ _ _ HI4.out)))
  have HB5 : Hid (Below g w ((((w4.setCell ⟨g, 3, none⟩ (.int .i64 lim)).setCell ⟨g, 4, none⟩ (.int .u64 nxt)).setCell ⟨g, 5, none⟩ (.slice A3 hs.length c3)).setCell ⟨g, 6, none⟩ (.slice A4 ls.length c4))) := s0 _ _ _ (s0 _ _ _ (s0 _ _ _ (s0 _ _ _ HB4.out)))
  generalize ((((w4.setCell ⟨g, 3, none⟩ (.int .i64 lim)).setCell ⟨g, 4, none⟩ (.int .u64 nxt)).setCell ⟨g, 5, none⟩ (.slice A3 hs.length c3)).setCell ⟨g, 6, none⟩ (.slice A4 ls.length c4)) = W5 at hb5 hr5 HI5 HB5 ⊢
  clear q0 q1 q2 q3 q4 q5 q6 y3 y4 y5 y6 hb4 hr4 HB4 HI4 f0 s0
  have HR5 := Lib.hid hr5
  obtain ⟨q0, q1, q2, q3, q4, q5, q6⟩ := hb5.sh
  obtain ⟨z0, z1, z2, z3, z4, z5, z6⟩ := hr5.sh
  have y0 := hr5.frozen 0
  have y1 := hr5.frozen 1
  have y2 := hr5.frozen 2
  have y3 := hr5.frozen 3
  have y4 := hr5.frozen 4
  have y5 := hr5.frozen 5
  have y6 := hr5.frozen 6
  have hne : g ≠ gr := by omega
  clear hb5 hr5
  go_wp2
  have hrF := Blk.set7 HR5.out (.int .u64 i) (.int .u64 t) (.slice A1 ns.length c1) (.int .i64 lim) (.int .u64 nxt) (.slice A3 hs.length c3) (.slice A4 ls.length c4)
  refine bodyPost_ret (results_cell1 rfl rfl (run_loadVar_row _ _ _ _ _ (0, 0) _ hrF Try.underlying30 rfl info_Shot)) rfl ?_
  have f := fun (j : Nat) (W : World) (u : Value) (h : ShIn W (g + 2) A1 c1 ns A3 c3 hs A4 c4 ls) => h.set (p := ⟨gr, j, none⟩) (by show gr < g + 2; omega) u
  have s := fun (j : Nat) (W : World) (u : Value) (h : Below g w W) => h.setCell (p := ⟨gr, j, none⟩) (by show g ≤ gr; omega) u
  exact ⟨A1, c1, A3, c3, A4, c4, rfl, ShIn.lower (f _ _ _ (f _ _ _ (f _ _ _ (f _ _ _ (f _ _ _ (f _ _ _ (f _ _ _ HI5.out))))))) (by omega), s _ _ _ (s _ _ _ (s _ _ _ (s _ _ _ (s _ _ _ (s _ _ _ (s _ _ _ HB5.out))))))⟩
end Go.Proofs.Ytjnkpjhggeibeaa

/- Snapshots: which may be, by the code. -/
namespace Go.Proofs.Ytjnkpjhggeibeaa
set_option maxRecDepth 100000
open Go.RowKit

/-! ### Plain -/
structure ShotOk (i t : Int) (ns : List Int) (lim nxt : Int) (hs : List Hd) (ls : List Ls) : Prop where
  late : ∀ h ∈ hs, h.stp ≤ i
  set : IsSet ns
  led : LedOk lim nxt hs ls
  zero : i = 0 ↔ t = 0
noncomputable instance (i t : Int) (ns : List Int) (lim nxt : Int) (hs : List Hd) (ls : List Ls) : Decidable (ShotOk i t ns lim nxt hs ls) := Classical.propDecidable _
def errShot (b : Bool) : Int := if b then 0 else 60
/-- One that is late is there. -/
def lateB (i : Int) (hs : List Hd) : Bool := hs.any fun h => decide (i < h.stp)
theorem lateB_false {i : Int} {hs : List Hd} : lateB i hs = false ↔ ∀ h ∈ hs, h.stp ≤ i := by
  unfold lateB
  rw [List.any_eq_false]
  constructor
  · intro h x hx
    have := h x hx
    simp only [decide_eq_true_eq] at this
    omega
  · intro h x hx
    have := h x hx
    simp only [decide_eq_true_eq]
    omega
theorem shot_bad {i t : Int} {ns : List Int} {lim nxt : Int} {hs : List Hd} {ls : List Ls} (h : ¬ ShotOk i t ns lim nxt hs ls) : errShot (decide (ShotOk i t ns lim nxt hs ls)) = 60 := by rw [decide_eq_false h]; rfl

/-! ### The walk -/
def hdV (h : Hd) : Value := .agg #[.int .i64 h.tok, .int .i64 h.nod, .int .u64 h.bt, .int .u64 h.ser, .int .u64 h.stp]
def lateF (g : Nat) : Value := .func (.func 27) #[] #[.pointer (some ⟨g, 0, none⟩)]
/-- The closure: is this row late. -/
theorem late_any (w : World) (g : Nat) (i : Int) (h : Hd) (hc : w.cell? ⟨g, 0, none⟩ = some (.int .u64 i)) (hlt : g < w.heap.size) :
    Calls Try.prog 27 #[hdV h, .pointer (some ⟨g, 0, none⟩)] w fun e w' => e = .returned (.bool (decide (i < h.stp))) ∧ Below w.heap.size w w' := by
  have hB : Below w.heap.size w (w.alloc (.cells (hdA h) 59)) := (Below.refl _ _).alloc (Nat.le_refl _) _
  have HB := Lib.hid hB
  have hc2 : (w.alloc (.cells (hdA h) 59)).cell? ⟨g, 0, none⟩ = some (.int .u64 i) := (World.cell?_alloc_lt w _ ⟨g, 0, none⟩ hlt).trans hc
  have hn : Blk (w.alloc (.cells (hdA h) 59)) w.heap.size 59 (hdA h) := Blk.new _ _ _
  have hgn : g ≠ w.heap.size := by omega
  obtain ⟨gh, hgh⟩ : ∃ gh, w.heap.size = gh := ⟨_, rfl⟩
  unfold hdV
  rw [hgh] at hn HB ⊢
  clear hB
  go_enter Try.func27, Try.ntmps27
  go_upto_region 1 with (fail)
  change Code.wp _ _ _ _ (w.alloc (.cells (hdA h) 59))
  generalize w.alloc (.cells (hdA h) 59) = W at HB hc2 hn ⊢
  try rw [hgh]
  have d4 : W.cell? ⟨gh, 4, none⟩ = some (.int .u64 h.stp) := (hn.cell 4).trans rfl
  clear hn hc
  go_wp2
  go_ret
  exact ⟨rfl, HB.out⟩

set_option maxRecDepth 100000 in
theorem late_index (w : World) (g : Nat) (i : Int) (A : Option Addr) (c : Nat) (hs : List Hd) (hh : InS hdC 5 w A c hs) (T : TypeId) (cs : Array Value) (hb : Blk w g T cs) (hc : cs[0]? = some (.int .u64 i)) :
    Calls Try.prog 37 #[.slice A hs.length c, lateF g] w fun e w' => ∃ z, e = .returned (.int .i64 z) ∧ decide (0 ≤ z) = lateB i hs ∧ Below w.heap.size w w' := by
  have HH := Lib.hid hh
  have hsz := hh.small
  have hcp := hh.cap
  have HBK := Lib.hid hb
  have hlt0 := hb.lt
  obtain ⟨s, hs0⟩ : ∃ s, w.heap.size = s := ⟨_, rfl⟩
  have CL := Lib.hid (fun W h (hB : Below s w W) => late_any W g i h ((World.cell?_of_block (hB.block g (hs0 ▸ hlt0))).trans ((hb.cell 0).trans hc)) (by have := hB.size; omega))
  rw [hs0] at hlt0 ⊢
  clear hh hb hc
  unfold lateF
  go_enter Try.func37, Try.ntmps37
  go_wp2_with fail
  go_loopw [5, 8] (fun _ j wr => ∃ (k : Nat), j = .int .i64 (k : Int) ∧ k ≤ hs.length ∧ (∀ a (ha : a < hs.length), a < k → hs[a].stp ≤ i) ∧ Below s w wr) (fun _ j _ => hs.length - (intOf j).toNat)
  case atStart => exact ⟨0, rfl, by omega, (fun _ _ h => absurd h (by omega)), Below.refl _ _⟩
  case round =>
    obtain ⟨k, rfl, hk, hgd, hBr⟩ := hrel
    have HG := Lib.hid hgd
    have HB := Lib.hid hBr
    by_cases hlt : k < hs.length
    · obtain ⟨b, off, rfl, _, hall⟩ := (HH.out.keep (hs0 ▸ hBr)).hd (by omega)
      obtain ⟨c0, c1, c2, c3, c4⟩ := hall k hlt
      obtain ⟨x, hx⟩ : ∃ x, hs[k] = x := ⟨_, rfl⟩
      rw [hx] at c0 c1 c2 c3 c4
      have HX := Lib.hid hx
      have CX := CL.out wr x hBr
      unfold hdV at CX
      have hz : s ≤ wr.heap.size := by have := hBr.size; omega
      by_cases hl : i < x.stp
      · rw [decide_eq_true hl] at CX
        have CX := Lib.hid CX
        have HL : Hid (lateB i hs = true) := by
          show _ = _
          unfold lateB
          rw [List.any_eq_true]
          exact ⟨hs[k], List.getElem_mem hlt, by rw [hx]; exact decide_eq_true hl⟩
        clear hall hgd hBr hx hl
        go_wp2_with fail
        refine CX.out.mono ?_
        rintro e w2 ⟨rfl, hB2⟩
        have HB2 := Lib.hid (HB.out.trans (hB2.mono hz))
        clear hB2 c0 c1 c2 c3 c4
        go_wp2
        (try simp only [Exit.inBlock, Exit.then])
        go_ret
        exact ⟨(k : Int), rfl, by rw [HL.out]; exact decide_eq_true (by omega), HB2.out⟩
      · rw [decide_eq_false hl] at CX
        have CX := Lib.hid CX
        have HL := Lib.hid hl
        clear hall hgd hBr hx hl
        go_wp2_with fail
        refine CX.out.mono ?_
        rintro e w2 ⟨rfl, hB2⟩
        have HB2 := Lib.hid (HB.out.trans (hB2.mono hz))
        clear hB2 c0 c1 c2 c3 c4
        go_wp2
        go_roundw
        case rel =>
          refine ⟨k + 1, by go_num, by omega, fun a ha hak => ?_, HB2.out⟩
          rcases Nat.lt_or_ge a k with h1 | h1
          · exact HG.out a ha h1
          · obtain rfl : a = k := by omega
            rw [HX.out]
            have := HL.out
            omega
        case measure => simp [intOf]; omega
    · obtain rfl : k = hs.length := by omega
      have HL : Hid (lateB i hs = false) := lateB_false.2 (fun x hx => by
        obtain ⟨a, ha, rfl⟩ := List.getElem_of_mem hx
        exact hgd a ha ha)
      clear hgd hBr
      go_wp2
      go_ret
      exact ⟨-1, rfl, by rw [HL.out]; rfl, HB.out⟩

theorem late_contains (w : World) (g : Nat) (i : Int) (A : Option Addr) (c : Nat) (hs : List Hd) (hh : InS hdC 5 w A c hs) (T : TypeId) (cs : Array Value) (hb : Blk w g T cs) (hc : cs[0]? = some (.int .u64 i)) :
    Calls Try.prog 26 #[.slice A hs.length c, lateF g] w fun e w' => e = .returned (.bool (lateB i hs)) ∧ Below w.heap.size w w' := by
  have C := Lib.hid (late_index w g i A c hs hh T cs hb hc)
  clear hh hb hc
  go_enter Try.func26, Try.ntmps26
  go_wp2_with fail
  refine C.out.mono ?_
  rintro e w2 ⟨z, rfl, hz, hB2⟩
  have HB2 := Lib.hid hB2
  have HZ := Lib.hid hz
  clear hB2 hz
  go_wp2
  go_ret
  exact ⟨by rw [← HZ.out]; rfl, HB2.out⟩
end Go.Proofs.Ytjnkpjhggeibeaa

/- A region that draws its order, whose operations only read or call what leaves a class of worlds: one walk of the text's order serves every order. -/
namespace Go.Proofs.Ytjnkpjhggeibeaa
set_option maxRecDepth 100000
open Go.RowKit

/-- A world of a class. -/
structure InClass (K : World → Prop) where
  w : World
  ok : K w
theorem wp_region_class_lit {P : Program} {id : Nat} {Q : Exit → Act → World → Prop} {a : Act} {w : World} {l : List Oper} (K : World → Prop) (hm : P.follows .mixedOrders = true) (hB : Region.lexB .any l.toArray = true) (h0 : K w.drew)
    (h : wpQuiet P l.toArray (fun w' => ∃ p : InClass K, w' = p.w) (fun a' => ∀ w', (∃ p : InClass K, w' = p.w) → Q .normal a' w') l a) : (Code.region id l.toArray true).wp P Q a w :=
  wp_region_quiet (C := fun w' => ∃ p : InClass K, w' = p.w) hm hB ⟨⟨w.drew, h0⟩, rfl⟩ (by simpa using h)
end Go.Proofs.Ytjnkpjhggeibeaa
