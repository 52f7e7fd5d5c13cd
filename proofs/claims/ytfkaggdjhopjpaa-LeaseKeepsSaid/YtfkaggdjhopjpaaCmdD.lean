/- Walks over commands: the code's Check. -/
import Derived.Test.YtfkaggdjhopjpaaCmdA
import Derived.Deep.DeepCutAuto
namespace Go.Proofs.Ytfkaggdjhopjpaa
set_option maxRecDepth 100000
open Go.RowKit

/-- A command's cells. -/
structure CmdAt (w : World) (g : Nat) (k n t : Int) (sl : Value) (b q s m : Int) : Prop where
  c0 : w.cell? ⟨g, 0, none⟩ = some (.int .i64 k)
  c1 : w.cell? ⟨g, 1, none⟩ = some (.int .i64 n)
  c2 : w.cell? ⟨g, 2, none⟩ = some (.int .i64 t)
  c3 : w.cell? ⟨g, 3, none⟩ = some sl
  c4 : w.cell? ⟨g, 4, none⟩ = some (.int .u64 b)
  c5 : w.cell? ⟨g, 5, none⟩ = some (.int .u64 q)
  c6 : w.cell? ⟨g, 6, none⟩ = some (.int .u64 s)
  c7 : w.cell? ⟨g, 7, none⟩ = some (.int .u64 m)
structure WhichAt (w : World) (g : Nat) (k : Int) : Prop where
  d0 : w.cell? ⟨g, 0, none⟩ = some (.bool (kN k))
  d1 : w.cell? ⟨g, 1, none⟩ = some (.bool (kR k))
  d2 : w.cell? ⟨g, 2, none⟩ = some (.bool (kT k))
  d3 : w.cell? ⟨g, 3, none⟩ = some (.bool (kS k))
  d4 : w.cell? ⟨g, 4, none⟩ = some (.bool (kI k))
def cmdCells (k n t : Int) (sl : Value) (b q s m : Int) : Array Value := #[.int .i64 k, .int .i64 n, .int .i64 t, sl, .int .u64 b, .int .u64 q, .int .u64 s, .int .u64 m]
theorem Blk.cmd {w : World} {g : Nat} {T : TypeId} {k n t : Int} {sl : Value} {b q s m : Int} (h : Blk w g T (cmdCells k n t sl b q s m)) : CmdAt w g k n t sl b q s m := by
  constructor <;> (rw [h.cell]; rfl)
theorem Blk.which {w : World} {g : Nat} {T : TypeId} {k : Int} (h : Blk w g T #[.bool (kN k), .bool (kR k), .bool (kT k), .bool (kS k), .bool (kI k)]) : WhichAt w g k := by
  constructor <;> (rw [h.cell]; rfl)

/-- The list is as its kind asks. -/
noncomputable def listB (k : Int) (l : List Int) : Bool := if kN k then decide (IsSet l) else decide (l.length = 0)
def reqZ (n b q : Int) : Bool := n == 0 && b == 0 && q == 0
def reqB (k n b q : Int) : Bool := if kR k then decide (n ≥ 1) && decide (n ≤ 7) && decide (b > 0) && decide (q > 0) else reqZ n b q
def tokZ (t s : Int) : Bool := t == 0 && s == 0
def tokB (k t s : Int) : Bool := if kT k then decide (t ≥ 1) && decide (t ≤ 65535) && decide (s > 0) else tokZ t s
noncomputable def codeOk (k n t : Int) (l : List Int) (b q s m : Int) : Bool := kI k && listB k l && reqB k n b q && tokB k t s && (decide (m > 0) == kS k)
set_option maxRecDepth 100000 in
set_option maxHeartbeats 4000000 in
theorem cmd_Check_any (w : World) (k n t : Int) (A : Option Addr) (c : Nat) (l : List Int) (b q s m : Int) (h : InN .i64 w A c l) :
    Calls Try.prog 56 #[cmdV k n t (.slice A l.length c) b q s m] w fun e w' => e = .returned (.int .i64 (errCmd (codeOk k n t l b q s m))) ∧ Below w.heap.size w w' := by
  have C1 := fun W => Lib.hid (cmd_of_any W k)
  have HIN := Lib.hid h
  have hs := h.small
  have hcap := h.cap
  clear h
  obtain ⟨g, hg⟩ : ∃ g, w.heap.size = g := ⟨_, rfl⟩
  generalize hE : errCmd (codeOk k n t l b q s m) = E
  have HE := Lib.hid hE
  clear hE
  unfold cmdV
  have hb0 : Blk (w.alloc (.cells (cmdCells k n t (.slice A l.length c) b q s m) 39)) g 39 (cmdCells k n t (.slice A l.length c) b q s m) := hg ▸ Blk.new _ _ _
  have hB0 : Below g w (w.alloc (.cells (cmdCells k n t (.slice A l.length c) b q s m) 39)) := (Below.refl _ _).alloc (by omega) _
  go_enter Try.func56, Try.ntmps56
  go_wp2_with fail
  refine (C1 _).out.mono ?_
  rintro e w1 ⟨rfl, hB1⟩
  unfold which
  have hb1 := hb0.below hB1 hb0.lt
  have hBw1 : Below g w w1 := hB0.trans (hB1.mono (Nat.le_of_lt hb0.lt))
  obtain ⟨g1, hg1⟩ : ∃ g1, w1.heap.size = g1 := ⟨_, rfl⟩
  have hlt : g < g1 := hg1 ▸ hb1.lt
  have hb2 := hb1.alloc (.cells #[.bool (kN k), .bool (kR k), .bool (kT k), .bool (kS k), .bool (kI k)] 149)
  have hw2 : Blk (w1.alloc (.cells #[.bool (kN k), .bool (kR k), .bool (kT k), .bool (kS k), .bool (kI k)] 149)) g1 149 _ := hg1 ▸ Blk.new _ _ _
  have hB2 : Below g w (w1.alloc (.cells #[.bool (kN k), .bool (kR k), .bool (kT k), .bool (kS k), .bool (kI k)] 149)) := hBw1.alloc (by omega) _
  clear hb0 hB0 hb1 hBw1 hB1
  go_upto_region 2 with (fail)
  generalize w1.alloc (.cells #[.bool (kN k), .bool (kR k), .bool (kT k), .bool (kS k), .bool (kI k)] 149) = W2 at hb2 hw2 hB2 ⊢
  clear hg1
  obtain ⟨c0, c1, c2, c3, c4, c5, c6, c7⟩ := hb2.cmd
  obtain ⟨d0, d1, d2, d3, d4⟩ := hw2.which
  go_upto_if 15 with (fail)
  go_cut [4] (fun x wx => x = .bool (listB k l) ∧ Below g w wx ∧ Blk wx g 39 (cmdCells k n t (.slice A l.length c) b q s m) ∧ Blk wx g1 149 #[.bool (kN k), .bool (kR k), .bool (kT k), .bool (kS k), .bool (kI k)])
  case first =>
    have HBW : Hid (Below w.heap.size w W2) := by
      rw [hg]
      exact hB2
    cases hN : kN k
    · have HLB : Hid (((l.length : Int) == 0) = listB k l) := by
        show _ = _
        simp only [listB, hN]
        apply Bool.eq_iff_iff.2
        simp
      go_wp2
      go_meet
      case rel => exact ⟨by rw [HLB.out], hB2, hb2, hw2⟩
    · have C2 := Lib.hid (nodes_Check_any _ A c l (HIN.out.keep HBW.out))
      have HLB : Hid (listB k l = decide (IsSet l)) := by
        show _ = _
        simp [listB, hN]
      obtain ⟨B, hB⟩ : ∃ B, decide (IsSet l) = B := ⟨_, rfl⟩
      rw [hB] at C2 HLB
      clear hB
      go_wp2_with fail
      refine C2.out.mono ?_
      rintro e w2 ⟨rfl, hB3⟩
      have hb3 := hb2.below hB3 hb2.lt
      have hw3 := hw2.below hB3 hw2.lt
      have hB4 : Below g w w2 := hB2.trans (hB3.mono (Nat.le_of_lt hb2.lt))
      cases B
      all_goals
        go_wp2
        go_meet
        case rel => exact ⟨by rw [HLB.out]; rfl, hB4, hb3, hw3⟩
  case rest =>
    clear c0 c1 c2 c3 c4 c5 c6 c7 d0 d1 d2 d3 d4 hb2 hw2 hB2
    obtain ⟨rfl, hBc, hbc, hwc⟩ := hcut
    obtain ⟨c0, c1, c2, c3, c4, c5, c6, c7⟩ := hbc.cmd
    obtain ⟨d0, d1, d2, d3, d4⟩ := hwc.which
    go_upto_region 5 with (fail)
    go_cut [5] (fun x wx => x = .bool (reqZ n b q) ∧ wx = wc)
    case first =>
      cases h1 : (n == 0)
      · have HV : Hid (reqZ n b q = false) := by
          show _ = _
          simp only [reqZ, h1]
          simp
        go_wp2
        go_meet
        case rel => exact ⟨by rw [HV.out], rfl⟩
      · skip
        cases h2 : (b == 0)
        · have HV : Hid (reqZ n b q = false) := by
            show _ = _
            simp only [reqZ, h1, h2]
            simp
          go_wp2
          go_meet
          case rel => exact ⟨by rw [HV.out], rfl⟩
        · skip
          cases h3 : (q == 0)
          · have HV : Hid (reqZ n b q = false) := by
              show _ = _
              simp only [reqZ, h1, h2, h3]
              simp
            go_wp2
            go_meet
            case rel => exact ⟨by rw [HV.out], rfl⟩
          · have HV : Hid (reqZ n b q = true) := by
              show _ = _
              simp only [reqZ, h1, h2, h3]
              simp
            go_wp2
            go_meet
            case rel => exact ⟨by rw [HV.out], rfl⟩
    case rest =>
      obtain ⟨rfl, rfl⟩ := hcut
      go_upto_if 34 with (fail)
      go_cut [5] (fun x wx => x = .bool (reqB k n b q) ∧ wx = wc)
      case first =>
        cases hR : kR k
        · have HV : Hid (reqB k n b q = reqZ n b q) := by
            show _ = _
            simp [reqB, hR]
          go_wp2
          go_meet
          case rel => exact ⟨by rw [HV.out], rfl⟩
        · have HR := Lib.hid hR
          clear hR
          cases h1 : decide (n ≥ 1)
          · have HV : Hid (reqB k n b q = false) := by
              show _ = _
              simp only [reqB, HR.out, h1]
              simp
            go_wp2
            go_meet
            case rel => exact ⟨by rw [HV.out], rfl⟩
          · skip
            cases h2 : decide (n ≤ 7)
            · have HV : Hid (reqB k n b q = false) := by
                show _ = _
                simp only [reqB, HR.out, h1, h2]
                simp
              go_wp2
              go_meet
              case rel => exact ⟨by rw [HV.out], rfl⟩
            · skip
              cases h3 : decide (b > 0)
              · have HV : Hid (reqB k n b q = false) := by
                  show _ = _
                  simp only [reqB, HR.out, h1, h2, h3]
                  simp
                go_wp2
                go_meet
                case rel => exact ⟨by rw [HV.out], rfl⟩
              · skip
                cases h4 : decide (q > 0)
                · have HV : Hid (reqB k n b q = false) := by
                    show _ = _
                    simp only [reqB, HR.out, h1, h2, h3, h4]
                    simp
                  go_wp2
                  go_meet
                  case rel => exact ⟨by rw [HV.out], rfl⟩
                · have HV : Hid (reqB k n b q = true) := by
                    show _ = _
                    simp only [reqB, HR.out, h1, h2, h3, h4]
                    simp
                  go_wp2
                  go_meet
                  case rel => exact ⟨by rw [HV.out], rfl⟩
      case rest =>
        obtain ⟨rfl, rfl⟩ := hcut
        go_upto_region 8 with (fail)
        go_cut [6] (fun x wx => x = .bool (tokZ t s) ∧ wx = wc)
        case first =>
          cases h1 : (t == 0)
          · have HV : Hid (tokZ t s = false) := by
              show _ = _
              simp only [tokZ, h1]
              simp
            go_wp2
            go_meet
            case rel => exact ⟨by rw [HV.out], rfl⟩
          · skip
            cases h2 : (s == 0)
            · have HV : Hid (tokZ t s = false) := by
                show _ = _
                simp only [tokZ, h1, h2]
                simp
              go_wp2
              go_meet
              case rel => exact ⟨by rw [HV.out], rfl⟩
            · have HV : Hid (tokZ t s = true) := by
                show _ = _
                simp only [tokZ, h1, h2]
                simp
              go_wp2
              go_meet
              case rel => exact ⟨by rw [HV.out], rfl⟩
        case rest =>
          obtain ⟨rfl, rfl⟩ := hcut
          go_upto_if 62 with (fail)
          go_cut [6] (fun x wx => x = .bool (tokB k t s) ∧ wx = wc)
          case first =>
            cases hR : kT k
            · have HV : Hid (tokB k t s = tokZ t s) := by
                show _ = _
                simp [tokB, hR]
              go_wp2
              go_meet
              case rel => exact ⟨by rw [HV.out], rfl⟩
            · have HR := Lib.hid hR
              clear hR
              cases h1 : decide (t ≥ 1)
              · have HV : Hid (tokB k t s = false) := by
                  show _ = _
                  simp only [tokB, HR.out, h1]
                  simp
                go_wp2
                go_meet
                case rel => exact ⟨by rw [HV.out], rfl⟩
              · skip
                cases h2 : decide (t ≤ 65535)
                · have HV : Hid (tokB k t s = false) := by
                    show _ = _
                    simp only [tokB, HR.out, h1, h2]
                    simp
                  go_wp2
                  go_meet
                  case rel => exact ⟨by rw [HV.out], rfl⟩
                · skip
                  cases h3 : decide (s > 0)
                  · have HV : Hid (tokB k t s = false) := by
                      show _ = _
                      simp only [tokB, HR.out, h1, h2, h3]
                      simp
                    go_wp2
                    go_meet
                    case rel => exact ⟨by rw [HV.out], rfl⟩
                  · have HV : Hid (tokB k t s = true) := by
                      show _ = _
                      simp only [tokB, HR.out, h1, h2, h3]
                      simp
                    go_wp2
                    go_meet
                    case rel => exact ⟨by rw [HV.out], rfl⟩
          case rest =>
            obtain ⟨rfl, rfl⟩ := hcut
            cases h1 : kI k
            · have HV : Hid (E = 40) := by
                show _ = _
                rw [← HE.out]
                simp only [codeOk, h1]
                rfl
              go_wp2
              go_ret
              exact ⟨by rw [HV.out]; rfl, by rw [hg]; exact hBc⟩
            · skip
              cases h2 : listB k l
              · have HV : Hid (E = 40) := by
                  show _ = _
                  rw [← HE.out]
                  simp only [codeOk, h1, h2]
                  rfl
                go_wp2
                go_ret
                exact ⟨by rw [HV.out]; rfl, by rw [hg]; exact hBc⟩
              · skip
                cases h3 : reqB k n b q
                · have HV : Hid (E = 40) := by
                    show _ = _
                    rw [← HE.out]
                    simp only [codeOk, h1, h2, h3]
                    rfl
                  go_wp2
                  go_ret
                  exact ⟨by rw [HV.out]; rfl, by rw [hg]; exact hBc⟩
                · skip
                  cases h4 : tokB k t s
                  · have HV : Hid (E = 40) := by
                      show _ = _
                      rw [← HE.out]
                      simp only [codeOk, h1, h2, h3, h4]
                      rfl
                    go_wp2
                    go_ret
                    exact ⟨by rw [HV.out]; rfl, by rw [hg]; exact hBc⟩
                  · skip
                    cases h5 : decide (m > 0)
                    · cases h6 : kS k
                      · have HV : Hid (E = 0) := by
                          show _ = _
                          rw [← HE.out]
                          simp only [codeOk, h1, h2, h3, h4, h5, h6]
                          rfl
                        go_wp2
                        go_ret
                        exact ⟨by rw [HV.out]; rfl, by rw [hg]; exact hBc⟩
                      · have HV : Hid (E = 40) := by
                          show _ = _
                          rw [← HE.out]
                          simp only [codeOk, h1, h2, h3, h4, h5, h6]
                          rfl
                        go_wp2
                        go_ret
                        exact ⟨by rw [HV.out]; rfl, by rw [hg]; exact hBc⟩
                    · cases h6 : kS k
                      · have HV : Hid (E = 40) := by
                          show _ = _
                          rw [← HE.out]
                          simp only [codeOk, h1, h2, h3, h4, h5, h6]
                          rfl
                        go_wp2
                        go_ret
                        exact ⟨by rw [HV.out]; rfl, by rw [hg]; exact hBc⟩
                      · have HV : Hid (E = 0) := by
                          show _ = _
                          rw [← HE.out]
                          simp only [codeOk, h1, h2, h3, h4, h5, h6]
                          rfl
                        go_wp2
                        go_ret
                        exact ⟨by rw [HV.out]; rfl, by rw [hg]; exact hBc⟩
end Go.Proofs.Ytfkaggdjhopjpaa
