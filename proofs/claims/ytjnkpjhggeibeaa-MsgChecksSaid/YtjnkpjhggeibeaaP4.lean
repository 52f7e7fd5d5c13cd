/- Texts drawn together (9 of them): words, plain laws and walks that the row leans on. -/
import Derived.Test.YtjnkpjhggeibeaaP2
import Derived.Deep.DeepCutAuto
import Derived.Test.YtjnkpjhggeibeaaP3
import Derived.Test.YtjnkpjhggeibeaaP1
import Derived.Lib.MinMax
/- Ledgers: the document's Check. -/
namespace Go.Proofs.Ytjnkpjhggeibeaa
set_option maxRecDepth 100000
open Go.RowKit

/-- What stands while the document looks at a row of Last. -/
structure KeptX (w : World) (g gh : Nat) (T U : TypeId) (cs ds : Array Value) (pb po : Nat) (pv : Value) (w1 : World) : Prop where
  h1 : Blk w1 g T cs
  h2 : Blk w1 gh U ds
  h3 : Below g w w1
  h4 : w1.cell? ⟨pb, po, none⟩ = some pv
  h5 : pb < w1.heap.size
theorem KeptX.call {w : World} {g gh : Nat} {T U : TypeId} {lim nxt : Int} {hl ll : Value} {x : Ls} {pb po : Nat} {pv : Value} {w1 w2 : World} (hb : Below w1.heap.size w1 w2) (h : KeptX w g gh T U (ledC lim nxt hl ll) (lsA x) pb po pv w1) :
    KeptX w g gh T U (ledC lim nxt hl ll) (lsA x) pb po pv w2 ∧ w2.cell? ⟨g, 0, none⟩ = some (.int .i64 lim) ∧ w2.cell? ⟨g, 1, none⟩ = some (.int .u64 nxt) ∧ w2.cell? ⟨g, 2, none⟩ = some hl ∧ w2.cell? ⟨g, 3, none⟩ = some ll ∧
      w2.cell? ⟨gh, 0, none⟩ = some (.int .i64 x.nod) ∧ w2.cell? ⟨gh, 1, none⟩ = some (.int .u64 x.bt) ∧ w2.cell? ⟨gh, 2, none⟩ = some (.int .u64 x.sq) ∧ w2.cell? ⟨gh, 3, none⟩ = some (.int .i64 x.cod) ∧ w2.cell? ⟨gh, 4, none⟩ = some (.int .i64 x.tok) ∧ w2.cell? ⟨gh, 5, none⟩ = some (.int .u64 x.ser) ∧ w2.cell? ⟨pb, po, none⟩ = some pv := by
  obtain ⟨h1, h2, h3, h4, h5⟩ := h
  have k1 := h1.below hb h1.lt
  have k2 := h2.below hb h2.lt
  have k4 := (hb.cell (p := ⟨pb, po, none⟩) h5).trans h4
  exact ⟨⟨k1, k2, h3.trans (hb.mono (Nat.le_of_lt h1.lt)), k4, Nat.lt_of_lt_of_le h5 hb.size⟩, k1.led.q0, k1.led.q1, k1.led.q2, k1.led.q3, (k2.cell 0).trans rfl, (k2.cell 1).trans rfl, (k2.cell 2).trans rfl, (k2.cell 3).trans rfl, (k2.cell 4).trans rfl, (k2.cell 5).trans rfl, k4⟩
/-- What the document asks of row i, but that its serial is its own. -/
structure LocH (lim nxt : Int) (l : List Hd) (i : Nat) (h : Hd) : Prop where
  rise : 0 < i → ∀ (hl : i - 1 < l.length), l[i - 1].tok < h.tok
  tok1 : 1 ≤ h.tok
  tok2 : h.tok ≤ lim
  nod1 : 1 ≤ h.nod
  nod2 : h.nod ≤ 7
  bt : 1 ≤ h.bt
  stp : 1 ≤ h.stp
  ser1 : 1 ≤ h.ser
  ser2 : h.ser < nxt

set_option maxRecDepth 100000 in
set_option maxHeartbeats 8000000 in
theorem r05_Check_any (w : World) (lim nxt : Int) (Ah : Option Addr) (ch : Nat) (hs : List Hd) (Al : Option Addr) (cl : Nat) (ls : List Ls) (hh : InS hdC 5 w Ah ch hs) (hl : InS lsC 6 w Al cl ls) :
    Calls Try.prog 33 #[ledV lim nxt (.slice Ah hs.length ch) (.slice Al ls.length cl)] w fun e w' => e = .returned (.int .i64 (errLed (decide (LedOk lim nxt hs ls)))) ∧ Below w.heap.size w w' := by
  have HH := Lib.hid hh
  have HL := Lib.hid hl
  have hsz1 := hh.small
  have hsz2 := hl.small
  have hcp1 := hh.cap
  have hcp2 := hl.cap
  obtain ⟨B, hB⟩ : ∃ B, decide (LedOk lim nxt hs ls) = B := ⟨_, rfl⟩
  rw [hB]
  have HOK := Lib.hid hB
  have BAD : Hid (¬ LedOk lim nxt hs ls → errLed B = 50) := fun h => by rw [← hB, decide_eq_false h]; rfl
  obtain ⟨E, hE⟩ : ∃ E, errLed B = E := ⟨_, rfl⟩
  rw [hE] at BAD ⊢
  have HE := Lib.hid hE
  obtain ⟨g, hg⟩ : ∃ g, w.heap.size = g := ⟨_, rfl⟩
  rw [hg]
  have hb0 : Blk (w.alloc (.cells (ledC lim nxt (.slice Ah hs.length ch) (.slice Al ls.length cl)) 28)) g 28 (ledC lim nxt (.slice Ah hs.length ch) (.slice Al ls.length cl)) := hg ▸ Blk.new _ _ _
  have hB0 : Below g w (w.alloc (.cells (ledC lim nxt (.slice Ah hs.length ch) (.slice Al ls.length cl)) 28)) := (Below.refl _ _).alloc (by omega) _
  clear hB hE hh hl
  have CA := fun W hl ll cod tok ser => r05_answer_any W lim nxt hl ll cod tok ser
  unfold ledV at CA ⊢
  have CA := Lib.hid CA
  go_enter Try.func33, Try.ntmps33
  go_upto_region 1 with (fail)
  change Code.wp _ _ _ _ (w.alloc (.cells (ledC lim nxt (.slice Ah hs.length ch) (.slice Al ls.length cl)) 28))
  generalize (w.alloc (.cells (ledC lim nxt (.slice Ah hs.length ch) (.slice Al ls.length cl)) 28)) = W at hb0 hB0 ⊢
  obtain ⟨q0, q1, q2, q3⟩ := hb0.led
  have HB0 := Lib.hid hB0
  by_cases h1 : lim < 1
  · have e1 : decide (lim < 1) = true := decide_eq_true h1
    have HV1 : Hid (E = 50) := BAD.out (fun h => by have := h.head.l1; omega)
    go_wp2
    go_ret
    exact ⟨by rw [HV1.out]; rfl, HB0.out⟩
  have e1 : decide (lim < 1) = false := decide_eq_false h1
  by_cases h2 : 65535 < lim
  · have e2 : decide (65535 < lim) = true := decide_eq_true h2
    have HV1 : Hid (E = 50) := BAD.out (fun h => by have := h.head.l2; omega)
    go_wp2
    go_ret
    exact ⟨by rw [HV1.out]; rfl, HB0.out⟩
  have e2 : decide (65535 < lim) = false := decide_eq_false h2
  by_cases h3 : nxt < 1
  · have e3 : decide (nxt < 1) = true := decide_eq_true h3
    have HV1 : Hid (E = 50) := BAD.out (fun h => by have := h.head.n1; omega)
    go_wp2
    go_ret
    exact ⟨by rw [HV1.out]; rfl, HB0.out⟩
  have e3 : decide (nxt < 1) = false := decide_eq_false h3
  by_cases h4 : (64 : Int) < hs.length
  · have e4 : decide ((64 : Int) < hs.length) = true := decide_eq_true h4
    have HV1 : Hid (E = 50) := BAD.out (fun h => by have := h.head.len; omega)
    go_wp2
    go_ret
    exact ⟨by rw [HV1.out]; rfl, HB0.out⟩
  have e4 : decide ((64 : Int) < hs.length) = false := decide_eq_false h4
  have HHEAD : Hid (HeadOk lim nxt hs.length) := ⟨by omega, by omega, by omega, by omega⟩
  go_wp2_with fail
  clear h1 h2 h3 e1 e2 e3 e4 q0 q1 q2 q3 HB0
  go_loopw [3, 4, 31] (fun _ _ i wr => ∃ (k : Nat), i = .int .i64 (k : Int) ∧ k ≤ hs.length ∧ HdsOk lim nxt hs k ∧ Blk wr g 28 (ledC lim nxt (.slice Ah hs.length ch) (.slice Al ls.length cl)) ∧ Below g w wr) (fun _ _ i _ => hs.length - (intOf i).toNat)
  case atStart => exact ⟨0, rfl, by omega, HdsOk.zero, hb0, hB0⟩
  case round =>
    clear hb0 hB0
    obtain ⟨k, rfl, hk, hok, hbr, hBr⟩ := hrel
    have HOKS := Lib.hid hok
    have HBB := Lib.hid hBr
    by_cases hlt : k < hs.length
    · obtain ⟨b, off, rfl, hbl, hall⟩ := (HH.out.keep (by rw [hg]; exact hBr)).hd (by omega)
      have hd := hall k hlt
      obtain ⟨x, hx⟩ : ∃ x, hs[k] = x := ⟨_, rfl⟩
      rw [hx] at hd
      have HX := Lib.hid hx
      obtain ⟨q0, q1, q2, q3⟩ := hbr.led
      obtain ⟨c0, c1, c2, c3, c4⟩ := hd
      obtain ⟨gh, hgh⟩ : ∃ gh, wr.heap.size = gh := ⟨_, rfl⟩
      have hlt0 : g < gh := hgh ▸ hbr.lt
      have hltb : b < gh := hgh ▸ hbl
      have hnew : Blk (wr.alloc (.cells (hdA x) 59)) gh 59 (hdA x) := hgh ▸ Blk.new _ _ _
      have hbr2 := hbr.alloc (.cells (hdA x) 59)
      have hBr2 := hBr.alloc (by omega) (.cells (hdA x) 59)
      have hpv : ∀ j (hj : j < hs.length), k = j + 1 → (wr.alloc (.cells (hdA x) 59)).cell? ⟨b, off + j * 5, none⟩ = some (.int .i64 hs[j].tok) := fun j hj _ => (World.cell?_alloc_lt wr _ ⟨b, off + j * 5, none⟩ hbl).trans (hall j hj).c0
      have NOT : Hid (¬ HdOk lim nxt hs k x → E = 50) := fun h => BAD.out (not_hds hlt (by rw [hx]; exact h))
      clear hall hok hBr hbr hx
      go_upto_region 6 with (fail)
      change Code.wp _ _ _ _ (wr.alloc (.cells (hdA x) 59))
      generalize wr.alloc (.cells (hdA x) 59) = W2 at hnew hbr2 hBr2 hpv ⊢
      try rw [hgh]
      clear c0 c1 c2 c3 c4 q0 q1 q2 q3 hgh hbl
      obtain ⟨q0, q1, q2, q3⟩ := hbr2.led
      have d0 : W2.cell? ⟨gh, 0, none⟩ = some (.int .i64 x.tok) := (hnew.cell 0).trans rfl
      have d1 : W2.cell? ⟨gh, 1, none⟩ = some (.int .i64 x.nod) := (hnew.cell 1).trans rfl
      have d2 : W2.cell? ⟨gh, 2, none⟩ = some (.int .u64 x.bt) := (hnew.cell 2).trans rfl
      have d3 : W2.cell? ⟨gh, 3, none⟩ = some (.int .u64 x.ser) := (hnew.cell 3).trans rfl
      have d4 : W2.cell? ⟨gh, 4, none⟩ = some (.int .u64 x.stp) := (hnew.cell 4).trans rfl
      have HNW := Lib.hid hnew
      have HB2 := Lib.hid hbr2
      have HBE2 := Lib.hid hBr2
      have HPV := Lib.hid hpv
      clear hnew hbr2 hBr2 hpv
      go_cut [93] (fun y wx => ∃ bd : Bool, y = .bool bd ∧ (bd = true → E = 50) ∧ (bd = false → LocH lim nxt hs k x) ∧ Blk wx gh 59 (hdA x) ∧ Blk wx g 28 (ledC lim nxt (.slice (some ⟨b, off, none⟩) hs.length ch) (.slice Al ls.length cl)) ∧ Below g w wx)
      case first =>
        cases k with
        | zero =>
          by_cases h1 : x.tok < 1
          · have e1 : decide (x.tok < 1) = true := decide_eq_true h1
            have HV1 : Hid (E = 50) := NOT.out (fun h => by have := h.tok1; omega)
            go_wp2_with fail
            go_quiet (fail)
            go_wp2
            go_meet
            case rel => exact ⟨true, rfl, fun _ => HV1.out, (fun h => by cases h), HNW.out.drewN _, HB2.out.drewN _, below_drewN HBE2.out _⟩
          have e1 : decide (x.tok < 1) = false := decide_eq_false h1
          by_cases h2 : lim < x.tok
          · have e2 : decide (lim < x.tok) = true := decide_eq_true h2
            have HV1 : Hid (E = 50) := NOT.out (fun h => by have := h.tok2; omega)
            go_wp2_with fail
            go_quiet (fail)
            go_wp2
            go_meet
            case rel => exact ⟨true, rfl, fun _ => HV1.out, (fun h => by cases h), HNW.out.drewN _, HB2.out.drewN _, below_drewN HBE2.out _⟩
          have e2 : decide (lim < x.tok) = false := decide_eq_false h2
          by_cases h3 : x.nod < 1
          · have e3 : decide (x.nod < 1) = true := decide_eq_true h3
            have HV1 : Hid (E = 50) := NOT.out (fun h => by have := h.nod1; omega)
            go_wp2_with fail
            go_quiet (fail)
            go_wp2
            go_meet
            case rel => exact ⟨true, rfl, fun _ => HV1.out, (fun h => by cases h), HNW.out.drewN _, HB2.out.drewN _, below_drewN HBE2.out _⟩
          have e3 : decide (x.nod < 1) = false := decide_eq_false h3
          by_cases h4 : 7 < x.nod
          · have e4 : decide (7 < x.nod) = true := decide_eq_true h4
            have HV1 : Hid (E = 50) := NOT.out (fun h => by have := h.nod2; omega)
            go_wp2_with fail
            go_quiet (fail)
            go_wp2
            go_meet
            case rel => exact ⟨true, rfl, fun _ => HV1.out, (fun h => by cases h), HNW.out.drewN _, HB2.out.drewN _, below_drewN HBE2.out _⟩
          have e4 : decide (7 < x.nod) = false := decide_eq_false h4
          by_cases h5 : x.bt < 1
          · have e5 : decide (x.bt < 1) = true := decide_eq_true h5
            have HV1 : Hid (E = 50) := NOT.out (fun h => by have := h.bt; omega)
            go_wp2_with fail
            go_quiet (fail)
            go_wp2
            go_meet
            case rel => exact ⟨true, rfl, fun _ => HV1.out, (fun h => by cases h), HNW.out.drewN _, HB2.out.drewN _, below_drewN HBE2.out _⟩
          have e5 : decide (x.bt < 1) = false := decide_eq_false h5
          by_cases h6 : x.stp < 1
          · have e6 : decide (x.stp < 1) = true := decide_eq_true h6
            have HV1 : Hid (E = 50) := NOT.out (fun h => by have := h.stp; omega)
            go_wp2_with fail
            go_quiet (fail)
            go_wp2
            go_meet
            case rel => exact ⟨true, rfl, fun _ => HV1.out, (fun h => by cases h), HNW.out.drewN _, HB2.out.drewN _, below_drewN HBE2.out _⟩
          have e6 : decide (x.stp < 1) = false := decide_eq_false h6
          by_cases h7 : x.ser < 1
          · have e7 : decide (x.ser < 1) = true := decide_eq_true h7
            have HV1 : Hid (E = 50) := NOT.out (fun h => by have := h.ser1; omega)
            go_wp2_with fail
            go_quiet (fail)
            go_wp2
            go_meet
            case rel => exact ⟨true, rfl, fun _ => HV1.out, (fun h => by cases h), HNW.out.drewN _, HB2.out.drewN _, below_drewN HBE2.out _⟩
          have e7 : decide (x.ser < 1) = false := decide_eq_false h7
          by_cases h8 : nxt ≤ x.ser
          · have e8 : decide (nxt ≤ x.ser) = true := decide_eq_true h8
            have HV1 : Hid (E = 50) := NOT.out (fun h => by have := h.ser2; omega)
            go_wp2_with fail
            go_quiet (fail)
            go_wp2
            go_meet
            case rel => exact ⟨true, rfl, fun _ => HV1.out, (fun h => by cases h), HNW.out.drewN _, HB2.out.drewN _, below_drewN HBE2.out _⟩
          have e8 : decide (nxt ≤ x.ser) = false := decide_eq_false h8
          go_wp2_with fail
          go_quiet (fail)
          go_wp2
          go_meet
          case rel => exact ⟨false, rfl, (fun h => by cases h), fun _ => ⟨fun h => absurd h (by omega), by omega, by omega, by omega, by omega, by omega, by omega, by omega, by omega⟩, HNW.out.drewN _, HB2.out.drewN _, below_drewN HBE2.out _⟩
        | succ j =>
          have p0 := HPV.out j (by omega) rfl
          obtain ⟨P, hP⟩ : ∃ P, hs[j].tok = P := ⟨_, rfl⟩
          rw [hP] at p0
          have HP := Lib.hid hP
          clear hP
          have s1 : IntKind.i64.wrap ((j : Int) + 1 - 1) = (j : Int) := by simp [IntKind.wrap_i64]; omega
          have s2 : decide ((0 : Int) < (j : Int) + 1) = true := decide_eq_true (by omega)
          have s3 : IntKind.i64.wrap (j : Int) = (j : Int) := by simp [IntKind.wrap_i64]; omega
          have hj : j < hs.length := by omega
          by_cases h0 : x.tok ≤ P
          · have e0 : decide (x.tok ≤ P) = true := decide_eq_true h0
            have HV1 : Hid (E = 50) := NOT.out (fun h => by have := h.rise (by omega) hj; have e := HP.out; simp only [Nat.add_sub_cancel] at this; omega)
            go_wp2_with fail
            go_quiet (fail)
            go_wp2
            go_meet
            case rel => exact ⟨true, rfl, fun _ => HV1.out, (fun h => by cases h), HNW.out.drewN _, HB2.out.drewN _, below_drewN HBE2.out _⟩
          have e0 : decide (x.tok ≤ P) = false := decide_eq_false h0
          by_cases h1 : x.tok < 1
          · have e1 : decide (x.tok < 1) = true := decide_eq_true h1
            have HV1 : Hid (E = 50) := NOT.out (fun h => by have := h.tok1; omega)
            go_wp2_with fail
            go_quiet (fail)
            go_wp2
            go_meet
            case rel => exact ⟨true, rfl, fun _ => HV1.out, (fun h => by cases h), HNW.out.drewN _, HB2.out.drewN _, below_drewN HBE2.out _⟩
          have e1 : decide (x.tok < 1) = false := decide_eq_false h1
          by_cases h2 : lim < x.tok
          · have e2 : decide (lim < x.tok) = true := decide_eq_true h2
            have HV1 : Hid (E = 50) := NOT.out (fun h => by have := h.tok2; omega)
            go_wp2_with fail
            go_quiet (fail)
            go_wp2
            go_meet
            case rel => exact ⟨true, rfl, fun _ => HV1.out, (fun h => by cases h), HNW.out.drewN _, HB2.out.drewN _, below_drewN HBE2.out _⟩
          have e2 : decide (lim < x.tok) = false := decide_eq_false h2
          by_cases h3 : x.nod < 1
          · have e3 : decide (x.nod < 1) = true := decide_eq_true h3
            have HV1 : Hid (E = 50) := NOT.out (fun h => by have := h.nod1; omega)
            go_wp2_with fail
            go_quiet (fail)
            go_wp2
            go_meet
            case rel => exact ⟨true, rfl, fun _ => HV1.out, (fun h => by cases h), HNW.out.drewN _, HB2.out.drewN _, below_drewN HBE2.out _⟩
          have e3 : decide (x.nod < 1) = false := decide_eq_false h3
          by_cases h4 : 7 < x.nod
          · have e4 : decide (7 < x.nod) = true := decide_eq_true h4
            have HV1 : Hid (E = 50) := NOT.out (fun h => by have := h.nod2; omega)
            go_wp2_with fail
            go_quiet (fail)
            go_wp2
            go_meet
            case rel => exact ⟨true, rfl, fun _ => HV1.out, (fun h => by cases h), HNW.out.drewN _, HB2.out.drewN _, below_drewN HBE2.out _⟩
          have e4 : decide (7 < x.nod) = false := decide_eq_false h4
          by_cases h5 : x.bt < 1
          · have e5 : decide (x.bt < 1) = true := decide_eq_true h5
            have HV1 : Hid (E = 50) := NOT.out (fun h => by have := h.bt; omega)
            go_wp2_with fail
            go_quiet (fail)
            go_wp2
            go_meet
            case rel => exact ⟨true, rfl, fun _ => HV1.out, (fun h => by cases h), HNW.out.drewN _, HB2.out.drewN _, below_drewN HBE2.out _⟩
          have e5 : decide (x.bt < 1) = false := decide_eq_false h5
          by_cases h6 : x.stp < 1
          · have e6 : decide (x.stp < 1) = true := decide_eq_true h6
            have HV1 : Hid (E = 50) := NOT.out (fun h => by have := h.stp; omega)
            go_wp2_with fail
            go_quiet (fail)
            go_wp2
            go_meet
            case rel => exact ⟨true, rfl, fun _ => HV1.out, (fun h => by cases h), HNW.out.drewN _, HB2.out.drewN _, below_drewN HBE2.out _⟩
          have e6 : decide (x.stp < 1) = false := decide_eq_false h6
          by_cases h7 : x.ser < 1
          · have e7 : decide (x.ser < 1) = true := decide_eq_true h7
            have HV1 : Hid (E = 50) := NOT.out (fun h => by have := h.ser1; omega)
            go_wp2_with fail
            go_quiet (fail)
            go_wp2
            go_meet
            case rel => exact ⟨true, rfl, fun _ => HV1.out, (fun h => by cases h), HNW.out.drewN _, HB2.out.drewN _, below_drewN HBE2.out _⟩
          have e7 : decide (x.ser < 1) = false := decide_eq_false h7
          by_cases h8 : nxt ≤ x.ser
          · have e8 : decide (nxt ≤ x.ser) = true := decide_eq_true h8
            have HV1 : Hid (E = 50) := NOT.out (fun h => by have := h.ser2; omega)
            go_wp2_with fail
            go_quiet (fail)
            go_wp2
            go_meet
            case rel => exact ⟨true, rfl, fun _ => HV1.out, (fun h => by cases h), HNW.out.drewN _, HB2.out.drewN _, below_drewN HBE2.out _⟩
          have e8 : decide (nxt ≤ x.ser) = false := decide_eq_false h8
          go_wp2_with fail
          go_quiet (fail)
          go_wp2
          go_meet
          case rel => exact ⟨false, rfl, (fun h => by cases h), fun _ => ⟨fun _ hl => by have e := HP.out; simp only [Nat.add_sub_cancel]; omega, by omega, by omega, by omega, by omega, by omega, by omega, by omega, by omega⟩, HNW.out.drewN _, HB2.out.drewN _, below_drewN HBE2.out _⟩
      case rest =>
      obtain ⟨bd, rfl, hbE, hbL, hnw, hbw, hBw⟩ := hcut
      clear q0 q1 q2 q3 d0 d1 d2 d3 d4 HNW HB2 HBE2 HPV
      have HBW := Lib.hid hBw
      cases bd
      rotate_left
      · have HV1 : Hid (E = 50) := hbE rfl
        clear hbE hbL hnw hbw hBw
        go_wp2
        (try simp only [Exit.inBlock, Exit.then])
        go_ret
        exact ⟨by rw [HV1.out]; rfl, HBW.out⟩
      have HLOC := Lib.hid (hbL rfl)
      obtain ⟨q0, q1, q2, q3⟩ := hbw.led
      have HN0 : Hid (Blk wc gh 59 (hdA x)) := hnw
      have HB0 := Lib.hid hbw
      clear hbE hbL hnw hbw hBw
      go_wp2_with fail
      clear q0 q1 q2 q3
      go_loopw [6, 99] (fun _ i wr => ∃ (j : Nat), i = .int .i64 (j : Int) ∧ j ≤ k ∧ (∀ a (ha : a < hs.length), a < j → hs[a].ser ≠ x.ser) ∧ Blk wr gh 59 (hdA x) ∧ Blk wr g 28 (ledC lim nxt (.slice (some ⟨b, off, none⟩) hs.length ch) (.slice Al ls.length cl)) ∧ Below g w wr) (fun _ i _ => k - (intOf i).toNat)
      case atStart => exact ⟨0, rfl, by omega, fun _ _ h => absurd h (by omega), HN0.out, HB0.out, HBW.out⟩
      case round =>
        clear HN0 HB0 HBW
        obtain ⟨j, rfl, hj, hser, hnw, hbw, hBw⟩ := hrel
        have HSER := Lib.hid hser
        by_cases hjk : j < k
        · obtain ⟨b', off', hA', hbl, hall⟩ := (HH.out.keep (by rw [hg]; exact hBw)).hd (by omega)
          injection hA' with hA'
          injection hA' with hA1 hA2 _
          subst hA1 hA2
          have hd := hall j (by omega)
          obtain ⟨y, hy⟩ : ∃ y, hs[j] = y := ⟨_, rfl⟩
          rw [hy] at hd
          have HY := Lib.hid hy
          obtain ⟨c0, c1, c2, c3, c4⟩ := hd
          have f3 : wr.cell? ⟨gh, 3, none⟩ = some (.int .u64 x.ser) := (hnw.cell 3).trans rfl
          have HNW := Lib.hid (hnw.alloc (.cells (hdA y) 59))
          have HB2 := Lib.hid (hbw.alloc (.cells (hdA y) 59))
          have HBX := fun o => hBw.alloc (by have := hbw.lt; omega) o
          have HBE2 := Lib.hid (HBX (.cells (hdA y) 59))
          have hltw := hnw.lt
          clear hall hser hnw hbw hBw hy
          have HBC : Hid (∀ cs, Below g w (wr.alloc (.cells cs 59))) := fun cs => HBX (.cells cs 59)
          by_cases hq : y.ser = x.ser
          · have HV1 : Hid (E = 50) := NOT.out (fun h => h.once j (by omega) hjk (by rw [HY.out]; exact hq))
            have e1 : (y.ser == x.ser) = true := by simp [hq]
            clear HBX
            go_wp2
            (try simp only [Exit.inBlock, Exit.then])
            go_ret
            exact ⟨by rw [HV1.out]; rfl, HBC.out _⟩
          · have e1 : (y.ser == x.ser) = false := beq_eq_false_iff_ne.2 hq
            have HQ := Lib.hid hq
            clear HBX
            go_wp2
            go_roundw
            case rel =>
              refine ⟨j + 1, by go_num, by omega, fun a ha haj => ?_, HNW.out, HB2.out, HBE2.out⟩
              rcases Nat.lt_or_ge a j with h1 | h1
              · exact HSER.out a ha h1
              · obtain rfl : a = j := by omega
                rw [HY.out]
                exact HQ.out
            case measure => simp [intOf]; omega
        · obtain rfl : j = k := by omega
          have HB2 := Lib.hid hbw
          have HBE2 := Lib.hid hBw
          clear hser hnw hbw hBw
          go_wp2
          go_roundw
          case rel =>
            have l := HLOC.out
            exact ⟨j + 1, by go_num, by omega, HOKS.out.step hlt (by rw [HX.out]; exact ⟨l.rise, l.tok1, l.tok2, l.nod1, l.nod2, l.bt, l.stp, l.ser1, l.ser2, HSER.out⟩), HB2.out, HBE2.out⟩
          case measure => simp [intOf]; omega
    · obtain rfl : k = hs.length := by omega
      obtain ⟨q0, q1, q2, q3⟩ := hbr.led
      have HBR := Lib.hid hbr
      clear hok hBr hbr hlt hk
      go_wp2_with fail
      clear q0 q1 q2 q3
      go_loopw [7, 8, 113] (fun _ _ i wr => ∃ (k : Nat), i = .int .i64 (k : Int) ∧ k ≤ ls.length ∧ LssOk lim nxt ls k ∧ Blk wr g 28 (ledC lim nxt (.slice Ah hs.length ch) (.slice Al ls.length cl)) ∧ Below g w wr) (fun _ _ i _ => ls.length - (intOf i).toNat)
      case atStart => exact ⟨0, rfl, by omega, LssOk.zero, HBR.out, HBB.out⟩
      case round =>
        clear HBR HBB
        obtain ⟨k, rfl, hk, hok, hbr, hBr⟩ := hrel
        have HOKL := Lib.hid hok
        have HBB := Lib.hid hBr
        by_cases hlt : k < ls.length
        · obtain ⟨b, off, rfl, hbl, hall⟩ := (HL.out.keep (by rw [hg]; exact hBr)).ls (by omega)
          have hd := hall k hlt
          obtain ⟨x, hx⟩ : ∃ x, ls[k] = x := ⟨_, rfl⟩
          rw [hx] at hd
          have HX := Lib.hid hx
          obtain ⟨q0, q1, q2, q3⟩ := hbr.led
          obtain ⟨c0, c1, c2, c3, c4, c5⟩ := hd
          obtain ⟨gh, hgh⟩ : ∃ gh, wr.heap.size = gh := ⟨_, rfl⟩
          have hlt0 : g < gh := hgh ▸ hbr.lt
          have hltb : b < gh := hgh ▸ hbl
          have hnew : Blk (wr.alloc (.cells (lsA x) 76)) gh 76 (lsA x) := hgh ▸ Blk.new _ _ _
          have hbr2 := hbr.alloc (.cells (lsA x) 76)
          have hBr2 := hBr.alloc (by omega) (.cells (lsA x) 76)
          have hpv : ∀ j (hj : j < ls.length), k = j + 1 → (wr.alloc (.cells (lsA x) 76)).cell? ⟨b, off + j * 6, none⟩ = some (.int .i64 ls[j].nod) := fun j hj _ => (World.cell?_alloc_lt wr _ ⟨b, off + j * 6, none⟩ hbl).trans (hall j hj).c0
          have NOT : Hid (¬ LsOk lim nxt ls k x → E = 50) := fun h => BAD.out (not_lss hlt (by rw [hx]; exact h))
          clear hall hok hBr hbr hx
          go_upto_region 18 with (fail)
          change Code.wp _ _ _ _ (wr.alloc (.cells (lsA x) 76))
          generalize wr.alloc (.cells (lsA x) 76) = W2 at hnew hbr2 hBr2 hpv ⊢
          try rw [hgh]
          clear c0 c1 c2 c3 c4 c5 q0 q1 q2 q3 hgh hbl
          obtain ⟨q0, q1, q2, q3⟩ := hbr2.led
          have d0 : W2.cell? ⟨gh, 0, none⟩ = some (.int .i64 x.nod) := (hnew.cell 0).trans rfl
          have d1 : W2.cell? ⟨gh, 1, none⟩ = some (.int .u64 x.bt) := (hnew.cell 1).trans rfl
          have d2 : W2.cell? ⟨gh, 2, none⟩ = some (.int .u64 x.sq) := (hnew.cell 2).trans rfl
          have d3 : W2.cell? ⟨gh, 3, none⟩ = some (.int .i64 x.cod) := (hnew.cell 3).trans rfl
          have d4 : W2.cell? ⟨gh, 4, none⟩ = some (.int .i64 x.tok) := (hnew.cell 4).trans rfl
          have d5 : W2.cell? ⟨gh, 5, none⟩ = some (.int .u64 x.ser) := (hnew.cell 5).trans rfl
          have HNW := Lib.hid hnew
          have HB2 := Lib.hid hbr2
          have HBE2 := Lib.hid hBr2
          have HPV := Lib.hid hpv
          have CX := fun W => CA.out W (.slice Ah hs.length ch) (.slice (some ⟨b, off, none⟩) ls.length cl) x.cod x.tok x.ser
          clear hnew hbr2 hBr2 hpv
          go_cut [158] (fun y wx => ∃ bd : Bool, y = .bool bd ∧ (bd = true → E = 50) ∧ (bd = false → LsOk lim nxt ls k x) ∧ Blk wx g 28 (ledC lim nxt (.slice Ah hs.length ch) (.slice (some ⟨b, off, none⟩) ls.length cl)) ∧ Below g w wx)
          case first =>
            cases k with
            | zero =>
              by_cases h1 : x.nod < 1
              · have e1 : decide (x.nod < 1) = true := decide_eq_true h1
                have HV1 : Hid (E = 50) := NOT.out (fun h => by have := h.nod1; omega)
                go_wp2_with fail
                go_quiet (fail)
                go_wp2
                go_meet
                case rel => exact ⟨true, rfl, fun _ => HV1.out, (fun h => by cases h), HB2.out.drewN _, below_drewN HBE2.out _⟩
              have e1 : decide (x.nod < 1) = false := decide_eq_false h1
              by_cases h2 : 7 < x.nod
              · have e2 : decide (7 < x.nod) = true := decide_eq_true h2
                have HV1 : Hid (E = 50) := NOT.out (fun h => by have := h.nod2; omega)
                go_wp2_with fail
                go_quiet (fail)
                go_wp2
                go_meet
                case rel => exact ⟨true, rfl, fun _ => HV1.out, (fun h => by cases h), HB2.out.drewN _, below_drewN HBE2.out _⟩
              have e2 : decide (7 < x.nod) = false := decide_eq_false h2
              by_cases h3 : x.bt < 1
              · have e3 : decide (x.bt < 1) = true := decide_eq_true h3
                have HV1 : Hid (E = 50) := NOT.out (fun h => by have := h.bt; omega)
                go_wp2_with fail
                go_quiet (fail)
                go_wp2
                go_meet
                case rel => exact ⟨true, rfl, fun _ => HV1.out, (fun h => by cases h), HB2.out.drewN _, below_drewN HBE2.out _⟩
              have e3 : decide (x.bt < 1) = false := decide_eq_false h3
              by_cases h4 : x.sq < 1
              · have e4 : decide (x.sq < 1) = true := decide_eq_true h4
                have HV1 : Hid (E = 50) := NOT.out (fun h => by have := h.sq; omega)
                go_wp2_with fail
                go_quiet (fail)
                go_wp2
                go_meet
                case rel => exact ⟨true, rfl, fun _ => HV1.out, (fun h => by cases h), HB2.out.drewN _, below_drewN HBE2.out _⟩
              have e4 : decide (x.sq < 1) = false := decide_eq_false h4
              obtain ⟨an, han⟩ : ∃ an, ansOk lim nxt x.cod x.tok x.ser = an := ⟨_, rfl⟩
              simp only [han] at CX
              have CX := Lib.hid CX
              have HAN := Lib.hid han
              clear han
              have K0 : KeptX w g gh 28 76 (ledC lim nxt (.slice Ah hs.length ch) (.slice (some ⟨b, off, none⟩) ls.length cl)) (lsA x) g 0 (.int .i64 lim) W2 := ⟨HB2.out, HNW.out, HBE2.out, q0, HB2.out.lt⟩
              obtain ⟨KW, hKW⟩ : ∃ KW : World → Prop, KW = KeptX w g gh 28 76 (ledC lim nxt (.slice Ah hs.length ch) (.slice (some ⟨b, off, none⟩) ls.length cl)) (lsA x) g 0 (.int .i64 lim) := ⟨_, rfl⟩
              have KC : ∀ w1 w2, KW w1 → Below w1.heap.size w1 w2 → KW w2 := fun w1 w2 h hb => by rw [hKW] at h ⊢; exact (KeptX.call hb h).1
              have KF : ∀ w1, KW w1 → KeptX w g gh 28 76 (ledC lim nxt (.slice Ah hs.length ch) (.slice (some ⟨b, off, none⟩) ls.length cl)) (lsA x) g 0 (.int .i64 lim) w1 := fun w1 h => by rw [hKW] at h; exact h
              have K1 : KW W2.drew := KC W2 _ (by rw [hKW]; exact K0) (Below.refl _ _).drew
              have F0 : ∀ p : InClass KW, p.w.cell? ⟨g, 0, none⟩ = some (.int .i64 lim) := fun p => (KF _ p.ok).h1.led.q0
              have F1 : ∀ p : InClass KW, p.w.cell? ⟨g, 1, none⟩ = some (.int .u64 nxt) := fun p => (KF _ p.ok).h1.led.q1
              have F2 : ∀ p : InClass KW, p.w.cell? ⟨g, 2, none⟩ = some (.slice Ah hs.length ch) := fun p => (KF _ p.ok).h1.led.q2
              have F3 : ∀ p : InClass KW, p.w.cell? ⟨g, 3, none⟩ = some (.slice (some ⟨b, off, none⟩) ls.length cl) := fun p => (KF _ p.ok).h1.led.q3
              have G0 : ∀ p : InClass KW, p.w.cell? ⟨gh, 0, none⟩ = some (.int .i64 x.nod) := fun p => ((KF _ p.ok).h2.cell 0).trans rfl
              have G1 : ∀ p : InClass KW, p.w.cell? ⟨gh, 1, none⟩ = some (.int .u64 x.bt) := fun p => ((KF _ p.ok).h2.cell 1).trans rfl
              have G2 : ∀ p : InClass KW, p.w.cell? ⟨gh, 2, none⟩ = some (.int .u64 x.sq) := fun p => ((KF _ p.ok).h2.cell 2).trans rfl
              have G3 : ∀ p : InClass KW, p.w.cell? ⟨gh, 3, none⟩ = some (.int .i64 x.cod) := fun p => ((KF _ p.ok).h2.cell 3).trans rfl
              have G4 : ∀ p : InClass KW, p.w.cell? ⟨gh, 4, none⟩ = some (.int .i64 x.tok) := fun p => ((KF _ p.ok).h2.cell 4).trans rfl
              have G5 : ∀ p : InClass KW, p.w.cell? ⟨gh, 5, none⟩ = some (.int .u64 x.ser) := fun p => ((KF _ p.ok).h2.cell 5).trans rfl
              have G6 : ∀ p : InClass KW, p.w.cell? ⟨g, 0, none⟩ = some (.int .i64 lim) := fun p => (KF _ p.ok).h4
              haveI NE : Nonempty (InClass KW) := ⟨⟨W2.drew, K1⟩⟩
              have KC := Lib.hid KC
              have KF := Lib.hid KF
              clear hKW K0 q0 q1 q2 q3 d0 d1 d2 d3 d4 d5
              go_wp2_with fail
              refine wp_region_class_lit KW (by kernel_rfl) (by kernel_rfl) K1 ?_
              repeat (go_big_quiet_step ((go_at_call 45; refine (CX.out _).mono ?_; rintro e8 w8 ⟨he, hB8⟩; exact ⟨he, ⟨w8, KC.out _ w8 (InClass.ok _) hB8⟩, rfl⟩)))
              refine wpQuiet_nil ?_
              intro _ hw9
              obtain ⟨p9, hw9⟩ := hw9
              subst hw9
              have k9 := KF.out _ p9.ok
              have HB8 := Lib.hid k9.h1
              have HBE8 := Lib.hid k9.h3
              clear k9 F0 F1 F2 F3 G0 G1 G2 G3 G4 G5 G6
              go_wp2
              go_meet
              case rel => exact ⟨!an, rfl, (fun h => NOT.out (fun hh => by rw [HAN.out.symm.trans hh.ans] at h; cases h)), (fun h => ⟨fun h => absurd h (by omega), by omega, by omega, by omega, by omega, HAN.out.trans (by simpa using h)⟩), HB8.out, HBE8.out⟩
            | succ j =>
              have p0 := HPV.out j (by omega) rfl
              obtain ⟨P, hP⟩ : ∃ P, ls[j].nod = P := ⟨_, rfl⟩
              rw [hP] at p0
              have HP := Lib.hid hP
              clear hP
              have s1 : IntKind.i64.wrap ((j : Int) + 1 - 1) = (j : Int) := by simp [IntKind.wrap_i64]; omega
              have s2 : decide ((0 : Int) < (j : Int) + 1) = true := decide_eq_true (by omega)
              have s3 : IntKind.i64.wrap (j : Int) = (j : Int) := by simp [IntKind.wrap_i64]; omega
              have hj : j < ls.length := by omega
              by_cases h0 : x.nod ≤ P
              · have e0 : decide (x.nod ≤ P) = true := decide_eq_true h0
                have HV1 : Hid (E = 50) := NOT.out (fun h => by have := h.rise (by omega) hj; have e := HP.out; simp only [Nat.add_sub_cancel] at this; omega)
                go_wp2_with fail
                go_quiet (fail)
                go_wp2
                go_meet
                case rel => exact ⟨true, rfl, fun _ => HV1.out, (fun h => by cases h), HB2.out.drewN _, below_drewN HBE2.out _⟩
              have e0 : decide (x.nod ≤ P) = false := decide_eq_false h0
              by_cases h1 : x.nod < 1
              · have e1 : decide (x.nod < 1) = true := decide_eq_true h1
                have HV1 : Hid (E = 50) := NOT.out (fun h => by have := h.nod1; omega)
                go_wp2_with fail
                go_quiet (fail)
                go_wp2
                go_meet
                case rel => exact ⟨true, rfl, fun _ => HV1.out, (fun h => by cases h), HB2.out.drewN _, below_drewN HBE2.out _⟩
              have e1 : decide (x.nod < 1) = false := decide_eq_false h1
              by_cases h2 : 7 < x.nod
              · have e2 : decide (7 < x.nod) = true := decide_eq_true h2
                have HV1 : Hid (E = 50) := NOT.out (fun h => by have := h.nod2; omega)
                go_wp2_with fail
                go_quiet (fail)
                go_wp2
                go_meet
                case rel => exact ⟨true, rfl, fun _ => HV1.out, (fun h => by cases h), HB2.out.drewN _, below_drewN HBE2.out _⟩
              have e2 : decide (7 < x.nod) = false := decide_eq_false h2
              by_cases h3 : x.bt < 1
              · have e3 : decide (x.bt < 1) = true := decide_eq_true h3
                have HV1 : Hid (E = 50) := NOT.out (fun h => by have := h.bt; omega)
                go_wp2_with fail
                go_quiet (fail)
                go_wp2
                go_meet
                case rel => exact ⟨true, rfl, fun _ => HV1.out, (fun h => by cases h), HB2.out.drewN _, below_drewN HBE2.out _⟩
              have e3 : decide (x.bt < 1) = false := decide_eq_false h3
              by_cases h4 : x.sq < 1
              · have e4 : decide (x.sq < 1) = true := decide_eq_true h4
                have HV1 : Hid (E = 50) := NOT.out (fun h => by have := h.sq; omega)
                go_wp2_with fail
                go_quiet (fail)
                go_wp2
                go_meet
                case rel => exact ⟨true, rfl, fun _ => HV1.out, (fun h => by cases h), HB2.out.drewN _, below_drewN HBE2.out _⟩
              have e4 : decide (x.sq < 1) = false := decide_eq_false h4
              obtain ⟨an, han⟩ : ∃ an, ansOk lim nxt x.cod x.tok x.ser = an := ⟨_, rfl⟩
              simp only [han] at CX
              have CX := Lib.hid CX
              have HAN := Lib.hid han
              clear han
              have K0 : KeptX w g gh 28 76 (ledC lim nxt (.slice Ah hs.length ch) (.slice (some ⟨b, off, none⟩) ls.length cl)) (lsA x) b (off + j * 6) (.int .i64 P) W2 := ⟨HB2.out, HNW.out, HBE2.out, p0, (by have := HNW.out.lt; omega)⟩
              obtain ⟨KW, hKW⟩ : ∃ KW : World → Prop, KW = KeptX w g gh 28 76 (ledC lim nxt (.slice Ah hs.length ch) (.slice (some ⟨b, off, none⟩) ls.length cl)) (lsA x) b (off + j * 6) (.int .i64 P) := ⟨_, rfl⟩
              have KC : ∀ w1 w2, KW w1 → Below w1.heap.size w1 w2 → KW w2 := fun w1 w2 h hb => by rw [hKW] at h ⊢; exact (KeptX.call hb h).1
              have KF : ∀ w1, KW w1 → KeptX w g gh 28 76 (ledC lim nxt (.slice Ah hs.length ch) (.slice (some ⟨b, off, none⟩) ls.length cl)) (lsA x) b (off + j * 6) (.int .i64 P) w1 := fun w1 h => by rw [hKW] at h; exact h
              have K1 : KW W2.drew := KC W2 _ (by rw [hKW]; exact K0) (Below.refl _ _).drew
              have F0 : ∀ p : InClass KW, p.w.cell? ⟨g, 0, none⟩ = some (.int .i64 lim) := fun p => (KF _ p.ok).h1.led.q0
              have F1 : ∀ p : InClass KW, p.w.cell? ⟨g, 1, none⟩ = some (.int .u64 nxt) := fun p => (KF _ p.ok).h1.led.q1
              have F2 : ∀ p : InClass KW, p.w.cell? ⟨g, 2, none⟩ = some (.slice Ah hs.length ch) := fun p => (KF _ p.ok).h1.led.q2
              have F3 : ∀ p : InClass KW, p.w.cell? ⟨g, 3, none⟩ = some (.slice (some ⟨b, off, none⟩) ls.length cl) := fun p => (KF _ p.ok).h1.led.q3
              have G0 : ∀ p : InClass KW, p.w.cell? ⟨gh, 0, none⟩ = some (.int .i64 x.nod) := fun p => ((KF _ p.ok).h2.cell 0).trans rfl
              have G1 : ∀ p : InClass KW, p.w.cell? ⟨gh, 1, none⟩ = some (.int .u64 x.bt) := fun p => ((KF _ p.ok).h2.cell 1).trans rfl
              have G2 : ∀ p : InClass KW, p.w.cell? ⟨gh, 2, none⟩ = some (.int .u64 x.sq) := fun p => ((KF _ p.ok).h2.cell 2).trans rfl
              have G3 : ∀ p : InClass KW, p.w.cell? ⟨gh, 3, none⟩ = some (.int .i64 x.cod) := fun p => ((KF _ p.ok).h2.cell 3).trans rfl
              have G4 : ∀ p : InClass KW, p.w.cell? ⟨gh, 4, none⟩ = some (.int .i64 x.tok) := fun p => ((KF _ p.ok).h2.cell 4).trans rfl
              have G5 : ∀ p : InClass KW, p.w.cell? ⟨gh, 5, none⟩ = some (.int .u64 x.ser) := fun p => ((KF _ p.ok).h2.cell 5).trans rfl
              have G6 : ∀ p : InClass KW, p.w.cell? ⟨b, (off + j * 6), none⟩ = some (.int .i64 P) := fun p => (KF _ p.ok).h4
              haveI NE : Nonempty (InClass KW) := ⟨⟨W2.drew, K1⟩⟩
              have KC := Lib.hid KC
              have KF := Lib.hid KF
              clear hKW K0 q0 q1 q2 q3 d0 d1 d2 d3 d4 d5
              go_wp2_with fail
              refine wp_region_class_lit KW (by kernel_rfl) (by kernel_rfl) K1 ?_
              repeat (go_big_quiet_step ((go_at_call 45; refine (CX.out _).mono ?_; rintro e8 w8 ⟨he, hB8⟩; exact ⟨he, ⟨w8, KC.out _ w8 (InClass.ok _) hB8⟩, rfl⟩)))
              refine wpQuiet_nil ?_
              intro _ hw9
              obtain ⟨p9, hw9⟩ := hw9
              subst hw9
              have k9 := KF.out _ p9.ok
              have HB8 := Lib.hid k9.h1
              have HBE8 := Lib.hid k9.h3
              clear k9 F0 F1 F2 F3 G0 G1 G2 G3 G4 G5 G6
              go_wp2
              go_meet
              case rel => exact ⟨!an, rfl, (fun h => NOT.out (fun hh => by rw [HAN.out.symm.trans hh.ans] at h; cases h)), (fun h => ⟨fun _ hl => by have e := HP.out; simp only [Nat.add_sub_cancel]; omega, by omega, by omega, by omega, by omega, HAN.out.trans (by simpa using h)⟩), HB8.out, HBE8.out⟩
          case rest =>
          obtain ⟨bd, rfl, hbE, hbL, hbw, hBw⟩ := hcut
          clear q0 q1 q2 q3 d0 d1 d2 d3 d4 d5 HNW HB2 HBE2 HPV CX
          have HBW := Lib.hid hBw
          have HB2 := Lib.hid hbw
          cases bd
          rotate_left
          · have HV1 : Hid (E = 50) := hbE rfl
            clear hbE hbL hbw hBw
            go_wp2
            (try simp only [Exit.inBlock, Exit.then])
            go_ret
            exact ⟨by rw [HV1.out]; rfl, HBW.out⟩
          have HLOC := Lib.hid (hbL rfl)
          clear hbE hbL hbw hBw
          go_wp2
          go_roundw
          case rel => exact ⟨k + 1, by go_num, by omega, HOKL.out.step hlt (by rw [HX.out]; exact HLOC.out), HB2.out, HBW.out⟩
          case measure => simp [intOf]; omega
        · obtain rfl : k = ls.length := by omega
          have HEE : Hid (E = 0) := by
            show _ = _
            rw [← HE.out, ← HOK.out, decide_eq_true (show LedOk lim nxt hs ls from ⟨HHEAD.out, HOKS.out, HOKL.out⟩)]
            rfl
          clear hok hbr hBr
          go_wp2
          go_ret
          exact ⟨by rw [HEE.out]; rfl, HBB.out⟩
end Go.Proofs.Ytjnkpjhggeibeaa

/- Snapshots: which may be, by the code and by the document. -/
namespace Go.Proofs.Ytjnkpjhggeibeaa
set_option maxRecDepth 100000
open Go.RowKit

set_option maxRecDepth 100000 in
set_option maxHeartbeats 4000000 in
theorem shot_Check_any (w : World) (i t : Int) (An : Option Addr) (cn : Nat) (ns : List Int) (lim nxt : Int) (Ah : Option Addr) (ch : Nat) (hs : List Hd) (Al : Option Addr) (cl : Nat) (ls : List Ls) (hn : InN .i64 w An cn ns) (hh : InS hdC 5 w Ah ch hs) (hl : InS lsC 6 w Al cl ls)
    (hw1 : ∀ h ∈ hs, h.Wf) (hw2 : ∀ x ∈ ls, x.Wf) (hnx : nxt < 18446744073709551616) :
    Calls Try.prog 11 #[shV i t (.slice An ns.length cn) lim nxt (.slice Ah hs.length ch) (.slice Al ls.length cl)] w fun e w' => e = .returned (.int .i64 (errShot (decide (ShotOk i t ns lim nxt hs ls)))) ∧ Below w.heap.size w w' := by
  obtain ⟨E, hE⟩ : ∃ E, errShot (decide (ShotOk i t ns lim nxt hs ls)) = E := ⟨_, rfl⟩
  have BAD : Hid (¬ ShotOk i t ns lim nxt hs ls → E = 60) := fun h => by rw [← hE]; exact shot_bad h
  have GOOD : Hid (ShotOk i t ns lim nxt hs ls → E = 0) := fun h => by rw [← hE, decide_eq_true h]; rfl
  rw [hE]
  clear hE
  obtain ⟨g, hg⟩ : ∃ g, w.heap.size = g := ⟨_, rfl⟩
  rw [hg]
  have hBx : Below g w (w.alloc (.cells (shC i t (.slice An ns.length cn) lim nxt (.slice Ah hs.length ch) (.slice Al ls.length cl)) 30)) := (Below.refl _ _).alloc (by omega) _
  have hb1 : Blk (w.alloc (.cells (shC i t (.slice An ns.length cn) lim nxt (.slice Ah hs.length ch) (.slice Al ls.length cl)) 30)) g 30 (shC i t (.slice An ns.length cn) lim nxt (.slice Ah hs.length ch) (.slice Al ls.length cl)) := hg ▸ Blk.new _ _ _
  have HN := Lib.hid hn
  have HH := Lib.hid hh
  have HL := Lib.hid hl
  have CF := Lib.hid (fun W hin T cs hb hc => late_contains W g i Ah ch hs hin T cs hb hc)
  have CK := fun W hin => nodes_Check_any W An cn ns hin
  have CL := fun W h1 h2 => ledger_Check_any W lim nxt Ah ch hs Al cl ls h1 h2 hw1 hw2 hnx
  unfold ledV at CL
  have CL := Lib.hid CL
  have CK := Lib.hid CK
  have hmf : ∀ (fn : Fn) (first cap : Array Value) (w : World), (Instr.makeFunc fn first cap).run Try.prog w = .ok (.func fn first cap) w := fun _ _ _ _ => rfl
  clear hn hh hl hw1 hw2 hnx
  unfold shV
  go_enter Try.func11, Try.ntmps11
  go_upto_region 1 with (fail)
  change Code.wp _ _ _ _ (w.alloc (.cells (shC i t (.slice An ns.length cn) lim nxt (.slice Ah hs.length ch) (.slice Al ls.length cl)) 30))
  generalize (w.alloc (.cells (shC i t (.slice An ns.length cn) lim nxt (.slice Ah hs.length ch) (.slice Al ls.length cl)) 30)) = W at hb1 hBx ⊢
  try rw [hg]
  have CX := CF.out W (HH.out.keep (hg ▸ hBx)) _ _ hb1 rfl
  unfold lateF at CX
  have CX := Lib.hid CX
  obtain ⟨q0, q1, q2, q3, q4, q5, q6⟩ := hb1.sh
  go_wp2_with fail
  refine CX.out.mono ?_
  rintro e w1 ⟨rfl, hB1⟩
  have hb2 := hb1.below hB1 hb1.lt
  have hBw1 := hBx.trans (hB1.mono (Nat.le_of_lt hb1.lt))
  clear q0 q1 q2 q3 q4 q5 q6 hb1 hBx hB1 hmf CX
  obtain ⟨q0, q1, q2, q3, q4, q5, q6⟩ := hb2.sh
  have HB1 := Lib.hid hBw1
  have hgl := hb2.lt
  obtain ⟨L, hL⟩ : ∃ L, lateB i hs = L := ⟨_, rfl⟩
  rw [hL]
  have HLT := Lib.hid hL
  have HB2 := Lib.hid hb2
  clear hL hBw1 hb2
  cases L
  rotate_left
  · have HV1 : Hid (E = 60) := BAD.out (fun h => by have := lateB_false.2 h.late; rw [HLT.out] at this; cases this)
    go_wp2
    go_ret
    exact ⟨by rw [HV1.out]; rfl, HB1.out⟩
  have CK1 := CK.out w1 (HN.out.keep (hg ▸ HB1.out))
  by_cases hset : IsSet ns
  rotate_left
  · rw [decide_eq_false hset, show errArg false = 1 from rfl] at CK1
    have CK1 := Lib.hid CK1
    have HV1 : Hid (E = 60) := BAD.out (fun h => hset h.set)
    clear hset
    go_wp2_with fail
    refine CK1.out.mono ?_
    rintro e w2 ⟨rfl, hB2⟩
    have HBB := Lib.hid (HB1.out.trans (hB2.mono (Nat.le_of_lt hgl)))
    clear hB2
    go_wp2
    go_ret
    exact ⟨by rw [HV1.out]; rfl, HBB.out⟩
  rw [decide_eq_true hset, show errArg true = 0 from rfl] at CK1
  have CK1 := Lib.hid CK1
  have HSET := Lib.hid hset
  clear hset
  go_wp2_with fail
  refine CK1.out.mono ?_
  rintro e w2 ⟨rfl, hB2⟩
  have hb3 := HB2.out.below hB2 hgl
  have HBB := Lib.hid (HB1.out.trans (hB2.mono (Nat.le_of_lt hgl)))
  clear hB2 q0 q1 q2 q3 q4 q5 q6 hgl
  have CL2 := CL.out w2 (HH.out.keep (hg ▸ HBB.out)) (HL.out.keep (hg ▸ HBB.out))
  obtain ⟨q0, q1, q2, q3, q4, q5, q6⟩ := hb3.sh
  have HB3 := Lib.hid hb3
  have hgl := hb3.lt
  clear hb3
  by_cases hled : LedOk lim nxt hs ls
  rotate_left
  · rw [decide_eq_false hled, show errLed false = 50 from rfl] at CL2
    have CL2 := Lib.hid CL2
    have HV1 : Hid (E = 60) := BAD.out (fun h => hled h.led)
    clear hled
    go_wp2_with fail
    refine CL2.out.mono ?_
    rintro e w3 ⟨rfl, hB3⟩
    have HBC := Lib.hid (HBB.out.trans (hB3.mono (Nat.le_of_lt hgl)))
    clear hB3
    go_wp2
    go_ret
    exact ⟨by rw [HV1.out]; rfl, HBC.out⟩
  rw [decide_eq_true hled, show errLed true = 0 from rfl] at CL2
  have CL2 := Lib.hid CL2
  have HLED := Lib.hid hled
  clear hled
  go_wp2_with fail
  refine CL2.out.mono ?_
  rintro e w3 ⟨rfl, hB3⟩
  have hb4 := HB3.out.below hB3 hgl
  have HBC := Lib.hid (HBB.out.trans (hB3.mono (Nat.le_of_lt hgl)))
  clear hB3 q0 q1 q2 q3 q4 q5 q6
  obtain ⟨q0, q1, q2, q3, q4, q5, q6⟩ := hb4.sh
  clear hb4
  have mk : (i = 0 ↔ t = 0) → ShotOk i t ns lim nxt hs ls := fun h => ⟨lateB_false.1 HLT.out, HSET.out, HLED.out, h⟩
  by_cases hi : i = 0
  · by_cases ht : t = 0
    · have HV1 : Hid (E = 0) := GOOD.out (mk ⟨fun _ => ht, fun _ => hi⟩)
      subst hi
      subst ht
      clear mk
      go_wp2
      go_ret
      exact ⟨by rw [HV1.out]; rfl, HBC.out⟩
    · have HV1 : Hid (E = 60) := BAD.out (fun h => ht (h.zero.1 hi))
      have e2 : (t == 0) = false := beq_eq_false_iff_ne.2 ht
      subst hi
      clear mk ht
      go_wp2
      go_ret
      exact ⟨by rw [HV1.out]; rfl, HBC.out⟩
  · have e1 : (i == 0) = false := beq_eq_false_iff_ne.2 hi
    by_cases ht : t = 0
    · have HV1 : Hid (E = 60) := BAD.out (fun h => hi (h.zero.2 ht))
      subst ht
      clear mk hi
      go_wp2
      go_ret
      exact ⟨by rw [HV1.out]; rfl, HBC.out⟩
    · have HV1 : Hid (E = 0) := GOOD.out (mk ⟨fun h => absurd h hi, fun h => absurd h ht⟩)
      have e2 : (t == 0) = false := beq_eq_false_iff_ne.2 ht
      clear mk ht hi
      go_wp2
      go_ret
      exact ⟨by rw [HV1.out]; rfl, HBC.out⟩
end Go.Proofs.Ytjnkpjhggeibeaa

/- Snapshots: which may be, by the document. -/
namespace Go.Proofs.Ytjnkpjhggeibeaa
set_option maxRecDepth 100000
open Go.RowKit

/-- What is asked ahead of the rows. -/
noncomputable def preB (i t : Int) (ns : List Int) (lim nxt : Int) (hs : List Hd) (ls : List Ls) : Bool := decide (IsSet ns) && (decide (LedOk lim nxt hs ls) && ((i == 0) == (t == 0)))
theorem preB_iff {i t : Int} {ns : List Int} {lim nxt : Int} {hs : List Hd} {ls : List Ls} : ShotOk i t ns lim nxt hs ls ↔ (preB i t ns lim nxt hs ls = true ∧ ∀ a (ha : a < hs.length), hs[a].stp ≤ i) := by
  unfold preB
  rw [Bool.and_eq_true, Bool.and_eq_true, decide_eq_true_iff, decide_eq_true_iff]
  constructor
  · intro h
    refine ⟨⟨h.set, h.led, ?_⟩, fun a ha => h.late _ (List.getElem_mem ha)⟩
    by_cases hi : i = 0
    · have ht := h.zero.1 hi
      simp [hi, ht]
    · have ht : ¬ t = 0 := fun e => hi (h.zero.2 e)
      rw [beq_eq_false_iff_ne.2 hi, beq_eq_false_iff_ne.2 ht]
      rfl
  · rintro ⟨⟨h1, h2, h3⟩, h4⟩
    refine ⟨fun x hx => ?_, h1, h2, ?_⟩
    · obtain ⟨a, ha, rfl⟩ := List.getElem_of_mem hx
      exact h4 a ha
    · by_cases hi : i = 0
      · by_cases ht : t = 0
        · exact ⟨fun _ => ht, fun _ => hi⟩
        · simp [hi, ht] at h3
      · by_cases ht : t = 0
        · simp [hi, ht] at h3
        · exact ⟨fun e => absurd e hi, fun e => absurd e ht⟩

set_option maxRecDepth 100000 in
set_option maxHeartbeats 4000000 in
theorem r06_Check_any (w : World) (i t : Int) (An : Option Addr) (cn : Nat) (ns : List Int) (lim nxt : Int) (Ah : Option Addr) (ch : Nat) (hs : List Hd) (Al : Option Addr) (cl : Nat) (ls : List Ls) (hn : InN .i64 w An cn ns) (hh : InS hdC 5 w Ah ch hs) (hl : InS lsC 6 w Al cl ls) :
    Calls Try.prog 20 #[shV i t (.slice An ns.length cn) lim nxt (.slice Ah hs.length ch) (.slice Al ls.length cl)] w fun e w' => e = .returned (.int .i64 (errShot (decide (ShotOk i t ns lim nxt hs ls)))) ∧ Below w.heap.size w w' := by
  obtain ⟨E, hE⟩ : ∃ E, errShot (decide (ShotOk i t ns lim nxt hs ls)) = E := ⟨_, rfl⟩
  have HE := Lib.hid hE
  rw [hE]
  clear hE
  have hsz := hh.small
  have hcp := hh.cap
  obtain ⟨g, hg⟩ : ∃ g, w.heap.size = g := ⟨_, rfl⟩
  rw [hg]
  have hBx : Below g w (w.alloc (.cells (shC i t (.slice An ns.length cn) lim nxt (.slice Ah hs.length ch) (.slice Al ls.length cl)) 30)) := (Below.refl _ _).alloc (by omega) _
  have hb1 : Blk (w.alloc (.cells (shC i t (.slice An ns.length cn) lim nxt (.slice Ah hs.length ch) (.slice Al ls.length cl)) 30)) g 30 (shC i t (.slice An ns.length cn) lim nxt (.slice Ah hs.length ch) (.slice Al ls.length cl)) := hg ▸ Blk.new _ _ _
  have HN := Lib.hid hn
  have HH := Lib.hid hh
  have HL := Lib.hid hl
  have CK := fun W hin => ref_setCheck_any W An cn ns hin
  have CL := fun W h1 h2 => r05_Check_any W lim nxt Ah ch hs Al cl ls h1 h2
  unfold ledV at CL
  have CL := Lib.hid CL
  have CK := Lib.hid CK
  clear hn hh hl
  unfold shV
  go_enter Try.func20, Try.ntmps20
  go_upto_region 1 with (fail)
  change Code.wp _ _ _ _ (w.alloc (.cells (shC i t (.slice An ns.length cn) lim nxt (.slice Ah hs.length ch) (.slice Al ls.length cl)) 30))
  generalize (w.alloc (.cells (shC i t (.slice An ns.length cn) lim nxt (.slice Ah hs.length ch) (.slice Al ls.length cl)) 30)) = W at hb1 hBx ⊢
  try rw [hg]
  obtain ⟨q0, q1, q2, q3, q4, q5, q6⟩ := hb1.sh
  have HB1 := Lib.hid hb1
  have HX1 := Lib.hid hBx
  have hgl := hb1.lt
  have CK1 := CK.out W (HN.out.keep (hg ▸ hBx))
  clear hb1 hBx
  go_cut [3] (fun y wx => y = .bool (preB i t ns lim nxt hs ls) ∧ Blk wx g 30 (shC i t (.slice An ns.length cn) lim nxt (.slice Ah hs.length ch) (.slice Al ls.length cl)) ∧ Below g w wx)
  case first =>
    by_cases hset : IsSet ns
    rotate_left
    · rw [decide_eq_false hset, show errArg false = 1 from rfl] at CK1
      have CK1 := Lib.hid CK1
      have HP : Hid (preB i t ns lim nxt hs ls = false) := by
        show _ = _
        rw [preB, decide_eq_false hset, Bool.false_and]
      clear hset
      go_wp2_with fail
      refine CK1.out.mono ?_
      rintro e w2 ⟨rfl, hw2⟩
      obtain rfl := hw2.symm
      go_wp2
      go_meet
      case rel => exact ⟨by rw [HP.out], HB1.out, HX1.out⟩
    rw [decide_eq_true hset, show errArg true = 0 from rfl] at CK1
    have CK1 := Lib.hid CK1
    have HSET : Hid (preB i t ns lim nxt hs ls = (decide (LedOk lim nxt hs ls) && ((i == 0) == (t == 0)))) := by
      show _ = _
      rw [preB, decide_eq_true hset, Bool.true_and]
    clear hset
    have CL2 := CL.out W (HH.out.keep (hg ▸ HX1.out)) (HL.out.keep (hg ▸ HX1.out))
    by_cases hled : LedOk lim nxt hs ls
    rotate_left
    · rw [decide_eq_false hled, show errLed false = 50 from rfl] at CL2
      have CL2 := Lib.hid CL2
      have HP : Hid (preB i t ns lim nxt hs ls = false) := by
        show _ = _
        rw [HSET.out, decide_eq_false hled, Bool.false_and]
      clear hled
      go_wp2_with fail
      refine CK1.out.mono ?_
      rintro e w2 ⟨rfl, hw2⟩
      obtain rfl := hw2.symm
      go_wp2_with fail
      refine CL2.out.mono ?_
      rintro e w3 ⟨rfl, hB3⟩
      have HB3 := Lib.hid (HB1.out.below hB3 hgl)
      have HX3 := Lib.hid (HX1.out.trans (hB3.mono (Nat.le_of_lt hgl)))
      clear hB3
      go_wp2
      go_meet
      case rel => exact ⟨by rw [HP.out], HB3.out, HX3.out⟩
    rw [decide_eq_true hled, show errLed true = 0 from rfl] at CL2
    have CL2 := Lib.hid CL2
    have HLED : Hid (preB i t ns lim nxt hs ls = ((i == 0) == (t == 0))) := by
      show _ = _
      rw [HSET.out, decide_eq_true hled, Bool.true_and]
    clear hled
    go_wp2_with fail
    refine CK1.out.mono ?_
    rintro e w2 ⟨rfl, hw2⟩
    obtain rfl := hw2.symm
    go_wp2_with fail
    refine CL2.out.mono ?_
    rintro e w3 ⟨rfl, hB3⟩
    have hb3 := HB1.out.below hB3 hgl
    have HB3 := Lib.hid hb3
    have HX3 := Lib.hid (HX1.out.trans (hB3.mono (Nat.le_of_lt hgl)))
    clear hB3 q0 q1 q2 q3 q4 q5 q6
    obtain ⟨q0, q1, q2, q3, q4, q5, q6⟩ := hb3.sh
    clear hb3
    by_cases hi : i = 0
    · subst hi
      by_cases ht : t = 0
      · subst ht
        go_wp2
        go_meet
        case rel => exact ⟨by rw [HLED.out]; rfl, HB3.out, HX3.out⟩
      · have e2 : (t == 0) = false := beq_eq_false_iff_ne.2 ht
        have HT := Lib.hid e2
        clear ht
        go_wp2
        go_meet
        case rel => exact ⟨by rw [HLED.out, HT.out]; rfl, HB3.out, HX3.out⟩
    · have e1 : (i == 0) = false := beq_eq_false_iff_ne.2 hi
      have HI := Lib.hid e1
      clear hi
      by_cases ht : t = 0
      · subst ht
        go_wp2
        go_meet
        case rel => exact ⟨by rw [HLED.out, HI.out]; rfl, HB3.out, HX3.out⟩
      · have e2 : (t == 0) = false := beq_eq_false_iff_ne.2 ht
        have HT := Lib.hid e2
        clear ht
        go_wp2
        go_meet
        case rel => exact ⟨by rw [HLED.out, HI.out, HT.out]; rfl, HB3.out, HX3.out⟩
  case rest =>
  obtain ⟨rfl, hb2, hB2⟩ := hcut
  obtain ⟨P, hP⟩ : ∃ P, preB i t ns lim nxt hs ls = P := ⟨_, rfl⟩
  rw [hP]
  have HP := Lib.hid hP
  clear hP q0 q1 q2 q3 q4 q5 q6 HB1 HX1 CK1
  obtain ⟨q0, q1, q2, q3, q4, q5, q6⟩ := hb2.sh
  go_wp2_with fail
  clear q0 q1 q2 q3 q4 q5 q6
  go_loopw [3, 5, 29] (fun gd _ j wr => ∃ (k : Nat) (G : Bool), gd = .bool G ∧ j = .int .i64 (k : Int) ∧ k ≤ hs.length ∧ (G = true ↔ (P = true ∧ ∀ a (ha : a < hs.length), a < k → hs[a].stp ≤ i)) ∧ Blk wr g 30 (shC i t (.slice An ns.length cn) lim nxt (.slice Ah hs.length ch) (.slice Al ls.length cl)) ∧ Below g w wr) (fun _ _ j _ => hs.length - (intOf j).toNat)
  case atStart => exact ⟨0, P, rfl, rfl, by omega, ⟨fun h => ⟨h, fun _ _ h => absurd h (by omega)⟩, fun h => h.1⟩, hb2, hB2⟩
  case round =>
    clear hb2 hB2
    obtain ⟨k, G, rfl, rfl, hk, hG, hbr, hBr⟩ := hrel
    have HG := Lib.hid hG
    have HBR := Lib.hid hBr
    by_cases hlt : k < hs.length
    · obtain ⟨b, off, rfl, hbl, hall⟩ := (HH.out.keep (hg ▸ hBr)).hd (by omega)
      obtain ⟨c0, c1, c2, c3, c4⟩ := hall k hlt
      obtain ⟨x, hx⟩ : ∃ x, hs[k] = x := ⟨_, rfl⟩
      rw [hx] at c0 c1 c2 c3 c4
      have HX := Lib.hid hx
      obtain ⟨gh, hgh⟩ : ∃ gh, wr.heap.size = gh := ⟨_, rfl⟩
      have hlt0 : g < gh := hgh ▸ hbr.lt
      have hnew : Blk (wr.alloc (.cells (hdA x) 59)) gh 59 (hdA x) := hgh ▸ Blk.new _ _ _
      have hbr2 := hbr.alloc (.cells (hdA x) 59)
      have hBr2 := hBr.alloc (by omega) (.cells (hdA x) 59)
      clear hall hG hbr hBr hx
      go_upto_region 5 with (fail)
      change Code.wp _ _ _ _ (wr.alloc (.cells (hdA x) 59))
      generalize wr.alloc (.cells (hdA x) 59) = W2 at hnew hbr2 hBr2 ⊢
      try rw [hgh]
      clear c0 c1 c2 c3 c4 hgh hbl
      obtain ⟨q0, q1, q2, q3, q4, q5, q6⟩ := hbr2.sh
      have d4 : W2.cell? ⟨gh, 4, none⟩ = some (.int .u64 x.stp) := (hnew.cell 4).trans rfl
      have HB2 := Lib.hid hbr2
      have HX2 := Lib.hid hBr2
      clear hnew hbr2 hBr2
      have FIN : Hid (∀ G2, G2 = (G && decide (x.stp ≤ i)) → (G2 = true ↔ (P = true ∧ ∀ a (ha : a < hs.length), a < k + 1 → hs[a].stp ≤ i))) := by
        rintro G2 rfl
        rw [Bool.and_eq_true, HG.out, decide_eq_true_iff]
        constructor
        · rintro ⟨⟨h1, h2⟩, h3⟩
          refine ⟨h1, fun a ha hak => ?_⟩
          rcases Nat.lt_or_ge a k with h | h
          · exact h2 a ha h
          · obtain rfl : a = k := by omega
            rw [HX.out]
            exact h3
        · rintro ⟨h1, h2⟩
          refine ⟨⟨h1, fun a ha hak => h2 a ha (by omega)⟩, ?_⟩
          have := h2 k hlt (by omega)
          rw [HX.out] at this
          exact this
      cases G
      · go_wp2
        go_roundw
        case rel => exact ⟨k + 1, false, rfl, by go_num, by omega, FIN.out _ rfl, HB2.out, HX2.out⟩
        case measure => simp [intOf]; omega
      · go_wp2
        go_roundw
        case rel => exact ⟨k + 1, _, rfl, by go_num, by omega, FIN.out _ rfl, HB2.out, HX2.out⟩
        case measure => simp [intOf]; omega
    · obtain rfl : k = hs.length := by omega
      clear hG hbr hBr
      cases G
      · have HV1 : Hid (E = 60) := by
          show _ = _
          rw [← HE.out]
          refine shot_bad fun h => ?_
          obtain ⟨h1, h2⟩ := preB_iff.1 h
          have := HG.out.2 ⟨HP.out.symm.trans h1, fun a ha _ => h2 a ha⟩
          cases this
        go_wp2
        go_ret
        exact ⟨by rw [HV1.out]; rfl, HBR.out⟩
      · have HV1 : Hid (E = 0) := by
          show _ = _
          obtain ⟨h1, h2⟩ := HG.out.1 rfl
          rw [← HE.out, decide_eq_true (preB_iff.2 ⟨HP.out.trans h1, fun a ha => h2 a ha ha⟩)]
          rfl
        go_wp2
        go_ret
        exact ⟨by rw [HV1.out]; rfl, HBR.out⟩
end Go.Proofs.Ytjnkpjhggeibeaa

/- Entries of a log, what lasts: plain, and in memory. -/
namespace Go.Proofs.Ytjnkpjhggeibeaa
set_option maxRecDepth 100000
open Go.RowKit

/-! ### Plain -/
/-- An entry: its term, its command. -/
structure En where
  tm : Int
  k : Int
  n : Int
  t : Int
  l : List Int
  b : Int
  q : Int
  s : Int
  m : Int
noncomputable def En.ok (e : En) : Bool := codeOk e.k e.n e.t e.l e.b e.q e.s e.m
structure En.Wf (e : En) : Prop where
  tm : 0 ≤ e.tm ∧ e.tm < 18446744073709551616
  k : (Lit.int .i64 e.k).wf = true
  n : (Lit.int .i64 e.n).wf = true
  t : (Lit.int .i64 e.t).wf = true
  l : e.l.length ≤ 17592186043904
  b : 0 ≤ e.b ∧ e.b < 18446744073709551616
  q : 0 ≤ e.q ∧ e.q < 18446744073709551616
  s : 0 ≤ e.s ∧ e.s < 18446744073709551616
  m : 0 ≤ e.m ∧ e.m < 18446744073709551616
/-- An entry, and where its list stands. -/
structure Ec where
  A : Option Addr
  c : Nat
  e : En
def ecC (x : Ec) : List Value := [.int .u64 x.e.tm, .int .i64 x.e.k, .int .i64 x.e.n, .int .i64 x.e.t, .slice x.A x.e.l.length x.c, .int .u64 x.e.b, .int .u64 x.e.q, .int .u64 x.e.s, .int .u64 x.e.m]
def ecA (x : Ec) : Array Value := #[.int .u64 x.e.tm, .int .i64 x.e.k, .int .i64 x.e.n, .int .i64 x.e.t, .slice x.A x.e.l.length x.c, .int .u64 x.e.b, .int .u64 x.e.q, .int .u64 x.e.s, .int .u64 x.e.m]
theorem ecC_len (x : Ec) : (ecC x).length = 9 := rfl
theorem ecC_one (x : Ec) : ∀ u ∈ ecC x, u.oneCell' = true := by
  intro u hu
  simp only [ecC, List.mem_cons, List.not_mem_nil, or_false] at hu
  rcases hu with rfl | rfl | rfl | rfl | rfl | rfl | rfl | rfl | rfl <;> rfl
/-- Entries whose terms do not fall below one that was ahead, all of whose commands may be. -/
noncomputable def logOk : Int → List En → Bool
  | _, [] => true
  | a, e :: l => decide (a ≤ e.tm ∧ 1 ≤ e.tm) && e.ok && logOk e.tm l
/-- The last term. -/
def lastTm : Int → List En → Int
  | a, [] => a
  | _, e :: l => lastTm e.tm l
theorem lastTm_app (a : Int) (l : List En) (e : En) : lastTm a (l ++ [e]) = e.tm := by
  induction l generalizing a with
  | nil => rfl
  | cons x l ih => exact ih x.tm
theorem logOk_app (a : Int) (l : List En) (e : En) : logOk a (l ++ [e]) = (logOk a l && (decide (lastTm a l ≤ e.tm ∧ 1 ≤ e.tm) && e.ok)) := by
  induction l generalizing a with
  | nil =>
    simp only [List.nil_append, logOk, lastTm, Bool.and_true, Bool.true_and]
    rfl
  | cons x l ih =>
    rw [List.cons_append]
    simp only [logOk, lastTm]
    rw [ih]
    simp only [Bool.and_assoc]
    rfl
/-- A snapshot. -/
structure Sh where
  i : Int
  t : Int
  ns : List Int
  lim : Int
  nxt : Int
  hs : List Hd
  ls : List Ls
def Sh.Ok (s : Sh) : Prop := ShotOk s.i s.t s.ns s.lim s.nxt s.hs s.ls
structure Sh.Wf (s : Sh) : Prop where
  i : 0 ≤ s.i ∧ s.i < 18446744073709551616
  t : 0 ≤ s.t ∧ s.t < 18446744073709551616
  ns : s.ns.length ≤ 17592186043904
  lim : (Lit.int .i64 s.lim).wf = true
  nxt : 0 ≤ s.nxt ∧ s.nxt < 18446744073709551616
  hs : ∀ h ∈ s.hs, h.Wf
  ls : ∀ x ∈ s.ls, x.Wf
/-- What lasts of a node. -/
structure Hrd where
  bt : Int
  tm : Int
  vt : Int
  sh : Sh
  log : List En
structure Hrd.Ok (h : Hrd) : Prop where
  bt : h.bt ≤ 4611686018427387904
  sh : h.sh.Ok
  i : h.sh.i ≤ 4611686018427387904
  last : h.sh.i + h.log.length ≤ 4611686018427387904
  v0 : 0 ≤ h.vt
  v7 : h.vt ≤ 7
  tv : h.tm = 0 → h.vt = 0
  log : logOk h.sh.t h.log = true
  tm : lastTm h.sh.t h.log ≤ h.tm
noncomputable instance (h : Hrd) : Decidable h.Ok := Classical.propDecidable _
structure Hrd.Wf (h : Hrd) : Prop where
  bt : 0 ≤ h.bt ∧ h.bt < 18446744073709551616
  tm : 0 ≤ h.tm ∧ h.tm < 18446744073709551616
  vt : (Lit.int .i64 h.vt).wf = true
  sh : h.sh.Wf
  log : ∀ e ∈ h.log, e.Wf
def errRec (b : Bool) : Int := if b then 0 else 130
theorem rec_bad {p : Prop} [Decidable p] (h : ¬ p) : errRec (decide p) = 130 := by rw [decide_eq_false h]; rfl
theorem rec_good {p : Prop} [Decidable p] (h : p) : errRec (decide p) = 0 := by rw [decide_eq_true h]; rfl

/-! ### In memory -/
structure EcAt (w : World) (b o : Nat) (x : Ec) : Prop where
  c0 : w.cell? ⟨b, o, none⟩ = some (.int .u64 x.e.tm)
  c1 : w.cell? ⟨b, o + 1, none⟩ = some (.int .i64 x.e.k)
  c2 : w.cell? ⟨b, o + 2, none⟩ = some (.int .i64 x.e.n)
  c3 : w.cell? ⟨b, o + 3, none⟩ = some (.int .i64 x.e.t)
  c4 : w.cell? ⟨b, o + 4, none⟩ = some (.slice x.A x.e.l.length x.c)
  c5 : w.cell? ⟨b, o + 5, none⟩ = some (.int .u64 x.e.b)
  c6 : w.cell? ⟨b, o + 6, none⟩ = some (.int .u64 x.e.q)
  c7 : w.cell? ⟨b, o + 7, none⟩ = some (.int .u64 x.e.s)
  c8 : w.cell? ⟨b, o + 8, none⟩ = some (.int .u64 x.e.m)
theorem InS.ec {w : World} {A : Option Addr} {c : Nat} {l : List Ec} (h : InS ecC 9 w A c l) (h0 : 0 < l.length) : ∃ b off, A = some ⟨b, off, none⟩ ∧ b < w.heap.size ∧ ∀ (j : Nat) (hj : j < l.length), EcAt w b (off + j * 9) l[j] := by
  obtain ⟨b, off, e, hb, hc⟩ := h.all ecC_len h0
  refine ⟨b, off, e, hb, fun j hj => ⟨?_, ?_, ?_, ?_, ?_, ?_, ?_, ?_, ?_⟩⟩
  · exact hc j hj 0 _ (by omega) rfl
  · rw [Nat.add_assoc]; exact hc j hj 1 _ (by omega) rfl
  · rw [Nat.add_assoc]; exact hc j hj 2 _ (by omega) rfl
  · rw [Nat.add_assoc]; exact hc j hj 3 _ (by omega) rfl
  · rw [Nat.add_assoc]; exact hc j hj 4 _ (by omega) rfl
  · rw [Nat.add_assoc]; exact hc j hj 5 _ (by omega) rfl
  · rw [Nat.add_assoc]; exact hc j hj 6 _ (by omega) rfl
  · rw [Nat.add_assoc]; exact hc j hj 7 _ (by omega) rfl
  · rw [Nat.add_assoc]; exact hc j hj 8 _ (by omega) rfl
theorem Blk.ec {w : World} {g : Nat} {T : TypeId} {x : Ec} (hb : Blk w g T (ecA x)) : EcAt w g 0 x := by
  constructor <;> (rw [hb.cell]; rfl)
/-- Entries that are read: their row, and each one's list. -/
structure InE (w : World) (A : Option Addr) (c : Nat) (xs : List Ec) : Prop where
  rows : InS ecC 9 w A c xs
  inn : ∀ x ∈ xs, InN .i64 w x.A x.c x.e.l
  small : xs.length * 88 ≤ 140737488355328
theorem InE.keep {w w1 : World} {A : Option Addr} {c : Nat} {xs : List Ec} (h : InE w A c xs) (hb : Below w.heap.size w w1) : InE w1 A c xs := ⟨h.rows.keep hb, fun x hx => (h.inn x hx).keep hb, h.small⟩
theorem InE.nil {w : World} : InE w none 0 [] := ⟨InS.nil, (fun x hx => by cases hx), by simp⟩
/-- Where a snapshot's slices stand. -/
structure Sa where
  A0 : Option Addr
  c0 : Nat
  A1 : Option Addr
  c1 : Nat
  A2 : Option Addr
  c2 : Nat
structure InSh (w : World) (s : Sh) (a : Sa) : Prop where
  n : InN .i64 w a.A0 a.c0 s.ns
  h : InS hdC 5 w a.A1 a.c1 s.hs
  l : InS lsC 6 w a.A2 a.c2 s.ls
theorem InSh.keep {w w1 : World} {s : Sh} {a : Sa} (h : InSh w s a) (hb : Below w.heap.size w w1) : InSh w1 s a := ⟨h.n.keep hb, h.h.keep hb, h.l.keep hb⟩
def shtV (s : Sh) (a : Sa) : Value := .agg #[.int .u64 s.i, .int .u64 s.t, .slice a.A0 s.ns.length a.c0, .int .i64 s.lim, .int .u64 s.nxt, .slice a.A1 s.hs.length a.c1, .slice a.A2 s.ls.length a.c2]
def shtC (s : Sh) (a : Sa) : Array Value := #[.int .u64 s.i, .int .u64 s.t, .slice a.A0 s.ns.length a.c0, .int .i64 s.lim, .int .u64 s.nxt, .slice a.A1 s.hs.length a.c1, .slice a.A2 s.ls.length a.c2]
/-- Without its log, which stands beside it with its lists' places. -/
structure Hb where
  bt : Int
  tm : Int
  vt : Int
  sh : Sh
def Hb.hrd (h : Hb) (xs : List Ec) : Hrd := ⟨h.bt, h.tm, h.vt, h.sh, xs.map (·.e)⟩
structure InH (w : World) (h : Hb) (p : Sa) (PA : Option Addr) (PC : Nat) (xs : List Ec) : Prop where
  sh : InSh w h.sh p
  log : InE w PA PC xs
theorem InH.keep {w w1 : World} {h : Hb} {p : Sa} {PA : Option Addr} {PC : Nat} {xs : List Ec} (k : InH w h p PA PC xs) (hb : Below w.heap.size w w1) : InH w1 h p PA PC xs := ⟨k.sh.keep hb, k.log.keep hb⟩
def hrdC (h : Hb) (p : Sa) (PA : Option Addr) (PC : Nat) (xs : List Ec) : Array Value := #[.int .u64 h.bt, .int .u64 h.tm, .int .i64 h.vt, .int .u64 h.sh.i, .int .u64 h.sh.t, .slice p.A0 h.sh.ns.length p.c0, .int .i64 h.sh.lim, .int .u64 h.sh.nxt, .slice p.A1 h.sh.hs.length p.c1, .slice p.A2 h.sh.ls.length p.c2, .slice PA xs.length PC]
def hrdV (h : Hb) (p : Sa) (PA : Option Addr) (PC : Nat) (xs : List Ec) : Value := .agg #[.int .u64 h.bt, .int .u64 h.tm, .int .i64 h.vt, .int .u64 h.sh.i, .int .u64 h.sh.t, .slice p.A0 h.sh.ns.length p.c0, .int .i64 h.sh.lim, .int .u64 h.sh.nxt, .slice p.A1 h.sh.hs.length p.c1, .slice p.A2 h.sh.ls.length p.c2, .slice PA xs.length PC]
structure HrdAt (w : World) (g : Nat) (h : Hb) (p : Sa) (PA : Option Addr) (PC : Nat) (xs : List Ec) : Prop where
  z0 : w.cell? ⟨g, 0, none⟩ = some (.int .u64 h.bt)
  z1 : w.cell? ⟨g, 1, none⟩ = some (.int .u64 h.tm)
  z2 : w.cell? ⟨g, 2, none⟩ = some (.int .i64 h.vt)
  z3 : w.cell? ⟨g, 3, none⟩ = some (.int .u64 h.sh.i)
  z4 : w.cell? ⟨g, 4, none⟩ = some (.int .u64 h.sh.t)
  z5 : w.cell? ⟨g, 5, none⟩ = some (.slice p.A0 h.sh.ns.length p.c0)
  z6 : w.cell? ⟨g, 6, none⟩ = some (.int .i64 h.sh.lim)
  z7 : w.cell? ⟨g, 7, none⟩ = some (.int .u64 h.sh.nxt)
  z8 : w.cell? ⟨g, 8, none⟩ = some (.slice p.A1 h.sh.hs.length p.c1)
  z9 : w.cell? ⟨g, 9, none⟩ = some (.slice p.A2 h.sh.ls.length p.c2)
  z10 : w.cell? ⟨g, 10, none⟩ = some (.slice PA xs.length PC)
theorem Blk.hrd {w : World} {g : Nat} {T : TypeId} {h : Hb} {p : Sa} {PA : Option Addr} {PC : Nat} {xs : List Ec} (k : Blk w g T (hrdC h p PA PC xs)) : HrdAt w g h p PA PC xs := by
  constructor <;> (rw [k.cell]; rfl)
theorem info_Entry : (Try.prog.info? 54).map (fun i => (i.zero, i.size, i.bytes)) = some (some (.agg #[.int .u64 0, .int .i64 0, .int .i64 0, .int .i64 0, .slice none 0 0, .int .u64 0, .int .u64 0, .int .u64 0, .int .u64 0]), 9, 88) := by kernel_rfl
end Go.Proofs.Ytjnkpjhggeibeaa

/- Records of what lasts: plain, and in memory. -/
namespace Go.Proofs.Ytjnkpjhggeibeaa
set_option maxRecDepth 100000
open Go.RowKit

/-! ### Plain -/
structure Rc where
  k : Int
  v : Int
  bt : Int
  tm : Int
  ix : Int
  en : En
  sh : Sh
def en0 : En := ⟨0, 0, 0, 0, [], 0, 0, 0, 0⟩
def sh0 : Sh := ⟨0, 0, [], 0, 0, [], []⟩
def rc0 : Rc := ⟨0, 0, 0, 0, 0, en0, sh0⟩
/-- With its kind's fields alone. -/
def Rc.only (r : Rc) : Rc := ⟨r.k, if r.k = 2 then r.v else 0, if r.k = 1 then r.bt else 0, if r.k = 2 then r.tm else 0, if r.k = 3 ∨ r.k = 4 then r.ix else 0, if r.k = 3 then r.en else en0, if r.k = 5 then r.sh else sh0⟩
/-- What its kind asks. -/
def Rc.kind (r : Rc) : Prop := (r.k = 1 ∧ 1 ≤ r.bt) ∨ (r.k = 2 ∧ 1 ≤ r.tm ∧ 0 ≤ r.v ∧ r.v ≤ 7) ∨ (r.k = 3 ∧ 1 ≤ r.ix ∧ 1 ≤ r.en.tm ∧ r.en.ok = true) ∨ (r.k = 4 ∧ 1 ≤ r.ix) ∨ (r.k = 5 ∧ r.sh.Ok)
/-- It may be. -/
def Rc.May (r : Rc) : Prop := r.only = r ∧ r.kind
noncomputable instance (r : Rc) : Decidable r.May := Classical.propDecidable _
structure Rc.Wf (r : Rc) : Prop where
  k : (Lit.int .i64 r.k).wf = true
  v : (Lit.int .i64 r.v).wf = true
  bt : 0 ≤ r.bt ∧ r.bt < 18446744073709551616
  tm : 0 ≤ r.tm ∧ r.tm < 18446744073709551616
  ix : 0 ≤ r.ix ∧ r.ix < 18446744073709551616
  en : r.en.Wf
  sh : r.sh.Wf

/-! ### In memory -/
/-- Where a record's slices stand. -/
structure Ra where
  A : Option Addr
  c : Nat
  s : Sa
structure InR (w : World) (r : Rc) (a : Ra) : Prop where
  l : InN .i64 w a.A a.c r.en.l
  sh : InSh w r.sh a.s
theorem InR.keep {w w1 : World} {r : Rc} {a : Ra} (k : InR w r a) (hb : Below w.heap.size w w1) : InR w1 r a := ⟨k.l.keep hb, k.sh.keep hb⟩
def sa0 : Sa := ⟨none, 0, none, 0, none, 0⟩
def ra0 : Ra := ⟨none, 0, sa0⟩
theorem InSh.zero (w : World) : InSh w sh0 sa0 := ⟨InN.nil, InS.nil, InS.nil⟩
theorem InR.zero (w : World) : InR w rc0 ra0 := ⟨InN.nil, InSh.zero w⟩
def recC (r : Rc) (a : Ra) : Array Value := #[.int .i64 r.k, .int .i64 r.v, .int .u64 r.bt, .int .u64 r.tm, .int .u64 r.ix, .int .u64 r.en.tm, .int .i64 r.en.k, .int .i64 r.en.n, .int .i64 r.en.t, .slice a.A r.en.l.length a.c, .int .u64 r.en.b, .int .u64 r.en.q, .int .u64 r.en.s, .int .u64 r.en.m, .int .u64 r.sh.i, .int .u64 r.sh.t, .slice a.s.A0 r.sh.ns.length a.s.c0, .int .i64 r.sh.lim, .int .u64 r.sh.nxt, .slice a.s.A1 r.sh.hs.length a.s.c1, .slice a.s.A2 r.sh.ls.length a.s.c2]
def recV (r : Rc) (a : Ra) : Value := .agg #[.int .i64 r.k, .int .i64 r.v, .int .u64 r.bt, .int .u64 r.tm, .int .u64 r.ix, .int .u64 r.en.tm, .int .i64 r.en.k, .int .i64 r.en.n, .int .i64 r.en.t, .slice a.A r.en.l.length a.c, .int .u64 r.en.b, .int .u64 r.en.q, .int .u64 r.en.s, .int .u64 r.en.m, .int .u64 r.sh.i, .int .u64 r.sh.t, .slice a.s.A0 r.sh.ns.length a.s.c0, .int .i64 r.sh.lim, .int .u64 r.sh.nxt, .slice a.s.A1 r.sh.hs.length a.s.c1, .slice a.s.A2 r.sh.ls.length a.s.c2]
def entV (e : En) (A : Option Addr) (c : Nat) : Value := .agg #[.int .u64 e.tm, .int .i64 e.k, .int .i64 e.n, .int .i64 e.t, .slice A e.l.length c, .int .u64 e.b, .int .u64 e.q, .int .u64 e.s, .int .u64 e.m]
structure RecAt (w : World) (g : Nat) (r : Rc) (a : Ra) : Prop where
  z0 : w.cell? ⟨g, 0, none⟩ = some (.int .i64 r.k)
  z1 : w.cell? ⟨g, 1, none⟩ = some (.int .i64 r.v)
  z2 : w.cell? ⟨g, 2, none⟩ = some (.int .u64 r.bt)
  z3 : w.cell? ⟨g, 3, none⟩ = some (.int .u64 r.tm)
  z4 : w.cell? ⟨g, 4, none⟩ = some (.int .u64 r.ix)
  z5 : w.cell? ⟨g, 5, none⟩ = some (.int .u64 r.en.tm)
  z6 : w.cell? ⟨g, 6, none⟩ = some (.int .i64 r.en.k)
  z7 : w.cell? ⟨g, 7, none⟩ = some (.int .i64 r.en.n)
  z8 : w.cell? ⟨g, 8, none⟩ = some (.int .i64 r.en.t)
  z9 : w.cell? ⟨g, 9, none⟩ = some (.slice a.A r.en.l.length a.c)
  z10 : w.cell? ⟨g, 10, none⟩ = some (.int .u64 r.en.b)
  z11 : w.cell? ⟨g, 11, none⟩ = some (.int .u64 r.en.q)
  z12 : w.cell? ⟨g, 12, none⟩ = some (.int .u64 r.en.s)
  z13 : w.cell? ⟨g, 13, none⟩ = some (.int .u64 r.en.m)
  z14 : w.cell? ⟨g, 14, none⟩ = some (.int .u64 r.sh.i)
  z15 : w.cell? ⟨g, 15, none⟩ = some (.int .u64 r.sh.t)
  z16 : w.cell? ⟨g, 16, none⟩ = some (.slice a.s.A0 r.sh.ns.length a.s.c0)
  z17 : w.cell? ⟨g, 17, none⟩ = some (.int .i64 r.sh.lim)
  z18 : w.cell? ⟨g, 18, none⟩ = some (.int .u64 r.sh.nxt)
  z19 : w.cell? ⟨g, 19, none⟩ = some (.slice a.s.A1 r.sh.hs.length a.s.c1)
  z20 : w.cell? ⟨g, 20, none⟩ = some (.slice a.s.A2 r.sh.ls.length a.s.c2)
theorem Blk.rc {w : World} {g : Nat} {T : TypeId} {r : Rc} {a : Ra} (k : Blk w g T (recC r a)) : RecAt w g r a := by
  constructor <;> (rw [k.cell]; rfl)
theorem recC_one (r : Rc) (a : Ra) : (recC r a).all (·.oneCell') = true := by simp [recC, Value.oneCell']
end Go.Proofs.Ytjnkpjhggeibeaa

/- Records: the code's none and empty. -/
namespace Go.Proofs.Ytjnkpjhggeibeaa
set_option maxRecDepth 100000
open Go.RowKit

/-- A snapshot, an entry without anything. -/
def shz (s : Sh) : Bool := s.i == 0 && s.t == 0 && ((s.ns.length : Int) == 0) && s.lim == 0 && s.nxt == 0 && ((s.hs.length : Int) == 0) && ((s.ls.length : Int) == 0)
def enz (e : En) : Bool := e.tm == 0 && e.k == 0 && e.n == 0 && e.t == 0 && ((e.l.length : Int) == 0) && e.b == 0 && e.q == 0 && e.s == 0 && e.m == 0
theorem len0 {α : Type} (l : List α) : ((l.length : Int) = 0) ↔ l = [] := by
  constructor
  · intro h; exact List.eq_nil_of_length_eq_zero (by omega)
  · rintro rfl; rfl
theorem shz_iff (s : Sh) : shz s = true ↔ s = sh0 := by
  unfold shz
  simp only [Bool.and_eq_true, len0, beq_iff_eq]
  constructor
  · rintro ⟨⟨⟨⟨⟨⟨h0, h1⟩, h2⟩, h3⟩, h4⟩, h5⟩, h6⟩
    cases s; simp only at h0 h1 h2 h3 h4 h5 h6; subst h0 h1 h2 h3 h4 h5 h6; rfl
  · rintro rfl; exact ⟨⟨⟨⟨⟨⟨rfl, rfl⟩, rfl⟩, rfl⟩, rfl⟩, rfl⟩, rfl⟩
theorem enz_iff (e : En) : enz e = true ↔ e = en0 := by
  unfold enz
  simp only [Bool.and_eq_true, len0, beq_iff_eq]
  constructor
  · rintro ⟨⟨⟨⟨⟨⟨⟨⟨h0, h1⟩, h2⟩, h3⟩, h4⟩, h5⟩, h6⟩, h7⟩, h8⟩
    cases e; simp only at h0 h1 h2 h3 h4 h5 h6 h7 h8; subst h0 h1 h2 h3 h4 h5 h6 h7 h8; rfl
  · rintro rfl; exact ⟨⟨⟨⟨⟨⟨⟨⟨rfl, rfl⟩, rfl⟩, rfl⟩, rfl⟩, rfl⟩, rfl⟩, rfl⟩, rfl⟩

end Go.Proofs.Ytjnkpjhggeibeaa

/- Messages, plain: which may be; the code's test is the document's. -/
namespace Go.Proofs.Ytjnkpjhggeibeaa
set_option maxRecDepth 100000
open Go.RowKit

/-- A message but its entries. -/
structure Mb where
  k : Int
  fr : Int
  o : Int
  tm : Int
  ix : Int
  lt : Int
  cm : Int
  fl : Bool
  sh : Sh
noncomputable instance mgDecSh (s : Sh) : Decidable s.Ok := Classical.propDecidable _
def baseB (m : Mb) : Bool := mK m.k && ((m.fr != m.o) && (decide (1 ≤ min m.fr m.o) && decide (max m.fr m.o ≤ 7)))
def fldB (m : Mb) (n : Nat) : Bool := (decide (0 < m.tm) == mT m.k) && ((mI m.k || m.ix == 0) && ((mL m.k || m.lt == 0) && ((mC m.k || m.cm == 0) && ((mF m.k || !m.fl) && (mE m.k || (n : Int) == 0)))))
def logB (m : Mb) : Bool := ((m.ix == 0) == (m.lt == 0)) && decide (m.lt ≤ m.tm)
noncomputable def shB (m : Mb) : Bool := decide m.sh.Ok && (decide (0 < m.sh.i) && decide (m.sh.t ≤ m.tm))
/-- A Feed's entries: their terms do not fall, and are none above the message's. -/
noncomputable def feedL (tm : Int) : Int → List En → Bool
  | _, [] => true
  | a, e :: l => decide (a ≤ e.tm) && (decide (e.tm ≤ tm) && (e.ok && feedL tm e.tm l))
noncomputable def fedB (m : Mb) (es : List En) : Bool := feedL m.tm (max m.lt 1) es && (decide ((es.length : Int) ≤ 4) && decide (m.ix ≤ 4611686018427387904))
noncomputable def putB (m : Mb) : List En → Bool
  | [e] => (e.tm == 0) && (e.ok && ((e.n == m.fr) && (decide (3 ≤ e.k) && decide (e.k ≤ 5))))
  | _ => false
/-- As the code asks. -/
noncomputable def codeM (m : Mb) (es : List En) : Bool :=
  let g := baseB m && (fldB m es.length && (!mL m.k || logB m))
  if mS m.k then g && shB m else if shz m.sh = false then false else if m.k = 3 then g && fedB m es else if m.k = 6 then g && putB m es else g
def nodeB (n : Int) : Bool := decide (1 ≤ n) && decide (n ≤ 7)
def zeroM (m : Mb) (n : Nat) : Bool := (mT m.k || m.tm == 0) && ((mI m.k || m.ix == 0) && ((mL m.k || m.lt == 0) && ((mC m.k || m.cm == 0) && ((mF m.k || !m.fl) && ((mE m.k || (n : Int) == 0) && (mS m.k || shz m.sh))))))
/-- As the document asks. -/
noncomputable def refM (m : Mb) (es : List En) : Bool :=
  let g := (mK m.k && (nodeB m.fr && (nodeB m.o && ((m.fr != m.o) && zeroM m es.length)))) && ((!mT m.k || decide (1 ≤ m.tm)) && (!mL m.k || (((m.lt == 0) == (m.ix == 0)) && decide (m.lt ≤ m.tm))))
  if m.k = 3 then g && fedB m es else if m.k = 5 then g && shB m else if m.k = 6 then g && putB m es else g
def errMsg (b : Bool) : Int := if b then 0 else 80
theorem node_base (m : Mb) : baseB m = (mK m.k && (nodeB m.fr && (nodeB m.o && (m.fr != m.o)))) := by
  unfold baseB nodeB
  apply Bool.eq_iff_iff.2
  simp
  omega
theorem mK_of {k : Int} (h1 : k ≠ 1) (h2 : k ≠ 2) (h3 : k ≠ 3) (h4 : k ≠ 4) (h5 : k ≠ 5) (h6 : k ≠ 6) : mK k = false := by simp [mK, mT, h1, h2, h3, h4, h5, h6]
theorem code_ref (m : Mb) (es : List En) (h0 : 0 ≤ m.tm) : codeM m es = refM m es := by
  unfold codeM refM
  rw [node_base]
  unfold fldB zeroM logB
  have ht : ∀ b : Bool, (decide (0 < m.tm) == b) = ((b || m.tm == 0) && (!b || decide (1 ≤ m.tm))) := by
    intro b
    by_cases c : 0 < m.tm
    · have c2 : ¬ m.tm = 0 := by omega
      have c3 : 1 ≤ m.tm := by omega
      cases b <;> simp [c, c2, c3]
    · have c2 : m.tm = 0 := by omega
      cases b <;> simp [c2]
  have hc : ((m.ix == 0) == (m.lt == 0)) = ((m.lt == 0) == (m.ix == 0)) := by cases (m.ix == 0) <;> cases (m.lt == 0) <;> rfl
  rw [ht, hc]
  generalize fedB m es = F
  generalize putB m es = P
  generalize shB m = S
  generalize shz m.sh = N
  generalize nodeB m.fr = n1
  generalize nodeB m.o = n2
  generalize (m.fr != m.o) = n3
  generalize ((m.lt == 0) == (m.ix == 0)) = q
  generalize decide (m.lt ≤ m.tm) = r
  generalize (m.tm == 0) = a0
  generalize decide (1 ≤ m.tm) = a1
  generalize (m.ix == 0) = a2
  generalize (m.lt == 0) = a3
  generalize (m.cm == 0) = a4
  generalize m.fl = a5
  generalize ((es.length : Int) == 0) = a6
  rcases mkinds m.k with h | h | h | h | h | h | ⟨h1, h2, h3, h4, h5, h6⟩
  case inr.inr.inr.inr.inr.inr =>
    rw [mK_of h1 h2 h3 h4 h5 h6]
    have e5 : mS m.k = false := by simp [mS, h5]
    rw [e5]
    simp [h3, h5, h6]
  all_goals
    rw [h]
    cases N <;> cases a0 <;> cases a1 <;> simp [mK, mT, mI, mL, mC, mF, mE, mS] <;> (try (cases n1 <;> cases n2 <;> cases n3 <;> simp)) <;> (try (cases q <;> cases r <;> cases a2 <;> cases a3 <;> cases a4 <;> simp))
end Go.Proofs.Ytjnkpjhggeibeaa

/- Messages in memory. -/
namespace Go.Proofs.Ytjnkpjhggeibeaa
set_option maxRecDepth 100000
open Go.RowKit

def mgC (m : Mb) (p : Sa) (PA : Option Addr) (n PC : Nat) : Array Value := #[.int .i64 m.k, .int .i64 m.fr, .int .i64 m.o, .int .u64 m.tm, .int .u64 m.ix, .int .u64 m.lt, .int .u64 m.cm, .bool m.fl, .slice PA n PC, .int .u64 m.sh.i, .int .u64 m.sh.t, .slice p.A0 m.sh.ns.length p.c0, .int .i64 m.sh.lim, .int .u64 m.sh.nxt, .slice p.A1 m.sh.hs.length p.c1, .slice p.A2 m.sh.ls.length p.c2]
def mgV (m : Mb) (p : Sa) (PA : Option Addr) (n PC : Nat) : Value := .agg #[.int .i64 m.k, .int .i64 m.fr, .int .i64 m.o, .int .u64 m.tm, .int .u64 m.ix, .int .u64 m.lt, .int .u64 m.cm, .bool m.fl, .slice PA n PC, .int .u64 m.sh.i, .int .u64 m.sh.t, .slice p.A0 m.sh.ns.length p.c0, .int .i64 m.sh.lim, .int .u64 m.sh.nxt, .slice p.A1 m.sh.hs.length p.c1, .slice p.A2 m.sh.ls.length p.c2]
structure MgAt (w : World) (g : Nat) (m : Mb) (p : Sa) (PA : Option Addr) (n PC : Nat) : Prop where
  z0 : w.cell? ⟨g, 0, none⟩ = some (.int .i64 m.k)
  z1 : w.cell? ⟨g, 1, none⟩ = some (.int .i64 m.fr)
  z2 : w.cell? ⟨g, 2, none⟩ = some (.int .i64 m.o)
  z3 : w.cell? ⟨g, 3, none⟩ = some (.int .u64 m.tm)
  z4 : w.cell? ⟨g, 4, none⟩ = some (.int .u64 m.ix)
  z5 : w.cell? ⟨g, 5, none⟩ = some (.int .u64 m.lt)
  z6 : w.cell? ⟨g, 6, none⟩ = some (.int .u64 m.cm)
  z7 : w.cell? ⟨g, 7, none⟩ = some (.bool m.fl)
  z8 : w.cell? ⟨g, 8, none⟩ = some (.slice PA n PC)
  z9 : w.cell? ⟨g, 9, none⟩ = some (.int .u64 m.sh.i)
  z10 : w.cell? ⟨g, 10, none⟩ = some (.int .u64 m.sh.t)
  z11 : w.cell? ⟨g, 11, none⟩ = some (.slice p.A0 m.sh.ns.length p.c0)
  z12 : w.cell? ⟨g, 12, none⟩ = some (.int .i64 m.sh.lim)
  z13 : w.cell? ⟨g, 13, none⟩ = some (.int .u64 m.sh.nxt)
  z14 : w.cell? ⟨g, 14, none⟩ = some (.slice p.A1 m.sh.hs.length p.c1)
  z15 : w.cell? ⟨g, 15, none⟩ = some (.slice p.A2 m.sh.ls.length p.c2)
theorem Blk.mg {w : World} {g : Nat} {T : TypeId} {m : Mb} {p : Sa} {PA : Option Addr} {n PC : Nat} (h : Blk w g T (mgC m p PA n PC)) : MgAt w g m p PA n PC := by
  constructor <;> (rw [h.cell]; rfl)
theorem info_Msg : (Try.prog.info? 32).map (·.size) = some 16 := by kernel_rfl
theorem max_one (a : Int) : max 1 a = max a 1 := by omega
theorem ref_ok (e : En) (wf : e.Wf) : (numsOk e.k e.n e.t e.b e.q e.s e.m && listOk e.k e.l) = e.ok := by
  unfold En.ok
  exact (codeOk_eq e.k e.n e.t e.l e.b e.q e.s e.m wf.b wf.q wf.s wf.m).symm
end Go.Proofs.Ytjnkpjhggeibeaa

/- Arguments opened: a slice of ints that came in. -/
namespace Go.Proofs.Ytjnkpjhggeibeaa
set_option maxRecDepth 100000
open Go.ChangeShapes Go.WideShapes Go.ChangeAt Go.RowKit

/-- A slice of ints that came in, within something else. -/
theorem open_nums {H : Type} {enc : TypeId × Value → H} {W : World} {fuel : Nat} {cs : List Value} {x : DataW H × List MemPlace} {ts : List TypeId} {ds : List (DataW H)}
    (hf : DataW.trod enc Try.prog W 0 (fun _ => true) true fuel 24 cs = some x)
    (hsz : (DataW.weightsEach Try.prog ts ds).all (· ≤ reachBytes) = true) {j : Nat} (ht : ts[j]? = some 24) (hd : ds[j]? = some x.1) :
    ∃ A c l, cs = [.slice A l.length c] ∧ InN .i64 W A c l ∧ l.length ≤ 17592186043904 := by
  rcases open_ints Try.underlying24 Try.underlying3 (by kernel_rfl) hf with ⟨hcs, hx⟩ | ⟨x0, len, cap, zs, hcs, _, hl, hm, hz, hx, hcell, hwz⟩
  · exact ⟨none, 0, [], hcs, InN.nil, by simp⟩
  · have hz' : zs.length = cap := by simpa using hz
    have hw : cap * 8 ≤ 140737488351232 := by
      subst hx
      have z := sized_slice hsz ht hd Try.underlying24
      rw [show Try.prog.bytesOf 3 = 8 from by kernel_rfl] at z
      have h1 : (lits (H := H) .i64 (zs.take len)).length + (lits (H := H) .i64 (zs.drop len)).length = zs.length := by
        simp [lits]
        omega
      rw [h1] at z
      have hr : reachBytes = 140737488351232 := rfl
      rw [hr] at z
      omega
    have hlen : (zs.take len).length = len := by rw [List.length_take, Nat.min_eq_left (by omega)]
    refine ⟨some x0, cap, zs.take len, by rw [hlen]; exact hcs, ⟨?_, ?_, ?_, ?_⟩, ?_⟩
    · have hnl : (nums .i64 (zs.take len)).length = len := by rw [nums_length, hlen]
      rw [hlen]
      rcases Nat.eq_zero_or_pos len with h0 | h0
      · subst h0
        exact ⟨by simpa using hnl, fun h => by omega⟩
      · have hb : x0.block < W.heap.size := World.block_lt_of_cell? W _ (hcell 0 (by omega))
        refine Reads.of_add (by omega) hb (fun j u hu => ?_) (by omega)
        have hj : j < len := by have := (List.getElem?_eq_some_iff.1 hu).1; omega
        rw [nums_get (by omega)] at hu
        injection hu with hu
        subst hu
        rw [hcell j (by omega)]
        simp [List.getD_eq_getElem?_getD, show j < zs.length by omega]
    · intro y hy
      exact hwz y (List.mem_of_mem_take hy)
    · omega
    · omega
    · omega

/-- What is known of a slice of ints that came in. -/
def OpenI (W : World) (v : Value) : Prop := ∃ A c l, v = .slice A l.length c ∧ InN .i64 W A c l ∧ l.length ≤ 17592186043904
theorem open_ints_ {H : Type} {enc : TypeId × Value → H} {W : World} {base : Nat} {r : Reach} {v : Value} {d : DataW H} {p : List MemPlace} {ts : List TypeId} {ds : List (DataW H)}
    (hv : Value.okWide Try.prog W r base 24 v) (h : DataW.Trod enc Try.prog W 0 (fun _ => true) true 24 v d p)
    (hsz : (DataW.weightsEach Try.prog ts ds).all (· ≤ reachBytes) = true) {j : Nat} (ht : ts[j]? = some 24) (hd : ds[j]? = some d) : OpenI W v := by
  obtain ⟨a0, len, cap, rfl⟩ := okWide_slice Try.underlying24 hv
  obtain ⟨fuel, hf⟩ := h
  obtain ⟨A, c, l, e, hin, hl⟩ := open_nums hf hsz ht hd
  simp [Value.cells] at e
  obtain ⟨rfl, rfl, rfl⟩ := e
  exact ⟨_, _, l, rfl, hin, hl⟩
theorem sized_agg {H : Type} {P : Program} {ts : List TypeId} {ds : List (DataW H)} (h : (DataW.weightsEach P ts ds).all (· ≤ reachBytes) = true) {j : Nat} {t : TypeId} {fs : Array Field} {parts : List (DataW H)} (ht : ts[j]? = some t) (hd : ds[j]? = some (.agg parts)) (hu : P.underlying t = some (.struct fs)) :
    (DataW.weightsEach P (fs.toList.map (·.type)) parts).all (· ≤ reachBytes) = true := by
  refine List.all_eq_true.2 fun n hn => List.all_eq_true.1 h n (DataW.weights_mem_each ht hd n ?_)
  simp only [DataW.weights, hu]
  exact hn
end Go.Proofs.Ytjnkpjhggeibeaa
