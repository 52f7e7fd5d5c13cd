/- Ledgers: the document's Check. -/
import Derived.Test.YtfkaggdjhopjpaaLedM
import Derived.Deep.DeepCutAuto
import Derived.Test.YtfkaggdjhopjpaaClass
namespace Go.Proofs.Ytfkaggdjhopjpaa
set_option maxRecDepth 100000
open Go.RowKit

/-- What stands while the document looks at a row of Last. -/
structure KeptX (w : World) (g gh : Nat) (T U : TypeId) (cs ds : Array Value) (pb po : Nat) (pv : Value) (w1 : World) : Prop where
  h1 : Blk w1 g T cs
  h2 : Blk w1 gh U ds
  h3 : Below g w w1
  h4 : w1.cell? ⟨pb, po, none⟩ = some pv
  h5 : pb < w1.heap.size
theorem KeptX.call {w : World} {g gh : Nat} {T U : TypeId} {lim nxt : Int} {hl ll : Value} {x : Ls} {pb po : Nat} {pv : Value} {w1 w2 : World} (hb : Below w1.heap.size w1 w2) (h : KeptX w g gh T U (ledC lim nxt hl ll) (lsA x) pb po pv w1) :
    KeptX w g gh T U (ledC lim nxt hl ll) (lsA x) pb po pv w2 ∧ w2.cell? ⟨g, 0, none⟩ = some (.int .i64 lim) ∧ w2.cell? ⟨g, 1, none⟩ = some (.int .u64 nxt) ∧ w2.cell? ⟨g, 2, none⟩ = some hl ∧ w2.cell? ⟨g, 3, none⟩ = some ll ∧
      w2.cell? ⟨gh, 0, none⟩ = some (.int .i64 x.nod) ∧ w2.cell? ⟨gh, 1, none⟩ = some (.int .u64 x.bt) ∧ w2.cell? ⟨gh, 2, none⟩ = some (.int .u64 x.sq) ∧ w2.cell? ⟨gh, 3, none⟩ = some (.int .i64 x.cod) ∧ w2.cell? ⟨gh, 4, none⟩ = some (.int .i64 x.tok) ∧ w2.cell? ⟨gh, 5, none⟩ = some (.int .u64 x.ser) ∧ w2.cell? ⟨pb, po, none⟩ = some pv := by
  obtain ⟨h1, h2, h3, h4, h5⟩ := h
  have k1 := h1.below hb h1.lt
  have k2 := h2.below hb h2.lt
  have k4 := (hb.cell (p := ⟨pb, po, none⟩) h5).trans h4
  exact ⟨⟨k1, k2, h3.trans (hb.mono (Nat.le_of_lt h1.lt)), k4, Nat.lt_of_lt_of_le h5 hb.size⟩, k1.led.q0, k1.led.q1, k1.led.q2, k1.led.q3, (k2.cell 0).trans rfl, (k2.cell 1).trans rfl, (k2.cell 2).trans rfl, (k2.cell 3).trans rfl, (k2.cell 4).trans rfl, (k2.cell 5).trans rfl, k4⟩
/-- What the document asks of row i, but that its serial is its own. -/
structure LocH (lim nxt : Int) (l : List Hd) (i : Nat) (h : Hd) : Prop where
  rise : 0 < i → ∀ (hl : i - 1 < l.length), l[i - 1].tok < h.tok
  tok1 : 1 ≤ h.tok
  tok2 : h.tok ≤ lim
  nod1 : 1 ≤ h.nod
  nod2 : h.nod ≤ 7
  bt : 1 ≤ h.bt
  stp : 1 ≤ h.stp
  ser1 : 1 ≤ h.ser
  ser2 : h.ser < nxt

set_option maxRecDepth 100000 in
set_option maxHeartbeats 8000000 in
theorem r05_Check_any (w : World) (lim nxt : Int) (Ah : Option Addr) (ch : Nat) (hs : List Hd) (Al : Option Addr) (cl : Nat) (ls : List Ls) (hh : InS hdC 5 w Ah ch hs) (hl : InS lsC 6 w Al cl ls) :
    Calls Try.prog 9 #[ledV lim nxt (.slice Ah hs.length ch) (.slice Al ls.length cl)] w fun e w' => e = .returned (.int .i64 (errLed (decide (LedOk lim nxt hs ls)))) ∧ Below w.heap.size w w' := by
  have HH := Lib.hid hh
  have HL := Lib.hid hl
  have hsz1 := hh.small
  have hsz2 := hl.small
  have hcp1 := hh.cap
  have hcp2 := hl.cap
  obtain ⟨B, hB⟩ : ∃ B, decide (LedOk lim nxt hs ls) = B := ⟨_, rfl⟩
  rw [hB]
  have HOK := Lib.hid hB
  have BAD : Hid (¬ LedOk lim nxt hs ls → errLed B = 50) := fun h => by rw [← hB, decide_eq_false h]; rfl
  obtain ⟨E, hE⟩ : ∃ E, errLed B = E := ⟨_, rfl⟩
  rw [hE] at BAD ⊢
  have HE := Lib.hid hE
  obtain ⟨g, hg⟩ : ∃ g, w.heap.size = g := ⟨_, rfl⟩
  rw [hg]
  have hb0 : Blk (w.alloc (.cells (ledC lim nxt (.slice Ah hs.length ch) (.slice Al ls.length cl)) 26)) g 26 (ledC lim nxt (.slice Ah hs.length ch) (.slice Al ls.length cl)) := hg ▸ Blk.new _ _ _
  have hB0 : Below g w (w.alloc (.cells (ledC lim nxt (.slice Ah hs.length ch) (.slice Al ls.length cl)) 26)) := (Below.refl _ _).alloc (by omega) _
  clear hB hE hh hl
  have CA := fun W hl ll cod tok ser => r05_answer_any W lim nxt hl ll cod tok ser
  unfold ledV at CA ⊢
  have CA := Lib.hid CA
  go_enter Try.func9, Try.ntmps9
  go_upto_region 1 with (fail)
  change Code.wp _ _ _ _ (w.alloc (.cells (ledC lim nxt (.slice Ah hs.length ch) (.slice Al ls.length cl)) 26))
  generalize (w.alloc (.cells (ledC lim nxt (.slice Ah hs.length ch) (.slice Al ls.length cl)) 26)) = W at hb0 hB0 ⊢
  obtain ⟨q0, q1, q2, q3⟩ := hb0.led
  have HB0 := Lib.hid hB0
  by_cases h1 : lim < 1
  · have e1 : decide (lim < 1) = true := decide_eq_true h1
    have HV1 : Hid (E = 50) := BAD.out (fun h => by have := h.head.l1; omega)
    go_wp2
    go_ret
    exact ⟨by rw [HV1.out]; rfl, HB0.out⟩
  have e1 : decide (lim < 1) = false := decide_eq_false h1
  by_cases h2 : 65535 < lim
  · have e2 : decide (65535 < lim) = true := decide_eq_true h2
    have HV1 : Hid (E = 50) := BAD.out (fun h => by have := h.head.l2; omega)
    go_wp2
    go_ret
    exact ⟨by rw [HV1.out]; rfl, HB0.out⟩
  have e2 : decide (65535 < lim) = false := decide_eq_false h2
  by_cases h3 : nxt < 1
  · have e3 : decide (nxt < 1) = true := decide_eq_true h3
    have HV1 : Hid (E = 50) := BAD.out (fun h => by have := h.head.n1; omega)
    go_wp2
    go_ret
    exact ⟨by rw [HV1.out]; rfl, HB0.out⟩
  have e3 : decide (nxt < 1) = false := decide_eq_false h3
  by_cases h4 : (64 : Int) < hs.length
  · have e4 : decide ((64 : Int) < hs.length) = true := decide_eq_true h4
    have HV1 : Hid (E = 50) := BAD.out (fun h => by have := h.head.len; omega)
    go_wp2
    go_ret
    exact ⟨by rw [HV1.out]; rfl, HB0.out⟩
  have e4 : decide ((64 : Int) < hs.length) = false := decide_eq_false h4
  have HHEAD : Hid (HeadOk lim nxt hs.length) := ⟨by omega, by omega, by omega, by omega⟩
  go_wp2_with fail
  clear h1 h2 h3 e1 e2 e3 e4 q0 q1 q2 q3 HB0
  go_loopw [3, 4, 31] (fun _ _ i wr => ∃ (k : Nat), i = .int .i64 (k : Int) ∧ k ≤ hs.length ∧ HdsOk lim nxt hs k ∧ Blk wr g 26 (ledC lim nxt (.slice Ah hs.length ch) (.slice Al ls.length cl)) ∧ Below g w wr) (fun _ _ i _ => hs.length - (intOf i).toNat)
  case atStart => exact ⟨0, rfl, by omega, HdsOk.zero, hb0, hB0⟩
  case round =>
    clear hb0 hB0
    obtain ⟨k, rfl, hk, hok, hbr, hBr⟩ := hrel
    have HOKS := Lib.hid hok
    have HBB := Lib.hid hBr
    by_cases hlt : k < hs.length
    · obtain ⟨b, off, rfl, hbl, hall⟩ := (HH.out.keep (by rw [hg]; exact hBr)).hd (by omega)
      have hd := hall k hlt
      obtain ⟨x, hx⟩ : ∃ x, hs[k] = x := ⟨_, rfl⟩
      rw [hx] at hd
      have HX := Lib.hid hx
      obtain ⟨q0, q1, q2, q3⟩ := hbr.led
      obtain ⟨c0, c1, c2, c3, c4⟩ := hd
      obtain ⟨gh, hgh⟩ : ∃ gh, wr.heap.size = gh := ⟨_, rfl⟩
      have hlt0 : g < gh := hgh ▸ hbr.lt
      have hltb : b < gh := hgh ▸ hbl
      have hnew : Blk (wr.alloc (.cells (hdA x) 55)) gh 55 (hdA x) := hgh ▸ Blk.new _ _ _
      have hbr2 := hbr.alloc (.cells (hdA x) 55)
      have hBr2 := hBr.alloc (by omega) (.cells (hdA x) 55)
      have hpv : ∀ j (hj : j < hs.length), k = j + 1 → (wr.alloc (.cells (hdA x) 55)).cell? ⟨b, off + j * 5, none⟩ = some (.int .i64 hs[j].tok) := fun j hj _ => (World.cell?_alloc_lt wr _ ⟨b, off + j * 5, none⟩ hbl).trans (hall j hj).c0
      have NOT : Hid (¬ HdOk lim nxt hs k x → E = 50) := fun h => BAD.out (not_hds hlt (by rw [hx]; exact h))
      clear hall hok hBr hbr hx
      go_upto_region 6 with (fail)
      change Code.wp _ _ _ _ (wr.alloc (.cells (hdA x) 55))
      generalize wr.alloc (.cells (hdA x) 55) = W2 at hnew hbr2 hBr2 hpv ⊢
      try rw [hgh]
      clear c0 c1 c2 c3 c4 q0 q1 q2 q3 hgh hbl
      obtain ⟨q0, q1, q2, q3⟩ := hbr2.led
      have d0 : W2.cell? ⟨gh, 0, none⟩ = some (.int .i64 x.tok) := (hnew.cell 0).trans rfl
      have d1 : W2.cell? ⟨gh, 1, none⟩ = some (.int .i64 x.nod) := (hnew.cell 1).trans rfl
      have d2 : W2.cell? ⟨gh, 2, none⟩ = some (.int .u64 x.bt) := (hnew.cell 2).trans rfl
      have d3 : W2.cell? ⟨gh, 3, none⟩ = some (.int .u64 x.ser) := (hnew.cell 3).trans rfl
      have d4 : W2.cell? ⟨gh, 4, none⟩ = some (.int .u64 x.stp) := (hnew.cell 4).trans rfl
      have HNW := Lib.hid hnew
      have HB2 := Lib.hid hbr2
      have HBE2 := Lib.hid hBr2
      have HPV := Lib.hid hpv
      clear hnew hbr2 hBr2 hpv
      go_cut [93] (fun y wx => ∃ bd : Bool, y = .bool bd ∧ (bd = true → E = 50) ∧ (bd = false → LocH lim nxt hs k x) ∧ Blk wx gh 55 (hdA x) ∧ Blk wx g 26 (ledC lim nxt (.slice (some ⟨b, off, none⟩) hs.length ch) (.slice Al ls.length cl)) ∧ Below g w wx)
      case first =>
        cases k with
        | zero =>
          by_cases h1 : x.tok < 1
          · have e1 : decide (x.tok < 1) = true := decide_eq_true h1
            have HV1 : Hid (E = 50) := NOT.out (fun h => by have := h.tok1; omega)
            go_wp2_with fail
            go_quiet (fail)
            go_wp2
            go_meet
            case rel => exact ⟨true, rfl, fun _ => HV1.out, (fun h => by cases h), HNW.out.drewN _, HB2.out.drewN _, below_drewN HBE2.out _⟩
          have e1 : decide (x.tok < 1) = false := decide_eq_false h1
          by_cases h2 : lim < x.tok
          · have e2 : decide (lim < x.tok) = true := decide_eq_true h2
            have HV1 : Hid (E = 50) := NOT.out (fun h => by have := h.tok2; omega)
            go_wp2_with fail
            go_quiet (fail)
            go_wp2
            go_meet
            case rel => exact ⟨true, rfl, fun _ => HV1.out, (fun h => by cases h), HNW.out.drewN _, HB2.out.drewN _, below_drewN HBE2.out _⟩
          have e2 : decide (lim < x.tok) = false := decide_eq_false h2
          by_cases h3 : x.nod < 1
          · have e3 : decide (x.nod < 1) = true := decide_eq_true h3
            have HV1 : Hid (E = 50) := NOT.out (fun h => by have := h.nod1; omega)
            go_wp2_with fail
            go_quiet (fail)
            go_wp2
            go_meet
            case rel => exact ⟨true, rfl, fun _ => HV1.out, (fun h => by cases h), HNW.out.drewN _, HB2.out.drewN _, below_drewN HBE2.out _⟩
          have e3 : decide (x.nod < 1) = false := decide_eq_false h3
          by_cases h4 : 7 < x.nod
          · have e4 : decide (7 < x.nod) = true := decide_eq_true h4
            have HV1 : Hid (E = 50) := NOT.out (fun h => by have := h.nod2; omega)
            go_wp2_with fail
            go_quiet (fail)
            go_wp2
            go_meet
            case rel => exact ⟨true, rfl, fun _ => HV1.out, (fun h => by cases h), HNW.out.drewN _, HB2.out.drewN _, below_drewN HBE2.out _⟩
          have e4 : decide (7 < x.nod) = false := decide_eq_false h4
          by_cases h5 : x.bt < 1
          · have e5 : decide (x.bt < 1) = true := decide_eq_true h5
            have HV1 : Hid (E = 50) := NOT.out (fun h => by have := h.bt; omega)
            go_wp2_with fail
            go_quiet (fail)
            go_wp2
            go_meet
            case rel => exact ⟨true, rfl, fun _ => HV1.out, (fun h => by cases h), HNW.out.drewN _, HB2.out.drewN _, below_drewN HBE2.out _⟩
          have e5 : decide (x.bt < 1) = false := decide_eq_false h5
          by_cases h6 : x.stp < 1
          · have e6 : decide (x.stp < 1) = true := decide_eq_true h6
            have HV1 : Hid (E = 50) := NOT.out (fun h => by have := h.stp; omega)
            go_wp2_with fail
            go_quiet (fail)
            go_wp2
            go_meet
            case rel => exact ⟨true, rfl, fun _ => HV1.out, (fun h => by cases h), HNW.out.drewN _, HB2.out.drewN _, below_drewN HBE2.out _⟩
          have e6 : decide (x.stp < 1) = false := decide_eq_false h6
          by_cases h7 : x.ser < 1
          · have e7 : decide (x.ser < 1) = true := decide_eq_true h7
            have HV1 : Hid (E = 50) := NOT.out (fun h => by have := h.ser1; omega)
            go_wp2_with fail
            go_quiet (fail)
            go_wp2
            go_meet
            case rel => exact ⟨true, rfl, fun _ => HV1.out, (fun h => by cases h), HNW.out.drewN _, HB2.out.drewN _, below_drewN HBE2.out _⟩
          have e7 : decide (x.ser < 1) = false := decide_eq_false h7
          by_cases h8 : nxt ≤ x.ser
          · have e8 : decide (nxt ≤ x.ser) = true := decide_eq_true h8
            have HV1 : Hid (E = 50) := NOT.out (fun h => by have := h.ser2; omega)
            go_wp2_with fail
            go_quiet (fail)
            go_wp2
            go_meet
            case rel => exact ⟨true, rfl, fun _ => HV1.out, (fun h => by cases h), HNW.out.drewN _, HB2.out.drewN _, below_drewN HBE2.out _⟩
          have e8 : decide (nxt ≤ x.ser) = false := decide_eq_false h8
          go_wp2_with fail
          go_quiet (fail)
          go_wp2
          go_meet
          case rel => exact ⟨false, rfl, (fun h => by cases h), fun _ => ⟨fun h => absurd h (by omega), by omega, by omega, by omega, by omega, by omega, by omega, by omega, by omega⟩, HNW.out.drewN _, HB2.out.drewN _, below_drewN HBE2.out _⟩
        | succ j =>
          have p0 := HPV.out j (by omega) rfl
          obtain ⟨P, hP⟩ : ∃ P, hs[j].tok = P := ⟨_, rfl⟩
          rw [hP] at p0
          have HP := Lib.hid hP
          clear hP
          have s1 : IntKind.i64.wrap ((j : Int) + 1 - 1) = (j : Int) := by simp [IntKind.wrap_i64]; omega
          have s2 : decide ((0 : Int) < (j : Int) + 1) = true := decide_eq_true (by omega)
          have s3 : IntKind.i64.wrap (j : Int) = (j : Int) := by simp [IntKind.wrap_i64]; omega
          have hj : j < hs.length := by omega
          by_cases h0 : x.tok ≤ P
          · have e0 : decide (x.tok ≤ P) = true := decide_eq_true h0
            have HV1 : Hid (E = 50) := NOT.out (fun h => by have := h.rise (by omega) hj; have e := HP.out; simp only [Nat.add_sub_cancel] at this; omega)
            go_wp2_with fail
            go_quiet (fail)
            go_wp2
            go_meet
            case rel => exact ⟨true, rfl, fun _ => HV1.out, (fun h => by cases h), HNW.out.drewN _, HB2.out.drewN _, below_drewN HBE2.out _⟩
          have e0 : decide (x.tok ≤ P) = false := decide_eq_false h0
          by_cases h1 : x.tok < 1
          · have e1 : decide (x.tok < 1) = true := decide_eq_true h1
            have HV1 : Hid (E = 50) := NOT.out (fun h => by have := h.tok1; omega)
            go_wp2_with fail
            go_quiet (fail)
            go_wp2
            go_meet
            case rel => exact ⟨true, rfl, fun _ => HV1.out, (fun h => by cases h), HNW.out.drewN _, HB2.out.drewN _, below_drewN HBE2.out _⟩
          have e1 : decide (x.tok < 1) = false := decide_eq_false h1
          by_cases h2 : lim < x.tok
          · have e2 : decide (lim < x.tok) = true := decide_eq_true h2
            have HV1 : Hid (E = 50) := NOT.out (fun h => by have := h.tok2; omega)
            go_wp2_with fail
            go_quiet (fail)
            go_wp2
            go_meet
            case rel => exact ⟨true, rfl, fun _ => HV1.out, (fun h => by cases h), HNW.out.drewN _, HB2.out.drewN _, below_drewN HBE2.out _⟩
          have e2 : decide (lim < x.tok) = false := decide_eq_false h2
          by_cases h3 : x.nod < 1
          · have e3 : decide (x.nod < 1) = true := decide_eq_true h3
            have HV1 : Hid (E = 50) := NOT.out (fun h => by have := h.nod1; omega)
            go_wp2_with fail
            go_quiet (fail)
            go_wp2
            go_meet
            case rel => exact ⟨true, rfl, fun _ => HV1.out, (fun h => by cases h), HNW.out.drewN _, HB2.out.drewN _, below_drewN HBE2.out _⟩
          have e3 : decide (x.nod < 1) = false := decide_eq_false h3
          by_cases h4 : 7 < x.nod
          · have e4 : decide (7 < x.nod) = true := decide_eq_true h4
            have HV1 : Hid (E = 50) := NOT.out (fun h => by have := h.nod2; omega)
            go_wp2_with fail
            go_quiet (fail)
            go_wp2
            go_meet
            case rel => exact ⟨true, rfl, fun _ => HV1.out, (fun h => by cases h), HNW.out.drewN _, HB2.out.drewN _, below_drewN HBE2.out _⟩
          have e4 : decide (7 < x.nod) = false := decide_eq_false h4
          by_cases h5 : x.bt < 1
          · have e5 : decide (x.bt < 1) = true := decide_eq_true h5
            have HV1 : Hid (E = 50) := NOT.out (fun h => by have := h.bt; omega)
            go_wp2_with fail
            go_quiet (fail)
            go_wp2
            go_meet
            case rel => exact ⟨true, rfl, fun _ => HV1.out, (fun h => by cases h), HNW.out.drewN _, HB2.out.drewN _, below_drewN HBE2.out _⟩
          have e5 : decide (x.bt < 1) = false := decide_eq_false h5
          by_cases h6 : x.stp < 1
          · have e6 : decide (x.stp < 1) = true := decide_eq_true h6
            have HV1 : Hid (E = 50) := NOT.out (fun h => by have := h.stp; omega)
            go_wp2_with fail
            go_quiet (fail)
            go_wp2
            go_meet
            case rel => exact ⟨true, rfl, fun _ => HV1.out, (fun h => by cases h), HNW.out.drewN _, HB2.out.drewN _, below_drewN HBE2.out _⟩
          have e6 : decide (x.stp < 1) = false := decide_eq_false h6
          by_cases h7 : x.ser < 1
          · have e7 : decide (x.ser < 1) = true := decide_eq_true h7
            have HV1 : Hid (E = 50) := NOT.out (fun h => by have := h.ser1; omega)
            go_wp2_with fail
            go_quiet (fail)
            go_wp2
            go_meet
            case rel => exact ⟨true, rfl, fun _ => HV1.out, (fun h => by cases h), HNW.out.drewN _, HB2.out.drewN _, below_drewN HBE2.out _⟩
          have e7 : decide (x.ser < 1) = false := decide_eq_false h7
          by_cases h8 : nxt ≤ x.ser
          · have e8 : decide (nxt ≤ x.ser) = true := decide_eq_true h8
            have HV1 : Hid (E = 50) := NOT.out (fun h => by have := h.ser2; omega)
            go_wp2_with fail
            go_quiet (fail)
            go_wp2
            go_meet
            case rel => exact ⟨true, rfl, fun _ => HV1.out, (fun h => by cases h), HNW.out.drewN _, HB2.out.drewN _, below_drewN HBE2.out _⟩
          have e8 : decide (nxt ≤ x.ser) = false := decide_eq_false h8
          go_wp2_with fail
          go_quiet (fail)
          go_wp2
          go_meet
          case rel => exact ⟨false, rfl, (fun h => by cases h), fun _ => ⟨fun _ hl => by have e := HP.out; simp only [Nat.add_sub_cancel]; omega, by omega, by omega, by omega, by omega, by omega, by omega, by omega, by omega⟩, HNW.out.drewN _, HB2.out.drewN _, below_drewN HBE2.out _⟩
      case rest =>
      obtain ⟨bd, rfl, hbE, hbL, hnw, hbw, hBw⟩ := hcut
      clear q0 q1 q2 q3 d0 d1 d2 d3 d4 HNW HB2 HBE2 HPV
      have HBW := Lib.hid hBw
      cases bd
      rotate_left
      · have HV1 : Hid (E = 50) := hbE rfl
        clear hbE hbL hnw hbw hBw
        go_wp2
        (try simp only [Exit.inBlock, Exit.then])
        go_ret
        exact ⟨by rw [HV1.out]; rfl, HBW.out⟩
      have HLOC := Lib.hid (hbL rfl)
      obtain ⟨q0, q1, q2, q3⟩ := hbw.led
      have HN0 : Hid (Blk wc gh 55 (hdA x)) := hnw
      have HB0 := Lib.hid hbw
      clear hbE hbL hnw hbw hBw
      go_wp2_with fail
      clear q0 q1 q2 q3
      go_loopw [6, 99] (fun _ i wr => ∃ (j : Nat), i = .int .i64 (j : Int) ∧ j ≤ k ∧ (∀ a (ha : a < hs.length), a < j → hs[a].ser ≠ x.ser) ∧ Blk wr gh 55 (hdA x) ∧ Blk wr g 26 (ledC lim nxt (.slice (some ⟨b, off, none⟩) hs.length ch) (.slice Al ls.length cl)) ∧ Below g w wr) (fun _ i _ => k - (intOf i).toNat)
      case atStart => exact ⟨0, rfl, by omega, fun _ _ h => absurd h (by omega), HN0.out, HB0.out, HBW.out⟩
      case round =>
        clear HN0 HB0 HBW
        obtain ⟨j, rfl, hj, hser, hnw, hbw, hBw⟩ := hrel
        have HSER := Lib.hid hser
        by_cases hjk : j < k
        · obtain ⟨b', off', hA', hbl, hall⟩ := (HH.out.keep (by rw [hg]; exact hBw)).hd (by omega)
          injection hA' with hA'
          injection hA' with hA1 hA2 _
          subst hA1 hA2
          have hd := hall j (by omega)
          obtain ⟨y, hy⟩ : ∃ y, hs[j] = y := ⟨_, rfl⟩
          rw [hy] at hd
          have HY := Lib.hid hy
          obtain ⟨c0, c1, c2, c3, c4⟩ := hd
          have f3 : wr.cell? ⟨gh, 3, none⟩ = some (.int .u64 x.ser) := (hnw.cell 3).trans rfl
          have HNW := Lib.hid (hnw.alloc (.cells (hdA y) 55))
          have HB2 := Lib.hid (hbw.alloc (.cells (hdA y) 55))
          have HBX := fun o => hBw.alloc (by have := hbw.lt; omega) o
          have HBE2 := Lib.hid (HBX (.cells (hdA y) 55))
          have hltw := hnw.lt
          clear hall hser hnw hbw hBw hy
          have HBC : Hid (∀ cs, Below g w (wr.alloc (.cells cs 55))) := fun cs => HBX (.cells cs 55)
          by_cases hq : y.ser = x.ser
          · have HV1 : Hid (E = 50) := NOT.out (fun h => h.once j (by omega) hjk (by rw [HY.out]; exact hq))
            have e1 : (y.ser == x.ser) = true := by simp [hq]
            clear HBX
            go_wp2
            (try simp only [Exit.inBlock, Exit.then])
            go_ret
            exact ⟨by rw [HV1.out]; rfl, HBC.out _⟩
          · have e1 : (y.ser == x.ser) = false := beq_eq_false_iff_ne.2 hq
            have HQ := Lib.hid hq
            clear HBX
            go_wp2
            go_roundw
            case rel =>
              refine ⟨j + 1, by go_num, by omega, fun a ha haj => ?_, HNW.out, HB2.out, HBE2.out⟩
              rcases Nat.lt_or_ge a j with h1 | h1
              · exact HSER.out a ha h1
              · obtain rfl : a = j := by omega
                rw [HY.out]
                exact HQ.out
            case measure => simp [intOf]; omega
        · obtain rfl : j = k := by omega
          have HB2 := Lib.hid hbw
          have HBE2 := Lib.hid hBw
          clear hser hnw hbw hBw
          go_wp2
          go_roundw
          case rel =>
            have l := HLOC.out
            exact ⟨j + 1, by go_num, by omega, HOKS.out.step hlt (by rw [HX.out]; exact ⟨l.rise, l.tok1, l.tok2, l.nod1, l.nod2, l.bt, l.stp, l.ser1, l.ser2, HSER.out⟩), HB2.out, HBE2.out⟩
          case measure => simp [intOf]; omega
    · obtain rfl : k = hs.length := by omega
      obtain ⟨q0, q1, q2, q3⟩ := hbr.led
      have HBR := Lib.hid hbr
      clear hok hBr hbr hlt hk
      go_wp2_with fail
      clear q0 q1 q2 q3
      go_loopw [7, 8, 113] (fun _ _ i wr => ∃ (k : Nat), i = .int .i64 (k : Int) ∧ k ≤ ls.length ∧ LssOk lim nxt ls k ∧ Blk wr g 26 (ledC lim nxt (.slice Ah hs.length ch) (.slice Al ls.length cl)) ∧ Below g w wr) (fun _ _ i _ => ls.length - (intOf i).toNat)
      case atStart => exact ⟨0, rfl, by omega, LssOk.zero, HBR.out, HBB.out⟩
      case round =>
        clear HBR HBB
        obtain ⟨k, rfl, hk, hok, hbr, hBr⟩ := hrel
        have HOKL := Lib.hid hok
        have HBB := Lib.hid hBr
        by_cases hlt : k < ls.length
        · obtain ⟨b, off, rfl, hbl, hall⟩ := (HL.out.keep (by rw [hg]; exact hBr)).ls (by omega)
          have hd := hall k hlt
          obtain ⟨x, hx⟩ : ∃ x, ls[k] = x := ⟨_, rfl⟩
          rw [hx] at hd
          have HX := Lib.hid hx
          obtain ⟨q0, q1, q2, q3⟩ := hbr.led
          obtain ⟨c0, c1, c2, c3, c4, c5⟩ := hd
          obtain ⟨gh, hgh⟩ : ∃ gh, wr.heap.size = gh := ⟨_, rfl⟩
          have hlt0 : g < gh := hgh ▸ hbr.lt
          have hltb : b < gh := hgh ▸ hbl
          have hnew : Blk (wr.alloc (.cells (lsA x) 100)) gh 100 (lsA x) := hgh ▸ Blk.new _ _ _
          have hbr2 := hbr.alloc (.cells (lsA x) 100)
          have hBr2 := hBr.alloc (by omega) (.cells (lsA x) 100)
          have hpv : ∀ j (hj : j < ls.length), k = j + 1 → (wr.alloc (.cells (lsA x) 100)).cell? ⟨b, off + j * 6, none⟩ = some (.int .i64 ls[j].nod) := fun j hj _ => (World.cell?_alloc_lt wr _ ⟨b, off + j * 6, none⟩ hbl).trans (hall j hj).c0
          have NOT : Hid (¬ LsOk lim nxt ls k x → E = 50) := fun h => BAD.out (not_lss hlt (by rw [hx]; exact h))
          clear hall hok hBr hbr hx
          go_upto_region 18 with (fail)
          change Code.wp _ _ _ _ (wr.alloc (.cells (lsA x) 100))
          generalize wr.alloc (.cells (lsA x) 100) = W2 at hnew hbr2 hBr2 hpv ⊢
          try rw [hgh]
          clear c0 c1 c2 c3 c4 c5 q0 q1 q2 q3 hgh hbl
          obtain ⟨q0, q1, q2, q3⟩ := hbr2.led
          have d0 : W2.cell? ⟨gh, 0, none⟩ = some (.int .i64 x.nod) := (hnew.cell 0).trans rfl
          have d1 : W2.cell? ⟨gh, 1, none⟩ = some (.int .u64 x.bt) := (hnew.cell 1).trans rfl
          have d2 : W2.cell? ⟨gh, 2, none⟩ = some (.int .u64 x.sq) := (hnew.cell 2).trans rfl
          have d3 : W2.cell? ⟨gh, 3, none⟩ = some (.int .i64 x.cod) := (hnew.cell 3).trans rfl
          have d4 : W2.cell? ⟨gh, 4, none⟩ = some (.int .i64 x.tok) := (hnew.cell 4).trans rfl
          have d5 : W2.cell? ⟨gh, 5, none⟩ = some (.int .u64 x.ser) := (hnew.cell 5).trans rfl
          have HNW := Lib.hid hnew
          have HB2 := Lib.hid hbr2
          have HBE2 := Lib.hid hBr2
          have HPV := Lib.hid hpv
          have CX := fun W => CA.out W (.slice Ah hs.length ch) (.slice (some ⟨b, off, none⟩) ls.length cl) x.cod x.tok x.ser
          clear hnew hbr2 hBr2 hpv
          go_cut [158] (fun y wx => ∃ bd : Bool, y = .bool bd ∧ (bd = true → E = 50) ∧ (bd = false → LsOk lim nxt ls k x) ∧ Blk wx g 26 (ledC lim nxt (.slice Ah hs.length ch) (.slice (some ⟨b, off, none⟩) ls.length cl)) ∧ Below g w wx)
          case first =>
            cases k with
            | zero =>
              by_cases h1 : x.nod < 1
              · have e1 : decide (x.nod < 1) = true := decide_eq_true h1
                have HV1 : Hid (E = 50) := NOT.out (fun h => by have := h.nod1; omega)
                go_wp2_with fail
                go_quiet (fail)
                go_wp2
                go_meet
                case rel => exact ⟨true, rfl, fun _ => HV1.out, (fun h => by cases h), HB2.out.drewN _, below_drewN HBE2.out _⟩
              have e1 : decide (x.nod < 1) = false := decide_eq_false h1
              by_cases h2 : 7 < x.nod
              · have e2 : decide (7 < x.nod) = true := decide_eq_true h2
                have HV1 : Hid (E = 50) := NOT.out (fun h => by have := h.nod2; omega)
                go_wp2_with fail
                go_quiet (fail)
                go_wp2
                go_meet
                case rel => exact ⟨true, rfl, fun _ => HV1.out, (fun h => by cases h), HB2.out.drewN _, below_drewN HBE2.out _⟩
              have e2 : decide (7 < x.nod) = false := decide_eq_false h2
              by_cases h3 : x.bt < 1
              · have e3 : decide (x.bt < 1) = true := decide_eq_true h3
                have HV1 : Hid (E = 50) := NOT.out (fun h => by have := h.bt; omega)
                go_wp2_with fail
                go_quiet (fail)
                go_wp2
                go_meet
                case rel => exact ⟨true, rfl, fun _ => HV1.out, (fun h => by cases h), HB2.out.drewN _, below_drewN HBE2.out _⟩
              have e3 : decide (x.bt < 1) = false := decide_eq_false h3
              by_cases h4 : x.sq < 1
              · have e4 : decide (x.sq < 1) = true := decide_eq_true h4
                have HV1 : Hid (E = 50) := NOT.out (fun h => by have := h.sq; omega)
                go_wp2_with fail
                go_quiet (fail)
                go_wp2
                go_meet
                case rel => exact ⟨true, rfl, fun _ => HV1.out, (fun h => by cases h), HB2.out.drewN _, below_drewN HBE2.out _⟩
              have e4 : decide (x.sq < 1) = false := decide_eq_false h4
              obtain ⟨an, han⟩ : ∃ an, ansOk lim nxt x.cod x.tok x.ser = an := ⟨_, rfl⟩
              simp only [han] at CX
              have CX := Lib.hid CX
              have HAN := Lib.hid han
              clear han
              have K0 : KeptX w g gh 26 100 (ledC lim nxt (.slice Ah hs.length ch) (.slice (some ⟨b, off, none⟩) ls.length cl)) (lsA x) g 0 (.int .i64 lim) W2 := ⟨HB2.out, HNW.out, HBE2.out, q0, HB2.out.lt⟩
              obtain ⟨KW, hKW⟩ : ∃ KW : World → Prop, KW = KeptX w g gh 26 100 (ledC lim nxt (.slice Ah hs.length ch) (.slice (some ⟨b, off, none⟩) ls.length cl)) (lsA x) g 0 (.int .i64 lim) := ⟨_, rfl⟩
              have KC : ∀ w1 w2, KW w1 → Below w1.heap.size w1 w2 → KW w2 := fun w1 w2 h hb => by rw [hKW] at h ⊢; exact (KeptX.call hb h).1
              have KF : ∀ w1, KW w1 → KeptX w g gh 26 100 (ledC lim nxt (.slice Ah hs.length ch) (.slice (some ⟨b, off, none⟩) ls.length cl)) (lsA x) g 0 (.int .i64 lim) w1 := fun w1 h => by rw [hKW] at h; exact h
              have K1 : KW W2.drew := KC W2 _ (by rw [hKW]; exact K0) (Below.refl _ _).drew
              have F0 : ∀ p : InClass KW, p.w.cell? ⟨g, 0, none⟩ = some (.int .i64 lim) := fun p => (KF _ p.ok).h1.led.q0
              have F1 : ∀ p : InClass KW, p.w.cell? ⟨g, 1, none⟩ = some (.int .u64 nxt) := fun p => (KF _ p.ok).h1.led.q1
              have F2 : ∀ p : InClass KW, p.w.cell? ⟨g, 2, none⟩ = some (.slice Ah hs.length ch) := fun p => (KF _ p.ok).h1.led.q2
              have F3 : ∀ p : InClass KW, p.w.cell? ⟨g, 3, none⟩ = some (.slice (some ⟨b, off, none⟩) ls.length cl) := fun p => (KF _ p.ok).h1.led.q3
              have G0 : ∀ p : InClass KW, p.w.cell? ⟨gh, 0, none⟩ = some (.int .i64 x.nod) := fun p => ((KF _ p.ok).h2.cell 0).trans rfl
              have G1 : ∀ p : InClass KW, p.w.cell? ⟨gh, 1, none⟩ = some (.int .u64 x.bt) := fun p => ((KF _ p.ok).h2.cell 1).trans rfl
              have G2 : ∀ p : InClass KW, p.w.cell? ⟨gh, 2, none⟩ = some (.int .u64 x.sq) := fun p => ((KF _ p.ok).h2.cell 2).trans rfl
              have G3 : ∀ p : InClass KW, p.w.cell? ⟨gh, 3, none⟩ = some (.int .i64 x.cod) := fun p => ((KF _ p.ok).h2.cell 3).trans rfl
              have G4 : ∀ p : InClass KW, p.w.cell? ⟨gh, 4, none⟩ = some (.int .i64 x.tok) := fun p => ((KF _ p.ok).h2.cell 4).trans rfl
              have G5 : ∀ p : InClass KW, p.w.cell? ⟨gh, 5, none⟩ = some (.int .u64 x.ser) := fun p => ((KF _ p.ok).h2.cell 5).trans rfl
              have G6 : ∀ p : InClass KW, p.w.cell? ⟨g, 0, none⟩ = some (.int .i64 lim) := fun p => (KF _ p.ok).h4
              haveI NE : Nonempty (InClass KW) := ⟨⟨W2.drew, K1⟩⟩
              have KC := Lib.hid KC
              have KF := Lib.hid KF
              clear hKW K0 q0 q1 q2 q3 d0 d1 d2 d3 d4 d5
              go_wp2_with fail
              refine wp_region_class_lit KW (by kernel_rfl) (by kernel_rfl) K1 ?_
              repeat (go_big_quiet_step ((go_at_call 44; refine (CX.out _).mono ?_; rintro e8 w8 ⟨he, hB8⟩; exact ⟨he, ⟨w8, KC.out _ w8 (InClass.ok _) hB8⟩, rfl⟩)))
              refine wpQuiet_nil ?_
              intro _ hw9
              obtain ⟨p9, hw9⟩ := hw9
              subst hw9
              have k9 := KF.out _ p9.ok
              have HB8 := Lib.hid k9.h1
              have HBE8 := Lib.hid k9.h3
              clear k9 F0 F1 F2 F3 G0 G1 G2 G3 G4 G5 G6
              go_wp2
              go_meet
              case rel => exact ⟨!an, rfl, (fun h => NOT.out (fun hh => by rw [HAN.out.symm.trans hh.ans] at h; cases h)), (fun h => ⟨fun h => absurd h (by omega), by omega, by omega, by omega, by omega, HAN.out.trans (by simpa using h)⟩), HB8.out, HBE8.out⟩
            | succ j =>
              have p0 := HPV.out j (by omega) rfl
              obtain ⟨P, hP⟩ : ∃ P, ls[j].nod = P := ⟨_, rfl⟩
              rw [hP] at p0
              have HP := Lib.hid hP
              clear hP
              have s1 : IntKind.i64.wrap ((j : Int) + 1 - 1) = (j : Int) := by simp [IntKind.wrap_i64]; omega
              have s2 : decide ((0 : Int) < (j : Int) + 1) = true := decide_eq_true (by omega)
              have s3 : IntKind.i64.wrap (j : Int) = (j : Int) := by simp [IntKind.wrap_i64]; omega
              have hj : j < ls.length := by omega
              by_cases h0 : x.nod ≤ P
              · have e0 : decide (x.nod ≤ P) = true := decide_eq_true h0
                have HV1 : Hid (E = 50) := NOT.out (fun h => by have := h.rise (by omega) hj; have e := HP.out; simp only [Nat.add_sub_cancel] at this; omega)
                go_wp2_with fail
                go_quiet (fail)
                go_wp2
                go_meet
                case rel => exact ⟨true, rfl, fun _ => HV1.out, (fun h => by cases h), HB2.out.drewN _, below_drewN HBE2.out _⟩
              have e0 : decide (x.nod ≤ P) = false := decide_eq_false h0
              by_cases h1 : x.nod < 1
              · have e1 : decide (x.nod < 1) = true := decide_eq_true h1
                have HV1 : Hid (E = 50) := NOT.out (fun h => by have := h.nod1; omega)
                go_wp2_with fail
                go_quiet (fail)
                go_wp2
                go_meet
                case rel => exact ⟨true, rfl, fun _ => HV1.out, (fun h => by cases h), HB2.out.drewN _, below_drewN HBE2.out _⟩
              have e1 : decide (x.nod < 1) = false := decide_eq_false h1
              by_cases h2 : 7 < x.nod
              · have e2 : decide (7 < x.nod) = true := decide_eq_true h2
                have HV1 : Hid (E = 50) := NOT.out (fun h => by have := h.nod2; omega)
                go_wp2_with fail
                go_quiet (fail)
                go_wp2
                go_meet
                case rel => exact ⟨true, rfl, fun _ => HV1.out, (fun h => by cases h), HB2.out.drewN _, below_drewN HBE2.out _⟩
              have e2 : decide (7 < x.nod) = false := decide_eq_false h2
              by_cases h3 : x.bt < 1
              · have e3 : decide (x.bt < 1) = true := decide_eq_true h3
                have HV1 : Hid (E = 50) := NOT.out (fun h => by have := h.bt; omega)
                go_wp2_with fail
                go_quiet (fail)
                go_wp2
                go_meet
                case rel => exact ⟨true, rfl, fun _ => HV1.out, (fun h => by cases h), HB2.out.drewN _, below_drewN HBE2.out _⟩
              have e3 : decide (x.bt < 1) = false := decide_eq_false h3
              by_cases h4 : x.sq < 1
              · have e4 : decide (x.sq < 1) = true := decide_eq_true h4
                have HV1 : Hid (E = 50) := NOT.out (fun h => by have := h.sq; omega)
                go_wp2_with fail
                go_quiet (fail)
                go_wp2
                go_meet
                case rel => exact ⟨true, rfl, fun _ => HV1.out, (fun h => by cases h), HB2.out.drewN _, below_drewN HBE2.out _⟩
              have e4 : decide (x.sq < 1) = false := decide_eq_false h4
              obtain ⟨an, han⟩ : ∃ an, ansOk lim nxt x.cod x.tok x.ser = an := ⟨_, rfl⟩
              simp only [han] at CX
              have CX := Lib.hid CX
              have HAN := Lib.hid han
              clear han
              have K0 : KeptX w g gh 26 100 (ledC lim nxt (.slice Ah hs.length ch) (.slice (some ⟨b, off, none⟩) ls.length cl)) (lsA x) b (off + j * 6) (.int .i64 P) W2 := ⟨HB2.out, HNW.out, HBE2.out, p0, (by have := HNW.out.lt; omega)⟩
              obtain ⟨KW, hKW⟩ : ∃ KW : World → Prop, KW = KeptX w g gh 26 100 (ledC lim nxt (.slice Ah hs.length ch) (.slice (some ⟨b, off, none⟩) ls.length cl)) (lsA x) b (off + j * 6) (.int .i64 P) := ⟨_, rfl⟩
              have KC : ∀ w1 w2, KW w1 → Below w1.heap.size w1 w2 → KW w2 := fun w1 w2 h hb => by rw [hKW] at h ⊢; exact (KeptX.call hb h).1
              have KF : ∀ w1, KW w1 → KeptX w g gh 26 100 (ledC lim nxt (.slice Ah hs.length ch) (.slice (some ⟨b, off, none⟩) ls.length cl)) (lsA x) b (off + j * 6) (.int .i64 P) w1 := fun w1 h => by rw [hKW] at h; exact h
              have K1 : KW W2.drew := KC W2 _ (by rw [hKW]; exact K0) (Below.refl _ _).drew
              have F0 : ∀ p : InClass KW, p.w.cell? ⟨g, 0, none⟩ = some (.int .i64 lim) := fun p => (KF _ p.ok).h1.led.q0
              have F1 : ∀ p : InClass KW, p.w.cell? ⟨g, 1, none⟩ = some (.int .u64 nxt) := fun p => (KF _ p.ok).h1.led.q1
              have F2 : ∀ p : InClass KW, p.w.cell? ⟨g, 2, none⟩ = some (.slice Ah hs.length ch) := fun p => (KF _ p.ok).h1.led.q2
              have F3 : ∀ p : InClass KW, p.w.cell? ⟨g, 3, none⟩ = some (.slice (some ⟨b, off, none⟩) ls.length cl) := fun p => (KF _ p.ok).h1.led.q3
              have G0 : ∀ p : InClass KW, p.w.cell? ⟨gh, 0, none⟩ = some (.int .i64 x.nod) := fun p => ((KF _ p.ok).h2.cell 0).trans rfl
              have G1 : ∀ p : InClass KW, p.w.cell? ⟨gh, 1, none⟩ = some (.int .u64 x.bt) := fun p => ((KF _ p.ok).h2.cell 1).trans rfl
              have G2 : ∀ p : InClass KW, p.w.cell? ⟨gh, 2, none⟩ = some (.int .u64 x.sq) := fun p => ((KF _ p.ok).h2.cell 2).trans rfl
              have G3 : ∀ p : InClass KW, p.w.cell? ⟨gh, 3, none⟩ = some (.int .i64 x.cod) := fun p => ((KF _ p.ok).h2.cell 3).trans rfl
              have G4 : ∀ p : InClass KW, p.w.cell? ⟨gh, 4, none⟩ = some (.int .i64 x.tok) := fun p => ((KF _ p.ok).h2.cell 4).trans rfl
              have G5 : ∀ p : InClass KW, p.w.cell? ⟨gh, 5, none⟩ = some (.int .u64 x.ser) := fun p => ((KF _ p.ok).h2.cell 5).trans rfl
              have G6 : ∀ p : InClass KW, p.w.cell? ⟨b, (off + j * 6), none⟩ = some (.int .i64 P) := fun p => (KF _ p.ok).h4
              haveI NE : Nonempty (InClass KW) := ⟨⟨W2.drew, K1⟩⟩
              have KC := Lib.hid KC
              have KF := Lib.hid KF
              clear hKW K0 q0 q1 q2 q3 d0 d1 d2 d3 d4 d5
              go_wp2_with fail
              refine wp_region_class_lit KW (by kernel_rfl) (by kernel_rfl) K1 ?_
              repeat (go_big_quiet_step ((go_at_call 44; refine (CX.out _).mono ?_; rintro e8 w8 ⟨he, hB8⟩; exact ⟨he, ⟨w8, KC.out _ w8 (InClass.ok _) hB8⟩, rfl⟩)))
              refine wpQuiet_nil ?_
              intro _ hw9
              obtain ⟨p9, hw9⟩ := hw9
              subst hw9
              have k9 := KF.out _ p9.ok
              have HB8 := Lib.hid k9.h1
              have HBE8 := Lib.hid k9.h3
              clear k9 F0 F1 F2 F3 G0 G1 G2 G3 G4 G5 G6
              go_wp2
              go_meet
              case rel => exact ⟨!an, rfl, (fun h => NOT.out (fun hh => by rw [HAN.out.symm.trans hh.ans] at h; cases h)), (fun h => ⟨fun _ hl => by have e := HP.out; simp only [Nat.add_sub_cancel]; omega, by omega, by omega, by omega, by omega, HAN.out.trans (by simpa using h)⟩), HB8.out, HBE8.out⟩
          case rest =>
          obtain ⟨bd, rfl, hbE, hbL, hbw, hBw⟩ := hcut
          clear q0 q1 q2 q3 d0 d1 d2 d3 d4 d5 HNW HB2 HBE2 HPV CX
          have HBW := Lib.hid hBw
          have HB2 := Lib.hid hbw
          cases bd
          rotate_left
          · have HV1 : Hid (E = 50) := hbE rfl
            clear hbE hbL hbw hBw
            go_wp2
            (try simp only [Exit.inBlock, Exit.then])
            go_ret
            exact ⟨by rw [HV1.out]; rfl, HBW.out⟩
          have HLOC := Lib.hid (hbL rfl)
          clear hbE hbL hbw hBw
          go_wp2
          go_roundw
          case rel => exact ⟨k + 1, by go_num, by omega, HOKL.out.step hlt (by rw [HX.out]; exact HLOC.out), HB2.out, HBW.out⟩
          case measure => simp [intOf]; omega
        · obtain rfl : k = ls.length := by omega
          have HEE : Hid (E = 0) := by
            show _ = _
            rw [← HE.out, ← HOK.out, decide_eq_true (show LedOk lim nxt hs ls from ⟨HHEAD.out, HOKS.out, HOKL.out⟩)]
            rfl
          clear hok hbr hBr
          go_wp2
          go_ret
          exact ⟨by rw [HEE.out]; rfl, HBB.out⟩
end Go.Proofs.Ytfkaggdjhopjpaa
