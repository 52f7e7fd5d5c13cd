/- Snapshots: which may be, by the document. -/
import Derived.Test.YtadkkhbbempaaaaShL
import Derived.Deep.DeepCutAuto
namespace Go.Proofs.Ytadkkhbbempaaaa
set_option maxRecDepth 100000
open Go.RowKit

/-- What is asked ahead of the rows. -/
noncomputable def preB (i t : Int) (ns : List Int) (lim nxt : Int) (hs : List Hd) (ls : List Ls) : Bool := decide (IsSet ns) && (decide (LedOk lim nxt hs ls) && ((i == 0) == (t == 0)))
theorem preB_iff {i t : Int} {ns : List Int} {lim nxt : Int} {hs : List Hd} {ls : List Ls} : ShotOk i t ns lim nxt hs ls ↔ (preB i t ns lim nxt hs ls = true ∧ ∀ a (ha : a < hs.length), hs[a].stp ≤ i) := by
  unfold preB
  rw [Bool.and_eq_true, Bool.and_eq_true, decide_eq_true_iff, decide_eq_true_iff]
  constructor
  · intro h
    refine ⟨⟨h.set, h.led, ?_⟩, fun a ha => h.late _ (List.getElem_mem ha)⟩
    by_cases hi : i = 0
    · have ht := h.zero.1 hi
      simp [hi, ht]
    · have ht : ¬ t = 0 := fun e => hi (h.zero.2 e)
      rw [beq_eq_false_iff_ne.2 hi, beq_eq_false_iff_ne.2 ht]
      rfl
  · rintro ⟨⟨h1, h2, h3⟩, h4⟩
    refine ⟨fun x hx => ?_, h1, h2, ?_⟩
    · obtain ⟨a, ha, rfl⟩ := List.getElem_of_mem hx
      exact h4 a ha
    · by_cases hi : i = 0
      · by_cases ht : t = 0
        · exact ⟨fun _ => ht, fun _ => hi⟩
        · simp [hi, ht] at h3
      · by_cases ht : t = 0
        · simp [hi, ht] at h3
        · exact ⟨fun e => absurd e hi, fun e => absurd e ht⟩

set_option maxRecDepth 100000 in
set_option maxHeartbeats 4000000 in
theorem r06_Check_any (w : World) (i t : Int) (An : Option Addr) (cn : Nat) (ns : List Int) (lim nxt : Int) (Ah : Option Addr) (ch : Nat) (hs : List Hd) (Al : Option Addr) (cl : Nat) (ls : List Ls) (hn : InN .i64 w An cn ns) (hh : InS hdC 5 w Ah ch hs) (hl : InS lsC 6 w Al cl ls) :
    Calls Try.prog 35 #[shV i t (.slice An ns.length cn) lim nxt (.slice Ah hs.length ch) (.slice Al ls.length cl)] w fun e w' => e = .returned (.int .i64 (errShot (decide (ShotOk i t ns lim nxt hs ls)))) ∧ Below w.heap.size w w' := by
  obtain ⟨E, hE⟩ : ∃ E, errShot (decide (ShotOk i t ns lim nxt hs ls)) = E := ⟨_, rfl⟩
  have HE := Lib.hid hE
  rw [hE]
  clear hE
  have hsz := hh.small
  have hcp := hh.cap
  obtain ⟨g, hg⟩ : ∃ g, w.heap.size = g := ⟨_, rfl⟩
  rw [hg]
  have hBx : Below g w (w.alloc (.cells (shC i t (.slice An ns.length cn) lim nxt (.slice Ah hs.length ch) (.slice Al ls.length cl)) 29)) := (Below.refl _ _).alloc (by omega) _
  have hb1 : Blk (w.alloc (.cells (shC i t (.slice An ns.length cn) lim nxt (.slice Ah hs.length ch) (.slice Al ls.length cl)) 29)) g 29 (shC i t (.slice An ns.length cn) lim nxt (.slice Ah hs.length ch) (.slice Al ls.length cl)) := hg ▸ Blk.new _ _ _
  have HN := Lib.hid hn
  have HH := Lib.hid hh
  have HL := Lib.hid hl
  have CK := fun W hin => ref_setCheck_any W An cn ns hin
  have CL := fun W h1 h2 => r05_Check_any W lim nxt Ah ch hs Al cl ls h1 h2
  unfold ledV at CL
  have CL := Lib.hid CL
  have CK := Lib.hid CK
  clear hn hh hl
  unfold shV
  go_enter Try.func35, Try.ntmps35
  go_upto_region 1 with (fail)
  change Code.wp _ _ _ _ (w.alloc (.cells (shC i t (.slice An ns.length cn) lim nxt (.slice Ah hs.length ch) (.slice Al ls.length cl)) 29))
  generalize (w.alloc (.cells (shC i t (.slice An ns.length cn) lim nxt (.slice Ah hs.length ch) (.slice Al ls.length cl)) 29)) = W at hb1 hBx ⊢
  try rw [hg]
  obtain ⟨q0, q1, q2, q3, q4, q5, q6⟩ := hb1.sh
  have HB1 := Lib.hid hb1
  have HX1 := Lib.hid hBx
  have hgl := hb1.lt
  have CK1 := CK.out W (HN.out.keep (hg ▸ hBx))
  clear hb1 hBx
  go_cut [3] (fun y wx => y = .bool (preB i t ns lim nxt hs ls) ∧ Blk wx g 29 (shC i t (.slice An ns.length cn) lim nxt (.slice Ah hs.length ch) (.slice Al ls.length cl)) ∧ Below g w wx)
  case first =>
    by_cases hset : IsSet ns
    rotate_left
    · rw [decide_eq_false hset, show errArg false = 1 from rfl] at CK1
      have CK1 := Lib.hid CK1
      have HP : Hid (preB i t ns lim nxt hs ls = false) := by
        show _ = _
        rw [preB, decide_eq_false hset, Bool.false_and]
      clear hset
      go_wp2_with fail
      refine CK1.out.mono ?_
      rintro e w2 ⟨rfl, hw2⟩
      obtain rfl := hw2.symm
      go_wp2
      go_meet
      case rel => exact ⟨by rw [HP.out], HB1.out, HX1.out⟩
    rw [decide_eq_true hset, show errArg true = 0 from rfl] at CK1
    have CK1 := Lib.hid CK1
    have HSET : Hid (preB i t ns lim nxt hs ls = (decide (LedOk lim nxt hs ls) && ((i == 0) == (t == 0)))) := by
      show _ = _
      rw [preB, decide_eq_true hset, Bool.true_and]
    clear hset
    have CL2 := CL.out W (HH.out.keep (hg ▸ HX1.out)) (HL.out.keep (hg ▸ HX1.out))
    by_cases hled : LedOk lim nxt hs ls
    rotate_left
    · rw [decide_eq_false hled, show errLed false = 50 from rfl] at CL2
      have CL2 := Lib.hid CL2
      have HP : Hid (preB i t ns lim nxt hs ls = false) := by
        show _ = _
        rw [HSET.out, decide_eq_false hled, Bool.false_and]
      clear hled
      go_wp2_with fail
      refine CK1.out.mono ?_
      rintro e w2 ⟨rfl, hw2⟩
      obtain rfl := hw2.symm
      go_wp2_with fail
      refine CL2.out.mono ?_
      rintro e w3 ⟨rfl, hB3⟩
      have HB3 := Lib.hid (HB1.out.below hB3 hgl)
      have HX3 := Lib.hid (HX1.out.trans (hB3.mono (Nat.le_of_lt hgl)))
      clear hB3
      go_wp2
      go_meet
      case rel => exact ⟨by rw [HP.out], HB3.out, HX3.out⟩
    rw [decide_eq_true hled, show errLed true = 0 from rfl] at CL2
    have CL2 := Lib.hid CL2
    have HLED : Hid (preB i t ns lim nxt hs ls = ((i == 0) == (t == 0))) := by
      show _ = _
      rw [HSET.out, decide_eq_true hled, Bool.true_and]
    clear hled
    go_wp2_with fail
    refine CK1.out.mono ?_
    rintro e w2 ⟨rfl, hw2⟩
    obtain rfl := hw2.symm
    go_wp2_with fail
    refine CL2.out.mono ?_
    rintro e w3 ⟨rfl, hB3⟩
    have hb3 := HB1.out.below hB3 hgl
    have HB3 := Lib.hid hb3
    have HX3 := Lib.hid (HX1.out.trans (hB3.mono (Nat.le_of_lt hgl)))
    clear hB3 q0 q1 q2 q3 q4 q5 q6
    obtain ⟨q0, q1, q2, q3, q4, q5, q6⟩ := hb3.sh
    clear hb3
    by_cases hi : i = 0
    · subst hi
      by_cases ht : t = 0
      · subst ht
        go_wp2
        go_meet
        case rel => exact ⟨by rw [HLED.out]; rfl, HB3.out, HX3.out⟩
      · have e2 : (t == 0) = false := beq_eq_false_iff_ne.2 ht
        have HT := Lib.hid e2
        clear ht
        go_wp2
        go_meet
        case rel => exact ⟨by rw [HLED.out, HT.out]; rfl, HB3.out, HX3.out⟩
    · have e1 : (i == 0) = false := beq_eq_false_iff_ne.2 hi
      have HI := Lib.hid e1
      clear hi
      by_cases ht : t = 0
      · subst ht
        go_wp2
        go_meet
        case rel => exact ⟨by rw [HLED.out, HI.out]; rfl, HB3.out, HX3.out⟩
      · have e2 : (t == 0) = false := beq_eq_false_iff_ne.2 ht
        have HT := Lib.hid e2
        clear ht
        go_wp2
        go_meet
        case rel => exact ⟨by rw [HLED.out, HI.out, HT.out]; rfl, HB3.out, HX3.out⟩
  case rest =>
  obtain ⟨rfl, hb2, hB2⟩ := hcut
  obtain ⟨P, hP⟩ : ∃ P, preB i t ns lim nxt hs ls = P := ⟨_, rfl⟩
  rw [hP]
  have HP := Lib.hid hP
  clear hP q0 q1 q2 q3 q4 q5 q6 HB1 HX1 CK1
  obtain ⟨q0, q1, q2, q3, q4, q5, q6⟩ := hb2.sh
  go_wp2_with fail
  clear q0 q1 q2 q3 q4 q5 q6
  go_loopw [3, 5, 29] (fun gd _ j wr => ∃ (k : Nat) (G : Bool), gd = .bool G ∧ j = .int .i64 (k : Int) ∧ k ≤ hs.length ∧ (G = true ↔ (P = true ∧ ∀ a (ha : a < hs.length), a < k → hs[a].stp ≤ i)) ∧ Blk wr g 29 (shC i t (.slice An ns.length cn) lim nxt (.slice Ah hs.length ch) (.slice Al ls.length cl)) ∧ Below g w wr) (fun _ _ j _ => hs.length - (intOf j).toNat)
  case atStart => exact ⟨0, P, rfl, rfl, by omega, ⟨fun h => ⟨h, fun _ _ h => absurd h (by omega)⟩, fun h => h.1⟩, hb2, hB2⟩
  case round =>
    clear hb2 hB2
    obtain ⟨k, G, rfl, rfl, hk, hG, hbr, hBr⟩ := hrel
    have HG := Lib.hid hG
    have HBR := Lib.hid hBr
    by_cases hlt : k < hs.length
    · obtain ⟨b, off, rfl, hbl, hall⟩ := (HH.out.keep (hg ▸ hBr)).hd (by omega)
      obtain ⟨c0, c1, c2, c3, c4⟩ := hall k hlt
      obtain ⟨x, hx⟩ : ∃ x, hs[k] = x := ⟨_, rfl⟩
      rw [hx] at c0 c1 c2 c3 c4
      have HX := Lib.hid hx
      obtain ⟨gh, hgh⟩ : ∃ gh, wr.heap.size = gh := ⟨_, rfl⟩
      have hlt0 : g < gh := hgh ▸ hbr.lt
      have hnew : Blk (wr.alloc (.cells (hdA x) 98)) gh 98 (hdA x) := hgh ▸ Blk.new _ _ _
      have hbr2 := hbr.alloc (.cells (hdA x) 98)
      have hBr2 := hBr.alloc (by omega) (.cells (hdA x) 98)
      clear hall hG hbr hBr hx
      go_upto_region 5 with (fail)
      change Code.wp _ _ _ _ (wr.alloc (.cells (hdA x) 98))
      generalize wr.alloc (.cells (hdA x) 98) = W2 at hnew hbr2 hBr2 ⊢
      try rw [hgh]
      clear c0 c1 c2 c3 c4 hgh hbl
      obtain ⟨q0, q1, q2, q3, q4, q5, q6⟩ := hbr2.sh
      have d4 : W2.cell? ⟨gh, 4, none⟩ = some (.int .u64 x.stp) := (hnew.cell 4).trans rfl
      have HB2 := Lib.hid hbr2
      have HX2 := Lib.hid hBr2
      clear hnew hbr2 hBr2
      have FIN : Hid (∀ G2, G2 = (G && decide (x.stp ≤ i)) → (G2 = true ↔ (P = true ∧ ∀ a (ha : a < hs.length), a < k + 1 → hs[a].stp ≤ i))) := by
        rintro G2 rfl
        rw [Bool.and_eq_true, HG.out, decide_eq_true_iff]
        constructor
        · rintro ⟨⟨h1, h2⟩, h3⟩
          refine ⟨h1, fun a ha hak => ?_⟩
          rcases Nat.lt_or_ge a k with h | h
          · exact h2 a ha h
          · obtain rfl : a = k := by omega
            rw [HX.out]
            exact h3
        · rintro ⟨h1, h2⟩
          refine ⟨⟨h1, fun a ha hak => h2 a ha (by omega)⟩, ?_⟩
          have := h2 k hlt (by omega)
          rw [HX.out] at this
          exact this
      cases G
      · go_wp2
        go_roundw
        case rel => exact ⟨k + 1, false, rfl, by go_num, by omega, FIN.out _ rfl, HB2.out, HX2.out⟩
        case measure => simp [intOf]; omega
      · go_wp2
        go_roundw
        case rel => exact ⟨k + 1, _, rfl, by go_num, by omega, FIN.out _ rfl, HB2.out, HX2.out⟩
        case measure => simp [intOf]; omega
    · obtain rfl : k = hs.length := by omega
      clear hG hbr hBr
      cases G
      · have HV1 : Hid (E = 60) := by
          show _ = _
          rw [← HE.out]
          refine shot_bad fun h => ?_
          obtain ⟨h1, h2⟩ := preB_iff.1 h
          have := HG.out.2 ⟨HP.out.symm.trans h1, fun a ha _ => h2 a ha⟩
          cases this
        go_wp2
        go_ret
        exact ⟨by rw [HV1.out]; rfl, HBR.out⟩
      · have HV1 : Hid (E = 0) := by
          show _ = _
          obtain ⟨h1, h2⟩ := HG.out.1 rfl
          rw [← HE.out, decide_eq_true (preB_iff.2 ⟨HP.out.trans h1, fun a ha => h2 a ha ha⟩)]
          rfl
        go_wp2
        go_ret
        exact ⟨by rw [HV1.out]; rfl, HBR.out⟩
end Go.Proofs.Ytadkkhbbempaaaa
