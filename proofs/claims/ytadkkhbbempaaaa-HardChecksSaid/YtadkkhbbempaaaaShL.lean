/- Snapshots: which may be, by the code and by the document. -/
import Derived.Test.YtadkkhbbempaaaaShK
import Derived.Test.YtadkkhbbempaaaaLedR
namespace Go.Proofs.Ytadkkhbbempaaaa
set_option maxRecDepth 100000
open Go.RowKit

set_option maxRecDepth 100000 in
set_option maxHeartbeats 4000000 in
theorem shot_Check_any (w : World) (i t : Int) (An : Option Addr) (cn : Nat) (ns : List Int) (lim nxt : Int) (Ah : Option Addr) (ch : Nat) (hs : List Hd) (Al : Option Addr) (cl : Nat) (ls : List Ls) (hn : InN .i64 w An cn ns) (hh : InS hdC 5 w Ah ch hs) (hl : InS lsC 6 w Al cl ls)
    (hw1 : ∀ h ∈ hs, h.Wf) (hw2 : ∀ x ∈ ls, x.Wf) (hnx : nxt < 18446744073709551616) :
    Calls Try.prog 32 #[shV i t (.slice An ns.length cn) lim nxt (.slice Ah hs.length ch) (.slice Al ls.length cl)] w fun e w' => e = .returned (.int .i64 (errShot (decide (ShotOk i t ns lim nxt hs ls)))) ∧ Below w.heap.size w w' := by
  obtain ⟨E, hE⟩ : ∃ E, errShot (decide (ShotOk i t ns lim nxt hs ls)) = E := ⟨_, rfl⟩
  have BAD : Hid (¬ ShotOk i t ns lim nxt hs ls → E = 60) := fun h => by rw [← hE]; exact shot_bad h
  have GOOD : Hid (ShotOk i t ns lim nxt hs ls → E = 0) := fun h => by rw [← hE, decide_eq_true h]; rfl
  rw [hE]
  clear hE
  obtain ⟨g, hg⟩ : ∃ g, w.heap.size = g := ⟨_, rfl⟩
  rw [hg]
  have hBx : Below g w (w.alloc (.cells (shC i t (.slice An ns.length cn) lim nxt (.slice Ah hs.length ch) (.slice Al ls.length cl)) 29)) := (Below.refl _ _).alloc (by omega) _
  have hb1 : Blk (w.alloc (.cells (shC i t (.slice An ns.length cn) lim nxt (.slice Ah hs.length ch) (.slice Al ls.length cl)) 29)) g 29 (shC i t (.slice An ns.length cn) lim nxt (.slice Ah hs.length ch) (.slice Al ls.length cl)) := hg ▸ Blk.new _ _ _
  have HN := Lib.hid hn
  have HH := Lib.hid hh
  have HL := Lib.hid hl
  have CF := Lib.hid (fun W hin T cs hb hc => late_contains W g i Ah ch hs hin T cs hb hc)
  have CK := fun W hin => nodes_Check_any W An cn ns hin
  have CL := fun W h1 h2 => ledger_Check_any W lim nxt Ah ch hs Al cl ls h1 h2 hw1 hw2 hnx
  unfold ledV at CL
  have CL := Lib.hid CL
  have CK := Lib.hid CK
  have hmf : ∀ (fn : Fn) (first cap : Array Value) (w : World), (Instr.makeFunc fn first cap).run Try.prog w = .ok (.func fn first cap) w := fun _ _ _ _ => rfl
  clear hn hh hl hw1 hw2 hnx
  unfold shV
  go_enter Try.func32, Try.ntmps32
  go_upto_region 1 with (fail)
  change Code.wp _ _ _ _ (w.alloc (.cells (shC i t (.slice An ns.length cn) lim nxt (.slice Ah hs.length ch) (.slice Al ls.length cl)) 29))
  generalize (w.alloc (.cells (shC i t (.slice An ns.length cn) lim nxt (.slice Ah hs.length ch) (.slice Al ls.length cl)) 29)) = W at hb1 hBx ⊢
  try rw [hg]
  have CX := CF.out W (HH.out.keep (hg ▸ hBx)) _ _ hb1 rfl
  unfold lateF at CX
  have CX := Lib.hid CX
  obtain ⟨q0, q1, q2, q3, q4, q5, q6⟩ := hb1.sh
  go_wp2_with fail
  refine CX.out.mono ?_
  rintro e w1 ⟨rfl, hB1⟩
  have hb2 := hb1.below hB1 hb1.lt
  have hBw1 := hBx.trans (hB1.mono (Nat.le_of_lt hb1.lt))
  clear q0 q1 q2 q3 q4 q5 q6 hb1 hBx hB1 hmf CX
  obtain ⟨q0, q1, q2, q3, q4, q5, q6⟩ := hb2.sh
  have HB1 := Lib.hid hBw1
  have hgl := hb2.lt
  obtain ⟨L, hL⟩ : ∃ L, lateB i hs = L := ⟨_, rfl⟩
  rw [hL]
  have HLT := Lib.hid hL
  have HB2 := Lib.hid hb2
  clear hL hBw1 hb2
  cases L
  rotate_left
  · have HV1 : Hid (E = 60) := BAD.out (fun h => by have := lateB_false.2 h.late; rw [HLT.out] at this; cases this)
    go_wp2
    go_ret
    exact ⟨by rw [HV1.out]; rfl, HB1.out⟩
  have CK1 := CK.out w1 (HN.out.keep (hg ▸ HB1.out))
  by_cases hset : IsSet ns
  rotate_left
  · rw [decide_eq_false hset, show errArg false = 1 from rfl] at CK1
    have CK1 := Lib.hid CK1
    have HV1 : Hid (E = 60) := BAD.out (fun h => hset h.set)
    clear hset
    go_wp2_with fail
    refine CK1.out.mono ?_
    rintro e w2 ⟨rfl, hB2⟩
    have HBB := Lib.hid (HB1.out.trans (hB2.mono (Nat.le_of_lt hgl)))
    clear hB2
    go_wp2
    go_ret
    exact ⟨by rw [HV1.out]; rfl, HBB.out⟩
  rw [decide_eq_true hset, show errArg true = 0 from rfl] at CK1
  have CK1 := Lib.hid CK1
  have HSET := Lib.hid hset
  clear hset
  go_wp2_with fail
  refine CK1.out.mono ?_
  rintro e w2 ⟨rfl, hB2⟩
  have hb3 := HB2.out.below hB2 hgl
  have HBB := Lib.hid (HB1.out.trans (hB2.mono (Nat.le_of_lt hgl)))
  clear hB2 q0 q1 q2 q3 q4 q5 q6 hgl
  have CL2 := CL.out w2 (HH.out.keep (hg ▸ HBB.out)) (HL.out.keep (hg ▸ HBB.out))
  obtain ⟨q0, q1, q2, q3, q4, q5, q6⟩ := hb3.sh
  have HB3 := Lib.hid hb3
  have hgl := hb3.lt
  clear hb3
  by_cases hled : LedOk lim nxt hs ls
  rotate_left
  · rw [decide_eq_false hled, show errLed false = 50 from rfl] at CL2
    have CL2 := Lib.hid CL2
    have HV1 : Hid (E = 60) := BAD.out (fun h => hled h.led)
    clear hled
    go_wp2_with fail
    refine CL2.out.mono ?_
    rintro e w3 ⟨rfl, hB3⟩
    have HBC := Lib.hid (HBB.out.trans (hB3.mono (Nat.le_of_lt hgl)))
    clear hB3
    go_wp2
    go_ret
    exact ⟨by rw [HV1.out]; rfl, HBC.out⟩
  rw [decide_eq_true hled, show errLed true = 0 from rfl] at CL2
  have CL2 := Lib.hid CL2
  have HLED := Lib.hid hled
  clear hled
  go_wp2_with fail
  refine CL2.out.mono ?_
  rintro e w3 ⟨rfl, hB3⟩
  have hb4 := HB3.out.below hB3 hgl
  have HBC := Lib.hid (HBB.out.trans (hB3.mono (Nat.le_of_lt hgl)))
  clear hB3 q0 q1 q2 q3 q4 q5 q6
  obtain ⟨q0, q1, q2, q3, q4, q5, q6⟩ := hb4.sh
  clear hb4
  have mk : (i = 0 ↔ t = 0) → ShotOk i t ns lim nxt hs ls := fun h => ⟨lateB_false.1 HLT.out, HSET.out, HLED.out, h⟩
  by_cases hi : i = 0
  · by_cases ht : t = 0
    · have HV1 : Hid (E = 0) := GOOD.out (mk ⟨fun _ => ht, fun _ => hi⟩)
      subst hi
      subst ht
      clear mk
      go_wp2
      go_ret
      exact ⟨by rw [HV1.out]; rfl, HBC.out⟩
    · have HV1 : Hid (E = 60) := BAD.out (fun h => ht (h.zero.1 hi))
      have e2 : (t == 0) = false := beq_eq_false_iff_ne.2 ht
      subst hi
      clear mk ht
      go_wp2
      go_ret
      exact ⟨by rw [HV1.out]; rfl, HBC.out⟩
  · have e1 : (i == 0) = false := beq_eq_false_iff_ne.2 hi
    by_cases ht : t = 0
    · have HV1 : Hid (E = 60) := BAD.out (fun h => hi (h.zero.2 ht))
      subst ht
      clear mk hi
      go_wp2
      go_ret
      exact ⟨by rw [HV1.out]; rfl, HBC.out⟩
    · have HV1 : Hid (E = 0) := GOOD.out (mk ⟨fun h => absurd h hi, fun h => absurd h ht⟩)
      have e2 : (t == 0) = false := beq_eq_false_iff_ne.2 ht
      clear mk ht hi
      go_wp2
      go_ret
      exact ⟨by rw [HV1.out]; rfl, HBC.out⟩
end Go.Proofs.Ytadkkhbbempaaaa
