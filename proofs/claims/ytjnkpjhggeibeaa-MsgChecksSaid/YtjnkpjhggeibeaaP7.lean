/- Texts drawn together (5 of them): words, plain laws and walks that the row leans on. -/
import Derived.Test.YtjnkpjhggeibeaaP4
import Derived.Test.YtjnkpjhggeibeaaP2
import Derived.Test.YtjnkpjhggeibeaaP6
import Derived.Lib.Strings
/- Messages: a Feed's entries, as the code and as the document ask. -/
namespace Go.Proofs.Ytjnkpjhggeibeaa
set_option maxRecDepth 100000
open Go.RowKit

set_option maxHeartbeats 8000000 in
theorem msg_fed_any (w : World) (m : Mb) (p : Sa) (PA : Option Addr) (PC : Nat) (xs : List Ec) (hin : InE w PA PC xs) (hwf : ∀ x ∈ xs, x.e.Wf) :
    Calls Try.prog 13 #[mgV m p PA xs.length PC] w fun e w' => e = .returned (.bool (fedB m (xs.map (·.e)))) ∧ Below w.heap.size w w' := by
  obtain ⟨g, hg⟩ : ∃ g, w.heap.size = g := ⟨_, rfl⟩
  have hb0 : Blk (w.alloc (.cells (mgC m p PA xs.length PC) 32)) g 32 (mgC m p PA xs.length PC) := hg ▸ Blk.new _ _ _
  have hB0 : Below g w (w.alloc (.cells (mgC m p PA xs.length PC) 32)) := (Below.refl _ _).alloc (by omega) _
  have CC := Lib.hid (fun W (x : Ec) (h : InN .i64 W x.A x.c x.e.l) => cmd_Check_any W x.e.k x.e.n x.e.t x.A x.c x.e.l x.e.b x.e.q x.e.s x.e.m h)
  have HIN := Lib.hid hin
  have HWF := Lib.hid hwf
  have hcap := hin.rows.cap
  have hsml := hin.small
  rw [hg]
  have HG := Lib.hid hg
  obtain ⟨V, hV⟩ : ∃ V, fedB m (xs.map (·.e)) = V := ⟨_, rfl⟩
  have HV := Lib.hid hV
  rw [hV]
  clear hin hwf hV
  unfold mgV
  go_enter Try.func13, Try.ntmps13
  go_upto_region 1 with (fail)
  change Code.wp _ _ _ _ (w.alloc (.cells (mgC m p PA xs.length PC) 32))
  generalize (w.alloc (.cells (mgC m p PA xs.length PC) 32)) = W0 at hb0 hB0 ⊢
  try rw [hg]
  have z5 := hb0.mg.z5
  have z8 := hb0.mg.z8
  have HB0 := Lib.hid hB0
  have HK0 := Lib.hid hb0
  clear hB0 hb0 hg
  go_wp2_with fail
  clear z5 z8
  go_loopw [3, 5, 12] (fun tv _ iv wr => ∃ (k : Nat) (T : Int), tv = .int .u64 T ∧ iv = .int .i64 (k : Int) ∧ k ≤ xs.length ∧ feedL m.tm (max m.lt 1) (xs.map (·.e)) = feedL m.tm T ((xs.map (·.e)).drop k) ∧ Blk wr g 32 (mgC m p PA xs.length PC) ∧ Below g w wr) (fun _ _ iv _ => xs.length - (intOf iv).toNat)
  case atStart => exact ⟨0, max m.lt 1, rfl, rfl, by omega, rfl, HK0.out, HB0.out⟩
  case round =>
    clear HK0 HB0
    obtain ⟨k, T, rfl, rfl, hk, hf, hb, hB⟩ := hrel
    have HF := Lib.hid hf
    have HK := Lib.hid hb
    have HB := Lib.hid hB
    clear hf
    by_cases hkl : k < xs.length
    · have hinr := HIN.out.keep (HG.out ▸ hB)
      obtain ⟨b, off, rfl, hbb, hat⟩ := hinr.rows.ec (by omega)
      have hatk := hat k hkl
      have hix := hinr.inn _ (List.getElem_mem hkl)
      have hwx := HWF.out _ (List.getElem_mem hkl)
      have hdr : (xs.map (·.e)).drop k = xs[k].e :: (xs.map (·.e)).drop (k + 1) := by
        rw [List.drop_eq_getElem_cons (by rw [List.length_map]; exact hkl), List.getElem_map]
      obtain ⟨x, hx⟩ : ∃ x, xs[k] = x := ⟨_, rfl⟩
      rw [hx] at hatk hix hwx hdr
      obtain ⟨c0, c1, c2, c3, c4, c5, c6, c7, c8⟩ := hatk
      have hgw : g < wr.heap.size := hb.lt
      obtain ⟨gx, hgx⟩ : ∃ gx, wr.heap.size = gx := ⟨_, rfl⟩
      have hal : Below wr.heap.size wr (wr.alloc (.cells (ecA x) 54)) := (Below.refl _ _).alloc (Nat.le_refl _) _
      have hx5 : Blk (wr.alloc (.cells (ecA x) 54)) gx 54 (ecA x) := hgx ▸ Blk.new _ _ _
      have hb5 := hb.alloc (.cells (ecA x) 54)
      have hB5 := HB.out.trans (hal.mono (by omega))
      have hI5 := hix.keep hal
      have HDR := Lib.hid hdr
      clear hat hx hB hal hb hinr hix hdr HK
      go_upto_region 5 with (fail)
      change Code.wp _ _ _ _ (wr.alloc (.cells (ecA x) 54))
      generalize (wr.alloc (.cells (ecA x) 54)) = W5 at hx5 hb5 hB5 hI5 ⊢
      try rw [hgx]
      clear c0 c1 c2 c3 c4 c5 c6 c7 c8 hbb HB
      obtain ⟨d0, d1, d2, d3, d4, d5, d6, d7, d8⟩ := hx5.ec
      simp only [Nat.zero_add] at d1 d2 d3 d4 d5 d6 d7 d8
      have z3 := hb5.mg.z3
      have X1' := CC.out W5 x hI5
      rw [show codeOk x.e.k x.e.n x.e.t x.e.l x.e.b x.e.q x.e.s x.e.m = x.e.ok from rfl] at X1'
      unfold cmdV at X1'
      have HB5 := Lib.hid hB5
      have HK5 := Lib.hid hb5
      have HX5 := Lib.hid hx5
      have HVV : Hid (V = ((decide (T ≤ x.e.tm) && (decide (x.e.tm ≤ m.tm) && (x.e.ok && feedL m.tm x.e.tm ((xs.map (·.e)).drop (k + 1))))) && (decide (((xs.map (·.e)).length : Int) ≤ 4) && decide (m.ix ≤ 4611686018427387904)))) := by
        show _ = _
        rw [← HV.out]
        unfold fedB
        rw [HF.out, HDR.out]
        rfl
      have hlt5 : g < W5.heap.size := hb5.lt
      clear hB5 hb5 hx5 hI5
      by_cases e1 : x.e.tm < T
      · have HN : Hid (V = false) := by
          show _ = _
          rw [HVV.out, show decide (T ≤ x.e.tm) = false from decide_eq_false (by omega)]
          rfl
        clear X1'
        go_wp2
        go_ret
        exact ⟨by rw [HN.out]; rfl, HB5.out⟩
      by_cases e2 : m.tm < x.e.tm
      · have HN : Hid (V = false) := by
          show _ = _
          rw [HVV.out, show decide (x.e.tm ≤ m.tm) = false from decide_eq_false (by omega), Bool.false_and, Bool.and_false]
          rfl
        clear X1'
        go_wp2
        go_ret
        exact ⟨by rw [HN.out]; rfl, HB5.out⟩
      cases ok : x.e.ok
      · have HN : Hid (V = false) := by
          show _ = _
          rw [HVV.out, ok, Bool.false_and, Bool.and_false, Bool.and_false]
          rfl
        rw [ok] at X1'
        have e0 : errCmd false = 40 := rfl
        rw [e0] at X1'
        have X1 := Lib.hid X1'
        clear X1' ok e0
        go_wp2_with fail
        refine X1.out.mono ?_
        rintro e w6 ⟨rfl, hB6⟩
        have HB6 := Lib.hid (HB5.out.trans (hB6.mono (by omega)))
        clear hB6 X1 d0 d1 d2 d3 d4 d5 d6 d7 d8 z3
        go_wp2
        go_ret
        exact ⟨by rw [HN.out]; rfl, HB6.out⟩
      · rw [ok] at X1'
        have e0 : errCmd true = 0 := rfl
        rw [e0] at X1'
        have X1 := Lib.hid X1'
        have HOK := Lib.hid ok
        clear X1' ok e0
        go_wp2_with fail
        refine X1.out.mono ?_
        rintro e w6 ⟨rfl, hB6⟩
        have HB6 := Lib.hid (HB5.out.trans (hB6.mono (by omega)))
        have HK6 := Lib.hid (HK5.out.below hB6 HK5.out.lt)
        have d0 := (HX5.out.below hB6 HX5.out.lt).ec.c0
        have HE1 := Lib.hid e1
        have HE2 := Lib.hid e2
        clear hB6 X1 e1 e2 d1 d2 d3 d4 d5 d6 d7 d8 z3
        go_wp2
        go_roundw
        case rel =>
          refine ⟨k + 1, x.e.tm, rfl, by go_num, by omega, ?_, HK6.out, HB6.out⟩
          rw [HF.out, HDR.out]
          have h1 : decide (T ≤ x.e.tm) = true := decide_eq_true (by have := HE1.out; omega)
          have h2 : decide (x.e.tm ≤ m.tm) = true := decide_eq_true (by have := HE2.out; omega)
          show (decide (T ≤ x.e.tm) && (decide (x.e.tm ≤ m.tm) && (x.e.ok && feedL m.tm x.e.tm ((xs.map (·.e)).drop (k + 1))))) = _
          rw [h1, h2, HOK.out, Bool.true_and, Bool.true_and, Bool.true_and]
        case measure => simp [intOf]; omega
    · obtain rfl : k = xs.length := by omega
      have HVV : Hid (V = (decide ((xs.length : Int) ≤ 4) && decide (m.ix ≤ 4611686018427387904))) := by
        show _ = _
        rw [← HV.out]
        unfold fedB
        rw [HF.out, List.drop_of_length_le (by rw [List.length_map]; exact Nat.le_refl _), List.length_map]
        rfl
      have z8 := hb.mg.z8
      have z4 := hb.mg.z4
      clear hb hB HK
      by_cases e1 : (xs.length : Int) ≤ 4
      · have d1 : decide ((xs.length : Int) ≤ 4) = true := decide_eq_true e1
        have HN : Hid (V = decide (m.ix ≤ 4611686018427387904)) := by
          show _ = _
          rw [HVV.out, d1, Bool.true_and]
        clear e1
        go_wp2
        go_ret
        exact ⟨by rw [HN.out]; rfl, HB.out⟩
      · have d1 : decide ((xs.length : Int) ≤ 4) = false := decide_eq_false e1
        have HN : Hid (V = false) := by
          show _ = _
          rw [HVV.out, d1, Bool.false_and]
        clear e1
        go_wp2
        go_ret
        exact ⟨by rw [HN.out]; rfl, HB.out⟩
set_option maxHeartbeats 8000000 in
theorem r08_entries_any (w : World) (m : Mb) (p : Sa) (PA : Option Addr) (PC : Nat) (xs : List Ec) (hin : InE w PA PC xs) (hwf : ∀ x ∈ xs, x.e.Wf) :
    Calls Try.prog 19 #[mgV m p PA xs.length PC] w fun e w' => e = .returned (.bool (fedB m (xs.map (·.e)))) ∧ Below w.heap.size w w' := by
  obtain ⟨g, hg⟩ : ∃ g, w.heap.size = g := ⟨_, rfl⟩
  have hb0 : Blk (w.alloc (.cells (mgC m p PA xs.length PC) 32)) g 32 (mgC m p PA xs.length PC) := hg ▸ Blk.new _ _ _
  have hB0 : Below g w (w.alloc (.cells (mgC m p PA xs.length PC) 32)) := (Below.refl _ _).alloc (by omega) _
  have CC := Lib.hid (fun W (x : Ec) (h : InN .i64 W x.A x.c x.e.l) (hw : x.e.Wf) => ref_Check_any W x.e.k x.e.n x.e.t x.A x.c x.e.l x.e.b x.e.q x.e.s x.e.m h hw.n hw.t)
  have HIN := Lib.hid hin
  have HWF := Lib.hid hwf
  have hcap := hin.rows.cap
  have hsml := hin.small
  rw [hg]
  have HG := Lib.hid hg
  obtain ⟨V, hV⟩ : ∃ V, fedB m (xs.map (·.e)) = V := ⟨_, rfl⟩
  have HV := Lib.hid hV
  rw [hV]
  have hmx := max_one m.lt
  clear hin hwf hV
  unfold mgV
  go_enter Try.func19, Try.ntmps19
  go_upto_region 1 with (fail)
  change Code.wp _ _ _ _ (w.alloc (.cells (mgC m p PA xs.length PC) 32))
  generalize (w.alloc (.cells (mgC m p PA xs.length PC) 32)) = W0 at hb0 hB0 ⊢
  try rw [hg]
  have z5 := hb0.mg.z5
  have z8 := hb0.mg.z8
  have HB0 := Lib.hid hB0
  have HK0 := Lib.hid hb0
  clear hB0 hb0 hg
  go_wp2_with fail
  clear z5 z8
  go_loopw [3, 5, 12] (fun tv _ iv wr => ∃ (k : Nat) (T : Int), tv = .int .u64 T ∧ iv = .int .i64 (k : Int) ∧ k ≤ xs.length ∧ feedL m.tm (max m.lt 1) (xs.map (·.e)) = feedL m.tm T ((xs.map (·.e)).drop k) ∧ Blk wr g 32 (mgC m p PA xs.length PC) ∧ Below g w wr) (fun _ _ iv _ => xs.length - (intOf iv).toNat)
  case atStart => exact ⟨0, max m.lt 1, rfl, rfl, by omega, rfl, HK0.out, HB0.out⟩
  case round =>
    clear HK0 HB0
    obtain ⟨k, T, rfl, rfl, hk, hf, hb, hB⟩ := hrel
    have HF := Lib.hid hf
    have HK := Lib.hid hb
    have HB := Lib.hid hB
    clear hf
    by_cases hkl : k < xs.length
    · have hinr := HIN.out.keep (HG.out ▸ hB)
      obtain ⟨b, off, rfl, hbb, hat⟩ := hinr.rows.ec (by omega)
      have hatk := hat k hkl
      have hix := hinr.inn _ (List.getElem_mem hkl)
      have hwx := HWF.out _ (List.getElem_mem hkl)
      have hdr : (xs.map (·.e)).drop k = xs[k].e :: (xs.map (·.e)).drop (k + 1) := by
        rw [List.drop_eq_getElem_cons (by rw [List.length_map]; exact hkl), List.getElem_map]
      obtain ⟨x, hx⟩ : ∃ x, xs[k] = x := ⟨_, rfl⟩
      rw [hx] at hatk hix hwx hdr
      obtain ⟨c0, c1, c2, c3, c4, c5, c6, c7, c8⟩ := hatk
      have hgw : g < wr.heap.size := hb.lt
      obtain ⟨gx, hgx⟩ : ∃ gx, wr.heap.size = gx := ⟨_, rfl⟩
      have hal : Below wr.heap.size wr (wr.alloc (.cells (ecA x) 54)) := (Below.refl _ _).alloc (Nat.le_refl _) _
      have hx5 : Blk (wr.alloc (.cells (ecA x) 54)) gx 54 (ecA x) := hgx ▸ Blk.new _ _ _
      have hb5 := hb.alloc (.cells (ecA x) 54)
      have hB5 := HB.out.trans (hal.mono (by omega))
      have hI5 := hix.keep hal
      have HDR := Lib.hid hdr
      clear hat hx hB hal hb hinr hix hdr HK
      go_upto_region 5 with (fail)
      change Code.wp _ _ _ _ (wr.alloc (.cells (ecA x) 54))
      generalize (wr.alloc (.cells (ecA x) 54)) = W5 at hx5 hb5 hB5 hI5 ⊢
      try rw [hgx]
      clear c0 c1 c2 c3 c4 c5 c6 c7 c8 hbb HB
      obtain ⟨d0, d1, d2, d3, d4, d5, d6, d7, d8⟩ := hx5.ec
      simp only [Nat.zero_add] at d1 d2 d3 d4 d5 d6 d7 d8
      have z3 := hb5.mg.z3
      have X1' := CC.out W5 x hI5 hwx
      rw [ref_ok x.e hwx] at X1'
      unfold cmdV at X1'
      have HB5 := Lib.hid hB5
      have HK5 := Lib.hid hb5
      have HX5 := Lib.hid hx5
      have HVV : Hid (V = ((decide (T ≤ x.e.tm) && (decide (x.e.tm ≤ m.tm) && (x.e.ok && feedL m.tm x.e.tm ((xs.map (·.e)).drop (k + 1))))) && (decide (((xs.map (·.e)).length : Int) ≤ 4) && decide (m.ix ≤ 4611686018427387904)))) := by
        show _ = _
        rw [← HV.out]
        unfold fedB
        rw [HF.out, HDR.out]
        rfl
      have hlt5 : g < W5.heap.size := hb5.lt
      clear hB5 hb5 hx5 hI5
      by_cases e1 : x.e.tm < T
      · have HN : Hid (V = false) := by
          show _ = _
          rw [HVV.out, show decide (T ≤ x.e.tm) = false from decide_eq_false (by omega)]
          rfl
        clear X1'
        go_wp2
        go_ret
        exact ⟨by rw [HN.out]; rfl, HB5.out⟩
      by_cases e2 : m.tm < x.e.tm
      · have HN : Hid (V = false) := by
          show _ = _
          rw [HVV.out, show decide (x.e.tm ≤ m.tm) = false from decide_eq_false (by omega), Bool.false_and, Bool.and_false]
          rfl
        clear X1'
        go_wp2
        go_ret
        exact ⟨by rw [HN.out]; rfl, HB5.out⟩
      cases ok : x.e.ok
      · have HN : Hid (V = false) := by
          show _ = _
          rw [HVV.out, ok, Bool.false_and, Bool.and_false, Bool.and_false]
          rfl
        rw [ok] at X1'
        have e0 : errCmd false = 40 := rfl
        rw [e0] at X1'
        have X1 := Lib.hid X1'
        clear X1' ok e0
        go_wp2_with fail
        refine X1.out.mono ?_
        rintro e w6 ⟨rfl, hB6⟩
        have HB6 := Lib.hid (HB5.out.trans (hB6.mono (by omega)))
        clear hB6 X1 d0 d1 d2 d3 d4 d5 d6 d7 d8 z3
        go_wp2
        go_ret
        exact ⟨by rw [HN.out]; rfl, HB6.out⟩
      · rw [ok] at X1'
        have e0 : errCmd true = 0 := rfl
        rw [e0] at X1'
        have X1 := Lib.hid X1'
        have HOK := Lib.hid ok
        clear X1' ok e0
        go_wp2_with fail
        refine X1.out.mono ?_
        rintro e w6 ⟨rfl, hB6⟩
        have HB6 := Lib.hid (HB5.out.trans (hB6.mono (by omega)))
        have HK6 := Lib.hid (HK5.out.below hB6 HK5.out.lt)
        have d0 := (HX5.out.below hB6 HX5.out.lt).ec.c0
        have HE1 := Lib.hid e1
        have HE2 := Lib.hid e2
        clear hB6 X1 e1 e2 d1 d2 d3 d4 d5 d6 d7 d8 z3
        go_wp2
        go_roundw
        case rel =>
          refine ⟨k + 1, x.e.tm, rfl, by go_num, by omega, ?_, HK6.out, HB6.out⟩
          rw [HF.out, HDR.out]
          have h1 : decide (T ≤ x.e.tm) = true := decide_eq_true (by have := HE1.out; omega)
          have h2 : decide (x.e.tm ≤ m.tm) = true := decide_eq_true (by have := HE2.out; omega)
          show (decide (T ≤ x.e.tm) && (decide (x.e.tm ≤ m.tm) && (x.e.ok && feedL m.tm x.e.tm ((xs.map (·.e)).drop (k + 1))))) = _
          rw [h1, h2, HOK.out, Bool.true_and, Bool.true_and, Bool.true_and]
        case measure => simp [intOf]; omega
    · obtain rfl : k = xs.length := by omega
      have HVV : Hid (V = (decide ((xs.length : Int) ≤ 4) && decide (m.ix ≤ 4611686018427387904))) := by
        show _ = _
        rw [← HV.out]
        unfold fedB
        rw [HF.out, List.drop_of_length_le (by rw [List.length_map]; exact Nat.le_refl _), List.length_map]
        rfl
      have z8 := hb.mg.z8
      have z4 := hb.mg.z4
      clear hb hB HK
      by_cases e1 : (xs.length : Int) ≤ 4
      · have d1 : decide ((xs.length : Int) ≤ 4) = true := decide_eq_true e1
        have HN : Hid (V = decide (m.ix ≤ 4611686018427387904)) := by
          show _ = _
          rw [HVV.out, d1, Bool.true_and]
        clear e1
        go_wp2
        go_ret
        exact ⟨by rw [HN.out]; rfl, HB.out⟩
      · have d1 : decide ((xs.length : Int) ≤ 4) = false := decide_eq_false e1
        have HN : Hid (V = false) := by
          show _ = _
          rw [HVV.out, d1, Bool.false_and]
        clear e1
        go_wp2
        go_ret
        exact ⟨by rw [HN.out]; rfl, HB.out⟩
end Go.Proofs.Ytjnkpjhggeibeaa

/- Messages: a Put's one entry, as the code and as the document ask. -/
namespace Go.Proofs.Ytjnkpjhggeibeaa
set_option maxRecDepth 100000
open Go.RowKit

theorem putB_len (m : Mb) (l : List En) (h : l.length ≠ 1) : putB m l = false := by
  rcases l with _ | ⟨e, _ | ⟨f, l⟩⟩
  · rfl
  · simp at h
  · rfl
set_option maxHeartbeats 8000000 in
theorem r08_put_any (w : World) (m : Mb) (p : Sa) (PA : Option Addr) (PC : Nat) (xs : List Ec) (hin : InE w PA PC xs) (hwf : ∀ x ∈ xs, x.e.Wf) :
    Calls Try.prog 21 #[mgV m p PA xs.length PC] w fun e w' => e = .returned (.bool (putB m (xs.map (·.e)))) ∧ Below w.heap.size w w' := by
  obtain ⟨g, hg⟩ : ∃ g, w.heap.size = g := ⟨_, rfl⟩
  obtain ⟨n, hn⟩ : ∃ n, xs.length = n := ⟨_, rfl⟩
  rw [hn]
  have hb0 : Blk (w.alloc (.cells (mgC m p PA n PC) 32)) g 32 (mgC m p PA n PC) := hg ▸ Blk.new _ _ _
  have hB0 : Below g w (w.alloc (.cells (mgC m p PA n PC) 32)) := (Below.refl _ _).alloc (by omega) _
  have CC := Lib.hid (fun W (x : Ec) (h : InN .i64 W x.A x.c x.e.l) (hw : x.e.Wf) => ref_Check_any W x.e.k x.e.n x.e.t x.A x.c x.e.l x.e.b x.e.q x.e.s x.e.m h hw.n hw.t)
  have HIN := Lib.hid hin
  have HWF := Lib.hid hwf
  have hsml := hin.small
  rw [hg]
  have HG := Lib.hid hg
  obtain ⟨V, hV⟩ : ∃ V, putB m (xs.map (·.e)) = V := ⟨_, rfl⟩
  have HV := Lib.hid hV
  rw [hV]
  have HN := Lib.hid hn
  rw [hn] at hsml
  clear hin hwf hV hn
  unfold mgV
  go_enter Try.func21, Try.ntmps21
  go_upto_region 1 with (fail)
  change Code.wp _ _ _ _ (w.alloc (.cells (mgC m p PA n PC) 32))
  generalize (w.alloc (.cells (mgC m p PA n PC) 32)) = W0 at hb0 hB0 ⊢
  try rw [hg]
  by_cases h1 : n ≠ 1
  · have HV2 : Hid (V = false) := by
      show _ = _
      rw [← HV.out]
      exact putB_len _ _ (by rw [List.length_map, HN.out]; exact h1)
    have z8 := hb0.mg.z8
    have e1 : ¬ ((n : Int) = 1) := by omega
    have HB0 := Lib.hid hB0
    clear hB0 hb0 hg h1
    go_wp2
    go_ret
    exact ⟨by rw [HV2.out]; rfl, HB0.out⟩
  obtain rfl : n = 1 := by omega
  clear h1
  have hinr := HIN.out.keep (HG.out.symm ▸ hB0)
  obtain ⟨x, rfl⟩ := List.length_eq_one_iff.1 HN.out
  obtain ⟨b, off, rfl, hbb, hat⟩ := hinr.rows.ec (by simp)
  have hatk := hat 0 (by simp)
  have hix := hinr.inn x (by simp)
  have hwx := HWF.out x (by simp)
  simp only [List.getElem_cons_zero] at hatk
  obtain ⟨c0, c1, c2, c3, c4, c5, c6, c7, c8⟩ := hatk
  have z8 := hb0.mg.z8
  have hgw : g < W0.heap.size := hb0.lt
  obtain ⟨gx, hgx⟩ : ∃ gx, W0.heap.size = gx := ⟨_, rfl⟩
  have hal : Below W0.heap.size W0 (W0.alloc (.cells ((cmdCells x.e.k x.e.n x.e.t (.slice x.A x.e.l.length x.c) x.e.b x.e.q x.e.s x.e.m)) 52)) := (Below.refl _ _).alloc (Nat.le_refl _) _
  have hx5 : Blk (W0.alloc (.cells ((cmdCells x.e.k x.e.n x.e.t (.slice x.A x.e.l.length x.c) x.e.b x.e.q x.e.s x.e.m)) 52)) gx 52 ((cmdCells x.e.k x.e.n x.e.t (.slice x.A x.e.l.length x.c) x.e.b x.e.q x.e.s x.e.m)) := hgx ▸ Blk.new _ _ _
  have hb5 := hb0.alloc (.cells ((cmdCells x.e.k x.e.n x.e.t (.slice x.A x.e.l.length x.c) x.e.b x.e.q x.e.s x.e.m)) 52)
  have hB5 := hB0.trans (hal.mono (by omega))
  have hI5 := hix.keep hal
  have hN5 := hinr.keep hal
  clear hat hal hB0 hb0 hinr hix
  go_upto_region 4 with (fail)
  change Code.wp _ _ _ _ (W0.alloc (.cells ((cmdCells x.e.k x.e.n x.e.t (.slice x.A x.e.l.length x.c) x.e.b x.e.q x.e.s x.e.m)) 52))
  generalize (W0.alloc (.cells (cmdCells x.e.k x.e.n x.e.t (.slice x.A x.e.l.length x.c) x.e.b x.e.q x.e.s x.e.m) 52)) = W5 at hx5 hb5 hB5 hI5 hN5 ⊢
  try rw [hgx]
  clear c0 c1 c2 c3 c4 c5 c6 c7 c8 z8 hbb
  obtain ⟨b2, o2, e2, hbb, hat⟩ := hN5.rows.ec (by simp)
  cases e2
  have hatk := hat 0 (by simp)
  simp only [List.getElem_cons_zero] at hatk
  have c0 := hatk.1
  have c0' : W5.cell? { block := b, off := off } = some (Value.int IntKind.u64 x.e.tm) := by rw [← c0]; congr 2
  obtain ⟨d0, d1, d2, d3, d4, d5, d6, d7⟩ := hx5.cmd
  have z8 := hb5.mg.z8
  have z1 := hb5.mg.z1
  have X1' := CC.out W5 x hI5 hwx
  rw [ref_ok x.e hwx] at X1'
  unfold cmdV at X1'
  have HB5 := Lib.hid hB5
  have HK5 := Lib.hid hb5
  have HX5 := Lib.hid hx5
  have HVV : Hid (V = ((x.e.tm == 0) && (x.e.ok && ((x.e.n == m.fr) && (decide (3 ≤ x.e.k) && decide (x.e.k ≤ 5)))))) := by
    show _ = _
    rw [← HV.out]
    rfl
  have hlt5 : g < W5.heap.size := hb5.lt
  have hlx5 : gx < W5.heap.size := hx5.lt
  clear hat hatk hB5 hb5 hx5 hI5 hN5 HV HWF HN HIN hwx
  cases t0 : (x.e.tm == 0)
  · have HN : Hid (V = false) := by
      show _ = _
      rw [HVV.out, t0, Bool.false_and]
    clear X1'
    go_wp2
    go_ret
    exact ⟨by rw [HN.out]; rfl, HB5.out⟩
  cases ok : x.e.ok
  · have HN : Hid (V = false) := by
      show _ = _
      rw [HVV.out, ok, Bool.false_and, Bool.and_false]
    rw [ok] at X1'
    have e0 : errCmd false = 40 := rfl
    rw [e0] at X1'
    have X1 := Lib.hid X1'
    clear X1' ok e0
    go_wp2_with fail
    refine X1.out.mono ?_
    rintro e w6 ⟨rfl, hB6⟩
    have HB6 := Lib.hid (HB5.out.trans (hB6.mono (by omega)))
    clear hB6 X1 d0 d1 d2 d3 d4 d5 d6 d7 c0 c0' z8 z1
    go_wp2
    go_ret
    exact ⟨by rw [HN.out]; rfl, HB6.out⟩
  rw [ok] at X1'
  have e0 : errCmd true = 0 := rfl
  rw [e0] at X1'
  have X1 := Lib.hid X1'
  have HOK := Lib.hid ok
  have HT0 := Lib.hid t0
  clear X1' ok e0
  go_wp2_with fail
  refine X1.out.mono ?_
  rintro e w6 ⟨rfl, hB6⟩
  have HB6 := Lib.hid (HB5.out.trans (hB6.mono (by omega)))
  have d0 := (HX5.out.below hB6 HX5.out.lt).cmd.1
  have d1 := (HX5.out.below hB6 HX5.out.lt).cmd.2
  have z1 := (HK5.out.below hB6 HK5.out.lt).mg.z1
  have HVW : Hid (V = ((x.e.n == m.fr) && (decide (3 ≤ x.e.k) && decide (x.e.k ≤ 5)))) := by
    show _ = _
    rw [HVV.out, HT0.out, HOK.out, Bool.true_and, Bool.true_and]
  clear HVV X1 hB6 d2 d3 d4 d5 d6 d7 c0 c0' z8
  cases k3 : (x.e.k == 3)
  · have n3 : ¬ x.e.k = 3 := by simpa using k3
    cases k4 : (x.e.k == 4)
    · have n4 : ¬ x.e.k = 4 := by simpa using k4
      cases k5 : (x.e.k == 5)
      · have n5 : ¬ x.e.k = 5 := by simpa using k5
        have HN : Hid (V = false) := by
          show _ = _
          rw [HVW.out, show (decide (3 ≤ x.e.k) && decide (x.e.k ≤ 5)) = false from by simp; omega, Bool.and_false]
        clear n3 n4 n5
        go_wp2
        go_ret
        exact ⟨by rw [HN.out]; rfl, HB6.out⟩
      · have n5 : x.e.k = 5 := by simpa using k5
        have HN : Hid (V = (x.e.n == m.fr)) := by
          show _ = _
          rw [HVW.out, n5]
          exact Bool.and_true _
        clear n3 n4 n5
        go_wp2
        go_ret
        exact ⟨by rw [HN.out]; rfl, HB6.out⟩
    · have n4 : x.e.k = 4 := by simpa using k4
      have HN : Hid (V = (x.e.n == m.fr)) := by
        show _ = _
        rw [HVW.out, n4]
        exact Bool.and_true _
      clear n3 n4
      go_wp2
      go_ret
      exact ⟨by rw [HN.out]; rfl, HB6.out⟩
  · have n3 : x.e.k = 3 := by simpa using k3
    have HN : Hid (V = (x.e.n == m.fr)) := by
      show _ = _
      rw [HVW.out, n3]
      exact Bool.and_true _
    clear n3
    go_wp2
    go_ret
    exact ⟨by rw [HN.out]; rfl, HB6.out⟩

end Go.Proofs.Ytjnkpjhggeibeaa

/- Messages: a Put's one entry, as the code asks. -/
namespace Go.Proofs.Ytjnkpjhggeibeaa
set_option maxRecDepth 100000
open Go.RowKit

set_option maxHeartbeats 8000000 in
theorem msg_put_any (w : World) (m : Mb) (p : Sa) (PA : Option Addr) (PC : Nat) (xs : List Ec) (hin : InE w PA PC xs) (hwf : ∀ x ∈ xs, x.e.Wf) :
    Calls Try.prog 14 #[mgV m p PA xs.length PC] w fun e w' => e = .returned (.bool (putB m (xs.map (·.e)))) ∧ Below w.heap.size w w' := by
  obtain ⟨g, hg⟩ : ∃ g, w.heap.size = g := ⟨_, rfl⟩
  obtain ⟨n, hn⟩ : ∃ n, xs.length = n := ⟨_, rfl⟩
  rw [hn]
  have hb0 : Blk (w.alloc (.cells (mgC m p PA n PC) 32)) g 32 (mgC m p PA n PC) := hg ▸ Blk.new _ _ _
  have hB0 : Below g w (w.alloc (.cells (mgC m p PA n PC) 32)) := (Below.refl _ _).alloc (by omega) _
  have CC := Lib.hid (fun W (x : Ec) (h : InN .i64 W x.A x.c x.e.l) => cmd_Check_any W x.e.k x.e.n x.e.t x.A x.c x.e.l x.e.b x.e.q x.e.s x.e.m h)
  have HIN := Lib.hid hin
  have HWF := Lib.hid hwf
  have hsml := hin.small
  rw [hg]
  have HG := Lib.hid hg
  obtain ⟨V, hV⟩ : ∃ V, putB m (xs.map (·.e)) = V := ⟨_, rfl⟩
  have HV := Lib.hid hV
  rw [hV]
  have HN := Lib.hid hn
  rw [hn] at hsml
  clear hin hwf hV hn
  unfold mgV
  go_enter Try.func14, Try.ntmps14
  go_upto_region 1 with (fail)
  change Code.wp _ _ _ _ (w.alloc (.cells (mgC m p PA n PC) 32))
  generalize (w.alloc (.cells (mgC m p PA n PC) 32)) = W0 at hb0 hB0 ⊢
  try rw [hg]
  by_cases h1 : n ≠ 1
  · have HV2 : Hid (V = false) := by
      show _ = _
      rw [← HV.out]
      exact putB_len _ _ (by rw [List.length_map, HN.out]; exact h1)
    have z8 := hb0.mg.z8
    have e1 : ((n : Int) != 1) = true := by simp; omega
    have HB0 := Lib.hid hB0
    clear hB0 hb0 hg h1
    go_wp2
    go_ret
    exact ⟨by rw [HV2.out]; rfl, HB0.out⟩
  obtain rfl : n = 1 := by omega
  clear h1
  have hinr := HIN.out.keep (HG.out.symm ▸ hB0)
  obtain ⟨x, rfl⟩ := List.length_eq_one_iff.1 HN.out
  obtain ⟨b, off, rfl, hbb, hat⟩ := hinr.rows.ec (by simp)
  have hatk := hat 0 (by simp)
  have hix := hinr.inn x (by simp)
  have hwx := HWF.out x (by simp)
  simp only [List.getElem_cons_zero] at hatk
  obtain ⟨c0, c1, c2, c3, c4, c5, c6, c7, c8⟩ := hatk
  have c0' : W0.cell? { block := b, off := off } = some (Value.int IntKind.u64 x.e.tm) := by rw [← c0]; congr 2
  have z8 := hb0.mg.z8
  have hgw : g < W0.heap.size := hb0.lt
  have X1' := CC.out W0 x hix
  rw [show codeOk x.e.k x.e.n x.e.t x.e.l x.e.b x.e.q x.e.s x.e.m = x.e.ok from rfl] at X1'
  unfold cmdV at X1'
  have HVV : Hid (V = ((x.e.tm == 0) && (x.e.ok && ((x.e.n == m.fr) && (decide (3 ≤ x.e.k) && decide (x.e.k ≤ 5)))))) := by
    show _ = _
    rw [← HV.out]
    rfl
  have HB0 := Lib.hid hB0
  have HK0 := Lib.hid hb0
  have HIR := Lib.hid hinr
  clear hat hB0 hb0 hix hinr HV HWF HN HIN hwx
  cases t0 : (x.e.tm == 0)
  · have HN : Hid (V = false) := by
      show _ = _
      rw [HVV.out, t0, Bool.false_and]
    have t1 : (x.e.tm != 0) = true := by simp [bne, t0]
    clear X1' t0
    go_wp2
    go_ret
    exact ⟨by rw [HN.out]; rfl, HB0.out⟩
  have HT0 := Lib.hid t0
  have t1 : (x.e.tm != 0) = false := by simp [bne, t0]
  clear t0
  cases ok : x.e.ok
  · have HN : Hid (V = false) := by
      show _ = _
      rw [HVV.out, ok, Bool.false_and, Bool.and_false]
    rw [ok] at X1'
    have e0 : errCmd false = 40 := rfl
    rw [e0] at X1'
    have X1 := Lib.hid X1'
    clear X1' ok e0
    go_wp2_with fail
    refine X1.out.mono ?_
    rintro e w6 ⟨rfl, hB6⟩
    have HB6 := Lib.hid (HB0.out.trans (hB6.mono (by omega)))
    clear hB6 X1 c0 c0' c1 c2 c3 c4 c5 c6 c7 c8 z8
    go_wp2
    go_ret
    exact ⟨by rw [HN.out]; rfl, HB6.out⟩
  rw [ok] at X1'
  have e0 : errCmd true = 0 := rfl
  rw [e0] at X1'
  have X1 := Lib.hid X1'
  have HOK := Lib.hid ok
  clear X1' ok e0
  go_wp2_with fail
  refine X1.out.mono ?_
  rintro e w6 ⟨rfl, hB6⟩
  have HB6 := Lib.hid (HB0.out.trans (hB6.mono (by omega)))
  have hb6 := HK0.out.below hB6 HK0.out.lt
  have hin6 := HIR.out.keep hB6
  clear c0 c0' c1 c2 c3 c4 c5 c6 c7 c8 z8 hbb X1 HK0 HIR hB6
  obtain ⟨b2, o2, e2, hbb, hat⟩ := hin6.rows.ec (by simp)
  cases e2
  have hatk := hat 0 (by simp)
  simp only [List.getElem_cons_zero] at hatk
  obtain ⟨c0, c1, c2, c3, c4, c5, c6, c7, c8⟩ := hatk
  have z8 := hb6.mg.z8
  have hg6 : g < w6.heap.size := hb6.lt
  obtain ⟨gx, hgx⟩ : ∃ gx, w6.heap.size = gx := ⟨_, rfl⟩
  have hal : Below w6.heap.size w6 (w6.alloc (.cells (cmdCells x.e.k x.e.n x.e.t (.slice x.A x.e.l.length x.c) x.e.b x.e.q x.e.s x.e.m) 52)) := (Below.refl _ _).alloc (Nat.le_refl _) _
  have hx5 : Blk (w6.alloc (.cells (cmdCells x.e.k x.e.n x.e.t (.slice x.A x.e.l.length x.c) x.e.b x.e.q x.e.s x.e.m) 52)) gx 52 (cmdCells x.e.k x.e.n x.e.t (.slice x.A x.e.l.length x.c) x.e.b x.e.q x.e.s x.e.m) := hgx ▸ Blk.new _ _ _
  have hb5 := hb6.alloc (.cells (cmdCells x.e.k x.e.n x.e.t (.slice x.A x.e.l.length x.c) x.e.b x.e.q x.e.s x.e.m) 52)
  have hB5 := HB6.out.trans (hal.mono (by omega))
  clear hat hal hb6 hin6 HB6
  go_upto_region 4 with (fail)
  change Code.wp _ _ _ _ (w6.alloc (.cells (cmdCells x.e.k x.e.n x.e.t (.slice x.A x.e.l.length x.c) x.e.b x.e.q x.e.s x.e.m) 52))
  generalize (w6.alloc (.cells (cmdCells x.e.k x.e.n x.e.t (.slice x.A x.e.l.length x.c) x.e.b x.e.q x.e.s x.e.m) 52)) = W5 at hx5 hb5 hB5 ⊢
  try rw [hgx]
  have HB5 := Lib.hid hB5
  have d0 := hx5.cmd.c0
  have d1 := hx5.cmd.c1
  have z1 := hb5.mg.z1
  have HVW : Hid (V = ((x.e.n == m.fr) && (decide (3 ≤ x.e.k) && decide (x.e.k ≤ 5)))) := by
    show _ = _
    rw [HVV.out, HT0.out, HOK.out, Bool.true_and, Bool.true_and]
  have hlt5 : g < W5.heap.size := hb5.lt
  have hlx5 : gx < W5.heap.size := hx5.lt
  clear hB5 hx5 hb5 c0 c1 c2 c3 c4 c5 c6 c7 c8 z8 HVV HT0 HOK t1
  cases nf : (x.e.n == m.fr)
  · have HN : Hid (V = false) := by
      show _ = _
      rw [HVW.out, nf, Bool.false_and]
    go_wp2
    go_ret
    exact ⟨by rw [HN.out]; rfl, HB5.out⟩
  cases k3 : decide (3 ≤ x.e.k)
  · have HN : Hid (V = false) := by
      show _ = _
      rw [HVW.out, k3, Bool.false_and, Bool.and_false]
    have k3' : decide (x.e.k ≥ 3) = false := k3
    go_wp2
    go_ret
    exact ⟨by rw [HN.out]; rfl, HB5.out⟩
  · have HN : Hid (V = decide (x.e.k ≤ 5)) := by
      show _ = _
      rw [HVW.out, k3, nf, Bool.true_and, Bool.true_and]
    have k3' : decide (x.e.k ≥ 3) = true := k3
    go_wp2
    go_ret
    exact ⟨by rw [HN.out]; rfl, HB5.out⟩
end Go.Proofs.Ytjnkpjhggeibeaa

/- Messages: the document's Check, by kinds. -/
namespace Go.Proofs.Ytjnkpjhggeibeaa
set_option maxRecDepth 100000
set_option linter.unusedSimpArgs false
open Go.RowKit

theorem fld8_list (k : Int) : (fld8 k).toList.isEmpty = !mK k := by
  rw [Lib.toList_data]
  rcases mkinds k with rfl | rfl | rfl | rfl | rfl | rfl | ⟨h1, h2, h3, h4, h5, h6⟩
  case inr.inr.inr.inr.inr.inr =>
    have e : fld8 k = ⟨#[]⟩ := by simp [fld8, h1, h2, h3, h4, h5, h6]
    rw [e, mK_of h1 h2 h3 h4 h5 h6]
    rfl
  all_goals rfl
set_option maxHeartbeats 8000000 in
theorem r08_Check_0 (w : World) (m : Mb) (p : Sa) (PA : Option Addr) (PC : Nat) (xs : List Ec) (hin : InE w PA PC xs) (hwf : ∀ x ∈ xs, x.e.Wf) (hsh : InSh w m.sh p) (kk : mK m.k = false) (kt : mT m.k = false) (kl : mL m.k = false) (k3 : (m.k == 3) = false) (k5 : (m.k == 5) = false) (k6 : (m.k == 6) = false) :
    Calls Try.prog 6 #[mgV m p PA xs.length PC] w fun e w' => e = .returned (.int .i64 (errMsg (refM m (xs.map (·.e))))) ∧ Below w.heap.size w w' := by
  obtain ⟨g, hg⟩ : ∃ g, w.heap.size = g := ⟨_, rfl⟩
  have hb0 : Blk (w.alloc (.cells (mgC m p PA xs.length PC) 32)) g 32 (mgC m p PA xs.length PC) := hg ▸ Blk.new _ _ _
  have hB0 : Below g w (w.alloc (.cells (mgC m p PA xs.length PC) 32)) := (Below.refl _ _).alloc (by omega) _
  have HSH := Lib.hid (hsh.keep (hg ▸ hB0))
  have HIN := Lib.hid (hin.keep (hg ▸ hB0))
  have HWF := Lib.hid hwf
  have CF := Lib.hid (fun W => r08_fields_any W m.k)
  have CT := Lib.hid (fun W => r08_has_kind W m.k 116 false (by rw [has_t, kt]))
  have CL := Lib.hid (fun W => r08_has_kind W m.k 108 false (by rw [has_l, kl]))
  have hne : (fld8 m.k).toList.isEmpty = true := by
    rw [fld8_list, kk]
    rfl
  obtain ⟨V, hY⟩ : ∃ V, refM m (xs.map (·.e)) = V := ⟨_, rfl⟩
  rw [hY, hg]
  obtain ⟨F, hF⟩ : ∃ F, true = F := ⟨_, rfl⟩
  obtain ⟨Z, hZ⟩ : ∃ Z, zeroM m xs.length = Z := ⟨_, rfl⟩
  have e3 : (m.k = 3) = False := by simpa using k3
  have e5 : (m.k = 5) = False := by simpa using k5
  have e6 : (m.k = 6) = False := by simpa using k6
  have HV : Hid (V = (false && (nodeB m.fr && (nodeB m.o && ((m.fr != m.o) && (Z && ((true || decide (1 ≤ m.tm)) && ((true || (((m.lt == 0) == (m.ix == 0)) && decide (m.lt ≤ m.tm))) && F)))))))) := by
    show _ = _
    rw [← hY, ← hF, ← hZ, refM, kk, kt, kl]
    simp only [e3, e5, e6, List.length_map, if_true, if_false, Bool.and_assoc, Bool.and_true, Bool.not_true, Bool.not_false]
  have hF2 := Lib.hid hF
  clear hY hin hwf hsh kk kt kl e3 e5 e6
  unfold mgV
  go_enter Try.func6, Try.ntmps6
  go_upto_region 1 with (fail)
  change Code.wp _ _ _ _ (w.alloc (.cells (mgC m p PA xs.length PC) 32))
  generalize (w.alloc (.cells (mgC m p PA xs.length PC) 32)) = W0 at hb0 hB0 HSH HIN ⊢
  try rw [hg]
  have HK0 := Lib.hid hb0
  obtain ⟨z0, z1, z2, z3, z4, z5, z6, z7, z8, z9, z10, z11, z12, z13, z14, z15⟩ := hb0.mg
  have hlt : g < W0.heap.size := hb0.lt
  have HB := Lib.hid hB0
  have CZ := r08_zero_any W0 m p PA xs.length PC HSH.out.n
  rw [hZ] at CZ
  unfold mgV at CZ
  have N1 := r08_node_any W0 m.fr
  have N2 := r08_node_any W0 m.o
  clear hB0 hb0 hg hZ hF
  have CZ := Lib.hid CZ
  have N1 := Lib.hid N1
  have N2 := Lib.hid N2
  go_wp2_with fail
  refine (CF.out _).mono ?_
  rintro e w1 ⟨rfl, rfl⟩
  have HN : Hid (V = false) := HV
  go_wp2
  go_ret
  exact ⟨by rw [HN.out]; rfl, HB.out⟩
set_option maxHeartbeats 8000000 in
theorem r08_Check_1 (w : World) (m : Mb) (p : Sa) (PA : Option Addr) (PC : Nat) (xs : List Ec) (hin : InE w PA PC xs) (hwf : ∀ x ∈ xs, x.e.Wf) (hsh : InSh w m.sh p) (kk : mK m.k = true) (kt : mT m.k = true) (kl : mL m.k = true) (k3 : (m.k == 3) = false) (k5 : (m.k == 5) = false) (k6 : (m.k == 6) = false) :
    Calls Try.prog 6 #[mgV m p PA xs.length PC] w fun e w' => e = .returned (.int .i64 (errMsg (refM m (xs.map (·.e))))) ∧ Below w.heap.size w w' := by
  obtain ⟨g, hg⟩ : ∃ g, w.heap.size = g := ⟨_, rfl⟩
  have hb0 : Blk (w.alloc (.cells (mgC m p PA xs.length PC) 32)) g 32 (mgC m p PA xs.length PC) := hg ▸ Blk.new _ _ _
  have hB0 : Below g w (w.alloc (.cells (mgC m p PA xs.length PC) 32)) := (Below.refl _ _).alloc (by omega) _
  have HSH := Lib.hid (hsh.keep (hg ▸ hB0))
  have HIN := Lib.hid (hin.keep (hg ▸ hB0))
  have HWF := Lib.hid hwf
  have CF := Lib.hid (fun W => r08_fields_any W m.k)
  have CT := Lib.hid (fun W => r08_has_kind W m.k 116 true (by rw [has_t, kt]))
  have CL := Lib.hid (fun W => r08_has_kind W m.k 108 true (by rw [has_l, kl]))
  have hne : (fld8 m.k).toList.isEmpty = false := by
    rw [fld8_list, kk]
    rfl
  obtain ⟨V, hY⟩ : ∃ V, refM m (xs.map (·.e)) = V := ⟨_, rfl⟩
  rw [hY, hg]
  obtain ⟨F, hF⟩ : ∃ F, true = F := ⟨_, rfl⟩
  obtain ⟨Z, hZ⟩ : ∃ Z, zeroM m xs.length = Z := ⟨_, rfl⟩
  have e3 : (m.k = 3) = False := by simpa using k3
  have e5 : (m.k = 5) = False := by simpa using k5
  have e6 : (m.k = 6) = False := by simpa using k6
  have HV : Hid (V = (true && (nodeB m.fr && (nodeB m.o && ((m.fr != m.o) && (Z && ((false || decide (1 ≤ m.tm)) && ((false || (((m.lt == 0) == (m.ix == 0)) && decide (m.lt ≤ m.tm))) && F)))))))) := by
    show _ = _
    rw [← hY, ← hF, ← hZ, refM, kk, kt, kl]
    simp only [e3, e5, e6, List.length_map, if_true, if_false, Bool.and_assoc, Bool.and_true, Bool.not_true, Bool.not_false]
  have hF2 := Lib.hid hF
  clear hY hin hwf hsh kk kt kl e3 e5 e6
  unfold mgV
  go_enter Try.func6, Try.ntmps6
  go_upto_region 1 with (fail)
  change Code.wp _ _ _ _ (w.alloc (.cells (mgC m p PA xs.length PC) 32))
  generalize (w.alloc (.cells (mgC m p PA xs.length PC) 32)) = W0 at hb0 hB0 HSH HIN ⊢
  try rw [hg]
  have HK0 := Lib.hid hb0
  obtain ⟨z0, z1, z2, z3, z4, z5, z6, z7, z8, z9, z10, z11, z12, z13, z14, z15⟩ := hb0.mg
  have hlt : g < W0.heap.size := hb0.lt
  have HB := Lib.hid hB0
  have CZ := r08_zero_any W0 m p PA xs.length PC HSH.out.n
  rw [hZ] at CZ
  unfold mgV at CZ
  have N1 := r08_node_any W0 m.fr
  have N2 := r08_node_any W0 m.o
  clear hB0 hb0 hg hZ hF
  have CZ := Lib.hid CZ
  have N1 := Lib.hid N1
  have N2 := Lib.hid N2
  go_wp2_with fail
  refine (CF.out _).mono ?_
  rintro e w1 ⟨rfl, rfl⟩
  go_wp2_with fail
  refine N1.out.mono ?_
  rintro e w1 ⟨rfl, rfl⟩
  cases vf : (nodeB m.fr)
  ·
    have HN : Hid (V = false) := by
      show _ = _
      rw [HV.out, vf]
      simp
    go_wp2
    go_ret
    exact ⟨by rw [HN.out]; rfl, HB.out⟩
  go_wp2_with fail
  refine N2.out.mono ?_
  rintro e w1 ⟨rfl, rfl⟩
  cases vo : (nodeB m.o)
  ·
    have HN : Hid (V = false) := by
      show _ = _
      rw [HV.out, vo]
      simp
    go_wp2
    go_ret
    exact ⟨by rw [HN.out]; rfl, HB.out⟩
  cases vn : (m.fr != m.o)
  ·
    have HN : Hid (V = false) := by
      show _ = _
      rw [HV.out, vn]
      simp
    go_wp2
    go_ret
    exact ⟨by rw [HN.out]; rfl, HB.out⟩
  go_wp2_with fail
  refine CZ.out.mono ?_
  rintro e w1 ⟨rfl, hB1⟩
  have HIN := Lib.hid (HIN.out.keep hB1)
  have HSH := Lib.hid (HSH.out.keep hB1)
  have HB := Lib.hid (HB.out.trans (hB1.mono (by omega)))
  have hb1 := HK0.out.below hB1 HK0.out.lt
  clear z0 z1 z2 z3 z4 z5 z6 z7 z8 z9 z10 z11 z12 z13 z14 z15 hB1 hlt
  obtain ⟨z0, z1, z2, z3, z4, z5, z6, z7, z8, z9, z10, z11, z12, z13, z14, z15⟩ := hb1.mg
  have hlt : g < w1.heap.size := hb1.lt
  have HK1 := Lib.hid hb1
  clear hb1 HK0
  cases Z
  ·
    have HN : Hid (V = false) := by
      show _ = _
      rw [HV.out]
      simp
    go_wp2
    go_ret
    exact ⟨by rw [HN.out]; rfl, HB.out⟩
  go_wp2_with fail
  refine (CT.out _).mono ?_
  rintro e w2 ⟨rfl, rfl⟩
  cases vt : (decide (1 ≤ m.tm))
  ·
    have HN : Hid (V = false) := by
      show _ = _
      rw [HV.out, vt]
      simp
    have vt2 : decide (m.tm ≥ 1) = false := vt
    go_wp2
    go_ret
    exact ⟨by rw [HN.out]; rfl, HB.out⟩
  have vt2 : decide (m.tm ≥ 1) = true := vt
  go_wp2_with fail
  refine (CL.out _).mono ?_
  rintro e w2 ⟨rfl, rfl⟩
  cases vl : ((m.lt == 0) == (m.ix == 0))
  ·
    have HN : Hid (V = false) := by
      show _ = _
      rw [HV.out, vl]
      simp
    go_wp2
    go_ret
    exact ⟨by rw [HN.out]; rfl, HB.out⟩
  cases vm : (decide (m.lt ≤ m.tm))
  ·
    have HN : Hid (V = false) := by
      show _ = _
      rw [HV.out, vm]
      simp
    go_wp2
    go_ret
    exact ⟨by rw [HN.out]; rfl, HB.out⟩
  have HN : Hid (V = true) := by
    show _ = _
    rw [HV.out, vf, vo, vn, vt, vl, vm, ← hF2.out]
    simp
  go_wp2
  go_ret
  exact ⟨by rw [HN.out]; rfl, HB.out⟩
set_option maxHeartbeats 8000000 in
theorem r08_Check_2 (w : World) (m : Mb) (p : Sa) (PA : Option Addr) (PC : Nat) (xs : List Ec) (hin : InE w PA PC xs) (hwf : ∀ x ∈ xs, x.e.Wf) (hsh : InSh w m.sh p) (kk : mK m.k = true) (kt : mT m.k = true) (kl : mL m.k = false) (k3 : (m.k == 3) = false) (k5 : (m.k == 5) = false) (k6 : (m.k == 6) = false) :
    Calls Try.prog 6 #[mgV m p PA xs.length PC] w fun e w' => e = .returned (.int .i64 (errMsg (refM m (xs.map (·.e))))) ∧ Below w.heap.size w w' := by
  obtain ⟨g, hg⟩ : ∃ g, w.heap.size = g := ⟨_, rfl⟩
  have hb0 : Blk (w.alloc (.cells (mgC m p PA xs.length PC) 32)) g 32 (mgC m p PA xs.length PC) := hg ▸ Blk.new _ _ _
  have hB0 : Below g w (w.alloc (.cells (mgC m p PA xs.length PC) 32)) := (Below.refl _ _).alloc (by omega) _
  have HSH := Lib.hid (hsh.keep (hg ▸ hB0))
  have HIN := Lib.hid (hin.keep (hg ▸ hB0))
  have HWF := Lib.hid hwf
  have CF := Lib.hid (fun W => r08_fields_any W m.k)
  have CT := Lib.hid (fun W => r08_has_kind W m.k 116 true (by rw [has_t, kt]))
  have CL := Lib.hid (fun W => r08_has_kind W m.k 108 false (by rw [has_l, kl]))
  have hne : (fld8 m.k).toList.isEmpty = false := by
    rw [fld8_list, kk]
    rfl
  obtain ⟨V, hY⟩ : ∃ V, refM m (xs.map (·.e)) = V := ⟨_, rfl⟩
  rw [hY, hg]
  obtain ⟨F, hF⟩ : ∃ F, true = F := ⟨_, rfl⟩
  obtain ⟨Z, hZ⟩ : ∃ Z, zeroM m xs.length = Z := ⟨_, rfl⟩
  have e3 : (m.k = 3) = False := by simpa using k3
  have e5 : (m.k = 5) = False := by simpa using k5
  have e6 : (m.k = 6) = False := by simpa using k6
  have HV : Hid (V = (true && (nodeB m.fr && (nodeB m.o && ((m.fr != m.o) && (Z && ((false || decide (1 ≤ m.tm)) && ((true || (((m.lt == 0) == (m.ix == 0)) && decide (m.lt ≤ m.tm))) && F)))))))) := by
    show _ = _
    rw [← hY, ← hF, ← hZ, refM, kk, kt, kl]
    simp only [e3, e5, e6, List.length_map, if_true, if_false, Bool.and_assoc, Bool.and_true, Bool.not_true, Bool.not_false]
  have hF2 := Lib.hid hF
  clear hY hin hwf hsh kk kt kl e3 e5 e6
  unfold mgV
  go_enter Try.func6, Try.ntmps6
  go_upto_region 1 with (fail)
  change Code.wp _ _ _ _ (w.alloc (.cells (mgC m p PA xs.length PC) 32))
  generalize (w.alloc (.cells (mgC m p PA xs.length PC) 32)) = W0 at hb0 hB0 HSH HIN ⊢
  try rw [hg]
  have HK0 := Lib.hid hb0
  obtain ⟨z0, z1, z2, z3, z4, z5, z6, z7, z8, z9, z10, z11, z12, z13, z14, z15⟩ := hb0.mg
  have hlt : g < W0.heap.size := hb0.lt
  have HB := Lib.hid hB0
  have CZ := r08_zero_any W0 m p PA xs.length PC HSH.out.n
  rw [hZ] at CZ
  unfold mgV at CZ
  have N1 := r08_node_any W0 m.fr
  have N2 := r08_node_any W0 m.o
  clear hB0 hb0 hg hZ hF
  have CZ := Lib.hid CZ
  have N1 := Lib.hid N1
  have N2 := Lib.hid N2
  go_wp2_with fail
  refine (CF.out _).mono ?_
  rintro e w1 ⟨rfl, rfl⟩
  go_wp2_with fail
  refine N1.out.mono ?_
  rintro e w1 ⟨rfl, rfl⟩
  cases vf : (nodeB m.fr)
  ·
    have HN : Hid (V = false) := by
      show _ = _
      rw [HV.out, vf]
      simp
    go_wp2
    go_ret
    exact ⟨by rw [HN.out]; rfl, HB.out⟩
  go_wp2_with fail
  refine N2.out.mono ?_
  rintro e w1 ⟨rfl, rfl⟩
  cases vo : (nodeB m.o)
  ·
    have HN : Hid (V = false) := by
      show _ = _
      rw [HV.out, vo]
      simp
    go_wp2
    go_ret
    exact ⟨by rw [HN.out]; rfl, HB.out⟩
  cases vn : (m.fr != m.o)
  ·
    have HN : Hid (V = false) := by
      show _ = _
      rw [HV.out, vn]
      simp
    go_wp2
    go_ret
    exact ⟨by rw [HN.out]; rfl, HB.out⟩
  go_wp2_with fail
  refine CZ.out.mono ?_
  rintro e w1 ⟨rfl, hB1⟩
  have HIN := Lib.hid (HIN.out.keep hB1)
  have HSH := Lib.hid (HSH.out.keep hB1)
  have HB := Lib.hid (HB.out.trans (hB1.mono (by omega)))
  have hb1 := HK0.out.below hB1 HK0.out.lt
  clear z0 z1 z2 z3 z4 z5 z6 z7 z8 z9 z10 z11 z12 z13 z14 z15 hB1 hlt
  obtain ⟨z0, z1, z2, z3, z4, z5, z6, z7, z8, z9, z10, z11, z12, z13, z14, z15⟩ := hb1.mg
  have hlt : g < w1.heap.size := hb1.lt
  have HK1 := Lib.hid hb1
  clear hb1 HK0
  cases Z
  ·
    have HN : Hid (V = false) := by
      show _ = _
      rw [HV.out]
      simp
    go_wp2
    go_ret
    exact ⟨by rw [HN.out]; rfl, HB.out⟩
  go_wp2_with fail
  refine (CT.out _).mono ?_
  rintro e w2 ⟨rfl, rfl⟩
  cases vt : (decide (1 ≤ m.tm))
  ·
    have HN : Hid (V = false) := by
      show _ = _
      rw [HV.out, vt]
      simp
    have vt2 : decide (m.tm ≥ 1) = false := vt
    go_wp2
    go_ret
    exact ⟨by rw [HN.out]; rfl, HB.out⟩
  have vt2 : decide (m.tm ≥ 1) = true := vt
  go_wp2_with fail
  refine (CL.out _).mono ?_
  rintro e w2 ⟨rfl, rfl⟩
  have HN : Hid (V = true) := by
    show _ = _
    rw [HV.out, vf, vo, vn, vt, ← hF2.out]
    simp
  go_wp2
  go_ret
  exact ⟨by rw [HN.out]; rfl, HB.out⟩
set_option maxHeartbeats 8000000 in
theorem r08_Check_3 (w : World) (m : Mb) (p : Sa) (PA : Option Addr) (PC : Nat) (xs : List Ec) (hin : InE w PA PC xs) (hwf : ∀ x ∈ xs, x.e.Wf) (hsh : InSh w m.sh p) (kk : mK m.k = true) (kt : mT m.k = true) (kl : mL m.k = true) (k3 : (m.k == 3) = true) (k5 : (m.k == 5) = false) (k6 : (m.k == 6) = false) :
    Calls Try.prog 6 #[mgV m p PA xs.length PC] w fun e w' => e = .returned (.int .i64 (errMsg (refM m (xs.map (·.e))))) ∧ Below w.heap.size w w' := by
  obtain ⟨g, hg⟩ : ∃ g, w.heap.size = g := ⟨_, rfl⟩
  have hb0 : Blk (w.alloc (.cells (mgC m p PA xs.length PC) 32)) g 32 (mgC m p PA xs.length PC) := hg ▸ Blk.new _ _ _
  have hB0 : Below g w (w.alloc (.cells (mgC m p PA xs.length PC) 32)) := (Below.refl _ _).alloc (by omega) _
  have HSH := Lib.hid (hsh.keep (hg ▸ hB0))
  have HIN := Lib.hid (hin.keep (hg ▸ hB0))
  have HWF := Lib.hid hwf
  have CF := Lib.hid (fun W => r08_fields_any W m.k)
  have CT := Lib.hid (fun W => r08_has_kind W m.k 116 true (by rw [has_t, kt]))
  have CL := Lib.hid (fun W => r08_has_kind W m.k 108 true (by rw [has_l, kl]))
  have hne : (fld8 m.k).toList.isEmpty = false := by
    rw [fld8_list, kk]
    rfl
  obtain ⟨V, hY⟩ : ∃ V, refM m (xs.map (·.e)) = V := ⟨_, rfl⟩
  rw [hY, hg]
  obtain ⟨F, hF⟩ : ∃ F, fedB m (xs.map (·.e)) = F := ⟨_, rfl⟩
  obtain ⟨Z, hZ⟩ : ∃ Z, zeroM m xs.length = Z := ⟨_, rfl⟩
  have e3 : (m.k = 3) = True := by simpa using k3
  have e5 : (m.k = 5) = False := by simpa using k5
  have e6 : (m.k = 6) = False := by simpa using k6
  have HV : Hid (V = (true && (nodeB m.fr && (nodeB m.o && ((m.fr != m.o) && (Z && ((false || decide (1 ≤ m.tm)) && ((false || (((m.lt == 0) == (m.ix == 0)) && decide (m.lt ≤ m.tm))) && F)))))))) := by
    show _ = _
    rw [← hY, ← hF, ← hZ, refM, kk, kt, kl]
    simp only [e3, e5, e6, List.length_map, if_true, if_false, Bool.and_assoc, Bool.and_true, Bool.not_true, Bool.not_false]
  have hF2 := Lib.hid hF
  clear hY hin hwf hsh kk kt kl e3 e5 e6
  unfold mgV
  go_enter Try.func6, Try.ntmps6
  go_upto_region 1 with (fail)
  change Code.wp _ _ _ _ (w.alloc (.cells (mgC m p PA xs.length PC) 32))
  generalize (w.alloc (.cells (mgC m p PA xs.length PC) 32)) = W0 at hb0 hB0 HSH HIN ⊢
  try rw [hg]
  have HK0 := Lib.hid hb0
  obtain ⟨z0, z1, z2, z3, z4, z5, z6, z7, z8, z9, z10, z11, z12, z13, z14, z15⟩ := hb0.mg
  have hlt : g < W0.heap.size := hb0.lt
  have HB := Lib.hid hB0
  have CZ := r08_zero_any W0 m p PA xs.length PC HSH.out.n
  rw [hZ] at CZ
  unfold mgV at CZ
  have N1 := r08_node_any W0 m.fr
  have N2 := r08_node_any W0 m.o
  clear hB0 hb0 hg hZ hF
  have CZ := Lib.hid CZ
  have N1 := Lib.hid N1
  have N2 := Lib.hid N2
  go_wp2_with fail
  refine (CF.out _).mono ?_
  rintro e w1 ⟨rfl, rfl⟩
  go_wp2_with fail
  refine N1.out.mono ?_
  rintro e w1 ⟨rfl, rfl⟩
  cases vf : (nodeB m.fr)
  ·
    have HN : Hid (V = false) := by
      show _ = _
      rw [HV.out, vf]
      simp
    go_wp2
    go_ret
    exact ⟨by rw [HN.out]; rfl, HB.out⟩
  go_wp2_with fail
  refine N2.out.mono ?_
  rintro e w1 ⟨rfl, rfl⟩
  cases vo : (nodeB m.o)
  ·
    have HN : Hid (V = false) := by
      show _ = _
      rw [HV.out, vo]
      simp
    go_wp2
    go_ret
    exact ⟨by rw [HN.out]; rfl, HB.out⟩
  cases vn : (m.fr != m.o)
  ·
    have HN : Hid (V = false) := by
      show _ = _
      rw [HV.out, vn]
      simp
    go_wp2
    go_ret
    exact ⟨by rw [HN.out]; rfl, HB.out⟩
  go_wp2_with fail
  refine CZ.out.mono ?_
  rintro e w1 ⟨rfl, hB1⟩
  have HIN := Lib.hid (HIN.out.keep hB1)
  have HSH := Lib.hid (HSH.out.keep hB1)
  have HB := Lib.hid (HB.out.trans (hB1.mono (by omega)))
  have hb1 := HK0.out.below hB1 HK0.out.lt
  clear z0 z1 z2 z3 z4 z5 z6 z7 z8 z9 z10 z11 z12 z13 z14 z15 hB1 hlt
  obtain ⟨z0, z1, z2, z3, z4, z5, z6, z7, z8, z9, z10, z11, z12, z13, z14, z15⟩ := hb1.mg
  have hlt : g < w1.heap.size := hb1.lt
  have HK1 := Lib.hid hb1
  clear hb1 HK0
  cases Z
  ·
    have HN : Hid (V = false) := by
      show _ = _
      rw [HV.out]
      simp
    go_wp2
    go_ret
    exact ⟨by rw [HN.out]; rfl, HB.out⟩
  go_wp2_with fail
  refine (CT.out _).mono ?_
  rintro e w2 ⟨rfl, rfl⟩
  cases vt : (decide (1 ≤ m.tm))
  ·
    have HN : Hid (V = false) := by
      show _ = _
      rw [HV.out, vt]
      simp
    have vt2 : decide (m.tm ≥ 1) = false := vt
    go_wp2
    go_ret
    exact ⟨by rw [HN.out]; rfl, HB.out⟩
  have vt2 : decide (m.tm ≥ 1) = true := vt
  go_wp2_with fail
  refine (CL.out _).mono ?_
  rintro e w2 ⟨rfl, rfl⟩
  cases vl : ((m.lt == 0) == (m.ix == 0))
  ·
    have HN : Hid (V = false) := by
      show _ = _
      rw [HV.out, vl]
      simp
    go_wp2
    go_ret
    exact ⟨by rw [HN.out]; rfl, HB.out⟩
  cases vm : (decide (m.lt ≤ m.tm))
  ·
    have HN : Hid (V = false) := by
      show _ = _
      rw [HV.out, vm]
      simp
    go_wp2
    go_ret
    exact ⟨by rw [HN.out]; rfl, HB.out⟩
  have CE := r08_entries_any _ m p PA PC xs HIN.out HWF.out
  rw [hF2.out] at CE
  unfold mgV at CE
  have CE := Lib.hid CE
  have HN : Hid (V = F) := by
    show _ = _
    rw [HV.out, vf, vo, vn, vt, vl, vm]
    simp
  cases F
  all_goals
    go_wp2_with fail
    refine CE.out.mono ?_
    rintro e w2 ⟨rfl, hB2⟩
    have HB := Lib.hid (HB.out.trans (hB2.mono (by omega)))
    clear hB2 z0 z1 z2 z3 z4 z5 z6 z7 z8 z9 z10 z11 z12 z13 z14 z15
    go_wp2
    go_ret
    exact ⟨by rw [HN.out]; rfl, HB.out⟩
set_option maxHeartbeats 8000000 in
theorem r08_Check_4 (w : World) (m : Mb) (p : Sa) (PA : Option Addr) (PC : Nat) (xs : List Ec) (hin : InE w PA PC xs) (hwf : ∀ x ∈ xs, x.e.Wf) (hsh : InSh w m.sh p) (kk : mK m.k = true) (kt : mT m.k = true) (kl : mL m.k = false) (k3 : (m.k == 3) = false) (k5 : (m.k == 5) = false) (k6 : (m.k == 6) = false) :
    Calls Try.prog 6 #[mgV m p PA xs.length PC] w fun e w' => e = .returned (.int .i64 (errMsg (refM m (xs.map (·.e))))) ∧ Below w.heap.size w w' := by
  obtain ⟨g, hg⟩ : ∃ g, w.heap.size = g := ⟨_, rfl⟩
  have hb0 : Blk (w.alloc (.cells (mgC m p PA xs.length PC) 32)) g 32 (mgC m p PA xs.length PC) := hg ▸ Blk.new _ _ _
  have hB0 : Below g w (w.alloc (.cells (mgC m p PA xs.length PC) 32)) := (Below.refl _ _).alloc (by omega) _
  have HSH := Lib.hid (hsh.keep (hg ▸ hB0))
  have HIN := Lib.hid (hin.keep (hg ▸ hB0))
  have HWF := Lib.hid hwf
  have CF := Lib.hid (fun W => r08_fields_any W m.k)
  have CT := Lib.hid (fun W => r08_has_kind W m.k 116 true (by rw [has_t, kt]))
  have CL := Lib.hid (fun W => r08_has_kind W m.k 108 false (by rw [has_l, kl]))
  have hne : (fld8 m.k).toList.isEmpty = false := by
    rw [fld8_list, kk]
    rfl
  obtain ⟨V, hY⟩ : ∃ V, refM m (xs.map (·.e)) = V := ⟨_, rfl⟩
  rw [hY, hg]
  obtain ⟨F, hF⟩ : ∃ F, true = F := ⟨_, rfl⟩
  obtain ⟨Z, hZ⟩ : ∃ Z, zeroM m xs.length = Z := ⟨_, rfl⟩
  have e3 : (m.k = 3) = False := by simpa using k3
  have e5 : (m.k = 5) = False := by simpa using k5
  have e6 : (m.k = 6) = False := by simpa using k6
  have HV : Hid (V = (true && (nodeB m.fr && (nodeB m.o && ((m.fr != m.o) && (Z && ((false || decide (1 ≤ m.tm)) && ((true || (((m.lt == 0) == (m.ix == 0)) && decide (m.lt ≤ m.tm))) && F)))))))) := by
    show _ = _
    rw [← hY, ← hF, ← hZ, refM, kk, kt, kl]
    simp only [e3, e5, e6, List.length_map, if_true, if_false, Bool.and_assoc, Bool.and_true, Bool.not_true, Bool.not_false]
  have hF2 := Lib.hid hF
  clear hY hin hwf hsh kk kt kl e3 e5 e6
  unfold mgV
  go_enter Try.func6, Try.ntmps6
  go_upto_region 1 with (fail)
  change Code.wp _ _ _ _ (w.alloc (.cells (mgC m p PA xs.length PC) 32))
  generalize (w.alloc (.cells (mgC m p PA xs.length PC) 32)) = W0 at hb0 hB0 HSH HIN ⊢
  try rw [hg]
  have HK0 := Lib.hid hb0
  obtain ⟨z0, z1, z2, z3, z4, z5, z6, z7, z8, z9, z10, z11, z12, z13, z14, z15⟩ := hb0.mg
  have hlt : g < W0.heap.size := hb0.lt
  have HB := Lib.hid hB0
  have CZ := r08_zero_any W0 m p PA xs.length PC HSH.out.n
  rw [hZ] at CZ
  unfold mgV at CZ
  have N1 := r08_node_any W0 m.fr
  have N2 := r08_node_any W0 m.o
  clear hB0 hb0 hg hZ hF
  have CZ := Lib.hid CZ
  have N1 := Lib.hid N1
  have N2 := Lib.hid N2
  go_wp2_with fail
  refine (CF.out _).mono ?_
  rintro e w1 ⟨rfl, rfl⟩
  go_wp2_with fail
  refine N1.out.mono ?_
  rintro e w1 ⟨rfl, rfl⟩
  cases vf : (nodeB m.fr)
  ·
    have HN : Hid (V = false) := by
      show _ = _
      rw [HV.out, vf]
      simp
    go_wp2
    go_ret
    exact ⟨by rw [HN.out]; rfl, HB.out⟩
  go_wp2_with fail
  refine N2.out.mono ?_
  rintro e w1 ⟨rfl, rfl⟩
  cases vo : (nodeB m.o)
  ·
    have HN : Hid (V = false) := by
      show _ = _
      rw [HV.out, vo]
      simp
    go_wp2
    go_ret
    exact ⟨by rw [HN.out]; rfl, HB.out⟩
  cases vn : (m.fr != m.o)
  ·
    have HN : Hid (V = false) := by
      show _ = _
      rw [HV.out, vn]
      simp
    go_wp2
    go_ret
    exact ⟨by rw [HN.out]; rfl, HB.out⟩
  go_wp2_with fail
  refine CZ.out.mono ?_
  rintro e w1 ⟨rfl, hB1⟩
  have HIN := Lib.hid (HIN.out.keep hB1)
  have HSH := Lib.hid (HSH.out.keep hB1)
  have HB := Lib.hid (HB.out.trans (hB1.mono (by omega)))
  have hb1 := HK0.out.below hB1 HK0.out.lt
  clear z0 z1 z2 z3 z4 z5 z6 z7 z8 z9 z10 z11 z12 z13 z14 z15 hB1 hlt
  obtain ⟨z0, z1, z2, z3, z4, z5, z6, z7, z8, z9, z10, z11, z12, z13, z14, z15⟩ := hb1.mg
  have hlt : g < w1.heap.size := hb1.lt
  have HK1 := Lib.hid hb1
  clear hb1 HK0
  cases Z
  ·
    have HN : Hid (V = false) := by
      show _ = _
      rw [HV.out]
      simp
    go_wp2
    go_ret
    exact ⟨by rw [HN.out]; rfl, HB.out⟩
  go_wp2_with fail
  refine (CT.out _).mono ?_
  rintro e w2 ⟨rfl, rfl⟩
  cases vt : (decide (1 ≤ m.tm))
  ·
    have HN : Hid (V = false) := by
      show _ = _
      rw [HV.out, vt]
      simp
    have vt2 : decide (m.tm ≥ 1) = false := vt
    go_wp2
    go_ret
    exact ⟨by rw [HN.out]; rfl, HB.out⟩
  have vt2 : decide (m.tm ≥ 1) = true := vt
  go_wp2_with fail
  refine (CL.out _).mono ?_
  rintro e w2 ⟨rfl, rfl⟩
  have HN : Hid (V = true) := by
    show _ = _
    rw [HV.out, vf, vo, vn, vt, ← hF2.out]
    simp
  go_wp2
  go_ret
  exact ⟨by rw [HN.out]; rfl, HB.out⟩
set_option maxHeartbeats 8000000 in
theorem r08_Check_5 (w : World) (m : Mb) (p : Sa) (PA : Option Addr) (PC : Nat) (xs : List Ec) (hin : InE w PA PC xs) (hwf : ∀ x ∈ xs, x.e.Wf) (hsh : InSh w m.sh p) (kk : mK m.k = true) (kt : mT m.k = true) (kl : mL m.k = false) (k3 : (m.k == 3) = false) (k5 : (m.k == 5) = true) (k6 : (m.k == 6) = false) :
    Calls Try.prog 6 #[mgV m p PA xs.length PC] w fun e w' => e = .returned (.int .i64 (errMsg (refM m (xs.map (·.e))))) ∧ Below w.heap.size w w' := by
  obtain ⟨g, hg⟩ : ∃ g, w.heap.size = g := ⟨_, rfl⟩
  have hb0 : Blk (w.alloc (.cells (mgC m p PA xs.length PC) 32)) g 32 (mgC m p PA xs.length PC) := hg ▸ Blk.new _ _ _
  have hB0 : Below g w (w.alloc (.cells (mgC m p PA xs.length PC) 32)) := (Below.refl _ _).alloc (by omega) _
  have HSH := Lib.hid (hsh.keep (hg ▸ hB0))
  have HIN := Lib.hid (hin.keep (hg ▸ hB0))
  have HWF := Lib.hid hwf
  have CF := Lib.hid (fun W => r08_fields_any W m.k)
  have CT := Lib.hid (fun W => r08_has_kind W m.k 116 true (by rw [has_t, kt]))
  have CL := Lib.hid (fun W => r08_has_kind W m.k 108 false (by rw [has_l, kl]))
  have hne : (fld8 m.k).toList.isEmpty = false := by
    rw [fld8_list, kk]
    rfl
  obtain ⟨V, hY⟩ : ∃ V, refM m (xs.map (·.e)) = V := ⟨_, rfl⟩
  rw [hY, hg]
  obtain ⟨F, hF⟩ : ∃ F, shB m = F := ⟨_, rfl⟩
  obtain ⟨Z, hZ⟩ : ∃ Z, zeroM m xs.length = Z := ⟨_, rfl⟩
  have e3 : (m.k = 3) = False := by simpa using k3
  have e5 : (m.k = 5) = True := by simpa using k5
  have e6 : (m.k = 6) = False := by simpa using k6
  have HV : Hid (V = (true && (nodeB m.fr && (nodeB m.o && ((m.fr != m.o) && (Z && ((false || decide (1 ≤ m.tm)) && ((true || (((m.lt == 0) == (m.ix == 0)) && decide (m.lt ≤ m.tm))) && F)))))))) := by
    show _ = _
    rw [← hY, ← hF, ← hZ, refM, kk, kt, kl]
    simp only [e3, e5, e6, List.length_map, if_true, if_false, Bool.and_assoc, Bool.and_true, Bool.not_true, Bool.not_false]
  have hF2 := Lib.hid hF
  clear hY hin hwf hsh kk kt kl e3 e5 e6
  unfold mgV
  go_enter Try.func6, Try.ntmps6
  go_upto_region 1 with (fail)
  change Code.wp _ _ _ _ (w.alloc (.cells (mgC m p PA xs.length PC) 32))
  generalize (w.alloc (.cells (mgC m p PA xs.length PC) 32)) = W0 at hb0 hB0 HSH HIN ⊢
  try rw [hg]
  have HK0 := Lib.hid hb0
  obtain ⟨z0, z1, z2, z3, z4, z5, z6, z7, z8, z9, z10, z11, z12, z13, z14, z15⟩ := hb0.mg
  have hlt : g < W0.heap.size := hb0.lt
  have HB := Lib.hid hB0
  have CZ := r08_zero_any W0 m p PA xs.length PC HSH.out.n
  rw [hZ] at CZ
  unfold mgV at CZ
  have N1 := r08_node_any W0 m.fr
  have N2 := r08_node_any W0 m.o
  clear hB0 hb0 hg hZ hF
  have CZ := Lib.hid CZ
  have N1 := Lib.hid N1
  have N2 := Lib.hid N2
  go_wp2_with fail
  refine (CF.out _).mono ?_
  rintro e w1 ⟨rfl, rfl⟩
  go_wp2_with fail
  refine N1.out.mono ?_
  rintro e w1 ⟨rfl, rfl⟩
  cases vf : (nodeB m.fr)
  ·
    have HN : Hid (V = false) := by
      show _ = _
      rw [HV.out, vf]
      simp
    go_wp2
    go_ret
    exact ⟨by rw [HN.out]; rfl, HB.out⟩
  go_wp2_with fail
  refine N2.out.mono ?_
  rintro e w1 ⟨rfl, rfl⟩
  cases vo : (nodeB m.o)
  ·
    have HN : Hid (V = false) := by
      show _ = _
      rw [HV.out, vo]
      simp
    go_wp2
    go_ret
    exact ⟨by rw [HN.out]; rfl, HB.out⟩
  cases vn : (m.fr != m.o)
  ·
    have HN : Hid (V = false) := by
      show _ = _
      rw [HV.out, vn]
      simp
    go_wp2
    go_ret
    exact ⟨by rw [HN.out]; rfl, HB.out⟩
  go_wp2_with fail
  refine CZ.out.mono ?_
  rintro e w1 ⟨rfl, hB1⟩
  have HIN := Lib.hid (HIN.out.keep hB1)
  have HSH := Lib.hid (HSH.out.keep hB1)
  have HB := Lib.hid (HB.out.trans (hB1.mono (by omega)))
  have hb1 := HK0.out.below hB1 HK0.out.lt
  clear z0 z1 z2 z3 z4 z5 z6 z7 z8 z9 z10 z11 z12 z13 z14 z15 hB1 hlt
  obtain ⟨z0, z1, z2, z3, z4, z5, z6, z7, z8, z9, z10, z11, z12, z13, z14, z15⟩ := hb1.mg
  have hlt : g < w1.heap.size := hb1.lt
  have HK1 := Lib.hid hb1
  clear hb1 HK0
  cases Z
  ·
    have HN : Hid (V = false) := by
      show _ = _
      rw [HV.out]
      simp
    go_wp2
    go_ret
    exact ⟨by rw [HN.out]; rfl, HB.out⟩
  go_wp2_with fail
  refine (CT.out _).mono ?_
  rintro e w2 ⟨rfl, rfl⟩
  cases vt : (decide (1 ≤ m.tm))
  ·
    have HN : Hid (V = false) := by
      show _ = _
      rw [HV.out, vt]
      simp
    have vt2 : decide (m.tm ≥ 1) = false := vt
    go_wp2
    go_ret
    exact ⟨by rw [HN.out]; rfl, HB.out⟩
  have vt2 : decide (m.tm ≥ 1) = true := vt
  go_wp2_with fail
  refine (CL.out _).mono ?_
  rintro e w2 ⟨rfl, rfl⟩
  have CE := r06_Check_any _ m.sh.i m.sh.t p.A0 p.c0 m.sh.ns m.sh.lim m.sh.nxt p.A1 p.c1 m.sh.hs p.A2 p.c2 m.sh.ls HSH.out.n HSH.out.h HSH.out.l
  unfold shV at CE
  obtain ⟨D, hD⟩ : ∃ D, decide (ShotOk m.sh.i m.sh.t m.sh.ns m.sh.lim m.sh.nxt m.sh.hs m.sh.ls) = D := ⟨_, rfl⟩
  rw [hD] at CE
  have HN0 : Hid (V = (D && (decide (m.sh.i ≥ 1) && decide (m.sh.t ≤ m.tm)))) := by
    show _ = _
    rw [HV.out, vf, vo, vn, vt, ← hF2.out, ← hD]
    have e9 : decide (0 < m.sh.i) = decide (m.sh.i ≥ 1) := decide_eq_decide.2 (by omega)
    simp only [shB, e9, Sh.Ok, Bool.true_and, Bool.or_true, Bool.or_false, Bool.true_or]
    congr
  have CE := Lib.hid CE
  clear hD
  cases D
  · have HN : Hid (V = false) := by
      show _ = _
      rw [HN0.out]
      simp
    have hq : errShot false = 60 := rfl
    rw [hq] at CE
    go_wp2_with fail
    refine CE.out.mono ?_
    rintro e w2 ⟨rfl, hB2⟩
    have HB := Lib.hid (HB.out.trans (hB2.mono (by omega)))
    clear hB2 z0 z1 z2 z3 z4 z5 z6 z7 z8 z9 z10 z11 z12 z13 z14 z15
    go_wp2
    go_ret
    exact ⟨by rw [HN.out]; rfl, HB.out⟩
  have hq : errShot true = 0 := rfl
  rw [hq] at CE
  go_wp2_with fail
  refine CE.out.mono ?_
  rintro e w2 ⟨rfl, hB2⟩
  have HB := Lib.hid (HB.out.trans (hB2.mono (by omega)))
  have hb2 := HK1.out.below hB2 HK1.out.lt
  clear hB2 z0 z1 z2 z3 z4 z5 z6 z7 z8 z9 z10 z11 z12 z13 z14 z15 hlt
  obtain ⟨z0, z1, z2, z3, z4, z5, z6, z7, z8, z9, z10, z11, z12, z13, z14, z15⟩ := hb2.mg
  have hlt : g < w2.heap.size := hb2.lt
  clear hb2 HK1
  cases vi : decide (m.sh.i ≥ 1)
  · have HN : Hid (V = false) := by
      show _ = _
      rw [HN0.out, vi]
      simp
    go_wp2
    go_ret
    exact ⟨by rw [HN.out]; rfl, HB.out⟩
  have HN : Hid (V = decide (m.sh.t ≤ m.tm)) := by
    show _ = _
    rw [HN0.out, vi]
    simp
  cases vj : decide (m.sh.t ≤ m.tm)
  · have HN2 : Hid (V = false) := by
      show _ = _
      rw [HN.out, vj]
    go_wp2
    go_ret
    exact ⟨by rw [HN2.out]; rfl, HB.out⟩
  · have HN2 : Hid (V = true) := by
      show _ = _
      rw [HN.out, vj]
    go_wp2
    go_ret
    exact ⟨by rw [HN2.out]; rfl, HB.out⟩
set_option maxHeartbeats 8000000 in
theorem r08_Check_6 (w : World) (m : Mb) (p : Sa) (PA : Option Addr) (PC : Nat) (xs : List Ec) (hin : InE w PA PC xs) (hwf : ∀ x ∈ xs, x.e.Wf) (hsh : InSh w m.sh p) (kk : mK m.k = true) (kt : mT m.k = false) (kl : mL m.k = false) (k3 : (m.k == 3) = false) (k5 : (m.k == 5) = false) (k6 : (m.k == 6) = true) :
    Calls Try.prog 6 #[mgV m p PA xs.length PC] w fun e w' => e = .returned (.int .i64 (errMsg (refM m (xs.map (·.e))))) ∧ Below w.heap.size w w' := by
  obtain ⟨g, hg⟩ : ∃ g, w.heap.size = g := ⟨_, rfl⟩
  have hb0 : Blk (w.alloc (.cells (mgC m p PA xs.length PC) 32)) g 32 (mgC m p PA xs.length PC) := hg ▸ Blk.new _ _ _
  have hB0 : Below g w (w.alloc (.cells (mgC m p PA xs.length PC) 32)) := (Below.refl _ _).alloc (by omega) _
  have HSH := Lib.hid (hsh.keep (hg ▸ hB0))
  have HIN := Lib.hid (hin.keep (hg ▸ hB0))
  have HWF := Lib.hid hwf
  have CF := Lib.hid (fun W => r08_fields_any W m.k)
  have CT := Lib.hid (fun W => r08_has_kind W m.k 116 false (by rw [has_t, kt]))
  have CL := Lib.hid (fun W => r08_has_kind W m.k 108 false (by rw [has_l, kl]))
  have hne : (fld8 m.k).toList.isEmpty = false := by
    rw [fld8_list, kk]
    rfl
  obtain ⟨V, hY⟩ : ∃ V, refM m (xs.map (·.e)) = V := ⟨_, rfl⟩
  rw [hY, hg]
  obtain ⟨F, hF⟩ : ∃ F, putB m (xs.map (·.e)) = F := ⟨_, rfl⟩
  obtain ⟨Z, hZ⟩ : ∃ Z, zeroM m xs.length = Z := ⟨_, rfl⟩
  have e3 : (m.k = 3) = False := by simpa using k3
  have e5 : (m.k = 5) = False := by simpa using k5
  have e6 : (m.k = 6) = True := by simpa using k6
  have HV : Hid (V = (true && (nodeB m.fr && (nodeB m.o && ((m.fr != m.o) && (Z && ((true || decide (1 ≤ m.tm)) && ((true || (((m.lt == 0) == (m.ix == 0)) && decide (m.lt ≤ m.tm))) && F)))))))) := by
    show _ = _
    rw [← hY, ← hF, ← hZ, refM, kk, kt, kl]
    simp only [e3, e5, e6, List.length_map, if_true, if_false, Bool.and_assoc, Bool.and_true, Bool.not_true, Bool.not_false]
  have hF2 := Lib.hid hF
  clear hY hin hwf hsh kk kt kl e3 e5 e6
  unfold mgV
  go_enter Try.func6, Try.ntmps6
  go_upto_region 1 with (fail)
  change Code.wp _ _ _ _ (w.alloc (.cells (mgC m p PA xs.length PC) 32))
  generalize (w.alloc (.cells (mgC m p PA xs.length PC) 32)) = W0 at hb0 hB0 HSH HIN ⊢
  try rw [hg]
  have HK0 := Lib.hid hb0
  obtain ⟨z0, z1, z2, z3, z4, z5, z6, z7, z8, z9, z10, z11, z12, z13, z14, z15⟩ := hb0.mg
  have hlt : g < W0.heap.size := hb0.lt
  have HB := Lib.hid hB0
  have CZ := r08_zero_any W0 m p PA xs.length PC HSH.out.n
  rw [hZ] at CZ
  unfold mgV at CZ
  have N1 := r08_node_any W0 m.fr
  have N2 := r08_node_any W0 m.o
  clear hB0 hb0 hg hZ hF
  have CZ := Lib.hid CZ
  have N1 := Lib.hid N1
  have N2 := Lib.hid N2
  go_wp2_with fail
  refine (CF.out _).mono ?_
  rintro e w1 ⟨rfl, rfl⟩
  go_wp2_with fail
  refine N1.out.mono ?_
  rintro e w1 ⟨rfl, rfl⟩
  cases vf : (nodeB m.fr)
  ·
    have HN : Hid (V = false) := by
      show _ = _
      rw [HV.out, vf]
      simp
    go_wp2
    go_ret
    exact ⟨by rw [HN.out]; rfl, HB.out⟩
  go_wp2_with fail
  refine N2.out.mono ?_
  rintro e w1 ⟨rfl, rfl⟩
  cases vo : (nodeB m.o)
  ·
    have HN : Hid (V = false) := by
      show _ = _
      rw [HV.out, vo]
      simp
    go_wp2
    go_ret
    exact ⟨by rw [HN.out]; rfl, HB.out⟩
  cases vn : (m.fr != m.o)
  ·
    have HN : Hid (V = false) := by
      show _ = _
      rw [HV.out, vn]
      simp
    go_wp2
    go_ret
    exact ⟨by rw [HN.out]; rfl, HB.out⟩
  go_wp2_with fail
  refine CZ.out.mono ?_
  rintro e w1 ⟨rfl, hB1⟩
  have HIN := Lib.hid (HIN.out.keep hB1)
  have HSH := Lib.hid (HSH.out.keep hB1)
  have HB := Lib.hid (HB.out.trans (hB1.mono (by omega)))
  have hb1 := HK0.out.below hB1 HK0.out.lt
  clear z0 z1 z2 z3 z4 z5 z6 z7 z8 z9 z10 z11 z12 z13 z14 z15 hB1 hlt
  obtain ⟨z0, z1, z2, z3, z4, z5, z6, z7, z8, z9, z10, z11, z12, z13, z14, z15⟩ := hb1.mg
  have hlt : g < w1.heap.size := hb1.lt
  have HK1 := Lib.hid hb1
  clear hb1 HK0
  cases Z
  ·
    have HN : Hid (V = false) := by
      show _ = _
      rw [HV.out]
      simp
    go_wp2
    go_ret
    exact ⟨by rw [HN.out]; rfl, HB.out⟩
  go_wp2_with fail
  refine (CT.out _).mono ?_
  rintro e w2 ⟨rfl, rfl⟩
  go_wp2_with fail
  refine (CL.out _).mono ?_
  rintro e w2 ⟨rfl, rfl⟩
  have CE := r08_put_any _ m p PA PC xs HIN.out HWF.out
  rw [hF2.out] at CE
  unfold mgV at CE
  have CE := Lib.hid CE
  have HN : Hid (V = F) := by
    show _ = _
    rw [HV.out, vf, vo, vn]
    simp
  cases F
  all_goals
    go_wp2_with fail
    refine CE.out.mono ?_
    rintro e w2 ⟨rfl, hB2⟩
    have HB := Lib.hid (HB.out.trans (hB2.mono (by omega)))
    clear hB2 z0 z1 z2 z3 z4 z5 z6 z7 z8 z9 z10 z11 z12 z13 z14 z15
    go_wp2
    go_ret
    exact ⟨by rw [HN.out]; rfl, HB.out⟩
theorem r08_Check_any (w : World) (m : Mb) (p : Sa) (PA : Option Addr) (PC : Nat) (xs : List Ec) (hin : InE w PA PC xs) (hwf : ∀ x ∈ xs, x.e.Wf) (hsh : InSh w m.sh p) :
    Calls Try.prog 6 #[mgV m p PA xs.length PC] w fun e w' => e = .returned (.int .i64 (errMsg (refM m (xs.map (·.e))))) ∧ Below w.heap.size w w' := by
  have hk := mkinds m.k
  rcases hk with h | h | h | h | h | h | ⟨h1, h2, h3, h4, h5, h6⟩
  · exact r08_Check_1 w m p PA PC xs hin hwf hsh (by rw [h]; rfl) (by rw [h]; rfl) (by rw [h]; rfl) (by rw [h]; rfl) (by rw [h]; rfl) (by rw [h]; rfl)
  · exact r08_Check_2 w m p PA PC xs hin hwf hsh (by rw [h]; rfl) (by rw [h]; rfl) (by rw [h]; rfl) (by rw [h]; rfl) (by rw [h]; rfl) (by rw [h]; rfl)
  · exact r08_Check_3 w m p PA PC xs hin hwf hsh (by rw [h]; rfl) (by rw [h]; rfl) (by rw [h]; rfl) (by rw [h]; rfl) (by rw [h]; rfl) (by rw [h]; rfl)
  · exact r08_Check_4 w m p PA PC xs hin hwf hsh (by rw [h]; rfl) (by rw [h]; rfl) (by rw [h]; rfl) (by rw [h]; rfl) (by rw [h]; rfl) (by rw [h]; rfl)
  · exact r08_Check_5 w m p PA PC xs hin hwf hsh (by rw [h]; rfl) (by rw [h]; rfl) (by rw [h]; rfl) (by rw [h]; rfl) (by rw [h]; rfl) (by rw [h]; rfl)
  · exact r08_Check_6 w m p PA PC xs hin hwf hsh (by rw [h]; rfl) (by rw [h]; rfl) (by rw [h]; rfl) (by rw [h]; rfl) (by rw [h]; rfl) (by rw [h]; rfl)
  · exact r08_Check_0 w m p PA PC xs hin hwf hsh (by simp [mK, mT, h1, h2, h3, h4, h5, h6]) (by simp [mT, h1, h2, h3, h4, h5, h6]) (by simp [mL, h1, h2, h3, h4, h5, h6]) (by simp [h1, h2, h3, h4, h5, h6]) (by simp [h1, h2, h3, h4, h5, h6]) (by simp [h1, h2, h3, h4, h5, h6])
end Go.Proofs.Ytjnkpjhggeibeaa

/- Messages: the code's none. -/
namespace Go.Proofs.Ytjnkpjhggeibeaa
set_option maxRecDepth 100000
open Go.RowKit

set_option maxHeartbeats 4000000 in
theorem msg_none_any (w : World) (s : Sh) (a : Sa) :
    Calls Try.prog 12 #[shtV s a] w fun e w' => e = .returned (.bool (shz s)) ∧ Below w.heap.size w w' := by
  obtain ⟨g, hg⟩ : ∃ g, w.heap.size = g := ⟨_, rfl⟩
  rw [hg]
  obtain ⟨V, hV⟩ : ∃ V, shz s = V := ⟨_, rfl⟩
  have HX := Lib.hid hV
  rw [hV]
  clear hV
  have hBx : Below g w (w.alloc (.cells (shC s.i s.t (.slice a.A0 s.ns.length a.c0) s.lim s.nxt (.slice a.A1 s.hs.length a.c1) (.slice a.A2 s.ls.length a.c2)) 30)) := (Below.refl _ _).alloc (by omega) _
  have hb1 : Blk (w.alloc (.cells (shC s.i s.t (.slice a.A0 s.ns.length a.c0) s.lim s.nxt (.slice a.A1 s.hs.length a.c1) (.slice a.A2 s.ls.length a.c2)) 30)) g 30 (shC s.i s.t (.slice a.A0 s.ns.length a.c0) s.lim s.nxt (.slice a.A1 s.hs.length a.c1) (.slice a.A2 s.ls.length a.c2)) := hg ▸ Blk.new _ _ _
  unfold shtV
  go_enter Try.func12, Try.ntmps12
  go_upto_region 1 with (fail)
  change Code.wp _ _ _ _ (w.alloc (.cells (shC s.i s.t (.slice a.A0 s.ns.length a.c0) s.lim s.nxt (.slice a.A1 s.hs.length a.c1) (.slice a.A2 s.ls.length a.c2)) 30))
  generalize (w.alloc (.cells (shC s.i s.t (.slice a.A0 s.ns.length a.c0) s.lim s.nxt (.slice a.A1 s.hs.length a.c1) (.slice a.A2 s.ls.length a.c2)) 30)) = W at hb1 hBx ⊢
  try rw [hg]
  obtain ⟨z0, z1, z2, z3, z4, z5, z6⟩ := hb1.sh
  have hb2 := hb1.alloc (.cells (ledC s.lim s.nxt (.slice a.A1 s.hs.length a.c1) (.slice a.A2 s.ls.length a.c2)) 28)
  have hr2 : Blk (W.alloc (.cells (ledC s.lim s.nxt (.slice a.A1 s.hs.length a.c1) (.slice a.A2 s.ls.length a.c2)) 28)) W.heap.size 28 (ledC s.lim s.nxt (.slice a.A1 s.hs.length a.c1) (.slice a.A2 s.ls.length a.c2)) := Blk.new _ _ _
  have HB := Lib.hid (hBx.alloc (Nat.le_of_lt hb1.lt) (.cells (ledC s.lim s.nxt (.slice a.A1 s.hs.length a.c1) (.slice a.A2 s.ls.length a.c2)) 28))
  have hlt := hb1.lt
  clear hb1 hBx
  go_upto_region 2 with (fail)
  change Code.wp _ _ _ _ (W.alloc (.cells (ledC s.lim s.nxt (.slice a.A1 s.hs.length a.c1) (.slice a.A2 s.ls.length a.c2)) 28))
  generalize hgr : W.heap.size = gr at *
  generalize (W.alloc (.cells (ledC s.lim s.nxt (.slice a.A1 s.hs.length a.c1) (.slice a.A2 s.ls.length a.c2)) 28)) = W2 at hb2 hr2 HB ⊢
  clear z0 z1 z2 z3 z4 z5 z6 hgr
  obtain ⟨z0, z1, z2, z3, z4, z5, z6⟩ := hb2.sh
  obtain ⟨y0, y1, y2, y3⟩ := hr2.led
  clear hb2 hr2
  cases h0 : (s.i == 0)
  · have HV : Hid (false = V) := by
      show _ = _
      rw [← HX.out]
      simp only [shz, h0]
      simp
    go_wp2_with fail
    go_ret
    exact ⟨by rw [HV.out]; rfl, HB.out⟩
  · skip
    cases h1 : (s.t == 0)
    · have HV : Hid (false = V) := by
        show _ = _
        rw [← HX.out]
        simp only [shz, h0, h1]
        simp
      go_wp2_with fail
      go_ret
      exact ⟨by rw [HV.out]; rfl, HB.out⟩
    · skip
      cases h2 : ((s.ns.length : Int) == 0)
      · have HV : Hid (false = V) := by
          show _ = _
          rw [← HX.out]
          simp only [shz, h0, h1, h2]
          simp
        go_wp2_with fail
        go_ret
        exact ⟨by rw [HV.out]; rfl, HB.out⟩
      · skip
        cases h3 : (s.lim == 0)
        · have HV : Hid (false = V) := by
            show _ = _
            rw [← HX.out]
            simp only [shz, h0, h1, h2, h3]
            simp
          go_wp2_with fail
          go_ret
          exact ⟨by rw [HV.out]; rfl, HB.out⟩
        · skip
          cases h4 : (s.nxt == 0)
          · have HV : Hid (false = V) := by
              show _ = _
              rw [← HX.out]
              simp only [shz, h0, h1, h2, h3, h4]
              simp
            go_wp2_with fail
            go_ret
            exact ⟨by rw [HV.out]; rfl, HB.out⟩
          · skip
            cases h5 : ((s.hs.length : Int) == 0)
            · have HV : Hid (false = V) := by
                show _ = _
                rw [← HX.out]
                simp only [shz, h0, h1, h2, h3, h4, h5]
                simp
              go_wp2_with fail
              go_ret
              exact ⟨by rw [HV.out]; rfl, HB.out⟩
            · skip
              cases h6 : ((s.ls.length : Int) == 0)
              · have HV : Hid (false = V) := by
                  show _ = _
                  rw [← HX.out]
                  simp only [shz, h0, h1, h2, h3, h4, h5, h6]
                  simp
                go_wp2_with fail
                go_ret
                exact ⟨by rw [HV.out]; rfl, HB.out⟩
              · skip
                have HV : Hid (true = V) := by
                  show _ = _
                  rw [← HX.out]
                  simp only [shz, h0, h1, h2, h3, h4, h5, h6]
                  simp
                go_wp2_with fail
                go_ret
                exact ⟨by rw [HV.out]; rfl, HB.out⟩

end Go.Proofs.Ytjnkpjhggeibeaa
