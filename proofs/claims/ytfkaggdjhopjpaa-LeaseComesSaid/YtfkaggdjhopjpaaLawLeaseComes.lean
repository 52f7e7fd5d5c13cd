/- The walk of the law LeaseComes. -/
import Derived.Test.YtfkaggdjhopjpaaKeeps
import Derived.Test.YtfkaggdjhopjpaaOpenLed
namespace Go.Proofs.Ytfkaggdjhopjpaa
set_option maxRecDepth 100000
open Go.RowKit

theorem wrap_u {x : Int} (h1 : 0 ≤ x) (h2 : x < 18446744073709551616) : IntKind.u64.wrap x = x := by
  rw [IntKind.wrap_u64]
  omega
set_option maxHeartbeats 4000000 in
theorem leaseComes_row (w : World) (n : Int) (_ : (Lit.int .i64 n).wf = true) {v : Value} (z : OpenLed w v) (now : Int) (_ : (Lit.int .i64 now).wf = true) (more : Int) (_ : (Lit.int .i64 more).wf = true) :
    Calls Try.prog 3 #[.int .i64 n, v, .int .i64 now, .int .i64 more] w fun e w' => e = .returned (.bool true) ∧ Below w.heap.size w w' := by

  obtain ⟨lim, nxt, Ah, ch, hs, Al, cl, ls, rfl, hh, hl, hw1, hw2, hlim, hnx⟩ := z
  obtain ⟨g, hg⟩ : ∃ g, w.heap.size = g := ⟨_, rfl⟩
  have hb0 : Blk (w.alloc (.cells (ledC lim nxt (.slice Ah hs.length ch) (.slice Al ls.length cl)) 26)) g 26 (ledC lim nxt (.slice Ah hs.length ch) (.slice Al ls.length cl)) := hg ▸ Blk.new _ _ _
  have hB0 : Below g w (w.alloc (.cells (ledC lim nxt (.slice Ah hs.length ch) (.slice Al ls.length cl)) 26)) := (Below.refl _ _).alloc (by omega) _
  have C1 := Lib.hid keeps_any
  have C2 := Lib.hid (fun W => lease_NewKeeper_any W n)
  have C3 := Lib.hid (fun W h1 h2 => r05_Check_any W lim nxt Ah ch hs Al cl ls h1 h2)
  have HH := Lib.hid hh
  have HL := Lib.hid hl
  have HW := Lib.hid hw1
  have HWL := Lib.hid hw2
  rw [hg]
  have HG := Lib.hid hg
  clear hh hl hw1 hw2 hlim hnx
  unfold ledV
  go_enter Try.func3, Try.ntmps3
  go_upto_region 1 with (fail)
  change Code.wp _ _ _ _ (w.alloc (.cells (ledC lim nxt (.slice Ah hs.length ch) (.slice Al ls.length cl)) 26))
  generalize (w.alloc (.cells (ledC lim nxt (.slice Ah hs.length ch) (.slice Al ls.length cl)) 26)) = W0 at hb0 hB0 ⊢
  try rw [hg]
  have HB0 := Lib.hid hB0
  have HK0 := Lib.hid hb0
  clear hg hB0 hb0
  go_wp2_with fail
  refine (C1.out _).mono ?_
  rintro e w1 ⟨rfl, hB1⟩
  have HK1 := Lib.hid (HK0.out.below hB1 HK0.out.lt)
  have HB1 := Lib.hid (HB0.out.trans (hB1.mono (Nat.le_of_lt HK0.out.lt)))
  clear hB1 C1 HK0 HB0
  by_cases e1 : 1 ≤ n ∧ n ≤ 1073741824
  rotate_left
  · have X2 : Hid (Calls Try.prog 8 #[.int .i64 n] w1 fun e w' => e = .returned (.tuple #[.pointer none, .int .i64 1]) ∧ w' = w1) :=
      (C2.out w1).mono fun e w' h => by unfold NewE at h; rw [if_neg e1] at h; exact h
    clear C2 e1
    go_wp2_with fail
    refine X2.out.mono ?_
    rintro e w2 ⟨rfl, hw2⟩
    obtain rfl := hw2.symm
    clear X2
    go_wp2
    go_ret
    exact ⟨rfl, HB1.out⟩
  obtain ⟨gk, hgk⟩ : ∃ gk, w1.heap.size = gk := ⟨_, rfl⟩
  have X2 : Hid (Calls Try.prog 8 #[.int .i64 n] w1 fun e w' => e = .returned (.tuple #[.pointer (some ⟨gk, 0, none⟩), .int .i64 0]) ∧ w' = w1.alloc (.cells (kpC n (.slice none 0 0) (.map none)) 98)) :=
    (C2.out w1).mono fun e w' h => by unfold NewE at h; rw [if_pos e1, hgk] at h; exact h
  have k2 : KS (w1.alloc (.cells (kpC n (.slice none 0 0) (.map none)) 98)) gk ⟨none, 0, .map none⟩ n [] (fun _ => none) 0 := hgk ▸ KS.start w1 n
  have hb2 := HK1.out.alloc (.cells (kpC n (.slice none 0 0) (.map none)) 98)
  have hggk : g < gk := hgk ▸ HK1.out.lt
  have HB2 := Lib.hid (HB1.out.alloc (by omega) (.cells (kpC n (.slice none 0 0) (.map none)) 98))
  have HE1 := Lib.hid e1
  clear C2 HK1 HB1 e1
  go_wp2_with fail
  refine X2.out.mono ?_
  rintro e w2 ⟨rfl, hw2⟩
  rw [← hw2] at k2 hb2 HB2
  clear X2 hw2 hgk
  have X3' := C3.out w2 (HH.out.keep (HG.out ▸ HB2.out)) (HL.out.keep (HG.out ▸ HB2.out))
  have HK2 := Lib.hid hb2
  have hkl := k2.lt
  have HKS2 := Lib.hid k2
  clear C3 k2
  unfold ledV at X3'
  by_cases ok : LedOk lim nxt hs ls
  rotate_left
  · have e0 : errLed false = 50 := rfl
    rw [decide_eq_false ok, e0] at X3'
    have X3 := Lib.hid X3'
    clear ok X3' e0
    go_wp2_with (refine wpList_load_want (by rfl) 26 _ rfl g rfl 26 (ledC lim nxt (.slice Ah hs.length ch) (.slice Al ls.length cl)) hb2 _ Try.underlying26 rfl info_Led1 ?_)
    refine X3.out.mono ?_
    rintro e w3 ⟨rfl, hB3⟩
    have HB3 := Lib.hid (HB2.out.trans (hB3.mono (by omega)))
    clear hB3 hb2 X3
    go_wp2
    go_ret
    exact ⟨rfl, HB3.out⟩
  have e0 : errLed true = 0 := rfl
  rw [decide_eq_true ok, e0] at X3'
  have X3 := Lib.hid X3'
  have HOK := Lib.hid ok
  clear ok X3' e0
  go_wp2_with (refine wpList_load_want (by rfl) 26 _ rfl g rfl 26 (ledC lim nxt (.slice Ah hs.length ch) (.slice Al ls.length cl)) hb2 _ Try.underlying26 rfl info_Led1 ?_)
  refine X3.out.mono ?_
  rintro e w3 ⟨rfl, hB3⟩
  have HB3 := Lib.hid (HB2.out.trans (hB3.mono (by omega)))
  have hb3 := HK2.out.below hB3 (by omega)
  have HKS3 := Lib.hid (HKS2.out.keep hB3)
  have hk3 : gk < w3.heap.size := HKS3.out.lt
  have HK3 := Lib.hid hb3
  clear hB3 hb2 X3 HB2 HK2 HKS2 hkl
  by_cases c1 : now < 0
  · clear hb3
    go_wp2
    go_ret
    exact ⟨rfl, HB3.out⟩
  by_cases c2 : 1125899906842624 < now
  · clear hb3
    go_wp2
    go_ret
    exact ⟨rfl, HB3.out⟩
  by_cases c3 : more < 0
  · clear hb3
    go_wp2
    go_ret
    exact ⟨rfl, HB3.out⟩
  by_cases c4 : 1125899906842624 < more
  · clear hb3
    go_wp2
    go_ret
    exact ⟨rfl, HB3.out⟩
  have hl64 := HOK.out.head.len
  have t1 : tmC now = now := tmC_id (by omega) (by omega)
  have t2 : tmC (now + more) = now + more := tmC_id (by omega) (by omega)
  have hwr : IntKind.i64.wrap (now + more) = now + more := by rw [IntKind.wrap_i64]; omega
  obtain ⟨f5, hf5⟩ : ∃ f5, seeF (fun _ => none) now hs hs.length = f5 := ⟨_, rfl⟩
  obtain ⟨f6, hf6⟩ : ∃ f6, seeF f5 (now + more) hs hs.length = f6 := ⟨_, rfl⟩
  have v6 : ∀ r ∈ hs.map Hd.rw, f6 r = some now := by
    intro r hr
    rw [← hf6, seeF_mem _ _ _ hr, ← hf5, seeF_mem _ _ _ hr]
    rfl
  have X5 := keeper_Leads_any w3 gk ⟨none, 0, .map none⟩ n [] (fun _ => none) 0 now lim nxt Ah ch hs Al cl ls.length HKS3.out (HH.out.keep (HG.out ▸ HB3.out)) (fun h0 q e => by
    obtain ⟨b, off, e', hb, _⟩ := HH.out.reads.2 h0
    rw [e] at e'
    injection e' with e'
    subst e'
    show b ≠ gk
    have := HG.out
    omega) HW.out hl64
  rw [t1, hf5] at X5
  unfold ledV at X5
  have X5 := Lib.hid X5
  have T2 := Lib.hid t2
  have HF6 := Lib.hid hf6
  have V6 := Lib.hid v6
  have hgk := hggk
  have HRG : Hid (0 ≤ now ∧ now ≤ 1125899906842624 ∧ 0 ≤ more ∧ more ≤ 1125899906842624) := by
    refine ⟨?_, ?_, ?_, ?_⟩ <;> omega
  clear t1 t2 hf5 hf6 v6 HKS3
  go_upto_region 5 with (fail)
  go_wp2_with (refine wpList_load_row rfl 26 _ rfl g rfl 26 (ledC lim nxt (.slice Ah hs.length ch) (.slice Al ls.length cl)) hb3 _ Try.underlying26 rfl info_Led1 ?_)
  refine X5.out.mono ?_
  rintro e w5 ⟨rfl, a5, k5, _, _, ht5⟩
  have hb5 : Blk w5 g 26 (ledC lim nxt (.slice Ah hs.length ch) (.slice Al ls.length cl)) := (ht5.block g (by omega) (by omega)).trans HK3.out
  have HB5 := Lib.hid (HB3.out.trans (ht5.below (B := g) (fun j _ e => by omega) (by omega)))
  have hk5 : gk < w5.heap.size := k5.lt
  have X6 := keeper_Sees_any w5 gk a5 n (hs.map Hd.rw) f5 hs.length (now + more) lim nxt Ah ch hs (.slice Al ls.length cl) k5 (HH.out.keep (HG.out ▸ HB5.out)) HW.out hl64
  rw [T2.out, HF6.out] at X6
  unfold ledV at X6
  have X6 := Lib.hid X6
  have HK5 := Lib.hid hb5
  clear hb3 X5 HB3 HK3 ht5 k5 hk3
  go_upto_region 6 with (fail)
  go_wp2_with (refine wpList_load_row rfl 26 _ rfl g rfl 26 (ledC lim nxt (.slice Ah hs.length ch) (.slice Al ls.length cl)) hb5 _ Try.underlying26 rfl info_Led1 ?_)
  refine X6.out.mono ?_
  rintro e w6 ⟨rfl, a6, k6, ⟨M, hM, hMl⟩, _, ht6⟩
  have HK6 : Hid (Blk w6 g 26 (ledC lim nxt (.slice Ah hs.length ch) (.slice Al ls.length cl))) := (ht6.block g (by omega) (by omega)).trans HK5.out
  have HB6 := Lib.hid (HB5.out.trans (ht6.below (B := g) (fun j _ e => by omega) (by omega)))
  have hk6 : gk < w6.heap.size := k6.lt
  have hgM : g < M := by omega
  have hml : (hs.map Hd.rw).length = hs.length := List.length_map _
  clear hb5 X6 HB5 HK5 ht6 hk5 hMl
  by_cases c5 : more < n
  · have hd : dueK n (tmC (now + more)) (hs.map Hd.rw) f6 (hs.map Hd.rw).length = (f6, []) := by
      rw [T2.out]
      exact due_none n (now + more) now (hs.map Hd.rw) f6 V6.out (by omega) _
    have X7 := Lib.hid (due_of (o := []) (now := now + more) k6 (by omega) (by omega) hd)
    clear hd hml
    go_upto_region 7 with (fail)
    go_wp2_with fail
    refine X7.out.mono ?_
    rintro e w7 ⟨A7, c7, rfl, _, _, _, ht7⟩
    have HB7 := Lib.hid (HB6.out.trans (ht7.below (B := g) (fun j _ e => by rw [hM] at e; injection e with e; injection e with e; omega) (by omega)))
    clear X7 ht7 k6
    go_wp2
    go_ret
    exact ⟨rfl, HB7.out⟩
  have hd0 := (due_all n (now + more) now (hs.map Hd.rw) f6 V6.out (by omega) HOK.out.apart (hs.map Hd.rw).length (Nat.le_refl _)).1
  rw [List.take_length] at hd0
  obtain ⟨f7, hf7⟩ : ∃ f7, (dueK n (now + more) (hs.map Hd.rw) f6 (hs.map Hd.rw).length).1 = f7 := ⟨_, rfl⟩
  have hd : dueK n (tmC (now + more)) (hs.map Hd.rw) f6 (hs.map Hd.rw).length = (f7, hs.map Hd.rw) := by
    rw [T2.out, ← hf7]
    exact Prod.ext rfl hd0
  have X7 := Lib.hid (due_of (o := hs.map Hd.rw) (now := now + more) k6 (by omega) (by omega) hd)
  clear hd hd0 hf7
  go_upto_region 7 with (fail)
  go_wp2_with fail
  refine X7.out.mono ?_
  rintro e w7 ⟨A7, c7, rfl, hin7, hown7, _, ht7⟩
  have HB7 := Lib.hid (HB6.out.trans (ht7.below (B := g) (fun j _ e => by rw [hM] at e; injection e with e; injection e with e; omega) (by omega)))
  have hb7 : Blk w7 g 26 (ledC lim nxt (.slice Ah hs.length ch) (.slice Al ls.length cl)) := (ht7.block g HK6.out.lt (fun e => by rw [hM] at e; injection e with e; injection e with e; omega)).trans HK6.out
  have hk7 : gk < w7.heap.size := by have := ht7.size; omega
  have X8 := r05_Copy_any w7 lim nxt Ah ch hs Al cl ls (HH.out.keep (HG.out ▸ HB7.out)) (HL.out.keep (HG.out ▸ HB7.out))
  unfold ledV at X8
  have X8 := Lib.hid X8
  have HIN7 := Lib.hid hin7
  clear X7 ht7 k6 HB6 HK6 hM hgM hk6 hin7 hown7
  go_upto_region 10 with (fail)
  go_wp2_with (refine wpList_load_row rfl 26 _ rfl g rfl 26 (ledC lim nxt (.slice Ah hs.length ch) (.slice Al ls.length cl)) hb7 _ Try.underlying26 rfl info_Led1 ?_)
  refine X8.out.mono ?_
  rintro e w8 ⟨A8, c8, A9, c9, rfl, hin8, hB8⟩
  obtain ⟨gm, hgm⟩ : ∃ gm, w8.heap.size = gm := ⟨_, rfl⟩
  have hal : Below w8.heap.size w8 (w8.alloc (.cells (ledC lim nxt (.slice A8 hs.length c8) (.slice A9 ls.length c9)) 26)) := (Below.refl _ _).alloc (Nat.le_refl _) _
  have hm9 : Blk (w8.alloc (.cells (ledC lim nxt (.slice A8 hs.length c8) (.slice A9 ls.length c9)) 26)) gm 26 (ledC lim nxt (.slice A8 hs.length c8) (.slice A9 ls.length c9)) := hgm ▸ Blk.new _ _ _
  have hin9 := hin8.keep hal
  have hcd9 := (HIN7.out.keep hB8).keep hal
  have hB9 : Below g w (w8.alloc (.cells (ledC lim nxt (.slice A8 hs.length c8) (.slice A9 ls.length c9)) 26)) := (HB7.out.trans (hB8.mono (by omega))).trans (hal.mono (by have := hB8.size; omega))
  have hggm : g < gm := by have := hB8.size; omega
  have hlt8 : ∀ q, 0 < hs.length → A8 = some q → q.block ≠ gm := fun q h0 e => by
    obtain ⟨b, off, e', hb, _⟩ := hin8.hh.inn.reads.2 h0
    rw [e] at e'
    injection e' with e'
    subst e'
    show b ≠ gm
    omega
  have HLT7 : Hid (0 < (hs.map Hd.rw).length → ∀ q, A7 = some q → q.block < gm) := fun h0 q e => by
    obtain ⟨b, off, e', hb, _⟩ := HIN7.out.reads.2 h0
    rw [e] at e'
    injection e' with e'
    subst e'
    have := hB8.size
    show b < gm
    omega
  have hlt9 : ∀ q, 0 < ls.length → A9 = some q → q.block ≠ gm := fun q h0 e => by
    obtain ⟨b, off, e', hb, _⟩ := hin8.hl.inn.reads.2 h0
    rw [e] at e'
    injection e' with e'
    subst e'
    show b ≠ gm
    omega
  clear hb7 X8 HB7 hk7 hB8 hin8 hal HIN7
  go_upto_region 11 with (fail)
  change Code.wp _ _ _ _ (w8.alloc (.cells (ledC lim nxt (.slice A8 hs.length c8) (.slice A9 ls.length c9)) 26))
  generalize (w8.alloc (.cells (ledC lim nxt (.slice A8 hs.length c8) (.slice A9 ls.length c9)) 26)) = W9 at hm9 hin9 hcd9 hB9 ⊢
  try rw [hgm]
  have HM9 := Lib.hid hm9
  have HI9 := Lib.hid hin9
  have HC9 := Lib.hid hcd9
  have HB9 := Lib.hid hB9
  have HL8 := Lib.hid hlt8
  have HL9 := Lib.hid hlt9
  clear hm9 hin9 hcd9 hB9 hlt8 hlt9 hgm
  go_wp2_with fail
  go_loopw [14, 15, 16, 17, 18, 84] (fun _ _ _ _ _ iv wr => ∃ (k : Nat) (m : List Hd) (Am : Option Addr) (cm : Nat) (An : Option Addr) (cn : Nat), iv = .int .i64 (k : Int) ∧ k ≤ hs.length ∧ m = hs.drop k ∧ Blk wr gm 26 (ledC lim nxt (.slice Am m.length cm) (.slice An ls.length cn)) ∧ InS hdC 5 wr Am cm m ∧ InS lsC 6 wr An cn ls ∧ InS cdC 8 wr A7 c7 (hs.map Hd.rw) ∧ Below g w wr) (fun _ _ _ _ _ iv _ => hs.length - (intOf iv).toNat)
  case atStart => exact ⟨0, hs, A8, c8, A9, c9, rfl, by omega, rfl, HM9.out, HI9.out.hh.inn, HI9.out.hl.inn, HC9.out, HB9.out⟩
  case round =>
    clear HM9 HI9 HC9 HB9 HL8 HL9
    obtain ⟨k, m, Am, cm, An, cn, rfl, hk, hmd, hbm, hih, hil, hic, hB⟩ := hrel
    have HBM := Lib.hid hbm
    have HMD := Lib.hid hmd
    clear hmd
    have HIH := Lib.hid hih
    have HIL := Lib.hid hil
    have HIC := Lib.hid hic
    have HB := Lib.hid hB
    clear hih hil hic hB
    by_cases hkl : k < hs.length
    · obtain ⟨b, off, e7, hbb, hat⟩ := HIC.out.all cdC_len (by omega)
      have hkm : k < (hs.map Hd.rw).length := by omega
      have HRC := Lib.hid (HOK.out.recl HW.out k hkl)
      have HFI : Hid (findT m hs[k].tok = some hs[k]) := by show _ = _; rw [HMD.out]; exact find_drop hs k hkl
      have HOU : Hid (outT m hs[k].tok = hs.drop (k + 1)) := by show _ = _; rw [HMD.out]; exact HOK.out.out k hkl
      have HOKM : Hid (LedOk lim nxt m ls) := by show LedOk _ _ _ _; rw [HMD.out]; exact HOK.out.drop k
      have d0 := hat k hkm 0 _ (by omega) rfl
      have d1 := hat k hkm 1 _ (by omega) rfl
      have d2 := hat k hkm 2 _ (by omega) rfl
      have d3 := hat k hkm 3 _ (by omega) rfl
      have d4 := hat k hkm 4 _ (by omega) rfl
      have d5 := hat k hkm 5 _ (by omega) rfl
      have d6 := hat k hkm 6 _ (by omega) rfl
      have d7 := hat k hkm 7 _ (by omega) rfl
      obtain ⟨x, hx⟩ : ∃ x, hs[k] = x := ⟨_, rfl⟩
      have hxr : (hs.map Hd.rw)[k] = x.rw := by rw [List.getElem_map, hx]
      rw [hxr] at d2 d6 d7
      rw [hx] at HRC HFI HOU
      simp only [← Nat.add_assoc, Nat.add_zero] at d0 d1 d2 d3 d4 d5 d6 d7
      subst e7
      obtain ⟨gc, hgc⟩ : ∃ gc, wr.heap.size = gc := ⟨_, rfl⟩
      have hggc : gm < gc := hgc ▸ hbm.lt
      have hal : Below wr.heap.size wr (wr.alloc (.cells (recA x.rw) 39)) := (Below.refl _ _).alloc (Nat.le_refl _) _
      have hc5 : Blk (wr.alloc (.cells (recA x.rw) 39)) gc 39 (recA x.rw) := hgc ▸ Blk.new _ _ _
      have hm5 := HBM.out.alloc (.cells (recA x.rw) 39)
      have HIH5 := HIH.out.keep hal
      have HIL5 := HIL.out.keep hal
      have HIC5 := HIC.out.keep hal
      have HB5 := HB.out.trans (hal.mono (by omega))
      clear hat hx hxr hal HBM HIH HIL HIC HB hbm
      go_upto_region 14 with (fail)
      change Code.wp _ _ _ _ (wr.alloc (.cells (recA x.rw) 39))
      generalize (wr.alloc (.cells (recA x.rw) 39)) = W5 at hc5 hm5 HIH5 HIL5 HIC5 HB5 ⊢
      try rw [hgc]
      clear d0 d1 d2 d3 d4 d5 d6 d7 hbb
      have hwu : IntKind.u64.wrap ((k : Int) + 1) = (k : Int) + 1 := wrap_u (by omega) (by omega)
      have X6 := r05_Apply_reclaim W5 lim nxt Am cm m An cn ls ((k : Int) + 1) x.rw x HIH5 HIL5 HOKM.out (by omega) HRC.out HFI.out rfl rfl
      obtain ⟨m', e6⟩ : ∃ m', outT m x.rw.tok = m' := ⟨_, rfl⟩
      have HMD' : Hid (m' = hs.drop (k + 1)) := by show _ = _; rw [← e6]; exact HOU.out
      rw [e6] at X6
      unfold ledV cmdV at X6
      have X6 := Lib.hid X6
      have HM5 := Lib.hid hm5
      have HC5 := Lib.hid HIC5
      have HBB5 := Lib.hid HB5
      clear e6 HIH5 HIL5 HIC5 HB5
      go_wp2_with (first | (refine wpList_load_row rfl 26 _ rfl gm rfl 26 (ledC lim nxt (.slice Am m.length cm) (.slice An ls.length cn)) hm5 _ Try.underlying26 rfl info_Led1 ?_) | (refine wpList_load_row rfl 39 _ rfl gc rfl 39 (recA x.rw) hc5 _ Try.underlying39 rfl info_Cd1 ?_))
      refine X6.out.mono ?_
      rintro e w6 ⟨A1, c1, A2, c2, rfl, hi1, hi2, hB6, ho1, ho2⟩
      obtain ⟨gl, hgl⟩ : ∃ gl, w6.heap.size = gl := ⟨_, rfl⟩
      obtain ⟨ga, hga⟩ : ∃ ga, gl + 1 = ga := ⟨_, rfl⟩
      have hg5 : gc < W5.heap.size := hc5.lt
      have hz6 := hB6.size
      have s7 : (w6.alloc (.cells (ledC lim nxt (.slice A1 m'.length c1) (.slice A2 ls.length c2)) 26)).heap.size = ga := by simp [hgl, hga]
      have hal : Below w6.heap.size w6 ((w6.alloc (.cells (ledC lim nxt (.slice A1 m'.length c1) (.slice A2 ls.length c2)) 26)).alloc (.cells (ansA 5 0 0) 41)) := ((Below.refl _ _).alloc (Nat.le_refl _) _).alloc (by simp) _
      have hl7 : Blk ((w6.alloc (.cells (ledC lim nxt (.slice A1 m'.length c1) (.slice A2 ls.length c2)) 26)).alloc (.cells (ansA 5 0 0) 41)) gl 26 (ledC lim nxt (.slice A1 m'.length c1) (.slice A2 ls.length c2)) := (hgl ▸ Blk.new w6 26 (ledC lim nxt (.slice A1 m'.length c1) (.slice A2 ls.length c2)) : Blk (w6.alloc (.cells (ledC lim nxt (.slice A1 m'.length c1) (.slice A2 ls.length c2)) 26)) gl 26 (ledC lim nxt (.slice A1 m'.length c1) (.slice A2 ls.length c2))).alloc _
      have ha7 : Blk ((w6.alloc (.cells (ledC lim nxt (.slice A1 m'.length c1) (.slice A2 ls.length c2)) 26)).alloc (.cells (ansA 5 0 0) 41)) ga 41 (ansA 5 0 0) := s7 ▸ Blk.new _ _ _
      have HM7 := Lib.hid ((HM5.out.below hB6 (by omega)).below hal (by have := HM5.out.lt; omega))
      have HC7 := Lib.hid ((HC5.out.keep hB6).keep hal)
      have HH7 := Lib.hid (hi1.keep hal)
      have HL7 := Lib.hid (hi2.keep hal)
      have HB7 := Lib.hid ((HBB5.out.trans (hB6.mono (by omega))).trans (hal.mono (by omega)))
      have HO1 := Lib.hid ho1
      have HO2 := Lib.hid ho2
      have HG5 := Lib.hid hg5
      clear hc5 hm5 X6 HM5 HC5 HBB5 hal hi1 hi2 hB6 hz6 s7 ho1 ho2 hg5 hwu
      have HGL := Lib.hid hgl
      have HGA := Lib.hid hga
      clear hgl hga
      go_upto_region 15 with (fail)
      change Code.wp _ _ _ _ ((w6.alloc (.cells (ledC lim nxt (.slice A1 m'.length c1) (.slice A2 ls.length c2)) 26)).alloc (.cells (ansA 5 0 0) 41))
      generalize ((w6.alloc (.cells (ledC lim nxt (.slice A1 m'.length c1) (.slice A2 ls.length c2)) 26)).alloc (.cells (ansA 5 0 0) 41)) = W7 at hl7 ha7 HM7 HC7 HH7 HL7 HB7 ⊢
      try rw [HGL.out]
      try rw [HGA.out]
      have a0 : W7.cell? ⟨ga, 0, none⟩ = some (.int .i64 5) := (ha7.cell 0).trans rfl
      have HGM : Hid (g ≤ gm) := by show _ ≤ _; omega
      clear ha7
      go_wp2_with (first | (refine wpList_load_row rfl 26 _ rfl gl rfl 26 (ledC lim nxt (.slice A1 m'.length c1) (.slice A2 ls.length c2)) hl7 _ Try.underlying26 rfl info_Led1 ?_) | (refine wpList_store_row rfl 26 _ _ rfl gm (ledC lim nxt (.slice A1 m'.length c1) (.slice A2 ls.length c2)) rfl rfl 26 (ledC lim nxt (.slice Am m.length cm) (.slice An ls.length cn)) HM7.out info_Led1 rfl (ledC_one _ _ _ _ _ _ _ _) ?_))
      go_roundw
      case rel =>
        have htr : Tr W7 (W7.setRow gm (ledC lim nxt (.slice A1 m'.length c1) (.slice A2 ls.length c2))) (fun j => j = gm) := Tr.of_grown (row_grown gm _) (fun j e _ => by injection e with e; exact e.symm)
        have hg5 := HG5.out
        refine ⟨k + 1, m', A1, c1, A2, c2, by go_num, by omega, HMD'.out, Blk.row HM7.out, HH7.out.tr htr (fun _ q e he => by have := HO1.out q e; omega), HL7.out.tr htr (fun _ q e he => by have := HO2.out q e; omega), HC7.out.tr htr (fun h0 q e he => by have := HLT7.out h0 q e; omega), row_below HB7.out HGM.out _⟩
      case measure => simp [intOf]; omega
    · obtain rfl : k = hs.length := by omega
      have hm0 : m = [] := by rw [HMD.out, List.drop_length]
      subst hm0
      have q2 : wr.cell? ⟨gm, 2, none⟩ = some (.slice Am 0 cm) := hbm.led.q2
      clear hbm HBM HIH HIL HIC
      go_wp2
      go_ret
      exact ⟨rfl, HB.out⟩
end Go.Proofs.Ytfkaggdjhopjpaa
