/- The walk of the law LeaseKeeps. -/
import Derived.Test.YtfkaggdjhopjpaaLkS
import Derived.Test.YtfkaggdjhopjpaaKeeps
import Derived.Test.YtfkaggdjhopjpaaSameC
import Derived.Test.YtfkaggdjhopjpaaShS2
import Derived.Deep.RegionHeld
namespace Go.Proofs.Ytfkaggdjhopjpaa
set_option maxRecDepth 100000
open Go.RowKit

theorem InS.se {w : World} {A : Option Addr} {c : Nat} {l : List Se} (h : InS seC 6 w A c l) (h0 : 0 < l.length) : ∃ b off, A = some ⟨b, off, none⟩ ∧ b < w.heap.size ∧ ∀ (j : Nat) (hj : j < l.length) (i : Nat) (u : Value), i < 6 → (seC l[j])[i]? = some u → w.cell? ⟨b, off + (j * 6 + i), none⟩ = some u := h.all seC_len h0
set_option maxHeartbeats 12000000 in
theorem leaseKeeps_row (w : World) (n : Int) (_ : (Lit.int .i64 n).wf = true) {v : Value} (z : OpenSees w v) :
    Calls Try.prog 4 #[.int .i64 n, v] w fun e w' => e = .returned (.bool true) ∧ Below w.heap.size w w' := by
  obtain ⟨At, ct, xl, rfl, hxl, hxs⟩ := z
  obtain ⟨g, hg⟩ : ∃ g, w.heap.size = g := ⟨_, rfl⟩
  have C1 := Lib.hid keeps_any
  have C2 := Lib.hid (fun W => lease_NewKeeper_any W n)
  have C3 := Lib.hid (fun W => ref_NewKeeper_any W n)
  have HXL := Lib.hid hxl
  have HXS := Lib.hid hxs
  have hcap := hxl.cap
  have hsml := hxl.small
  rw [hg]
  have HG := Lib.hid hg
  clear hxl hxs
  go_enter Try.func4, Try.ntmps4
  go_wp2_with fail
  refine (C1.out _).mono ?_
  rintro e w1 ⟨rfl, hB1⟩
  rw [hg] at hB1
  have HB1 := Lib.hid hB1
  have hz1 : g ≤ w1.heap.size := by have := hB1.size; omega
  clear hB1 C1 hg
  by_cases e1 : 1 ≤ n ∧ n ≤ 1073741824
  rotate_left
  · have X2 : Hid (Calls Try.prog 8 #[.int .i64 n] w1 fun e w' => e = .returned (.tuple #[.pointer none, .int .i64 1]) ∧ w' = w1) :=
      (C2.out w1).mono fun e w' h => by unfold NewE at h; rw [if_neg e1] at h; exact h
    have X3 : Hid (Calls Try.prog 15 #[.int .i64 n] w1 fun e w' => e = .returned (.tuple #[.pointer none, .int .i64 1]) ∧ w' = w1) :=
      (C3.out w1).mono fun e w' h => by unfold RNewE at h; rw [if_neg e1] at h; exact h
    clear C2 C3 e1
    go_wp2_with fail
    refine X2.out.mono ?_
    rintro e w2 ⟨rfl, hw2⟩
    obtain rfl := hw2.symm
    go_wp2_with fail
    refine X3.out.mono ?_
    rintro e w3 ⟨rfl, hw3⟩
    obtain rfl := hw3.symm
    clear X2 X3
    go_wp2
    go_ret
    exact ⟨rfl, HB1.out⟩
  obtain ⟨gk, hgk⟩ : ∃ gk, w1.heap.size = gk := ⟨_, rfl⟩
  obtain ⟨gx, hgx⟩ : ∃ gx, gk + 1 = gx := ⟨_, rfl⟩
  have X2 : Hid (Calls Try.prog 8 #[.int .i64 n] w1 fun e w' => e = .returned (.tuple #[.pointer (some ⟨gk, 0, none⟩), .int .i64 0]) ∧ w' = w1.alloc (.cells (kpC n (.slice none 0 0) (.map none)) 98)) :=
    (C2.out w1).mono fun e w' h => by unfold NewE at h; rw [if_pos e1, hgk] at h; exact h
  have s2 : (w1.alloc (.cells (kpC n (.slice none 0 0) (.map none)) 98)).heap.size = gx := by simp [hgk, hgx]
  have k2 : KS (w1.alloc (.cells (kpC n (.slice none 0 0) (.map none)) 98)) gk ⟨none, 0, .map none⟩ n [] (fun _ => none) 0 := hgk ▸ KS.start w1 n
  have HB2 := HB1.out.alloc (by omega) (.cells (kpC n (.slice none 0 0) (.map none)) 98)
  generalize (w1.alloc (.cells (kpC n (.slice none 0 0) (.map none)) 98)) = W2 at X2 s2 k2 HB2
  have X3 : Hid (Calls Try.prog 15 #[.int .i64 n] W2 fun e w' => e = .returned (.tuple #[.pointer (some ⟨gx, 0, none⟩), .int .i64 0]) ∧ w' = W2.alloc (.cells (rkpC n (.slice none 0 0)) 114)) :=
    (C3.out W2).mono fun e w' h => by unfold RNewE at h; rw [if_pos e1, s2] at h; exact h
  have k3 : KS (W2.alloc (.cells (rkpC n (.slice none 0 0)) 114)) gk ⟨none, 0, .map none⟩ n [] (fun _ => none) 0 := k2.keep ((Below.refl _ _).alloc (Nat.le_refl _) _)
  have r3 : RS (W2.alloc (.cells (rkpC n (.slice none 0 0)) 114)) gx none 0 n [] := s2 ▸ RS.start W2 n
  have HB3 := HB2.alloc (by omega) (.cells (rkpC n (.slice none 0 0)) 114)
  generalize (W2.alloc (.cells (rkpC n (.slice none 0 0)) 114)) = W3 at X3 k3 r3 HB3
  have hgk' : g ≤ gk := by omega
  have HS3 : Hid (St W3 g gk ⟨none, 0, .map none⟩ n (fun _ => none) 0 gx none 0 []) := by
    have hk : ∀ j, KB gk ⟨none, 0, .map none⟩ (rows []) j → j = gk := by
      rintro j (e | e | ⟨h0, _⟩)
      · exact e
      · cases e
      · simp [rows] at h0
    have hr : ∀ j, RB gx none j → j = gx := by
      rintro j (e | ⟨q, e, _⟩)
      · exact e
      · cases e
    exact ⟨k3, r3, Cpl.none, List.Pairwise.nil, by simp, fun j h1 h2 => by have := hk j h1; have := hr j h2; omega, fun j h => by have := hk j h; omega, fun j h => by have := hr j h; omega⟩
  have HB3 := Lib.hid HB3
  clear C2 C3 e1 k2 k3 r3 HB2 s2 hgk
  go_wp2_with fail
  refine X2.out.mono ?_
  rintro e w2 ⟨rfl, hw2⟩
  obtain rfl := hw2.symm
  go_wp2_with fail
  refine X3.out.mono ?_
  rintro e w3 ⟨rfl, hw3⟩
  obtain rfl := hw3.symm
  clear X2 X3
  by_cases h100 : 100 < xl.length
  · have e100 : decide ((100 : Int) < (xl.length : Int)) = true := decide_eq_true (by omega)
    go_wp2
    go_ret
    exact ⟨rfl, HB3.out⟩
  have e100 : decide ((100 : Int) < (xl.length : Int)) = false := decide_eq_false (by omega)
  go_wp2_with fail
  clear e100
  go_loopw [6, 11, 12, 13, 14, 46] (fun kv _ _ _ _ iv wr => ∃ (i gk : Nat) (a : Ka) (f : Rw → Option Int) (m : Nat) (A : Option Addr) (c : Nat) (xs : List Rk), kv = .pointer (some ⟨gk, 0, none⟩) ∧ iv = .int .i64 (i : Int) ∧ i ≤ xl.length ∧ m ≤ 64 + 64 * i ∧ St wr g gk a n f m gx A c xs ∧ Below g w wr) (fun _ _ _ _ _ iv _ => xl.length - (intOf iv).toNat)
  case atStart => exact ⟨0, gk, ⟨none, 0, .map none⟩, (fun _ => none), 0, none, 0, [], rfl, rfl, by omega, by omega, HS3.out, HB3.out⟩
  case round =>
    clear HS3 HB3
    obtain ⟨i, gk, a, f, m, A, c, xs, rfl, rfl, hi, hm, hst, hbl⟩ := hrel
    have HST := Lib.hid hst
    have HBL := Lib.hid hbl
    clear hst
    by_cases hil : i < xl.length
    · obtain ⟨b, off, e, hbb, hat⟩ := (HXL.out.keep (HG.out ▸ hbl)).se (by omega)
      have y0 := hat i hil 0 _ (by omega) rfl
      have y1 := hat i hil 1 _ (by omega) rfl
      have y2 := hat i hil 2 _ (by omega) rfl
      have y3 := hat i hil 3 _ (by omega) rfl
      have y4 := hat i hil 4 _ (by omega) rfl
      have y5 := hat i hil 5 _ (by omega) rfl
      have hld := HXS.out _ (List.getElem_mem hil)
      obtain ⟨x, hx⟩ : ∃ x, xl[i] = x := ⟨_, rfl⟩
      rw [hx] at y0 y1 y2 y3 y4 y5 hld
      simp only [← Nat.add_assoc, Nat.add_zero] at y0 y1 y2 y3 y4 y5
      subst e
      obtain ⟨B0, hB0⟩ : ∃ B0, wr.heap.size = B0 := ⟨_, rfl⟩
      have HLD := Lib.hid hld
      have hgB : g ≤ B0 := by have := hbl.size; have := HG.out; omega
      have hal : Below wr.heap.size wr (wr.alloc (.cells (seA x) 50)) := (Below.refl _ _).alloc (Nat.le_refl _) _
      have h11 : Blk (wr.alloc (.cells (seA x) 50)) B0 50 (seA x) := hB0 ▸ Blk.new _ _ _
      have HS1 := Lib.hid (HST.out.keep hal)
      have HBL1 := Lib.hid (HBL.out.trans (hal.mono (by omega)))
      have HKlt : Hid (∀ j, KB gk a (rows xs) j → j < B0) := fun j h => hB0 ▸ HST.out.ks.lts j h
      have HRlt : Hid (∀ j, RB gx A j → j < B0) := fun j h => hB0 ▸ HST.out.rs.lts j h
      clear hat hx hld hbl hal HST HBL
      go_upto_region 11 with (fail)
      change Code.wp _ _ _ _ (wr.alloc (.cells (seA x) 50))
      generalize (wr.alloc (.cells (seA x) 50)) = W1 at h11 HS1 HBL1 ⊢
      try rw [hB0]
      clear y0 y1 y2 y3 y4 y5 hbb
      have y2 : W1.cell? ⟨B0, 2, none⟩ = some (.int .i64 x.l.lim) := (h11.cell 2).trans rfl
      have y3 : W1.cell? ⟨B0, 3, none⟩ = some (.int .u64 x.l.nxt) := (h11.cell 3).trans rfl
      have y4 : W1.cell? ⟨B0, 4, none⟩ = some (.slice x.l.Ah x.l.hs.length x.l.ch) := (h11.cell 4).trans rfl
      have y5 : W1.cell? ⟨B0, 5, none⟩ = some (.slice x.l.Al x.l.ls.length x.l.cl) := (h11.cell 5).trans rfl
      have X1' := r05_Check_any W1 x.l.lim x.l.nxt x.l.Ah x.l.ch x.l.hs x.l.Al x.l.cl x.l.ls (HLD.out.hh.keep (HG.out ▸ HBL1.out)) (HLD.out.hl.keep (HG.out ▸ HBL1.out))
      unfold ledV at X1'
      have H11 := Lib.hid h11
      have hz1' : B0 < W1.heap.size := h11.lt
      clear h11
      by_cases ok : LedOk x.l.lim x.l.nxt x.l.hs x.l.ls
      rotate_left
      · have e0 : errLed false = 50 := rfl
        rw [decide_eq_false ok, e0] at X1'
        have X1 := Lib.hid X1'
        clear ok X1' e0
        go_wp2_with fail
        refine X1.out.mono ?_
        rintro e w2 ⟨rfl, hB2⟩
        have HS2 := Lib.hid (HS1.out.keep hB2)
        have HBL2 := Lib.hid (HBL1.out.trans (hB2.mono (by omega)))
        clear hB2 X1 y2 y3 y4 y5
        go_wp2
        go_roundw
        case rel => exact ⟨i + 1, gk, a, f, m, A, c, xs, rfl, by go_num, by omega, by omega, HS2.out, HBL2.out⟩
        case measure => simp [intOf]; omega
      have e0 : errLed true = 0 := rfl
      rw [decide_eq_true ok, e0] at X1'
      have X1 := Lib.hid X1'
      have HOK := Lib.hid ok
      have hl64 := ok.head.len
      clear ok X1' e0
      go_wp2_with fail
      refine X1.out.mono ?_
      rintro e w2 ⟨rfl, hB2⟩
      have h11' := H11.out.below hB2 hz1'
      have HS2 := Lib.hid (HS1.out.keep hB2)
      have HBL2 := Lib.hid (HBL1.out.trans (hB2.mono (by omega)))
      have hz2 : B0 < w2.heap.size := h11'.lt
      have y2' : w2.cell? ⟨B0, 2, none⟩ = some (.int .i64 x.l.lim) := (h11'.cell 2).trans rfl
      have y3' : w2.cell? ⟨B0, 3, none⟩ = some (.int .u64 x.l.nxt) := (h11'.cell 3).trans rfl
      have y4' : w2.cell? ⟨B0, 4, none⟩ = some (.slice x.l.Ah x.l.hs.length x.l.ch) := (h11'.cell 4).trans rfl
      have y5' : w2.cell? ⟨B0, 5, none⟩ = some (.slice x.l.Al x.l.ls.length x.l.cl) := (h11'.cell 5).trans rfl
      have X2 := r05_Copy_row w2 x.l.lim x.l.nxt x.l.Ah x.l.ch x.l.hs x.l.Al x.l.cl x.l.ls (HLD.out.hh.keep (HG.out ▸ HBL2.out)) (HLD.out.hl.keep (HG.out ▸ HBL2.out))
      unfold ledV at X2
      have X2 := Lib.hid X2
      have H11' := Lib.hid h11'
      clear hB2 X1 y2 y3 y4 y5 HS1 HBL1 H11 h11'
      go_wp2_with fail
      refine X2.out.mono ?_
      rintro e w3 ⟨Ao, co, Bo, cb, rfl, hin3, hrow3, hB3⟩
      obtain ⟨g12, hg12⟩ : ∃ g12, w3.heap.size = g12 := ⟨_, rfl⟩
      have hz3 := hB3.size
      have hal : Below w3.heap.size w3 (w3.alloc (.cells (ledC x.l.lim x.l.nxt (.slice Ao x.l.hs.length co) (.slice Bo x.l.ls.length cb)) 26)) := (Below.refl _ _).alloc (Nat.le_refl _) _
      have h12 : Blk (w3.alloc (.cells (ledC x.l.lim x.l.nxt (.slice Ao x.l.hs.length co) (.slice Bo x.l.ls.length cb)) 26)) g12 26 (ledC x.l.lim x.l.nxt (.slice Ao x.l.hs.length co) (.slice Bo x.l.ls.length cb)) := hg12 ▸ Blk.new _ _ _
      have s4 : (w3.alloc (.cells (ledC x.l.lim x.l.nxt (.slice Ao x.l.hs.length co) (.slice Bo x.l.ls.length cb)) 26)).heap.size = g12 + 1 := by simp [hg12]
      have HIT4 : Hid (It (w3.alloc (.cells (ledC x.l.lim x.l.nxt (.slice Ao x.l.hs.length co) (.slice Bo x.l.ls.length cb)) 26)) B0 (g12 + 1) B0 g12 x Ao co Bo cb) := by
        refine ⟨(H11'.out.below hB3 hz2).below hal (by omega), h12, own_lower (own_below hrow3 hal) (by omega), hin3.hl.inn.keep hal, ⟨Nat.le_refl _, by omega⟩, ⟨by omega, by omega⟩, fun q e => ?_, fun h0 q e => ?_⟩
        · have := (World.ownsRow.lt hrow3 q.block (by rw [e]; rfl)).2
          omega
        · obtain ⟨b', off', e', hb', _⟩ := hin3.hl.inn.reads.2 h0
          have := hin3.hl.own q e
          rw [e] at e'
          injection e' with e'
          subst e'
          dsimp only at this
          exact ⟨by show B0 ≤ b'; omega, by show b' < g12 + 1; omega⟩
      have HS4 := Lib.hid ((HS2.out.keep hB3).keep hal)
      have HBL4 := Lib.hid ((HBL2.out.trans (hB3.mono (by omega))).trans (hal.mono (by omega)))
      have hB1g : B0 < g12 := by omega
      clear hB3 hin3 hrow3 h12 hal X2 y2' y3' y4' y5' H11' HS2 HBL2 hz2 hz3
      go_upto_region 13 with (fail)
      change Code.wp _ _ _ _ (w3.alloc (.cells (ledC x.l.lim x.l.nxt (.slice Ao x.l.hs.length co) (.slice Bo x.l.ls.length cb)) 26))
      generalize (w3.alloc (.cells (ledC x.l.lim x.l.nxt (.slice Ao x.l.hs.length co) (.slice Bo x.l.ls.length cb)) 26)) = W4 at s4 HIT4 HS4 HBL4 ⊢
      try rw [hg12]
      have HZ4 := Lib.hid s4
      have x0 : W4.cell? ⟨B0, 0, none⟩ = some (.int .i64 x.d) := (HIT4.out.b11.cell 0).trans rfl
      clear s4 hg12 hz1'
      cases e0 : (x.d == 0)
      rotate_left
      · have x1 : W4.cell? ⟨B0, 1, none⟩ = some (.int .i64 x.now) := (HIT4.out.b11.cell 1).trans rfl
        have x2 : W4.cell? ⟨B0, 2, none⟩ = some (.int .i64 x.l.lim) := (HIT4.out.b11.cell 2).trans rfl
        have x3 : W4.cell? ⟨B0, 3, none⟩ = some (.int .u64 x.l.nxt) := (HIT4.out.b11.cell 3).trans rfl
        have x4 : W4.cell? ⟨B0, 4, none⟩ = some (.slice x.l.Ah x.l.hs.length x.l.ch) := (HIT4.out.b11.cell 4).trans rfl
        have x5 : W4.cell? ⟨B0, 5, none⟩ = some (.slice x.l.Al x.l.ls.length x.l.cl) := (HIT4.out.b11.cell 5).trans rfl
        obtain ⟨z0, z1, z2, z3⟩ := HIT4.out.b12.led
        have X5' := keeper_Leads_any W4 gk a n (rows xs) f m x.now x.l.lim x.l.nxt Ao co x.l.hs Bo cb x.l.ls.length HS4.out.ks (HIT4.out.inh hl64) (fun h0 q e => by have h1 := own_base HIT4.out.row q.block (by rw [e]; rfl); have h2 := HKlt.out gk (Or.inl rfl); omega) HLD.out.wh hl64
        unfold ledV at X5'
        have X5 := Lib.hid X5'
        have hW4 : g12 < W4.heap.size := HIT4.out.b12.lt
        clear X5'
        go_wp2_with fail
        refine X5.out.mono ?_
        rintro e w5 ⟨rfl, a5, k5, hM5, hA5, ht5⟩
        have HIT5 := Lib.hid (HIT4.out.tr ht5 (fun j e => Or.inl (by rw [e]; exact HKlt.out gk (Or.inl rfl))))
        have r5 := HS4.out.rs.trB ht5 (fun j hj e => HS4.out.sep j (Or.inl e) hj)
        have HBL5 := Lib.hid (HBL4.out.trans (ht5.below (B := g) (fun j _ e => by rw [e]; exact HS4.out.kge gk (Or.inl rfl)) (by omega)))
        have X6' := ref_Leads_any w5 gx A c n xs x.now x.l.lim x.l.nxt x.l.Ah x.l.ch x.l.hs x.l.Al x.l.cl x.l.ls.length r5 (HLD.out.hh.keep (HG.out ▸ HBL5.out)) (fun h0 q e => by
          obtain ⟨b', off', e', hb', _⟩ := HLD.out.hh.reads.2 h0
          rw [e] at e'
          injection e' with e'
          subst e'
          have h1 := HS4.out.rge gx (Or.inl rfl)
          have := HG.out
          show b' ≠ gx
          omega) HLD.out.wh hl64
        unfold ledV at X6'
        have X6 := Lib.hid X6'
        have hz5 := ht5.size
        have HT5 := Lib.hid ht5
        have HK5 := Lib.hid k5
        have HM5 := Lib.hid hM5
        have HA5 := Lib.hid hA5
        clear X6' x1 x2 x3 x4 x5 z0 z1 z2 z3 x0 X5 r5 ht5 k5 hM5 hA5
        have x1 : w5.cell? ⟨B0, 1, none⟩ = some (.int .i64 x.now) := (HIT5.out.b11.cell 1).trans rfl
        have x2 : w5.cell? ⟨B0, 2, none⟩ = some (.int .i64 x.l.lim) := (HIT5.out.b11.cell 2).trans rfl
        have x3 : w5.cell? ⟨B0, 3, none⟩ = some (.int .u64 x.l.nxt) := (HIT5.out.b11.cell 3).trans rfl
        have x4 : w5.cell? ⟨B0, 4, none⟩ = some (.slice x.l.Ah x.l.hs.length x.l.ch) := (HIT5.out.b11.cell 4).trans rfl
        have x5 : w5.cell? ⟨B0, 5, none⟩ = some (.slice x.l.Al x.l.ls.length x.l.cl) := (HIT5.out.b11.cell 5).trans rfl
        obtain ⟨z0, z1, z2, z3⟩ := HIT5.out.b12.led
        go_wp2_with fail
        refine X6.out.mono ?_
        rintro e w6 ⟨rfl, A6, c6, r6, hA6, ht6⟩
        obtain ⟨s6, t6, hK6, hR6⟩ := HS4.out.see hl64 HOK.out.pair (tmC x.now) Cpl.none HK5.out HM5.out HA5.out HT5.out r6 hA6 ht6 (by omega)
        have HITz := Lib.hid (HIT5.out.tr ht6 (fun j e => Or.inl (by rw [e]; exact HRlt.out gx (Or.inl rfl))))
        have HBLz := Lib.hid (HBL5.out.trans (ht6.below (B := g) (fun j _ e => by rw [e]; exact HS4.out.rge gx (Or.inl rfl)) (by omega)))
        have hB4 : W4.heap.size = g12 + 1 := HZ4.out
        have HZ : ∃ a' f' m' A' c' xs', St w6 g gk a' n f' m' gx A' c' xs' ∧ m' ≤ m + 64 ∧ (∀ j, KB gk a' (rows xs') j → j < B0 ∨ g12 + 1 ≤ j) ∧ (∀ j, RB gx A' j → j < B0 ∨ g12 + 1 ≤ j) :=
          ⟨a5, _, _, A6, c6, _, s6, by omega, fun j hj => by
            rcases hK6 j hj with h | h
            · exact Or.inl (h ▸ HKlt.out gk (Or.inl rfl))
            · exact Or.inr (by omega), fun j hj => by
            rcases hR6 j hj with h | h
            · exact Or.inl (h ▸ HRlt.out gx (Or.inl rfl))
            · exact Or.inr (by omega)⟩
        clear s6 t6 hK6 hR6 r6 hA6 ht6 x1 x2 x3 x4 x5 z0 z1 z2 z3 X6 HIT5 HBL5 HT5 HK5 HM5 HA5 hz5 HS4 HIT4 HBL4 hB4
        have HZZ := Lib.hid HZ
        clear HZ
        have x1 : w6.cell? ⟨B0, 1, none⟩ = some (.int .i64 x.now) := (HITz.out.b11.cell 1).trans rfl
        have x2 : w6.cell? ⟨B0, 2, none⟩ = some (.int .i64 x.l.lim) := (HITz.out.b11.cell 2).trans rfl
        have x3 : w6.cell? ⟨B0, 3, none⟩ = some (.int .u64 x.l.nxt) := (HITz.out.b11.cell 3).trans rfl
        have x4 : w6.cell? ⟨B0, 4, none⟩ = some (.slice x.l.Ah x.l.hs.length x.l.ch) := (HITz.out.b11.cell 4).trans rfl
        have x5 : w6.cell? ⟨B0, 5, none⟩ = some (.slice x.l.Al x.l.ls.length x.l.cl) := (HITz.out.b11.cell 5).trans rfl
        obtain ⟨z0, z1, z2, z3⟩ := HITz.out.b12.led
        have XS' := r05_Same_eq w6 x.l.lim x.l.nxt Ao co x.l.Ah x.l.ch x.l.hs Bo cb x.l.Al x.l.cl x.l.ls (HITz.out.inh hl64) (HLD.out.hh.keep (HG.out ▸ HBLz.out)) HITz.out.ll (HLD.out.hl.keep (HG.out ▸ HBLz.out))
        unfold ledV at XS'
        have XS := Lib.hid XS'
        have hgW : g ≤ w6.heap.size := by have := HITz.out.b12.lt; omega
        have HGW := Lib.hid hgW
        clear XS' hgW
        go_wp2_with fail
        refine XS.out.mono ?_
        rintro e wz ⟨rfl, hBz⟩
        obtain ⟨az, fz, mz, Az, cz, xz, hsz, hmz, hkz, hrz⟩ := HZZ.out
        have HSy := Lib.hid (hsz.keep hBz)
        have HITy := Lib.hid (HITz.out.keep hBz)
        have HBLy := Lib.hid (HBLz.out.trans (hBz.mono HGW.out))
        have HKZ := Lib.hid hkz
        have HRZ := Lib.hid hrz
        clear x1 x2 x3 x4 x5 z0 z1 z2 z3 XS HZZ HITz HBLz HGW hsz hBz hkz hrz
        have z2 := HITy.out.b12.led.q2
        have hsm := hl64
        go_wp2_with fail
        clear z2
        go_loopw [14, 119] (fun _ jv wr => ∃ (j : Nat) (zs : List Value), jv = .int .i64 (j : Int) ∧ j ≤ x.l.hs.length ∧ wr.ownsRow B0 55 5 (.slice Ao x.l.hs.length co) x.l.hs.length zs ∧ Blk wr g12 26 (ledC x.l.lim x.l.nxt (.slice Ao x.l.hs.length co) (.slice Bo x.l.ls.length cb)) ∧ St wr g gk az n fz mz gx Az cz xz ∧ Below g w wr) (fun _ jv _ => x.l.hs.length - (intOf jv).toNat)
        case atStart => exact ⟨0, _, rfl, by omega, HITy.out.row, HITy.out.b12, HSy.out, HBLy.out⟩
        case round =>
          obtain ⟨j, zs, rfl, hj, hrow, h12, hst, hbl⟩ := hrel
          have HST := Lib.hid hst
          have HBL := Lib.hid hbl
          have HR := Lib.hid hrow
          have H12 := Lib.hid h12
          clear hst hbl HSy HBLy
          by_cases hjl : j < x.l.hs.length
          · have hz2 : wr.cell? ⟨g12, 2, none⟩ = some (.slice Ao x.l.hs.length co) := h12.led.q2
            have hform := hrow.2
            rcases hform with ⟨hh, h0⟩ | ⟨bo, cap, cur, hh, hbo, hheap, _⟩
            · omega
            injection hh with hh1 hh2 hh3
            subst hh1 hh3
            have hlz : zs.length = x.l.hs.length * 5 := hrow.1
            obtain ⟨u0, hu0⟩ : ∃ u0, zs[j * 5 + 4]? = some u0 := ⟨_, List.getElem?_eq_getElem (by omega)⟩
            have hcell : wr.cell? ⟨bo, j * 5 + 4, none⟩ = some u0 := (hrow.cellAt (j * 5 + 4) (by omega)).trans hu0
            have hfz : wr.frozen? ⟨bo, j * 5 + 4, none⟩ = false := by simp [World.frozen?, hheap]
            have hst2 := (hrow.stored (j * 5 + 4) (.int .u64 99)).1
            have hb1 : bo < g12 + 1 := HITy.out.lr ⟨bo, 0, none⟩ rfl
            have htr : Tr wr (wr.setCell ⟨bo, j * 5 + 4, none⟩ (.int .u64 99)) (fun q => q = bo) := (Tr.refl wr (fun q => q = bo)).setCell (a := ⟨bo, j * 5 + 4, none⟩) (fun _ => rfl) _
            have hS2 := HST.out.tr htr (fun q hq e => by rcases HKZ.out q hq with h | h <;> omega) (fun q hq e => by rcases HRZ.out q hq with h | h <;> omega)
            have hne : g12 ≠ bo := fun e => own_blk_ne HR.out H12.out (by decide) (by rw [e]; rfl)
            have h12b := H12.out.far (p := ⟨bo, j * 5 + 4, none⟩) hne (.int .u64 99)
            have hbl2 := HBL.out.setCell (p := ⟨bo, j * 5 + 4, none⟩) (show g ≤ bo by omega) (.int .u64 99)
            have HS2 := Lib.hid hS2
            have HH12 := Lib.hid h12b
            have HBL2 := Lib.hid hbl2
            have HST2 := Lib.hid hst2
            clear hrow h12 hS2 h12b hbl2 hst2 htr hheap hlz
            go_wp2
            go_roundw
            case rel => exact ⟨j + 1, _, by go_num, by omega, HST2.out, HH12.out, HS2.out, HBL2.out⟩
            case measure => simp [intOf]; omega
          · obtain rfl : j = x.l.hs.length := by omega
            clear hrow h12
            go_wp2
            go_roundw
            case rel => exact ⟨i + 1, gk, az, fz, mz, Az, cz, xz, rfl, by go_num, by omega, by omega, HST.out, HBL.out⟩
            case measure => simp [intOf]; omega
      cases e1 : (x.d == 1)
      rotate_left
      · have x1 : W4.cell? ⟨B0, 1, none⟩ = some (.int .i64 x.now) := (HIT4.out.b11.cell 1).trans rfl
        have x2 : W4.cell? ⟨B0, 2, none⟩ = some (.int .i64 x.l.lim) := (HIT4.out.b11.cell 2).trans rfl
        have x3 : W4.cell? ⟨B0, 3, none⟩ = some (.int .u64 x.l.nxt) := (HIT4.out.b11.cell 3).trans rfl
        have x4 : W4.cell? ⟨B0, 4, none⟩ = some (.slice x.l.Ah x.l.hs.length x.l.ch) := (HIT4.out.b11.cell 4).trans rfl
        have x5 : W4.cell? ⟨B0, 5, none⟩ = some (.slice x.l.Al x.l.ls.length x.l.cl) := (HIT4.out.b11.cell 5).trans rfl
        obtain ⟨z0, z1, z2, z3⟩ := HIT4.out.b12.led
        have X5' := keeper_Sees_any W4 gk a n (rows xs) f m x.now x.l.lim x.l.nxt Ao co x.l.hs (.slice Bo x.l.ls.length cb) HS4.out.ks (HIT4.out.inh hl64) HLD.out.wh hl64
        unfold ledV at X5'
        have X5 := Lib.hid X5'
        have hW4 : g12 < W4.heap.size := HIT4.out.b12.lt
        clear X5'
        go_wp2_with fail
        refine X5.out.mono ?_
        rintro e w5 ⟨rfl, a5, k5, hM5, hA5, ht5⟩
        have HIT5 := Lib.hid (HIT4.out.tr ht5 (fun j e => Or.inl (by rw [e]; exact HKlt.out gk (Or.inl rfl))))
        have r5 := HS4.out.rs.trB ht5 (fun j hj e => HS4.out.sep j (Or.inl e) hj)
        have HBL5 := Lib.hid (HBL4.out.trans (ht5.below (B := g) (fun j _ e => by rw [e]; exact HS4.out.kge gk (Or.inl rfl)) (by omega)))
        have X6' := ref_Sees_any w5 gx A c n xs x.now x.l.lim x.l.nxt x.l.Ah x.l.ch x.l.hs x.l.Al x.l.cl x.l.ls.length r5 HS4.out.len (HLD.out.hh.keep (HG.out ▸ HBL5.out)) HLD.out.wh hl64
        unfold ledV at X6'
        have X6 := Lib.hid X6'
        have hz5 := ht5.size
        have HT5 := Lib.hid ht5
        have HK5 := Lib.hid k5
        have HM5 := Lib.hid hM5
        have HA5 := Lib.hid hA5
        clear X6' x1 x2 x3 x4 x5 z0 z1 z2 z3 x0 X5 r5 ht5 k5 hM5 hA5
        have x1 : w5.cell? ⟨B0, 1, none⟩ = some (.int .i64 x.now) := (HIT5.out.b11.cell 1).trans rfl
        have x2 : w5.cell? ⟨B0, 2, none⟩ = some (.int .i64 x.l.lim) := (HIT5.out.b11.cell 2).trans rfl
        have x3 : w5.cell? ⟨B0, 3, none⟩ = some (.int .u64 x.l.nxt) := (HIT5.out.b11.cell 3).trans rfl
        have x4 : w5.cell? ⟨B0, 4, none⟩ = some (.slice x.l.Ah x.l.hs.length x.l.ch) := (HIT5.out.b11.cell 4).trans rfl
        have x5 : w5.cell? ⟨B0, 5, none⟩ = some (.slice x.l.Al x.l.ls.length x.l.cl) := (HIT5.out.b11.cell 5).trans rfl
        obtain ⟨z0, z1, z2, z3⟩ := HIT5.out.b12.led
        go_wp2_with fail
        refine X6.out.mono ?_
        rintro e w6 ⟨rfl, A6, c6, r6, hA6, ht6⟩
        obtain ⟨s6, t6, hK6, hR6⟩ := HS4.out.see hl64 HOK.out.pair (tmC x.now) HS4.out.cp HK5.out HM5.out HA5.out HT5.out r6 hA6 ht6 (by omega)
        have HITz := Lib.hid (HIT5.out.tr ht6 (fun j e => Or.inl (by rw [e]; exact HRlt.out gx (Or.inl rfl))))
        have HBLz := Lib.hid (HBL5.out.trans (ht6.below (B := g) (fun j _ e => by rw [e]; exact HS4.out.rge gx (Or.inl rfl)) (by omega)))
        have hB4 : W4.heap.size = g12 + 1 := HZ4.out
        have HZ : ∃ a' f' m' A' c' xs', St w6 g gk a' n f' m' gx A' c' xs' ∧ m' ≤ m + 64 ∧ (∀ j, KB gk a' (rows xs') j → j < B0 ∨ g12 + 1 ≤ j) ∧ (∀ j, RB gx A' j → j < B0 ∨ g12 + 1 ≤ j) :=
          ⟨a5, _, _, A6, c6, _, s6, by omega, fun j hj => by
            rcases hK6 j hj with h | h
            · exact Or.inl (h ▸ HKlt.out gk (Or.inl rfl))
            · exact Or.inr (by omega), fun j hj => by
            rcases hR6 j hj with h | h
            · exact Or.inl (h ▸ HRlt.out gx (Or.inl rfl))
            · exact Or.inr (by omega)⟩
        clear s6 t6 hK6 hR6 r6 hA6 ht6 x1 x2 x3 x4 x5 z0 z1 z2 z3 X6 HIT5 HBL5 HT5 HK5 HM5 HA5 hz5 HS4 HIT4 HBL4 hB4
        have HZZ := Lib.hid HZ
        clear HZ
        have x1 : w6.cell? ⟨B0, 1, none⟩ = some (.int .i64 x.now) := (HITz.out.b11.cell 1).trans rfl
        have x2 : w6.cell? ⟨B0, 2, none⟩ = some (.int .i64 x.l.lim) := (HITz.out.b11.cell 2).trans rfl
        have x3 : w6.cell? ⟨B0, 3, none⟩ = some (.int .u64 x.l.nxt) := (HITz.out.b11.cell 3).trans rfl
        have x4 : w6.cell? ⟨B0, 4, none⟩ = some (.slice x.l.Ah x.l.hs.length x.l.ch) := (HITz.out.b11.cell 4).trans rfl
        have x5 : w6.cell? ⟨B0, 5, none⟩ = some (.slice x.l.Al x.l.ls.length x.l.cl) := (HITz.out.b11.cell 5).trans rfl
        obtain ⟨z0, z1, z2, z3⟩ := HITz.out.b12.led
        have XS' := r05_Same_eq w6 x.l.lim x.l.nxt Ao co x.l.Ah x.l.ch x.l.hs Bo cb x.l.Al x.l.cl x.l.ls (HITz.out.inh hl64) (HLD.out.hh.keep (HG.out ▸ HBLz.out)) HITz.out.ll (HLD.out.hl.keep (HG.out ▸ HBLz.out))
        unfold ledV at XS'
        have XS := Lib.hid XS'
        have hgW : g ≤ w6.heap.size := by have := HITz.out.b12.lt; omega
        have HGW := Lib.hid hgW
        clear XS' hgW
        go_wp2_with fail
        refine XS.out.mono ?_
        rintro e wz ⟨rfl, hBz⟩
        obtain ⟨az, fz, mz, Az, cz, xz, hsz, hmz, hkz, hrz⟩ := HZZ.out
        have HSy := Lib.hid (hsz.keep hBz)
        have HITy := Lib.hid (HITz.out.keep hBz)
        have HBLy := Lib.hid (HBLz.out.trans (hBz.mono HGW.out))
        have HKZ := Lib.hid hkz
        have HRZ := Lib.hid hrz
        clear x1 x2 x3 x4 x5 z0 z1 z2 z3 XS HZZ HITz HBLz HGW hsz hBz hkz hrz
        have z2 := HITy.out.b12.led.q2
        have hsm := hl64
        go_wp2_with fail
        clear z2
        go_loopw [14, 119] (fun _ jv wr => ∃ (j : Nat) (zs : List Value), jv = .int .i64 (j : Int) ∧ j ≤ x.l.hs.length ∧ wr.ownsRow B0 55 5 (.slice Ao x.l.hs.length co) x.l.hs.length zs ∧ Blk wr g12 26 (ledC x.l.lim x.l.nxt (.slice Ao x.l.hs.length co) (.slice Bo x.l.ls.length cb)) ∧ St wr g gk az n fz mz gx Az cz xz ∧ Below g w wr) (fun _ jv _ => x.l.hs.length - (intOf jv).toNat)
        case atStart => exact ⟨0, _, rfl, by omega, HITy.out.row, HITy.out.b12, HSy.out, HBLy.out⟩
        case round =>
          obtain ⟨j, zs, rfl, hj, hrow, h12, hst, hbl⟩ := hrel
          have HST := Lib.hid hst
          have HBL := Lib.hid hbl
          have HR := Lib.hid hrow
          have H12 := Lib.hid h12
          clear hst hbl HSy HBLy
          by_cases hjl : j < x.l.hs.length
          · have hz2 : wr.cell? ⟨g12, 2, none⟩ = some (.slice Ao x.l.hs.length co) := h12.led.q2
            have hform := hrow.2
            rcases hform with ⟨hh, h0⟩ | ⟨bo, cap, cur, hh, hbo, hheap, _⟩
            · omega
            injection hh with hh1 hh2 hh3
            subst hh1 hh3
            have hlz : zs.length = x.l.hs.length * 5 := hrow.1
            obtain ⟨u0, hu0⟩ : ∃ u0, zs[j * 5 + 4]? = some u0 := ⟨_, List.getElem?_eq_getElem (by omega)⟩
            have hcell : wr.cell? ⟨bo, j * 5 + 4, none⟩ = some u0 := (hrow.cellAt (j * 5 + 4) (by omega)).trans hu0
            have hfz : wr.frozen? ⟨bo, j * 5 + 4, none⟩ = false := by simp [World.frozen?, hheap]
            have hst2 := (hrow.stored (j * 5 + 4) (.int .u64 99)).1
            have hb1 : bo < g12 + 1 := HITy.out.lr ⟨bo, 0, none⟩ rfl
            have htr : Tr wr (wr.setCell ⟨bo, j * 5 + 4, none⟩ (.int .u64 99)) (fun q => q = bo) := (Tr.refl wr (fun q => q = bo)).setCell (a := ⟨bo, j * 5 + 4, none⟩) (fun _ => rfl) _
            have hS2 := HST.out.tr htr (fun q hq e => by rcases HKZ.out q hq with h | h <;> omega) (fun q hq e => by rcases HRZ.out q hq with h | h <;> omega)
            have hne : g12 ≠ bo := fun e => own_blk_ne HR.out H12.out (by decide) (by rw [e]; rfl)
            have h12b := H12.out.far (p := ⟨bo, j * 5 + 4, none⟩) hne (.int .u64 99)
            have hbl2 := HBL.out.setCell (p := ⟨bo, j * 5 + 4, none⟩) (show g ≤ bo by omega) (.int .u64 99)
            have HS2 := Lib.hid hS2
            have HH12 := Lib.hid h12b
            have HBL2 := Lib.hid hbl2
            have HST2 := Lib.hid hst2
            clear hrow h12 hS2 h12b hbl2 hst2 htr hheap hlz
            go_wp2
            go_roundw
            case rel => exact ⟨j + 1, _, by go_num, by omega, HST2.out, HH12.out, HS2.out, HBL2.out⟩
            case measure => simp [intOf]; omega
          · obtain rfl : j = x.l.hs.length := by omega
            clear hrow h12
            go_wp2
            go_roundw
            case rel => exact ⟨i + 1, gk, az, fz, mz, Az, cz, xz, rfl, by go_num, by omega, by omega, HST.out, HBL.out⟩
            case measure => simp [intOf]; omega
      cases e2 : (x.d == 2)
      rotate_left
      · have hX1 : Hid (W4.cell? ⟨B0, 1, none⟩ = some (.int .i64 x.now)) := (HIT4.out.b11.cell 1).trans rfl
        have hml : (rows xs).length ≤ 64 := by rw [rows_len]; exact HS4.out.len
        have hmm : m ≤ 1000000 := by omega
        obtain ⟨f5, hf5⟩ : ∃ f5, (dueK n (tmC x.now) (rows xs) f (rows xs).length).1 = f5 := ⟨_, rfl⟩
        have hd := (HS4.out.cp.due_all HS4.out.ap n (tmC x.now)).1
        rw [hf5] at hd
        have hW4 : g12 < W4.heap.size := HIT4.out.b12.lt
        have HF5 := Lib.hid hf5
        have HDD := Lib.hid hd
        have HW4 := Lib.hid hW4
        clear hf5 hd hW4
        go_upto_region 21 with (fail)
        have HSd : Hid (St W4.drew g gk a n f m gx A c xs) := HS4.out.tr (P := fun _ => False) (Tr.refl _ _).drew (fun _ _ q => q) (fun _ _ q => q)
        have HITd : Hid (It W4.drew B0 (g12 + 1) B0 g12 x Ao co Bo cb) := HIT4.out.tr (P := fun _ => False) (Tr.refl _ _).drew (fun _ q => q.elim)
        have HBLd := Lib.hid HBL4.out.drew
        have HXd : Hid (W4.drew.cell? ⟨B0, 1, none⟩ = some (.int .i64 x.now)) := hX1.out
        have HWd : Hid (W4.drew.heap.size = g12 + 1) := HZ4.out
        refine wp_region_held_drew (S := fun w' => w'.cell? ⟨B0, 1, none⟩ = some (.int .i64 x.now)) (by kernel_rfl) HXd.out (fun hHeld => ?_)
        generalize W4.drew = Wd at HSd HITd HBLd HXd HWd ⊢
        clear x0 hX1
        have X5 := Lib.hid (due_of (o := outR n (tmC x.now) xs) HSd.out.ks hml hmm HDD.out)
        refine wpAnyH_take (i := 0) (v := ?v0x0) rfl (by kernel_rfl) (by kernel_rfl) (by kernel_rfl) (fun _ _ _ h => h) (Or.inl ⟨by rfl, ?yv0x0⟩) (by assumption) ?rv0x0
        case yv0x0 => (intro w hSw; (try dsimp only at hSw); (try go_simp); first | done | with_reducible rfl)
        ((try simp only [List.getElem_toArray, List.getElem_cons_zero]); (try simp only [Act.put, List.setIfInBounds_toArray, List.set_cons_zero, List.set_cons_succ]))
        refine wpAnyH_take (i := 1) (v := ?v1x1) rfl (by kernel_rfl) (by kernel_rfl) (by kernel_rfl) (fun _ _ _ h => h) (Or.inl ⟨by rfl, ?yv1x1⟩) (by assumption) ?rv1x1
        case yv1x1 => (intro w hSw; (try dsimp only at hSw); (try go_simp); first | done | with_reducible rfl)
        ((try simp only [List.getElem_toArray, List.getElem_cons_succ, List.getElem_cons_zero]); (try simp only [Act.put, List.setIfInBounds_toArray, List.set_cons_zero, List.set_cons_succ]))
        refine wpAnyH_take (i := 2) (v := ?v2x2) rfl (by kernel_rfl) (by kernel_rfl) (by kernel_rfl) (fun _ _ _ h => h) (Or.inl ⟨by rfl, ?yv2x2⟩) (by assumption) ?rv2x2
        case yv2x2 => (intro w hSw; (try dsimp only at hSw); (try go_simp); first | done | with_reducible rfl)
        ((try simp only [List.getElem_toArray, List.getElem_cons_succ, List.getElem_cons_zero]); (try simp only [Act.put, List.setIfInBounds_toArray, List.set_cons_zero, List.set_cons_succ]))
        refine wpAnyH_take (i := 4) (v := ?v4x3) rfl (by kernel_rfl) (by kernel_rfl) (by kernel_rfl) (fun _ _ _ h => h) (Or.inl ⟨by rfl, ?yv4x3⟩) (by assumption) ?rv4x3
        case yv4x3 => (intro w hSw; (try dsimp only at hSw); (try go_simp); first | done | with_reducible rfl)
        ((try simp only [List.getElem_toArray, List.getElem_cons_succ, List.getElem_cons_zero]); (try simp only [Act.put, List.setIfInBounds_toArray, List.set_cons_zero, List.set_cons_succ]))
        refine wpAnyH_take (i := 5) (v := ?v5x4) rfl (by kernel_rfl) (by kernel_rfl) (by kernel_rfl) (fun _ _ _ h => h) (Or.inl ⟨by rfl, ?yv5x4⟩) (by assumption) ?rv5x4
        case yv5x4 => (intro w hSw; (try dsimp only at hSw); (try go_simp); first | done | with_reducible rfl)
        ((try simp only [List.getElem_toArray, List.getElem_cons_succ, List.getElem_cons_zero]); (try simp only [Act.put, List.setIfInBounds_toArray, List.set_cons_zero, List.set_cons_succ]))
        refine wpAnyH_take (i := 6) (v := ?v6x5) rfl (by kernel_rfl) (by kernel_rfl) (by kernel_rfl) (fun _ _ _ h => h) (Or.inl ⟨by rfl, ?yv6x5⟩) (by assumption) ?rv6x5
        case yv6x5 => (intro w hSw; (try dsimp only at hSw); (try go_simp); first | done | with_reducible rfl)
        ((try simp only [List.getElem_toArray, List.getElem_cons_succ, List.getElem_cons_zero]); (try simp only [Act.put, List.setIfInBounds_toArray, List.set_cons_zero, List.set_cons_succ]))
        refine wpAnyH_ready (rs := [3]) (by kernel_rfl) (by simp) ?_
        refine AllReadyH.cons rfl (fun K hK => ?_) AllReadyH.nil
        go_simp
        refine X5.out.mono ?_
        rintro e w5 ⟨A5, c5, rfl, hin5, hown5, k5, ht5⟩
        have hgW : g ≤ Wd.heap.size := by have := HWd.out; omega
        have HIT5 := Lib.hid (HITd.out.tr ht5 (fun j e => Or.inl (HKlt.out j (Or.inr (Or.inl e)))))
        have r5 := HSd.out.rs.trB ht5 (fun j hj e => HSd.out.sep j (Or.inr (Or.inl e)) hj)
        have HBL5 := Lib.hid (HBLd.out.trans (ht5.below (B := g) (fun j _ e => HSd.out.kge j (Or.inr (Or.inl e))) hgW))
        have X6 := Lib.hid (ref_Due_any w5 gx A c n xs x.now r5 HSd.out.len)
        have hz5 := ht5.size
        have HT5 := Lib.hid ht5
        have HK5 := Lib.hid k5
        have HIN5 := Lib.hid hin5
        have HOW5 := Lib.hid hown5
        have HX5 : Hid (w5.cell? ⟨B0, 1, none⟩ = some (.int .i64 x.now)) := (HIT5.out.b11.cell 1).trans rfl
        clear ht5 k5 hin5 hown5 r5 X5
        go_simp
        refine hK.out _ _ HX5.out (fun hHeld2 => ?_)
        clear hK K hHeld
        have hHeld := hHeld2
        clear hHeld2
        ((try simp only [List.getElem_toArray, List.getElem_cons_succ, List.getElem_cons_zero]); (try simp only [Act.put, List.setIfInBounds_toArray, List.set_cons_zero, List.set_cons_succ]))
        refine wpAnyH_ready (rs := [7]) (by kernel_rfl) (by simp) ?_
        refine AllReadyH.cons rfl (fun K hK => ?_) AllReadyH.nil
        go_simp
        refine X6.out.mono ?_
        rintro e w6 ⟨A6, c6, rfl, hin6, hown6, r6, ht6⟩
        have hb6 : ∀ j, (Value.slice A xs.length c).ownBlock = some j → RB gx A j := by
          intro j e
          cases A with
          | none => cases e
          | some q => injection e with e; exact Or.inr ⟨q, rfl, e⟩
        have HIT6 := Lib.hid (HIT5.out.tr ht6 (fun j e => Or.inl (HRlt.out j (hb6 j e))))
        have HBL6 := Lib.hid (HBL5.out.trans (ht6.below (B := g) (fun j _ e => HSd.out.rge j (hb6 j e)) (by have := HWd.out; omega)))
        have hin5' := HIN5.out.tr ht6 (fun _ q e hq => by have h1 := HOW5.out q e; have h2 := HRlt.out _ (hb6 _ hq); have := HWd.out; omega)
        have hol : (outR n (tmC x.now) xs).length ≤ 64 := Nat.le_trans (outR_len n (tmC x.now) xs) HSd.out.len
        have X7 := Lib.hid (sameCmds_eq w6 A5 c5 A6 c6 (outR n (tmC x.now) xs) hin5' hin6 hol)
        obtain ⟨s6, t6⟩ := HSd.out.due (tmC x.now) (by rw [HF5.out]; exact HK5.out) HT5.out r6 ht6
        have HS6 := Lib.hid s6
        have hz6 := ht6.size
        have HX6 : Hid (w6.cell? ⟨B0, 1, none⟩ = some (.int .i64 x.now)) := (HIT6.out.b11.cell 1).trans rfl
        clear ht6 r6 hin6 hown6 hin5' s6 t6 X6
        go_simp
        refine hK.out _ _ HX6.out (fun hHeld2 => ?_)
        clear hK K hHeld
        have hHeld := hHeld2
        clear hHeld2
        ((try simp only [List.getElem_toArray, List.getElem_cons_succ, List.getElem_cons_zero]); (try simp only [Act.put, List.setIfInBounds_toArray, List.set_cons_zero, List.set_cons_succ]))
        refine wpAnyH_ready (rs := [8]) (by kernel_rfl) (by simp) ?_
        refine AllReadyH.cons rfl (fun K hK => ?_) AllReadyH.nil
        go_simp
        refine X7.out.mono ?_
        rintro e w7 ⟨rfl, hB7⟩
        have HITz := Lib.hid (HIT6.out.keep hB7)
        have HBLz := Lib.hid (HBL6.out.trans (hB7.mono (by have := HWd.out; omega)))
        have s7 := HS6.out.keep hB7
        have HZ : ∃ a' f' m' A' c' xs', St w7 g gk a' n f' m' gx A' c' xs' ∧ m' ≤ m + 64 ∧ (∀ j, KB gk a' (rows xs') j → j < B0 ∨ g12 + 1 ≤ j) ∧ (∀ j, RB gx A' j → j < B0 ∨ g12 + 1 ≤ j) :=
          ⟨a, _, _, A, c, _, s7, Nat.le_refl _, fun j hj => Or.inl (by rw [rows_upd] at hj; exact HKlt.out j hj), fun j hj => Or.inl (HRlt.out j hj)⟩
        have HX7 : Hid (w7.cell? ⟨B0, 1, none⟩ = some (.int .i64 x.now)) := (HITz.out.b11.cell 1).trans rfl
        clear hB7 s7 X7
        go_simp
        refine hK.out _ _ HX7.out (fun hHeld2 => ?_)
        clear hK K hHeld
        have hHeld := hHeld2
        clear hHeld2
        ((try simp only [List.getElem_toArray, List.getElem_cons_succ, List.getElem_cons_zero]); (try simp only [Act.put, List.setIfInBounds_toArray, List.set_cons_zero, List.set_cons_succ]))
        refine wpAnyH_ready (rs := [9]) (by kernel_rfl) (by simp) ?_
        refine AllReadyH.cons rfl (fun K hK => ?_) AllReadyH.nil
        go_simp
        refine hK.out _ _ HX7.out (fun hHeld2 => ?_)
        clear hK K hHeld
        have hHeld := hHeld2
        clear hHeld2
        refine wpAnyH_done (by kernel_rfl) ?_ _
        clear HIT5 HBL5 HIT6 HBL6 HS6 HT5 HK5 HIN5 HOW5 HX5 HX6 HX7 HXd HSd HITd HBLd HS4 HIT4 HBL4 hz5 hz6
        have HZZ := Lib.hid HZ
        clear HZ
        have x1 : w7.cell? ⟨B0, 1, none⟩ = some (.int .i64 x.now) := (HITz.out.b11.cell 1).trans rfl
        have x2 : w7.cell? ⟨B0, 2, none⟩ = some (.int .i64 x.l.lim) := (HITz.out.b11.cell 2).trans rfl
        have x3 : w7.cell? ⟨B0, 3, none⟩ = some (.int .u64 x.l.nxt) := (HITz.out.b11.cell 3).trans rfl
        have x4 : w7.cell? ⟨B0, 4, none⟩ = some (.slice x.l.Ah x.l.hs.length x.l.ch) := (HITz.out.b11.cell 4).trans rfl
        have x5 : w7.cell? ⟨B0, 5, none⟩ = some (.slice x.l.Al x.l.ls.length x.l.cl) := (HITz.out.b11.cell 5).trans rfl
        obtain ⟨z0, z1, z2, z3⟩ := HITz.out.b12.led
        have XS' := r05_Same_eq w7 x.l.lim x.l.nxt Ao co x.l.Ah x.l.ch x.l.hs Bo cb x.l.Al x.l.cl x.l.ls (HITz.out.inh hl64) (HLD.out.hh.keep (HG.out ▸ HBLz.out)) HITz.out.ll (HLD.out.hl.keep (HG.out ▸ HBLz.out))
        unfold ledV at XS'
        have XS := Lib.hid XS'
        have hgW : g ≤ w7.heap.size := by have := HITz.out.b12.lt; omega
        have HGW := Lib.hid hgW
        clear XS' hgW
        go_wp2_with fail
        refine XS.out.mono ?_
        rintro e wz ⟨rfl, hBz⟩
        obtain ⟨az, fz, mz, Az, cz, xz, hsz, hmz, hkz, hrz⟩ := HZZ.out
        have HSy := Lib.hid (hsz.keep hBz)
        have HITy := Lib.hid (HITz.out.keep hBz)
        have HBLy := Lib.hid (HBLz.out.trans (hBz.mono HGW.out))
        have HKZ := Lib.hid hkz
        have HRZ := Lib.hid hrz
        clear x1 x2 x3 x4 x5 z0 z1 z2 z3 XS HZZ HITz HBLz HGW hsz hBz hkz hrz
        have z2 := HITy.out.b12.led.q2
        have hsm := hl64
        go_wp2_with fail
        clear z2
        go_loopw [14, 119] (fun _ jv wr => ∃ (j : Nat) (zs : List Value), jv = .int .i64 (j : Int) ∧ j ≤ x.l.hs.length ∧ wr.ownsRow B0 55 5 (.slice Ao x.l.hs.length co) x.l.hs.length zs ∧ Blk wr g12 26 (ledC x.l.lim x.l.nxt (.slice Ao x.l.hs.length co) (.slice Bo x.l.ls.length cb)) ∧ St wr g gk az n fz mz gx Az cz xz ∧ Below g w wr) (fun _ jv _ => x.l.hs.length - (intOf jv).toNat)
        case atStart => exact ⟨0, _, rfl, by omega, HITy.out.row, HITy.out.b12, HSy.out, HBLy.out⟩
        case round =>
          obtain ⟨j, zs, rfl, hj, hrow, h12, hst, hbl⟩ := hrel
          have HST := Lib.hid hst
          have HBL := Lib.hid hbl
          have HR := Lib.hid hrow
          have H12 := Lib.hid h12
          clear hst hbl HSy HBLy
          by_cases hjl : j < x.l.hs.length
          · have hz2 : wr.cell? ⟨g12, 2, none⟩ = some (.slice Ao x.l.hs.length co) := h12.led.q2
            have hform := hrow.2
            rcases hform with ⟨hh, h0⟩ | ⟨bo, cap, cur, hh, hbo, hheap, _⟩
            · omega
            injection hh with hh1 hh2 hh3
            subst hh1 hh3
            have hlz : zs.length = x.l.hs.length * 5 := hrow.1
            obtain ⟨u0, hu0⟩ : ∃ u0, zs[j * 5 + 4]? = some u0 := ⟨_, List.getElem?_eq_getElem (by omega)⟩
            have hcell : wr.cell? ⟨bo, j * 5 + 4, none⟩ = some u0 := (hrow.cellAt (j * 5 + 4) (by omega)).trans hu0
            have hfz : wr.frozen? ⟨bo, j * 5 + 4, none⟩ = false := by simp [World.frozen?, hheap]
            have hst2 := (hrow.stored (j * 5 + 4) (.int .u64 99)).1
            have hb1 : bo < g12 + 1 := HITy.out.lr ⟨bo, 0, none⟩ rfl
            have htr : Tr wr (wr.setCell ⟨bo, j * 5 + 4, none⟩ (.int .u64 99)) (fun q => q = bo) := (Tr.refl wr (fun q => q = bo)).setCell (a := ⟨bo, j * 5 + 4, none⟩) (fun _ => rfl) _
            have hS2 := HST.out.tr htr (fun q hq e => by rcases HKZ.out q hq with h | h <;> omega) (fun q hq e => by rcases HRZ.out q hq with h | h <;> omega)
            have hne : g12 ≠ bo := fun e => own_blk_ne HR.out H12.out (by decide) (by rw [e]; rfl)
            have h12b := H12.out.far (p := ⟨bo, j * 5 + 4, none⟩) hne (.int .u64 99)
            have hbl2 := HBL.out.setCell (p := ⟨bo, j * 5 + 4, none⟩) (show g ≤ bo by omega) (.int .u64 99)
            have HS2 := Lib.hid hS2
            have HH12 := Lib.hid h12b
            have HBL2 := Lib.hid hbl2
            have HST2 := Lib.hid hst2
            clear hrow h12 hS2 h12b hbl2 hst2 htr hheap hlz
            go_wp2
            go_roundw
            case rel => exact ⟨j + 1, _, by go_num, by omega, HST2.out, HH12.out, HS2.out, HBL2.out⟩
            case measure => simp [intOf]; omega
          · obtain rfl : j = x.l.hs.length := by omega
            clear hrow h12
            go_wp2
            go_roundw
            case rel => exact ⟨i + 1, gk, az, fz, mz, Az, cz, xz, rfl, by go_num, by omega, by omega, HST.out, HBL.out⟩
            case measure => simp [intOf]; omega
      cases e3 : (x.d == 3)
      rotate_left
      · have hml : (rows xs).length ≤ 64 := by rw [rows_len]; exact HS4.out.len
        have hmm : m ≤ 1000000 := by omega
        have hW4 : g12 < W4.heap.size := HIT4.out.b12.lt
        have X5 := Lib.hid (keeper_Clone_any W4 gk a n (rows xs) f m HS4.out.ks hml hmm)
        go_upto_region 24 with (fail)
        go_wp2_with fail
        refine X5.out.mono ?_
        rintro e w5 ⟨gc, a5, rfl, k5, hgc, hM5, hA5, hB5⟩
        have HS5 := Lib.hid (HS4.out.keep hB5)
        have HIT5 := Lib.hid (HIT4.out.keep hB5)
        have HBL5 := Lib.hid (HBL4.out.trans (hB5.mono (by omega)))
        have hz5 := hB5.size
        have X6' := keeper_Leads_any w5 gk a n (rows xs) f m x.now x.l.lim x.l.nxt Ao co x.l.hs Bo cb x.l.ls.length HS5.out.ks (HIT5.out.inh hl64) (fun h0 q e => by have h1 := own_base HIT5.out.row q.block (by rw [e]; rfl); have h2 := HKlt.out gk (Or.inl rfl); omega) HLD.out.wh hl64
        unfold ledV at X6'
        have X6 := Lib.hid X6'
        have HK5 := Lib.hid k5
        have HM5 := Lib.hid hM5
        have HA5 := Lib.hid hA5
        have x1 : w5.cell? ⟨B0, 1, none⟩ = some (.int .i64 x.now) := (HIT5.out.b11.cell 1).trans rfl
        have x2 : w5.cell? ⟨B0, 2, none⟩ = some (.int .i64 x.l.lim) := (HIT5.out.b11.cell 2).trans rfl
        have x3 : w5.cell? ⟨B0, 3, none⟩ = some (.int .u64 x.l.nxt) := (HIT5.out.b11.cell 3).trans rfl
        have x4 : w5.cell? ⟨B0, 4, none⟩ = some (.slice x.l.Ah x.l.hs.length x.l.ch) := (HIT5.out.b11.cell 4).trans rfl
        have x5 : w5.cell? ⟨B0, 5, none⟩ = some (.slice x.l.Al x.l.ls.length x.l.cl) := (HIT5.out.b11.cell 5).trans rfl
        obtain ⟨z0, z1, z2, z3⟩ := HIT5.out.b12.led
        clear X6' x0 X5 hB5 k5 hM5 hA5
        go_wp2_with fail
        refine X6.out.mono ?_
        rintro e w6 ⟨rfl, a6, k6, ⟨M6, hM6, hMl6⟩, _, ht6⟩
        have HIT6 := Lib.hid (HIT5.out.tr ht6 (fun j e => Or.inl (by rw [e]; exact HKlt.out gk (Or.inl rfl))))
        have HBL6 := Lib.hid (HBL5.out.trans (ht6.below (B := g) (fun j _ e => by rw [e]; exact HS5.out.kge gk (Or.inl rfl)) (by omega)))
        have hz6 := ht6.size
        have X7 := Lib.hid (keeper_Due_any w6 gk a6 n (x.l.hs.map Hd.rw) _ x.l.hs.length 4611686018427387904 k6 (by rw [List.length_map]; exact hl64) (by omega))
        have HT6 := Lib.hid ht6
        clear x1 x2 x3 x4 x5 z0 z1 z2 z3 X6 ht6 k6
        go_wp2_with fail
        refine X7.out.mono ?_
        rintro e w7 ⟨A7, c7, rfl, _, _, _, ht7⟩
        have hkl : ∀ j, KB gc a5 (rows xs) j → W4.heap.size ≤ j ∧ j < w5.heap.size := by
          intro j hj
          refine ⟨?_, HK5.out.lts j hj⟩
          rcases hj with e | e | ⟨_, q, e, rfl⟩
          · omega
          · obtain ⟨M, e', h⟩ := HM5.out
            rw [e] at e'
            injection e' with e'
            injection e' with e'
            omega
          · exact HA5.out q e
        have h7 : ∀ j, a6.mv = .map (some j) → w5.heap.size ≤ j := by
          intro j e
          rw [hM6] at e
          injection e with e
          injection e with e
          omega
        have hgkB := HKlt.out gk (Or.inl rfl)
        have hB4 : W4.heap.size = g12 + 1 := HZ4.out
        have k7 : KS w7 gc a5 n (rows xs) f m := (HK5.out.trB HT6.out (fun j hj e => by have := hkl j hj; omega)).trB ht7 (fun j hj e => by have := hkl j hj; have := h7 j e; omega)
        have r7 : RS w7 gx A c n xs := (HS5.out.rs.trB HT6.out (fun j hj e => HS5.out.sep j (Or.inl e) hj)).trB ht7 (fun j hj e => by have := HRlt.out j hj; have := h7 j e; omega)
        have HITz := Lib.hid (HIT6.out.tr ht7 (fun j e => Or.inr (by have := h7 j e; omega)))
        have HBLz := Lib.hid (HBL6.out.trans (ht7.below (B := g) (fun j _ e => by have := h7 j e; omega) (by omega)))
        have s7 : St w7 g gc a5 n f m gx A c xs := ⟨k7, r7, HS5.out.cp, HS5.out.ap, HS5.out.len, fun j hj hr => by have := hkl j hj; have := HRlt.out j hr; omega, fun j hj => by have := hkl j hj; omega, HS5.out.rge⟩
        have HZ : ∃ a' f' m' A' c' xs', St w7 g gc a' n f' m' gx A' c' xs' ∧ m' ≤ m + 64 ∧ (∀ j, KB gc a' (rows xs') j → j < B0 ∨ g12 + 1 ≤ j) ∧ (∀ j, RB gx A' j → j < B0 ∨ g12 + 1 ≤ j) :=
          ⟨a5, f, m, A, c, xs, s7, by omega, fun j hj => Or.inr (by have := hkl j hj; omega), fun j hj => Or.inl (HRlt.out j hj)⟩
        clear k7 r7 s7 ht7 hkl h7 HIT5 HBL5 HIT6 HBL6 HS5 HS4 HIT4 HBL4 HK5 HM5 HA5 HT6 X7 hM6 hMl6 hz5 hz6
        have HZZ := Lib.hid HZ
        clear HZ
        have x1 : w7.cell? ⟨B0, 1, none⟩ = some (.int .i64 x.now) := (HITz.out.b11.cell 1).trans rfl
        have x2 : w7.cell? ⟨B0, 2, none⟩ = some (.int .i64 x.l.lim) := (HITz.out.b11.cell 2).trans rfl
        have x3 : w7.cell? ⟨B0, 3, none⟩ = some (.int .u64 x.l.nxt) := (HITz.out.b11.cell 3).trans rfl
        have x4 : w7.cell? ⟨B0, 4, none⟩ = some (.slice x.l.Ah x.l.hs.length x.l.ch) := (HITz.out.b11.cell 4).trans rfl
        have x5 : w7.cell? ⟨B0, 5, none⟩ = some (.slice x.l.Al x.l.ls.length x.l.cl) := (HITz.out.b11.cell 5).trans rfl
        obtain ⟨z0, z1, z2, z3⟩ := HITz.out.b12.led
        have XS' := r05_Same_eq w7 x.l.lim x.l.nxt Ao co x.l.Ah x.l.ch x.l.hs Bo cb x.l.Al x.l.cl x.l.ls (HITz.out.inh hl64) (HLD.out.hh.keep (HG.out ▸ HBLz.out)) HITz.out.ll (HLD.out.hl.keep (HG.out ▸ HBLz.out))
        unfold ledV at XS'
        have XS := Lib.hid XS'
        have hgW : g ≤ w7.heap.size := by have := HITz.out.b12.lt; omega
        have HGW := Lib.hid hgW
        clear XS' hgW
        go_wp2_with fail
        refine XS.out.mono ?_
        rintro e wz ⟨rfl, hBz⟩
        obtain ⟨az, fz, mz, Az, cz, xz, hsz, hmz, hkz, hrz⟩ := HZZ.out
        have HSy := Lib.hid (hsz.keep hBz)
        have HITy := Lib.hid (HITz.out.keep hBz)
        have HBLy := Lib.hid (HBLz.out.trans (hBz.mono HGW.out))
        have HKZ := Lib.hid hkz
        have HRZ := Lib.hid hrz
        clear x1 x2 x3 x4 x5 z0 z1 z2 z3 XS HZZ HITz HBLz HGW hsz hBz hkz hrz
        have z2 := HITy.out.b12.led.q2
        have hsm := hl64
        go_wp2_with fail
        clear z2
        go_loopw [14, 119] (fun _ jv wr => ∃ (j : Nat) (zs : List Value), jv = .int .i64 (j : Int) ∧ j ≤ x.l.hs.length ∧ wr.ownsRow B0 55 5 (.slice Ao x.l.hs.length co) x.l.hs.length zs ∧ Blk wr g12 26 (ledC x.l.lim x.l.nxt (.slice Ao x.l.hs.length co) (.slice Bo x.l.ls.length cb)) ∧ St wr g gc az n fz mz gx Az cz xz ∧ Below g w wr) (fun _ jv _ => x.l.hs.length - (intOf jv).toNat)
        case atStart => exact ⟨0, _, rfl, by omega, HITy.out.row, HITy.out.b12, HSy.out, HBLy.out⟩
        case round =>
          obtain ⟨j, zs, rfl, hj, hrow, h12, hst, hbl⟩ := hrel
          have HST := Lib.hid hst
          have HBL := Lib.hid hbl
          have HR := Lib.hid hrow
          have H12 := Lib.hid h12
          clear hst hbl HSy HBLy
          by_cases hjl : j < x.l.hs.length
          · have hz2 : wr.cell? ⟨g12, 2, none⟩ = some (.slice Ao x.l.hs.length co) := h12.led.q2
            have hform := hrow.2
            rcases hform with ⟨hh, h0⟩ | ⟨bo, cap, cur, hh, hbo, hheap, _⟩
            · omega
            injection hh with hh1 hh2 hh3
            subst hh1 hh3
            have hlz : zs.length = x.l.hs.length * 5 := hrow.1
            obtain ⟨u0, hu0⟩ : ∃ u0, zs[j * 5 + 4]? = some u0 := ⟨_, List.getElem?_eq_getElem (by omega)⟩
            have hcell : wr.cell? ⟨bo, j * 5 + 4, none⟩ = some u0 := (hrow.cellAt (j * 5 + 4) (by omega)).trans hu0
            have hfz : wr.frozen? ⟨bo, j * 5 + 4, none⟩ = false := by simp [World.frozen?, hheap]
            have hst2 := (hrow.stored (j * 5 + 4) (.int .u64 99)).1
            have hb1 : bo < g12 + 1 := HITy.out.lr ⟨bo, 0, none⟩ rfl
            have htr : Tr wr (wr.setCell ⟨bo, j * 5 + 4, none⟩ (.int .u64 99)) (fun q => q = bo) := (Tr.refl wr (fun q => q = bo)).setCell (a := ⟨bo, j * 5 + 4, none⟩) (fun _ => rfl) _
            have hS2 := HST.out.tr htr (fun q hq e => by rcases HKZ.out q hq with h | h <;> omega) (fun q hq e => by rcases HRZ.out q hq with h | h <;> omega)
            have hne : g12 ≠ bo := fun e => own_blk_ne HR.out H12.out (by decide) (by rw [e]; rfl)
            have h12b := H12.out.far (p := ⟨bo, j * 5 + 4, none⟩) hne (.int .u64 99)
            have hbl2 := HBL.out.setCell (p := ⟨bo, j * 5 + 4, none⟩) (show g ≤ bo by omega) (.int .u64 99)
            have HS2 := Lib.hid hS2
            have HH12 := Lib.hid h12b
            have HBL2 := Lib.hid hbl2
            have HST2 := Lib.hid hst2
            clear hrow h12 hS2 h12b hbl2 hst2 htr hheap hlz
            go_wp2
            go_roundw
            case rel => exact ⟨j + 1, _, by go_num, by omega, HST2.out, HH12.out, HS2.out, HBL2.out⟩
            case measure => simp [intOf]; omega
          · obtain rfl : j = x.l.hs.length := by omega
            clear hrow h12
            go_wp2
            go_roundw
            case rel => exact ⟨i + 1, gc, az, fz, mz, Az, cz, xz, rfl, by go_num, by omega, by omega, HST.out, HBL.out⟩
            case measure => simp [intOf]; omega
      have HITz := HIT4
      have HBLz := HBL4
      have HZ : ∃ a' f' m' A' c' xs', St W4 g gk a' n f' m' gx A' c' xs' ∧ m' ≤ m + 64 ∧ (∀ j, KB gk a' (rows xs') j → j < B0 ∨ g12 + 1 ≤ j) ∧ (∀ j, RB gx A' j → j < B0 ∨ g12 + 1 ≤ j) :=
        ⟨a, f, m, A, c, xs, HS4.out, by omega, fun j hj => Or.inl (HKlt.out j hj), fun j hj => Or.inl (HRlt.out j hj)⟩
      clear HS4 HIT4 HBL4
      have HZZ := Lib.hid HZ
      clear HZ
      have x1 : W4.cell? ⟨B0, 1, none⟩ = some (.int .i64 x.now) := (HITz.out.b11.cell 1).trans rfl
      have x2 : W4.cell? ⟨B0, 2, none⟩ = some (.int .i64 x.l.lim) := (HITz.out.b11.cell 2).trans rfl
      have x3 : W4.cell? ⟨B0, 3, none⟩ = some (.int .u64 x.l.nxt) := (HITz.out.b11.cell 3).trans rfl
      have x4 : W4.cell? ⟨B0, 4, none⟩ = some (.slice x.l.Ah x.l.hs.length x.l.ch) := (HITz.out.b11.cell 4).trans rfl
      have x5 : W4.cell? ⟨B0, 5, none⟩ = some (.slice x.l.Al x.l.ls.length x.l.cl) := (HITz.out.b11.cell 5).trans rfl
      obtain ⟨z0, z1, z2, z3⟩ := HITz.out.b12.led
      have XS' := r05_Same_eq W4 x.l.lim x.l.nxt Ao co x.l.Ah x.l.ch x.l.hs Bo cb x.l.Al x.l.cl x.l.ls (HITz.out.inh hl64) (HLD.out.hh.keep (HG.out ▸ HBLz.out)) HITz.out.ll (HLD.out.hl.keep (HG.out ▸ HBLz.out))
      unfold ledV at XS'
      have XS := Lib.hid XS'
      have hgW : g ≤ W4.heap.size := by have := HITz.out.b12.lt; omega
      have HGW := Lib.hid hgW
      clear XS' hgW
      go_wp2_with fail
      refine XS.out.mono ?_
      rintro e wz ⟨rfl, hBz⟩
      obtain ⟨az, fz, mz, Az, cz, xz, hsz, hmz, hkz, hrz⟩ := HZZ.out
      have HSy := Lib.hid (hsz.keep hBz)
      have HITy := Lib.hid (HITz.out.keep hBz)
      have HBLy := Lib.hid (HBLz.out.trans (hBz.mono HGW.out))
      have HKZ := Lib.hid hkz
      have HRZ := Lib.hid hrz
      clear x1 x2 x3 x4 x5 z0 z1 z2 z3 XS HZZ HITz HBLz HGW hsz hBz hkz hrz
      have z2 := HITy.out.b12.led.q2
      have hsm := hl64
      go_wp2_with fail
      clear z2
      go_loopw [14, 119] (fun _ jv wr => ∃ (j : Nat) (zs : List Value), jv = .int .i64 (j : Int) ∧ j ≤ x.l.hs.length ∧ wr.ownsRow B0 55 5 (.slice Ao x.l.hs.length co) x.l.hs.length zs ∧ Blk wr g12 26 (ledC x.l.lim x.l.nxt (.slice Ao x.l.hs.length co) (.slice Bo x.l.ls.length cb)) ∧ St wr g gk az n fz mz gx Az cz xz ∧ Below g w wr) (fun _ jv _ => x.l.hs.length - (intOf jv).toNat)
      case atStart => exact ⟨0, _, rfl, by omega, HITy.out.row, HITy.out.b12, HSy.out, HBLy.out⟩
      case round =>
        obtain ⟨j, zs, rfl, hj, hrow, h12, hst, hbl⟩ := hrel
        have HST := Lib.hid hst
        have HBL := Lib.hid hbl
        have HR := Lib.hid hrow
        have H12 := Lib.hid h12
        clear hst hbl HSy HBLy
        by_cases hjl : j < x.l.hs.length
        · have hz2 : wr.cell? ⟨g12, 2, none⟩ = some (.slice Ao x.l.hs.length co) := h12.led.q2
          have hform := hrow.2
          rcases hform with ⟨hh, h0⟩ | ⟨bo, cap, cur, hh, hbo, hheap, _⟩
          · omega
          injection hh with hh1 hh2 hh3
          subst hh1 hh3
          have hlz : zs.length = x.l.hs.length * 5 := hrow.1
          obtain ⟨u0, hu0⟩ : ∃ u0, zs[j * 5 + 4]? = some u0 := ⟨_, List.getElem?_eq_getElem (by omega)⟩
          have hcell : wr.cell? ⟨bo, j * 5 + 4, none⟩ = some u0 := (hrow.cellAt (j * 5 + 4) (by omega)).trans hu0
          have hfz : wr.frozen? ⟨bo, j * 5 + 4, none⟩ = false := by simp [World.frozen?, hheap]
          have hst2 := (hrow.stored (j * 5 + 4) (.int .u64 99)).1
          have hb1 : bo < g12 + 1 := HITy.out.lr ⟨bo, 0, none⟩ rfl
          have htr : Tr wr (wr.setCell ⟨bo, j * 5 + 4, none⟩ (.int .u64 99)) (fun q => q = bo) := (Tr.refl wr (fun q => q = bo)).setCell (a := ⟨bo, j * 5 + 4, none⟩) (fun _ => rfl) _
          have hS2 := HST.out.tr htr (fun q hq e => by rcases HKZ.out q hq with h | h <;> omega) (fun q hq e => by rcases HRZ.out q hq with h | h <;> omega)
          have hne : g12 ≠ bo := fun e => own_blk_ne HR.out H12.out (by decide) (by rw [e]; rfl)
          have h12b := H12.out.far (p := ⟨bo, j * 5 + 4, none⟩) hne (.int .u64 99)
          have hbl2 := HBL.out.setCell (p := ⟨bo, j * 5 + 4, none⟩) (show g ≤ bo by omega) (.int .u64 99)
          have HS2 := Lib.hid hS2
          have HH12 := Lib.hid h12b
          have HBL2 := Lib.hid hbl2
          have HST2 := Lib.hid hst2
          clear hrow h12 hS2 h12b hbl2 hst2 htr hheap hlz
          go_wp2
          go_roundw
          case rel => exact ⟨j + 1, _, by go_num, by omega, HST2.out, HH12.out, HS2.out, HBL2.out⟩
          case measure => simp [intOf]; omega
        · obtain rfl : j = x.l.hs.length := by omega
          clear hrow h12
          go_wp2
          go_roundw
          case rel => exact ⟨i + 1, gk, az, fz, mz, Az, cz, xz, rfl, by go_num, by omega, by omega, HST.out, HBL.out⟩
          case measure => simp [intOf]; omega
    · obtain rfl : i = xl.length := by omega
      clear HST
      go_wp2
      go_ret
      exact ⟨rfl, HBL.out⟩
end Go.Proofs.Ytfkaggdjhopjpaa
