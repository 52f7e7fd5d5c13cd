/- The walk of the law PoolKeeps. -/
import Derived.Test.YtidkhekekfennaaOpenOp
import Derived.Test.YtidkhekekfennaaPlS
import Derived.Test.YtidkhekekfennaaClass
import Derived.BigQuiet
namespace Go.Proofs.Ytidkhekekfennaa
set_option maxRecDepth 100000
set_option linter.unusedVariables false
open Go.RowKit

theorem info_Op : (Try.prog.info? 27).map (·.size) = some 2 := by kernel_rfl
/-- Between two rounds. -/
def PkR (w : World) (G g n : Nat) (s30 : Value) (wr : World) : Prop := ∃ (k : Nat) (v : Value) (cs : List Cn) (ws : List Int), s30 = .int .i64 k ∧ k ≤ n ∧ PlAt wr G g v cs ws ∧ Inv cs ws ∧ Below G w wr
/-- What holds within a round. -/
structure Kx (w : World) (G g M n : Nat) (v : Value) (cs : List Cn) (ws : List Int) (f : Int → Bool) (wr : World) : Prop where
  pl : PlAt wr G g v cs ws
  seen : SeenM wr M n f
  bel : Below G w wr
  siz : G ≤ wr.heap.size
section
variable {w wr w1 : World} {G g M n : Nat} {v : Value} {cs : List Cn} {ws : List Int} {f : Int → Bool}
theorem Kx.keep (h : Kx w G g M n v cs ws f wr) (hb : Below wr.heap.size wr w1) : Kx w G g M n v cs ws f w1 :=
  ⟨h.pl.keep hb, h.seen.keep hb, h.bel.trans (hb.mono h.siz), Nat.le_trans h.siz hb.size⟩
theorem Kx.map (h : Kx w G g M n v cs ws f wr) {f' : Int → Bool} {n' : Nat} (hm : SeenM w1 M n' f') (hg : wr.grownBy w1 (some M)) (hM : G ≤ M) : Kx w G g M n' v cs ws f' w1 := by
  have T := Tr.of_grown (P := fun j => j = M) hg (fun k e _ => by injection e with e; exact e.symm)
  refine ⟨h.pl.tr T ?_, hm, h.bel.trans (T.below (fun k _ e => by omega) h.siz), Nat.le_trans h.siz hg.size⟩
  rintro j (rfl | e) q
  · exact h.seen.apartB h.pl.blk q.symm
  · rcases h.pl.row.2 with ⟨hv, _⟩ | ⟨g', cap, cur, hv, _, hh, _⟩
    · rw [hv] at e; cases e
    · rw [hv] at e
      have e' : g' = j := by simpa [Value.ownBlock] using e
      exact h.seen.apartB (show Blk wr g' _ _ from hh) (q.symm.trans e'.symm)
end
theorem InS.map {α : Type} {fc : α → List Value} {s : Nat} {wr w1 : World} {A : Option Addr} {c : Nat} {l : List α} {M n : Nat} {f : Int → Bool} (h : InS fc s wr A c l) (hf : ∀ x, (fc x).length = s) (hs : 0 < s) (hm : SeenM wr M n f) (hg : wr.grownBy w1 (some M)) : InS fc s w1 A c l := by
  refine ⟨⟨h.reads.1, fun h0 => ?_⟩, h.cap, h.small⟩
  obtain ⟨b, off, e, hb, hc⟩ := h.reads.2 h0
  have hne : M ≠ b := by
    have : 0 < (l.flatMap fc).length := by rw [flat_len hf]; exact Nat.mul_pos h0 hs
    exact hm.apart (hc 0 _ (List.getElem?_eq_getElem this))
  exact ⟨b, off, e, Nat.lt_of_lt_of_le hb hg.size, fun j u hu => (World.cell?_of_block (hg.block b hb (fun q => hne (by injection q with q; exact q.symm)))).trans (hc j u hu)⟩
theorem InN.map {k : IntKind} {wr w1 : World} {A : Option Addr} {c : Nat} {l : List Int} {M n : Nat} {f : Int → Bool} (h : InN k wr A c l) (hm : SeenM wr M n f) (hg : wr.grownBy w1 (some M)) : InN k w1 A c l := by
  refine ⟨⟨h.reads.1, fun h0 => ?_⟩, h.wf, h.cap, h.small⟩
  obtain ⟨b, off, e, hb, hc⟩ := h.reads.2 h0
  have hne : M ≠ b := by
    have : 0 < (nums k l).length := by rw [nums_length]; exact h0
    exact hm.apart (hc 0 _ (List.getElem?_eq_getElem this))
  exact ⟨b, off, e, Nat.lt_of_lt_of_le hb hg.size, fun j u hu => (World.cell?_of_block (hg.block b hb (fun q => hne (by injection q with q; exact q.symm)))).trans (hc j u hu)⟩
/-- Between two rounds over the connections. -/
def K2 (w : World) (G g M : Nat) (v : Value) (cs : List Cn) (ws : List Int) (A : Option Addr) (c : Nat) (s8 s9 s41 : Value) (wr : World) : Prop :=
  ∃ j : Nat, s41 = .int .i64 j ∧ j ≤ cs.length ∧ s8 = .int .i64 (lastF cs j) ∧ s9 = .bool (idleF cs j) ∧ Kx w G g M j v cs ws (seenF cs j) wr ∧ InS cnC 2 wr A c cs
/-- Between two rounds over who waits. -/
def K3 (w : World) (G g M : Nat) (v : Value) (cs : List Cn) (ws : List Int) (A : Option Addr) (c : Nat) (s100 : Value) (wr : World) : Prop :=
  ∃ i : Nat, s100 = .int .i64 i ∧ i ≤ ws.length ∧ Kx w G g M (cs.length + 1 + i) v cs ws (seenG cs ws i) wr ∧ InN .i64 wr A c ws
set_option maxHeartbeats 8000000 in
theorem poolKeeps_row (w : World) {v : Value} (z : OpenOps w v) :
    Calls Try.prog 4 #[v] w fun e w' => e = .returned (.bool true) ∧ Below w.heap.size w w' := by
  obtain ⟨A, c, xs, rfl, hin⟩ := z
  obtain ⟨n, hn⟩ : ∃ n, xs.length = n := ⟨_, rfl⟩
  obtain ⟨G, hG⟩ : ∃ G, w.heap.size = G := ⟨_, rfl⟩
  have HIN := Lib.hid hin
  have HN := Lib.hid hn
  have HG := Lib.hid hG
  have CL := live18_any w
  rw [hn, hG]
  rw [hG] at CL
  have CL := Lib.hid CL
  have hsm := hin.small
  rw [hn] at hsm
  clear hin hn hG
  go_enter Try.func4, Try.ntmps4
  go_wp2_with fail
  refine CL.out.mono ?_
  rintro e w1 ⟨rfl, hB1⟩
  have HB1 := Lib.hid hB1
  have hg1 : G ≤ w1.heap.size := HG.out ▸ hB1.size
  have CN := pool_New_any w1
  obtain ⟨g, hg⟩ : ∃ g, w1.heap.size = g := ⟨_, rfl⟩
  rw [hg] at CN
  have CN := Lib.hid CN
  have HGg : Hid (G ≤ g) := hg ▸ hg1
  clear hB1 hg1 hg
  go_wp2_with fail
  refine CN.out.mono ?_
  rintro e w2 ⟨rfl, hp, hB2⟩
  have HP := Lib.hid (hp.lower HGg.out)
  have HB2 := Lib.hid (HB1.out.trans (hB2.mono HGg.out))
  clear hp hB2 CN CL HB1
  by_cases h300 : n > 300
  · have h3 : decide ((n : Int) > 300) = true := decide_eq_true (by omega)
    clear h300
    go_wp2
    go_ret
    exact ⟨rfl, HB2.out⟩
  have h3 : decide ((n : Int) > 300) = false := decide_eq_false (by omega)
  clear h300
  go_wp2
  go_loopw [30] (fun s30 wr => PkR w G g n s30 wr) (fun s30 _ => n - (intOf s30).toNat)
  case atStart => exact ⟨0, _, [], [], rfl, Nat.zero_le _, HP.out, Inv.nil, HB2.out⟩
  case round =>
    clear HP HB2 h3
    obtain ⟨k, v, cs, ws, rfl, hk, hp, hinv, hB⟩ := hrel
    have HP := Lib.hid hp
    have HI := Lib.hid hinv
    have HB := Lib.hid hB
    have hgs : G ≤ wr.heap.size := by have h1 := hB.size; have h2 := HG.out; omega
    by_cases hkn : k < n
    · have hkl : k < xs.length := by rw [HN.out]; exact hkn
      obtain ⟨b, off, rfl, hbb, hat⟩ := (HIN.out.keep (HG.out ▸ hB)).po (by omega)
      obtain ⟨y, hy⟩ : ∃ y, xs[k] = y := ⟨_, rfl⟩
      have hck := hat k hkl
      rw [hy] at hck
      obtain ⟨c0, c1⟩ := hck
      obtain ⟨d, hd⟩ : ∃ d, y.d = d := ⟨_, rfl⟩
      obtain ⟨m, hm⟩ : ∃ m, y.n = m := ⟨_, rfl⟩
      rw [hd] at c0
      rw [hm] at c1
      clear hat hy hp hinv hB hkl hd hm
      go_upto_region 8 with (fail)
      have hal := (Below.refl wr.heap.size wr).alloc (Nat.le_refl _) (.cells #[.int .i64 d, .int .i64 m] 27)
      have hxw := Blk.new wr 27 #[.int .i64 d, .int .i64 m]
      change Code.wp _ _ _ _ (wr.alloc (.cells #[.int .i64 d, .int .i64 m] 27))
      have HP0 := HP
      have HP := Lib.hid (HP.out.keep hal)
      have HB := Lib.hid (HB.out.trans (hal.mono hgs))
      have hnp : ¬ PB g v wr.heap.size := fun pb => absurd (HP0.out.lts _ pb).2 (Nat.lt_irrefl _)
      have hgs3 : G ≤ (wr.alloc (.cells #[.int .i64 d, .int .i64 m] 27)).heap.size := Nat.le_trans hgs hal.size
      generalize wr.heap.size = gx at hxw hnp ⊢
      generalize (wr.alloc (.cells #[.int .i64 d, .int .i64 m] 27)) = W3 at hxw HP HB hgs3 ⊢
      have HNP := Lib.hid hnp
      clear hal c0 c1 hbb hgs hnp HP0
      have HX := Lib.hid hxw
      have CD := do_any W3 G g v cs ws HP.out HI.out.srt hgs3 d m
      have HI5 := Lib.hid (HI.out.doP d m)
      obtain ⟨R, hR⟩ : ∃ R, doP cs ws d m = R := ⟨_, rfl⟩
      rw [hR] at CD HI5
      have x0 : W3.cell? ⟨gx, 0, none⟩ = some (.int .i64 d) := by rw [hxw.cell]; rfl
      have x1 : W3.cell? ⟨gx, 1, none⟩ = some (.int .i64 m) := by rw [hxw.cell]; rfl
      have CD := Lib.hid CD
      clear hxw hR
      go_wp2_with fail
      refine CD.out.mono ?_
      rintro e w5 hp
      obtain ⟨v', rfl, hp5, ht5, -⟩ := hp
      have hB5 : Below G w w5 := HB.out.trans (ht5.below (B := G) (fun j _ hj => (HP.out.lts j hj).1) hgs3)
      have hgs5 : G ≤ w5.heap.size := Nat.le_trans hgs3 ht5.size
      obtain ⟨cs5, hcs5⟩ : ∃ cs5, R.cs = cs5 := ⟨_, rfl⟩
      obtain ⟨ws5, hws5⟩ : ∃ ws5, R.ws = ws5 := ⟨_, rfl⟩
      obtain ⟨r, hr⟩ : ∃ r, R.r = r := ⟨_, rfl⟩
      rw [hcs5, hws5] at hp5 HI5
      rw [hr]
      have hal5 := (Below.refl w5.heap.size w5).alloc (Nat.le_refl _) (.map #[] 0)
      have hk6 : Kx w G g w5.heap.size 0 v' cs5 ws5 (seenF cs5 0) (w5.alloc (.map #[] 0)) := ⟨hp5.keep hal5, (SeenM.made w5).congr (fun x => rfl), hB5.trans (hal5.mono hgs5), Nat.le_trans hgs5 hal5.size⟩
      have hmm := @run_makeMap Try.prog
      have hGM : G ≤ w5.heap.size := hgs5
      clear hp5 ht5 hB5 x0 x1 CD hal5 hcs5 hws5 hr HX HP HB hgs3
      go_upto_region 10 with (fail)
      change Code.wp _ _ _ _ (w5.alloc (.map #[] 0))
      generalize w5.heap.size = M at hk6 hGM ⊢
      generalize (w5.alloc (.map #[] 0)) = W6 at hk6 ⊢
      have CC := conns_any W6 G g v' cs5 ws5 hk6.pl
      have HK6 := Lib.hid hk6
      have CC := Lib.hid CC
      clear hk6 hgs5 hmm
      go_wp2_with fail
      refine CC.out.mono ?_
      rintro e w7 ⟨vc, rfl, hO7, hB7⟩
      have hk7 := HK6.out.keep hB7
      obtain ⟨A7, c7, rfl, hin7⟩ := InS.own hO7 (by have := hk7.pl.c8; omega)
      obtain ⟨nc, hnc⟩ : ∃ nc, cs5.length = nc := ⟨_, rfl⟩
      have hnc8 : nc ≤ 8 := hnc ▸ hk7.pl.c8
      rw [hnc]
      have HNC := Lib.hid hnc
      have H2 : Hid (K2 w G g M v' cs5 ws5 A7 c7 (.int .i64 0) (.bool false) (.int .i64 0) w7) := (show K2 _ _ _ _ _ _ _ _ _ _ _ _ _ from ⟨0, rfl, Nat.zero_le _, rfl, rfl, hk7, hin7⟩)
      clear hO7 hB7 hk7 hin7 hnc CC HK6
      go_wp2
      go_loopw [8, 9, 41] (fun s8 s9 s41 wr => K2 w G g M v' cs5 ws5 A7 c7 s8 s9 s41 wr) (fun _ _ s41 _ => nc - (intOf s41).toNat)
      case atStart => exact H2.out
      case round =>
        clear H2
        obtain ⟨j, rfl, hj, rfl, rfl, hkx, hin⟩ := hrel
        rw [HNC.out] at hj
        by_cases hjn : j < nc
        · have hjl : j < cs5.length := by rw [HNC.out]; exact hjn
          obtain ⟨b2, off2, rfl, hbb2, hat2⟩ := hin.cn (by omega)
          have hck2 := hat2 j hjl
          have hlast := HI5.out.last hjl
          have hses := HI5.out.ses _ (List.getElem_mem hjl)
          have huns := fun h0 => HI5.out.unseen hjl h0
          have hhas := fun h0 => HI5.out.hasTok hjl h0
          have hsf := fun x => seenF_succ hjl x
          have hidl := idle_succ hjl
          have hlst : lastF cs5 (j + 1) = cs5[j].t := fd_at hjl
          obtain ⟨y, hy⟩ : ∃ y, cs5[j] = y := ⟨_, rfl⟩
          rw [hy] at hck2 hlast hses hlst
          simp only [hy] at huns hhas hsf hidl
          obtain ⟨t, ht⟩ : ∃ t, y.t = t := ⟨_, rfl⟩
          obtain ⟨s, hs⟩ : ∃ s, y.s = s := ⟨_, rfl⟩
          obtain ⟨c0, c1⟩ := hck2
          rw [ht] at c0 hlast hlst
          rw [hs] at c1 hses
          simp only [hs] at huns hsf hidl
          simp only [hs, ht] at hhas
          have HSF := Lib.hid hsf
          have HIDL := Lib.hid hidl
          have HLST := Lib.hid hlst
          have HHAS := Lib.hid hhas
          have HUNS := Lib.hid huns
          obtain ⟨L, hL⟩ : ∃ L, lastF cs5 j = L := ⟨_, rfl⟩
          obtain ⟨I, hI⟩ : ∃ I, idleF cs5 j = I := ⟨_, rfl⟩
          rw [hL] at hlast
          rw [hI] at HIDL
          rw [hL, hI]
          have hal := (Below.refl wr.heap.size wr).alloc (Nat.le_refl _) (.cells #[.int .i64 t, .int .i64 s] 38)
          have hx2 := Blk.new wr 38 #[.int .i64 t, .int .i64 s]
          have hkx2 := hkx.keep hal
          have hin2 := hin.keep hal
          clear hat2 hy ht hs hsf hidl hlst hhas huns hkx hin hL hI hjl
          go_upto_region 15 with (fail)
          change Code.wp _ _ _ _ (wr.alloc (.cells #[.int .i64 t, .int .i64 s] 38))
          generalize wr.heap.size = gy at hx2 ⊢
          generalize (wr.alloc (.cells #[.int .i64 t, .int .i64 s] 38)) = W8 at hx2 hkx2 hin2 ⊢
          clear c0 c1 hal hbb2
          have e1 : decide (t ≤ L) = false := decide_eq_false (by omega)
          have e2 : decide (s < 0) = false := decide_eq_false (by omega)
          have e3 : decide (s > 6) = false := decide_eq_false (by omega)
          have hwf : (Lit.int .i64 s).wf = true := wf_small (by omega) (by omega)
          obtain ⟨KW, hKW⟩ : ∃ KW : World → Prop, KW = fun W => Kx w G g M j v' cs5 ws5 (seenF cs5 j) W ∧ InS cnC 2 W (some ⟨b2, off2, none⟩) c7 cs5 ∧ Blk W gy 38 #[.int .i64 t, .int .i64 s] := ⟨_, rfl⟩
          have KC : ∀ w1 w2, KW w1 → Below w1.heap.size w1 w2 → KW w2 := fun w1 w2 h hb => by rw [hKW] at h ⊢; exact ⟨h.1.keep hb, h.2.1.keep hb, h.2.2.below hb h.2.2.lt⟩
          have KF : ∀ w1, KW w1 → Kx w G g M j v' cs5 ws5 (seenF cs5 j) w1 ∧ InS cnC 2 w1 (some ⟨b2, off2, none⟩) c7 cs5 ∧ Blk w1 gy 38 #[.int .i64 t, .int .i64 s] := fun w1 h => by rw [hKW] at h; exact h
          have K1 : KW W8.drew := KC W8 _ (by rw [hKW]; exact ⟨hkx2, hin2, hx2⟩) (Below.refl _ _).drew
          have F0 : ∀ p : InClass KW, p.w.cell? ⟨gy, 0, none⟩ = some (.int .i64 t) := fun p => ((KF _ p.ok).2.2.cell 0).trans rfl
          have F1 : ∀ p : InClass KW, p.w.cell? ⟨gy, 1, none⟩ = some (.int .i64 s) := fun p => ((KF _ p.ok).2.2.cell 1).trans rfl
          have FL : s ≠ 0 → ∀ p : InClass KW, (Instr.lookup 34 (.map (some M)) (.int .i64 s) false).run Try.prog p.w = .ok (.bool false) p.w := fun h0 p => by
            have := (KF _ p.ok).1.seen.look hwf
            rwa [HUNS.out h0] at this
          haveI NE : Nonempty (InClass KW) := ⟨⟨W8.drew, K1⟩⟩
          have CH : s ≠ 0 → ∀ W, KW W → Calls Try.prog 10 #[.pointer (some ⟨g, 0, none⟩), .int .i64 s] W fun e w' => e = .returned (.int .i64 t) ∧ Below W.heap.size W w' := fun h0 W hW => by
            have := has_any W G g v' cs5 ws5 (KF _ hW).1.pl s
            rwa [HHAS.out h0] at this
          have KC := Lib.hid KC
          have KF := Lib.hid KF
          have CH := Lib.hid CH
          have HWFS := Lib.hid hwf
          clear hKW hkx2 hin2 hx2 hwf
          go_cut [83] (fun x wx => x = .bool false ∧ KW wx)
          case first =>
            by_cases h0 : s = 0
            · have e0 : (s != 0) = false := by simpa using h0
              clear h0 FL CH
              refine wp_region_class_lit KW (by kernel_rfl) (by kernel_rfl) K1 ?_
              repeat (go_big_quiet_step (fail))
              refine wpQuiet_nil ?_
              intro _ hw9
              obtain ⟨p9, hw9⟩ := hw9
              subst hw9
              have k9 := Lib.hid p9.ok
              clear F0 F1 NE
              go_wp2
              go_meet
              case rel => exact ⟨rfl, k9.out⟩
            · have e0 : (s != 0) = true := by simpa using h0
              have FL := FL h0
              have CH := Lib.hid (CH.out h0)
              clear h0
              refine wp_region_class_lit KW (by kernel_rfl) (by kernel_rfl) K1 ?_
              repeat (go_big_quiet_step ((go_at_call 10; refine (CH.out _ (InClass.ok _)).mono ?_; rintro e8 w8 ⟨he, hB8⟩; exact ⟨he, ⟨w8, KC.out _ w8 (InClass.ok _) hB8⟩, rfl⟩)))
              refine wpQuiet_nil ?_
              intro _ hw9
              obtain ⟨p9, hw9⟩ := hw9
              subst hw9
              have k9 := Lib.hid p9.ok
              clear F0 F1 NE FL
              go_wp2
              go_meet
              case rel => exact ⟨rfl, k9.out⟩
          case rest =>
            obtain ⟨rfl, hkw⟩ := hcut
            clear F0 F1 FL NE CH K1 e1 e2 e3
            obtain ⟨hk9, hin9, hx9⟩ := KF.out _ hkw
            obtain ⟨w9, hup, hm9, hg9⟩ := hk9.seen.upd HWFS.out (by unfold maxLen; omega) true
            have hM9 : M ≠ gy := hk9.seen.apartB hx9
            have q0 : wc.cell? ⟨gy, 0, none⟩ = some (.int .i64 t) := by rw [hx9.cell]; rfl
            have q1 : wc.cell? ⟨gy, 1, none⟩ = some (.int .i64 s) := by rw [hx9.cell]; rfl
            have hx10 := hx9.grown hg9 (fun e => hM9 (by injection e with e; exact e.symm))
            have r1 : w9.cell? ⟨gy, 1, none⟩ = some (.int .i64 s) := by rw [hx10.cell]; rfl
            have REL : Hid (K2 w G g M v' cs5 ws5 (some ⟨b2, off2, none⟩) c7 (.int .i64 t) (.bool (I || (s == 0))) (.int .i64 ((j + 1 : Nat) : Int)) w9) := (show K2 _ _ _ _ _ _ _ _ _ _ _ _ _ from ⟨j + 1, rfl, by rw [HNC.out]; omega, by rw [HLST.out], by rw [HIDL.out], hk9.map (hm9.congr HSF.out) hg9 hGM, hin9.map cnC_len (by omega) hk9.seen hg9⟩)
            clear hkw hk9 hin9 hx9 hm9 hg9 hx10 hM9 KC KF
            cases I
            · go_wp2
              go_roundw
              case rel => exact REL.out
              case measure => simp [intOf]; omega
            · go_wp2
              go_roundw
              case rel => exact REL.out
              case measure => simp [intOf]; omega
        · obtain rfl : j = nc := by omega
          clear hjn hj hin
          have hkx : Kx w G g M cs5.length v' cs5 ws5 (seenF cs5 cs5.length) wr := by rw [HNC.out]; exact hkx
          obtain ⟨L, hL⟩ : ∃ L, lastF cs5 j = L := ⟨_, rfl⟩
          obtain ⟨I, hI⟩ : ∃ I, idleF cs5 j = I := ⟨_, rfl⟩
          have HNI : Hid (ws5 ≠ [] → I = false) := Lib.hid (fun h => by have := HI5.out.noIdle h; rw [HNC.out, hI] at this; exact this)
          rw [hL, hI]
          clear hL hI
          have hml : cs5.length < maxLen := by rw [HNC.out]; unfold maxLen; omega
          obtain ⟨w9, hup, hm9, hg9⟩ := hkx.seen.upd (x := 0) (wf_small (by omega) (by omega)) hml false
          have hk9 : Kx w G g M (cs5.length + 1) v' cs5 ws5 (seenG cs5 ws5 0) w9 := hkx.map (hm9.congr (fun x => seenG_zero cs5 ws5 x)) hg9 hGM
          have CW := waits_any w9 G g v' cs5 ws5 hk9.pl
          have HK9 := Lib.hid hk9
          have CW := Lib.hid CW
          clear hkx hm9 hg9 hk9 hml
          go_wp2_with fail
          refine CW.out.mono ?_
          rintro e w10 ⟨vw, rfl, hO10, hB10⟩
          have hk10 := HK9.out.keep hB10
          obtain ⟨Aw, cw, rfl, hin10⟩ := InN.own hO10 HK9.out.pl.inn.wf (by have := hk10.pl.w4; omega)
          obtain ⟨nw, hnw⟩ : ∃ nw, ws5.length = nw := ⟨_, rfl⟩
          have hnw4 : nw ≤ 4 := hnw ▸ hk10.pl.w4
          rw [hnw]
          have HNW := Lib.hid hnw
          have H3 : Hid (K3 w G g M v' cs5 ws5 Aw cw (.int .i64 0) w10) := (show K3 _ _ _ _ _ _ _ _ _ _ _ from ⟨0, rfl, Nat.zero_le _, hk10, hin10⟩)
          clear hO10 hB10 hk10 hin10 hnw CW HK9 hup
          go_wp2
          go_loopw [100] (fun s100 wr => K3 w G g M v' cs5 ws5 Aw cw s100 wr) (fun s100 _ => nw - (intOf s100).toNat)
          case atStart => exact H3.out
          case round =>
            clear H3
            obtain ⟨i, rfl, hi, hkx, hin⟩ := hrel
            rw [HNW.out] at hi
            by_cases hiw : i < nw
            · have hil : i < ws5.length := by rw [HNW.out]; exact hiw
              obtain rfl : I = false := HNI.out (fun e => by rw [e] at hil; exact Nat.not_lt_zero _ hil)
              obtain ⟨b2, off2, rfl, hat2⟩ := hin.all (by omega)
              have hck2 := hat2 i hil
              have hrg := hkx.pl.wr _ (List.getElem_mem hil)
              have huns := HI5.out.unseenW hil
              have hsg := fun x => seenG_succ (cs := cs5) hil (show ws5[i] ≠ 0 by omega) x
              obtain ⟨y, hy⟩ : ∃ y, ws5[i] = y := ⟨_, rfl⟩
              rw [hy] at hck2 hrg huns
              simp only [hy] at hsg
              have hwf : (Lit.int .i64 y).wf = true := wf_small (by omega) (by omega)
              have hlook := hkx.seen.look hwf
              rw [huns] at hlook
              have hml : cs5.length + 1 + i < maxLen := by rw [HNC.out]; unfold maxLen; omega
              obtain ⟨w9', hup, hm9, hg9⟩ := hkx.seen.upd hwf hml true
              have e1 : decide (y < 1) = false := decide_eq_false (by omega)
              have e2 : decide (y > 6) = false := decide_eq_false (by omega)
              have REL : Hid (K3 w G g M v' cs5 ws5 (some ⟨b2, off2, none⟩) cw (.int .i64 ((i + 1 : Nat) : Int)) w9') := (show K3 _ _ _ _ _ _ _ _ _ _ _ from ⟨i + 1, rfl, by rw [HNW.out]; omega, hkx.map (hm9.congr hsg) hg9 hGM, hin.map hkx.seen hg9⟩)
              clear hat2 hy hsg huns hrg hkx hin hm9 hg9 hml hwf hil
              go_wp2
              go_roundw
              case rel => exact REL.out
              case measure => simp [intOf]; omega
            · obtain rfl : i = nw := by omega
              clear hin hiw hi
              have h8 : decide ((j : Int) > 8) = false := decide_eq_false (by omega)
              have h4 : decide ((i : Int) > 4) = false := decide_eq_false (by omega)
              have CC := conns_any wr G g v' cs5 ws5 hkx.pl
              have HKX := Lib.hid hkx
              have CC := Lib.hid CC
              clear hkx
              go_wp2_with fail
              refine CC.out.mono ?_
              rintro e w11 ⟨vc, rfl, hO11, hB11⟩
              have hk11 := HKX.out.keep hB11
              obtain ⟨A11, c11, rfl, -⟩ := InS.own hO11 (by have := hk11.pl.c8; omega)
              rw [HNC.out]
              have CW := waits_any w11 G g v' cs5 ws5 hk11.pl
              have HKX := Lib.hid hk11
              have CW := Lib.hid CW
              clear hk11 hO11 hB11 CC
              go_wp2_with fail
              refine CW.out.mono ?_
              rintro e w12 ⟨vw, rfl, hO12, hB12⟩
              have hk12 := HKX.out.keep hB12
              obtain ⟨A12, c12, rfl, -⟩ := InN.own hO12 HKX.out.pl.inn.wf (by have := hk12.pl.w4; omega)
              rw [HNW.out]
              have REL : Hid (PkR w G g n (.int .i64 ((k + 1 : Nat) : Int)) w12) := (show PkR _ _ _ _ _ _ from ⟨k + 1, v', cs5, ws5, rfl, by omega, hk12.pl, HI5.out, hk12.bel⟩)
              clear hk12 hO12 hB12 CW HKX
              go_wp2
              go_roundw
              case rel => exact REL.out
              case measure => simp [intOf]; omega
    · obtain rfl : k = n := by omega
      clear hp hinv hB
      go_wp2
      go_ret
      exact ⟨rfl, HB.out⟩
end Go.Proofs.Ytidkhekekfennaa
