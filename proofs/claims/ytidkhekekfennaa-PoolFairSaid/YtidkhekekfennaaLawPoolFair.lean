/- The walk of the law PoolFair. -/
import Derived.Test.YtidkhekekfennaaOpenOp
import Derived.Test.YtidkhekekfennaaPlP
import Derived.Deep.RegionHeld3
namespace Go.Proofs.Ytidkhekekfennaa
set_option maxRecDepth 100000
set_option linter.unusedVariables false
open Go.RowKit

theorem info_Op : (Try.prog.info? 27).map (·.size) = some 2 := by kernel_rfl
/-- Between two rounds. -/
def PfR (w : World) (G g n : Nat) (s25 : Value) (wr : World) : Prop := ∃ (k : Nat) (v : Value) (cs : List Cn) (ws : List Int), s25 = .int .i64 k ∧ k ≤ n ∧ PlAt wr G g v cs ws ∧ Inv cs ws ∧ Below G w wr
set_option maxHeartbeats 8000000 in
theorem poolFair_row (w : World) {v : Value} (z : OpenOps w v) :
    Calls Try.prog 3 #[v] w fun e w' => e = .returned (.bool true) ∧ Below w.heap.size w w' := by
  obtain ⟨A, c, xs, rfl, hin⟩ := z
  obtain ⟨n, hn⟩ : ∃ n, xs.length = n := ⟨_, rfl⟩
  obtain ⟨G, hG⟩ : ∃ G, w.heap.size = G := ⟨_, rfl⟩
  have HIN := Lib.hid hin
  have HN := Lib.hid hn
  have HG := Lib.hid hG
  have CL := live18_any w
  rw [hn, hG]
  rw [hG] at CL
  have CL := Lib.hid CL
  have hsm := hin.small
  rw [hn] at hsm
  clear hin hn hG
  go_enter Try.func3, Try.ntmps3
  go_wp2_with fail
  refine CL.out.mono ?_
  rintro e w1 ⟨rfl, hB1⟩
  have HB1 := Lib.hid hB1
  have hg1 : G ≤ w1.heap.size := HG.out ▸ hB1.size
  have CN := pool_New_any w1
  obtain ⟨g, hg⟩ : ∃ g, w1.heap.size = g := ⟨_, rfl⟩
  rw [hg] at CN
  have CN := Lib.hid CN
  have HGg : Hid (G ≤ g) := hg ▸ hg1
  clear hB1 hg1 hg
  go_wp2_with fail
  refine CN.out.mono ?_
  rintro e w2 ⟨rfl, hp, hB2⟩
  have HP := Lib.hid (hp.lower HGg.out)
  have HB2 := Lib.hid (HB1.out.trans (hB2.mono HGg.out))
  clear hp hB2 CN CL HB1
  by_cases h300 : n > 300
  · have h3 : decide ((n : Int) > 300) = true := decide_eq_true (by omega)
    clear h300
    go_wp2
    go_ret
    exact ⟨rfl, HB2.out⟩
  have h3 : decide ((n : Int) > 300) = false := decide_eq_false (by omega)
  clear h300
  go_wp2
  go_loopw [25] (fun s25 wr => PfR w G g n s25 wr) (fun s25 _ => n - (intOf s25).toNat)
  case atStart => exact ⟨0, _, [], [], rfl, Nat.zero_le _, HP.out, Inv.nil, HB2.out⟩
  case round =>
    clear HP HB2 h3
    obtain ⟨k, v, cs, ws, rfl, hk, hp, hinv, hB⟩ := hrel
    have HP := Lib.hid hp
    have HI := Lib.hid hinv
    have HB := Lib.hid hB
    have hgs : G ≤ wr.heap.size := by have h1 := hB.size; have h2 := HG.out; omega
    by_cases hkn : k < n
    · have hkl : k < xs.length := by rw [HN.out]; exact hkn
      obtain ⟨b, off, rfl, hbb, hat⟩ := (HIN.out.keep (HG.out ▸ hB)).po (by omega)
      obtain ⟨y, hy⟩ : ∃ y, xs[k] = y := ⟨_, rfl⟩
      have hck := hat k hkl
      rw [hy] at hck
      obtain ⟨c0, c1⟩ := hck
      obtain ⟨d, hd⟩ : ∃ d, y.d = d := ⟨_, rfl⟩
      obtain ⟨m, hm⟩ : ∃ m, y.n = m := ⟨_, rfl⟩
      rw [hd] at c0
      rw [hm] at c1
      clear hat hy hp hinv hB hkl hd hm
      go_upto_region 8 with (fail)
      have hal := (Below.refl wr.heap.size wr).alloc (Nat.le_refl _) (.cells #[.int .i64 d, .int .i64 m] 27)
      have hxw := Blk.new wr 27 #[.int .i64 d, .int .i64 m]
      change Code.wp _ _ _ _ (wr.alloc (.cells #[.int .i64 d, .int .i64 m] 27))
      have HP0 := HP
      have HP := Lib.hid (HP.out.keep hal)
      have HB := Lib.hid (HB.out.trans (hal.mono hgs))
      have hnp : ¬ PB g v wr.heap.size := fun pb => absurd (HP0.out.lts _ pb).2 (Nat.lt_irrefl _)
      have hgs3 : G ≤ (wr.alloc (.cells #[.int .i64 d, .int .i64 m] 27)).heap.size := Nat.le_trans hgs hal.size
      generalize wr.heap.size = gx at hxw hnp ⊢
      generalize (wr.alloc (.cells #[.int .i64 d, .int .i64 m] 27)) = W3 at hxw HP HB hgs3 ⊢
      have HNP := Lib.hid hnp
      clear hal c0 c1 hbb hgs hnp HP0
      have CW := waits_any W3 G g v cs ws HP.out
      have HX := Lib.hid hxw
      have CW := Lib.hid CW
      clear hxw
      go_wp2_with fail
      refine CW.out.mono ?_
      rintro e w4 ⟨vw, rfl, hO, hB4⟩
      obtain ⟨A7, c7, rfl⟩ := own_slice hO
      have HP4 := Lib.hid (HP.out.keep hB4)
      have HX4 := HX.out.below hB4 HX.out.lt
      have HB4 := Lib.hid (HB.out.trans (hB4.mono hgs3))
      have hgs4 : G ≤ w4.heap.size := Nat.le_trans hgs3 hB4.size
      have hlt3 : ∀ b, PB g v b → b < W3.heap.size := fun b q => (HP.out.lts b q).2
      have hWf : Wfs .i64 ws := HP.out.inn.wf
      have CD := do_any w4 G g v cs ws HP4.out HI.out.srt hgs4 d m
      have HI5 := Lib.hid (HI.out.doP d m)
      have HF := Lib.hid (fun hr => fair HI.out d m hr)
      obtain ⟨R, hR⟩ : ∃ R, doP cs ws d m = R := ⟨_, rfl⟩
      rw [hR] at CD HI5 HF
      have x0 : w4.cell? ⟨gx, 0, none⟩ = some (.int .i64 d) := by rw [HX4.cell]; rfl
      have x1 : w4.cell? ⟨gx, 1, none⟩ = some (.int .i64 m) := by rw [HX4.cell]; rfl
      have HX4 := Lib.hid HX4
      have HO := Lib.hid hO
      have HLT3 := Lib.hid hlt3
      have HWF := Lib.hid hWf
      have CD := Lib.hid CD
      obtain ⟨q, hq⟩ : ∃ q, ws.length = q := ⟨_, rfl⟩
      rw [hq] at HO ⊢
      have HQ := Lib.hid hq
      clear hB4 hO HP HX hgs3 hlt3 hWf hR CW hq
      go_wp2_with fail
      refine CD.out.mono ?_
      rintro e w5 hp
      obtain ⟨v', rfl, hp5, ht5, -⟩ := hp
      have HP5 := Lib.hid hp5
      have hB5 : Below G w w5 := HB4.out.trans (ht5.below (B := G) (fun j _ hj => (HP4.out.lts j hj).1) hgs4)
      have HB5 := Lib.hid hB5
      have hgs5 : G ≤ w5.heap.size := Nat.le_trans hgs4 ht5.size
      have hX5 := HX4.out.tr ht5 (HNP.out)
      have x5 : w5.cell? ⟨gx, 0, none⟩ = some (.int .i64 d) := by rw [hX5.cell]; rfl
      have hO5 := own_tr HO.out ht5 (fun b e pb => by
        have h1 := (HO.out.lt b e).1
        have h2 := HLT3.out b pb
        omega)
      have HO5 : Hid (InN .i64 w5 A7 c7 ws) := InN.own_at (e := 3) (base := W3.heap.size) (by rw [HQ.out]; exact hO5) HWF.out (by rw [HQ.out]; have := HP4.out.w4; have := HQ.out; omega)
      have REL : Hid (PfR w G g n (.int .i64 ((k + 1 : Nat) : Int)) w5) := (show PfR _ _ _ _ _ _ from ⟨k + 1, v', R.cs, R.ws, rfl, hkn, hp5, HI5.out, hB5⟩)
      obtain ⟨r, hr⟩ : ∃ r, R.r = r := ⟨_, rfl⟩
      rw [hr] at HF ⊢
      clear hp5 ht5 hB5 hX5 hO5 x0 x1 CD HX4 HO HB4 hgs4 HLT3 hr
      by_cases h1 : d = 1
      · have e1 : (d == 1) = true := by simpa using h1
        clear h1
        go_wp2
        go_roundw
        case rel => exact REL.out
        case measure => simp [intOf]; omega
      have e1 : (d == 1) = false := by simpa using h1
      clear h1
      by_cases h4 : d > 4
      · go_wp2
        go_roundw
        case rel => exact REL.out
        case measure => simp [intOf]; omega
      have e4 : decide (d > 4) = false := decide_eq_false h4
      by_cases h0 : d < 0
      · go_wp2
        go_roundw
        case rel => exact REL.out
        case measure => simp [intOf]; omega
      have e0 : decide (d < 0) = false := decide_eq_false h0
      go_upto_region 11 with (fail)
      go_cut [74] (fun x wx => x = .bool false ∧ PfR w G g n (.int .i64 ((k + 1 : Nat) : Int)) wx)
      case first =>
        by_cases hr : r = 0
        · have er : (r != 0) = false := by simpa using hr
          have REL2 : Hid (PfR w G g n (.int .i64 ((k + 1 : Nat) : Int)) w5.drew) := (by
            obtain ⟨k', v', cs', ws', a1, a2, a3, a4, a5⟩ := REL.out
            exact (show PfR _ _ _ _ _ _ from ⟨k', v', cs', ws', a1, a2, a3.drew, a4, a5.drew⟩))
          clear hr
          go_quiet (fail)
          go_wp2
          go_meet
          case rel =>
            refine ⟨rfl, ?_⟩
            obtain ⟨k', v', cs', ws', a1, a2, a3, a4, a5⟩ := REL.out
            exact (show PfR _ _ _ _ _ _ from ⟨k', v', cs', ws', a1, a2, ⟨a3.blk, a3.row, a3.gb, a3.c8, a3.w4, a3.wr⟩, a4, below_drewN a5 _⟩)
        · obtain ⟨ws', hws, hRw, hhas⟩ := HF.out hr
          have hin5 := HO5.out
          rw [hws] at hin5
          have hqq : q = ws'.length + 1 := by rw [← HQ.out, hws]; rfl
          obtain ⟨b7, o7, rfl, hat7⟩ := hin5.all (by simp)
          have z7 : w5.drew.cell? ⟨b7, o7, none⟩ = some (.int .i64 r) := by
            have := hat7 0 (by simp)
            simpa using this
          have er : (r != 0) = true := by simpa using hr
          have er2 : (r == 0) = false := by simpa using hr
          have CH := has_any w5.drew G g v' R.cs R.ws HP5.out.drew r
          obtain ⟨hh, hhh⟩ : ∃ hh, hasP R.cs r = hh := ⟨_, rfl⟩
          rw [hhh] at CH hhas
          have eh : (hh == 0) = false := by simpa using hhas
          have CW2 := Lib.hid (fun W h => waits_any W G g v' R.cs R.ws h)
          have CH := Lib.hid CH
          have hc7 : q ≤ c7 := by have := HO5.out.cap; rw [HQ.out] at this; exact this
          have hq4 : q ≤ 4 := by have h1 := HP4.out.w4; have h2 := HQ.out; omega
          have hq0 : ((q : Int) == 0) = false := by simp; omega
          have hq1 : 1 ≤ q := by omega
          have hq1' : (1 : Int) ≤ (q : Int) := by omega
          have hc7i : (1 : Int) ≤ (c7 : Int) := by omega
          -- what is left of the first list, in any later world
          have hin1 : ∀ W : World, Below w5.heap.size w5 W → Hid (InN .i64 W (if c7 = 1 then some ⟨b7, o7, none⟩ else some ⟨b7, o7 + 1, none⟩) (c7 - 1) ws') := fun W hb => by
            have h1 := hin5.keep hb
            have h2 := h1.reads.cut (k := 1) (cap := c7) (by simp) h1.cap
            refine (show InN .i64 W _ _ ws' from ⟨?_, fun x hx => h1.wf x (List.mem_cons_of_mem _ hx), by have := h1.cap; simp at this; omega, by have := h1.small; simp at this; omega⟩)
            have e1 : (Option.map (fun x => x.add (1 * 1)) (some (⟨b7, o7, none⟩ : Addr))) = some ⟨b7, o7 + 1, none⟩ := by simp [add_plain]
            rw [e1] at h2
            have e2 : (r :: ws').length - 1 = ws'.length := by simp
            rw [e2] at h2
            simpa [nums] using h2
          have HIN1 := Lib.hid hin1
          have HRW := Lib.hid hRw
          have HQQ : Hid (ws'.length = q - 1) := (show _ = _ by omega)
          clear hr hws hRw hhas hin5 hqq hat7 hhh hin1
          have hb7 : b7 < w5.heap.size := by have := World.block_lt_of_cell? _ _ z7; simpa using this
          by_cases hc1 : c7 = 1
          · obtain rfl : q = 1 := by omega
            subst hc1
            have HQQ : Hid (ws'.length = 0) := (show _ = _ from HQQ.out)
            refine wp_region_held_drew (S := fun w' => w'.cell? ⟨b7, o7, none⟩ = some (.int .i64 r)) (by kernel_rfl) z7 (fun hHeld => ?_)
            refine wpAnyH_take (i := 0) (v := ?v1) rfl (by kernel_rfl) (by kernel_rfl) (by kernel_rfl) (fun _ _ _ h => h) (Or.inl ⟨by rfl, ?y1⟩) (by assumption) ?r1
            case y1 => (intro w hSw; (try dsimp only at hSw); (try go_simp); first | done | with_reducible rfl)
            ((try simp only [List.getElem_toArray, List.getElem_cons_zero]); (try simp only [Act.put, List.setIfInBounds_toArray, List.set_cons_zero, List.set_cons_succ]))
            refine wpAnyH_take (i := 1) (v := (.bool true)) rfl (by kernel_rfl) (by kernel_rfl) (by kernel_rfl) (fun _ _ _ h => h) (Or.inl ⟨by rfl, ?y1002⟩) (by assumption) ?r1002
            case y1002 => (intro w hSw; (try dsimp only at hSw); (try go_simp); first | done | with_reducible rfl)
            ((try simp only [List.getElem_toArray, List.getElem_cons_succ, List.getElem_cons_zero]); (try simp only [Act.put, List.setIfInBounds_toArray, List.set_cons_zero, List.set_cons_succ]))
            refine wpAnyH_take (i := 2) (v := ?v2003) rfl (by kernel_rfl) (by kernel_rfl) (by kernel_rfl) (fun _ _ _ h => h) (Or.inl ⟨by rfl, ?y2003⟩) (by assumption) ?r2003
            case y2003 => (intro w hSw; (try dsimp only at hSw); (try go_simp); first | done | with_reducible rfl)
            ((try simp only [List.getElem_toArray, List.getElem_cons_succ, List.getElem_cons_zero]); (try simp only [Act.put, List.setIfInBounds_toArray, List.set_cons_zero, List.set_cons_succ]))
            refine wpAnyH_take (i := 3) (v := ?v3004) rfl (by kernel_rfl) (by kernel_rfl) (by kernel_rfl) (fun _ _ _ h => h) (Or.inl ⟨by rfl, ?y3004⟩) (by assumption) ?r3004
            case y3004 => (intro w hSw; (try dsimp only at hSw); (try go_simp); first | done | with_reducible rfl)
            ((try simp only [List.getElem_toArray, List.getElem_cons_succ, List.getElem_cons_zero]); (try simp only [Act.put, List.setIfInBounds_toArray, List.set_cons_zero, List.set_cons_succ]))
            refine wpAnyH_take (i := 4) (v := ?v4005) rfl (by kernel_rfl) (by kernel_rfl) (by kernel_rfl) (fun _ _ _ h => h) (Or.inl ⟨by rfl, ?y4005⟩) (by assumption) ?r4005
            case y4005 => (intro w hSw; (try dsimp only at hSw); (try go_simp); first | done | with_reducible rfl)
            ((try simp only [List.getElem_toArray, List.getElem_cons_succ, List.getElem_cons_zero]); (try simp only [Act.put, List.setIfInBounds_toArray, List.set_cons_zero, List.set_cons_succ]))
            refine wpAnyH_take (i := 5) (v := (.bool false)) rfl (by kernel_rfl) (by kernel_rfl) (by kernel_rfl) (fun _ _ _ h => h) (Or.inl ⟨by rfl, ?y5006⟩) (by assumption) ?r5006
            case y5006 => (intro w hSw; (try dsimp only at hSw); (try go_simp); first | done | with_reducible rfl)
            ((try simp only [List.getElem_toArray, List.getElem_cons_succ, List.getElem_cons_zero]); (try simp only [Act.put, List.setIfInBounds_toArray, List.set_cons_zero, List.set_cons_succ]))
            refine wpAnyH_take (i := 6) (v := ?v6007) rfl (by kernel_rfl) (by kernel_rfl) (by kernel_rfl) (fun _ _ _ h => h) (Or.inl ⟨by rfl, ?y6007⟩) (by assumption) ?r6007
            case y6007 => (intro w hSw; (try dsimp only at hSw); (try go_simp); first | done | with_reducible rfl)
            ((try simp only [List.getElem_toArray, List.getElem_cons_succ, List.getElem_cons_zero]); (try simp only [Act.put, List.setIfInBounds_toArray, List.set_cons_zero, List.set_cons_succ]))
            refine wpAnyH_take (i := 7) (v := ?v7008) rfl (by kernel_rfl) (by kernel_rfl) (by kernel_rfl) (fun _ _ _ h => h) (Or.inl ⟨by rfl, ?y7008⟩) (by assumption) ?r7008
            case y7008 => (intro w hSw; (try dsimp only at hSw); (try go_simp); first | done | with_reducible rfl)
            ((try simp only [List.getElem_toArray, List.getElem_cons_succ, List.getElem_cons_zero]); (try simp only [Act.put, List.setIfInBounds_toArray, List.set_cons_zero, List.set_cons_succ]))
            refine wpAnyH_take (i := 8) (v := ?v8009) rfl (by kernel_rfl) (by kernel_rfl) (by kernel_rfl) (fun _ _ _ h => h) (Or.inl ⟨by rfl, ?y8009⟩) (by assumption) ?r8009
            case y8009 => (intro w hSw; (try dsimp only at hSw); (try go_simp); first | done | with_reducible rfl)
            ((try simp only [List.getElem_toArray, List.getElem_cons_succ, List.getElem_cons_zero]); (try simp only [Act.put, List.setIfInBounds_toArray, List.set_cons_zero, List.set_cons_succ]))
            refine wpAnyH_take (i := 9) (v := ?v9010) rfl (by kernel_rfl) (by kernel_rfl) (by kernel_rfl) (fun _ _ _ h => h) (Or.inl ⟨by rfl, ?y9010⟩) (by assumption) ?r9010
            case y9010 => (intro w hSw; (try dsimp only at hSw); (try go_simp); first | done | with_reducible rfl)
            ((try simp only [List.getElem_toArray, List.getElem_cons_succ, List.getElem_cons_zero]); (try simp only [Act.put, List.setIfInBounds_toArray, List.set_cons_zero, List.set_cons_succ]))
            refine wpAnyH_take (i := 10) (v := ?v10011) rfl (by kernel_rfl) (by kernel_rfl) (by kernel_rfl) (fun _ _ _ h => h) (Or.inl ⟨by rfl, ?y10011⟩) (by assumption) ?r10011
            case y10011 => (intro w hSw; (try dsimp only at hSw); (try go_simp); first | done | with_reducible rfl)
            ((try simp only [List.getElem_toArray, List.getElem_cons_succ, List.getElem_cons_zero]); (try simp only [Act.put, List.setIfInBounds_toArray, List.set_cons_zero, List.set_cons_succ]))
            refine wpAnyH_take (i := 11) (v := (.bool false)) rfl (by kernel_rfl) (by kernel_rfl) (by kernel_rfl) (fun _ _ _ h => h) (Or.inl ⟨by rfl, ?y11012⟩) (by assumption) ?r11012
            case y11012 => (intro w hSw; (try dsimp only at hSw); (try go_simp); first | done | with_reducible rfl)
            ((try simp only [List.getElem_toArray, List.getElem_cons_succ, List.getElem_cons_zero]); (try simp only [Act.put, List.setIfInBounds_toArray, List.set_cons_zero, List.set_cons_succ]))
            refine wpAnyH_take (i := 12) (v := ?v12013) rfl (by kernel_rfl) (by kernel_rfl) (by kernel_rfl) (fun _ _ _ h => h) (Or.inl ⟨by rfl, ?y12013⟩) (by assumption) ?r12013
            case y12013 => (intro w hSw; (try dsimp only at hSw); (try go_simp); first | done | with_reducible rfl)
            ((try simp only [List.getElem_toArray, List.getElem_cons_succ, List.getElem_cons_zero]); (try simp only [Act.put, List.setIfInBounds_toArray, List.set_cons_zero, List.set_cons_succ]))
            refine wpAnyH_take (i := 13) (v := ?v13014) rfl (by kernel_rfl) (by kernel_rfl) (by kernel_rfl) (fun _ _ _ h => h) (Or.inl ⟨by rfl, ?y13014⟩) (by assumption) ?r13014
            case y13014 => (intro w hSw; (try dsimp only at hSw); (try go_simp); first | done | with_reducible rfl)
            ((try simp only [List.getElem_toArray, List.getElem_cons_succ, List.getElem_cons_zero]); (try simp only [Act.put, List.setIfInBounds_toArray, List.set_cons_zero, List.set_cons_succ]))
            refine wpAnyH_take (i := 14) (v := ?v14015) rfl (by kernel_rfl) (by kernel_rfl) (by kernel_rfl) (fun _ _ _ h => h) (Or.inl ⟨by rfl, ?y14015⟩) (by assumption) ?r14015
            case y14015 => (intro w hSw; (try dsimp only at hSw); (try go_simp); first | done | with_reducible rfl)
            ((try simp only [List.getElem_toArray, List.getElem_cons_succ, List.getElem_cons_zero]); (try simp only [Act.put, List.setIfInBounds_toArray, List.set_cons_zero, List.set_cons_succ]))
            refine wpAnyH_take (i := 15) (v := ?v15016) rfl (by kernel_rfl) (by kernel_rfl) (by kernel_rfl) (fun _ _ _ h => h) (Or.inl ⟨by rfl, ?y15016⟩) (by assumption) ?r15016
            case y15016 => (intro w hSw; (try dsimp only at hSw); (try go_simp); first | done | with_reducible rfl)
            ((try simp only [List.getElem_toArray, List.getElem_cons_succ, List.getElem_cons_zero]); (try simp only [Act.put, List.setIfInBounds_toArray, List.set_cons_zero, List.set_cons_succ]))
            refine wpAnyH_ready (rs := [16]) (by kernel_rfl) (by simp) ?_
            refine AllReadyH.cons rfl (fun K hK => ?_) AllReadyH.nil
            go_simp
            refine CH.out.mono ?_
            rintro e w6 ⟨rfl, hB6⟩
            have HP6 := Lib.hid (HP5.out.drew.keep hB6)
            have z6 : w6.cell? ⟨b7, o7, none⟩ = some (.int .i64 r) := (hB6.cell (p := ⟨b7, o7, none⟩) hb7).trans z7
            have HB6 := Lib.hid ((show Below w5.heap.size w5 w5.drew from (Below.refl _ _).drew).trans hB6)
            clear hB6
            go_simp
            refine hK.out _ _ (z6) (fun hHeld2 => ?_)
            clear hK K hHeld
            have hHeld := hHeld2
            clear hHeld2
            ((try simp only [List.getElem_toArray, List.getElem_cons_succ, List.getElem_cons_zero]); (try simp only [Act.put, List.setIfInBounds_toArray, List.set_cons_zero, List.set_cons_succ]))
            refine wpAnyH_take (i := 17) (v := (.bool false)) rfl (by kernel_rfl) (by kernel_rfl) (by kernel_rfl) (fun _ _ _ h => h) (Or.inl ⟨by rfl, ?y17017⟩) (by assumption) ?r17017
            case y17017 => (intro w hSw; (try dsimp only at hSw); (try go_simp); first | done | with_reducible rfl)
            ((try simp only [List.getElem_toArray, List.getElem_cons_succ, List.getElem_cons_zero]); (try simp only [Act.put, List.setIfInBounds_toArray, List.set_cons_zero, List.set_cons_succ]))
            refine wpAnyH_take (i := 18) (v := ?v18018) rfl (by kernel_rfl) (by kernel_rfl) (by kernel_rfl) (fun _ _ _ h => h) (Or.inl ⟨by rfl, ?y18018⟩) (by assumption) ?r18018
            case y18018 => (intro w hSw; (try dsimp only at hSw); (try go_simp); first | done | with_reducible rfl)
            ((try simp only [List.getElem_toArray, List.getElem_cons_succ, List.getElem_cons_zero]); (try simp only [Act.put, List.setIfInBounds_toArray, List.set_cons_zero, List.set_cons_succ]))
            refine wpAnyH_take (i := 19) (v := ?v19019) rfl (by kernel_rfl) (by kernel_rfl) (by kernel_rfl) (fun _ _ _ h => h) (Or.inl ⟨by rfl, ?y19019⟩) (by assumption) ?r19019
            case y19019 => (intro w hSw; (try dsimp only at hSw); (try go_simp); first | done | with_reducible rfl)
            ((try simp only [List.getElem_toArray, List.getElem_cons_succ, List.getElem_cons_zero]); (try simp only [Act.put, List.setIfInBounds_toArray, List.set_cons_zero, List.set_cons_succ]))
            refine wpAnyH_take (i := 20) (v := ?v20020) rfl (by kernel_rfl) (by kernel_rfl) (by kernel_rfl) (fun _ _ _ h => h) (Or.inl ⟨by rfl, ?y20020⟩) (by assumption) ?r20020
            case y20020 => (intro w hSw; (try dsimp only at hSw); (try go_simp); first | done | with_reducible rfl)
            ((try simp only [List.getElem_toArray, List.getElem_cons_succ, List.getElem_cons_zero]); (try simp only [Act.put, List.setIfInBounds_toArray, List.set_cons_zero, List.set_cons_succ]))
            refine wpAnyH_take (i := 22) (v := ?v22021) rfl (by kernel_rfl) (by kernel_rfl) (by kernel_rfl) (fun _ _ _ h => h) (Or.inl ⟨by rfl, ?y22021⟩) (by assumption) ?r22021
            case y22021 => (intro w hSw; (try dsimp only at hSw); (try go_simp); first | done | with_reducible rfl)
            ((try simp only [List.getElem_toArray, List.getElem_cons_succ, List.getElem_cons_zero]); (try simp only [Act.put, List.setIfInBounds_toArray, List.set_cons_zero, List.set_cons_succ]))
            refine wpAnyH_take (i := 23) (v := ?v23022) rfl (by kernel_rfl) (by kernel_rfl) (by kernel_rfl) (fun _ _ _ h => h) (Or.inl ⟨by rfl, ?y23022⟩) (by assumption) ?r23022
            case y23022 => (intro w hSw; (try dsimp only at hSw); (try go_simp); first | done | with_reducible rfl)
            ((try simp only [List.getElem_toArray, List.getElem_cons_succ, List.getElem_cons_zero]); (try simp only [Act.put, List.setIfInBounds_toArray, List.set_cons_zero, List.set_cons_succ]))
            refine wpAnyH_ready (rs := [21]) (by kernel_rfl) (by simp) ?_
            refine AllReadyH.cons rfl (fun K hK => ?_) AllReadyH.nil
            go_simp
            refine (CW2.out _ HP6.out).mono ?_
            rintro e w7 ⟨vw2, rfl, hO7, hB7⟩
            obtain ⟨A8, c8, rfl⟩ := own_slice hO7
            have HP7 := Lib.hid (HP6.out.keep hB7)
            have HB7 := Lib.hid (HB6.out.trans (hB7.mono HB6.out.size))
            have z7b : w7.cell? ⟨b7, o7, none⟩ = some (.int .i64 r) := (hB7.cell (p := ⟨b7, o7, none⟩) (Nat.lt_of_lt_of_le hb7 HB6.out.size)).trans z6
            have hin7 : InN .i64 w7 A8 c8 R.ws := InN.own_at hO7 HP6.out.inn.wf (by have := HP6.out.w4; omega)
            have hlen7 : R.ws.length = 0 := by rw [HRW.out]; exact HQQ.out
            have hin8 := HIN1.out w7 HB7.out
            have CS := r03_Same_any w7 A8 _ c8 _ R.ws ws' hin7 hin8.out
            rw [hlen7, HQQ.out, decide_eq_true HRW.out] at CS
            rw [hlen7]
            rw [if_pos rfl] at CS
            have CS := Lib.hid CS
            clear hO7 hB7 hin7 hlen7 hin8
            go_simp
            refine hK.out _ _ (z7b) (fun hHeld2 => ?_)
            clear hK K hHeld
            have hHeld := hHeld2
            clear hHeld2
            ((try simp only [List.getElem_toArray, List.getElem_cons_succ, List.getElem_cons_zero]); (try simp only [Act.put, List.setIfInBounds_toArray, List.set_cons_zero, List.set_cons_succ]))
            refine wpAnyH_ready (rs := [24]) (by kernel_rfl) (by simp) ?_
            refine AllReadyH.cons rfl (fun K hK => ?_) AllReadyH.nil
            go_simp
            refine CS.out.mono ?_
            rintro e w8 ⟨rfl, nd, rfl⟩
            go_simp
            refine hK.out _ _ (z7b) (fun hHeld2 => ?_)
            clear hK K hHeld
            have hHeld := hHeld2
            clear hHeld2
            ((try simp only [List.getElem_toArray, List.getElem_cons_succ, List.getElem_cons_zero]); (try simp only [Act.put, List.setIfInBounds_toArray, List.set_cons_zero, List.set_cons_succ]))
            refine wpAnyH_take (i := 25) (v := ?v25023) rfl (by kernel_rfl) (by kernel_rfl) (by kernel_rfl) (fun _ _ _ h => h) (Or.inl ⟨by rfl, ?y25023⟩) (by assumption) ?r25023
            case y25023 => (intro w hSw; (try dsimp only at hSw); (try go_simp); first | done | with_reducible rfl)
            ((try simp only [List.getElem_toArray, List.getElem_cons_succ, List.getElem_cons_zero]); (try simp only [Act.put, List.setIfInBounds_toArray, List.set_cons_zero, List.set_cons_succ]))
            refine wpAnyH_take (i := 26) (v := ?v26024) rfl (by kernel_rfl) (by kernel_rfl) (by kernel_rfl) (fun _ _ _ h => h) (Or.inl ⟨by rfl, ?y26024⟩) (by assumption) ?r26024
            case y26024 => (intro w hSw; (try dsimp only at hSw); (try go_simp); first | done | with_reducible rfl)
            ((try simp only [List.getElem_toArray, List.getElem_cons_succ, List.getElem_cons_zero]); (try simp only [Act.put, List.setIfInBounds_toArray, List.set_cons_zero, List.set_cons_succ]))
            refine wpAnyH_take (i := 27) (v := ?v27025) rfl (by kernel_rfl) (by kernel_rfl) (by kernel_rfl) (fun _ _ _ h => h) (Or.inl ⟨by rfl, ?y27025⟩) (by assumption) ?r27025
            case y27025 => (intro w hSw; (try dsimp only at hSw); (try go_simp); first | done | with_reducible rfl)
            ((try simp only [List.getElem_toArray, List.getElem_cons_succ, List.getElem_cons_zero]); (try simp only [Act.put, List.setIfInBounds_toArray, List.set_cons_zero, List.set_cons_succ]))
            refine wpAnyH_done (by kernel_rfl) ?_ _
            go_wp2
            go_meet
            case rel =>
              refine ⟨rfl, ?_⟩
              obtain ⟨k', v2, cs', ws2, a1, a2, a3, a4, a5⟩ := REL.out
              exact (show PfR _ _ _ _ _ _ from ⟨k + 1, v', R.cs, R.ws, rfl, hkn, ⟨HP7.out.blk, HP7.out.row, HP7.out.gb, HP7.out.c8, HP7.out.w4, HP7.out.wr⟩, HI5.out, below_drewN (HB5.out.trans (HB7.out.mono hgs5)) _⟩)
          · skip
            have HC1 := Lib.hid hc1
            have hc1' : ¬ ((c7 : Int) = 1) := by omega
            have hqp : 0 < q := by omega
            refine wp_region_held_drew (S := fun w' => w'.cell? ⟨b7, o7, none⟩ = some (.int .i64 r)) (by kernel_rfl) z7 (fun hHeld => ?_)
            refine wpAnyH_take (i := 0) (v := ?v26) rfl (by kernel_rfl) (by kernel_rfl) (by kernel_rfl) (fun _ _ _ h => h) (Or.inl ⟨by rfl, ?y26⟩) (by assumption) ?r26
            case y26 => (intro w hSw; (try dsimp only at hSw); (try go_simp); first | done | with_reducible rfl)
            ((try simp only [List.getElem_toArray, List.getElem_cons_zero]); (try simp only [Act.put, List.setIfInBounds_toArray, List.set_cons_zero, List.set_cons_succ]))
            refine wpAnyH_take (i := 1) (v := (.bool true)) rfl (by kernel_rfl) (by kernel_rfl) (by kernel_rfl) (fun _ _ _ h => h) (Or.inl ⟨by rfl, ?y1027⟩) (by assumption) ?r1027
            case y1027 => (intro w hSw; (try dsimp only at hSw); (try go_simp); first | done | with_reducible rfl)
            ((try simp only [List.getElem_toArray, List.getElem_cons_succ, List.getElem_cons_zero]); (try simp only [Act.put, List.setIfInBounds_toArray, List.set_cons_zero, List.set_cons_succ]))
            refine wpAnyH_take (i := 2) (v := ?v2028) rfl (by kernel_rfl) (by kernel_rfl) (by kernel_rfl) (fun _ _ _ h => h) (Or.inl ⟨by rfl, ?y2028⟩) (by assumption) ?r2028
            case y2028 => (intro w hSw; (try dsimp only at hSw); (try go_simp); first | done | with_reducible rfl)
            ((try simp only [List.getElem_toArray, List.getElem_cons_succ, List.getElem_cons_zero]); (try simp only [Act.put, List.setIfInBounds_toArray, List.set_cons_zero, List.set_cons_succ]))
            refine wpAnyH_take (i := 3) (v := ?v3029) rfl (by kernel_rfl) (by kernel_rfl) (by kernel_rfl) (fun _ _ _ h => h) (Or.inl ⟨by rfl, ?y3029⟩) (by assumption) ?r3029
            case y3029 => (intro w hSw; (try dsimp only at hSw); (try go_simp); first | done | with_reducible rfl)
            ((try simp only [List.getElem_toArray, List.getElem_cons_succ, List.getElem_cons_zero]); (try simp only [Act.put, List.setIfInBounds_toArray, List.set_cons_zero, List.set_cons_succ]))
            refine wpAnyH_take (i := 4) (v := ?v4030) rfl (by kernel_rfl) (by kernel_rfl) (by kernel_rfl) (fun _ _ _ h => h) (Or.inl ⟨by rfl, ?y4030⟩) (by assumption) ?r4030
            case y4030 => (intro w hSw; (try dsimp only at hSw); (try go_simp); first | done | with_reducible rfl)
            ((try simp only [List.getElem_toArray, List.getElem_cons_succ, List.getElem_cons_zero]); (try simp only [Act.put, List.setIfInBounds_toArray, List.set_cons_zero, List.set_cons_succ]))
            refine wpAnyH_take (i := 5) (v := (.bool false)) rfl (by kernel_rfl) (by kernel_rfl) (by kernel_rfl) (fun _ _ _ h => h) (Or.inl ⟨by rfl, ?y5031⟩) (by assumption) ?r5031
            case y5031 => (intro w hSw; (try dsimp only at hSw); (try go_simp); first | done | with_reducible rfl)
            ((try simp only [List.getElem_toArray, List.getElem_cons_succ, List.getElem_cons_zero]); (try simp only [Act.put, List.setIfInBounds_toArray, List.set_cons_zero, List.set_cons_succ]))
            refine wpAnyH_take (i := 6) (v := ?v6032) rfl (by kernel_rfl) (by kernel_rfl) (by kernel_rfl) (fun _ _ _ h => h) (Or.inl ⟨by rfl, ?y6032⟩) (by assumption) ?r6032
            case y6032 => (intro w hSw; (try dsimp only at hSw); (try go_simp); first | done | with_reducible rfl)
            ((try simp only [List.getElem_toArray, List.getElem_cons_succ, List.getElem_cons_zero]); (try simp only [Act.put, List.setIfInBounds_toArray, List.set_cons_zero, List.set_cons_succ]))
            refine wpAnyH_take (i := 7) (v := ?v7033) rfl (by kernel_rfl) (by kernel_rfl) (by kernel_rfl) (fun _ _ _ h => h) (Or.inl ⟨by rfl, ?y7033⟩) (by assumption) ?r7033
            case y7033 => (intro w hSw; (try dsimp only at hSw); (try go_simp); first | done | with_reducible rfl)
            ((try simp only [List.getElem_toArray, List.getElem_cons_succ, List.getElem_cons_zero]); (try simp only [Act.put, List.setIfInBounds_toArray, List.set_cons_zero, List.set_cons_succ]))
            refine wpAnyH_take (i := 8) (v := ?v8034) rfl (by kernel_rfl) (by kernel_rfl) (by kernel_rfl) (fun _ _ _ h => h) (Or.inl ⟨by rfl, ?y8034⟩) (by assumption) ?r8034
            case y8034 => (intro w hSw; (try dsimp only at hSw); (try go_simp); first | done | with_reducible rfl)
            ((try simp only [List.getElem_toArray, List.getElem_cons_succ, List.getElem_cons_zero]); (try simp only [Act.put, List.setIfInBounds_toArray, List.set_cons_zero, List.set_cons_succ]))
            refine wpAnyH_take (i := 9) (v := ?v9035) rfl (by kernel_rfl) (by kernel_rfl) (by kernel_rfl) (fun _ _ _ h => h) (Or.inl ⟨by rfl, ?y9035⟩) (by assumption) ?r9035
            case y9035 => (intro w hSw; (try dsimp only at hSw); (try go_simp); first | done | with_reducible rfl)
            ((try simp only [List.getElem_toArray, List.getElem_cons_succ, List.getElem_cons_zero]); (try simp only [Act.put, List.setIfInBounds_toArray, List.set_cons_zero, List.set_cons_succ]))
            refine wpAnyH_take (i := 10) (v := ?v10036) rfl (by kernel_rfl) (by kernel_rfl) (by kernel_rfl) (fun _ _ _ h => h) (Or.inl ⟨by rfl, ?y10036⟩) (by assumption) ?r10036
            case y10036 => (intro w hSw; (try dsimp only at hSw); (try go_simp); first | done | with_reducible rfl)
            ((try simp only [List.getElem_toArray, List.getElem_cons_succ, List.getElem_cons_zero]); (try simp only [Act.put, List.setIfInBounds_toArray, List.set_cons_zero, List.set_cons_succ]))
            refine wpAnyH_take (i := 11) (v := (.bool false)) rfl (by kernel_rfl) (by kernel_rfl) (by kernel_rfl) (fun _ _ _ h => h) (Or.inl ⟨by rfl, ?y11037⟩) (by assumption) ?r11037
            case y11037 => (intro w hSw; (try dsimp only at hSw); (try go_simp); first | done | with_reducible rfl)
            ((try simp only [List.getElem_toArray, List.getElem_cons_succ, List.getElem_cons_zero]); (try simp only [Act.put, List.setIfInBounds_toArray, List.set_cons_zero, List.set_cons_succ]))
            refine wpAnyH_take (i := 12) (v := ?v12038) rfl (by kernel_rfl) (by kernel_rfl) (by kernel_rfl) (fun _ _ _ h => h) (Or.inl ⟨by rfl, ?y12038⟩) (by assumption) ?r12038
            case y12038 => (intro w hSw; (try dsimp only at hSw); (try go_simp); first | done | with_reducible rfl)
            ((try simp only [List.getElem_toArray, List.getElem_cons_succ, List.getElem_cons_zero]); (try simp only [Act.put, List.setIfInBounds_toArray, List.set_cons_zero, List.set_cons_succ]))
            refine wpAnyH_take (i := 13) (v := ?v13039) rfl (by kernel_rfl) (by kernel_rfl) (by kernel_rfl) (fun _ _ _ h => h) (Or.inl ⟨by rfl, ?y13039⟩) (by assumption) ?r13039
            case y13039 => (intro w hSw; (try dsimp only at hSw); (try go_simp); first | done | with_reducible rfl)
            ((try simp only [List.getElem_toArray, List.getElem_cons_succ, List.getElem_cons_zero]); (try simp only [Act.put, List.setIfInBounds_toArray, List.set_cons_zero, List.set_cons_succ]))
            refine wpAnyH_take (i := 14) (v := ?v14040) rfl (by kernel_rfl) (by kernel_rfl) (by kernel_rfl) (fun _ _ _ h => h) (Or.inl ⟨by rfl, ?y14040⟩) (by assumption) ?r14040
            case y14040 => (intro w hSw; (try dsimp only at hSw); (try go_simp); first | done | with_reducible rfl)
            ((try simp only [List.getElem_toArray, List.getElem_cons_succ, List.getElem_cons_zero]); (try simp only [Act.put, List.setIfInBounds_toArray, List.set_cons_zero, List.set_cons_succ]))
            refine wpAnyH_take (i := 15) (v := ?v15041) rfl (by kernel_rfl) (by kernel_rfl) (by kernel_rfl) (fun _ _ _ h => h) (Or.inl ⟨by rfl, ?y15041⟩) (by assumption) ?r15041
            case y15041 => (intro w hSw; (try dsimp only at hSw); (try go_simp); first | done | with_reducible rfl)
            ((try simp only [List.getElem_toArray, List.getElem_cons_succ, List.getElem_cons_zero]); (try simp only [Act.put, List.setIfInBounds_toArray, List.set_cons_zero, List.set_cons_succ]))
            refine wpAnyH_ready (rs := [16]) (by kernel_rfl) (by simp) ?_
            refine AllReadyH.cons rfl (fun K hK => ?_) AllReadyH.nil
            go_simp
            refine CH.out.mono ?_
            rintro e w6 ⟨rfl, hB6⟩
            have HP6 := Lib.hid (HP5.out.drew.keep hB6)
            have z6 : w6.cell? ⟨b7, o7, none⟩ = some (.int .i64 r) := (hB6.cell (p := ⟨b7, o7, none⟩) hb7).trans z7
            have HB6 := Lib.hid ((show Below w5.heap.size w5 w5.drew from (Below.refl _ _).drew).trans hB6)
            clear hB6
            go_simp
            refine hK.out _ _ (z6) (fun hHeld2 => ?_)
            clear hK K hHeld
            have hHeld := hHeld2
            clear hHeld2
            ((try simp only [List.getElem_toArray, List.getElem_cons_succ, List.getElem_cons_zero]); (try simp only [Act.put, List.setIfInBounds_toArray, List.set_cons_zero, List.set_cons_succ]))
            refine wpAnyH_take (i := 17) (v := (.bool false)) rfl (by kernel_rfl) (by kernel_rfl) (by kernel_rfl) (fun _ _ _ h => h) (Or.inl ⟨by rfl, ?y17042⟩) (by assumption) ?r17042
            case y17042 => (intro w hSw; (try dsimp only at hSw); (try go_simp); first | done | with_reducible rfl)
            ((try simp only [List.getElem_toArray, List.getElem_cons_succ, List.getElem_cons_zero]); (try simp only [Act.put, List.setIfInBounds_toArray, List.set_cons_zero, List.set_cons_succ]))
            refine wpAnyH_take (i := 18) (v := ?v18043) rfl (by kernel_rfl) (by kernel_rfl) (by kernel_rfl) (fun _ _ _ h => h) (Or.inl ⟨by rfl, ?y18043⟩) (by assumption) ?r18043
            case y18043 => (intro w hSw; (try dsimp only at hSw); (try go_simp); first | done | with_reducible rfl)
            ((try simp only [List.getElem_toArray, List.getElem_cons_succ, List.getElem_cons_zero]); (try simp only [Act.put, List.setIfInBounds_toArray, List.set_cons_zero, List.set_cons_succ]))
            refine wpAnyH_take (i := 19) (v := ?v19044) rfl (by kernel_rfl) (by kernel_rfl) (by kernel_rfl) (fun _ _ _ h => h) (Or.inl ⟨by rfl, ?y19044⟩) (by assumption) ?r19044
            case y19044 => (intro w hSw; (try dsimp only at hSw); (try go_simp); first | done | with_reducible rfl)
            ((try simp only [List.getElem_toArray, List.getElem_cons_succ, List.getElem_cons_zero]); (try simp only [Act.put, List.setIfInBounds_toArray, List.set_cons_zero, List.set_cons_succ]))
            refine wpAnyH_take (i := 20) (v := ?v20045) rfl (by kernel_rfl) (by kernel_rfl) (by kernel_rfl) (fun _ _ _ h => h) (Or.inl ⟨by rfl, ?y20045⟩) (by assumption) ?r20045
            case y20045 => (intro w hSw; (try dsimp only at hSw); (try go_simp); first | done | with_reducible rfl)
            ((try simp only [List.getElem_toArray, List.getElem_cons_succ, List.getElem_cons_zero]); (try simp only [Act.put, List.setIfInBounds_toArray, List.set_cons_zero, List.set_cons_succ]))
            refine wpAnyH_take (i := 22) (v := ?v22046) rfl (by kernel_rfl) (by kernel_rfl) (by kernel_rfl) (fun _ _ _ h => h) (Or.inl ⟨by rfl, ?y22046⟩) (by assumption) ?r22046
            case y22046 => (intro w hSw; (try dsimp only at hSw); (try go_simp); first | done | with_reducible rfl)
            ((try simp only [List.getElem_toArray, List.getElem_cons_succ, List.getElem_cons_zero]); (try simp only [Act.put, List.setIfInBounds_toArray, List.set_cons_zero, List.set_cons_succ]))
            refine wpAnyH_take (i := 23) (v := ?v23047) rfl (by kernel_rfl) (by kernel_rfl) (by kernel_rfl) (fun _ _ _ h => h) (Or.inl ⟨by rfl, ?y23047⟩) (by assumption) ?r23047
            case y23047 => (intro w hSw; (try dsimp only at hSw); (try go_simp); first | done | with_reducible rfl)
            ((try simp only [List.getElem_toArray, List.getElem_cons_succ, List.getElem_cons_zero]); (try simp only [Act.put, List.setIfInBounds_toArray, List.set_cons_zero, List.set_cons_succ]))
            refine wpAnyH_ready (rs := [21]) (by kernel_rfl) (by simp) ?_
            refine AllReadyH.cons rfl (fun K hK => ?_) AllReadyH.nil
            go_simp
            refine (CW2.out _ HP6.out).mono ?_
            rintro e w7 ⟨vw2, rfl, hO7, hB7⟩
            obtain ⟨A8, c8, rfl⟩ := own_slice hO7
            have HP7 := Lib.hid (HP6.out.keep hB7)
            have HB7 := Lib.hid (HB6.out.trans (hB7.mono HB6.out.size))
            have z7b : w7.cell? ⟨b7, o7, none⟩ = some (.int .i64 r) := (hB7.cell (p := ⟨b7, o7, none⟩) (Nat.lt_of_lt_of_le hb7 HB6.out.size)).trans z6
            have hin7 : InN .i64 w7 A8 c8 R.ws := InN.own_at hO7 HP6.out.inn.wf (by have := HP6.out.w4; omega)
            have hlen7 : R.ws.length = q - 1 := by rw [HRW.out]; exact HQQ.out
            have hin8 := HIN1.out w7 HB7.out
            have CS := r03_Same_any w7 A8 _ c8 _ R.ws ws' hin7 hin8.out
            rw [hlen7, HQQ.out, decide_eq_true HRW.out] at CS
            rw [hlen7]
            rw [if_neg HC1.out] at CS
            have CS := Lib.hid CS
            clear hO7 hB7 hin7 hlen7 hin8
            go_simp
            refine hK.out _ _ (z7b) (fun hHeld2 => ?_)
            clear hK K hHeld
            have hHeld := hHeld2
            clear hHeld2
            ((try simp only [List.getElem_toArray, List.getElem_cons_succ, List.getElem_cons_zero]); (try simp only [Act.put, List.setIfInBounds_toArray, List.set_cons_zero, List.set_cons_succ]))
            refine wpAnyH_ready (rs := [24]) (by kernel_rfl) (by simp) ?_
            refine AllReadyH.cons rfl (fun K hK => ?_) AllReadyH.nil
            go_simp
            refine CS.out.mono ?_
            rintro e w8 ⟨rfl, nd, rfl⟩
            go_simp
            refine hK.out _ _ (z7b) (fun hHeld2 => ?_)
            clear hK K hHeld
            have hHeld := hHeld2
            clear hHeld2
            ((try simp only [List.getElem_toArray, List.getElem_cons_succ, List.getElem_cons_zero]); (try simp only [Act.put, List.setIfInBounds_toArray, List.set_cons_zero, List.set_cons_succ]))
            refine wpAnyH_take (i := 25) (v := ?v25048) rfl (by kernel_rfl) (by kernel_rfl) (by kernel_rfl) (fun _ _ _ h => h) (Or.inl ⟨by rfl, ?y25048⟩) (by assumption) ?r25048
            case y25048 => (intro w hSw; (try dsimp only at hSw); (try go_simp); first | done | with_reducible rfl)
            ((try simp only [List.getElem_toArray, List.getElem_cons_succ, List.getElem_cons_zero]); (try simp only [Act.put, List.setIfInBounds_toArray, List.set_cons_zero, List.set_cons_succ]))
            refine wpAnyH_take (i := 26) (v := ?v26049) rfl (by kernel_rfl) (by kernel_rfl) (by kernel_rfl) (fun _ _ _ h => h) (Or.inl ⟨by rfl, ?y26049⟩) (by assumption) ?r26049
            case y26049 => (intro w hSw; (try dsimp only at hSw); (try go_simp); first | done | with_reducible rfl)
            ((try simp only [List.getElem_toArray, List.getElem_cons_succ, List.getElem_cons_zero]); (try simp only [Act.put, List.setIfInBounds_toArray, List.set_cons_zero, List.set_cons_succ]))
            refine wpAnyH_take (i := 27) (v := ?v27050) rfl (by kernel_rfl) (by kernel_rfl) (by kernel_rfl) (fun _ _ _ h => h) (Or.inl ⟨by rfl, ?y27050⟩) (by assumption) ?r27050
            case y27050 => (intro w hSw; (try dsimp only at hSw); (try go_simp); first | done | with_reducible rfl)
            ((try simp only [List.getElem_toArray, List.getElem_cons_succ, List.getElem_cons_zero]); (try simp only [Act.put, List.setIfInBounds_toArray, List.set_cons_zero, List.set_cons_succ]))
            refine wpAnyH_done (by kernel_rfl) ?_ _
            go_wp2
            go_meet
            case rel =>
              refine ⟨rfl, ?_⟩
              obtain ⟨k', v2, cs', ws2, a1, a2, a3, a4, a5⟩ := REL.out
              exact (show PfR _ _ _ _ _ _ from ⟨k + 1, v', R.cs, R.ws, rfl, hkn, ⟨HP7.out.blk, HP7.out.row, HP7.out.gb, HP7.out.c8, HP7.out.w4, HP7.out.wr⟩, HI5.out, below_drewN (HB5.out.trans (HB7.out.mono hgs5)) _⟩)
      case rest =>
        obtain ⟨rfl, hrel⟩ := hcut
        have REL := Lib.hid hrel
        clear hrel
        go_wp2
        go_roundw
        case rel => exact REL.out
        case measure => simp [intOf]; omega
    · obtain rfl : k = n := by omega
      clear hp hinv hB
      go_wp2
      go_ret
      exact ⟨rfl, HB.out⟩
end Go.Proofs.Ytidkhekekfennaa
