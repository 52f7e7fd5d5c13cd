/- The walk of the law PoolGoes. -/
import Derived.Test.YtidkhekekfennaaRpU
import Derived.Test.YtidkhekekfennaaOpenOp
import Derived.BigQuiet
namespace Go.Proofs.Ytidkhekekfennaa
set_option maxRecDepth 100000
set_option linter.unusedVariables false
open Go.RowKit

/-- Between two rounds. -/
def PgR (w : World) (G gx n : Nat) (s4 s31 : Value) (wr : World) : Prop :=
  ∃ (k g : Nat) (v v' u' : Value) (cs : List Cn) (ws : List Int), s31 = .int .i64 k ∧ k ≤ n ∧ s4 = .pointer (some ⟨g, 0, none⟩) ∧ Pg w G g gx v v' u' cs ws cs ws wr ∧ Inv cs ws
set_option maxHeartbeats 16000000 in
theorem poolGoes_row (w : World) {v : Value} (z : OpenOps w v) :
    Calls Try.prog 5 #[v] w fun e w' => e = .returned (.bool true) ∧ Below w.heap.size w w' := by
  obtain ⟨A, c, xs, rfl, hin⟩ := z
  obtain ⟨n, hn⟩ : ∃ n, xs.length = n := ⟨_, rfl⟩
  obtain ⟨G, hG⟩ : ∃ G, w.heap.size = G := ⟨_, rfl⟩
  have HIN := Lib.hid hin
  have HN := Lib.hid hn
  have HG := Lib.hid hG
  have CL := live18_any w
  rw [hn, hG]
  rw [hG] at CL
  have CL := Lib.hid CL
  have hsm := hin.small
  rw [hn] at hsm
  clear hin hn hG
  go_enter Try.func5, Try.ntmps5
  go_wp2_with fail
  refine CL.out.mono ?_
  rintro e w1 ⟨rfl, hB1⟩
  have HB1 := Lib.hid hB1
  have hg1 : G ≤ w1.heap.size := HG.out ▸ hB1.size
  have CN := pool_New_any w1
  obtain ⟨g, hg⟩ : ∃ g, w1.heap.size = g := ⟨_, rfl⟩
  rw [hg] at CN
  have CN := Lib.hid CN
  have HGg : Hid (G ≤ g) := hg ▸ hg1
  clear hB1 hg1 hg
  go_wp2_with fail
  refine CN.out.mono ?_
  rintro e w2 ⟨rfl, hp, hB2⟩
  have hp2 := hp.lower HGg.out
  have hB2' := HB1.out.trans (hB2.mono HGg.out)
  have hgs2 : G ≤ w2.heap.size := Nat.le_trans HGg.out (Nat.le_of_lt hp.lt)
  have hal := (Below.refl w2.heap.size w2).alloc (Nat.le_refl _) (.cells #[.slice none 0 0, .slice none 0 0] 42)
  have hdis : ∀ j, PB g (.slice none 0 0) j → ¬ RB w2.heap.size (.slice none 0 0) (.slice none 0 0) j := fun j hj hr => by
    have hlt := hp2.lt
    rcases hj with q | q
    · rcases hr with q2 | q2 | q2
      · omega
      · cases q2
      · cases q2
    · cases q
  have HPG0 : Hid (Pg w G g w2.heap.size (.slice none 0 0) (.slice none 0 0) (.slice none 0 0) [] [] [] [] (w2.alloc (.cells #[.slice none 0 0, .slice none 0 0] 42))) := Lib.hid
    ⟨hp2.keep hal, (rpool_new w2).lower hgs2, hdis, hB2'.trans (hal.mono hgs2), Nat.le_trans hgs2 hal.size⟩
  clear hp hp2 hB2 hB2' hgs2 hal hdis CN CL HB1
  go_upto_region 4 with (fail)
  generalize w2.heap.size = gx at HPG0 ⊢
  generalize (w2.alloc (.cells #[.slice none 0 0, .slice none 0 0] 42)) = W2 at HPG0 ⊢
  by_cases h300 : n > 300
  · have h3 : decide ((n : Int) > 300) = true := decide_eq_true (by omega)
    clear h300
    go_wp2
    go_ret
    exact ⟨rfl, HPG0.out.bel⟩
  have h3 : decide ((n : Int) > 300) = false := decide_eq_false (by omega)
  clear h300
  go_wp2
  go_loopw [4, 31] (fun s4 s31 wr => PgR w G gx n s4 s31 wr) (fun _ s31 _ => n - (intOf s31).toNat)
  case atStart => exact ⟨0, g, _, _, _, [], [], rfl, Nat.zero_le _, rfl, HPG0.out, Inv.nil⟩
  case round =>
    clear HPG0 h3 HGg
    obtain ⟨k, g, v, v', u', cs, ws, rfl, hk, rfl, hpg, hinv⟩ := hrel
    by_cases hkn : k < n
    · have hkl : k < xs.length := by rw [HN.out]; exact hkn
      obtain ⟨b, off, rfl, hbb, hat⟩ := (HIN.out.keep (HG.out ▸ hpg.bel)).po (by omega)
      obtain ⟨y, hy⟩ : ∃ y, xs[k] = y := ⟨_, rfl⟩
      have hck := hat k hkl
      rw [hy] at hck
      obtain ⟨c0, c1⟩ := hck
      obtain ⟨d, hd⟩ : ∃ d, y.d = d := ⟨_, rfl⟩
      obtain ⟨m, hm⟩ : ∃ m, y.n = m := ⟨_, rfl⟩
      rw [hd] at c0
      rw [hm] at c1
      have hal := (Below.refl wr.heap.size wr).alloc (Nat.le_refl _) (.cells #[.int .i64 d, .int .i64 m] 27)
      have hxw := Blk.new wr 27 #[.int .i64 d, .int .i64 m]
      have hnp : ¬ PB g v wr.heap.size := fun pb => absurd (hpg.pl.lts _ pb).2 (Nat.lt_irrefl _)
      have hpg3 := hpg.keep hal
      have HI := Lib.hid hinv
      clear hat hy hkl hd hm hpg hinv hal
      go_upto_region 9 with (fail)
      change Code.wp _ _ _ _ (wr.alloc (.cells #[.int .i64 d, .int .i64 m] 27))
      generalize wr.heap.size = gy at hxw hnp ⊢
      generalize (wr.alloc (.cells #[.int .i64 d, .int .i64 m] 27)) = W3 at hxw hpg3 ⊢
      have HNP := Lib.hid hnp
      have HX := Lib.hid hxw
      have HPG := Lib.hid hpg3
      have x0 : W3.cell? ⟨gy, 0, none⟩ = some (.int .i64 d) := by rw [hxw.cell]; rfl
      have x1 : W3.cell? ⟨gy, 1, none⟩ = some (.int .i64 m) := by rw [hxw.cell]; rfl
      clear c0 c1 hbb hnp hxw hpg3
      by_cases hd0 : d = 0
      · obtain rfl : d = 0 := hd0
        have CC := open_any W3 G g v cs ws HPG.out.pl HI.out.srt m HPG.out.siz
        have HSM : Hid (ropenP cs ws m = openP cs ws m) := Lib.hid (open_same HI.out.srt m)
        have HI5 := Lib.hid (HI.out.openP m)
        obtain ⟨R, hR⟩ : ∃ R, openP cs ws m = R := ⟨_, rfl⟩
        rw [hR] at CC HSM HI5
        have CC := Lib.hid CC
        clear hR
        go_wp2_with fail
        refine CC.out.mono ?_
        rintro e w5 hp
        obtain ⟨_, _, _, ht5, _⟩ := id hp
        obtain ⟨v5, rfl, hp5⟩ := HPG.out.code hp
        have x15 : w5.cell? ⟨gy, 1, none⟩ = some (.int .i64 m) := by rw [(HX.out.tr ht5 HNP.out).cell]; rfl
        obtain ⟨cs5, hcs5⟩ : ∃ cs5, R.cs = cs5 := ⟨_, rfl⟩
        obtain ⟨ws5, hws5⟩ : ∃ ws5, R.ws = ws5 := ⟨_, rfl⟩
        obtain ⟨r, hr⟩ : ∃ r, R.r = r := ⟨_, rfl⟩
        obtain ⟨er, her⟩ : ∃ er, R.e = er := ⟨_, rfl⟩
        have CR := ropen_any w5 G gx v' u' cs ws hp5.rp hp5.siz m
        rw [HSM.out] at CR
        rw [hcs5, hws5] at hp5 HI5
        have HPG5 := Lib.hid hp5
        have CR := Lib.hid CR
        rw [hr, her]
        clear hp ht5 hp5 CC x0 x1 HPG HSM HI
        go_wp2_with fail
        refine CR.out.mono ?_
        rintro e w6 hp
        obtain ⟨v6, u6, rfl, hp6⟩ := HPG5.out.ref hp
        rw [hcs5, hws5] at hp6
        rw [hr, her]
        have HPG := Lib.hid hp6
        have HI := HI5
        clear hp hp6 CR HPG5 HI5 x15 HX HNP hcs5 hws5 hr her
        have CS := Lib.hid (same18_any w6 G G g gx v5 v6 u6 cs5 ws5 HPG.out.pl HPG.out.rp)
        go_wp2_with fail
        refine CS.out.mono ?_
        rintro e w9 ⟨rfl, hb9⟩
        have REL : Hid (PgR w G gx n (.pointer (some ⟨g, 0, none⟩)) (.int .i64 ((k + 1 : Nat) : Int)) w9) := Lib.hid ⟨k + 1, g, v5, v6, u6, cs5, ws5, rfl, by omega, rfl, HPG.out.keep hb9, HI.out⟩
        clear hb9 CS HPG
        go_wp2
        go_roundw
        case rel => exact REL.out
        case measure => simp [intOf]; omega
      have e0 : (d == 0) = false := by simpa using hd0
      by_cases hd1 : d = 1
      · obtain rfl : d = 1 := hd1
        have CC := close_any W3 G g v cs ws HPG.out.pl HI.out.srt m
        have HSM : Hid (rcloseP cs ws m = closeP cs ws m) := Lib.hid (close_same HI.out.srt m)
        have HI5 := Lib.hid (HI.out.closeP m)
        obtain ⟨R, hR⟩ : ∃ R, closeP cs ws m = R := ⟨_, rfl⟩
        rw [hR] at CC HSM HI5
        have CC := Lib.hid CC
        clear hR
        go_wp2_with fail
        refine CC.out.mono ?_
        rintro e w5 hp
        obtain ⟨_, _, _, ht5, _⟩ := id hp
        obtain ⟨v5, rfl, hp5⟩ := HPG.out.code hp
        have x15 : w5.cell? ⟨gy, 1, none⟩ = some (.int .i64 m) := by rw [(HX.out.tr ht5 HNP.out).cell]; rfl
        obtain ⟨cs5, hcs5⟩ : ∃ cs5, R.cs = cs5 := ⟨_, rfl⟩
        obtain ⟨ws5, hws5⟩ : ∃ ws5, R.ws = ws5 := ⟨_, rfl⟩
        obtain ⟨r, hr⟩ : ∃ r, R.r = r := ⟨_, rfl⟩
        obtain ⟨er, her⟩ : ∃ er, R.e = er := ⟨_, rfl⟩
        have CR := rclose_any w5 G gx v' u' cs ws hp5.rp hp5.siz m
        rw [HSM.out] at CR
        rw [hcs5, hws5] at hp5 HI5
        have HPG5 := Lib.hid hp5
        have CR := Lib.hid CR
        rw [hr, her]
        clear hp ht5 hp5 CC x0 x1 HPG HSM HI
        go_wp2_with fail
        refine CR.out.mono ?_
        rintro e w6 hp
        obtain ⟨v6, u6, rfl, hp6⟩ := HPG5.out.ref hp
        rw [hcs5, hws5] at hp6
        rw [hr, her]
        have HPG := Lib.hid hp6
        have HI := HI5
        clear hp hp6 CR HPG5 HI5 x15 HX HNP hcs5 hws5 hr her
        have CS := Lib.hid (same18_any w6 G G g gx v5 v6 u6 cs5 ws5 HPG.out.pl HPG.out.rp)
        go_wp2_with fail
        refine CS.out.mono ?_
        rintro e w9 ⟨rfl, hb9⟩
        have REL : Hid (PgR w G gx n (.pointer (some ⟨g, 0, none⟩)) (.int .i64 ((k + 1 : Nat) : Int)) w9) := Lib.hid ⟨k + 1, g, v5, v6, u6, cs5, ws5, rfl, by omega, rfl, HPG.out.keep hb9, HI.out⟩
        clear hb9 CS HPG
        go_wp2
        go_roundw
        case rel => exact REL.out
        case measure => simp [intOf]; omega
      have e1 : (d == 1) = false := by simpa using hd1
      by_cases hd2 : d = 2
      · obtain rfl : d = 2 := hd2
        have CC := want_any W3 G g v cs ws HPG.out.pl m
        have HSM : Hid (rwantP cs ws m = wantP cs ws m) := Lib.hid (want_same HI.out HPG.out.rp.w4 m)
        have HI5 := Lib.hid (HI.out.wantP m)
        obtain ⟨R, hR⟩ : ∃ R, wantP cs ws m = R := ⟨_, rfl⟩
        rw [hR] at CC HSM HI5
        have CC := Lib.hid CC
        clear hR
        go_wp2_with fail
        refine CC.out.mono ?_
        rintro e w5 hp
        obtain ⟨_, _, _, ht5, _⟩ := id hp
        obtain ⟨v5, rfl, hp5⟩ := HPG.out.code hp
        have x15 : w5.cell? ⟨gy, 1, none⟩ = some (.int .i64 m) := by rw [(HX.out.tr ht5 HNP.out).cell]; rfl
        obtain ⟨cs5, hcs5⟩ : ∃ cs5, R.cs = cs5 := ⟨_, rfl⟩
        obtain ⟨ws5, hws5⟩ : ∃ ws5, R.ws = ws5 := ⟨_, rfl⟩
        obtain ⟨r, hr⟩ : ∃ r, R.r = r := ⟨_, rfl⟩
        obtain ⟨er, her⟩ : ∃ er, R.e = er := ⟨_, rfl⟩
        have CR := rwant_any w5 G gx v' u' cs ws hp5.rp hp5.siz m
        rw [HSM.out] at CR
        rw [hcs5, hws5] at hp5 HI5
        have HPG5 := Lib.hid hp5
        have CR := Lib.hid CR
        rw [hr, her]
        clear hp ht5 hp5 CC x0 x1 HPG HSM HI
        go_wp2_with fail
        refine CR.out.mono ?_
        rintro e w6 hp
        obtain ⟨v6, u6, rfl, hp6⟩ := HPG5.out.ref hp
        rw [hcs5, hws5] at hp6
        rw [hr, her]
        have HPG := Lib.hid hp6
        have HI := HI5
        clear hp hp6 CR HPG5 HI5 x15 HX HNP hcs5 hws5 hr her
        have CS := Lib.hid (same18_any w6 G G g gx v5 v6 u6 cs5 ws5 HPG.out.pl HPG.out.rp)
        go_wp2_with fail
        refine CS.out.mono ?_
        rintro e w9 ⟨rfl, hb9⟩
        have REL : Hid (PgR w G gx n (.pointer (some ⟨g, 0, none⟩)) (.int .i64 ((k + 1 : Nat) : Int)) w9) := Lib.hid ⟨k + 1, g, v5, v6, u6, cs5, ws5, rfl, by omega, rfl, HPG.out.keep hb9, HI.out⟩
        clear hb9 CS HPG
        go_wp2
        go_roundw
        case rel => exact REL.out
        case measure => simp [intOf]; omega
      have e2 : (d == 2) = false := by simpa using hd2
      by_cases hd3 : d = 3
      · obtain rfl : d = 3 := hd3
        have CC := free_any W3 G g v cs ws HPG.out.pl m
        have HSM : Hid (rfreeP cs ws m = freeP cs ws m) := Lib.hid (free_same HI.out m)
        have HI5 := Lib.hid (HI.out.freeP m)
        obtain ⟨R, hR⟩ : ∃ R, freeP cs ws m = R := ⟨_, rfl⟩
        rw [hR] at CC HSM HI5
        have CC := Lib.hid CC
        clear hR
        go_wp2_with fail
        refine CC.out.mono ?_
        rintro e w5 hp
        obtain ⟨_, _, _, ht5, _⟩ := id hp
        obtain ⟨v5, rfl, hp5⟩ := HPG.out.code hp
        have x15 : w5.cell? ⟨gy, 1, none⟩ = some (.int .i64 m) := by rw [(HX.out.tr ht5 HNP.out).cell]; rfl
        obtain ⟨cs5, hcs5⟩ : ∃ cs5, R.cs = cs5 := ⟨_, rfl⟩
        obtain ⟨ws5, hws5⟩ : ∃ ws5, R.ws = ws5 := ⟨_, rfl⟩
        obtain ⟨r, hr⟩ : ∃ r, R.r = r := ⟨_, rfl⟩
        obtain ⟨er, her⟩ : ∃ er, R.e = er := ⟨_, rfl⟩
        have CR := rfree_any w5 G gx v' u' cs ws hp5.rp hp5.siz m
        rw [HSM.out] at CR
        rw [hcs5, hws5] at hp5 HI5
        have HPG5 := Lib.hid hp5
        have CR := Lib.hid CR
        rw [hr, her]
        clear hp ht5 hp5 CC x0 x1 HPG HSM HI
        go_wp2_with fail
        refine CR.out.mono ?_
        rintro e w6 hp
        obtain ⟨v6, u6, rfl, hp6⟩ := HPG5.out.ref hp
        rw [hcs5, hws5] at hp6
        rw [hr, her]
        have HPG := Lib.hid hp6
        have HI := HI5
        clear hp hp6 CR HPG5 HI5 x15 HX HNP hcs5 hws5 hr her
        have CS := Lib.hid (same18_any w6 G G g gx v5 v6 u6 cs5 ws5 HPG.out.pl HPG.out.rp)
        go_wp2_with fail
        refine CS.out.mono ?_
        rintro e w9 ⟨rfl, hb9⟩
        have REL : Hid (PgR w G gx n (.pointer (some ⟨g, 0, none⟩)) (.int .i64 ((k + 1 : Nat) : Int)) w9) := Lib.hid ⟨k + 1, g, v5, v6, u6, cs5, ws5, rfl, by omega, rfl, HPG.out.keep hb9, HI.out⟩
        clear hb9 CS HPG
        go_wp2
        go_roundw
        case rel => exact REL.out
        case measure => simp [intOf]; omega
      have e3 : (d == 3) = false := by simpa using hd3
      by_cases hd4 : d = 4
      · obtain rfl : d = 4 := hd4
        have CC := pleave_any W3 G g v cs ws HPG.out.pl m
        have HSM : Hid (rleaveP cs ws m = leaveP cs ws m) := Lib.hid (leave_same HI.out m)
        have HI5 := Lib.hid (HI.out.leaveP m)
        obtain ⟨R, hR⟩ : ∃ R, leaveP cs ws m = R := ⟨_, rfl⟩
        rw [hR] at CC HSM HI5
        have CC := Lib.hid CC
        clear hR
        go_wp2_with fail
        refine CC.out.mono ?_
        rintro e w5 hp
        obtain ⟨_, _, _, ht5, _⟩ := id hp
        obtain ⟨v5, rfl, hp5⟩ := HPG.out.code hp
        have x15 : w5.cell? ⟨gy, 1, none⟩ = some (.int .i64 m) := by rw [(HX.out.tr ht5 HNP.out).cell]; rfl
        obtain ⟨cs5, hcs5⟩ : ∃ cs5, R.cs = cs5 := ⟨_, rfl⟩
        obtain ⟨ws5, hws5⟩ : ∃ ws5, R.ws = ws5 := ⟨_, rfl⟩
        obtain ⟨r, hr⟩ : ∃ r, R.r = r := ⟨_, rfl⟩
        obtain ⟨er, her⟩ : ∃ er, R.e = er := ⟨_, rfl⟩
        have CR := rleave_any w5 G gx v' u' cs ws hp5.rp hp5.siz m
        rw [HSM.out] at CR
        rw [hcs5, hws5] at hp5 HI5
        have HPG5 := Lib.hid hp5
        have CR := Lib.hid CR
        rw [hr, her]
        clear hp ht5 hp5 CC x0 x1 HPG HSM HI
        go_wp2_with fail
        refine CR.out.mono ?_
        rintro e w6 hp
        obtain ⟨v6, u6, rfl, hp6⟩ := HPG5.out.ref hp
        rw [hcs5, hws5] at hp6
        rw [hr, her]
        have HPG := Lib.hid hp6
        have HI := HI5
        clear hp hp6 CR HPG5 HI5 x15 HX HNP hcs5 hws5 hr her
        have CS := Lib.hid (same18_any w6 G G g gx v5 v6 u6 cs5 ws5 HPG.out.pl HPG.out.rp)
        go_wp2_with fail
        refine CS.out.mono ?_
        rintro e w9 ⟨rfl, hb9⟩
        have REL : Hid (PgR w G gx n (.pointer (some ⟨g, 0, none⟩)) (.int .i64 ((k + 1 : Nat) : Int)) w9) := Lib.hid ⟨k + 1, g, v5, v6, u6, cs5, ws5, rfl, by omega, rfl, HPG.out.keep hb9, HI.out⟩
        clear hb9 CS HPG
        go_wp2
        go_roundw
        case rel => exact REL.out
        case measure => simp [intOf]; omega
      have e4 : (d == 4) = false := by simpa using hd4
      by_cases hd5 : d = 5
      · obtain rfl : d = 5 := hd5
        have CC := Lib.hid (has_any W3 G g v cs ws HPG.out.pl m)
        obtain ⟨X, hX⟩ : ∃ X, hasP cs m = X := ⟨_, rfl⟩
        have HX2 := Lib.hid hX
        have CC : Hid (Calls Try.prog 10 #[.pointer (some ⟨g, 0, none⟩), .int .i64 m] W3 fun e w' => e = .returned (.int .i64 X) ∧ Below W3.heap.size W3 w') := Lib.hid (by rw [← HX2.out]; exact CC.out)
        clear hX
        go_wp2_with fail
        refine CC.out.mono ?_
        rintro e w5 ⟨rfl, hb5⟩
        have hp5 := HPG.out.keep hb5
        have x15 : w5.cell? ⟨gy, 1, none⟩ = some (.int .i64 m) := by rw [(HX.out.below hb5 HX.out.lt).cell]; rfl
        have CR := rhas_any w5 G gx v' u' cs ws hp5.rp m
        rw [HX2.out] at CR
        have HPG5 := Lib.hid hp5
        have CR := Lib.hid CR
        clear hb5 hp5 CC x0 x1 HPG
        go_wp2_with fail
        refine CR.out.mono ?_
        rintro e w6 ⟨rfl, hb6⟩
        have HPG := Lib.hid (HPG5.out.keep hb6)
        clear hb6 CR HPG5 x15 HX HNP
        have CS := Lib.hid (same18_any w6 G G g gx v v' u' cs ws HPG.out.pl HPG.out.rp)
        go_wp2_with fail
        refine CS.out.mono ?_
        rintro e w9 ⟨rfl, hb9⟩
        have REL : Hid (PgR w G gx n (.pointer (some ⟨g, 0, none⟩)) (.int .i64 ((k + 1 : Nat) : Int)) w9) := Lib.hid ⟨k + 1, g, v, v', u', cs, ws, rfl, by omega, rfl, HPG.out.keep hb9, HI.out⟩
        clear hb9 CS HPG
        go_wp2
        go_roundw
        case rel => exact REL.out
        case measure => simp [intOf]; omega
      have e5 : (d == 5) = false := by simpa using hd5
      by_cases hd6 : d = 6
      · obtain rfl : d = 6 := hd6
        have CC := Lib.hid (pclone_any W3 G g v cs ws HPG.out.pl)
        obtain ⟨g2, hg2⟩ : ∃ g2, W3.heap.size = g2 := ⟨_, rfl⟩
        have HG2 := Lib.hid hg2
        have CC : Hid (Calls Try.prog 24 #[.pointer (some ⟨g, 0, none⟩)] W3 fun e w' => ∃ v', e = .returned (.pointer (some ⟨g2, 0, none⟩)) ∧ PlAt w' W3.heap.size W3.heap.size v' cs ws ∧ Below W3.heap.size W3 w') := Lib.hid (by rw [← HG2.out]; exact CC.out)
        clear hg2
        go_wp2_with fail
        refine CC.out.mono ?_
        rintro e w5 ⟨v2, rfl, hpn, hb5⟩
        have HPN := Lib.hid hpn
        have HB5 := Lib.hid hb5
        have hk0 : PpS w5 G g v v cs ws w5 := ⟨HPG.out.pl.keep hb5, HI.out, Tr.refl _ _, fun j hj => Or.inl hj⟩
        have hs5 : G ≤ w5.heap.size := Nat.le_trans HPG.out.siz hb5.size
        have CO := Lib.hid (open_any w5 G g v cs ws hk0.pl hk0.inv.srt 9 hs5)
        have HK0 := Lib.hid hk0
        have HS5 := Lib.hid hs5
        clear hpn hb5 hk0 hs5 CC x0 x1
        go_wp2_with fail
        refine CO.out.mono ?_
        rintro e w6 hp
        obtain ⟨va, rfl, hk1⟩ := HK0.out.step hp (HK0.out.inv.openP 9)
        obtain ⟨R1, hR1⟩ : ∃ R1, openP cs ws 9 = R1 := ⟨_, rfl⟩
        rw [hR1] at hk1 ⊢
        have CW := Lib.hid (want_any w6 G g va R1.cs R1.ws hk1.pl 6)
        have HK1 := Lib.hid hk1
        clear hp hk1 hR1 CO
        go_wp2_with fail
        refine CW.out.mono ?_
        rintro e w7 hp
        obtain ⟨vb, rfl, hk2⟩ := HK1.out.step hp (HK1.out.inv.wantP 6)
        obtain ⟨R2, hR2⟩ : ∃ R2, wantP R1.cs R1.ws 6 = R2 := ⟨_, rfl⟩
        rw [hR2] at hk2 ⊢
        have CX := Lib.hid (close_any w7 G g vb R2.cs R2.ws hk2.pl hk2.inv.srt 1)
        have HK2 := Lib.hid hk2
        clear hp hk2 hR2 CW
        go_wp2_with fail
        refine CX.out.mono ?_
        rintro e w8 hp
        obtain ⟨vc, rfl, hk3⟩ := HK2.out.step hp (HK2.out.inv.closeP 1)
        have hpg8 := HPG.out.clone HPN.out HB5.out hk3
        rw [HG2.out] at hpg8
        have HPG := Lib.hid hpg8
        obtain ⟨R3, hR3⟩ : ∃ R3, closeP R2.cs R2.ws 1 = R3 := ⟨_, rfl⟩
        rw [hR3]
        clear hp hk3 hpg8 CX HK0 HK1 HK2 HPN HB5 HS5 HX HNP hR3
        have CS := Lib.hid (same18_any w8 G G g2 gx v2 v' u' cs ws HPG.out.pl HPG.out.rp)
        go_wp2_with fail
        refine CS.out.mono ?_
        rintro e w9 ⟨rfl, hb9⟩
        have REL : Hid (PgR w G gx n (.pointer (some ⟨g2, 0, none⟩)) (.int .i64 ((k + 1 : Nat) : Int)) w9) := Lib.hid ⟨k + 1, g2, v2, v', u', cs, ws, rfl, by omega, rfl, HPG.out.keep hb9, HI.out⟩
        clear hb9 CS HPG
        go_wp2
        go_roundw
        case rel => exact REL.out
        case measure => simp [intOf]; omega
      have e6 : (d == 6) = false := by simpa using hd6
      clear hd0 hd1 hd2 hd3 hd4 hd5 hd6 HX HNP x1
      have CS := Lib.hid (same18_any W3 G G g gx v v' u' cs ws HPG.out.pl HPG.out.rp)
      go_wp2_with fail
      refine CS.out.mono ?_
      rintro e w9 ⟨rfl, hb9⟩
      have REL : Hid (PgR w G gx n (.pointer (some ⟨g, 0, none⟩)) (.int .i64 ((k + 1 : Nat) : Int)) w9) := Lib.hid ⟨k + 1, g, v, v', u', cs, ws, rfl, by omega, rfl, HPG.out.keep hb9, HI.out⟩
      clear hb9 CS HPG
      go_wp2
      go_roundw
      case rel => exact REL.out
      case measure => simp [intOf]; omega
    · obtain rfl : k = n := by omega
      have HB := Lib.hid hpg.bel
      clear hpg hinv hkn
      go_wp2
      go_ret
      exact ⟨rfl, HB.out⟩
end Go.Proofs.Ytidkhekekfennaa
