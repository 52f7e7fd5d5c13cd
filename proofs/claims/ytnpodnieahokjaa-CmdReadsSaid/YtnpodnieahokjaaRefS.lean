/- Walks over commands: the document's reader: Small, Nodes. -/
import Derived.Test.YtnpodnieahokjaaRefN
import Derived.Test.YtnpodnieahokjaaDecP
import Derived.Deep.DeepCutAuto
namespace Go.Proofs.Ytnpodnieahokjaa
open Go.RowKit

theorem rnum_small (lb : List Int) (hb : Byt lb) (k : Nat) (e most : Int) (hm0 : 0 ≤ most) :
    ((rnum lb k e 18446744073709551615).1 > most → rnum lb k e most = (0, k, 11) ∧ (rnum lb k e 18446744073709551615).2.2 = 0) ∧
    (¬ (rnum lb k e 18446744073709551615).1 > most → rnum lb k e most = rnum lb k e 18446744073709551615) := by
  unfold rnum
  by_cases h1 : e ≠ 0
  · rw [if_pos h1, if_pos h1]
    exact ⟨fun h => by simp only at h; omega, fun _ => rfl⟩
  rw [if_neg h1, if_neg h1]
  by_cases h2 : (readN (lb.drop k)).2.2 ≠ 0
  · rw [if_pos h2, if_pos h2]
    exact ⟨fun h => by simp only at h; omega, fun _ => rfl⟩
  rw [if_neg h2, if_neg h2]
  obtain ⟨r1, r2, r3, r4, r5⟩ := readN_ok (lb.drop k) (hb.drop k) (by simpa using h2)
  have h3 : ¬ (readN (lb.drop k)).1 > 18446744073709551615 := by omega
  rw [if_neg h3]
  refine ⟨fun h => ⟨by rw [if_pos h], rfl⟩, fun h => by rw [if_neg h]⟩
/-- The document's reader stands where the code's does, as long as there is no error. -/
def RS (w : World) (gr : Nat) (A : Option Addr) (c : Nat) (lb : List Int) (k : Nat) (e : Int) : Prop :=
  ∃ k', Blk w gr 57 (rdCells A lb.length c k' e) ∧ (e = 0 → k' = k) ∧ k' ≤ lb.length
theorem rnum_other {lb : List Int} {k k' : Nat} {e most : Int} (h : e = 0 → k' = k) : (rnum lb k' e most).1 = (rnum lb k e most).1 ∧ (rnum lb k' e most).2.2 = (rnum lb k e most).2.2 ∧ ((rnum lb k e most).2.2 = 0 → (rnum lb k' e most).2.1 = (rnum lb k e most).2.1) := by
  by_cases he : e = 0
  · rw [h he]
    exact ⟨rfl, rfl, fun _ => rfl⟩
  · rw [rnum_err he, rnum_err he]
    exact ⟨rfl, rfl, fun h0 => absurd h0 he⟩
theorem refR_NumS (w : World) (gr : Nat) (A : Option Addr) (c : Nat) (lb : List Int) (k : Nat) (e : Int) (h : In8 w A c lb) (hb : RS w gr A c lb k e) :
    Calls Try.prog 37 #[.pointer (some ⟨gr, 0, none⟩)] w fun x w' => x = .returned (.int .u64 (rnum lb k e 18446744073709551615).1) ∧
      RS w' gr A c lb (rnum lb k e 18446744073709551615).2.1 (rnum lb k e 18446744073709551615).2.2 ∧ w.grownBy w' (some gr) := by
  obtain ⟨k', hb, hk, hle⟩ := hb
  obtain ⟨o1, o2, o3⟩ := rnum_other (lb := lb) (most := 18446744073709551615) hk
  have hl := rnum_le h.byt hle e (most := 18446744073709551615) (by decide)
  refine (refR_Num w gr A c lb k' e h hle hb).mono fun x w' ⟨h1, h2, h3⟩ => ⟨by rw [← o1]; exact h1, ⟨(rnum lb k' e 18446744073709551615).2.1, ?_, o3, hl.2.2.1⟩, h3⟩
  rw [← o2]
  exact h2

set_option maxRecDepth 100000 in
set_option maxHeartbeats 4000000 in
theorem refR_Small (w : World) (gr : Nat) (A : Option Addr) (c : Nat) (lb : List Int) (k : Nat) (e : Int) (most : Nat) (hmost : most ≤ 65535) (h : In8 w A c lb) (hb : RS w gr A c lb k e) :
    Calls Try.prog 34 #[.pointer (some ⟨gr, 0, none⟩), .int .i64 most] w fun x w' => x = .returned (.int .i64 (rnum lb k e most).1) ∧
      RS w' gr A c lb (rnum lb k e most).2.1 (rnum lb k e most).2.2 ∧ w.grownBy w' (some gr) := by
  have C1 := refR_NumS w gr A c lb k e h hb
  obtain ⟨s1, s2⟩ := rnum_small lb h.byt k e most (by omega)
  have hle : 0 ≤ (rnum lb k e 18446744073709551615).1 ∧ (rnum lb k e 18446744073709551615).1 < 18446744073709551616 := by
    obtain ⟨k', _, hk, hle⟩ := hb
    obtain ⟨o1, _, _⟩ := rnum_other (lb := lb) (most := 18446744073709551615) hk
    have hl := rnum_le h.byt hle e (most := 18446744073709551615) (by decide)
    rw [← o1]
    exact ⟨hl.1, hl.2.2.2⟩
  obtain ⟨⟨v, k1, e1⟩, hr⟩ : ∃ r, rnum lb k e 18446744073709551615 = r := ⟨_, rfl⟩
  rw [hr] at C1 s1 s2 hle
  simp only at C1 s1 s2 hle
  have C1 := Lib.hid C1
  have wm : IntKind.u64.wrap (most : Int) = (most : Int) := by simp [IntKind.wrap_u64]; omega
  clear hb h hr
  by_cases hv : v > most
  · obtain ⟨t1, t2⟩ := s1 hv
    rw [t1]
    subst t2
    have hd : decide (v > (most : Int)) = true := decide_eq_true hv
    clear s1 s2 t1 hv hle
    go_enter Try.func34, Try.ntmps34
    go_wp2_with fail
    refine C1.out.mono ?_
    rintro x w1 ⟨rfl, ⟨k', hb1, hk1, hl1⟩, hg1⟩
    have CF := ref_Fail_any w1 gr A lb.length c k' 0 11 hb1
    rw [if_pos rfl] at CF
    have CF := Lib.hid CF
    have HG := Lib.hid hg1
    clear hb1 hg1
    go_wp2_with fail
    refine CF.out.mono ?_
    rintro x w2 ⟨rfl, hb2, hg2⟩
    have HB2 := Lib.hid hb2
    have HG2 : Hid (w.grownBy w2 (some gr)) := World.grownBy.trans HG.out hg2
    clear hb2 hg2
    go_wp2
    go_ret
    exact ⟨rfl, ⟨k', HB2.out, fun h => absurd h (by decide), hl1⟩, HG2.out⟩
  · rw [s2 hv]
    have hd : decide (v > (most : Int)) = false := decide_eq_false hv
    have wv : IntKind.i64.wrap v = v := by simp [IntKind.wrap_i64]; omega
    clear s1 s2 hv hle
    go_enter Try.func34, Try.ntmps34
    go_wp2_with fail
    refine C1.out.mono ?_
    rintro x w1 ⟨rfl, hrs, hg1⟩
    have HRS := Lib.hid hrs
    have HG := Lib.hid hg1
    clear hrs hg1
    go_wp2
    go_ret
    exact ⟨rfl, HRS.out, HG.out⟩
end Go.Proofs.Ytnpodnieahokjaa
