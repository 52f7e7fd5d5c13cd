/- Walks over commands: the document's reader: Small, Nodes. -/
import Derived.Test.YthdeappjankmmaaRefN
import Derived.Test.YthdeappjankmmaaRnum
import Derived.Deep.DeepCutAuto
namespace Go.Proofs.Ythdeappjankmmaa
set_option maxRecDepth 100000
open Go.RowKit

theorem rnum_small (lb : List Int) (hb : Byt lb) (k : Nat) (e most : Int) (hm0 : 0 ≤ most) :
    ((rnum lb k e 18446744073709551615).1 > most → rnum lb k e most = (0, k, 11) ∧ (rnum lb k e 18446744073709551615).2.2 = 0) ∧
    (¬ (rnum lb k e 18446744073709551615).1 > most → rnum lb k e most = rnum lb k e 18446744073709551615) := by
  unfold rnum
  by_cases h1 : e ≠ 0
  · rw [if_pos h1, if_pos h1]
    exact ⟨fun h => by simp only at h; omega, fun _ => rfl⟩
  rw [if_neg h1, if_neg h1]
  by_cases h2 : (readN (lb.drop k)).2.2 ≠ 0
  · rw [if_pos h2, if_pos h2]
    exact ⟨fun h => by simp only at h; omega, fun _ => rfl⟩
  rw [if_neg h2, if_neg h2]
  obtain ⟨r1, r2, r3, r4, r5⟩ := readN_ok (lb.drop k) (hb.drop k) (by simpa using h2)
  have h3 : ¬ (readN (lb.drop k)).1 > 18446744073709551615 := by omega
  rw [if_neg h3]
  refine ⟨fun h => ⟨by rw [if_pos h], rfl⟩, fun h => by rw [if_neg h]⟩
/-- The document's reader (of the bytes LB, from place K on: these are lb) stands where the code's does, as long as there is no error. -/
def RS (w : World) (gr : Nat) (A : Option Addr) (c : Nat) (LB : List Int) (K : Nat) (lb : List Int) (k : Nat) (e : Int) : Prop :=
  LB.drop K = lb ∧ ∃ k', Blk w gr 71 (rdCells A LB.length c k' e) ∧ k' ≤ LB.length + 1 ∧ (e = 0 → k' = K + k ∧ k' ≤ LB.length)
theorem RS.num_le {w : World} {gr : Nat} {A : Option Addr} {c : Nat} {LB : List Int} {K : Nat} {lb : List Int} {k : Nat} {e : Int} (h : RS w gr A c LB K lb k e) (hb : Byt LB) {most : Int} (hm : 0 ≤ most) :
    0 ≤ (rnum lb k e most).1 ∧ (rnum lb k e most).1 ≤ most ∧ (rnum lb k e most).1 < 18446744073709551616 := by
  obtain ⟨hlb, k', _, _, hk⟩ := h
  by_cases he : e = 0
  · obtain ⟨h1, h2⟩ := hk he
    subst hlb
    have := rnum_le (hb.drop K) (show k ≤ (LB.drop K).length by rw [List.length_drop]; omega) e hm
    exact ⟨this.1, this.2.1, this.2.2.2⟩
  · rw [rnum_err he]
    exact ⟨Int.le_refl _, hm, by show (0 : Int) < 18446744073709551616; decide⟩
theorem refR_NumS (w : World) (gr : Nat) (A : Option Addr) (c : Nat) (LB : List Int) (K : Nat) (lb : List Int) (k : Nat) (e : Int) (h : In8 w A c LB) (hb : RS w gr A c LB K lb k e) :
    Calls Try.prog 49 #[.pointer (some ⟨gr, 0, none⟩)] w fun x w' => x = .returned (.int .u64 (rnum lb k e 18446744073709551615).1) ∧
      RS w' gr A c LB K lb (rnum lb k e 18446744073709551615).2.1 (rnum lb k e 18446744073709551615).2.2 ∧ w.grownBy w' (some gr) := by
  obtain ⟨hlb, k', hb, hkl, hk⟩ := hb
  by_cases he : e = 0
  · subst he
    obtain ⟨rfl, hle⟩ := hk rfl
    have sh := rnum_shift LB K k 0 18446744073709551615
    have hl := rnum_le h.byt hle 0 (most := 18446744073709551615) (by decide)
    have C := refR_Num w gr A c LB (K + k) 0 h hle hb
    rw [hlb] at sh
    rw [sh] at C hl
    exact C.mono fun x w' ⟨h1, h2, h3⟩ => ⟨h1, ⟨hlb, _, h2, Nat.le_succ_of_le hl.2.2.1, fun _ => ⟨rfl, hl.2.2.1⟩⟩, h3⟩
  · rw [rnum_err he]
    exact (refR_Num_err w gr A LB.length c k' e hb he).mono fun x w' ⟨h1, h2⟩ => ⟨h1, by rw [h2]; exact ⟨hlb, k', hb, hkl, fun h0 => absurd h0 he⟩, by rw [h2]; exact World.grownBy.refl _ _⟩

set_option maxRecDepth 100000 in
set_option maxHeartbeats 4000000 in
theorem refR_Small (w : World) (gr : Nat) (A : Option Addr) (c : Nat) (LB : List Int) (K : Nat) (lb : List Int) (k : Nat) (e : Int) (most : Nat) (hmost : most ≤ 65535) (h : In8 w A c LB) (hb : RS w gr A c LB K lb k e) :
    Calls Try.prog 50 #[.pointer (some ⟨gr, 0, none⟩), .int .i64 most] w fun x w' => x = .returned (.int .i64 (rnum lb k e most).1) ∧
      RS w' gr A c LB K lb (rnum lb k e most).2.1 (rnum lb k e most).2.2 ∧ w.grownBy w' (some gr) := by
  have C1 := refR_NumS w gr A c LB K lb k e h hb
  obtain ⟨s1, s2⟩ := rnum_small lb (hb.1 ▸ h.byt.drop K) k e most (by omega)
  have hle : 0 ≤ (rnum lb k e 18446744073709551615).1 ∧ (rnum lb k e 18446744073709551615).1 < 18446744073709551616 := by
    have := hb.num_le h.byt (most := 18446744073709551615) (by decide)
    exact ⟨this.1, this.2.2⟩
  obtain ⟨⟨v, k1, e1⟩, hr⟩ : ∃ r, rnum lb k e 18446744073709551615 = r := ⟨_, rfl⟩
  rw [hr] at C1 s1 s2 hle
  simp only at C1 s1 s2 hle
  have C1 := Lib.hid C1
  have wm : IntKind.u64.wrap (most : Int) = (most : Int) := by simp [IntKind.wrap_u64]; omega
  clear hb h hr
  by_cases hv : v > most
  · obtain ⟨t1, t2⟩ := s1 hv
    rw [t1]
    subst t2
    have hd : decide (v > (most : Int)) = true := decide_eq_true hv
    clear s1 s2 t1 hv hle
    go_enter Try.func50, Try.ntmps50
    go_wp2_with fail
    refine C1.out.mono ?_
    rintro x w1 ⟨rfl, ⟨hlb, k', hb1, hk1, hl1⟩, hg1⟩
    have CF := ref_Fail_any w1 gr A LB.length c k' 0 11 hb1
    rw [if_pos rfl] at CF
    have CF := Lib.hid CF
    have HG := Lib.hid hg1
    have HLB := Lib.hid hlb
    clear hb1 hg1 hl1 hlb
    go_wp2_with fail
    refine CF.out.mono ?_
    rintro x w2 ⟨rfl, hb2, hg2⟩
    have HB2 := Lib.hid hb2
    have HG2 : Hid (w.grownBy w2 (some gr)) := World.grownBy.trans HG.out hg2
    clear hb2 hg2
    go_wp2
    go_ret
    exact ⟨rfl, ⟨HLB.out, k', HB2.out, hk1, fun h => absurd h (by decide)⟩, HG2.out⟩
  · rw [s2 hv]
    have hd : decide (v > (most : Int)) = false := decide_eq_false hv
    have wv : IntKind.i64.wrap v = v := by simp [IntKind.wrap_i64]; omega
    clear s1 s2 hv hle
    go_enter Try.func50, Try.ntmps50
    go_wp2_with fail
    refine C1.out.mono ?_
    rintro x w1 ⟨rfl, hrs, hg1⟩
    have HRS := Lib.hid hrs
    have HG := Lib.hid hg1
    clear hrs hg1
    go_wp2
    go_ret
    exact ⟨rfl, HRS.out, HG.out⟩
theorem RS.lt {w : World} {gr : Nat} {A : Option Addr} {c : Nat} {LB : List Int} {K : Nat} {lb : List Int} {k : Nat} {e : Int} (h : RS w gr A c LB K lb k e) : gr < w.heap.size := by
  obtain ⟨_, k', hb, _⟩ := h
  exact hb.lt
theorem RS.below {w w1 : World} {gr : Nat} {A : Option Addr} {c : Nat} {LB : List Int} {K : Nat} {lb : List Int} {k : Nat} {e : Int} (h : RS w gr A c LB K lb k e) {B : Nat} (hb : Below B w w1) (hg : gr < B) : RS w1 gr A c LB K lb k e := by
  obtain ⟨hl, k', h1, h2⟩ := h
  exact ⟨hl, k', h1.below hb hg, h2⟩
theorem RS.err {w : World} {gr : Nat} {A : Option Addr} {c : Nat} {LB : List Int} {K : Nat} {lb : List Int} {k k2 : Nat} {e : Int} (h : RS w gr A c LB K lb k e) (he : e ≠ 0) : RS w gr A c LB K lb k2 e := by
  obtain ⟨hl, k', h1, h2, h3⟩ := h
  exact ⟨hl, k', h1, h2, fun h0 => absurd h0 he⟩
theorem RS.cell2 {w : World} {gr : Nat} {A : Option Addr} {c : Nat} {LB : List Int} {K : Nat} {lb : List Int} {k : Nat} {e : Int} (h : RS w gr A c LB K lb k e) : w.cell? ⟨gr, 2, none⟩ = some (.int .i64 e) := by
  obtain ⟨_, k', h1, _⟩ := h
  rw [h1.cell]
  rfl
theorem grown_below {w W w1 : World} {gr B : Nat} (h : w.grownBy W (some gr)) (hb : Below B W w1) (hB : w.heap.size ≤ B) : w.grownBy w1 (some gr) :=
  ⟨hb.os.trans h.os, hb.tape.trans h.tape, hb.output.trans h.output, Nat.le_trans h.size hb.size, fun i hi hne => (hb.block i (by omega)).trans (h.block i hi hne)⟩
theorem own_gr {w w1 : World} {gr B : Nat} {v : Value} {l : List Int} (h : OwnN .i64 3 w B v l) (hg : w.grownBy w1 (some gr)) (hB : gr < B) : OwnN .i64 3 w1 B v l := by
  refine World.ownsRow.kept h hg ?_
  cases hv : v.ownBlock with
  | none => exact .inl rfl
  | some i =>
    have := (World.ownsRow.lt h i hv).1
    exact .inr (fun hh => by injection hh with hh; omega)

end Go.Proofs.Ythdeappjankmmaa
