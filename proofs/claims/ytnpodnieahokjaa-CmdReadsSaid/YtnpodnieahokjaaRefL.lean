/- Walks over commands: the document's reader reads a list. -/
import Derived.Test.YtnpodnieahokjaaRefS
namespace Go.Proofs.Ytnpodnieahokjaa
open Go.RowKit

theorem RS.lt {w : World} {gr : Nat} {A : Option Addr} {c : Nat} {lb : List Int} {k : Nat} {e : Int} (h : RS w gr A c lb k e) : gr < w.heap.size := by
  obtain ⟨k', hb, _⟩ := h
  exact hb.lt
theorem RS.below {w w1 : World} {gr : Nat} {A : Option Addr} {c : Nat} {lb : List Int} {k : Nat} {e : Int} (h : RS w gr A c lb k e) {B : Nat} (hb : Below B w w1) (hg : gr < B) : RS w1 gr A c lb k e := by
  obtain ⟨k', h1, h2⟩ := h
  exact ⟨k', h1.below hb hg, h2⟩
theorem RS.err {w : World} {gr : Nat} {A : Option Addr} {c : Nat} {lb : List Int} {k k2 : Nat} {e : Int} (h : RS w gr A c lb k e) (he : e ≠ 0) : RS w gr A c lb k2 e := by
  obtain ⟨k', h1, h2, h3⟩ := h
  exact ⟨k', h1, fun h0 => absurd h0 he, h3⟩
theorem RS.cell2 {w : World} {gr : Nat} {A : Option Addr} {c : Nat} {lb : List Int} {k : Nat} {e : Int} (h : RS w gr A c lb k e) : w.cell? ⟨gr, 2, none⟩ = some (.int .i64 e) := by
  obtain ⟨k', h1, _⟩ := h
  rw [h1.cell]
  rfl
theorem grown_below {w W w1 : World} {gr B : Nat} (h : w.grownBy W (some gr)) (hb : Below B W w1) (hB : w.heap.size ≤ B) : w.grownBy w1 (some gr) :=
  ⟨hb.os.trans h.os, hb.tape.trans h.tape, hb.output.trans h.output, Nat.le_trans h.size hb.size, fun i hi hne => (hb.block i (by omega)).trans (h.block i hi hne)⟩
theorem own_gr {w w1 : World} {gr B : Nat} {v : Value} {l : List Int} (h : OwnN .i64 3 w B v l) (hg : w.grownBy w1 (some gr)) (hB : gr < B) : OwnN .i64 3 w1 B v l := by
  refine World.ownsRow.kept h hg ?_
  cases hv : v.ownBlock with
  | none => exact .inl rfl
  | some i =>
    have := (World.ownsRow.lt h i hv).1
    exact .inr (fun hh => by injection hh with hh; omega)

set_option maxRecDepth 100000 in
set_option maxHeartbeats 4000000 in
theorem refR_Nodes (w : World) (gr : Nat) (A : Option Addr) (c : Nat) (lb : List Int) (k : Nat) (e : Int) (h : ∀ W, w.grownBy W (some gr) → In8 W A c lb) (hb : RS w gr A c lb k e)
    (L : List Int) (k2 : Nat) (e2 : Int) (hd : decNodes lb (rnum lb k e 7).1.toNat (rnum lb k e 7).2.1 (rnum lb k e 7).2.2 = (L, k2, e2)) :
    Calls Try.prog 36 #[.pointer (some ⟨gr, 0, none⟩)] w fun x w' => ∃ v L', x = .returned v ∧ OwnN .i64 3 w' w.heap.size v L' ∧ L'.length ≤ 7 ∧ Wfs .i64 L' ∧ (e2 = 0 → L' = L) ∧
      RS w' gr A c lb k2 e2 ∧ w.grownBy w' (some gr) := by
  have HIN := Lib.hid h
  have hbyt := (h w (World.grownBy.refl _ _)).byt
  have hgr := hb.lt
  have C1 := refR_Small w gr A c lb k e 7 (by omega) (h w (World.grownBy.refl _ _)) hb
  have hle : 0 ≤ (rnum lb k e 7).1 ∧ (rnum lb k e 7).1 ≤ 7 := by
    obtain ⟨k', _, hk, hle⟩ := hb
    obtain ⟨o1, _, _⟩ := rnum_other (lb := lb) (most := 7) hk
    have hl := rnum_le hbyt hle e (most := 7) (by decide)
    rw [← o1]
    exact ⟨hl.1, hl.2.1⟩
  obtain ⟨⟨cnt, k1, e1⟩, hr⟩ : ∃ r, rnum lb k e 7 = r := ⟨_, rfl⟩
  have e7 : ((7 : Nat) : Int) = 7 := rfl
  rw [e7] at C1
  rw [hr] at C1 hle hd
  simp only at C1 hle hd
  obtain ⟨cn, rfl⟩ := Int.eq_ofNat_of_zero_le hle.1
  rw [Int.toNat_natCast] at hd
  have HD := Lib.hid hd
  have C1 := Lib.hid C1
  have hcn : cn ≤ 7 := by omega
  obtain ⟨B, hB⟩ : ∃ B, w.heap.size = B := ⟨_, rfl⟩
  rw [hB]
  rw [hB] at hgr
  have HB := Lib.hid hB
  clear hb h hr hd hle hB e7
  go_enter Try.func36, Try.ntmps36
  go_wp2_with fail
  refine C1.out.mono ?_
  rintro x w1 ⟨rfl, hrs, hg1⟩
  have HRS := Lib.hid hrs
  have HG := Lib.hid hg1
  have hnil : OwnN .i64 3 w1 B (.slice none 0 0) [] := own_nil _ _ _ _
  have HN := Lib.hid hnil
  clear hrs hg1 C1 hnil
  go_wp2_with fail
  go_loopw [3, 4, 5] (fun out kk z wr => ∃ (rem : Nat) (Lj : List Int) (kj : Nat) (ej : Int), kk = .int .i64 (rem : Int) ∧ rem ≤ cn ∧ Lj.length + rem = cn ∧ Wfs .i64 Lj ∧ OwnN .i64 3 wr B out Lj ∧ RS wr gr A c lb kj ej ∧ w.grownBy wr (some gr) ∧ (L, k2, e2) = (Lj ++ (decNodes lb rem kj ej).1, (decNodes lb rem kj ej).2)) (fun _ kk _ _ => (intOf kk).toNat)
  case atStart => exact ⟨cn, [], k1, e1, rfl, by omega, by simp, Wfs.nil _, HN.out, HRS.out, HG.out, by rw [HD.out]; simp⟩
  case round =>
    clear HN HRS HG
    obtain ⟨rem, Lj, kj, ej, rfl, hrem, hlen, hwf, hown, hrs, hg, heq⟩ := hrel
    have HWF := Lib.hid hwf
    have HO := Lib.hid hown
    have HRS := Lib.hid hrs
    have HG := Lib.hid hg
    have HEQ := Lib.hid heq
    have r2 := hrs.cell2
    have HLEN := Lib.hid hlen
    clear hwf hown hrs hg heq hlen
    cases rem with
    | zero =>
      have hgt : decide (((0 : Nat) : Int) > 0) = false := by decide
      have hfin := HEQ.out
      simp only [decNodes, List.append_nil, Prod.mk.injEq] at hfin
      have HF := Lib.hid hfin
      clear hfin
      go_wp2
      go_ret
      refine ⟨_, Lj, rfl, HO.out, by have := HLEN.out; omega, HWF.out, fun _ => HF.out.1.symm, ?_, HG.out⟩
      rw [HF.out.2.1, HF.out.2.2]
      exact HRS.out
    | succ rem =>
      have hgt : decide (((rem + 1 : Nat) : Int) > 0) = true := decide_eq_true (by omega)
      by_cases he : ej = 0
      · have hE : (ej == 0) = true := by simp [he]
        have HE := Lib.hid he
        clear he
        have C2 := refR_Small wr gr A c lb kj ej 65535 (by omega) (HIN.out _ HG.out) HRS.out
        have hb7 : 0 ≤ (rnum lb kj ej 65535).1 ∧ (rnum lb kj ej 65535).1 ≤ 65535 := by
          obtain ⟨k', _, hk, hle⟩ := HRS.out
          obtain ⟨o1, _, _⟩ := rnum_other (lb := lb) (most := 65535) hk
          have hl := rnum_le hbyt hle ej (most := 65535) (by decide)
          rw [← o1]
          exact ⟨hl.1, hl.2.1⟩
        have hdd : decNodes lb (rem + 1) kj ej = ((rnum lb kj ej 65535).1 :: (decNodes lb rem (rnum lb kj ej 65535).2.1 (rnum lb kj ej 65535).2.2).1, (decNodes lb rem (rnum lb kj ej 65535).2.1 (rnum lb kj ej 65535).2.2).2) := rfl
        have e6 : ((65535 : Nat) : Int) = 65535 := rfl
        rw [e6] at C2
        obtain ⟨⟨v7, k7, e7⟩, hr7⟩ : ∃ r, rnum lb kj ej 65535 = r := ⟨_, rfl⟩
        rw [hr7] at C2 hb7 hdd
        simp only at C2 hb7 hdd
        have C2 := Lib.hid C2
        have HDD := Lib.hid hdd
        have HV := Lib.hid hb7
        clear hr7 hdd hb7 e6
        go_wp2_with fail
        refine C2.out.mono ?_
        rintro x w5 ⟨rfl, hrs5, hg5⟩
        have hO5 := own_gr HO.out hg5 hgr
        have HO5 := Lib.hid hO5
        have HR5 := Lib.hid hrs5
        have HG5 : Hid (w.grownBy w5 (some gr)) := World.grownBy.trans HG.out hg5
        have hsz5 : B ≤ w5.heap.size := by have := HG5.out.size; have := HB.out; omega
        clear r2 hO5 hrs5 hg5
        go_wp2_with (at_builtin; refine app_litsI (w0 := w5) B rfl _ _ rfl _ Lj [v7] rfl rfl rfl HO5.out (Below.refl _ _) hsz5 (by have := HLEN.out; simp; omega) ?_; intro v8 w8 ho8 hB8; have HO8 := Lib.hid ho8; have HB8 := Lib.hid hB8; clear ho8 hB8)
        go_roundw
        case rel =>
          refine ⟨rem, Lj ++ [v7], k7, e7, by go_num, by omega, by have := HLEN.out; simp; omega, HWF.out.app (fun z hz => ?_), HO8.out, HR5.out.below HB8.out hgr, grown_below HG5.out HB8.out (by have := HB.out; omega), by rw [HEQ.out, HDD.out]; simp⟩
          simp only [List.mem_singleton] at hz
          subst hz
          have := HV.out
          exact wf_i64_of (by omega) (by omega)
        case measure => simp [intOf]
      · have hE : (ej == 0) = false := beq_eq_false_iff_ne.2 he
        have hfin := HEQ.out
        have h2 := decNodes_err (lb := lb) he (rem + 1) kj
        simp only [Prod.mk.injEq] at hfin
        have HF : Hid (e2 = ej) := by
          show _ = _
          rw [← h2, ← hfin.2]
        have HE := Lib.hid he
        clear hfin h2 he
        go_wp2
        go_ret
        refine ⟨_, Lj, rfl, HO.out, by have := HLEN.out; omega, HWF.out, fun h0 => absurd (HF.out ▸ h0) HE.out, ?_, HG.out⟩
        rw [HF.out]
        exact HRS.out.err HE.out
end Go.Proofs.Ytnpodnieahokjaa
