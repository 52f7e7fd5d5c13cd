/- Snapshots read: the code's reader reads a number. -/
import Derived.Test.YthdeappjankmmaaRnum
import Derived.Test.YthdeappjankmmaaShG
import Derived.Test.YthdeappjankmmaaRead
namespace Go.Proofs.Ythdeappjankmmaa
set_option maxRecDepth 100000
open Go.RowKit

/-! ### Plain -/
/-! ### In memory -/
theorem cut8n {A : Option Addr} {c n : Nat} {j : Nat} (hk : j ≤ n) (hc : n ≤ c) : ∃ A' c', (∀ w : World, (Instr.slice 38 (.slice A n c) (some (.int .i64 (j : Int))) none none).run Try.prog w = .ok (.slice A' (n - j) c') w) ∧
    ∀ w lb, lb.length = n → In8 w A c lb → In8 w A' c' (lb.drop j) := by
  refine ⟨if c = j then A else A.map (·.add (j * 1)), c - j, fun w => ?_, fun w lb hl h => ⟨?_, h.byt.drop j, by rw [List.length_drop]; omega, by rw [List.length_drop]; have := h.small; omega⟩⟩
  · have hu : Try.prog.underlying 38 = some (.slice (Try.prog.elem 38)) := by kernel_rfl
    rw [run_slice_l _ _ _ _ _ hu .i64 (j : Int) (by omega) (by omega)]
    have hs : (sizeOf (Try.prog.elem 38)).run Try.prog w = .ok 1 w := by
      show (sizeOf 5).run Try.prog w = .ok 1 w
      obtain ⟨i0, hi, _, hz1, _⟩ := info_parts info_u8
      simp [sizeOf, typeInfo, hi, hz1]
    rw [hs]
    simp [sliced, Result.andThen]
  · subst hl
    have := h.reads.cut hk hc
    rw [List.length_drop]
    simpa [u8s, List.map_drop] using this
def sdC (A : Option Addr) (n c : Nat) (e : Int) : Array Value := #[.slice A n c, .int .i64 e]
/-- The code's reader stands at place k of the bytes lb (that came in at A0, c0), with error e. -/
def RC (w : World) (gr : Nat) (A0 : Option Addr) (c0 : Nat) (lb : List Int) (k : Nat) (e : Int) : Prop :=
  ∃ A c, Blk w gr 65 (sdC A (lb.length - k) c e) ∧ (∀ W, In8 W A0 c0 lb → In8 W A c (lb.drop k)) ∧ k ≤ lb.length ∧ lb.length - k ≤ c
theorem RC.lt {w : World} {gr : Nat} {A0 : Option Addr} {c0 : Nat} {lb : List Int} {k : Nat} {e : Int} (h : RC w gr A0 c0 lb k e) : gr < w.heap.size := by
  obtain ⟨A, c, hb, _⟩ := h
  exact hb.lt
theorem RC.grown {w w1 : World} {gr : Nat} {A0 : Option Addr} {c0 : Nat} {lb : List Int} {k : Nat} {e : Int} {row : Option Nat} (h : RC w gr A0 c0 lb k e) (hg : w.grownBy w1 row) (hne : some gr ≠ row) : RC w1 gr A0 c0 lb k e := by
  obtain ⟨A, c, hb, h2⟩ := h
  exact ⟨A, c, hb.grown hg hne, h2⟩
theorem RC.drew {w : World} {gr : Nat} {A0 : Option Addr} {c0 : Nat} {lb : List Int} {k : Nat} {e : Int} (h : RC w gr A0 c0 lb k e) : RC w.drew gr A0 c0 lb k e := h

set_option maxRecDepth 100000 in
set_option maxHeartbeats 4000000 in
theorem snum_walk (w : World) (gr : Nat) (A0 : Option Addr) (c0 : Nat) (lb : List Int) (k : Nat) (e most : Int) (h : In8 w A0 c0 lb) (hb : RC w gr A0 c0 lb k e) :
    Calls Try.prog 48 #[.pointer (some ⟨gr, 0, none⟩), .int .u64 most] w fun x w' => x = .returned (.int .u64 (rnum lb k e most).1) ∧
      RC w' gr A0 c0 lb (rnum lb k e most).2.1 (rnum lb k e most).2.2 ∧ w.grownBy w' (some gr) := by
  have hs := h.small
  obtain ⟨A, c, hb, hin, hk, hcap⟩ := hb
  have HRD := Lib.hid (hin w h)
  have HIN := Lib.hid hin
  have HB := Lib.hid hb
  obtain ⟨S, hS⟩ : ∃ S, Value.slice A (lb.length - k) c = S := ⟨_, rfl⟩
  have hb3 : Blk w gr 65 [S, .int .i64 e].toArray := by rw [← hS]; exact hb
  have hc0 : w.cell? ⟨gr, 0, none⟩ = some S := by rw [hb3.cell]; rfl
  have hc1 : w.cell? ⟨gr, 1, none⟩ = some (.int .i64 e) := by rw [hb3.cell]; rfl
  have f0 := hb3.frozen 0
  have f1 := hb3.frozen 1
  by_cases he : e = 0
  rotate_left
  · have hne : (e != 0) = true := bne_iff_ne.2 he
    have HR := Lib.hid (rnum_err (lb := lb) (k := k) (most := most) he)
    clear he h hS hin
    go_enter Try.func48, Try.ntmps48
    go_wp2
    go_ret
    rw [HR.out]
    exact ⟨rfl, ⟨A, c, HB.out, HIN.out, hk, hcap⟩, World.grownBy.refl _ _⟩
  subst he
  have C1 := readNum_any A c (lb.drop k) w HRD.out
  rw [List.length_drop, hS] at C1
  have hrok := readN_ok (lb.drop k) (h.byt.drop k)
  have hrn : rnum lb k 0 most = rnum lb k 0 most := rfl
  conv at hrn => rhs; unfold rnum
  rw [if_neg (by simp)] at hrn
  obtain ⟨⟨n, kk, x⟩, hr⟩ : ∃ r, readN (lb.drop k) = r := ⟨_, rfl⟩
  rw [hr] at hrok hrn C1
  simp only at C1 hrok hrn
  have C1 := Lib.hid C1
  clear hr hin h
  by_cases hx : x = 0
  rotate_left
  · rw [if_pos hx] at hrn
    have HR := Lib.hid hrn
    have hxe : (x == 0) = false := beq_eq_false_iff_ne.2 hx
    have hxn : (x != 0) = true := bne_iff_ne.2 hx
    have HS := Lib.hid hS
    clear hrn hrok hx hS
    go_enter Try.func48, Try.ntmps48
    go_wp2_with fail
    refine C1.out.mono ?_
    rintro y w2 ⟨rfl, hw2⟩
    obtain rfl := hw2.symm
    go_wp2
    go_ret
    rw [HR.out]
    have hf := Blk.setL hb3 1 (.int .i64 x)
    rw [← HS.out] at hf
    exact ⟨rfl, ⟨A, c, hf, HIN.out, hk, hcap⟩, only_setCell (p := ⟨gr, 1, none⟩) (World.grownBy.refl w (some gr)) (.inl rfl) _⟩
  subst hx
  obtain ⟨hk1, hk2, hk3, hn1, hn2⟩ := hrok rfl
  rw [if_neg (by simp)] at hrn
  clear hrok
  by_cases hm : n > most
  · rw [if_pos hm] at hrn
    have HR := Lib.hid hrn
    have hd : decide (n > most) = true := decide_eq_true hm
    have HS := Lib.hid hS
    clear hrn hn1 hn2 hS
    go_enter Try.func48, Try.ntmps48
    go_wp2_with fail
    refine C1.out.mono ?_
    rintro y w2 ⟨rfl, hw2⟩
    obtain rfl := hw2.symm
    go_wp2
    go_ret
    rw [HR.out]
    have hf := Blk.setL hb3 1 (.int .i64 11)
    rw [← HS.out] at hf
    exact ⟨rfl, ⟨A, c, hf, HIN.out, hk, hcap⟩, only_setCell (p := ⟨gr, 1, none⟩) (World.grownBy.refl w (some gr)) (.inl rfl) _⟩
  · rw [if_neg hm] at hrn
    obtain ⟨j, rfl⟩ := Int.eq_ofNat_of_zero_le (show 0 ≤ kk by omega)
    rw [Int.toNat_natCast] at hrn
    rw [List.length_drop] at hk2
    have HR := Lib.hid hrn
    have hd : decide (n > most) = false := decide_eq_false hm
    obtain ⟨A', c', hcut, hin'⟩ := cut8n (A := A) (c := c) (n := lb.length - k) (j := j) (by omega) hcap
    rw [hS] at hcut
    have hjl : j ≤ lb.length - k := by omega
    have hc' : lb.length - (k + j) ≤ c' := by
      have h1 := (hin' w (lb.drop k) (by rw [List.length_drop]) HRD.out).cap
      rw [List.length_drop, List.length_drop] at h1
      omega
    have HI2 : Hid (∀ W, In8 W A0 c0 lb → In8 W A' c' (lb.drop (k + j))) := fun W hW => by
      have := hin' W (lb.drop k) (by rw [List.length_drop]) (HIN.out W hW)
      rw [List.drop_drop] at this
      exact this
    obtain ⟨m, hm2⟩ : ∃ m, lb.length - k - j = m := ⟨_, rfl⟩
    rw [hm2] at hcut
    have HM : Hid (m = lb.length - (k + j)) := by
      show _ = _
      omega
    clear hk1 hk2 hk3 hrn hn1 hn2 hm hin' hS hm2 HRD
    go_enter Try.func48, Try.ntmps48
    go_wp2_with fail
    refine C1.out.mono ?_
    rintro y w2 ⟨rfl, hw2⟩
    obtain rfl := hw2.symm
    go_wp2
    go_ret
    rw [HR.out]
    have hf := Blk.setL hb3 0 (.slice A' m c')
    rw [HM.out] at hf ⊢
    exact ⟨rfl, ⟨A', c', hf, HI2.out, by show k + j ≤ lb.length; omega, hc'⟩, only_setCell (p := ⟨gr, 0, none⟩) (World.grownBy.refl w (some gr)) (.inl rfl) _⟩

theorem swide_any (w : World) (gr : Nat) (A0 : Option Addr) (c0 : Nat) (lb : List Int) (k : Nat) (e : Int) (h : In8 w A0 c0 lb) (hb : RC w gr A0 c0 lb k e) :
    Calls Try.prog 35 #[.pointer (some ⟨gr, 0, none⟩)] w fun x w' => x = .returned (.int .u64 (rnum lb k e 18446744073709551615).1) ∧
      RC w' gr A0 c0 lb (rnum lb k e 18446744073709551615).2.1 (rnum lb k e 18446744073709551615).2.2 ∧ w.grownBy w' (some gr) := by
  have C := Lib.hid (snum_walk w gr A0 c0 lb k e 18446744073709551615 h hb)
  clear h hb
  go_enter Try.func35, Try.ntmps35
  go_wp2_with fail
  refine C.out.mono ?_
  rintro x w2 ⟨rfl, h2, h3⟩
  have H2 := Lib.hid h2
  have H3 := Lib.hid h3
  clear h2 h3
  go_wp2
  go_ret
  exact ⟨rfl, H2.out, H3.out⟩
theorem smany_any (w : World) (gr : Nat) (A0 : Option Addr) (c0 : Nat) (lb : List Int) (k : Nat) (e : Int) (h : In8 w A0 c0 lb) (hb : RC w gr A0 c0 lb k e) :
    Calls Try.prog 36 #[.pointer (some ⟨gr, 0, none⟩)] w fun x w' => x = .returned (.int .u64 (rnum lb k e 64).1) ∧
      RC w' gr A0 c0 lb (rnum lb k e 64).2.1 (rnum lb k e 64).2.2 ∧ w.grownBy w' (some gr) := by
  have C := Lib.hid (snum_walk w gr A0 c0 lb k e 64 h hb)
  clear h hb
  go_enter Try.func36, Try.ntmps36
  go_wp2_with fail
  refine C.out.mono ?_
  rintro x w2 ⟨rfl, h2, h3⟩
  have H2 := Lib.hid h2
  have H3 := Lib.hid h3
  clear h2 h3
  go_wp2
  go_ret
  exact ⟨rfl, H2.out, H3.out⟩
theorem ssmall_any (w : World) (gr : Nat) (A0 : Option Addr) (c0 : Nat) (lb : List Int) (k : Nat) (e : Int) (h : In8 w A0 c0 lb) (hb : RC w gr A0 c0 lb k e) :
    Calls Try.prog 37 #[.pointer (some ⟨gr, 0, none⟩)] w fun x w' => x = .returned (.int .i64 (rnum lb k e 65535).1) ∧
      RC w' gr A0 c0 lb (rnum lb k e 65535).2.1 (rnum lb k e 65535).2.2 ∧ w.grownBy w' (some gr) := by
  have C := Lib.hid (snum_walk w gr A0 c0 lb k e 65535 h hb)
  have hl : 0 ≤ (rnum lb k e 65535).1 ∧ (rnum lb k e 65535).1 ≤ 65535 := by
    obtain ⟨_, _, _, _, hk, _⟩ := hb
    have := rnum_le h.byt hk e (most := 65535) (by decide)
    omega
  obtain ⟨⟨v, k2, e2⟩, hr⟩ : ∃ r, rnum lb k e 65535 = r := ⟨_, rfl⟩
  rw [hr] at C hl ⊢
  simp only at C hl ⊢
  have wv : IntKind.i64.wrap v = v := by simp [IntKind.wrap_i64]; omega
  clear h hb hr hl
  go_enter Try.func37, Try.ntmps37
  go_wp2_with fail
  refine C.out.mono ?_
  rintro x w2 ⟨rfl, h2, h3⟩
  have H2 := Lib.hid h2
  have H3 := Lib.hid h3
  clear h2 h3
  go_wp2
  go_ret
  exact ⟨rfl, H2.out, H3.out⟩
end Go.Proofs.Ythdeappjankmmaa
