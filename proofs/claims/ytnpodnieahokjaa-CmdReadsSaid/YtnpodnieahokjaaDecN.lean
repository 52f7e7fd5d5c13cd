/- Walks over commands: the code's reader reads a number. -/
import Derived.Test.YtnpodnieahokjaaEnc
import Derived.Test.YtnpodnieahokjaaCmdE
import Derived.Test.YtnpodnieahokjaaRead
namespace Go.Proofs.Ytnpodnieahokjaa
open Go.RowKit

/-- What a reader at place k with error e reads: the number, the place, the error. -/
def rnum (lb : List Int) (k : Nat) (e most : Int) : Int × Nat × Int :=
  if e ≠ 0 then (0, k, e)
  else if (readN (lb.drop k)).2.2 ≠ 0 then (0, k, (readN (lb.drop k)).2.2)
  else if (readN (lb.drop k)).1 > most then (0, k, 11)
  else ((readN (lb.drop k)).1, k + (readN (lb.drop k)).2.1.toNat, 0)
theorem cut8 {A : Option Addr} {c : Nat} {lb : List Int} {k : Nat} (hk : k ≤ lb.length) (hc : lb.length ≤ c) : ∃ A' c', (∀ w : World, (Instr.slice 31 (.slice A lb.length c) (some (.int .i64 (k : Int))) none none).run Try.prog w = .ok (.slice A' (lb.drop k).length c') w) ∧
    ∀ w, In8 w A c lb → In8 w A' c' (lb.drop k) := by
  refine ⟨if c = k then A else A.map (·.add (k * 1)), c - k, fun w => ?_, fun w h => ⟨?_, h.byt.drop k, by rw [List.length_drop]; omega, by rw [List.length_drop]; have := h.small; omega⟩⟩
  · rw [List.length_drop]
    have hu : Try.prog.underlying 31 = some (.slice (Try.prog.elem 31)) := by kernel_rfl
    rw [run_slice_l _ _ _ _ _ hu .i64 (k : Int) (by omega) (by omega)]
    have hs : (sizeOf (Try.prog.elem 31)).run Try.prog w = .ok 1 w := by
      show (sizeOf 5).run Try.prog w = .ok 1 w
      obtain ⟨i0, hi, _, hz1, _⟩ := info_parts info_u8
      simp [sizeOf, typeInfo, hi, hz1]
    rw [hs]
    simp [sliced, Result.andThen]
  · have := h.reads.cut hk hc
    rw [List.length_drop]
    simpa [u8s, List.map_drop] using this
def rdCells (A : Option Addr) (n c : Nat) (k : Nat) (e : Int) : Array Value := #[.slice A n c, .int .i64 (k : Int), .int .i64 e]

set_option maxRecDepth 100000 in
set_option maxHeartbeats 4000000 in
theorem num_walk (w : World) (gr : Nat) (A : Option Addr) (c : Nat) (lb : List Int) (k : Nat) (e most : Int) (h : In8 w A c lb) (hk : k ≤ lb.length) (hb : Blk w gr 53 (rdCells A lb.length c k e)) :
    Calls Try.prog 28 #[.pointer (some ⟨gr, 0, none⟩), .int .u64 most] w fun x w' => x = .returned (.int .u64 (rnum lb k e most).1) ∧
      Blk w' gr 53 (rdCells A lb.length c (rnum lb k e most).2.1 (rnum lb k e most).2.2) ∧ w.grownBy w' (some gr) := by
  have hs := h.small
  have hcap := h.cap
  unfold rdCells
  unfold rdCells at hb
  obtain ⟨A', c', hcut, hin⟩ := cut8 (A := A) (c := c) hk hcap
  obtain ⟨S, hS⟩ : ∃ S, Value.slice A lb.length c = S := ⟨_, rfl⟩
  rw [hS] at hb hcut ⊢
  have hb3 : Blk w gr 53 [S, .int .i64 (k : Int), .int .i64 e].toArray := hb
  have hc0 : w.cell? ⟨gr, 0, none⟩ = some S := by rw [hb3.cell]; rfl
  have hc1 : w.cell? ⟨gr, 1, none⟩ = some (.int .i64 (k : Int)) := by rw [hb3.cell]; rfl
  have hc2 : w.cell? ⟨gr, 2, none⟩ = some (.int .i64 e) := by rw [hb3.cell]; rfl
  have f1 := hb3.frozen 1
  have f2 := hb3.frozen 2
  by_cases he : e = 0
  rotate_left
  · have hne : (e != 0) = true := bne_iff_ne.2 he
    have hr0 : rnum lb k e most = (0, k, e) := by
      unfold rnum
      rw [if_pos he]
    have HR := Lib.hid hr0
    clear hr0
    clear he h hS hcut hin
    go_enter Try.func28, Try.ntmps28
    go_wp2
    go_ret
    rw [HR.out]
    exact ⟨rfl, hb, World.grownBy.refl _ _⟩
  subst he
  have C1 := fun j => readNum_any A' c' (lb.drop k) (w.drewN j) (hin _ (h.keep (below_drewN (Below.refl _ _) j)))
  have hrok := readN_ok (lb.drop k) (h.byt.drop k)
  have hrn : rnum lb k 0 most = rnum lb k 0 most := rfl
  conv at hrn => rhs; unfold rnum
  rw [if_neg (by simp)] at hrn
  simp only [List.length_drop] at hcut
  simp only [List.length_drop] at C1
  obtain ⟨⟨n, kk, x⟩, hr⟩ : ∃ r, readN (lb.drop k) = r := ⟨_, rfl⟩
  rw [hr] at hrok hrn
  simp only [hr] at C1
  simp only at C1 hrok hrn
  have C1 := fun j => Lib.hid (C1 j)
  clear hr hin h hS
  by_cases hx : x = 0
  rotate_left
  · rw [if_pos hx] at hrn
    have HR := Lib.hid hrn
    have hxe : (x == 0) = false := beq_eq_false_iff_ne.2 hx
    have hxn : (x != 0) = true := bne_iff_ne.2 hx
    clear hrn hrok hx
    go_enter Try.func28, Try.ntmps28
    go_wp2_with fail
    go_quiet ((go_at_call 33; exact Calls.quiet_of_same (C1 _).out))
    go_wp2
    go_ret
    rw [HR.out]
    exact ⟨rfl, Blk.setL (hb3.drewN nq) 2 _, only_setCell (p := ⟨gr, 2, none⟩) (only_drewN (World.grownBy.refl w (some gr)) nq) (.inl rfl) _⟩
  subst hx
  obtain ⟨hk1, hk2, hk3, hn1, hn2⟩ := hrok rfl
  rw [if_neg (by simp)] at hrn
  clear hrok
  by_cases hm : n > most
  · rw [if_pos hm] at hrn
    have HR := Lib.hid hrn
    have hd : decide (n > most) = true := decide_eq_true hm
    clear hrn hn1 hn2
    go_enter Try.func28, Try.ntmps28
    go_wp2_with fail
    go_quiet ((go_at_call 33; exact Calls.quiet_of_same (C1 _).out))
    go_wp2
    go_ret
    rw [HR.out]
    exact ⟨rfl, Blk.setL (hb3.drewN nq) 2 _, only_setCell (p := ⟨gr, 2, none⟩) (only_drewN (World.grownBy.refl w (some gr)) nq) (.inl rfl) _⟩
  · rw [if_neg hm] at hrn
    obtain ⟨j, rfl⟩ := Int.eq_ofNat_of_zero_le (show 0 ≤ kk by omega)
    rw [Int.toNat_natCast] at hrn
    have HR := Lib.hid hrn
    have hd : decide (n > most) = false := decide_eq_false hm
    rw [List.length_drop] at hk2
    have HSUM : Hid ((k : Int) + (j : Int) = ((k + j : Nat) : Int)) := by
      show _ = _
      omega
    have hkj : (k : Int) + (j : Int) ≤ 140737488355328 := by omega
    clear hk2 hk1 hk3
    clear hrn hn1 hn2 hm
    go_enter Try.func28, Try.ntmps28
    go_wp2_with fail
    go_quiet ((go_at_call 33; exact Calls.quiet_of_same (C1 _).out))
    go_wp2
    go_ret
    rw [HR.out]
    refine ⟨rfl, ?_, only_setCell (p := ⟨gr, 1, none⟩) (only_drewN (World.grownBy.refl w (some gr)) nq) (.inl rfl) _⟩
    have := Blk.setL (hb3.drewN nq) 1 (.int .i64 ((k : Int) + (j : Int)))
    rw [HSUM.out] at this ⊢
    exact this
end Go.Proofs.Ytnpodnieahokjaa
