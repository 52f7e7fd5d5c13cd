/- Commands: what the code's Encode answers of any command; bytes cut short. -/
import Derived.Test.YtnpodnieahokjaaDecW
import Derived.Test.YtnpodnieahokjaaDecR
import Derived.Test.YtnpodnieahokjaaLive
import Derived.Test.YtnpodnieahokjaaOpenCmd
namespace Go.Proofs.Ytnpodnieahokjaa
open Go.RowKit

theorem enc_cases (k n t : Int) (A : Option Addr) (c : Nat) (l : List Int) (b q s m : Int) (hb : 0 ≤ b ∧ b < 18446744073709551616) (hq : 0 ≤ q ∧ q < 18446744073709551616) (hs : 0 ≤ s ∧ s < 18446744073709551616) (hm : 0 ≤ m ∧ m < 18446744073709551616) :
    (codeOk k n t l b q s m = false ∧ ∀ W, InN .i64 W A c l → Calls Try.prog 13 #[cmdV k n t (.slice A l.length c) b q s m] W fun e w' => e = .returned (.tuple #[.slice none 0 0, .int .i64 40]) ∧ Below W.heap.size W w') ∨
    (∃ k' n' t' b' q' s' m' : Nat, k = (k' : Int) ∧ n = (n' : Int) ∧ t = (t' : Int) ∧ b = (b' : Int) ∧ q = (q' : Int) ∧ s = (s' : Int) ∧ m = (m' : Int) ∧ CmdOk k' n' t' l b' q' s' m' ∧
      ∀ W, InN .i64 W A c l → Calls Try.prog 13 #[cmdV k n t (.slice A l.length c) b q s m] W fun e w' => ∃ v, e = .returned (.tuple #[v, .int .i64 0]) ∧ Own8 w' W.heap.size v (numsB (numsL k n t l b q s m)) ∧ Below W.heap.size W w') := by
  cases hok : codeOk k n t l b q s m
  · refine .inl ⟨rfl, fun W hW => cmd_Encode_bad W k n t A c l b q s m hW (fun W hW => ?_)⟩
    have := cmd_Check_any W k n t A c l b q s m hW
    rw [hok] at this
    exact this
  · obtain ⟨k1, k6, n0, n7, t0, t6, hset, hnil⟩ := ok_nats hok
    obtain ⟨k, rfl⟩ : ∃ k' : Nat, k = (k' : Int) := ⟨k.toNat, by omega⟩
    obtain ⟨n, rfl⟩ : ∃ k' : Nat, n = (k' : Int) := ⟨n.toNat, by omega⟩
    obtain ⟨t, rfl⟩ : ∃ k' : Nat, t = (k' : Int) := ⟨t.toNat, by omega⟩
    obtain ⟨b, rfl⟩ : ∃ k' : Nat, b = (k' : Int) := ⟨b.toNat, by omega⟩
    obtain ⟨q, rfl⟩ : ∃ k' : Nat, q = (k' : Int) := ⟨q.toNat, by omega⟩
    obtain ⟨s, rfl⟩ : ∃ k' : Nat, s = (k' : Int) := ⟨s.toNat, by omega⟩
    obtain ⟨m, rfl⟩ : ∃ k' : Nat, m = (k' : Int) := ⟨m.toNat, by omega⟩
    refine .inr ⟨k, n, t, b, q, s, m, rfl, rfl, rfl, rfl, rfl, rfl, rfl, ⟨hok, by omega, by omega, by omega, by omega⟩, fun W hW => ?_⟩
    refine (cmd_Encode_ok W k n t A c l b q s m hW (by omega) (by omega) (by omega) (by omega) (by omega) (by omega) (by omega) hset (fun W hW => ?_))
    have := cmd_Check_any W k n t A c l b q s m hW
    rw [hok] at this
    exact this
theorem numsL_len {k n t : Nat} {l : List Int} {b q s m : Nat} (h : CmdOk k n t l b q s m) : (numsL (k : Int) n t l b q s m).length ≤ 100 ∧ 1 ≤ (numsB (numsL (k : Int) n t l b q s m)).length ∧ (numsB (numsL (k : Int) n t l b q s m)).length ≤ 900 := by
  obtain ⟨k1, k6, n0, n7, t0, t6, hset, hnil⟩ := ok_nats h.ok
  have hl7 : l.length ≤ 7 := by
    cases hN : kN k
    · rw [hnil hN]; simp
    · exact set_len (hset hN)
  have hlen : (numsL (k : Int) n t l b q s m).length ≤ 100 := by
    unfold numsL
    repeat' rw [List.length_append]
    have e1 : (if kN k = true then (l.length : Int) :: l else []).length ≤ 8 := by split <;> simp <;> omega
    have e2 : (if kR k = true then [(n : Int), (b : Int), (q : Int)] else []).length ≤ 3 := by split <;> simp
    have e3 : (if kT k = true then [(t : Int), (s : Int)] else []).length ≤ 2 := by split <;> simp
    have e5 : (if kS k = true then [(m : Int)] else []).length ≤ 1 := by split <;> simp
    have e4 : ([(k : Int)]).length = 1 := rfl
    omega
  refine ⟨hlen, ?_, ?_⟩
  · have e := numsB_parts k n t l b q s m []
    rw [List.append_nil] at e
    rw [e, List.length_append]
    have := numB_pos k
    omega
  · have := numsB_le (numsL (k : Int) n t l b q s m)
    omega
theorem In8.take {w : World} {A : Option Addr} {c : Nat} {l : List Int} (h : In8 w A c l) {N : Nat} (hN : N ≤ l.length) : In8 w A c (l.take N) := by
  refine ⟨?_, h.byt.take N, ?_, ?_⟩
  · have := h.reads.take hN
    rw [List.length_take, Nat.min_eq_left hN]
    simpa [u8s, List.map_take] using this
  · have := h.cap
    rw [List.length_take]
    omega
  · have := h.small
    rw [List.length_take]
    omega
end Go.Proofs.Ytnpodnieahokjaa
