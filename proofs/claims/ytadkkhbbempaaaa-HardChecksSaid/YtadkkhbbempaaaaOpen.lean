/- Arguments opened: a slice of bytes that came in. -/
import Derived.Test.YtadkkhbbempaaaaMem
import Derived.ProofKit
import Derived.OpenShut
import Derived.SizedLaws
import Derived.Lib.SlBytesConst
namespace Go.Proofs.Ytadkkhbbempaaaa
set_option maxRecDepth 100000
open Go.ChangeShapes Go.WideShapes Go.ChangeAt Go.RowKit

/-- Numbers of a kind, well formed, are in its bounds. -/
theorem wf_u64 {n : Int} (h : (Lit.int .u64 n).wf = true) : 0 ≤ n ∧ n < 18446744073709551616 := by
  have := bounds_u64 h
  omega
theorem wf_i64 {n : Int} (h : (Lit.int .i64 n).wf = true) : -9223372036854775808 ≤ n ∧ n ≤ 9223372036854775807 := bounds_i64 h
theorem nat_u64 {n : Int} (h : (Lit.int .u64 n).wf = true) : ∃ m : Nat, n = m ∧ m < 18446744073709551616 := by
  have := wf_u64 h
  exact ⟨n.toNat, by omega, by omega⟩

/-- What is known of a slice of bytes that came in. -/
def OpenB (W : World) (v : Value) : Prop := ∃ A c l, v = .slice A l.length c ∧ In8 W A c l ∧ l.length ≤ 140737488351232
theorem open_bytes {H : Type} {enc : TypeId × Value → H} {W : World} {base : Nat} {r : Reach} {v : Value} {d : DataW H} {p : List MemPlace} {ts : List TypeId} {ds : List (DataW H)}
    (hv : Value.okWide Try.prog W r base 75 v) (h : DataW.Trod enc Try.prog W 0 (fun _ => true) true 75 v d p)
    (hsz : (DataW.weightsEach Try.prog ts ds).all (· ≤ reachBytes) = true) {j : Nat} (ht : ts[j]? = some 75) (hd : ds[j]? = some d) :
    OpenB W v := by
  obtain ⟨a0, len, cap, rfl⟩ := okWide_slice Try.underlying75 hv
  have h' := h
  obtain ⟨fuel, hf⟩ := h
  have hlt : ∀ x ∈ p, x.block < W.heap.size := DataW.trod_lt fuel _ _ _ hf
  rcases open_ints Try.underlying75 Try.underlying5 (by kernel_rfl) hf with ⟨hcs, hx⟩ | ⟨x, l, c, zs, hcs, _, hl, hm, hz, hx, hcell, hwz⟩
  · simp [Value.cells] at hcs
    obtain ⟨rfl, rfl, rfl⟩ := hcs
    exact ⟨none, 0, [], rfl, ⟨Reads.none_, Byt.nil, Nat.le_refl _, by simp⟩, by simp⟩
  · simp [Value.cells] at hcs
    obtain ⟨rfl, rfl, rfl⟩ := hcs
    have hz' : zs.length = cap := by simpa using hz
    have hw : len * 1 ≤ 140737488351232 := by
      obtain ⟨hx, _⟩ := Prod.mk.inj hx
      subst hx
      have z := sized_slice hsz ht hd Try.underlying75
      rw [show Try.prog.bytesOf 5 = 1 from by kernel_rfl] at z
      have h1 : (lits (H := H) .u8 (zs.take len)).length + (lits (H := H) .u8 (zs.drop len)).length = zs.length := by
        simp [lits]
        omega
      rw [h1] at z
      have hr : reachBytes = 140737488351232 := rfl
      rw [hr] at z
      omega
    refine ⟨some x, cap, zs.take len, ?_, ⟨?_, ?_, ?_, ?_⟩, ?_⟩
    · rw [List.length_take, Nat.min_eq_left (by omega)]
    · rw [List.length_take, Nat.min_eq_left (by omega)]
      have hlen : (u8s (zs.take len)).length = len := by rw [u8s_length, List.length_take]; omega
      rcases Nat.eq_zero_or_pos len with h0 | h0
      · subst h0
        exact ⟨by simpa using hlen, fun h => by omega⟩
      · have hb : x.block < W.heap.size := World.block_lt_of_cell? W _ (hcell 0 (by omega))
        refine Reads.of_add (by omega) hb (fun j u hu => ?_) (by omega)
        have hj : j < len := by have := (List.getElem?_eq_some_iff.1 hu).1; omega
        rw [u8s_get (by rw [List.length_take]; omega)] at hu
        injection hu with hu
        subst hu
        rw [hcell j (by omega)]
        simp [List.getD_eq_getElem?_getD, show j < zs.length by omega]
    · intro y hy
      have := bounds_u8 (hwz y (List.mem_of_mem_take hy))
      omega
    · rw [List.length_take]; omega
    · rw [List.length_take]; omega
    · rw [List.length_take]; omega

end Go.Proofs.Ytadkkhbbempaaaa
