/- Arguments opened: a slice of ints that came in. -/
import Derived.Test.YtfkaggdjhopjpaaSame3
import Derived.Test.YtfkaggdjhopjpaaOpen
namespace Go.Proofs.Ytfkaggdjhopjpaa
set_option maxRecDepth 100000
open Go.ChangeShapes Go.WideShapes Go.ChangeAt Go.RowKit

/-- A slice of ints that came in, within something else. -/
theorem open_nums {H : Type} {enc : TypeId × Value → H} {W : World} {fuel : Nat} {cs : List Value} {x : DataW H × List MemPlace} {ts : List TypeId} {ds : List (DataW H)}
    (hf : DataW.trod enc Try.prog W 0 (fun _ => true) true fuel 37 cs = some x)
    (hsz : (DataW.weightsEach Try.prog ts ds).all (· ≤ reachBytes) = true) {j : Nat} (ht : ts[j]? = some 37) (hd : ds[j]? = some x.1) :
    ∃ A c l, cs = [.slice A l.length c] ∧ InN .i64 W A c l ∧ l.length ≤ 17592186043904 := by
  rcases open_ints Try.underlying37 Try.underlying3 (by kernel_rfl) hf with ⟨hcs, hx⟩ | ⟨x0, len, cap, zs, hcs, _, hl, hm, hz, hx, hcell, hwz⟩
  · exact ⟨none, 0, [], hcs, InN.nil, by simp⟩
  · have hz' : zs.length = cap := by simpa using hz
    have hw : cap * 8 ≤ 140737488351232 := by
      subst hx
      have z := sized_slice hsz ht hd Try.underlying37
      rw [show Try.prog.bytesOf 3 = 8 from by kernel_rfl] at z
      have h1 : (lits (H := H) .i64 (zs.take len)).length + (lits (H := H) .i64 (zs.drop len)).length = zs.length := by
        simp [lits]
        omega
      rw [h1] at z
      have hr : reachBytes = 140737488351232 := rfl
      rw [hr] at z
      omega
    have hlen : (zs.take len).length = len := by rw [List.length_take, Nat.min_eq_left (by omega)]
    refine ⟨some x0, cap, zs.take len, by rw [hlen]; exact hcs, ⟨?_, ?_, ?_, ?_⟩, ?_⟩
    · have hnl : (nums .i64 (zs.take len)).length = len := by rw [nums_length, hlen]
      rw [hlen]
      rcases Nat.eq_zero_or_pos len with h0 | h0
      · subst h0
        exact ⟨by simpa using hnl, fun h => by omega⟩
      · have hb : x0.block < W.heap.size := World.block_lt_of_cell? W _ (hcell 0 (by omega))
        refine Reads.of_add (by omega) hb (fun j u hu => ?_) (by omega)
        have hj : j < len := by have := (List.getElem?_eq_some_iff.1 hu).1; omega
        rw [nums_get (by omega)] at hu
        injection hu with hu
        subst hu
        rw [hcell j (by omega)]
        simp [List.getD_eq_getElem?_getD, show j < zs.length by omega]
    · intro y hy
      exact hwz y (List.mem_of_mem_take hy)
    · omega
    · omega
    · omega

/-- What is known of a slice of ints that came in. -/
def OpenI (W : World) (v : Value) : Prop := ∃ A c l, v = .slice A l.length c ∧ InN .i64 W A c l ∧ l.length ≤ 17592186043904
theorem open_ints_ {H : Type} {enc : TypeId × Value → H} {W : World} {base : Nat} {r : Reach} {v : Value} {d : DataW H} {p : List MemPlace} {ts : List TypeId} {ds : List (DataW H)}
    (hv : Value.okWide Try.prog W r base 37 v) (h : DataW.Trod enc Try.prog W 0 (fun _ => true) true 37 v d p)
    (hsz : (DataW.weightsEach Try.prog ts ds).all (· ≤ reachBytes) = true) {j : Nat} (ht : ts[j]? = some 37) (hd : ds[j]? = some d) : OpenI W v := by
  obtain ⟨a0, len, cap, rfl⟩ := okWide_slice Try.underlying37 hv
  obtain ⟨fuel, hf⟩ := h
  obtain ⟨A, c, l, e, hin, hl⟩ := open_nums hf hsz ht hd
  simp [Value.cells] at e
  obtain ⟨rfl, rfl, rfl⟩ := e
  exact ⟨_, _, l, rfl, hin, hl⟩
theorem sized_agg {H : Type} {P : Program} {ts : List TypeId} {ds : List (DataW H)} (h : (DataW.weightsEach P ts ds).all (· ≤ reachBytes) = true) {j : Nat} {t : TypeId} {fs : Array Field} {parts : List (DataW H)} (ht : ts[j]? = some t) (hd : ds[j]? = some (.agg parts)) (hu : P.underlying t = some (.struct fs)) :
    (DataW.weightsEach P (fs.toList.map (·.type)) parts).all (· ≤ reachBytes) = true := by
  refine List.all_eq_true.2 fun n hn => List.all_eq_true.1 h n (DataW.weights_mem_each ht hd n ?_)
  simp only [DataW.weights, hu]
  exact hn
end Go.Proofs.Ytfkaggdjhopjpaa
