/- Bytes that are read, cut behind. -/
import Derived.Test.YthdeappjankmmaaMem
namespace Go.Proofs.Ythdeappjankmmaa
set_option maxRecDepth 100000
open Go.RowKit

theorem In8.take {w : World} {A : Option Addr} {c : Nat} {l : List Int} (h : In8 w A c l) {N : Nat} (hN : N ≤ l.length) : In8 w A c (l.take N) := by
  refine ⟨?_, h.byt.take N, ?_, ?_⟩
  · have := h.reads.take hN
    rw [List.length_take, Nat.min_eq_left hN]
    simpa [u8s, List.map_take] using this
  · have := h.cap
    rw [List.length_take]
    omega
  · have := h.small
    rw [List.length_take]
    omega
end Go.Proofs.Ythdeappjankmmaa
