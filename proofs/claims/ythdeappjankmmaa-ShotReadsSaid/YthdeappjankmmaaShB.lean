/- A snapshot's bytes: how many. -/
import Derived.Test.YthdeappjankmmaaShF
namespace Go.Proofs.Ythdeappjankmmaa
set_option maxRecDepth 100000
open Go.RowKit

theorem shotB_len {i t : Int} {ns : List Int} {lim nxt : Int} {hs : List Hd} {ls : List Ls} (n : ShNums i t ns lim nxt hs ls) : (shotB i t ns lim nxt hs ls).length ≤ 8000 := by
  have h1 := numsB_le (shotL i t ns lim nxt hs ls)
  have h2 := flatI_len (f := hdL) (s := 5) (fun _ => rfl) hs
  have h3 := flatI_len (f := lsL) (s := 6) (fun _ => rfl) ls
  have n1 := n.nsl
  have n2 := n.hsl
  have n3 := n.lsl
  have h4 : (shotL i t ns lim nxt hs ls).length ≤ 3 + 7 + 3 + 320 + 1 + 42 := by
    unfold shotL
    simp only [List.length_append, List.length_cons, List.length_nil, h2, h3]
    omega
  unfold shotB
  rw [List.length_cons]
  omega
theorem shotB_byt (i t : Int) (ns : List Int) (lim nxt : Int) (hs : List Hd) (ls : List Ls) : Byt (shotB i t ns lim nxt hs ls) := by
  have h := (show Byt [83] by unfold Byt; decide).append (numsB_byt (shotL i t ns lim nxt hs ls))
  exact h
end Go.Proofs.Ythdeappjankmmaa
