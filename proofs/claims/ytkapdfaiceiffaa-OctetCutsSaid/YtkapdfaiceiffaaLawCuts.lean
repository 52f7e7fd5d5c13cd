/- The walk of the law OctetCuts. -/
import Derived.Test.YtkapdfaiceiffaaOne
import Derived.Test.YtkapdfaiceiffaaOpen
import Derived.Test.YtkapdfaiceiffaaOctLaws
namespace Go.Proofs.Ytkapdfaiceiffaa
open Go.RowKit

set_option maxHeartbeats 1000000 in
theorem octetCuts_walk (w : World) (n : Nat) (hn : n < 18446744073709551616) :
    Calls Try.prog 10 #[.int .u64 n] w fun e w' => e = .returned (.bool true) ∧ Below w.heap.size w w' := by
  have hx9 := numB_le n
  have hx1 := numB_pos n
  have hxb := numB_byt n
  have hR := readN_cut n
  obtain ⟨x, hx⟩ : ∃ x, numB n = x := ⟨_, rfl⟩
  rw [hx] at hR hxb hx9 hx1
  have C1 := Lib.hid (fun w => hx ▸ num_any n hn w)
  clear hx hn
  have hlen : (x.take (x.length - 1)).length = x.length - 1 := by rw [List.length_take]; omega
  obtain ⟨⟨a, b, c⟩, hr⟩ : ∃ r, readN (x.take (x.length - 1)) = r := ⟨_, rfl⟩
  rw [hr] at hR
  simp only at hR
  subst hR
  have C2 := Lib.hid (fun A c w h => hlen ▸ hr ▸ readNum_any A c (x.take (x.length - 1)) w h)
  clear hr
  have HLEN := Lib.hid hlen
  clear hlen
  have HT := Lib.hid (hxb.take (x.length - 1))
  clear hxb
  go_enter Try.func10, Try.ntmps10
  go_wp2_with fail
  refine (C1.out _).mono ?_
  rintro e w1 ⟨v, rfl, ho, hB1⟩
  obtain ⟨Ax, cx, rfl, hc1, _, hrx⟩ := own_open ho
  have hin : In8 w1 Ax cx (x.take (x.length - 1)) := by
    refine ⟨?_, HT.out, by rw [HLEN.out]; omega, by rw [HLEN.out]; omega⟩
    rw [HLEN.out]
    have := hrx.take (k := x.length - 1) (by omega)
    rw [Nat.mul_one] at this
    rw [u8s, List.map_take]
    exact this
  have HN := Lib.hid hin
  clear hin hrx ho HT
  go_wp2_with fail
  refine (C2.out _ _ _ HN.out).mono ?_
  rintro e w4 ⟨rfl, hw⟩
  obtain rfl := hw.symm
  go_wp2_with fail
  refine (one_any _).mono ?_
  rintro e w5 ⟨rfl, hB5⟩
  go_wp2
  go_ret
  exact ⟨rfl, below_then hB1 hB1.size hB5⟩
theorem octetCuts_row (w : World) (a : Int) (ha : (Lit.int .u64 a).wf = true) :
    Calls Try.prog 10 #[.int .u64 a] w fun e w' => e = .returned (.bool true) ∧ Below w.heap.size w w' := by
  obtain ⟨n, rfl, hn⟩ := nat_u64 ha
  exact octetCuts_walk w n hn
end Go.Proofs.Ytkapdfaiceiffaa
