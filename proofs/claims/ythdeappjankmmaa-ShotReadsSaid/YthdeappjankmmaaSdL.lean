/- The code's Decode of snapshots, as the laws call it. -/
import Derived.Test.YthdeappjankmmaaMemT
import Derived.Test.YthdeappjankmmaaShB
import Derived.Test.YthdeappjankmmaaSdW
import Derived.Test.YthdeappjankmmaaSdP
import Derived.Test.YthdeappjankmmaaOpenShot
import Derived.Test.YthdeappjankmmaaShS2
namespace Go.Proofs.Ythdeappjankmmaa
set_option maxRecDepth 100000
open Go.RowKit

/-- A snapshot of whoever called: its rows are read. -/
structure ShR (w : World) (A0 : Option Addr) (c0 : Nat) (ns : List Int) (A1 : Option Addr) (c1 : Nat) (hs : List Hd) (A2 : Option Addr) (c2 : Nat) (ls : List Ls) : Prop where
  n : InN .i64 w A0 c0 ns
  h : InS hdC 5 w A1 c1 hs
  l : InS lsC 6 w A2 c2 ls
theorem ShR.keep {w w1 : World} {A0 : Option Addr} {c0 : Nat} {ns : List Int} {A1 : Option Addr} {c1 : Nat} {hs : List Hd} {A2 : Option Addr} {c2 : Nat} {ls : List Ls} (h : ShR w A0 c0 ns A1 c1 hs A2 c2 ls) (hb : Below w.heap.size w w1) : ShR w1 A0 c0 ns A1 c1 hs A2 c2 ls :=
  ⟨h.n.keep hb, h.h.keep hb, h.l.keep hb⟩
theorem shot_Decode_of (w : World) (A : Option Addr) (c : Nat) (lb : List Int) (h : In8 w A c lb) {i t : Int} {ns : List Int} {lim nxt : Int} {hs : List Hd} {ls : List Ls} (h0 : sE lb = 0) (F : Front lb i t ns lim nxt hs) (hl : (sLs lb).1 = ls) :
    Calls Try.prog 19 #[.slice A lb.length c] w fun x w' => ∃ A0 c0 A1 c1 A2 c2, x = .returned (.tuple #[shV i t (.slice A0 ns.length c0) lim nxt (.slice A1 hs.length c1) (.slice A2 ls.length c2), .int .i64 0]) ∧ ShR w' A0 c0 ns A1 c1 hs A2 c2 ls ∧ Below w.heap.size w w' := by
  refine (shot_Decode_walk w A c lb h).mono fun x w' ⟨hB, hx⟩ => ?_
  rcases hx with ⟨_, A0, c0, A1, c1, A2, c2, hx, k1, k2, k3⟩ | ⟨he, _⟩
  · rw [F.i, F.t, F.ns, F.lim, F.nxt, F.hs, hl] at hx
    rw [F.ns] at k1
    rw [F.hs] at k2
    rw [hl] at k3
    exact ⟨A0, c0, A1, c1, A2, c2, hx, ⟨k1, k2, k3⟩, hB⟩
  · exact absurd h0 he
theorem shot_Decode_err (w : World) (A : Option Addr) (c : Nat) (lb : List Int) (h : In8 w A c lb) {E : Int} (h0 : sE lb = E) (he : E ≠ 0) :
    Calls Try.prog 19 #[.slice A lb.length c] w fun x w' => x = .returned (.tuple #[shV 0 0 (.slice none 0 0) 0 0 (.slice none 0 0) (.slice none 0 0), .int .i64 E]) ∧ Below w.heap.size w w' := by
  refine (shot_Decode_walk w A c lb h).mono fun x w' ⟨hB, hx⟩ => ?_
  rw [h0] at hx
  rcases hx with ⟨he', _⟩ | ⟨_, hx⟩
  · exact absurd he' he
  · exact ⟨hx, hB⟩
/-- What the code's Encode comes to. -/
theorem shot_enc_cases (i t : Int) (An : Option Addr) (cn : Nat) (ns : List Int) (lim nxt : Int) (Ah : Option Addr) (ch : Nat) (hs : List Hd) (Al : Option Addr) (cl : Nat) (ls : List Ls) (hw1 : ∀ h ∈ hs, h.Wf) (hw2 : ∀ x ∈ ls, x.Wf) (hi : 0 ≤ i ∧ i < 18446744073709551616) (ht : 0 ≤ t ∧ t < 18446744073709551616) (hnx : 0 ≤ nxt ∧ nxt < 18446744073709551616) :
    (¬ ShotOk i t ns lim nxt hs ls ∧ ∀ W, ShR W An cn ns Ah ch hs Al cl ls → Calls Try.prog 16 #[shV i t (.slice An ns.length cn) lim nxt (.slice Ah hs.length ch) (.slice Al ls.length cl)] W fun e w' => e = .returned (.tuple #[.slice none 0 0, .int .i64 60]) ∧ Below W.heap.size W w') ∨
    (ShotOk i t ns lim nxt hs ls ∧ ShNums i t ns lim nxt hs ls ∧ ∀ W, ShR W An cn ns Ah ch hs Al cl ls → Calls Try.prog 16 #[shV i t (.slice An ns.length cn) lim nxt (.slice Ah hs.length ch) (.slice Al ls.length cl)] W fun e w' => ∃ v, e = .returned (.tuple #[v, .int .i64 0]) ∧ Own8 w' W.heap.size v (shotB i t ns lim nxt hs ls) ∧ Below W.heap.size W w') := by
  by_cases ok : ShotOk i t ns lim nxt hs ls
  · have nu := ok.nums hi ht hnx hw1 hw2
    exact .inr ⟨ok, nu, fun W (z : ShR W An cn ns Ah ch hs Al cl ls) => shot_Encode_ok W i t An cn ns lim nxt Ah ch hs Al cl ls z.n z.h z.l hw1 hw2 hnx.2 ok nu⟩
  · exact .inl ⟨ok, fun W (z : ShR W An cn ns Ah ch hs Al cl ls) => shot_Encode_bad W i t An cn ns lim nxt Ah ch hs Al cl ls z.n z.h z.l hw1 hw2 hnx.2 ok⟩
end Go.Proofs.Ythdeappjankmmaa
