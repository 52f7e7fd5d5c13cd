/- Walks over commands: the document's Same. -/
import Derived.Test.YtfkaggdjhopjpaaSame3
import Derived.Test.YtfkaggdjhopjpaaCmdA
namespace Go.Proofs.Ytfkaggdjhopjpaa
set_option maxRecDepth 100000
open Go.RowKit

/-- Two commands are the same. -/
def sameB (k1 n1 t1 : Int) (l1 : List Int) (b1 q1 s1 m1 k2 n2 t2 : Int) (l2 : List Int) (b2 q2 s2 m2 : Int) : Bool :=
  k1 == k2 && n1 == n2 && t1 == t2 && b1 == b2 && q1 == q2 && s1 == s2 && m1 == m2 && decide (l1 = l2)

set_option maxRecDepth 100000 in
set_option maxHeartbeats 8000000 in
theorem ref_Same_any (w : World) (k1 n1 t1 : Int) (A1 : Option Addr) (c1 : Nat) (l1 : List Int) (b1 q1 s1 m1 k2 n2 t2 : Int) (A2 : Option Addr) (c2 : Nat) (l2 : List Int) (b2 q2 s2 m2 : Int)
    (h1 : InN .i64 w A1 c1 l1) (h2 : InN .i64 w A2 c2 l2) :
    Calls Try.prog 43 #[cmdV k1 n1 t1 (.slice A1 l1.length c1) b1 q1 s1 m1, cmdV k2 n2 t2 (.slice A2 l2.length c2) b2 q2 s2 m2] w fun e w' =>
      e = .returned (.bool (sameB k1 n1 t1 l1 b1 q1 s1 m1 k2 n2 t2 l2 b2 q2 s2 m2)) ∧ Below w.heap.size w w' := by
  have H1 := Lib.hid h1
  have H2 := Lib.hid h2
  clear h1 h2
  obtain ⟨V, hV⟩ : ∃ V, sameB k1 n1 t1 l1 b1 q1 s1 m1 k2 n2 t2 l2 b2 q2 s2 m2 = V := ⟨_, rfl⟩
  have HX := Lib.hid hV
  rw [hV]
  clear hV
  unfold cmdV
  cases h0 : (k1 == k2)
  · have HV : Hid (false = V) := by
      show _ = _
      rw [← HX.out]
      simp only [sameB, h0]
      simp
    go_enter Try.func43, Try.ntmps43
    go_wp2_with fail
    go_ret
    exact ⟨by rw [← HV.out]; rfl, ((Below.refl _ _).alloc (Nat.le_refl _) _).alloc (by simp) _⟩
  · skip
    cases h1 : (n1 == n2)
    · have HV : Hid (false = V) := by
        show _ = _
        rw [← HX.out]
        simp only [sameB, h0, h1]
        simp
      go_enter Try.func43, Try.ntmps43
      go_wp2_with fail
      go_ret
      exact ⟨by rw [← HV.out]; rfl, ((Below.refl _ _).alloc (Nat.le_refl _) _).alloc (by simp) _⟩
    · skip
      cases h2 : (t1 == t2)
      · have HV : Hid (false = V) := by
          show _ = _
          rw [← HX.out]
          simp only [sameB, h0, h1, h2]
          simp
        go_enter Try.func43, Try.ntmps43
        go_wp2_with fail
        go_ret
        exact ⟨by rw [← HV.out]; rfl, ((Below.refl _ _).alloc (Nat.le_refl _) _).alloc (by simp) _⟩
      · skip
        cases h3 : (b1 == b2)
        · have HV : Hid (false = V) := by
            show _ = _
            rw [← HX.out]
            simp only [sameB, h0, h1, h2, h3]
            simp
          go_enter Try.func43, Try.ntmps43
          go_wp2_with fail
          go_ret
          exact ⟨by rw [← HV.out]; rfl, ((Below.refl _ _).alloc (Nat.le_refl _) _).alloc (by simp) _⟩
        · skip
          cases h4 : (q1 == q2)
          · have HV : Hid (false = V) := by
              show _ = _
              rw [← HX.out]
              simp only [sameB, h0, h1, h2, h3, h4]
              simp
            go_enter Try.func43, Try.ntmps43
            go_wp2_with fail
            go_ret
            exact ⟨by rw [← HV.out]; rfl, ((Below.refl _ _).alloc (Nat.le_refl _) _).alloc (by simp) _⟩
          · skip
            cases h5 : (s1 == s2)
            · have HV : Hid (false = V) := by
                show _ = _
                rw [← HX.out]
                simp only [sameB, h0, h1, h2, h3, h4, h5]
                simp
              go_enter Try.func43, Try.ntmps43
              go_wp2_with fail
              go_ret
              exact ⟨by rw [← HV.out]; rfl, ((Below.refl _ _).alloc (Nat.le_refl _) _).alloc (by simp) _⟩
            · skip
              cases h6 : (m1 == m2)
              · have HV : Hid (false = V) := by
                  show _ = _
                  rw [← HX.out]
                  simp only [sameB, h0, h1, h2, h3, h4, h5, h6]
                  simp
                go_enter Try.func43, Try.ntmps43
                go_wp2_with fail
                go_ret
                exact ⟨by rw [← HV.out]; rfl, ((Below.refl _ _).alloc (Nat.le_refl _) _).alloc (by simp) _⟩
              · have HV : Hid (decide (l1 = l2) = V) := by
                  show _ = _
                  rw [← HX.out]
                  simp only [sameB, h0, h1, h2, h3, h4, h5, h6]
                  simp
                have hbw : Below w.heap.size w ((w.alloc (.cells #[.int .i64 k1, .int .i64 n1, .int .i64 t1, .slice A1 l1.length c1, .int .u64 b1, .int .u64 q1, .int .u64 s1, .int .u64 m1] 39)).alloc (.cells #[.int .i64 k2, .int .i64 n2, .int .i64 t2, .slice A2 l2.length c2, .int .u64 b2, .int .u64 q2, .int .u64 s2, .int .u64 m2] 39)) := (((Below.refl _ _).alloc (Nat.le_refl _) _).alloc (by simp) _)
                have C := Lib.hid (r03_Same_any _ A1 A2 c1 c2 l1 l2 (H1.out.keep hbw) (H2.out.keep hbw))
                clear hbw
                go_enter Try.func43, Try.ntmps43
                go_wp2_with fail
                refine C.out.mono ?_
                rintro e w2 ⟨rfl, j, rfl⟩
                go_wp2
                go_ret
                exact ⟨by rw [← HV.out]; rfl, below_drewN (((Below.refl _ _).alloc (Nat.le_refl _) _).alloc (by simp) _) _⟩
end Go.Proofs.Ytfkaggdjhopjpaa
