/- Walks over commands: which fields a kind has, by the code and by the document. -/
import Derived.Test.YtfkaggdjhopjpaaCom
import Derived.Test.YtfkaggdjhopjpaaNodesB
namespace Go.Proofs.Ytfkaggdjhopjpaa
set_option maxRecDepth 100000
open Go.RowKit

def kN (k : Int) : Bool := decide (k = 2)
def kR (k : Int) : Bool := decide (k = 3 ∨ k = 4 ∨ k = 5)
def kT (k : Int) : Bool := decide (k = 4 ∨ k = 5 ∨ k = 6)
def kS (k : Int) : Bool := decide (k = 6)
def kI (k : Int) : Bool := decide (1 ≤ k ∧ k ≤ 6)
theorem info_which : (Try.prog.info? 149).map (·.size) = some 5 := by kernel_rfl
theorem kinds (k : Int) : k = 1 ∨ k = 2 ∨ k = 3 ∨ k = 4 ∨ k = 5 ∨ k = 6 ∨ (k ≠ 1 ∧ k ≠ 2 ∧ k ≠ 3 ∧ k ≠ 4 ∧ k ≠ 5 ∧ k ≠ 6) := by omega
theorem load_which (w : World) (b0 b1 b2 b3 b4 : Bool) : (loadVar 149 ⟨w.heap.size, 0, none⟩).run Try.prog (w.alloc (.cells #[.bool b0, .bool b1, .bool b2, .bool b3, .bool b4] 149)) = .ok (.agg #[.bool b0, .bool b1, .bool b2, .bool b3, .bool b4]) (w.alloc (.cells #[.bool b0, .bool b1, .bool b2, .bool b3, .bool b4] 149)) :=
  run_loadVar_row _ _ _ _ _ (0, 0) _ (Blk.new _ _ _) Try.underlying149 rfl info_which
/-- Which fields a kind has, as the code's row. -/
def which (k : Int) : Value := .agg #[.bool (kN k), .bool (kR k), .bool (kT k), .bool (kS k), .bool (kI k)]

set_option maxHeartbeats 1000000 in
theorem cmd_of_any (w : World) (k : Int) :
    Calls Try.prog 75 #[.int .i64 k] w fun e w' => e = .returned (which k) ∧ Below w.heap.size w w' := by
  rcases kinds k with rfl | rfl | rfl | rfl | rfl | rfl | ⟨h1, h2, h3, h4, h5, h6⟩
  case inr.inr.inr.inr.inr.inr =>
    have e1 : which k = .agg #[.bool false, .bool false, .bool false, .bool false, .bool false] := by
      simp [which, kN, kR, kT, kS, kI, h2, h3, h4, h5, h6]
      omega
    rw [e1]
    clear e1
    go_enter Try.func75, Try.ntmps75
    go_wp2
    (try simp only [Exit.inBlock, Exit.then])
    refine bodyPost_ret (results_cell1 rfl rfl (load_which w _ _ _ _ _)) rfl ?_
    exact ⟨rfl, (Below.refl _ _).alloc (Nat.le_refl _) _⟩
  all_goals
    go_enter Try.func75, Try.ntmps75
    go_wp2
    (try simp only [Exit.inBlock, Exit.then])
    refine bodyPost_ret (results_cell1 rfl rfl (load_which w _ _ _ _ _)) rfl ?_
    exact ⟨rfl, (Below.refl _ _).alloc (Nat.le_refl _) _⟩

/-- The document's letters of a kind. -/
def fld (k : Int) : ByteArray := if k = 2 then ⟨#[108]⟩ else if k = 3 then ⟨#[110, 98, 113]⟩ else if k = 4 ∨ k = 5 then ⟨#[110, 98, 113, 116, 115]⟩ else if k = 6 then ⟨#[116, 115, 109]⟩ else ⟨#[]⟩
set_option maxHeartbeats 1000000 in
theorem ref_fields_any (w : World) (k : Int) :
    Calls Try.prog 67 #[.int .i64 k] w fun e w' => e = .returned (.tuple #[.string (fld k), .bool (kI k)]) ∧ w' = w := by
  rcases kinds k with rfl | rfl | rfl | rfl | rfl | rfl | ⟨h1, h2, h3, h4, h5, h6⟩
  case inr.inr.inr.inr.inr.inr =>
    have e1 : fld k = ⟨#[]⟩ := by simp [fld, h2, h3, h4, h5, h6]
    have e2 : kI k = false := by simp [kI]; omega
    rw [e1, e2]
    clear e1 e2
    go_enter Try.func67, Try.ntmps67
    go_wp2
    go_ret2
    exact ⟨rfl, rfl⟩
  all_goals
    go_enter Try.func67, Try.ntmps67
    go_wp2
    go_ret2
    exact ⟨rfl, rfl⟩

theorem bytes_get {s : ByteArray} {k : Nat} (h : k < s.size) : (bytes s)[k]'(by rw [bytes_length]; exact h) = (s[k].toNat : Int) := by
  simp [bytes]
  rfl
/-- A letter is among some. -/
def hasB (s : ByteArray) (c : Int) : Bool := (bytes s).contains c
theorem ref_has_any (w : World) (s : ByteArray) (c : Int) (hs : s.size ≤ 140737488351232) :
    Calls Try.prog 69 #[.string s, .int .u8 c] w fun e w' => e = .returned (.bool (hasB s c)) ∧ w' = w := by
  obtain ⟨X, hX⟩ : ∃ X, hasB s c = X := ⟨_, rfl⟩
  have HX := Lib.hid hX
  rw [hX]
  clear hX
  go_enter Try.func69, Try.ntmps69
  go_wp2
  go_loop [4, 5] (fun b i => ∃ k : Nat, k ≤ s.size ∧ b = .bool false ∧ i = .int .i64 k ∧ ∀ j (hj : j < (bytes s).length), j < k → (bytes s)[j] ≠ c) (fun _ i => s.size - (intOf i).toNat)
  case atStart => exact ⟨0, by omega, rfl, rfl, fun j _ h => by omega⟩
  case round =>
    obtain ⟨k, hk, rfl, rfl, hno⟩ := hrel
    have HNO := Lib.hid hno
    clear hno
    by_cases hlt : k < s.size
    · have hbk : (s[k].toNat : Int) = (bytes s)[k]'(by rw [bytes_length]; exact hlt) := (bytes_get hlt).symm
      have HBK := Lib.hid hbk
      clear hbk
      by_cases heq : ((s[k].toNat : Int) == c) = true
      · have HE : Hid (true = X) := by
          show _ = _
          rw [← HX.out]
          have e2 : (bytes s)[k]'(by rw [bytes_length]; exact hlt) = c := by rw [← HBK.out]; simpa using heq
          exact (by simp only [hasB, List.contains_eq_mem, decide_eq_true_eq]; exact e2 ▸ List.getElem_mem _ : hasB s c = true).symm
        go_wp2
        go_ret
        rw [← HE.out]
        exact ⟨rfl, rfl⟩
      · have hef : ((s[k].toNat : Int) == c) = false := by simpa using heq
        clear heq
        go_wp2
        go_round
        case rel =>
          refine ⟨k + 1, by omega, rfl, by go_num, fun j hj hjk => ?_⟩
          rcases Nat.lt_or_ge j k with h1 | h1
          · exact HNO.out j hj h1
          · obtain rfl : j = k := by omega
            rw [← HBK.out]
            simpa using hef
        case measure => simp [intOf]; omega
    · obtain rfl : k = s.size := by omega
      have HE : Hid (false = X) := by
        show _ = _
        rw [← HX.out]
        symm
        simp only [hasB, List.contains_eq_mem, decide_eq_false_iff_not]
        intro hm
        obtain ⟨j, hj, e⟩ := List.getElem_of_mem hm
        exact HNO.out j hj (by rw [bytes_length] at hj; exact hj) e
      go_wp2
      go_ret
      rw [← HE.out]
      exact ⟨rfl, rfl⟩

def rightB (b : Bool) (n hi : Int) : Bool := if b then decide (1 ≤ n) && decide (n ≤ hi) else n == 0
theorem ref_right_any (w : World) (b : Bool) (n hi : Int) :
    Calls Try.prog 68 #[.bool b, .int .u64 n, .int .u64 hi] w fun e w' => e = .returned (.bool (rightB b n hi)) ∧ w' = w := by
  cases b
  · show Calls _ _ _ _ fun e w' => e = .returned (.bool (n == 0)) ∧ w' = w
    go_enter Try.func68, Try.ntmps68
    go_wp2
    go_ret
    exact ⟨rfl, rfl⟩
  · by_cases h1 : 1 ≤ n
    · have e1 : rightB true n hi = decide (n ≤ hi) := by simp [rightB, h1]
      rw [e1]
      clear e1
      go_enter Try.func68, Try.ntmps68
      go_wp2
      go_ret
      exact ⟨rfl, rfl⟩
    · have e1 : rightB true n hi = false := by simp [rightB, h1]
      rw [e1]
      clear e1
      go_enter Try.func68, Try.ntmps68
      go_wp2
      go_ret
      exact ⟨rfl, rfl⟩
end Go.Proofs.Ytfkaggdjhopjpaa
