/- The walk of the law CmdWrites. -/
import Derived.Test.YtnpodnieahokjaaEncOk
import Derived.Test.YtnpodnieahokjaaEncR
import Derived.Test.YtnpodnieahokjaaLawCmdChecks
namespace Go.Proofs.Ytnpodnieahokjaa
open Go.RowKit

theorem encs_eq (k n t : Nat) (l : List Int) (b q s m : Nat) (h : 1 ≤ k ∧ k ≤ 6) : encB k n t l b q s m = numsB (numsL k n t l b q s m) := by
  have hk : k = 1 ∨ k = 2 ∨ k = 3 ∨ k = 4 ∨ k = 5 ∨ k = 6 := by omega
  rcases hk with rfl | rfl | rfl | rfl | rfl | rfl <;> simp [encB, encL, numsB, numsL, fld, bytes, kN, kR, kT, kS]

set_option maxRecDepth 100000 in
set_option maxHeartbeats 4000000 in
theorem ref_Encode_bad (w : World) (k n t : Int) (A : Option Addr) (c : Nat) (l : List Int) (b q s m : Int) (h : InN .i64 w A c l)
    (C0 : ∀ W, InN .i64 W A c l → Calls Try.prog 11 #[cmdV k n t (.slice A l.length c) b q s m] W fun e w' => e = .returned (.int .i64 40) ∧ Below W.heap.size W w') :
    Calls Try.prog 14 #[cmdV k n t (.slice A l.length c) b q s m] w fun e w' => e = .returned (.tuple #[.slice none 0 0, .int .i64 40]) ∧ Below w.heap.size w w' := by
  have C0 := fun W hin => Lib.hid (C0 W hin)
  have HIN := Lib.hid h
  clear h
  obtain ⟨g, hg⟩ : ∃ g, w.heap.size = g := ⟨_, rfl⟩
  have hB0 : Below g w (w.alloc (.cells (cmdCells k n t (.slice A l.length c) b q s m) 25)) := (Below.refl _ _).alloc (by omega) _
  have hs0 : g ≤ (w.alloc (.cells (cmdCells k n t (.slice A l.length c) b q s m) 25)).heap.size := by simp; omega
  simp only [cmdV]
  go_enter Try.func14, Try.ntmps14
  go_wp2_with fail
  refine (C0 _ (HIN.out.keep (by rw [hg]; exact hB0))).out.mono ?_
  rintro e w1 ⟨rfl, hB1⟩
  have hBw1 := Lib.hid (hB0.trans (hB1.mono hs0))
  clear hB0 hs0 hB1
  go_wp2
  go_ret2
  exact ⟨rfl, by rw [hg]; exact hBw1.out⟩

/-- What both answer of any command: some bytes, an error. -/
theorem encs_any (k n t : Int) (A : Option Addr) (c : Nat) (l : List Int) (b q s m : Int)
    (hn : (Lit.int .i64 n).wf = true) (ht : (Lit.int .i64 t).wf = true) (hb : 0 ≤ b ∧ b < 18446744073709551616) (hq : 0 ≤ q ∧ q < 18446744073709551616) (hs : 0 ≤ s ∧ s < 18446744073709551616) (hm : 0 ≤ m ∧ m < 18446744073709551616) :
    ∃ (bs : List Int) (E : Int), Byt bs ∧ bs.length ≤ 1000 ∧
      (∀ W, InN .i64 W A c l → Calls Try.prog 13 #[cmdV k n t (.slice A l.length c) b q s m] W fun e w' => ∃ v, e = .returned (.tuple #[v, .int .i64 E]) ∧ Own8 w' W.heap.size v bs ∧ Below W.heap.size W w') ∧
      (∀ W, InN .i64 W A c l → Calls Try.prog 14 #[cmdV k n t (.slice A l.length c) b q s m] W fun e w' => ∃ v, e = .returned (.tuple #[v, .int .i64 E]) ∧ Own8 w' W.heap.size v bs ∧ Below W.heap.size W w') := by
  have he := codeOk_eq k n t l b q s m hb hq hs hm
  cases hok : codeOk k n t l b q s m
  · refine ⟨[], 40, Byt.nil, by simp, fun W hW => ?_, fun W hW => ?_⟩
    · refine (cmd_Encode_bad W k n t A c l b q s m hW (fun W hW => ?_)).mono (fun e w' hh => ⟨_, hh.1, own_nil _ _ _ _, hh.2⟩)
      have := cmd_Check_any W k n t A c l b q s m hW
      rw [hok] at this
      exact this
    · refine (ref_Encode_bad W k n t A c l b q s m hW (fun W hW => ?_)).mono (fun e w' hh => ⟨_, hh.1, own_nil _ _ _ _, hh.2⟩)
      have := ref_Check_any W k n t A c l b q s m hW hn ht
      rw [← he, hok] at this
      exact this
  · obtain ⟨k1, k6, n0, n7, t0, t6, hset, hnil⟩ := ok_nats hok
    obtain ⟨k, rfl⟩ : ∃ k' : Nat, k = (k' : Int) := ⟨k.toNat, by omega⟩
    obtain ⟨n, rfl⟩ : ∃ k' : Nat, n = (k' : Int) := ⟨n.toNat, by omega⟩
    obtain ⟨t, rfl⟩ : ∃ k' : Nat, t = (k' : Int) := ⟨t.toNat, by omega⟩
    obtain ⟨b, rfl⟩ : ∃ k' : Nat, b = (k' : Int) := ⟨b.toNat, by omega⟩
    obtain ⟨q, rfl⟩ : ∃ k' : Nat, q = (k' : Int) := ⟨q.toNat, by omega⟩
    obtain ⟨s, rfl⟩ : ∃ k' : Nat, s = (k' : Int) := ⟨s.toNat, by omega⟩
    obtain ⟨m, rfl⟩ : ∃ k' : Nat, m = (k' : Int) := ⟨m.toNat, by omega⟩
    have hl7 : l.length ≤ 7 := by
      cases hN : kN k
      · rw [hnil hN]; simp
      · exact set_len (hset hN)
    have hlen : (numsL (k : Int) n t l b q s m).length ≤ 100 := by
      unfold numsL
      repeat' rw [List.length_append]
      have e1 : (if kN k = true then (l.length : Int) :: l else []).length ≤ 8 := by split <;> simp <;> omega
      have e2 : (if kR k = true then [(n : Int), (b : Int), (q : Int)] else []).length ≤ 3 := by split <;> simp
      have e3 : (if kT k = true then [(t : Int), (s : Int)] else []).length ≤ 2 := by split <;> simp
      have e5 : (if kS k = true then [(m : Int)] else []).length ≤ 1 := by split <;> simp
      have e4 : ([(k : Int)]).length = 1 := rfl
      omega
    have hnb := numsB_le (numsL (k : Int) n t l b q s m)
    refine ⟨numsB (numsL k n t l b q s m), 0, numsB_byt _, by omega, fun W hW => ?_, fun W hW => ?_⟩
    · refine (cmd_Encode_ok W k n t A c l b q s m hW (by omega) (by omega) (by omega) (by omega) (by omega) (by omega) (by omega) hset (fun W hW => ?_))
      have := cmd_Check_any W k n t A c l b q s m hW
      rw [hok] at this
      exact this
    · rw [← encs_eq k n t l b q s m (by omega)]
      exact ref_Encode_ok W k n t A c l b q s m hW (by omega) (by omega) (by omega) (by omega) (by omega) (by omega) (by omega) (by rw [← he]; exact hok)

set_option maxRecDepth 100000 in
set_option maxHeartbeats 4000000 in
theorem cmdWrites_row (w : World) {v : Value} (z : OpenCmd w v) :
    Calls Try.prog 4 #[v] w fun e w' => e = .returned (.bool true) ∧ Below w.heap.size w w' := by
  obtain ⟨k, n, t, A, c, l, b, q, s, m, rfl, h, hl, hk, hn, ht, hb, hq, hs, hm⟩ := z
  obtain ⟨bs, E, hbyt, hbl, C1, C2⟩ := encs_any k n t A c l b q s m hn ht (wf_u64 hb) (wf_u64 hq) (wf_u64 hs) (wf_u64 hm)
  have C1 := fun W hin => Lib.hid (C1 W hin)
  have C2 := fun W hin => Lib.hid (C2 W hin)
  have C3 := fun W => Lib.hid (live_any W)
  have HIN := Lib.hid h
  have HBY := Lib.hid hbyt
  clear h hk hn ht hb hq hs hm hl hbyt
  obtain ⟨g, hg⟩ : ∃ g, w.heap.size = g := ⟨_, rfl⟩
  have hb0 : Blk (w.alloc (.cells (cmdCells k n t (.slice A l.length c) b q s m) 25)) g 25 (cmdCells k n t (.slice A l.length c) b q s m) := hg ▸ Blk.new _ _ _
  have hB0 : Below g w (w.alloc (.cells (cmdCells k n t (.slice A l.length c) b q s m) 25)) := (Below.refl _ _).alloc (by omega) _
  simp only [cmdV]
  go_enter Try.func4, Try.ntmps4
  go_wp2_with fail
  refine (C1 _ (HIN.out.keep (by rw [hg]; exact hB0))).out.mono ?_
  rintro e w1 ⟨v1, rfl, ho1, hB1⟩
  have hb1 := hb0.below hB1 hb0.lt
  have hBw1 : Below g w w1 := hB0.trans (hB1.mono (Nat.le_of_lt hb0.lt))
  obtain ⟨A1, c1, rfl, hin1⟩ := In8.own ho1 HBY.out (by omega)
  have H1 := Lib.hid hin1
  clear hb0 hB0 hB1 ho1 hin1
  obtain ⟨c0, c1', c2, c3, c4, c5, c6, c7⟩ := hb1.cmd
  go_wp2_with fail
  refine (C2 _ (HIN.out.keep (by rw [hg]; exact hBw1))).out.mono ?_
  rintro e w2 ⟨v2, rfl, ho2, hB2⟩
  clear c0 c1' c2 c3 c4 c5 c6 c7
  have hBw2 : Below g w w2 := hBw1.trans (hB2.mono (Nat.le_of_lt hb1.lt))
  obtain ⟨A2, c2, rfl, hin2⟩ := In8.own ho2 HBY.out (by omega)
  have H2 := Lib.hid hin2
  have H12 := Lib.hid (H1.out.keep hB2)
  have hgw2 : g ≤ w2.heap.size := by have := hBw2.size; omega
  clear hb1 hBw1 hB2 ho2 hin2 H1
  go_wp2_with fail
  refine (C3 _).out.mono ?_
  rintro e w3 ⟨rfl, hB3⟩
  have hcv1 := conv_str _ _ A1 _ c1 _ (H12.out.keep hB3).reads
  have hcv2 := conv_str _ _ A2 _ c2 _ (H2.out.keep hB3).reads
  have HBF := Lib.hid (hBw2.trans (hB3.mono hgw2))
  clear hB3 hBw2 hgw2
  go_wp2
  go_ret
  exact ⟨rfl, by rw [hg]; exact HBF.out⟩
end Go.Proofs.Ytnpodnieahokjaa
