/- Walks over commands: bytes are written; the document's Nodes. -/
import Derived.Test.YtadkkhbbempaaaaNodesB
import Derived.Test.YtadkkhbbempaaaaNum
import Derived.Test.YtadkkhbbempaaaaRef1
namespace Go.Proofs.Ytadkkhbbempaaaa
set_option maxRecDepth 100000
open Go.RowKit

/-- From W on, nothing old but block r has turned; v lies in r or is new. -/
structure Grow (W : World) (r : Option Nat) (wr : World) (v : Value) : Prop where
  grown : W.grownBy wr r
  at_ : v.ownBlock = r ∨ ∃ b, v.ownBlock = some b ∧ W.heap.size ≤ b
theorem Grow.refl (W : World) (v : Value) : Grow W v.ownBlock W v := ⟨World.grownBy.refl W _, .inl rfl⟩
theorem Grow.below {W wr : World} {r : Option Nat} {v : Value} {base : Nat} (h : Grow W r wr v) (hW : base ≤ W.heap.size) (hr : ∀ k, r = some k → base ≤ k) : Below base W wr := (Below.refl _ _).grown h.grown hW hr
theorem Grow.step {W wr w1 : World} {r : Option Nat} {v : Value} (h : Grow W r wr v) (hb : Below wr.heap.size wr w1) : Grow W r w1 v :=
  ⟨⟨hb.os.trans h.grown.os, hb.tape.trans h.grown.tape, hb.output.trans h.grown.output, Nat.le_trans h.grown.size hb.size, fun i hi hne => (hb.block i (Nat.lt_of_lt_of_le hi h.grown.size)).trans (h.grown.block i hi hne)⟩, h.at_⟩
theorem Grow.app {W wr w1 : World} {r : Option Nat} {v v1 : Value} (h : Grow W r wr v) (hg : wr.grownBy w1 v.ownBlock) (hat : v1.ownBlock = v.ownBlock ∨ ∃ b, v1.ownBlock = some b ∧ wr.heap.size ≤ b) : Grow W r w1 v1 := by
  refine ⟨⟨hg.os.trans h.grown.os, hg.tape.trans h.grown.tape, hg.output.trans h.grown.output, Nat.le_trans h.grown.size hg.size, fun i hi hne => ?_⟩, ?_⟩
  · refine (hg.block i (Nat.lt_of_lt_of_le hi h.grown.size) ?_).trans (h.grown.block i hi hne)
    rcases h.at_ with e | ⟨b, e, hb⟩
    · rw [e]; exact hne
    · rw [e]
      intro hh
      injection hh with hh
      omega
  · rcases hat with e | ⟨b, e, hb⟩
    · rw [e]; exact h.at_
    · exact .inr ⟨b, e, Nat.le_trans h.grown.size hb⟩

theorem Grow.then_ {W wr w1 : World} {r : Option Nat} {v v1 : Value} (h : Grow W r wr v) (k : Grow wr v.ownBlock w1 v1) : Grow W r w1 v1 := h.app k.grown k.at_
/-- append(b, x...), b and x rows of the call's own. -/
theorem app_row {ops : Array Oper} {rest : List Oper} {o : Oper} {a : Act} {Q : Exit → Act → World → Prop} {w0 W : World} (base : Nat) (hgd : o.guard = none) (s x : Operand)
    (ho : o.op = .call { callee := .builtin .append, args := #[s, x], argTypes := #[75, 75] })
    (v : Value) (l : List Int) (hs : a.eval s = v) (b2 : Nat) (v2 : Value) (l2 : List Int) (hx : a.eval x = v2) (HO : Own8 W base v l) (HX : Own8 W b2 v2 l2) (HB : Below base w0 W) (hbase : base ≤ W.heap.size) (hl : l.length + l2.length ≤ 140737488355328)
    (h : ∀ v1 w1, Own8 w1 base v1 (l ++ l2) → Below base w0 w1 → (∀ W0 r, Grow W0 r W v → Grow W0 r w1 v1) → wpList Try.prog ops Q rest (a.put o.dst v1) w1) : wpList Try.prog ops Q (o :: rest) a W := by
  obtain ⟨A2, c2, rfl⟩ := own_slice HX
  refine app_own (w0 := w0) base hgd s x 75 5 (.int .u8 0) 1 ho Try.underlying75 1 info_u8 rfl (by omega) (by omega) v (u8s l) l.length hs _ A2 _ c2 (u8s l2) hx HO (Reads.of_own HX) (u8s_one_cell l2) HB hbase (by omega) ?_
  intro v1 w1 ho1 hB1 hg hat
  refine h v1 w1 ?_ hB1 (fun W0 r hG => hG.app hg hat)
  unfold Own8
  rw [List.length_append, u8s_append]
  exact ho1

/-- A set of nodes has at most seven. -/
theorem set_ge {l : List Int} (h : IsSet l) : ∀ j (hj : j < l.length), (j : Int) + 1 ≤ l[j] := by
  intro j
  induction j with
  | zero =>
    intro hj
    have := (h.2 0 hj hj).1
    omega
  | succ j ih =>
    intro hj
    have h1 := ih (by omega)
    have h2 := (h.2 (j + 1) hj hj).2.2 (by omega)
    simp only [Nat.add_sub_cancel] at h2
    omega
theorem set_len {l : List Int} (h : IsSet l) : l.length ≤ 7 := by
  have h0 := h.1
  have h1 := set_ge h (l.length - 1) (by omega)
  have h2 := (h.2 (l.length - 1) (by omega) (by omega)).2.1
  omega
theorem set_mem {l : List Int} (h : IsSet l) {j : Nat} (hj : j < l.length) : 1 ≤ l[j] ∧ l[j] ≤ 7 := ⟨(h.2 j hj hj).1, (h.2 j hj hj).2.1⟩

/-- Numbers' bytes, one behind the other. -/
def numsB (l : List Int) : List Int := l.flatMap fun z => numB z.toNat
theorem numsB_snoc (l : List Int) (z : Int) : numsB (l ++ [z]) = numsB l ++ numB z.toNat := by simp [numsB]
theorem numsB_cons (z : Int) (l : List Int) : numsB (z :: l) = numB z.toNat ++ numsB l := by simp [numsB]
theorem numsB_append (l m : List Int) : numsB (l ++ m) = numsB l ++ numsB m := by simp [numsB]
theorem numsB_le (l : List Int) : (numsB l).length ≤ 9 * l.length := by
  induction l with
  | nil => simp [numsB]
  | cons z l ih =>
    rw [numsB_cons, List.length_append, List.length_cons]
    have := numB_le z.toNat
    omega
theorem numsB_byt (l : List Int) : Byt (numsB l) := by
  induction l with
  | nil => exact Byt.nil
  | cons z l ih => rw [numsB_cons]; exact (numB_byt _).append ih
theorem numsB_take_succ (l : List Int) {k : Nat} (hk : k < l.length) : numsB (l.take (k + 1)) = numsB (l.take k) ++ numB (l[k]).toNat := by
  rw [← List.take_append_getElem hk, numsB_snoc]

set_option maxHeartbeats 1000000 in
theorem ref_Nodes_any (w : World) (base : Nat) (v : Value) (lb : List Int) (A : Option Addr) (c : Nat) (l : List Int) (hl : IsSet l) (hlb : lb.length ≤ 1000000) (ho : Own8 w base v lb) (hbase : base ≤ w.heap.size)
    (hin : ∀ w', Below base w w' → InN .i64 w' A c l) :
    Calls Try.prog 87 #[v, .slice A l.length c] w fun e w' => ∃ v', e = .returned v' ∧ Own8 w' base v' (lb ++ (numB l.length ++ numsB l)) ∧ Below base w w' ∧ Grow w v.ownBlock w' v' := by
  have h7 := set_len hl
  have HS := Lib.hid hl
  have hsz := numB_le l.length
  have hsn := numsB_le l
  have HIN := Lib.hid hin
  have hcap := (hin w (Below.refl _ _)).cap
  have C1 := fun w => Lib.hid (refNum_any l.length (by omega) w)
  have HO := Lib.hid ho
  have wl : IntKind.u64.wrap (l.length : Int) = (l.length : Int) := by simp [IntKind.wrap_u64]; omega
  clear hl hin ho
  obtain ⟨A0, c0, rfl⟩ := own_slice HO.out
  obtain ⟨r0, hr0⟩ : ∃ r0, (Value.slice A0 lb.length c0).ownBlock = r0 := ⟨_, rfl⟩
  have hG0 : Grow w r0 w (Value.slice A0 lb.length c0) := hr0 ▸ Grow.refl _ _
  rw [hr0]
  have HG0 := Lib.hid hG0
  clear hr0 hG0
  go_enter Try.func87, Try.ntmps87
  go_wp2_with fail
  refine (C1 _).out.mono ?_
  rintro e w1 ⟨v1, rfl, ho1, hB1⟩
  have HO1 := Lib.hid (show Own8 w1 base _ lb from own_below HO.out hB1)
  have HX1 := Lib.hid ho1
  have HB1 := Lib.hid (hB1.mono hbase)
  have HG1 := Lib.hid (HG0.out.step hB1)
  clear ho1 hB1
  go_wp2_with (at_builtin; refine app_row (w0 := w) base rfl _ _ rfl _ lb rfl _ _ _ rfl HO1.out HX1.out HB1.out (Nat.le_trans hbase HB1.out.size) (by omega) ?_; intro v2 w2 ho2 hB2 hG2)
  have HO2 := Lib.hid ho2
  have HB2 := Lib.hid hB2
  have HG2 := Lib.hid (hG2 _ _ HG1.out)
  clear ho2 hB2 hG2 HG1 HO1 HX1 HB1 C1
  go_loopw [0, 6, 15] (fun x z i wr => ∃ k : Nat, k ≤ l.length ∧ i = .int .i64 k ∧ Own8 wr base x (lb ++ numB l.length ++ numsB (l.take k)) ∧ Below base w wr ∧ Grow w r0 wr x) (fun _ _ i _ => l.length - (intOf i).toNat)
  case atStart => exact ⟨0, by omega, rfl, by simpa [numsB] using HO2.out, HB2.out, HG2.out⟩
  case round =>
    clear HO2 HB2 HG2
    obtain ⟨k, hk, rfl, hrow, hB, hG⟩ := hrel
    have HG := Lib.hid hG
    clear hG
    have HR := Lib.hid hrow
    have HB := Lib.hid hB
    clear hrow
    by_cases hlt : k < l.length
    · obtain ⟨b, off, rfl, hcell⟩ := (HIN.out _ hB).all (by omega)
      have hck := hcell k hlt
      have hmem := set_mem HS.out hlt
      have HST := Lib.hid (numsB_take_succ l hlt)
      have hn9 := numsB_le (l.take k)
      rw [List.length_take, Nat.min_eq_left (by omega)] at hn9
      clear hcell hB
      obtain ⟨z, hz⟩ : ∃ z, l[k] = z := ⟨_, rfl⟩
      rw [hz] at hck hmem HST
      clear hz
      obtain ⟨n, rfl⟩ : ∃ n : Nat, z = (n : Int) := ⟨z.toNat, by omega⟩
      have wz : IntKind.u64.wrap (n : Int) = (n : Int) := by simp [IntKind.wrap_u64]; omega
      have C1 := fun w => Lib.hid (refNum_any n (by omega) w)
      have hnb := numB_le n
      rw [Int.toNat_natCast] at HST
      go_wp2_with fail
      refine (C1 _).out.mono ?_
      rintro e w1 ⟨v1, rfl, ho1, hB1⟩
      have HO1 := Lib.hid (own_below HR.out hB1)
      have HX1 := Lib.hid ho1
      have HB1 := Lib.hid (HB.out.trans (hB1.mono (Nat.le_trans hbase HB.out.size)))
      have HG1 := Lib.hid (HG.out.step hB1)
      clear ho1 hB1
      go_wp2_with (at_builtin; refine app_row (w0 := w) base rfl _ _ rfl _ (lb ++ numB l.length ++ numsB (l.take k)) rfl _ _ _ rfl HO1.out HX1.out HB1.out (Nat.le_trans hbase HB1.out.size) (by simp only [List.length_append]; omega) ?_; intro v2 w2 ho2 hB2 hG2)
      have HO2 := Lib.hid ho2
      have HB2 := Lib.hid hB2
      have HG2 := Lib.hid (hG2 _ _ HG1.out)
      clear ho2 hB2 hG2
      go_roundw
      case rel => exact ⟨k + 1, by omega, by go_num, by rw [HST.out]; simpa using HO2.out, HB2.out, HG2.out⟩
      case measure => simp [intOf]; omega
    · obtain rfl : k = l.length := by omega
      clear hB
      go_wp2
      go_ret
      exact ⟨_, rfl, by simpa using HR.out, HB.out, HG.out⟩
end Go.Proofs.Ytadkkhbbempaaaa
