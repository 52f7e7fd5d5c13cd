/- What the readers need of memory: a slice cut, the document's reader's cells, one number appended. -/
import Derived.Test.YthdeappjankmmaaRnum
import Derived.Test.YthdeappjankmmaaMemN
import Derived.Test.YthdeappjankmmaaCom
namespace Go.Proofs.Ythdeappjankmmaa
set_option maxRecDepth 100000
open Go.RowKit

theorem cut8 {A : Option Addr} {c : Nat} {lb : List Int} {k : Nat} (hk : k ≤ lb.length) (hc : lb.length ≤ c) : ∃ A' c', (∀ w : World, (Instr.slice 38 (.slice A lb.length c) (some (.int .i64 (k : Int))) none none).run Try.prog w = .ok (.slice A' (lb.drop k).length c') w) ∧
    ∀ w, In8 w A c lb → In8 w A' c' (lb.drop k) := by
  refine ⟨if c = k then A else A.map (·.add (k * 1)), c - k, fun w => ?_, fun w h => ⟨?_, h.byt.drop k, by rw [List.length_drop]; omega, by rw [List.length_drop]; have := h.small; omega⟩⟩
  · rw [List.length_drop]
    have hu : Try.prog.underlying 38 = some (.slice (Try.prog.elem 38)) := by kernel_rfl
    rw [run_slice_l _ _ _ _ _ hu .i64 (k : Int) (by omega) (by omega)]
    have hs : (sizeOf (Try.prog.elem 38)).run Try.prog w = .ok 1 w := by
      show (sizeOf 5).run Try.prog w = .ok 1 w
      obtain ⟨i0, hi, _, hz1, _⟩ := info_parts info_u8
      simp [sizeOf, typeInfo, hi, hz1]
    rw [hs]
    simp [sliced, Result.andThen]
  · have := h.reads.cut hk hc
    rw [List.length_drop]
    simpa [u8s, List.map_drop] using this
def rdCells (A : Option Addr) (n c : Nat) (k : Nat) (e : Int) : Array Value := #[.slice A n c, .int .i64 (k : Int), .int .i64 e]
theorem wf_i64_of {z : Int} (h1 : -9223372036854775808 ≤ z) (h2 : z ≤ 9223372036854775807) : (Lit.int .i64 z).wf = true := by
  simp [Lit.wf, IntKind.min, IntKind.max, IntKind.bits, IntKind.signed]
  omega
/-- append(b, x, ..) for ints: the numbers lie in a block just made. -/
theorem app_litsI {ops : Array Oper} {rest : List Oper} {o : Oper} {a : Act} {Q : Exit → Act → World → Prop} {w0 W : World} {cs : Array Value} (base : Nat) (hgd : o.guard = none) (s x : Operand)
    (ho : o.op = .call { callee := .builtin .append, args := #[s, x], argTypes := #[22, 22] })
    (v : Value) (l news : List Int) (hs : a.eval s = v) (hcs : cs = (nums .i64 news).toArray) (hx : a.eval x = .slice (some ⟨W.heap.size, 0, none⟩) news.length news.length) (HO : OwnN .i64 3 W base v l) (HB : Below base w0 W) (hbase : base ≤ W.heap.size) (hl : l.length + news.length ≤ 1000000)
    (h : ∀ v1 w1, OwnN .i64 3 w1 base v1 (l ++ news) → Below base w0 w1 → wpList Try.prog ops Q rest (a.put o.dst v1) w1) : wpList Try.prog ops Q (o :: rest) a (W.alloc (.cells cs 3)) := by
  have hr : Reads (W.alloc (.cells cs 3)) (W.heap.size + 1) 1 (some ⟨W.heap.size, 0, none⟩) news.length (nums .i64 news) := by
    subst hcs
    refine ⟨by simp [nums], fun h => ⟨W.heap.size, 0, rfl, by omega, fun j u hu => ?_⟩⟩
    rw [Nat.zero_add, World.cell?_alloc_mark]
    simpa using hu
  refine app_own (w0 := w0) base hgd s x 22 3 (.int .i64 0) 8 ho Try.underlying22 1 info_int rfl (by omega) (by omega) v (nums .i64 l) l.length hs (W.heap.size + 1) _ _ _ (nums .i64 news) hx (World.ownsRow.alloc HO _) hr (nums_one_cell .i64 news) (HB.alloc hbase _) (by simp; omega) (by omega) ?_
  intro v1 w1 ho1 hB1 _ _
  refine h v1 w1 ?_ hB1
  unfold OwnN
  rw [List.length_append, nums_append]
  exact ho1
/-- The same as one step of a region that draws its order. -/
theorem step_litsI {ops : Array Oper} {o : Oper} {a : Act} {K : Act → World → Prop} {Q : Exit → Act → World → Prop} {E : Prop} {W : World} {cs : Array Value} (base : Nat) (hgd : o.guard = none) (s x : Operand)
    (ho : o.op = .call { callee := .builtin .append, args := #[s, x], argTypes := #[22, 22] })
    (v : Value) (l news : List Int) (hs : a.eval s = v) (hcs : cs = (nums .i64 news).toArray) (hx : a.eval x = .slice (some ⟨W.heap.size, 0, none⟩) news.length news.length) (HO : OwnN .i64 3 W base v l) (hbase : base ≤ W.heap.size) (hl : l.length + news.length ≤ 1000000)
    (h : ∀ v1 w1, OwnN .i64 3 w1 base v1 (l ++ news) → Below base W w1 → K (a.put o.dst v1) w1) :
    if Region.wanted o (yielded ops a.tmps) = true then Oper.wp Try.prog o a (W.alloc (.cells cs 3)) K Q else E := by
  have hr : Reads (W.alloc (.cells cs 3)) (W.heap.size + 1) 1 (some ⟨W.heap.size, 0, none⟩) news.length (nums .i64 news) := by
    subst hcs
    refine ⟨by simp [nums], fun h => ⟨W.heap.size, 0, rfl, by omega, fun j u hu => ?_⟩⟩
    rw [Nat.zero_add, World.cell?_alloc_mark]
    simpa using hu
  obtain ⟨i0, hi, hz0, hz1, hz2⟩ := info_parts info_int
  have hO := World.ownsRow.alloc HO (.cells cs 3)
  refine step_append_any _ hgd s x 22 ho base 3 i0 (.int .i64 0) 1 8 Try.underlying22 hi hz0 hz1 hz2 rfl (by omega) v l.length (nums .i64 l) hs hO (W.heap.size + 1) _ _ _ (nums .i64 news) hx hr (nums_one_cell .i64 news) (by simp only [maxLen]; omega) (by omega) (by simp; omega) ?_
  intro v1 w1 ho1 hg _
  refine h v1 w1 ?_ (((Below.refl base W).alloc hbase _).grown hg (by simp; omega) (own_base HO))
  unfold OwnN
  rw [List.length_append, nums_append]
  exact ho1
end Go.Proofs.Ythdeappjankmmaa
