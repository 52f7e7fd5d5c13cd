/- Bytes in memory: rows of the call's own (Own8), slices that are read (In8), strings made of them. -/
import Derived.Test.YtadkkhbbempaaaaOctPlain
import Derived.Test.YtadkkhbbempaaaaProg
import Derived.Lib.AppendStr
import Derived.Lib.SlBytesConst
namespace Go.Proofs.Ytadkkhbbempaaaa
set_option maxRecDepth 100000
open Go.RowKit

theorem info_u8 : (Try.prog.info? 5).map (fun i => (i.zero, i.size, i.bytes)) = some (some (.int .u8 0), 1, 1) := by kernel_rfl

/-- Bytes in new memory: the slice v, owned from block base on, holds l. -/
def Own8 (w : World) (base : Nat) (v : Value) (l : List Int) : Prop := w.ownsRow base 5 1 v l.length (u8s l)

theorem u8s_one_cell (l : List Int) : ∀ u ∈ u8s l, u.oneCell' = true := by
  intro u hu
  simp only [u8s, List.mem_map] at hu
  obtain ⟨x, _, rfl⟩ := hu
  rfl
theorem own8_one (W : World) (base : Nat) (x : Int) (hb : base ≤ W.heap.size) : Own8 (W.alloc (.cells #[.int .u8 x] 5)) base (.slice (some ⟨W.heap.size, 0, none⟩) 1 1) [x] :=
  ⟨by simp [u8s], .inr ⟨W.heap.size, 1, #[.int .u8 x], rfl, hb, heap_alloc_new W _, by simp, by unfold maxLen; omega, by simp, by simp [u8s]⟩⟩

/-- Bytes that are read. -/
structure In8 (w : World) (A : Option Addr) (c : Nat) (l : List Int) : Prop where
  reads : Reads w w.heap.size 1 A l.length (u8s l)
  byt : Byt l
  cap : l.length ≤ c
  small : l.length ≤ 140737488355328
theorem In8.all {w : World} {A : Option Addr} {c : Nat} {l : List Int} (h : In8 w A c l) (h0 : 0 < l.length) : ∃ b off, A = some ⟨b, off, none⟩ ∧ ∀ k (hk : k < l.length), w.cell? ⟨b, off + k, none⟩ = some (.int .u8 (l[k])) := by
  obtain ⟨b, off, e, _, hc⟩ := h.reads.2 h0
  exact ⟨b, off, e, fun k hk => hc k _ (u8s_get hk)⟩

/-- A string's bytes. -/
def bytes (s : ByteArray) : List Int := s.data.toList.map fun b => (b.toNat : Int)
theorem bytes_length (s : ByteArray) : (bytes s).length = s.size := by simp [bytes]
theorem bytes_byt (s : ByteArray) : Byt (bytes s) := by
  intro x hx
  simp only [bytes, List.mem_map] at hx
  obtain ⟨b, _, rfl⟩ := hx
  have := b.toNat_lt
  omega
theorem strCells_u8s (s : ByteArray) : Lib.strCells s = u8s (bytes s) := by
  simp [Lib.strCells, u8s, bytes]
theorem str_bytes (s : ByteArray) : strOfNums (bytes s) = s := by
  have : ∀ l : List UInt8, (l.map fun b => (b.toNat : Int)).map (fun n => UInt8.ofNat n.toNat) = l := by
    intro l
    rw [List.map_map]
    conv => rhs; rw [← List.map_id l]
    apply List.map_congr_left
    intro a _
    simp
  obtain ⟨⟨l⟩⟩ := s
  simp [strOfNums, bytes, this l]
theorem bytes_str (l : List Int) (h : Byt l) : bytes (strOfNums l) = l := by
  simp only [bytes, strOfNums, List.map_map]
  conv => rhs; rw [← List.map_id l]
  apply List.map_congr_left
  intro a ha
  have := h a ha
  simp
  omega
theorem str_inj {l m : List Int} (hl : Byt l) (hm : Byt m) (h : strOfNums l = strOfNums m) : l = m := by
  rw [← bytes_str l hl, ← bytes_str m hm, h]

/-- A slice of bytes made a string, whatever its address. -/
theorem conv_str (w : World) (B : Nat) (A : Option Addr) (n c : Nat) (l : List Int) (h : Reads w B 1 A n (u8s l)) :
    (convert 75 9 (.slice A n c)).run Try.prog w = .ok (.string (strOfNums l)) w := by
  have hl : l.length = n := by have := h.1; rw [u8s_length] at this; omega
  rcases Nat.eq_zero_or_pos n with h0 | h0
  · subst h0
    have : l = [] := List.eq_nil_of_length_eq_zero hl
    subst this
    have e0 : strOfNums [] = ByteArray.empty := rfl
    cases A with
    | none => rw [e0]; exact run_convert_bytes_nil w _ _ Try.underlying75 Try.underlying5 0 c _ Try.underlying9
    | some a =>
      rw [run_convert_bytes_string w _ _ _ _ 0 c Try.underlying75 Try.underlying5 Try.underlying9, e0]
      have hl0 := run_loadCells_list (P := Try.prog) w a [] (fun j v hj => by simp at hj)
      rw [run_bytesToString w a 0 c [] (by simpa using hl0)]
      rfl
  · obtain ⟨b, off, rfl, _, hc⟩ := h.2 h0
    refine run_convert_bytes_arg w _ _ Try.underlying75 Try.underlying5 b off n c l hl (fun i hi => ?_) _ Try.underlying9
    have := hc i _ (u8s_get (by omega))
    rw [this]
    simp [List.getD_eq_getElem?_getD, show i < l.length by omega]

/-- append(b, s...), b a row of the call's own, s a string. -/
theorem app_str {ops : Array Oper} {rest : List Oper} {o : Oper} {a : Act} {Q : Exit → Act → World → Prop} {w0 W : World} (base : Nat) (hgd : o.guard = none) (s x : Operand)
    (ho : o.op = .call { callee := .builtin .append, args := #[s, x], argTypes := #[75, 9] })
    (v : Value) (l : List Int) (hs : a.eval s = v) (r : ByteArray) (hx : a.eval x = .string r) (HO : Own8 W base v l) (HB : Below base w0 W) (hbase : base ≤ W.heap.size) (hl : l.length + r.size ≤ 140737488355328)
    (h : ∀ v1 w1, Own8 w1 base v1 (l ++ bytes r) → Below base w0 w1 → wpList Try.prog ops Q rest (a.put o.dst v1) w1) : wpList Try.prog ops Q (o :: rest) a W := by
  obtain ⟨i0, hi, hz0, hz1, hz2⟩ := info_parts info_u8
  refine Lib.wpList_append_own_string W hgd s x 75 9 ho base 5 i0 Try.underlying75 Try.underlying9 hi hz0 hz1 hz2 v l.length (u8s l) hs HO r hx (by unfold maxLen; omega) hl hbase ?_
  intro v1 w1 ho1 hg _
  refine h v1 w1 ?_ (HB.grown hg hbase (own_base HO))
  unfold Own8
  rw [List.length_append, bytes_length, u8s_append, ← strCells_u8s]
  exact ho1

/-! ### Bytes that are read: over new memory -/
theorem In8.keep {w w1 : World} {A : Option Addr} {c : Nat} {l : List Int} (h : In8 w A c l) (hb : Below w.heap.size w w1) : In8 w1 A c l := ⟨(h.reads.below hb).more hb.size, h.byt, h.cap, h.small⟩
theorem In8.lit (w : World) (l : List Int) (hl : Byt l) (hs : l.length ≤ 140737488355328) (cs : Array Value) (fr : Nat × Nat) (hcs : cs = (u8s l).toArray) : In8 (w.alloc (.cells cs 5 fr)) (some ⟨w.heap.size, 0, none⟩) l.length l := by
  subst hcs
  refine ⟨⟨by simp [u8s], fun h => ⟨w.heap.size, 0, rfl, by simp, fun j u hu => ?_⟩⟩, hl, Nat.le_refl _, hs⟩
  rw [Nat.zero_add, World.cell?_alloc_mark]
  simpa using hu
theorem In8.own {w : World} {base : Nat} {v : Value} {l : List Int} (h : Own8 w base v l) (hl : Byt l) (hs : l.length ≤ 140737488355328) : ∃ A c, v = .slice A l.length c ∧ In8 w A c l := by
  obtain ⟨A, c, rfl, h1, _, hr⟩ := own_open h
  exact ⟨A, c, rfl, hr, hl, h1, hs⟩
end Go.Proofs.Ytadkkhbbempaaaa
