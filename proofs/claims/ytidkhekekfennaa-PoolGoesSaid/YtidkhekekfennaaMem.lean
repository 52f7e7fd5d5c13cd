/- Bytes in memory: rows of the call's own (Own8), slices that are read (In8), strings made of them. -/
import Derived.Test.YtidkhekekfennaaOctPlain
import Derived.Test.YtidkhekekfennaaProg
import Derived.Lib.AppendStr
import Derived.Lib.SlBytesConst
namespace Go.Proofs.Ytidkhekekfennaa
set_option maxRecDepth 100000
open Go.RowKit

theorem info_u8 : (Try.prog.info? 5).map (fun i => (i.zero, i.size, i.bytes)) = some (some (.int .u8 0), 1, 1) := by kernel_rfl

/-- Bytes in new memory: the slice v, owned from block base on, holds l. -/
def Own8 (w : World) (base : Nat) (v : Value) (l : List Int) : Prop := w.ownsRow base 5 1 v l.length (u8s l)

theorem u8s_one_cell (l : List Int) : ∀ u ∈ u8s l, u.oneCell' = true := by
  intro u hu
  simp only [u8s, List.mem_map] at hu
  obtain ⟨x, _, rfl⟩ := hu
  rfl
theorem own8_one (W : World) (base : Nat) (x : Int) (hb : base ≤ W.heap.size) : Own8 (W.alloc (.cells #[.int .u8 x] 5)) base (.slice (some ⟨W.heap.size, 0, none⟩) 1 1) [x] :=
  ⟨by simp [u8s], .inr ⟨W.heap.size, 1, #[.int .u8 x], rfl, hb, heap_alloc_new W _, by simp, by unfold maxLen; omega, by simp, by simp [u8s]⟩⟩

/-- Bytes that are read. -/
structure In8 (w : World) (A : Option Addr) (c : Nat) (l : List Int) : Prop where
  reads : Reads w w.heap.size 1 A l.length (u8s l)
  byt : Byt l
  cap : l.length ≤ c
  small : l.length ≤ 140737488355328
theorem In8.all {w : World} {A : Option Addr} {c : Nat} {l : List Int} (h : In8 w A c l) (h0 : 0 < l.length) : ∃ b off, A = some ⟨b, off, none⟩ ∧ ∀ k (hk : k < l.length), w.cell? ⟨b, off + k, none⟩ = some (.int .u8 (l[k])) := by
  obtain ⟨b, off, e, _, hc⟩ := h.reads.2 h0
  exact ⟨b, off, e, fun k hk => hc k _ (u8s_get hk)⟩

/-- A string's bytes. -/
def bytes (s : ByteArray) : List Int := s.data.toList.map fun b => (b.toNat : Int)
theorem bytes_length (s : ByteArray) : (bytes s).length = s.size := by simp [bytes]
theorem bytes_byt (s : ByteArray) : Byt (bytes s) := by
  intro x hx
  simp only [bytes, List.mem_map] at hx
  obtain ⟨b, _, rfl⟩ := hx
  have := b.toNat_lt
  omega
theorem strCells_u8s (s : ByteArray) : Lib.strCells s = u8s (bytes s) := by
  simp [Lib.strCells, u8s, bytes]
theorem str_bytes (s : ByteArray) : strOfNums (bytes s) = s := by
  have : ∀ l : List UInt8, (l.map fun b => (b.toNat : Int)).map (fun n => UInt8.ofNat n.toNat) = l := by
    intro l
    rw [List.map_map]
    conv => rhs; rw [← List.map_id l]
    apply List.map_congr_left
    intro a _
    simp
  obtain ⟨⟨l⟩⟩ := s
  simp [strOfNums, bytes, this l]
theorem bytes_str (l : List Int) (h : Byt l) : bytes (strOfNums l) = l := by
  simp only [bytes, strOfNums, List.map_map]
  conv => rhs; rw [← List.map_id l]
  apply List.map_congr_left
  intro a ha
  have := h a ha
  simp
  omega
theorem str_inj {l m : List Int} (hl : Byt l) (hm : Byt m) (h : strOfNums l = strOfNums m) : l = m := by
  rw [← bytes_str l hl, ← bytes_str m hm, h]

theorem In8.keep {w w1 : World} {A : Option Addr} {c : Nat} {l : List Int} (h : In8 w A c l) (hb : Below w.heap.size w w1) : In8 w1 A c l := ⟨(h.reads.below hb).more hb.size, h.byt, h.cap, h.small⟩
theorem In8.lit (w : World) (l : List Int) (hl : Byt l) (hs : l.length ≤ 140737488355328) (cs : Array Value) (fr : Nat × Nat) (hcs : cs = (u8s l).toArray) : In8 (w.alloc (.cells cs 5 fr)) (some ⟨w.heap.size, 0, none⟩) l.length l := by
  subst hcs
  refine ⟨⟨by simp [u8s], fun h => ⟨w.heap.size, 0, rfl, by simp, fun j u hu => ?_⟩⟩, hl, Nat.le_refl _, hs⟩
  rw [Nat.zero_add, World.cell?_alloc_mark]
  simpa using hu
theorem In8.own {w : World} {base : Nat} {v : Value} {l : List Int} (h : Own8 w base v l) (hl : Byt l) (hs : l.length ≤ 140737488355328) : ∃ A c, v = .slice A l.length c ∧ In8 w A c l := by
  obtain ⟨A, c, rfl, h1, _, hr⟩ := own_open h
  exact ⟨A, c, rfl, hr, hl, h1, hs⟩
end Go.Proofs.Ytidkhekekfennaa
