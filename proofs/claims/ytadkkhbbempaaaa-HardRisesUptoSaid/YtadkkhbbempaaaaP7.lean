/- Texts drawn together (12 of them): words, plain laws and walks that the row leans on. -/
import Derived.Test.YtadkkhbbempaaaaP2
import Derived.BigFrame
import Derived.Test.YtadkkhbbempaaaaP1
import Derived.Test.YtadkkhbbempaaaaP3
import Derived.Test.YtadkkhbbempaaaaP4
import Derived.Deep.RegionLaw
import Derived.Deep.RegionHeld3
import Derived.Lib.ConvBytes
import Derived.Deep.DeepCutAuto
/- Structs within structs: many cells of a block set from a place on; whole structs read behind a guard. -/
namespace Go.Proofs.Ytadkkhbbempaaaa
set_option maxRecDepth 100000
open Go.RowKit

def midL : List Value → Nat → List Value → List Value
  | l, _, [] => l
  | l, o, v :: vs => midL (l.set o v) (o + 1) vs
theorem Blk.mid {w : World} {g : Nat} {T : TypeId} {l : List Value} (h : Blk w g T l.toArray) (vs : List Value) (o : Nat) : Blk (w.setCells g o vs) g T (midL l o vs).toArray := by
  induction vs generalizing w l o with
  | nil => exact h
  | cons v vs ih => exact ih (h.setL o v) (o + 1)
theorem mid_any {w : World} {q : Nat} (P : World → Prop) (h : P w) (hs : ∀ (j : Nat) (W : World) (u : Value), P W → P (W.setCell ⟨q, j, none⟩ u)) (vs : List Value) (o : Nat) : P (w.setCells q o vs) := by
  induction vs generalizing w o with
  | nil => exact h
  | cons v vs ih => exact ih (hs o w v h) (o + 1)
theorem Blk.midFar {w : World} {g q : Nat} {T : TypeId} {cs : Array Value} (h : Blk w g T cs) (hne : g ≠ q) (vs : List Value) (o : Nat) : Blk (w.setCells q o vs) g T cs :=
  mid_any (fun W => Blk W g T cs) h (fun j _ u k => k.far (p := ⟨q, j, none⟩) hne u) vs o
theorem mid_below {w W : World} {B q : Nat} (h : Below B w W) (hB : B ≤ q) (vs : List Value) (o : Nat) : Below B w (W.setCells q o vs) :=
  mid_any (fun X => Below B w X) h (fun j _ u k => k.setCell (p := ⟨q, j, none⟩) hB u) vs o
theorem mid_grown {w : World} (q : Nat) (vs : List Value) (o : Nat) : w.grownBy (w.setCells q o vs) (some q) :=
  mid_any (fun X => w.grownBy X (some q)) (World.grownBy.refl _ _) (fun j _ u k => only_setCell (p := ⟨q, j, none⟩) k (.inl rfl) u) vs o
theorem mid_size (w : World) (q : Nat) (vs : List Value) (o : Nat) : (w.setCells q o vs).heap.size = w.heap.size :=
  mid_any (fun X => X.heap.size = w.heap.size) rfl (fun j _ u k => by simp [World.setCell, k]) vs o
/-- A block's cells are there, and may be written. -/
theorem Blk.there {w : World} {g : Nat} {T : TypeId} {cs : Array Value} (h : Blk w g T cs) (o n : Nat) (hn : o + n ≤ cs.size) : w.there g o n := fun j hj => by
  refine ⟨?_, h.frozen _⟩
  rw [h.cell, Array.getElem?_eq_getElem (by omega)]
  rfl
theorem wpList_load_want {P : Program} {ops : Array Oper} {rest : List Oper} {o : Oper} {a : Act} {w : World} {Q : Exit → Act → World → Prop} (hw : Region.wanted o (yielded ops a.tmps) = true) (ty : TypeId) (x : Operand) (ho : o.op = .load ty x)
    (g : Nat) (hx : a.eval x = .pointer (some ⟨g, 0, none⟩)) (t : TypeId) (cells : Array Value) (hb : Blk w g t cells) (d : TypeDesc) (hu : P.underlying ty = some d) (hd : d.isRow = true) (hi : (P.info? ty).map (·.size) = some cells.size)
    (h : wpList P ops Q rest (a.put o.dst (.agg cells)) w) : wpList P ops Q (o :: rest) a w :=
  BigFrame.wpList_want hw fun _ hK => wp_load_row ty x ho g hx t cells hb d hu hd hi (hK _ _ h)
/-- A part of a block read. -/
theorem wp_load_part {P : Program} {o : Oper} {a : Act} {w : World} {K : Act → World → Prop} {Q : Exit → Act → World → Prop} (ty : TypeId) (x : Operand) (ho : o.op = .load ty x)
    (g f : Nat) (hx : a.eval x = .pointer (some ⟨g, f, none⟩)) (t : TypeId) (cells : Array Value) (hb : Blk w g t cells) (part : Array Value) (hp : ∀ j v, part[j]? = some v → cells[f + j]? = some v) (d : TypeDesc) (hu : P.underlying ty = some d) (hd : d.isRow = true) (hi : (P.info? ty).map (·.size) = some part.size)
    (h : K (a.put o.dst (.agg part)) w) : o.wp P a w K Q := by
  have hl : (loadVar ty ⟨g, f, none⟩).run P w = .ok (.agg part) w := by
    have := run_loadVar_mid (P := P) w g f ty part.toList d (fun j v hj => by rw [hb.cell]; exact hp j v (by simpa using hj)) hu hd (by simpa using hi)
    simpa using this
  unfold Oper.wp execOp
  simp only [ho, hx, Instr.loadAt, Instr.sureAddr, Sem.run_bind, Sem.run_pure, Result.andThen_ok, hl]
  exact h
end Go.Proofs.Ytadkkhbbempaaaa

/- A reader of numbers, plain: what is read at a place, up to the first error. -/
namespace Go.Proofs.Ytadkkhbbempaaaa
set_option maxRecDepth 100000
open Go.RowKit

/-- What a reader at place k with error e reads: the number, the place, the error. -/
def rnum (lb : List Int) (k : Nat) (e most : Int) : Int × Nat × Int :=
  if e ≠ 0 then (0, k, e)
  else if (readN (lb.drop k)).2.2 ≠ 0 then (0, k, (readN (lb.drop k)).2.2)
  else if (readN (lb.drop k)).1 > most then (0, k, 11)
  else ((readN (lb.drop k)).1, k + (readN (lb.drop k)).2.1.toNat, 0)
theorem rnum_err {lb : List Int} {k : Nat} {e most : Int} (he : e ≠ 0) : rnum lb k e most = (0, k, e) := by
  unfold rnum
  rw [if_pos he]
theorem rnum_zero {lb : List Int} {k : Nat} {e most : Int} (h : (rnum lb k e most).2.2 = 0) : e = 0 := by
  by_cases he : e = 0
  · exact he
  · rw [rnum_err he] at h
    exact h
theorem rnum_le {lb : List Int} (hb : Byt lb) {k : Nat} (hk : k ≤ lb.length) (e : Int) {most : Int} (hm : 0 ≤ most) : 0 ≤ (rnum lb k e most).1 ∧ (rnum lb k e most).1 ≤ most ∧ (rnum lb k e most).2.1 ≤ lb.length ∧ (rnum lb k e most).1 < 18446744073709551616 := by
  unfold rnum
  by_cases h1 : e ≠ 0
  · rw [if_pos h1]
    exact ⟨Int.le_refl _, hm, hk, by show (0 : Int) < 18446744073709551616; decide⟩
  rw [if_neg h1]
  by_cases h2 : (readN (lb.drop k)).2.2 ≠ 0
  · rw [if_pos h2]
    exact ⟨Int.le_refl _, hm, hk, by show (0 : Int) < 18446744073709551616; decide⟩
  rw [if_neg h2]
  by_cases h3 : (readN (lb.drop k)).1 > most
  · rw [if_pos h3]
    exact ⟨Int.le_refl _, hm, hk, by show (0 : Int) < 18446744073709551616; decide⟩
  rw [if_neg h3]
  obtain ⟨r1, r2, r3, r4, r5⟩ := readN_ok (lb.drop k) (hb.drop k) (by simpa using h2)
  rw [List.length_drop] at r2
  exact ⟨r4, by simp only; omega, by simp only; omega, r5⟩
/-- So many numbers. -/
def decNodes (lb : List Int) : Nat → Nat → Int → List Int × Nat × Int
  | 0, k, e => ([], k, e)
  | c + 1, k, e => ((rnum lb k e 65535).1 :: (decNodes lb c (rnum lb k e 65535).2.1 (rnum lb k e 65535).2.2).1, (decNodes lb c (rnum lb k e 65535).2.1 (rnum lb k e 65535).2.2).2)
theorem decNodes_err {lb : List Int} {e : Int} (he : e ≠ 0) : ∀ (c k : Nat), (decNodes lb c k e).2.2 = e := by
  intro c
  induction c with
  | zero => intro k; rfl
  | succ c ih =>
    intro k
    unfold decNodes
    rw [rnum_err he]
    exact ih k
theorem decNodes_zero {lb : List Int} : ∀ {c k : Nat} {e : Int}, (decNodes lb c k e).2.2 = 0 → e = 0 := by
  intro c
  induction c with
  | zero => intro k e h; exact h
  | succ c ih => intro k e h; exact rnum_zero (ih h)
theorem decNodes_mem {lb : List Int} (hb : Byt lb) : ∀ (c k : Nat) (e : Int), k ≤ lb.length → (decNodes lb c k e).1.length = c ∧ (∀ z ∈ (decNodes lb c k e).1, 0 ≤ z ∧ z ≤ 65535) ∧ (decNodes lb c k e).2.1 ≤ lb.length := by
  intro c
  induction c with
  | zero => intro k e hk; exact ⟨rfl, (fun z hz => by cases hz), hk⟩
  | succ c ih =>
    intro k e hk
    obtain ⟨r1, r2, r3, r4⟩ := rnum_le hb hk e (most := 65535) (by decide)
    obtain ⟨i1, i2, i3⟩ := ih (rnum lb k e 65535).2.1 (rnum lb k e 65535).2.2 r3
    refine ⟨by simp [decNodes, i1], fun z hz => ?_, i3⟩
    simp only [decNodes, List.mem_cons] at hz
    rcases hz with rfl | hz
    · exact ⟨r1, r2⟩
    · exact i2 z hz
/-- Read in a longer list of bytes. -/
theorem rnum_shift (LB : List Int) (K k : Nat) (e most : Int) : rnum LB (K + k) e most = ((rnum (LB.drop K) k e most).1, K + (rnum (LB.drop K) k e most).2.1, (rnum (LB.drop K) k e most).2.2) := by
  unfold rnum
  rw [List.drop_drop]
  split
  · rfl
  split
  · rfl
  split
  · rfl
  · simp only [Nat.add_assoc]
end Go.Proofs.Ytadkkhbbempaaaa

/- What the readers need of memory: a slice cut, the document's reader's cells, one number appended. -/
namespace Go.Proofs.Ytadkkhbbempaaaa
set_option maxRecDepth 100000
open Go.RowKit

theorem cut8 {A : Option Addr} {c : Nat} {lb : List Int} {k : Nat} (hk : k ≤ lb.length) (hc : lb.length ≤ c) : ∃ A' c', (∀ w : World, (Instr.slice 75 (.slice A lb.length c) (some (.int .i64 (k : Int))) none none).run Try.prog w = .ok (.slice A' (lb.drop k).length c') w) ∧
    ∀ w, In8 w A c lb → In8 w A' c' (lb.drop k) := by
  refine ⟨if c = k then A else A.map (·.add (k * 1)), c - k, fun w => ?_, fun w h => ⟨?_, h.byt.drop k, by rw [List.length_drop]; omega, by rw [List.length_drop]; have := h.small; omega⟩⟩
  · rw [List.length_drop]
    have hu : Try.prog.underlying 75 = some (.slice (Try.prog.elem 75)) := by kernel_rfl
    rw [run_slice_l _ _ _ _ _ hu .i64 (k : Int) (by omega) (by omega)]
    have hs : (sizeOf (Try.prog.elem 75)).run Try.prog w = .ok 1 w := by
      show (sizeOf 5).run Try.prog w = .ok 1 w
      obtain ⟨i0, hi, _, hz1, _⟩ := info_parts info_u8
      simp [sizeOf, typeInfo, hi, hz1]
    rw [hs]
    simp [sliced, Result.andThen]
  · have := h.reads.cut hk hc
    rw [List.length_drop]
    simpa [u8s, List.map_drop] using this
def rdCells (A : Option Addr) (n c : Nat) (k : Nat) (e : Int) : Array Value := #[.slice A n c, .int .i64 (k : Int), .int .i64 e]
theorem wf_i64_of {z : Int} (h1 : -9223372036854775808 ≤ z) (h2 : z ≤ 9223372036854775807) : (Lit.int .i64 z).wf = true := by
  simp [Lit.wf, IntKind.min, IntKind.max, IntKind.bits, IntKind.signed]
  omega
/-- append(b, x, ..) for ints: the numbers lie in a block just made. -/
theorem app_litsI {ops : Array Oper} {rest : List Oper} {o : Oper} {a : Act} {Q : Exit → Act → World → Prop} {w0 W : World} {cs : Array Value} (base : Nat) (hgd : o.guard = none) (s x : Operand)
    (ho : o.op = .call { callee := .builtin .append, args := #[s, x], argTypes := #[23, 23] })
    (v : Value) (l news : List Int) (hs : a.eval s = v) (hcs : cs = (nums .i64 news).toArray) (hx : a.eval x = .slice (some ⟨W.heap.size, 0, none⟩) news.length news.length) (HO : OwnN .i64 3 W base v l) (HB : Below base w0 W) (hbase : base ≤ W.heap.size) (hl : l.length + news.length ≤ 1000000)
    (h : ∀ v1 w1, OwnN .i64 3 w1 base v1 (l ++ news) → Below base w0 w1 → wpList Try.prog ops Q rest (a.put o.dst v1) w1) : wpList Try.prog ops Q (o :: rest) a (W.alloc (.cells cs 3)) := by
  have hr : Reads (W.alloc (.cells cs 3)) (W.heap.size + 1) 1 (some ⟨W.heap.size, 0, none⟩) news.length (nums .i64 news) := by
    subst hcs
    refine ⟨by simp [nums], fun h => ⟨W.heap.size, 0, rfl, by omega, fun j u hu => ?_⟩⟩
    rw [Nat.zero_add, World.cell?_alloc_mark]
    simpa using hu
  refine app_own (w0 := w0) base hgd s x 23 3 (.int .i64 0) 8 ho Try.underlying23 1 info_int rfl (by omega) (by omega) v (nums .i64 l) l.length hs (W.heap.size + 1) _ _ _ (nums .i64 news) hx (World.ownsRow.alloc HO _) hr (nums_one_cell .i64 news) (HB.alloc hbase _) (by simp; omega) (by omega) ?_
  intro v1 w1 ho1 hB1 _ _
  refine h v1 w1 ?_ hB1
  unfold OwnN
  rw [List.length_append, nums_append]
  exact ho1
/-- The same as one step of a region that draws its order. -/
theorem step_litsI {ops : Array Oper} {o : Oper} {a : Act} {K : Act → World → Prop} {Q : Exit → Act → World → Prop} {E : Prop} {W : World} {cs : Array Value} (base : Nat) (hgd : o.guard = none) (s x : Operand)
    (ho : o.op = .call { callee := .builtin .append, args := #[s, x], argTypes := #[23, 23] })
    (v : Value) (l news : List Int) (hs : a.eval s = v) (hcs : cs = (nums .i64 news).toArray) (hx : a.eval x = .slice (some ⟨W.heap.size, 0, none⟩) news.length news.length) (HO : OwnN .i64 3 W base v l) (hbase : base ≤ W.heap.size) (hl : l.length + news.length ≤ 1000000)
    (h : ∀ v1 w1, OwnN .i64 3 w1 base v1 (l ++ news) → Below base W w1 → K (a.put o.dst v1) w1) :
    if Region.wanted o (yielded ops a.tmps) = true then Oper.wp Try.prog o a (W.alloc (.cells cs 3)) K Q else E := by
  have hr : Reads (W.alloc (.cells cs 3)) (W.heap.size + 1) 1 (some ⟨W.heap.size, 0, none⟩) news.length (nums .i64 news) := by
    subst hcs
    refine ⟨by simp [nums], fun h => ⟨W.heap.size, 0, rfl, by omega, fun j u hu => ?_⟩⟩
    rw [Nat.zero_add, World.cell?_alloc_mark]
    simpa using hu
  obtain ⟨i0, hi, hz0, hz1, hz2⟩ := info_parts info_int
  have hO := World.ownsRow.alloc HO (.cells cs 3)
  refine step_append_any _ hgd s x 23 ho base 3 i0 (.int .i64 0) 1 8 Try.underlying23 hi hz0 hz1 hz2 rfl (by omega) v l.length (nums .i64 l) hs hO (W.heap.size + 1) _ _ _ (nums .i64 news) hx hr (nums_one_cell .i64 news) (by simp only [maxLen]; omega) (by omega) (by simp; omega) ?_
  intro v1 w1 ho1 hg _
  refine h v1 w1 ?_ (((Below.refl base W).alloc hbase _).grown hg (by simp; omega) (own_base HO))
  unfold OwnN
  rw [List.length_append, nums_append]
  exact ho1
end Go.Proofs.Ytadkkhbbempaaaa

/- Walks over commands: the code's reader reads a number. -/
namespace Go.Proofs.Ytadkkhbbempaaaa
set_option maxRecDepth 100000
open Go.RowKit

set_option maxRecDepth 100000 in
set_option maxHeartbeats 4000000 in
theorem num_walk (w : World) (gr : Nat) (A : Option Addr) (c : Nat) (lb : List Int) (k : Nat) (e most : Int) (h : In8 w A c lb) (hk : k ≤ lb.length) (hb : Blk w gr 146 (rdCells A lb.length c k e)) :
    Calls Try.prog 102 #[.pointer (some ⟨gr, 0, none⟩), .int .u64 most] w fun x w' => x = .returned (.int .u64 (rnum lb k e most).1) ∧
      Blk w' gr 146 (rdCells A lb.length c (rnum lb k e most).2.1 (rnum lb k e most).2.2) ∧ w.grownBy w' (some gr) := by
  have hs := h.small
  have hcap := h.cap
  unfold rdCells
  unfold rdCells at hb
  obtain ⟨A', c', hcut, hin⟩ := cut8 (A := A) (c := c) hk hcap
  obtain ⟨S, hS⟩ : ∃ S, Value.slice A lb.length c = S := ⟨_, rfl⟩
  rw [hS] at hb hcut ⊢
  have hb3 : Blk w gr 146 [S, .int .i64 (k : Int), .int .i64 e].toArray := hb
  have hc0 : w.cell? ⟨gr, 0, none⟩ = some S := by rw [hb3.cell]; rfl
  have hc1 : w.cell? ⟨gr, 1, none⟩ = some (.int .i64 (k : Int)) := by rw [hb3.cell]; rfl
  have hc2 : w.cell? ⟨gr, 2, none⟩ = some (.int .i64 e) := by rw [hb3.cell]; rfl
  have f1 := hb3.frozen 1
  have f2 := hb3.frozen 2
  by_cases he : e = 0
  rotate_left
  · have hne : (e != 0) = true := bne_iff_ne.2 he
    have hr0 : rnum lb k e most = (0, k, e) := by
      unfold rnum
      rw [if_pos he]
    have HR := Lib.hid hr0
    clear hr0
    clear he h hS hcut hin
    go_enter Try.func102, Try.ntmps102
    go_wp2
    go_ret
    rw [HR.out]
    exact ⟨rfl, hb, World.grownBy.refl _ _⟩
  subst he
  have C1 := fun j => readNum_any A' c' (lb.drop k) (w.drewN j) (hin _ (h.keep (below_drewN (Below.refl _ _) j)))
  have hrok := readN_ok (lb.drop k) (h.byt.drop k)
  have hrn : rnum lb k 0 most = rnum lb k 0 most := rfl
  conv at hrn => rhs; unfold rnum
  rw [if_neg (by simp)] at hrn
  simp only [List.length_drop] at hcut
  simp only [List.length_drop] at C1
  obtain ⟨⟨n, kk, x⟩, hr⟩ : ∃ r, readN (lb.drop k) = r := ⟨_, rfl⟩
  rw [hr] at hrok hrn
  simp only [hr] at C1
  simp only at C1 hrok hrn
  have C1 := fun j => Lib.hid (C1 j)
  clear hr hin h hS
  by_cases hx : x = 0
  rotate_left
  · rw [if_pos hx] at hrn
    have HR := Lib.hid hrn
    have hxe : (x == 0) = false := beq_eq_false_iff_ne.2 hx
    have hxn : (x != 0) = true := bne_iff_ne.2 hx
    clear hrn hrok hx
    go_enter Try.func102, Try.ntmps102
    go_wp2_with fail
    go_quiet ((go_at_call 55; exact Calls.quiet_of_same (C1 _).out))
    go_wp2
    go_ret
    rw [HR.out]
    exact ⟨rfl, Blk.setL (hb3.drewN nq) 2 _, only_setCell (p := ⟨gr, 2, none⟩) (only_drewN (World.grownBy.refl w (some gr)) nq) (.inl rfl) _⟩
  subst hx
  obtain ⟨hk1, hk2, hk3, hn1, hn2⟩ := hrok rfl
  rw [if_neg (by simp)] at hrn
  clear hrok
  by_cases hm : n > most
  · rw [if_pos hm] at hrn
    have HR := Lib.hid hrn
    have hd : decide (n > most) = true := decide_eq_true hm
    clear hrn hn1 hn2
    go_enter Try.func102, Try.ntmps102
    go_wp2_with fail
    go_quiet ((go_at_call 55; exact Calls.quiet_of_same (C1 _).out))
    go_wp2
    go_ret
    rw [HR.out]
    exact ⟨rfl, Blk.setL (hb3.drewN nq) 2 _, only_setCell (p := ⟨gr, 2, none⟩) (only_drewN (World.grownBy.refl w (some gr)) nq) (.inl rfl) _⟩
  · rw [if_neg hm] at hrn
    obtain ⟨j, rfl⟩ := Int.eq_ofNat_of_zero_le (show 0 ≤ kk by omega)
    rw [Int.toNat_natCast] at hrn
    have HR := Lib.hid hrn
    have hd : decide (n > most) = false := decide_eq_false hm
    rw [List.length_drop] at hk2
    have HSUM : Hid ((k : Int) + (j : Int) = ((k + j : Nat) : Int)) := by
      show _ = _
      omega
    have hkj : (k : Int) + (j : Int) ≤ 140737488355328 := by omega
    clear hk2 hk1 hk3
    clear hrn hn1 hn2 hm
    go_enter Try.func102, Try.ntmps102
    go_wp2_with fail
    go_quiet ((go_at_call 55; exact Calls.quiet_of_same (C1 _).out))
    go_wp2
    go_ret
    rw [HR.out]
    refine ⟨rfl, ?_, only_setCell (p := ⟨gr, 1, none⟩) (only_drewN (World.grownBy.refl w (some gr)) nq) (.inl rfl) _⟩
    have := Blk.setL (hb3.drewN nq) 1 (.int .i64 ((k : Int) + (j : Int)))
    rw [HSUM.out] at this ⊢
    exact this
end Go.Proofs.Ytadkkhbbempaaaa

/- Walks over commands: what the code's Decode reads (plain), and what stands in memory while it reads. -/
namespace Go.Proofs.Ytadkkhbbempaaaa
set_option maxRecDepth 100000
open Go.RowKit

/-! ### Plain: what is read -/
/-- What is read for a field that is there, or not. -/
def fnum (there : Bool) (lb : List Int) (st : Nat × Int) (most : Int) : Int × Nat × Int := if there then rnum lb st.1 st.2 most else (0, st)
/-- The kind; behind it the place and the error. -/
def dK (lb : List Int) : Int × Nat × Int := ((rnum lb 0 0 6).1, (rnum lb 0 0 6).2.1, if (rnum lb 0 0 6).2.2 = 0 ∧ kI (rnum lb 0 0 6).1 = false then 11 else (rnum lb 0 0 6).2.2)
def dL (lb : List Int) : List Int × Nat × Int :=
  if kN (dK lb).1 then decNodes lb (rnum lb (dK lb).2.1 (dK lb).2.2 7).1.toNat (rnum lb (dK lb).2.1 (dK lb).2.2 7).2.1 (rnum lb (dK lb).2.1 (dK lb).2.2 7).2.2 else ([], (dK lb).2)
def dn (lb : List Int) := fnum (kR (dK lb).1) lb (dL lb).2 65535
def db (lb : List Int) := fnum (kR (dK lb).1) lb (dn lb).2 18446744073709551615
def dq (lb : List Int) := fnum (kR (dK lb).1) lb (db lb).2 18446744073709551615
def dt (lb : List Int) := fnum (kT (dK lb).1) lb (dq lb).2 65535
def ds (lb : List Int) := fnum (kT (dK lb).1) lb (dt lb).2 18446744073709551615
def dm (lb : List Int) := fnum (kS (dK lb).1) lb (ds lb).2 18446744073709551615
/-- The error in the end. -/
noncomputable def dE (lb : List Int) : Int := if (dm lb).2.2 = 0 then errCmd (codeOk (dK lb).1 (dn lb).1 (dt lb).1 (dL lb).1 (db lb).1 (dq lb).1 (ds lb).1 (dm lb).1) else (dm lb).2.2

/-! ### In memory -/
structure Ord (g gr gc gw B : Nat) : Prop where
  h1 : g < gr
  h2 : gr < gc
  h3 : gc < gw
  h4 : gw < B
structure ST (w : World) (g gr gc gw B : Nat) (A : Option Addr) (c : Nat) (lb : List Int) (wx : World) (kind n t : Int) (sl : Value) (l : List Int) (b q s m : Int) (k : Nat) (e : Int) : Prop where
  res : Blk wx g 44 (cmdCells 0 0 0 (.slice none 0 0) 0 0 0 0)
  rd : Blk wx gr 146 (rdCells A lb.length c k e)
  cm : Blk wx gc 44 (cmdCells kind n t sl b q s m)
  wh : Blk wx gw 103 #[.bool (kN kind), .bool (kR kind), .bool (kT kind), .bool (kS kind), .bool (kI kind)]
  bel : Below g w wx
  le : k ≤ lb.length
  sz : B ≤ wx.heap.size
  own : OwnN .i64 3 wx B sl l

section
variable {w : World} {g gr gc gw B : Nat} {A : Option Addr} {c : Nat} {lb : List Int} {wx : World} {kind n t : Int} {sl : Value} {l : List Int} {b q s m : Int} {k : Nat} {e : Int}
theorem ST.drew (h : ST w g gr gc gw B A c lb wx kind n t sl l b q s m k e) : ST w g gr gc gw B A c lb wx.drew kind n t sl l b q s m k e :=
  ⟨h.res, h.rd, h.cm, h.wh, h.bel.drew, h.le, h.sz, h.own⟩
theorem ST.num (h : ST w g gr gc gw B A c lb wx kind n t sl l b q s m k e) (o : Ord g gr gc gw B) (hg : w.heap.size = g) (hin : In8 w A c lb) (most : Int) (hm : 0 ≤ most) :
    Calls Try.prog 102 #[.pointer (some ⟨gr, 0, none⟩), .int .u64 most] wx fun x w' => x = .returned (.int .u64 (rnum lb k e most).1) ∧
      ST w g gr gc gw B A c lb w' kind n t sl l b q s m (rnum lb k e most).2.1 (rnum lb k e most).2.2 := by
  refine (num_walk wx gr A c lb k e most (hin.keep (by rw [hg]; exact h.bel)) h.le h.rd).mono fun x w' ⟨hx, hrd, hgr⟩ => ⟨hx, ?_⟩
  have o1 := o.h1
  have o2 := o.h2
  have o3 := o.h3
  have o4 := o.h4
  have hne : ∀ i, i ≠ gr → some i ≠ some gr := fun i hi hh => hi (by injection hh)
  refine ⟨h.res.grown hgr (hne _ (by omega)), hrd, h.cm.grown hgr (hne _ (by omega)), h.wh.grown hgr (hne _ (by omega)), h.bel.grown hgr (by have := h.sz; omega) (fun i hi => by injection hi with hi; omega), (rnum_le hin.byt h.le e hm).2.2.1, Nat.le_trans h.sz hgr.size, World.ownsRow.kept h.own hgr ?_⟩
  cases hv : sl.ownBlock with
  | none => exact .inl rfl
  | some i =>
    have := (World.ownsRow.lt h.own i hv).1
    exact .inr (hne _ (by omega))
theorem ST.setc (h : ST w g gr gc gw B A c lb wx kind n t sl l b q s m k e) (o : Ord g gr gc gw B) (j : Nat) (u : Value) :
    Blk (wx.setCell ⟨gc, j, none⟩ u) g 44 (cmdCells 0 0 0 (.slice none 0 0) 0 0 0 0) ∧ Blk (wx.setCell ⟨gc, j, none⟩ u) gr 146 (rdCells A lb.length c k e) ∧
    Blk (wx.setCell ⟨gc, j, none⟩ u) gc 44 ([Value.int .i64 kind, .int .i64 n, .int .i64 t, sl, .int .u64 b, .int .u64 q, .int .u64 s, .int .u64 m].set j u).toArray ∧
    Blk (wx.setCell ⟨gc, j, none⟩ u) gw 103 #[.bool (kN kind), .bool (kR kind), .bool (kT kind), .bool (kS kind), .bool (kI kind)] ∧
    Below g w (wx.setCell ⟨gc, j, none⟩ u) ∧ B ≤ (wx.setCell ⟨gc, j, none⟩ u).heap.size ∧ OwnN .i64 3 (wx.setCell ⟨gc, j, none⟩ u) B sl l := by
  have o1 := o.h1
  have o2 := o.h2
  have o3 := o.h3
  have o4 := o.h4
  have hgr : wx.grownBy (wx.setCell ⟨gc, j, none⟩ u) (some gc) := only_setCell (p := ⟨gc, j, none⟩) (World.grownBy.refl wx (some gc)) (.inl rfl) u
  have hne : ∀ i, i ≠ gc → some i ≠ some gc := fun i hi hh => hi (by injection hh)
  refine ⟨h.res.grown hgr (hne _ (by omega)), h.rd.grown hgr (hne _ (by omega)), Blk.setL (l := [Value.int .i64 kind, .int .i64 n, .int .i64 t, sl, .int .u64 b, .int .u64 q, .int .u64 s, .int .u64 m]) h.cm j u, h.wh.grown hgr (hne _ (by omega)),
    h.bel.grown hgr (by have := h.sz; omega) (fun i hi => by injection hi with hi; omega), Nat.le_trans h.sz hgr.size, World.ownsRow.kept h.own hgr ?_⟩
  cases hv : sl.ownBlock with
  | none => exact .inl rfl
  | some i =>
    have := (World.ownsRow.lt h.own i hv).1
    exact .inr (hne _ (by omega))
theorem ST.set1 (h : ST w g gr gc gw B A c lb wx kind n t sl l b q s m k e) (o : Ord g gr gc gw B) (u : Int) : ST w g gr gc gw B A c lb (wx.setCell ⟨gc, 1, none⟩ (.int .i64 u)) kind u t sl l b q s m k e := by
  obtain ⟨a1, a2, a3, a4, a5, a6, a7⟩ := h.setc o 1 (.int .i64 u); exact ⟨a1, a2, a3, a4, a5, h.le, a6, a7⟩
theorem ST.set2 (h : ST w g gr gc gw B A c lb wx kind n t sl l b q s m k e) (o : Ord g gr gc gw B) (u : Int) : ST w g gr gc gw B A c lb (wx.setCell ⟨gc, 2, none⟩ (.int .i64 u)) kind n u sl l b q s m k e := by
  obtain ⟨a1, a2, a3, a4, a5, a6, a7⟩ := h.setc o 2 (.int .i64 u); exact ⟨a1, a2, a3, a4, a5, h.le, a6, a7⟩
theorem ST.set4 (h : ST w g gr gc gw B A c lb wx kind n t sl l b q s m k e) (o : Ord g gr gc gw B) (u : Int) : ST w g gr gc gw B A c lb (wx.setCell ⟨gc, 4, none⟩ (.int .u64 u)) kind n t sl l u q s m k e := by
  obtain ⟨a1, a2, a3, a4, a5, a6, a7⟩ := h.setc o 4 (.int .u64 u); exact ⟨a1, a2, a3, a4, a5, h.le, a6, a7⟩
theorem ST.set5 (h : ST w g gr gc gw B A c lb wx kind n t sl l b q s m k e) (o : Ord g gr gc gw B) (u : Int) : ST w g gr gc gw B A c lb (wx.setCell ⟨gc, 5, none⟩ (.int .u64 u)) kind n t sl l b u s m k e := by
  obtain ⟨a1, a2, a3, a4, a5, a6, a7⟩ := h.setc o 5 (.int .u64 u); exact ⟨a1, a2, a3, a4, a5, h.le, a6, a7⟩
theorem ST.set6 (h : ST w g gr gc gw B A c lb wx kind n t sl l b q s m k e) (o : Ord g gr gc gw B) (u : Int) : ST w g gr gc gw B A c lb (wx.setCell ⟨gc, 6, none⟩ (.int .u64 u)) kind n t sl l b q u m k e := by
  obtain ⟨a1, a2, a3, a4, a5, a6, a7⟩ := h.setc o 6 (.int .u64 u); exact ⟨a1, a2, a3, a4, a5, h.le, a6, a7⟩
theorem ST.set7 (h : ST w g gr gc gw B A c lb wx kind n t sl l b q s m k e) (o : Ord g gr gc gw B) (u : Int) : ST w g gr gc gw B A c lb (wx.setCell ⟨gc, 7, none⟩ (.int .u64 u)) kind n t sl l b q s u k e := by
  obtain ⟨a1, a2, a3, a4, a5, a6, a7⟩ := h.setc o 7 (.int .u64 u); exact ⟨a1, a2, a3, a4, a5, h.le, a6, a7⟩
/-- Behind what leaves all below B alone, with a list of its own. -/
theorem ST.app (h : ST w g gr gc gw B A c lb wx kind n t sl l b q s m k e) (o : Ord g gr gc gw B) {w1 : World} (hb : Below B wx w1) {sl' : Value} {l' : List Int} (ho : OwnN .i64 3 w1 B sl' l') :
    ST w g gr gc gw B A c lb (w1.setCell ⟨gc, 3, none⟩ sl') kind n t sl' l' b q s m k e := by
  have o1 := o.h1
  have o2 := o.h2
  have o3 := o.h3
  have o4 := o.h4
  have hgr : w1.grownBy (w1.setCell ⟨gc, 3, none⟩ sl') (some gc) := only_setCell (p := ⟨gc, 3, none⟩) (World.grownBy.refl w1 (some gc)) (.inl rfl) sl'
  have hne : ∀ i, i ≠ gc → some i ≠ some gc := fun i hi hh => hi (by injection hh)
  have hB1 : Below g w w1 := h.bel.trans (hb.mono (by omega))
  refine ⟨(h.res.below hb (by omega)).grown hgr (hne _ (by omega)), (h.rd.below hb (by omega)).grown hgr (hne _ (by omega)), Blk.setL (l := [Value.int .i64 kind, .int .i64 n, .int .i64 t, sl, .int .u64 b, .int .u64 q, .int .u64 s, .int .u64 m]) (h.cm.below hb (by omega)) 3 sl', (h.wh.below hb (by omega)).grown hgr (hne _ (by omega)),
    hB1.grown hgr (by have := h.sz; have := hb.size; omega) (fun i hi => by injection hi with hi; omega), h.le, Nat.le_trans (Nat.le_trans h.sz hb.size) hgr.size, World.ownsRow.kept ho hgr ?_⟩
  cases hv : sl'.ownBlock with
  | none => exact .inl rfl
  | some i =>
    have := (World.ownsRow.lt ho i hv).1
    exact .inr (hne _ (by omega))
theorem ST.err (h : ST w g gr gc gw B A c lb wx kind n t sl l b q s m k e) (o : Ord g gr gc gw B) (e' : Int) : ST w g gr gc gw B A c lb (wx.setCell ⟨gr, 2, none⟩ (.int .i64 e')) kind n t sl l b q s m k e' := by
  have o1 := o.h1
  have o2 := o.h2
  have o3 := o.h3
  have o4 := o.h4
  have hgr : wx.grownBy (wx.setCell ⟨gr, 2, none⟩ (.int .i64 e')) (some gr) := only_setCell (p := ⟨gr, 2, none⟩) (World.grownBy.refl wx (some gr)) (.inl rfl) _
  have hne : ∀ i, i ≠ gr → some i ≠ some gr := fun i hi hh => hi (by injection hh)
  refine ⟨h.res.grown hgr (hne _ (by omega)), Blk.setL (l := [Value.slice A lb.length c, .int .i64 (k : Int), .int .i64 e]) h.rd 2 _, h.cm.grown hgr (hne _ (by omega)), h.wh.grown hgr (hne _ (by omega)),
    h.bel.grown hgr (by have := h.sz; omega) (fun i hi => by injection hi with hi; omega), h.le, Nat.le_trans h.sz hgr.size, World.ownsRow.kept h.own hgr ?_⟩
  cases hv : sl.ownBlock with
  | none => exact .inl rfl
  | some i =>
    have := (World.ownsRow.lt h.own i hv).1
    exact .inr (hne _ (by omega))
theorem ST.below (h : ST w g gr gc gw B A c lb wx kind n t sl l b q s m k e) (o : Ord g gr gc gw B) {w1 : World} (hb : Below wx.heap.size wx w1) : ST w g gr gc gw B A c lb w1 kind n t sl l b q s m k e := by
  have o1 := o.h1
  have o2 := o.h2
  have o3 := o.h3
  have o4 := o.h4
  have hs := h.sz
  exact ⟨h.res.below hb (by omega), h.rd.below hb (by omega), h.cm.below hb (by omega), h.wh.below hb (by omega), h.bel.trans (hb.mono (by omega)), h.le, Nat.le_trans h.sz hb.size, own_below h.own hb⟩
end
end Go.Proofs.Ytadkkhbbempaaaa

/- Walks over commands: the code's Decode. -/
namespace Go.Proofs.Ytadkkhbbempaaaa
set_option maxRecDepth 100000
open Go.RowKit

structure RdAt (w : World) (gr : Nat) (S : Value) (k e : Int) : Prop where
  r0 : w.cell? ⟨gr, 0, none⟩ = some S
  r1 : w.cell? ⟨gr, 1, none⟩ = some (.int .i64 k)
  r2 : w.cell? ⟨gr, 2, none⟩ = some (.int .i64 e)
theorem Blk.rdAt {w : World} {gr : Nat} {T : TypeId} {A : Option Addr} {n c k : Nat} {e : Int} (h : Blk w gr T (rdCells A n c k e)) : RdAt w gr (.slice A n c) (k : Int) e := by
  constructor <;> (rw [h.cell]; rfl)
theorem results_cell3 {fn : Func} {t u v : Tmp} {ty : TypeId} (h : fn.results = #[.cell t ty, .tmp u, .tmp v]) {tmps : Array Value} {P : Program} {w : World} {a : Addr} {x : Value} (ha : tmps.getD t undef = .pointer (some a)) (hl : (loadVar ty a).run P w = .ok x w) :
    (results fn tmps).run P w = .ok (.tuple #[x, tmps.getD u undef, tmps.getD v undef]) w := by
  have ha2 : tmps[t]?.getD undef = .pointer (some a) := by simpa using ha
  have e : (asAddr (.pointer (some a))).run P w = .ok a w := rfl
  simp [results, h, ha2, e, hl]

set_option maxRecDepth 100000 in
set_option maxHeartbeats 8000000 in
theorem cmd_Decode_walk2 (w : World) (A : Option Addr) (c : Nat) (lb : List Int) (h : In8 w A c lb) :
    Calls Try.prog 89 #[.slice A lb.length c] w fun x w' => Below w.heap.size w w' ∧
      ((dE lb = 0 ∧ ∃ A' c', x = .returned (.tuple #[cmdV (dK lb).1 (dn lb).1 (dt lb).1 (.slice A' (dL lb).1.length c') (db lb).1 (dq lb).1 (ds lb).1 (dm lb).1, .int .i64 ((dm lb).2.1 : Int), .int .i64 0]) ∧ InN .i64 w' A' c' (dL lb).1 ∧ ∀ b, (Value.slice A' (dL lb).1.length c').ownBlock = some b → w.heap.size ≤ b) ∨
       (dE lb ≠ 0 ∧ x = .returned (.tuple #[cmdV 0 0 0 (.slice none 0 0) 0 0 0 0, .int .i64 0, .int .i64 (dE lb)]))) := by
  have HIN := Lib.hid h
  have hbyt := h.byt
  have hsm := h.small
  obtain ⟨g, hg⟩ : ∃ g, w.heap.size = g := ⟨_, rfl⟩
  rw [hg]
  have HLE := Lib.hid (fun (k : Nat) (hk : k ≤ lb.length) (e most : Int) (hm : 0 ≤ most) => rnum_le hbyt hk e hm)
  have HDN := Lib.hid (fun (cc k : Nat) (e : Int) (hk : k ≤ lb.length) => decNodes_mem hbyt cc k e hk)
  have hb0 : Blk (w.alloc (.cells (cmdCells 0 0 0 (.slice none 0 0) 0 0 0 0) 44)) g 44 (cmdCells 0 0 0 (.slice none 0 0) 0 0 0 0) := hg ▸ Blk.new _ _ _
  have hB0 : Below g w (w.alloc (.cells (cmdCells 0 0 0 (.slice none 0 0) 0 0 0 0) 44)) := (Below.refl _ _).alloc (by omega) _
  have hs1 : (w.alloc (.cells (cmdCells 0 0 0 (.slice none 0 0) 0 0 0 0) 44)).heap.size = g + 1 := by simp [hg]
  have hb1 := hb0.alloc (.cells (rdCells A lb.length c 0 0) 146)
  have hr1 : Blk ((w.alloc (.cells (cmdCells 0 0 0 (.slice none 0 0) 0 0 0 0) 44)).alloc (.cells (rdCells A lb.length c 0 0) 146)) (g + 1) 146 (rdCells A lb.length c 0 0) := hs1 ▸ Blk.new _ _ _
  have hB1 := hB0.alloc (by omega) (.cells (rdCells A lb.length c 0 0) 146)
  have hs2 : ((w.alloc (.cells (cmdCells 0 0 0 (.slice none 0 0) 0 0 0 0) 44)).alloc (.cells (rdCells A lb.length c 0 0) 146)).heap.size = g + 2 := by simp [hg]
  clear hb0 hB0 hs1 h hbyt
  go_enter Try.func89, Try.ntmps89
  go_upto_region 2 with (fail)
  change Code.wp _ _ _ _ ((w.alloc (.cells (cmdCells 0 0 0 (.slice none 0 0) 0 0 0 0) 44)).alloc (.cells (rdCells A lb.length c 0 0) 146))
  generalize ((w.alloc (.cells (cmdCells 0 0 0 (.slice none 0 0) 0 0 0 0) 44)).alloc (.cells (rdCells A lb.length c 0 0) 146)) = W0 at hb1 hr1 hB1 hs2 ⊢
  have N0 := num_walk W0 (g + 1) A c lb 0 0 6 (HIN.out.keep (by rw [hg]; exact hB1)) (by omega) hr1
  have hr0 := HLE.out 0 (by omega) 0 6 (by decide)
  obtain ⟨⟨kind, k0, e0⟩, hrk⟩ : ∃ r, rnum lb 0 0 6 = r := ⟨_, rfl⟩
  rw [hrk] at N0 hr0
  simp only at N0 hr0
  have HRK := Lib.hid hrk
  have N0 := Lib.hid N0
  clear hrk hr1
  have wk : IntKind.i64.wrap kind = kind := by simp [IntKind.wrap_i64]; omega
  have CO := Lib.hid (fun W => cmd_of_any W kind)
  go_wp2_with fail
  refine N0.out.mono ?_
  rintro x w1 ⟨rfl, hrd1, hgr1⟩
  have hne : ∀ i, i ≠ g + 1 → some i ≠ some (g + 1) := fun i hi hh => hi (by injection hh)
  have hb2 := hb1.grown hgr1 (hne _ (by omega))
  have hB2 : Below g w w1 := hB1.grown hgr1 (by omega) (fun i hi => by injection hi with hi; omega)
  have hs3 : g + 2 ≤ w1.heap.size := by have := hgr1.size; omega
  clear hb1 hB1 hs2 hgr1 hne N0
  obtain ⟨gc, hgc⟩ : ∃ gc, w1.heap.size = gc := ⟨_, rfl⟩
  have hc3 : Blk (w1.alloc (.cells (cmdCells kind 0 0 (.slice none 0 0) 0 0 0 0) 44)) gc 44 (cmdCells kind 0 0 (.slice none 0 0) 0 0 0 0) := hgc ▸ Blk.new _ _ _
  have hb3 := hb2.alloc (.cells (cmdCells kind 0 0 (.slice none 0 0) 0 0 0 0) 44)
  have hrd3 := hrd1.alloc (.cells (cmdCells kind 0 0 (.slice none 0 0) 0 0 0 0) 44)
  have hB3 := hB2.alloc (by omega) (.cells (cmdCells kind 0 0 (.slice none 0 0) 0 0 0 0) 44)
  clear hb2 hrd1 hB2
  go_upto_region 3 with (fail)
  change Code.wp _ _ _ _ (w1.alloc (.cells (cmdCells kind 0 0 (.slice none 0 0) 0 0 0 0) 44))
  generalize w1.alloc (.cells (cmdCells kind 0 0 (.slice none 0 0) 0 0 0 0) 44) = W3 at hc3 hb3 hrd3 hB3 ⊢
  obtain ⟨c0, c1, c2, c3, c4, c5, c6, c7⟩ := hc3.cmd
  go_wp2_with fail
  refine (CO.out _).mono ?_
  rintro x w4 ⟨rfl, hB4⟩
  clear c0 c1 c2 c3 c4 c5 c6 c7
  unfold which
  have hc4 := hc3.below hB4 hc3.lt
  have hb4 := hb3.below hB4 hb3.lt
  have hrd4 := hrd3.below hB4 hrd3.lt
  have hBw4 : Below g w w4 := hB3.trans (hB4.mono (Nat.le_of_lt hb3.lt))
  obtain ⟨gw, hgw⟩ : ∃ gw, w4.heap.size = gw := ⟨_, rfl⟩
  have hlt4 : gc < gw := hgw ▸ hc4.lt
  have hw5 : Blk (w4.alloc (.cells #[.bool (kN kind), .bool (kR kind), .bool (kT kind), .bool (kS kind), .bool (kI kind)] 103)) gw 103 _ := hgw ▸ Blk.new _ _ _
  have hb5 := hb4.alloc (.cells #[.bool (kN kind), .bool (kR kind), .bool (kT kind), .bool (kS kind), .bool (kI kind)] 103)
  have hc5 := hc4.alloc (.cells #[.bool (kN kind), .bool (kR kind), .bool (kT kind), .bool (kS kind), .bool (kI kind)] 103)
  have hrd5 := hrd4.alloc (.cells #[.bool (kN kind), .bool (kR kind), .bool (kT kind), .bool (kS kind), .bool (kI kind)] 103)
  have hB5 := hBw4.alloc (by omega) (.cells #[.bool (kN kind), .bool (kR kind), .bool (kT kind), .bool (kS kind), .bool (kI kind)] 103)
  clear hc3 hb3 hrd3 hB3 hB4 hc4 hb4 hrd4 hBw4
  go_upto_region 4 with (fail)
  generalize w4.alloc (.cells #[.bool (kN kind), .bool (kR kind), .bool (kT kind), .bool (kS kind), .bool (kI kind)] 103) = W at hw5 hb5 hc5 hrd5 hB5 ⊢
  obtain ⟨B, hBz⟩ : ∃ B, W.heap.size = B := ⟨_, rfl⟩
  obtain ⟨gr, hgr⟩ : ∃ gr, g + 1 = gr := ⟨_, rfl⟩
  rw [hgr] at hrd5 ⊢
  have ORD : Hid (Ord g gr gc gw B) := ⟨by omega, by omega, hlt4, hBz ▸ hw5.lt⟩
  have H0 : Hid (ST w g gr gc gw B A c lb W kind 0 0 (.slice none 0 0) [] 0 0 0 0 k0 e0) := ⟨hb5, hrd5, hc5, hw5, hB5, hr0.2.2.1, by omega, own_nil _ _ _ _⟩
  have hk0 := hr0.2.2.1
  clear hw5 hb5 hc5 hrd5 hB5 hBz hlt4 hgw hgc hgr hs3 hr0 wk CO
  obtain ⟨d0, d1, d2, d3, d4⟩ := H0.out.wh.which
  obtain ⟨r0, r1, r2⟩ := H0.out.rd.rdAt
  have fr := H0.out.rd.frozen 2
  obtain ⟨e1, he1⟩ : ∃ e1, (if e0 = 0 ∧ kI kind = false then 11 else e0) = e1 := ⟨_, rfl⟩
  have HE1 := Lib.hid he1
  have HDK : Hid (dK lb = (kind, k0, e1)) := by
    show _ = _
    unfold dK
    rw [HRK.out, ← he1]
  clear he1
  go_upto_region 4 with (fail)
  go_cut [27] (fun x wx => x = .bool (e0 == 0 && !(kI kind)) ∧ wx = W)
  case first =>
    cases hE : (e0 == 0)
    · go_wp2
      go_meet
      case rel => exact ⟨by rw [hE]; rfl, rfl⟩
    · cases hI : kI kind
      all_goals
        go_wp2
        go_meet
        case rel => exact ⟨by rw [hE, hI]; rfl, rfl⟩
  case rest =>
  obtain ⟨rfl, rfl⟩ := hcut
  go_upto_if 27 with (fail)
  go_cut [7] (fun x wx => x = .pointer (some ⟨gw, 0, none⟩) ∧ ST w g gr gc gw B A c lb wx kind 0 0 (.slice none 0 0) [] 0 0 0 0 k0 e1)
  case first =>
    cases hE : (e0 == 0 && !(kI kind))
    · have HV : Hid (e1 = e0) := by
        show _ = _
        rw [← HE1.out, if_neg]
        intro hh
        rw [hh.1, hh.2] at hE
        simp at hE
      go_wp2
      go_meet
      case rel => exact ⟨rfl, by rw [HV.out]; exact H0.out⟩
    · have HV : Hid (e1 = 11) := by
        show _ = _
        rw [Bool.and_eq_true] at hE
        rw [← HE1.out, if_pos ⟨by simpa using hE.1, by simpa using hE.2⟩]
      go_wp2
      go_meet
      case rel => exact ⟨rfl, by rw [HV.out]; exact H0.out.err ORD.out 11⟩
  case rest =>
    clear d0 d1 d2 d3 d4 r0 r1 r2 fr H0 HE1 HRK
    obtain ⟨rfl, h1⟩ := hcut
    have H1 := Lib.hid h1
    clear h1
    obtain ⟨⟨L, k2, e2⟩, hdl⟩ : ∃ r, dL lb = r := ⟨_, rfl⟩
    have HDL := Lib.hid hdl
    clear hdl
    obtain ⟨d0, d1, d2, d3, d4⟩ := H1.out.wh.which
    go_upto_if 32 with (fail)
    go_cut [7] (fun x wx => x = .pointer (some ⟨gw, 0, none⟩) ∧ ∃ sl, ST w g gr gc gw B A c lb wx kind 0 0 sl L 0 0 0 0 k2 e2)
    case first =>
      cases hN : kN kind
      · have hv : dL lb = ([], k0, e1) := by
          unfold dL
          rw [HDK.out]
          simp only
          rw [if_neg (by rw [hN]; simp)]
        have HV := Lib.hid ((HDL.out).symm.trans hv)
        clear hv
        go_wp2
        go_meet
        case rel =>
          have e := HV.out
          simp only [Prod.mk.injEq] at e
          obtain ⟨rfl, rfl, rfl⟩ := e
          exact ⟨rfl, _, H1.out⟩
      · have C5 := H1.out.num ORD.out hg HIN.out 7 (by decide)
        have hb5 := HLE.out k0 hk0 e1 7 (by decide)
        have hv : dL lb = decNodes lb (rnum lb k0 e1 7).1.toNat (rnum lb k0 e1 7).2.1 (rnum lb k0 e1 7).2.2 := by
          unfold dL
          rw [HDK.out]
          simp only
          rw [if_pos hN]
        obtain ⟨⟨cnt, k5, e5⟩, hr5⟩ : ∃ r, rnum lb k0 e1 7 = r := ⟨_, rfl⟩
        rw [hr5] at C5 hb5 hv
        simp only at C5 hb5 hv
        obtain ⟨cn, rfl⟩ := Int.eq_ofNat_of_zero_le hb5.1
        rw [Int.toNat_natCast, HDL.out] at hv
        have HV := Lib.hid hv
        have C5 := Lib.hid C5
        have hcn : cn ≤ 7 := by omega
        clear hv hr5 hb5
        go_wp2_with fail
        refine C5.out.mono ?_
        rintro x w5 ⟨rfl, h5⟩
        have H5 := Lib.hid h5
        clear h5 d0 d1 d2 d3 d4 C5
        go_wp2_with fail
        go_loopw [35] (fun i wr => ∃ (j : Nat) (sl : Value) (Lj : List Int) (kj : Nat) (ej : Int), i = .int .u64 (j : Int) ∧ j ≤ cn ∧ Lj.length = j ∧ ST w g gr gc gw B A c lb wr kind 0 0 sl Lj 0 0 0 0 kj ej ∧ (L, k2, e2) = (Lj ++ (decNodes lb (cn - j) kj ej).1, (decNodes lb (cn - j) kj ej).2)) (fun i _ => cn - (intOf i).toNat)
        case atStart => exact ⟨0, _, [], k5, e5, rfl, by omega, rfl, H5.out, by rw [HV.out]; simp⟩
        case round =>
          clear H5
          obtain ⟨j, sl, Lj, kj, ej, rfl, hj, hlj, hst, heq⟩ := hrel
          have HS := Lib.hid hst
          have HEQ := Lib.hid heq
          have HLJ := Lib.hid hlj
          clear hst heq hlj
          by_cases hlt : j < cn
          · have C7 := (HS.out.drew).num ORD.out hg HIN.out 65535 (by decide)
            have hb7 := HLE.out kj HS.out.le ej 65535 (by decide)
            have hd7 : decNodes lb (cn - j) kj ej = ((rnum lb kj ej 65535).1 :: (decNodes lb (cn - j - 1) (rnum lb kj ej 65535).2.1 (rnum lb kj ej 65535).2.2).1, (decNodes lb (cn - j - 1) (rnum lb kj ej 65535).2.1 (rnum lb kj ej 65535).2.2).2) := by
              obtain ⟨y, hy⟩ : ∃ y, cn - j = y + 1 := ⟨cn - j - 1, by omega⟩
              rw [hy]
              rfl
            obtain ⟨⟨v7, k7, e7⟩, hr7⟩ : ∃ r, rnum lb kj ej 65535 = r := ⟨_, rfl⟩
            rw [hr7] at C7 hb7 hd7
            simp only at C7 hb7 hd7
            have HD7 := Lib.hid hd7
            have C7 := Lib.hid C7
            have hv7 : 0 ≤ v7 ∧ v7 ≤ 65535 := by omega
            have wv : IntKind.i64.wrap v7 = v7 := by simp [IntKind.wrap_i64]; omega
            clear hr7 hb7 hd7
            obtain ⟨c0, c1, c2, c3, c4, c5, c6, c7⟩ := HS.out.cm.cmd
            clear c0 c1 c2 c4 c5 c6 c7
            go_wp2_with fail
            go_region_law (first
              | (refine step_litsI (W := w7) B rfl _ _ rfl _ Lj [v7] rfl rfl rfl H7.out.own H7.out.sz (by have := HLJ.out; simp; omega) ?_; intro v8 w8 ho8 hB8; have H8 := Lib.hid ho8; have HB8 := Lib.hid hB8; have o2 := ORD.out.h2; have o3 := ORD.out.h3; have o4 := ORD.out.h4; have b38 := H7.out.cm.below hB8 (by omega); have c38 := b38.cmd.c3; have f38 := b38.frozen 3; obtain ⟨A8, c8, rfl⟩ := own_slice ho8; clear b38 ho8 hB8 o2 o3 o4)
              | (go_simp; go_at_call 102; refine C7.out.mono ?_; rintro x w7 ⟨rfl, h7⟩; have H7 := Lib.hid h7; have c37 := h7.cm.cmd.c3; have hl7 := h7.cm.lt; have c39 : ∀ o, (w7.alloc o).cell? ⟨gc, 3, none⟩ = some sl := fun o => (World.cell?_alloc_lt w7 o ⟨gc, 3, none⟩ hl7).trans c37; clear h7))
            all_goals
              go_wp2
              go_roundw
              case rel => exact ⟨j + 1, _, Lj ++ [v7], k7, e7, by go_num, by omega, by have := HLJ.out; simp; omega, H7.out.app ORD.out HB8.out (by have := H8.out; rw [List.length_append] at this; exact this), by rw [HEQ.out, HD7.out, show cn - (j + 1) = cn - j - 1 by omega]; simp⟩
              case measure => simp [intOf]; omega
          · obtain rfl : j = cn := by omega
            have hfin := HEQ.out
            rw [Nat.sub_self] at hfin
            simp only [decNodes, List.append_nil, Prod.mk.injEq] at hfin
            obtain ⟨rfl, rfl, rfl⟩ := hfin
            go_wp2
            go_meet
            case rel => exact ⟨rfl, _, HS.out⟩
    case rest =>
      clear d0 d1 d2 d3 d4 H1
      obtain ⟨rfl, sl, h1⟩ := hcut
      have H2 := Lib.hid h1
      clear h1
      obtain ⟨⟨vn, kn, en⟩, hdn⟩ : ∃ r, dn lb = r := ⟨_, rfl⟩
      have hfn : (vn, kn, en) = fnum (kR kind) lb (k2, e2) 65535 := by
        rw [← hdn]
        unfold dn
        rw [HDK.out, HDL.out]
      have HDn := Lib.hid hdn
      have HFn := Lib.hid hfn
      clear hdn hfn
      obtain ⟨⟨vb, kb, eb⟩, hdb⟩ : ∃ r, db lb = r := ⟨_, rfl⟩
      have hfb : (vb, kb, eb) = fnum (kR kind) lb (kn, en) 18446744073709551615 := by
        rw [← hdb]
        unfold db
        rw [HDK.out, HDn.out]
      have HDb := Lib.hid hdb
      have HFb := Lib.hid hfb
      clear hdb hfb
      obtain ⟨⟨vq, kq, eq⟩, hdq⟩ : ∃ r, dq lb = r := ⟨_, rfl⟩
      have hfq : (vq, kq, eq) = fnum (kR kind) lb (kb, eb) 18446744073709551615 := by
        rw [← hdq]
        unfold dq
        rw [HDK.out, HDb.out]
      have HDq := Lib.hid hdq
      have HFq := Lib.hid hfq
      clear hdq hfq
      obtain ⟨d0, d1, d2, d3, d4⟩ := H2.out.wh.which
      go_upto_if 47 with (fail)
      go_cut [7] (fun x wx => x = .pointer (some ⟨gw, 0, none⟩) ∧ ST w g gr gc gw B A c lb wx kind vn 0 sl L vb vq 0 0 kq eq)
      case first =>
        cases hR : kR kind
        · skip
          have gn := HFn.out
          rw [hR] at gn
          simp only [fnum, if_neg (by simp : ¬ (false = true)), Prod.mk.injEq] at gn
          obtain ⟨rfl, rfl, rfl⟩ := gn
          have gb := HFb.out
          rw [hR] at gb
          simp only [fnum, if_neg (by simp : ¬ (false = true)), Prod.mk.injEq] at gb
          obtain ⟨rfl, rfl, rfl⟩ := gb
          have gq := HFq.out
          rw [hR] at gq
          simp only [fnum, if_neg (by simp : ¬ (false = true)), Prod.mk.injEq] at gq
          obtain ⟨rfl, rfl, rfl⟩ := gq
          go_wp2
          go_meet
          case rel => exact ⟨rfl, H2.out⟩
        · skip
          have gn := HFn.out
          rw [hR] at gn
          simp only [fnum, if_pos] at gn
          have Cn := (H2.out).num ORD.out hg HIN.out 65535 (by decide)
          have hbn := HLE.out k2 (H2.out).le e2 65535 (by decide)
          rw [← gn] at Cn hbn
          simp only at Cn hbn
          have wn : IntKind.i64.wrap vn = vn := by simp [IntKind.wrap_i64]; omega
          have Cn := Lib.hid Cn
          clear gn hbn
          go_wp2_with fail
          refine Cn.out.mono ?_
          rintro x w20 ⟨rfl, hn⟩
          have Hn := Lib.hid hn
          have ccn := hn.cm.cmd.c1
          have ffn := hn.cm.frozen 1
          clear hn
          clear d0 d1 d2 d3 d4
          have gb := HFb.out
          rw [hR] at gb
          simp only [fnum, if_pos] at gb
          have Cb := ((Hn.out.set1 ORD.out vn)).num ORD.out hg HIN.out 18446744073709551615 (by decide)
          have hbb := HLE.out kn ((Hn.out.set1 ORD.out vn)).le en 18446744073709551615 (by decide)
          rw [← gb] at Cb hbb
          simp only at Cb hbb
          have Cb := Lib.hid Cb
          clear gb hbb
          go_wp2_with fail
          refine Cb.out.mono ?_
          rintro x w21 ⟨rfl, hb⟩
          have Hb := Lib.hid hb
          have ccb := hb.cm.cmd.c4
          have ffb := hb.cm.frozen 4
          clear hb
          have gq := HFq.out
          rw [hR] at gq
          simp only [fnum, if_pos] at gq
          have Cq := ((Hb.out.set4 ORD.out vb)).num ORD.out hg HIN.out 18446744073709551615 (by decide)
          have hbq := HLE.out kb ((Hb.out.set4 ORD.out vb)).le eb 18446744073709551615 (by decide)
          rw [← gq] at Cq hbq
          simp only at Cq hbq
          have Cq := Lib.hid Cq
          clear gq hbq
          go_wp2_with fail
          refine Cq.out.mono ?_
          rintro x w22 ⟨rfl, hq⟩
          have Hq := Lib.hid hq
          have ccq := hq.cm.cmd.c5
          have ffq := hq.cm.frozen 5
          clear hq
          go_wp2
          go_meet
          case rel => exact ⟨rfl, (Hq.out.set5 ORD.out vq)⟩
      case rest =>
        clear d0 d1 d2 d3 d4 H2
        obtain ⟨rfl, h1⟩ := hcut
        have H3 := Lib.hid h1
        clear h1
        obtain ⟨⟨vt, kt, et⟩, hdt⟩ : ∃ r, dt lb = r := ⟨_, rfl⟩
        have hft : (vt, kt, et) = fnum (kT kind) lb (kq, eq) 65535 := by
          rw [← hdt]
          unfold dt
          rw [HDK.out, HDq.out]
        have HDt := Lib.hid hdt
        have HFt := Lib.hid hft
        clear hdt hft
        obtain ⟨⟨vs, ks, es⟩, hds⟩ : ∃ r, ds lb = r := ⟨_, rfl⟩
        have hfs : (vs, ks, es) = fnum (kT kind) lb (kt, et) 18446744073709551615 := by
          rw [← hds]
          unfold ds
          rw [HDK.out, HDt.out]
        have HDs := Lib.hid hds
        have HFs := Lib.hid hfs
        clear hds hfs
        obtain ⟨d0, d1, d2, d3, d4⟩ := H3.out.wh.which
        go_upto_if 59 with (fail)
        go_cut [7] (fun x wx => x = .pointer (some ⟨gw, 0, none⟩) ∧ ST w g gr gc gw B A c lb wx kind vn vt sl L vb vq vs 0 ks es)
        case first =>
          cases hR : kT kind
          · skip
            have gt := HFt.out
            rw [hR] at gt
            simp only [fnum, if_neg (by simp : ¬ (false = true)), Prod.mk.injEq] at gt
            obtain ⟨rfl, rfl, rfl⟩ := gt
            have gs := HFs.out
            rw [hR] at gs
            simp only [fnum, if_neg (by simp : ¬ (false = true)), Prod.mk.injEq] at gs
            obtain ⟨rfl, rfl, rfl⟩ := gs
            go_wp2
            go_meet
            case rel => exact ⟨rfl, H3.out⟩
          · skip
            have gt := HFt.out
            rw [hR] at gt
            simp only [fnum, if_pos] at gt
            have Ct := (H3.out).num ORD.out hg HIN.out 65535 (by decide)
            have hbt := HLE.out kq (H3.out).le eq 65535 (by decide)
            rw [← gt] at Ct hbt
            simp only at Ct hbt
            have wt : IntKind.i64.wrap vt = vt := by simp [IntKind.wrap_i64]; omega
            have Ct := Lib.hid Ct
            clear gt hbt
            go_wp2_with fail
            refine Ct.out.mono ?_
            rintro x w20 ⟨rfl, ht⟩
            have Ht := Lib.hid ht
            have cct := ht.cm.cmd.c2
            have fft := ht.cm.frozen 2
            clear ht
            clear d0 d1 d2 d3 d4
            have gs := HFs.out
            rw [hR] at gs
            simp only [fnum, if_pos] at gs
            have Cs := ((Ht.out.set2 ORD.out vt)).num ORD.out hg HIN.out 18446744073709551615 (by decide)
            have hbs := HLE.out kt ((Ht.out.set2 ORD.out vt)).le et 18446744073709551615 (by decide)
            rw [← gs] at Cs hbs
            simp only at Cs hbs
            have Cs := Lib.hid Cs
            clear gs hbs
            go_wp2_with fail
            refine Cs.out.mono ?_
            rintro x w21 ⟨rfl, hs⟩
            have Hs := Lib.hid hs
            have ccs := hs.cm.cmd.c6
            have ffs := hs.cm.frozen 6
            clear hs
            go_wp2
            go_meet
            case rel => exact ⟨rfl, (Hs.out.set6 ORD.out vs)⟩
        case rest =>
          clear d0 d1 d2 d3 d4 H3
          obtain ⟨rfl, h1⟩ := hcut
          have H4 := Lib.hid h1
          clear h1
          obtain ⟨⟨vm, km, em⟩, hdm⟩ : ∃ r, dm lb = r := ⟨_, rfl⟩
          have hfm : (vm, km, em) = fnum (kS kind) lb (ks, es) 18446744073709551615 := by
            rw [← hdm]
            unfold dm
            rw [HDK.out, HDs.out]
          have HDm := Lib.hid hdm
          have HFm := Lib.hid hfm
          clear hdm hfm
          obtain ⟨d0, d1, d2, d3, d4⟩ := H4.out.wh.which
          go_upto_if 68 with (fail)
          go_cut [7] (fun x wx => x = .pointer (some ⟨gw, 0, none⟩) ∧ ST w g gr gc gw B A c lb wx kind vn vt sl L vb vq vs vm km em)
          case first =>
            cases hR : kS kind
            · skip
              have gm := HFm.out
              rw [hR] at gm
              simp only [fnum, if_neg (by simp : ¬ (false = true)), Prod.mk.injEq] at gm
              obtain ⟨rfl, rfl, rfl⟩ := gm
              go_wp2
              go_meet
              case rel => exact ⟨rfl, H4.out⟩
            · skip
              have gm := HFm.out
              rw [hR] at gm
              simp only [fnum, if_pos] at gm
              have Cm := (H4.out).num ORD.out hg HIN.out 18446744073709551615 (by decide)
              have hbm := HLE.out ks (H4.out).le es 18446744073709551615 (by decide)
              rw [← gm] at Cm hbm
              simp only at Cm hbm
              have Cm := Lib.hid Cm
              clear gm hbm
              go_wp2_with fail
              refine Cm.out.mono ?_
              rintro x w20 ⟨rfl, hm⟩
              have Hm := Lib.hid hm
              have ccm := hm.cm.cmd.c7
              have ffm := hm.cm.frozen 7
              clear hm
              clear d0 d1 d2 d3 d4
              go_wp2
              go_meet
              case rel => exact ⟨rfl, (Hm.out.set7 ORD.out vm)⟩
          case rest =>
            clear d0 d1 d2 d3 d4 H4
            obtain ⟨rfl, h1⟩ := hcut
            have H5 := Lib.hid h1
            clear h1
            have hll : L.length ≤ 7 ∧ ∀ z ∈ L, 0 ≤ z ∧ z ≤ 65535 := by
              have e := HDL.out
              unfold dL at e
              rw [HDK.out] at e
              simp only at e
              split at e
              · have hb := HLE.out k0 hk0 e1 7 (by decide)
                obtain ⟨n1, n2, n3⟩ := HDN.out (rnum lb k0 e1 7).1.toNat (rnum lb k0 e1 7).2.1 (rnum lb k0 e1 7).2.2 hb.2.2.1
                rw [e] at n1 n2
                exact ⟨by simp only at n1; omega, n2⟩
              · simp only [Prod.mk.injEq] at e
                rw [← e.1]
                exact ⟨by simp, fun z hz => by cases hz⟩
            have hl7 := hll.1
            have HLZ := Lib.hid hll.2
            obtain ⟨A9, c9, rfl, hin9⟩ := InN.own (k := .i64) H5.out.own (fun z hz => wf_i64_of (by have := hll.2 z hz; omega) (by have := hll.2 z hz; omega)) (by omega)
            have HI9 := Lib.hid hin9
            clear hin9 hll
            obtain ⟨E, hEE⟩ : ∃ E, dE lb = E := ⟨_, rfl⟩
            have HDE : Hid (E = if em = 0 then errCmd (codeOk kind vn vt L vb vq vs vm) else em) := by
              show _ = _
              rw [← hEE]
              unfold dE
              rw [HDm.out, HDK.out, HDn.out, HDt.out, HDL.out, HDb.out, HDq.out, HDs.out]
            have HDEE := Lib.hid hEE
            clear hEE
            obtain ⟨r0, r1, r2⟩ := H5.out.rd.rdAt
            obtain ⟨c0, c1, c2, c3, c4, c5, c6, c7⟩ := H5.out.cm.cmd
            have CC := Lib.hid (cmd_Check_any _ kind vn vt A9 c9 L vb vq vs vm HI9.out)
            go_upto_if 76 with (fail)
            go_cut [7] (fun x wx => x = .pointer (some ⟨gw, 0, none⟩) ∧ ST w g gr gc gw B A c lb wx kind vn vt (.slice A9 L.length c9) L vb vq vs vm km E)
            case first =>
              cases hE0 : (em == 0)
              · have HV : Hid (E = em) := by
                  show _ = _
                  rw [HDE.out, if_neg]
                  intro hh
                  rw [hh] at hE0
                  simp at hE0
                go_wp2
                go_meet
                case rel => exact ⟨rfl, by rw [HV.out]; exact H5.out⟩
              · have HV : Hid (E = errCmd (codeOk kind vn vt L vb vq vs vm)) := by
                  show _ = _
                  rw [HDE.out, if_pos (by simpa using hE0)]
                go_wp2_with fail
                refine CC.out.mono ?_
                rintro x w30 ⟨rfl, hB30⟩
                have H30 := Lib.hid (H5.out.below ORD.out hB30)
                clear r0 r1 r2 c0 c1 c2 c3 c4 c5 c6 c7 hB30
                obtain ⟨r0, r1, r2⟩ := H30.out.rd.rdAt
                have fr := H30.out.rd.frozen 2
                go_wp2
                go_meet
                case rel => exact ⟨rfl, by rw [HV.out]; exact H30.out.err ORD.out _⟩
            case rest =>
              clear r0 r1 r2 c0 c1 c2 c3 c4 c5 c6 c7 H5 CC HDE HI9
              obtain ⟨rfl, h1⟩ := hcut
              have H6 := Lib.hid h1
              clear h1
              have hin6 := InN.own (k := .i64) H6.out.own (fun z hz => wf_i64_of (by have := HLZ.out z hz; omega) (by have := HLZ.out z hz; omega)) (by omega)
              have HI6 : Hid (InN .i64 wc A9 c9 L) := by
                obtain ⟨A8, c8, e8, h8⟩ := hin6
                injection e8 with e8a _ e8c
                subst e8a e8c
                exact h8
              have HFAR : Hid (∀ (W : World) (i : Nat) (u : Value), InN .i64 W A9 c9 L → InN .i64 (W.setCell ⟨g, i, none⟩ u) A9 c9 L) := fun W i u hW => InN.far (n := L.length) hW (fun bb hbb => by
                have h1 := (World.ownsRow.lt H6.out.own bb hbb).1
                have o1 := ORD.out.h1
                have o2 := ORD.out.h2
                have o3 := ORD.out.h3
                have o4 := ORD.out.h4
                show g ≠ bb
                omega) u
              have hset : ∀ (i : Nat) (W : World) (u : Value), Below g w W → Below g w (W.setCell ⟨g, i, none⟩ u) := fun i W u hW => hW.setCell (p := ⟨g, i, none⟩) (Nat.le_refl _) u
              have HSET := Lib.hid hset
              clear hset hin6
              obtain ⟨r0, r1, r2⟩ := H6.out.rd.rdAt
              obtain ⟨c0, c1, c2, c3, c4, c5, c6, c7⟩ := H6.out.cm.cmd
              obtain ⟨z0, z1, z2, z3, z4, z5, z6, z7⟩ := H6.out.res.cmd
              have y0 := H6.out.res.frozen 0
              have y1 := H6.out.res.frozen 1
              have y2 := H6.out.res.frozen 2
              have y3 := H6.out.res.frozen 3
              have y4 := H6.out.res.frozen 4
              have y5 := H6.out.res.frozen 5
              have y6 := H6.out.res.frozen 6
              have y7 := H6.out.res.frozen 7
              have o1 := ORD.out.h1
              have o2 := ORD.out.h2
              have hn1 : gr ≠ g := by omega
              have hn2 : gc ≠ g := by omega
              have hn3 : g ≠ gr := by omega
              have hn4 : g ≠ gc := by omega
              clear o1 o2
              cases hEE : (E != 0)
              · have E0 : E = 0 := by simpa using hEE
                subst E0
                go_wp2_with fail
                go_region_held3 (fun w' => w'.cell? ⟨gc, 0, none⟩ = some (.int .i64 kind) ∧ w'.cell? ⟨gc, 1, none⟩ = some (.int .i64 vn) ∧ w'.cell? ⟨gc, 2, none⟩ = some (.int .i64 vt) ∧ w'.cell? ⟨gc, 3, none⟩ = some (.slice A9 L.length c9) ∧ w'.cell? ⟨gc, 4, none⟩ = some (.int .u64 vb) ∧ w'.cell? ⟨gc, 5, none⟩ = some (.int .u64 vq) ∧ w'.cell? ⟨gc, 6, none⟩ = some (.int .u64 vs) ∧ w'.cell? ⟨gc, 7, none⟩ = some (.int .u64 vm) ∧ w'.cell? ⟨gr, 1, none⟩ = some (.int .i64 (km : Int))) (go_keep) (fail)
                all_goals go_wp2
                have hrF := (Blk.set8 H6.out.res (.int .i64 kind) (.int .i64 vn) (.int .i64 vt) (.slice A9 L.length c9) (.int .u64 vb) (.int .u64 vq) (.int .u64 vs) (.int .u64 vm)).drew
                refine bodyPost_ret (results_cell3 rfl rfl (run_loadVar_row _ _ _ _ _ (0, 0) _ hrF Try.underlying44 rfl info_Cmd)) rfl ?_
                refine ⟨(HSET.out _ _ _ (HSET.out _ _ _ (HSET.out _ _ _ (HSET.out _ _ _ (HSET.out _ _ _ (HSET.out _ _ _ (HSET.out _ _ _ (HSET.out _ _ _ (H6.out.bel))))))))).drew, .inl ⟨HDEE.out, A9, c9, ?_, ?_, ?_⟩⟩
                · rw [HDK.out, HDn.out, HDt.out, HDL.out, HDb.out, HDq.out, HDs.out, HDm.out]
                  rfl
                · rw [HDL.out]
                  exact (HFAR.out _ _ _ (HFAR.out _ _ _ (HFAR.out _ _ _ (HFAR.out _ _ _ (HFAR.out _ _ _ (HFAR.out _ _ _ (HFAR.out _ _ _ (HFAR.out _ _ _ (HI6.out))))))))).keep (Below.refl _ _).drew
                · rw [HDL.out]
                  intro b hb
                  have q1 := (World.ownsRow.lt H6.out.own b hb).1
                  have q2 := ORD.out.h1
                  have q3 := ORD.out.h2
                  have q4 := ORD.out.h3
                  have q5 := ORD.out.h4
                  omega
              · go_wp2_with fail
                go_region_held3 (fun w' => w'.cell? ⟨gr, 2, none⟩ = some (.int .i64 E)) (go_keep) (fail)
                all_goals go_wp2
                have hrF := (Blk.set8 H6.out.res (.int .i64 0) (.int .i64 0) (.int .i64 0) (.slice none 0 0) (.int .u64 0) (.int .u64 0) (.int .u64 0) (.int .u64 0)).drew
                refine bodyPost_ret (results_cell3 rfl rfl (run_loadVar_row _ _ _ _ _ (0, 0) _ hrF Try.underlying44 rfl info_Cmd)) rfl ?_
                refine ⟨(HSET.out _ _ _ (HSET.out _ _ _ (HSET.out _ _ _ (HSET.out _ _ _ (HSET.out _ _ _ (HSET.out _ _ _ (HSET.out _ _ _ (HSET.out _ _ _ (H6.out.bel))))))))).drew, .inr ⟨?_, ?_⟩⟩
                · rw [HDEE.out]
                  simpa using hEE
                · rw [HDEE.out]
                  rfl
theorem cmd_Decode_walk (w : World) (A : Option Addr) (c : Nat) (lb : List Int) (h : In8 w A c lb) :
    Calls Try.prog 89 #[.slice A lb.length c] w fun x w' => Below w.heap.size w w' ∧
      ((dE lb = 0 ∧ ∃ A' c', x = .returned (.tuple #[cmdV (dK lb).1 (dn lb).1 (dt lb).1 (.slice A' (dL lb).1.length c') (db lb).1 (dq lb).1 (ds lb).1 (dm lb).1, .int .i64 ((dm lb).2.1 : Int), .int .i64 0]) ∧ InN .i64 w' A' c' (dL lb).1) ∨
       (dE lb ≠ 0 ∧ x = .returned (.tuple #[cmdV 0 0 0 (.slice none 0 0) 0 0 0 0, .int .i64 0, .int .i64 (dE lb)]))) :=
  (cmd_Decode_walk2 w A c lb h).mono fun _ _ ⟨hB, hx⟩ => ⟨hB, hx.elim (fun ⟨h0, A', c', h1, h2, _⟩ => .inl ⟨h0, A', c', h1, h2⟩) .inr⟩
end Go.Proofs.Ytadkkhbbempaaaa

/- Bytes that are read, cut behind. -/
namespace Go.Proofs.Ytadkkhbbempaaaa
set_option maxRecDepth 100000
open Go.RowKit

theorem In8.take {w : World} {A : Option Addr} {c : Nat} {l : List Int} (h : In8 w A c l) {N : Nat} (hN : N ≤ l.length) : In8 w A c (l.take N) := by
  refine ⟨?_, h.byt.take N, ?_, ?_⟩
  · have := h.reads.take hN
    rw [List.length_take, Nat.min_eq_left hN]
    simpa [u8s, List.map_take] using this
  · have := h.cap
    rw [List.length_take]
    omega
  · have := h.small
    rw [List.length_take]
    omega
end Go.Proofs.Ytadkkhbbempaaaa

/- Records read: the code's added. -/
namespace Go.Proofs.Ytadkkhbbempaaaa
set_option maxRecDepth 100000
open Go.RowKit

def rcA (ix tm : Int) : Rc := ⟨3, 0, 0, 0, ix, ⟨tm, 0, 0, 0, [], 0, 0, 0, 0⟩, sh0⟩
def enD (tm : Int) (lb : List Int) : En := ⟨tm, (dK lb).1, (dn lb).1, (dt lb).1, (dL lb).1, (db lb).1, (dq lb).1, (ds lb).1, (dm lb).1⟩
def rcE (ix : Int) (en : En) : Rc := ⟨3, 0, 0, 0, ix, en, sh0⟩
theorem cmdC_one (k n t : Int) (A : Option Addr) (m c : Nat) (b q s x : Int) : (cmdCells k n t (.slice A m c) b q s x).all (·.oneCell') = true := by simp [cmdCells, Value.oneCell']

set_option maxHeartbeats 8000000 in
theorem hadd_ok (w : World) (ix tm : Int) (A : Option Addr) (c : Nat) (lb : List Int) (h : In8 w A c lb) (h0 : dE lb = 0) (wf : (rcE ix (enD tm lb)).Wf) :
    Calls Try.prog 56 #[recV (rcA ix tm) ra0, .slice A lb.length c] w fun x w' => Below w.heap.size w w' ∧ (((dm lb).2.1 < lb.length ∧ x = .returned (.tuple #[recV rc0 ra0, .int .i64 11])) ∨
    (¬ (dm lb).2.1 < lb.length ∧ ¬ (rcE ix (enD tm lb)).May ∧ x = .returned (.tuple #[recV rc0 ra0, .int .i64 130])) ∨
    (¬ (dm lb).2.1 < lb.length ∧ (rcE ix (enD tm lb)).May ∧ ∃ A' c', x = .returned (.tuple #[recV (rcE ix (enD tm lb)) ⟨A', c', sa0⟩, .int .i64 0]) ∧ InR w' (rcE ix (enD tm lb)) ⟨A', c', sa0⟩ ∧ ∀ b, (Value.slice A' (rcE ix (enD tm lb)).en.l.length c').ownBlock = some b → w.heap.size ≤ b)) := by
  have CD := fun W (k : In8 W A c lb) => cmd_Decode_walk2 W A c lb k
  obtain ⟨en, hen⟩ : ∃ en, enD tm lb = en := ⟨_, rfl⟩
  rw [hen] at wf ⊢
  have e1 : (dK lb).1 = en.k := congrArg En.k hen
  have e2 : (dn lb).1 = en.n := congrArg En.n hen
  have e3 : (dt lb).1 = en.t := congrArg En.t hen
  have e4 : (dL lb).1 = en.l := congrArg En.l hen
  have e5 : (db lb).1 = en.b := congrArg En.b hen
  have e6 : (dq lb).1 = en.q := congrArg En.q hen
  have e7 : (ds lb).1 = en.s := congrArg En.s hen
  have e8 : (dm lb).1 = en.m := congrArg En.m hen
  have etm : tm = en.tm := congrArg En.tm hen
  obtain ⟨K, hK⟩ : ∃ K, (dm lb).2.1 = K := ⟨_, rfl⟩
  simp only [e1, e2, e3, e4, e5, e6, e7, e8, hK, h0] at CD
  rw [hK]
  have CD : ∀ W, In8 W A c lb → Calls Try.prog 89 #[.slice A lb.length c] W fun x w' => ∃ A' c', x = .returned (.tuple #[cmdV en.k en.n en.t (.slice A' en.l.length c') en.b en.q en.s en.m, .int .i64 (K : Int), .int .i64 0]) ∧ InN .i64 w' A' c' en.l ∧ (∀ b, (Value.slice A' en.l.length c').ownBlock = some b → W.heap.size ≤ b) ∧ Below W.heap.size W w' := fun W k => (CD W k).mono fun x w' ⟨hB, hx⟩ => by
    rcases hx with ⟨_, A', c', hx, hn, hf⟩ | ⟨hn, _⟩
    · exact ⟨A', c', hx, hn, hf, hB⟩
    · exact absurd rfl hn
  unfold cmdV at CD
  have ETM := Lib.hid etm
  clear e1 e2 e3 e4 e5 e6 e7 e8 hK h0 hen etm
  have HWF := Lib.hid wf
  clear wf
  obtain ⟨g, hg⟩ : ∃ g, w.heap.size = g := ⟨_, rfl⟩
  rw [hg]
  obtain ⟨gr, hgr⟩ : ∃ gr, g + 1 = gr := ⟨_, rfl⟩
  have hBx : Below g w ((w.alloc (.cells (recC (rcA ix tm) ra0) 48)).alloc (.cells (recC rc0 ra0) 48)) := ((Below.refl _ _).alloc (by omega) _).alloc (by simp; omega) _
  have hsz : (w.alloc (.cells (recC (rcA ix tm) ra0) 48)).heap.size = gr := by simp [hg, hgr]
  have hb1 : Blk ((w.alloc (.cells (recC (rcA ix tm) ra0) 48)).alloc (.cells (recC rc0 ra0) 48)) g 48 (recC (rcA ix tm) ra0) := (hg ▸ Blk.new w 48 (recC (rcA ix tm) ra0) : Blk (w.alloc (.cells (recC (rcA ix tm) ra0) 48)) g 48 (recC (rcA ix tm) ra0)).alloc _
  have hr1 : Blk ((w.alloc (.cells (recC (rcA ix tm) ra0) 48)).alloc (.cells (recC rc0 ra0) 48)) gr 48 (recC rc0 ra0) := hsz ▸ Blk.new _ _ _
  have X := Lib.hid (CD _ (h.keep (hg ▸ hBx)))
  have hi1 := h.keep (hg ▸ hBx)
  have hlen : lb.length ≤ c := h.cap
  clear hsz h
  unfold recV
  go_enter Try.func56, Try.ntmps56
  go_upto_region 1 with (fail)
  change Code.wp _ _ _ _ ((w.alloc (.cells (recC (rcA ix tm) ra0) 48)).alloc (.cells (recC rc0 ra0) 48))
  generalize ((w.alloc (.cells (recC (rcA ix tm) ra0) 48)).alloc (.cells (recC rc0 ra0) 48)) = W at hb1 hr1 hBx X hi1 ⊢
  try rw [hgr]
  have hnr : gr ≠ g := by omega
  go_wp2_with fail
  refine X.out.mono ?_
  rintro x w1 ⟨A', c', rfl, hin1, hown1, hB1⟩
  have hwl : gr < W.heap.size := hr1.lt
  have hb2 := hb1.below hB1 hb1.lt
  have hr2 := hr1.below hB1 hr1.lt
  have hB2 := hBx.trans (hB1.mono (Nat.le_of_lt hb1.lt))
  have hi2 := hi1.keep hB1
  obtain ⟨gc, hgc⟩ : ∃ gc, w1.heap.size = gc := ⟨_, rfl⟩
  have hlt2 : g < gc := hgc ▸ hb2.lt
  have hc3 : Blk (w1.alloc (.cells (cmdCells en.k en.n en.t (.slice A' en.l.length c') en.b en.q en.s en.m) 44)) gc 44 (cmdCells en.k en.n en.t (.slice A' en.l.length c') en.b en.q en.s en.m) := hgc ▸ Blk.new _ _ _
  have hb3 : Blk (w1.alloc (.cells (cmdCells en.k en.n en.t (.slice A' en.l.length c') en.b en.q en.s en.m) 44)) g 48 (recC (rcA ix tm) ra0).toList.toArray := hb2.alloc _
  have hr3 := hr2.alloc (.cells (cmdCells en.k en.n en.t (.slice A' en.l.length c') en.b en.q en.s en.m) 44)
  have hB3 := hB2.alloc (by omega) (.cells (cmdCells en.k en.n en.t (.slice A' en.l.length c') en.b en.q en.s en.m) 44)
  have hi3 := hi2.keep ((Below.refl w1.heap.size w1).alloc (Nat.le_refl _) (.cells (cmdCells en.k en.n en.t (.slice A' en.l.length c') en.b en.q en.s en.m) 44))
  have hn3 := hin1.keep ((Below.refl w1.heap.size w1).alloc (Nat.le_refl _) (.cells (cmdCells en.k en.n en.t (.slice A' en.l.length c') en.b en.q en.s en.m) 44))
  clear hb1 hr1 hBx hB1 X hb2 hr2 hB2 hi1 hi2
  go_upto_region 2 with (fail)
  change Code.wp _ _ _ _ (w1.alloc (.cells (cmdCells en.k en.n en.t (.slice A' en.l.length c') en.b en.q en.s en.m) 44))
  generalize (w1.alloc (.cells (cmdCells en.k en.n en.t (.slice A' en.l.length c') en.b en.q en.s en.m) 44)) = W3 at hc3 hb3 hr3 hB3 hi3 hn3 ⊢
  try rw [hgc]
  clear hgc
  by_cases hK : K < lb.length
  · have d1 : decide ((K : Int) < (lb.length : Int)) = true := decide_eq_true (by omega)
    clear hn3 hi3
    go_upto_region 13 with (first | (refine wpList_load_row rfl 44 _ rfl gc rfl 44 (cmdCells en.k en.n en.t (.slice A' en.l.length c') en.b en.q en.s en.m) hc3 _ Try.underlying44 rfl info_Cmd ?_) | (refine wpList_store_mid rfl 44 _ _ rfl g 6 (cmdCells en.k en.n en.t (.slice A' en.l.length c') en.b en.q en.s en.m) rfl rfl (hb3.there 6 8 (Nat.le_of_ble_eq_true rfl)) info_Cmd (cmdC_one _ _ _ _ _ _ _ _ _ _) ?_))
    have hr4 := hr3.midFar hnr (cmdCells en.k en.n en.t (.slice A' en.l.length c') en.b en.q en.s en.m).toList 6
    have hb4 := hb3.mid (cmdCells en.k en.n en.t (.slice A' en.l.length c') en.b en.q en.s en.m).toList 6
    have hB4 := mid_below hB3 (Nat.le_refl g) (cmdCells en.k en.n en.t (.slice A' en.l.length c') en.b en.q en.s en.m).toList 6
    clear hb4
    generalize (W3.setCells g 6 (cmdCells en.k en.n en.t (.slice A' en.l.length c') en.b en.q en.s en.m).toList) = W4 at hr4 hB4 ⊢
    go_wp2_with (refine wpList_store_row rfl 48 _ _ rfl gr (recC rc0 ra0) rfl rfl 48 (recC rc0 ra0) hr4 info_Rec rfl (recC_one _ _) ?_)
    (try simp only [Exit.inBlock, Exit.then])
    refine bodyPost_ret (results_cell rfl rfl (run_loadVar_row _ gr 48 48 _ (0, 0) _ (Blk.row (cs := recC rc0 ra0) hr4) Try.underlying48 rfl info_Rec)) rfl ?_
    exact ⟨row_below hB4 (by omega) _, .inl ⟨hK, rfl⟩⟩
  have d1 : decide ((K : Int) < (lb.length : Int)) = false := decide_eq_false (by omega)
  have hn4 : InN .i64 (W3.setCells g 6 (cmdCells en.k en.n en.t (.slice A' en.l.length c') en.b en.q en.s en.m).toList) A' c' en.l := hn3.grown (mid_grown g _ 6) (fun b off e hh => by
    subst e
    injection hh with hh
    have := hown1 b rfl
    omega)
  clear hn3 hi3
  go_upto_region 13 with (first | (refine wpList_load_row rfl 44 _ rfl gc rfl 44 (cmdCells en.k en.n en.t (.slice A' en.l.length c') en.b en.q en.s en.m) hc3 _ Try.underlying44 rfl info_Cmd ?_) | (refine wpList_store_mid rfl 44 _ _ rfl g 6 (cmdCells en.k en.n en.t (.slice A' en.l.length c') en.b en.q en.s en.m) rfl rfl (hb3.there 6 8 (Nat.le_of_ble_eq_true rfl)) info_Cmd (cmdC_one _ _ _ _ _ _ _ _ _ _) ?_))
  have hr4 := hr3.midFar hnr (cmdCells en.k en.n en.t (.slice A' en.l.length c') en.b en.q en.s en.m).toList 6
  have hb4 := hb3.mid (cmdCells en.k en.n en.t (.slice A' en.l.length c') en.b en.q en.s en.m).toList 6
  have hB4 := mid_below hB3 (Nat.le_refl g) (cmdCells en.k en.n en.t (.slice A' en.l.length c') en.b en.q en.s en.m).toList 6
  generalize (W3.setCells g 6 (cmdCells en.k en.n en.t (.slice A' en.l.length c') en.b en.q en.s en.m).toList) = W4 at hr4 hb4 hB4 hn4 ⊢
  have hq : Blk W4 g 48 (recC (rcE ix en) ⟨A', c', sa0⟩) := by rw [ETM.out] at hb4; exact hb4
  have HI : Hid (InR W4 (rcE ix en) ⟨A', c', sa0⟩) := ⟨hn4, InSh.zero W4⟩
  have CM := hard_may_any W4 (rcE ix en) ⟨A', c', sa0⟩ HI.out HWF.out
  have HB4 := Lib.hid hB4
  have hgl4 := hq.lt
  clear hn4 hb4 hB4 hb3 hr3 hc3
  by_cases m : (rcE ix en).May
  · rw [decide_eq_true m] at CM
    unfold recV at CM
    have CM := Lib.hid CM
    go_wp2_with (refine wpList_load_want rfl 48 _ rfl g rfl 48 (recC (rcE ix en) ⟨A', c', sa0⟩) hq _ Try.underlying48 rfl info_Rec ?_)
    refine CM.out.mono ?_
    rintro x w5 ⟨rfl, hB5⟩
    have hq5 := hq.below hB5 hgl4
    have hr5 := hr4.below hB5 hr4.lt
    have HB5 := Lib.hid (HB4.out.trans (hB5.mono (Nat.le_of_lt hgl4)))
    have HI5 := Lib.hid (HI.out.keep hB5)
    clear hq hr4 HB4 HI hB5
    go_wp2_with (first | (refine wpList_load_row rfl 48 _ rfl g rfl 48 (recC (rcE ix en) ⟨A', c', sa0⟩) hq5 _ Try.underlying48 rfl info_Rec ?_) | refine wpList_store_row rfl 48 _ _ rfl gr (recC (rcE ix en) ⟨A', c', sa0⟩) rfl rfl 48 (recC rc0 ra0) hr5 info_Rec rfl (recC_one _ _) ?_)
    (try simp only [Exit.inBlock, Exit.then])
    refine bodyPost_ret (results_cell rfl rfl (run_loadVar_row _ gr 48 48 _ (0, 0) _ (Blk.row (cs := recC (rcE ix en) ⟨A', c', sa0⟩) hr5) Try.underlying48 rfl info_Rec)) rfl ?_
    exact ⟨row_below HB5.out (by omega) _, .inr (.inr ⟨hK, m, A', c', rfl, ⟨HI5.out.l.grown (row_grown gr _) (fun b off e hh => by
          subst e
          injection hh with hh
          have := hown1 b rfl
          omega), InSh.zero _⟩, fun b hb => by have := hown1 b hb; omega⟩)⟩
  · rw [decide_eq_false m] at CM
    unfold recV at CM
    have CM := Lib.hid CM
    go_wp2_with (refine wpList_load_want rfl 48 _ rfl g rfl 48 (recC (rcE ix en) ⟨A', c', sa0⟩) hq _ Try.underlying48 rfl info_Rec ?_)
    refine CM.out.mono ?_
    rintro x w5 ⟨rfl, hB5⟩
    have hr5 := hr4.below hB5 hr4.lt
    have HB5 := Lib.hid (HB4.out.trans (hB5.mono (Nat.le_of_lt hgl4)))
    clear hq hr4 HB4 HI hB5
    go_wp2_with (refine wpList_store_row rfl 48 _ _ rfl gr (recC rc0 ra0) rfl rfl 48 (recC rc0 ra0) hr5 info_Rec rfl (recC_one _ _) ?_)
    (try simp only [Exit.inBlock, Exit.then])
    refine bodyPost_ret (results_cell rfl rfl (run_loadVar_row _ gr 48 48 _ (0, 0) _ (Blk.row (cs := recC rc0 ra0) hr5) Try.underlying48 rfl info_Rec)) rfl ?_
    exact ⟨row_below HB5.out (by omega) _, .inr (.inl ⟨hK, m, rfl⟩)⟩

set_option maxHeartbeats 8000000 in
theorem hadd_err (w : World) (ix tm : Int) (A : Option Addr) (c : Nat) (lb : List Int) (h : In8 w A c lb) (h0 : dE lb ≠ 0) (h4 : dE lb ≠ 40) :
    Calls Try.prog 56 #[recV (rcA ix tm) ra0, .slice A lb.length c] w fun x w' => Below w.heap.size w w' ∧ x = .returned (.tuple #[recV rc0 ra0, .int .i64 (dE lb)]) := by
  have CD := fun W (k : In8 W A c lb) => cmd_Decode_walk W A c lb k
  obtain ⟨E, hE⟩ : ∃ E, dE lb = E := ⟨_, rfl⟩
  rw [hE] at h0 h4 ⊢
  have q0 : (E == 0) = false := beq_eq_false_iff_ne.2 h0
  have q4 : (E == 40) = false := beq_eq_false_iff_ne.2 h4
  have qn : (E != 0) = true := bne_iff_ne.2 h0
  simp only [hE] at CD
  have CD : ∀ W, In8 W A c lb → Calls Try.prog 89 #[.slice A lb.length c] W fun x w' => x = .returned (.tuple #[cmdV 0 0 0 (.slice none 0 0) 0 0 0 0, .int .i64 0, .int .i64 E]) ∧ Below W.heap.size W w' := fun W k => (CD W k).mono fun x w' ⟨hB, hx⟩ => by
    rcases hx with ⟨hn, _⟩ | ⟨_, hx⟩
    · exact absurd hn h0
    · exact ⟨hx, hB⟩
  unfold cmdV at CD
  clear hE h0 h4
  obtain ⟨g, hg⟩ : ∃ g, w.heap.size = g := ⟨_, rfl⟩
  rw [hg]
  obtain ⟨gr, hgr⟩ : ∃ gr, g + 1 = gr := ⟨_, rfl⟩
  have hBx : Below g w ((w.alloc (.cells (recC (rcA ix tm) ra0) 48)).alloc (.cells (recC rc0 ra0) 48)) := ((Below.refl _ _).alloc (by omega) _).alloc (by simp; omega) _
  have hsz : (w.alloc (.cells (recC (rcA ix tm) ra0) 48)).heap.size = gr := by simp [hg, hgr]
  have hb1 : Blk ((w.alloc (.cells (recC (rcA ix tm) ra0) 48)).alloc (.cells (recC rc0 ra0) 48)) g 48 (recC (rcA ix tm) ra0) := (hg ▸ Blk.new w 48 (recC (rcA ix tm) ra0) : Blk (w.alloc (.cells (recC (rcA ix tm) ra0) 48)) g 48 (recC (rcA ix tm) ra0)).alloc _
  have hr1 : Blk ((w.alloc (.cells (recC (rcA ix tm) ra0) 48)).alloc (.cells (recC rc0 ra0) 48)) gr 48 (recC rc0 ra0) := hsz ▸ Blk.new _ _ _
  have X := Lib.hid (CD _ (h.keep (hg ▸ hBx)))
  have hi1 := h.keep (hg ▸ hBx)
  have hlen : lb.length ≤ c := h.cap
  clear hsz h
  unfold recV
  go_enter Try.func56, Try.ntmps56
  go_upto_region 1 with (fail)
  change Code.wp _ _ _ _ ((w.alloc (.cells (recC (rcA ix tm) ra0) 48)).alloc (.cells (recC rc0 ra0) 48))
  generalize ((w.alloc (.cells (recC (rcA ix tm) ra0) 48)).alloc (.cells (recC rc0 ra0) 48)) = W at hb1 hr1 hBx X hi1 ⊢
  try rw [hgr]
  have hnr : gr ≠ g := by omega
  go_wp2_with fail
  refine X.out.mono ?_
  rintro x w1 ⟨rfl, hB1⟩
  have hb2 := hb1.below hB1 hb1.lt
  have hr2 := hr1.below hB1 hr1.lt
  have hB2 := hBx.trans (hB1.mono (Nat.le_of_lt hb1.lt))
  have hi2 := hi1.keep hB1
  obtain ⟨gc, hgc⟩ : ∃ gc, w1.heap.size = gc := ⟨_, rfl⟩
  have hlt2 : g < gc := hgc ▸ hb2.lt
  have hc3 : Blk (w1.alloc (.cells (cmdCells 0 0 0 (.slice none 0 0) 0 0 0 0) 44)) gc 44 (cmdCells 0 0 0 (.slice none 0 0) 0 0 0 0) := hgc ▸ Blk.new _ _ _
  have hb3 : Blk (w1.alloc (.cells (cmdCells 0 0 0 (.slice none 0 0) 0 0 0 0) 44)) g 48 (recC (rcA ix tm) ra0).toList.toArray := hb2.alloc _
  have hr3 := hr2.alloc (.cells (cmdCells 0 0 0 (.slice none 0 0) 0 0 0 0) 44)
  have hB3 := hB2.alloc (by omega) (.cells (cmdCells 0 0 0 (.slice none 0 0) 0 0 0 0) 44)
  have hi3 := hi2.keep ((Below.refl w1.heap.size w1).alloc (Nat.le_refl _) (.cells (cmdCells 0 0 0 (.slice none 0 0) 0 0 0 0) 44))

  clear hb1 hr1 hBx hB1 X hb2 hr2 hB2 hi1 hi2
  go_upto_region 2 with (fail)
  change Code.wp _ _ _ _ (w1.alloc (.cells (cmdCells 0 0 0 (.slice none 0 0) 0 0 0 0) 44))
  generalize (w1.alloc (.cells (cmdCells 0 0 0 (.slice none 0 0) 0 0 0 0) 44)) = W3 at hc3 hb3 hr3 hB3 hi3  ⊢
  try rw [hgc]
  clear hgc
  clear hi3
  go_upto_region 13 with (first | (refine wpList_load_row rfl 44 _ rfl gc rfl 44 (cmdCells 0 0 0 (.slice none 0 0) 0 0 0 0) hc3 _ Try.underlying44 rfl info_Cmd ?_) | (refine wpList_store_mid rfl 44 _ _ rfl g 6 (cmdCells 0 0 0 (.slice none 0 0) 0 0 0 0) rfl rfl (hb3.there 6 8 (Nat.le_of_ble_eq_true rfl)) info_Cmd (cmdC_one _ _ _ _ _ _ _ _ _ _) ?_))
  have hr4 := hr3.midFar hnr (cmdCells 0 0 0 (.slice none 0 0) 0 0 0 0).toList 6
  have hb4 := hb3.mid (cmdCells 0 0 0 (.slice none 0 0) 0 0 0 0).toList 6
  have hB4 := mid_below hB3 (Nat.le_refl g) (cmdCells 0 0 0 (.slice none 0 0) 0 0 0 0).toList 6
  clear hb4
  generalize (W3.setCells g 6 (cmdCells 0 0 0 (.slice none 0 0) 0 0 0 0).toList) = W4 at hr4 hB4 ⊢
  go_wp2_with (refine wpList_store_row rfl 48 _ _ rfl gr (recC rc0 ra0) rfl rfl 48 (recC rc0 ra0) hr4 info_Rec rfl (recC_one _ _) ?_)
  (try simp only [Exit.inBlock, Exit.then])
  refine bodyPost_ret (results_cell rfl rfl (run_loadVar_row _ gr 48 48 _ (0, 0) _ (Blk.row (cs := recC rc0 ra0) hr4) Try.underlying48 rfl info_Rec)) rfl ?_
  exact ⟨row_below hB4 (by omega) _, rfl⟩

open Classical in
noncomputable def aE (lb : List Int) : Int := if (∃ j, 1 ≤ j ∧ j < lb.length ∧ dE (lb.take j) = 40) then 11 else 130
set_option maxHeartbeats 8000000 in
theorem hadd_40 (w : World) (ix tm : Int) (A : Option Addr) (c : Nat) (lb : List Int) (h : In8 w A c lb) (h40 : dE lb = 40) :
    Calls Try.prog 56 #[recV (rcA ix tm) ra0, .slice A lb.length c] w fun x w' => Below w.heap.size w w' ∧ x = .returned (.tuple #[recV rc0 ra0, .int .i64 (aE lb)]) := by
  have CD := fun W (k : In8 W A c lb) => cmd_Decode_walk W A c lb k
  simp only [h40] at CD
  have CD : ∀ W, In8 W A c lb → Calls Try.prog 89 #[.slice A lb.length c] W fun x w' => x = .returned (.tuple #[cmdV 0 0 0 (.slice none 0 0) 0 0 0 0, .int .i64 0, .int .i64 40]) ∧ Below W.heap.size W w' := fun W k => (CD W k).mono fun x w' ⟨hB, hx⟩ => by
    rcases hx with ⟨hn, _⟩ | ⟨_, hx⟩
    · exact absurd hn (by decide)
    · exact ⟨hx, hB⟩
  have CJ : ∀ W j, j ≤ lb.length → In8 W A c lb → Calls Try.prog 89 #[.slice A j c] W fun x w' => ∃ (kd n t : Int) (A' : Option Addr) (m c' : Nat) (b q s x' K : Int), x = .returned (.tuple #[cmdV kd n t (.slice A' m c') b q s x', .int .i64 K, .int .i64 (dE (lb.take j))]) ∧ Below W.heap.size W w' := by
    intro W j hj k
    have hl : (lb.take j).length = j := by rw [List.length_take]; omega
    have q := cmd_Decode_walk W A c (lb.take j) (k.take hj)
    rw [hl] at q
    refine q.mono ?_
    rintro x w' ⟨hB, ⟨h0, A', c', hx, _⟩ | ⟨_, hx⟩⟩
    · exact ⟨_, _, _, _, _, _, _, _, _, _, _, by rw [h0]; exact hx, hB⟩
    · exact ⟨_, _, _, _, _, _, _, _, _, _, _, hx, hB⟩
  obtain ⟨AE, hAE⟩ : ∃ AE, aE lb = AE := ⟨_, rfl⟩
  have H11 : Hid (∀ j, 1 ≤ j → j < lb.length → dE (lb.take j) = 40 → AE = 11) := fun j h1 h2 h3 => by
    rw [← hAE, aE, if_pos ⟨j, h1, h2, h3⟩]
  have H130 : Hid ((∀ j, 1 ≤ j → j < lb.length → dE (lb.take j) ≠ 40) → AE = 130) := fun hn => by
    rw [← hAE, aE, if_neg (fun ⟨j, h1, h2, h3⟩ => hn j h1 h2 h3)]
  rw [hAE]
  unfold cmdV at CD CJ
  have CJ := Lib.hid CJ
  clear hAE h40
  obtain ⟨g, hg⟩ : ∃ g, w.heap.size = g := ⟨_, rfl⟩
  rw [hg]
  obtain ⟨gr, hgr⟩ : ∃ gr, g + 1 = gr := ⟨_, rfl⟩
  have hBx : Below g w ((w.alloc (.cells (recC (rcA ix tm) ra0) 48)).alloc (.cells (recC rc0 ra0) 48)) := ((Below.refl _ _).alloc (by omega) _).alloc (by simp; omega) _
  have hsz : (w.alloc (.cells (recC (rcA ix tm) ra0) 48)).heap.size = gr := by simp [hg, hgr]
  have hb1 : Blk ((w.alloc (.cells (recC (rcA ix tm) ra0) 48)).alloc (.cells (recC rc0 ra0) 48)) g 48 (recC (rcA ix tm) ra0) := (hg ▸ Blk.new w 48 (recC (rcA ix tm) ra0) : Blk (w.alloc (.cells (recC (rcA ix tm) ra0) 48)) g 48 (recC (rcA ix tm) ra0)).alloc _
  have hr1 : Blk ((w.alloc (.cells (recC (rcA ix tm) ra0) 48)).alloc (.cells (recC rc0 ra0) 48)) gr 48 (recC rc0 ra0) := hsz ▸ Blk.new _ _ _
  have X := Lib.hid (CD _ (h.keep (hg ▸ hBx)))
  have hi1 := h.keep (hg ▸ hBx)
  have hlen : lb.length ≤ c := h.cap
  clear hsz h
  unfold recV
  go_enter Try.func56, Try.ntmps56
  go_upto_region 1 with (fail)
  change Code.wp _ _ _ _ ((w.alloc (.cells (recC (rcA ix tm) ra0) 48)).alloc (.cells (recC rc0 ra0) 48))
  generalize ((w.alloc (.cells (recC (rcA ix tm) ra0) 48)).alloc (.cells (recC rc0 ra0) 48)) = W at hb1 hr1 hBx X hi1 ⊢
  try rw [hgr]
  have hnr : gr ≠ g := by omega
  go_wp2_with fail
  refine X.out.mono ?_
  rintro x w1 ⟨rfl, hB1⟩
  have hb2 := hb1.below hB1 hb1.lt
  have hr2 := hr1.below hB1 hr1.lt
  have hB2 := hBx.trans (hB1.mono (Nat.le_of_lt hb1.lt))
  have hi2 := hi1.keep hB1
  obtain ⟨gc, hgc⟩ : ∃ gc, w1.heap.size = gc := ⟨_, rfl⟩
  have hlt2 : g < gc := hgc ▸ hb2.lt
  have hc3 : Blk (w1.alloc (.cells (cmdCells 0 0 0 (.slice none 0 0) 0 0 0 0) 44)) gc 44 (cmdCells 0 0 0 (.slice none 0 0) 0 0 0 0) := hgc ▸ Blk.new _ _ _
  have hb3 : Blk (w1.alloc (.cells (cmdCells 0 0 0 (.slice none 0 0) 0 0 0 0) 44)) g 48 (recC (rcA ix tm) ra0).toList.toArray := hb2.alloc _
  have hr3 := hr2.alloc (.cells (cmdCells 0 0 0 (.slice none 0 0) 0 0 0 0) 44)
  have hB3 := hB2.alloc (by omega) (.cells (cmdCells 0 0 0 (.slice none 0 0) 0 0 0 0) 44)
  have hi3 := hi2.keep ((Below.refl w1.heap.size w1).alloc (Nat.le_refl _) (.cells (cmdCells 0 0 0 (.slice none 0 0) 0 0 0 0) 44))

  clear hb1 hr1 hBx hB1 X hb2 hr2 hB2 hi1 hi2
  go_upto_region 2 with (fail)
  change Code.wp _ _ _ _ (w1.alloc (.cells (cmdCells 0 0 0 (.slice none 0 0) 0 0 0 0) 44))
  generalize (w1.alloc (.cells (cmdCells 0 0 0 (.slice none 0 0) 0 0 0 0) 44)) = W3 at hc3 hb3 hr3 hB3 hi3  ⊢
  try rw [hgc]
  clear hgc
  have HF : Hid (Blk W3 g 48 (recC (rcA ix tm) ra0).toList.toArray ∧ Blk W3 gr 48 (recC rc0 ra0) ∧ Blk W3 gc 44 (cmdCells 0 0 0 (.slice none 0 0) 0 0 0 0) ∧ Below g w W3 ∧ In8 W3 A c lb) := ⟨hb3, hr3, hc3, hB3, hi3⟩
  clear hb3 hr3 hc3 hB3 hi3
  have hsml : lb.length ≤ 140737488355328 := HF.out.2.2.2.2.small
  go_wp2_with fail
  go_loopw [9, 10, 11, 12] (fun jv _ _ _ wr => ∃ j : Nat, jv = .int .i64 j ∧ 1 ≤ j ∧ (∀ i, 1 ≤ i → i < j → dE (lb.take i) ≠ 40) ∧ (j ≤ lb.length ∨ j = 1) ∧ Blk wr g 48 (recC (rcA ix tm) ra0).toList.toArray ∧ Blk wr gr 48 (recC rc0 ra0) ∧ Blk wr gc 44 (cmdCells 0 0 0 (.slice none 0 0) 0 0 0 0) ∧ Below g w wr ∧ In8 wr A c lb) (fun jv _ _ _ _ => lb.length - (intOf jv).toNat)
  case atStart => exact ⟨1, rfl, by omega, fun i h1 h2 => by omega, .inr rfl, HF.out⟩
  case round =>
    clear HF
    obtain ⟨j, rfl, hj1, hjn, hjl, hb5, hr5, hc5, hB5, hi5⟩ := hrel
    have HJN := Lib.hid hjn
    clear hjn
    by_cases hlt : j < lb.length
    · have X5 := Lib.hid (CJ.out wr j (by omega) hi5)
      have HF5 : Hid (Blk wr g 48 (recC (rcA ix tm) ra0).toList.toArray ∧ Blk wr gr 48 (recC rc0 ra0) ∧ Blk wr gc 44 (cmdCells 0 0 0 (.slice none 0 0) 0 0 0 0) ∧ Below g w wr ∧ In8 wr A c lb) := ⟨hb5, hr5, hc5, hB5, hi5⟩
      clear hb5 hr5 hc5 hB5 hi5
      go_wp2_with fail
      refine X5.out.mono ?_
      rintro x w6 ⟨kd, n, t, A', m, c', b, q, s, x', K, rfl, hB6⟩
      obtain ⟨hb5, hr5, hc5, hB5, hi5⟩ := HF5.out
      obtain ⟨E, hE⟩ : ∃ E, dE (lb.take j) = E := ⟨_, rfl⟩
      rw [hE]
      have HE := Lib.hid hE
      have hlt5 := hb5.lt
      obtain ⟨gx, hgx⟩ : ∃ gx, w6.heap.size = gx := ⟨_, rfl⟩
      have hgxl : g ≤ w6.heap.size := Nat.le_of_lt (hb5.below hB6 hb5.lt).lt
      have HF7 : Hid (Blk (w6.alloc (.cells (cmdCells kd n t (.slice A' m c') b q s x') 44)) g 48 (recC (rcA ix tm) ra0).toList.toArray ∧ Blk (w6.alloc (.cells (cmdCells kd n t (.slice A' m c') b q s x') 44)) gr 48 (recC rc0 ra0) ∧ Blk (w6.alloc (.cells (cmdCells kd n t (.slice A' m c') b q s x') 44)) gc 44 (cmdCells 0 0 0 (.slice none 0 0) 0 0 0 0) ∧ Below g w (w6.alloc (.cells (cmdCells kd n t (.slice A' m c') b q s x') 44)) ∧ In8 (w6.alloc (.cells (cmdCells kd n t (.slice A' m c') b q s x') 44)) A c lb) :=
        ⟨(hb5.below hB6 hb5.lt).alloc _, (hr5.below hB6 hr5.lt).alloc _, (hc5.below hB6 hc5.lt).alloc _, (hB5.trans (hB6.mono (Nat.le_of_lt hlt5))).alloc hgxl _, (hi5.keep hB6).keep ((Below.refl w6.heap.size w6).alloc (Nat.le_refl _) _)⟩
      clear hb5 hr5 hc5 hB5 hi5 HF5 X5 hE hgxl hlt5 hB6
      go_upto_region 7 with (fail)
      change Code.wp _ _ _ _ (w6.alloc (.cells (cmdCells kd n t (.slice A' m c') b q s x') 44))
      generalize (w6.alloc (.cells (cmdCells kd n t (.slice A' m c') b q s x') 44)) = W7 at HF7 ⊢
      try rw [hgx]
      clear hgx
      by_cases hE4 : E = 40
      · subst hE4
        have HV := Lib.hid (H11.out j hj1 hlt HE.out)
        have hr7 := HF7.out.2.1
        have hB7 := HF7.out.2.2.2.1
        go_wp2_with (refine wpList_store_row rfl 48 _ _ rfl gr (recC rc0 ra0) rfl rfl 48 (recC rc0 ra0) hr7 info_Rec rfl (recC_one _ _) ?_)
        (try simp only [Exit.inBlock, Exit.then])
        refine bodyPost_ret (results_cell rfl rfl (run_loadVar_row _ gr 48 48 _ (0, 0) _ (Blk.row (cs := recC rc0 ra0) hr7) Try.underlying48 rfl info_Rec)) rfl ?_
        exact ⟨row_below hB7 (by omega) _, by rw [HV.out]; rfl⟩
      · have q4 : (E == 40) = false := beq_eq_false_iff_ne.2 hE4
        have HJ2 : Hid (∀ i, 1 ≤ i → i < j + 1 → dE (lb.take i) ≠ 40) := fun i h1 h2 => by
          by_cases e : i = j
          · subst e
            rw [HE.out]
            exact hE4
          · exact HJN.out i h1 (by omega)
        go_wp2
        go_roundw
        case rel => exact ⟨j + 1, by go_num, by omega, HJ2.out, .inl (by omega), HF7.out⟩
        case measure => simp [intOf]; omega
    · have HV := Lib.hid (H130.out (fun i h1 h2 => HJN.out i h1 (by omega)))
      generalize hW3 : wr = W3 at *
      have hb3 := hb5
      have hr3 := hr5
      have hc3 := hc5
      have hB3 := hB5
      clear hi5
      go_upto_region 13 with (first | (refine wpList_load_row rfl 44 _ rfl gc rfl 44 (cmdCells 0 0 0 (.slice none 0 0) 0 0 0 0) hc3 _ Try.underlying44 rfl info_Cmd ?_) | (refine wpList_store_mid rfl 44 _ _ rfl g 6 (cmdCells 0 0 0 (.slice none 0 0) 0 0 0 0) rfl rfl (hb3.there 6 8 (Nat.le_of_ble_eq_true rfl)) info_Cmd (cmdC_one _ _ _ _ _ _ _ _ _ _) ?_))
      have hr4 := hr3.midFar hnr (cmdCells 0 0 0 (.slice none 0 0) 0 0 0 0).toList 6
      have hb4 := hb3.mid (cmdCells 0 0 0 (.slice none 0 0) 0 0 0 0).toList 6
      have hB4 := mid_below hB3 (Nat.le_refl g) (cmdCells 0 0 0 (.slice none 0 0) 0 0 0 0).toList 6
      clear hb4
      generalize (W3.setCells g 6 (cmdCells 0 0 0 (.slice none 0 0) 0 0 0 0).toList) = W4 at hr4 hB4 ⊢
      go_wp2_with (refine wpList_store_row rfl 48 _ _ rfl gr (recC rc0 ra0) rfl rfl 48 (recC rc0 ra0) hr4 info_Rec rfl (recC_one _ _) ?_)
      (try simp only [Exit.inBlock, Exit.then])
      refine bodyPost_ret (results_cell rfl rfl (run_loadVar_row _ gr 48 48 _ (0, 0) _ (Blk.row (cs := recC rc0 ra0) hr4) Try.underlying48 rfl info_Rec)) rfl ?_
      exact ⟨row_below hB4 (by omega) _, by rw [HV.out]; rfl⟩

end Go.Proofs.Ytadkkhbbempaaaa

/- Snapshots read: the code's reader reads a number. -/
namespace Go.Proofs.Ytadkkhbbempaaaa
set_option maxRecDepth 100000
open Go.RowKit

/-! ### Plain -/
/-! ### In memory -/
theorem cut8n {A : Option Addr} {c n : Nat} {j : Nat} (hk : j ≤ n) (hc : n ≤ c) : ∃ A' c', (∀ w : World, (Instr.slice 75 (.slice A n c) (some (.int .i64 (j : Int))) none none).run Try.prog w = .ok (.slice A' (n - j) c') w) ∧
    ∀ w lb, lb.length = n → In8 w A c lb → In8 w A' c' (lb.drop j) := by
  refine ⟨if c = j then A else A.map (·.add (j * 1)), c - j, fun w => ?_, fun w lb hl h => ⟨?_, h.byt.drop j, by rw [List.length_drop]; omega, by rw [List.length_drop]; have := h.small; omega⟩⟩
  · have hu : Try.prog.underlying 75 = some (.slice (Try.prog.elem 75)) := by kernel_rfl
    rw [run_slice_l _ _ _ _ _ hu .i64 (j : Int) (by omega) (by omega)]
    have hs : (sizeOf (Try.prog.elem 75)).run Try.prog w = .ok 1 w := by
      show (sizeOf 5).run Try.prog w = .ok 1 w
      obtain ⟨i0, hi, _, hz1, _⟩ := info_parts info_u8
      simp [sizeOf, typeInfo, hi, hz1]
    rw [hs]
    simp [sliced, Result.andThen]
  · subst hl
    have := h.reads.cut hk hc
    rw [List.length_drop]
    simpa [u8s, List.map_drop] using this
def sdC (A : Option Addr) (n c : Nat) (e : Int) : Array Value := #[.slice A n c, .int .i64 e]
/-- The code's reader stands at place k of the bytes lb (that came in at A0, c0), with error e. -/
def RC (w : World) (gr : Nat) (A0 : Option Addr) (c0 : Nat) (lb : List Int) (k : Nat) (e : Int) : Prop :=
  ∃ A c, Blk w gr 130 (sdC A (lb.length - k) c e) ∧ (∀ W, In8 W A0 c0 lb → In8 W A c (lb.drop k)) ∧ k ≤ lb.length ∧ lb.length - k ≤ c
theorem RC.lt {w : World} {gr : Nat} {A0 : Option Addr} {c0 : Nat} {lb : List Int} {k : Nat} {e : Int} (h : RC w gr A0 c0 lb k e) : gr < w.heap.size := by
  obtain ⟨A, c, hb, _⟩ := h
  exact hb.lt
theorem RC.grown {w w1 : World} {gr : Nat} {A0 : Option Addr} {c0 : Nat} {lb : List Int} {k : Nat} {e : Int} {row : Option Nat} (h : RC w gr A0 c0 lb k e) (hg : w.grownBy w1 row) (hne : some gr ≠ row) : RC w1 gr A0 c0 lb k e := by
  obtain ⟨A, c, hb, h2⟩ := h
  exact ⟨A, c, hb.grown hg hne, h2⟩
theorem RC.drew {w : World} {gr : Nat} {A0 : Option Addr} {c0 : Nat} {lb : List Int} {k : Nat} {e : Int} (h : RC w gr A0 c0 lb k e) : RC w.drew gr A0 c0 lb k e := h

set_option maxRecDepth 100000 in
set_option maxHeartbeats 4000000 in
theorem snum_walk (w : World) (gr : Nat) (A0 : Option Addr) (c0 : Nat) (lb : List Int) (k : Nat) (e most : Int) (h : In8 w A0 c0 lb) (hb : RC w gr A0 c0 lb k e) :
    Calls Try.prog 103 #[.pointer (some ⟨gr, 0, none⟩), .int .u64 most] w fun x w' => x = .returned (.int .u64 (rnum lb k e most).1) ∧
      RC w' gr A0 c0 lb (rnum lb k e most).2.1 (rnum lb k e most).2.2 ∧ w.grownBy w' (some gr) := by
  have hs := h.small
  obtain ⟨A, c, hb, hin, hk, hcap⟩ := hb
  have HRD := Lib.hid (hin w h)
  have HIN := Lib.hid hin
  have HB := Lib.hid hb
  obtain ⟨S, hS⟩ : ∃ S, Value.slice A (lb.length - k) c = S := ⟨_, rfl⟩
  have hb3 : Blk w gr 130 [S, .int .i64 e].toArray := by rw [← hS]; exact hb
  have hc0 : w.cell? ⟨gr, 0, none⟩ = some S := by rw [hb3.cell]; rfl
  have hc1 : w.cell? ⟨gr, 1, none⟩ = some (.int .i64 e) := by rw [hb3.cell]; rfl
  have f0 := hb3.frozen 0
  have f1 := hb3.frozen 1
  by_cases he : e = 0
  rotate_left
  · have hne : (e != 0) = true := bne_iff_ne.2 he
    have HR := Lib.hid (rnum_err (lb := lb) (k := k) (most := most) he)
    clear he h hS hin
    go_enter Try.func103, Try.ntmps103
    go_wp2
    go_ret
    rw [HR.out]
    exact ⟨rfl, ⟨A, c, HB.out, HIN.out, hk, hcap⟩, World.grownBy.refl _ _⟩
  subst he
  have C1 := readNum_any A c (lb.drop k) w HRD.out
  rw [List.length_drop, hS] at C1
  have hrok := readN_ok (lb.drop k) (h.byt.drop k)
  have hrn : rnum lb k 0 most = rnum lb k 0 most := rfl
  conv at hrn => rhs; unfold rnum
  rw [if_neg (by simp)] at hrn
  obtain ⟨⟨n, kk, x⟩, hr⟩ : ∃ r, readN (lb.drop k) = r := ⟨_, rfl⟩
  rw [hr] at hrok hrn C1
  simp only at C1 hrok hrn
  have C1 := Lib.hid C1
  clear hr hin h
  by_cases hx : x = 0
  rotate_left
  · rw [if_pos hx] at hrn
    have HR := Lib.hid hrn
    have hxe : (x == 0) = false := beq_eq_false_iff_ne.2 hx
    have hxn : (x != 0) = true := bne_iff_ne.2 hx
    have HS := Lib.hid hS
    clear hrn hrok hx hS
    go_enter Try.func103, Try.ntmps103
    go_wp2_with fail
    refine C1.out.mono ?_
    rintro y w2 ⟨rfl, hw2⟩
    obtain rfl := hw2.symm
    go_wp2
    go_ret
    rw [HR.out]
    have hf := Blk.setL hb3 1 (.int .i64 x)
    rw [← HS.out] at hf
    exact ⟨rfl, ⟨A, c, hf, HIN.out, hk, hcap⟩, only_setCell (p := ⟨gr, 1, none⟩) (World.grownBy.refl w (some gr)) (.inl rfl) _⟩
  subst hx
  obtain ⟨hk1, hk2, hk3, hn1, hn2⟩ := hrok rfl
  rw [if_neg (by simp)] at hrn
  clear hrok
  by_cases hm : n > most
  · rw [if_pos hm] at hrn
    have HR := Lib.hid hrn
    have hd : decide (n > most) = true := decide_eq_true hm
    have HS := Lib.hid hS
    clear hrn hn1 hn2 hS
    go_enter Try.func103, Try.ntmps103
    go_wp2_with fail
    refine C1.out.mono ?_
    rintro y w2 ⟨rfl, hw2⟩
    obtain rfl := hw2.symm
    go_wp2
    go_ret
    rw [HR.out]
    have hf := Blk.setL hb3 1 (.int .i64 11)
    rw [← HS.out] at hf
    exact ⟨rfl, ⟨A, c, hf, HIN.out, hk, hcap⟩, only_setCell (p := ⟨gr, 1, none⟩) (World.grownBy.refl w (some gr)) (.inl rfl) _⟩
  · rw [if_neg hm] at hrn
    obtain ⟨j, rfl⟩ := Int.eq_ofNat_of_zero_le (show 0 ≤ kk by omega)
    rw [Int.toNat_natCast] at hrn
    rw [List.length_drop] at hk2
    have HR := Lib.hid hrn
    have hd : decide (n > most) = false := decide_eq_false hm
    obtain ⟨A', c', hcut, hin'⟩ := cut8n (A := A) (c := c) (n := lb.length - k) (j := j) (by omega) hcap
    rw [hS] at hcut
    have hjl : j ≤ lb.length - k := by omega
    have hc' : lb.length - (k + j) ≤ c' := by
      have h1 := (hin' w (lb.drop k) (by rw [List.length_drop]) HRD.out).cap
      rw [List.length_drop, List.length_drop] at h1
      omega
    have HI2 : Hid (∀ W, In8 W A0 c0 lb → In8 W A' c' (lb.drop (k + j))) := fun W hW => by
      have := hin' W (lb.drop k) (by rw [List.length_drop]) (HIN.out W hW)
      rw [List.drop_drop] at this
      exact this
    obtain ⟨m, hm2⟩ : ∃ m, lb.length - k - j = m := ⟨_, rfl⟩
    rw [hm2] at hcut
    have HM : Hid (m = lb.length - (k + j)) := by
      show _ = _
      omega
    clear hk1 hk2 hk3 hrn hn1 hn2 hm hin' hS hm2 HRD
    go_enter Try.func103, Try.ntmps103
    go_wp2_with fail
    refine C1.out.mono ?_
    rintro y w2 ⟨rfl, hw2⟩
    obtain rfl := hw2.symm
    go_wp2
    go_ret
    rw [HR.out]
    have hf := Blk.setL hb3 0 (.slice A' m c')
    rw [HM.out] at hf ⊢
    exact ⟨rfl, ⟨A', c', hf, HI2.out, by show k + j ≤ lb.length; omega, hc'⟩, only_setCell (p := ⟨gr, 0, none⟩) (World.grownBy.refl w (some gr)) (.inl rfl) _⟩

theorem swide_any (w : World) (gr : Nat) (A0 : Option Addr) (c0 : Nat) (lb : List Int) (k : Nat) (e : Int) (h : In8 w A0 c0 lb) (hb : RC w gr A0 c0 lb k e) :
    Calls Try.prog 90 #[.pointer (some ⟨gr, 0, none⟩)] w fun x w' => x = .returned (.int .u64 (rnum lb k e 18446744073709551615).1) ∧
      RC w' gr A0 c0 lb (rnum lb k e 18446744073709551615).2.1 (rnum lb k e 18446744073709551615).2.2 ∧ w.grownBy w' (some gr) := by
  have C := Lib.hid (snum_walk w gr A0 c0 lb k e 18446744073709551615 h hb)
  clear h hb
  go_enter Try.func90, Try.ntmps90
  go_wp2_with fail
  refine C.out.mono ?_
  rintro x w2 ⟨rfl, h2, h3⟩
  have H2 := Lib.hid h2
  have H3 := Lib.hid h3
  clear h2 h3
  go_wp2
  go_ret
  exact ⟨rfl, H2.out, H3.out⟩
theorem smany_any (w : World) (gr : Nat) (A0 : Option Addr) (c0 : Nat) (lb : List Int) (k : Nat) (e : Int) (h : In8 w A0 c0 lb) (hb : RC w gr A0 c0 lb k e) :
    Calls Try.prog 91 #[.pointer (some ⟨gr, 0, none⟩)] w fun x w' => x = .returned (.int .u64 (rnum lb k e 64).1) ∧
      RC w' gr A0 c0 lb (rnum lb k e 64).2.1 (rnum lb k e 64).2.2 ∧ w.grownBy w' (some gr) := by
  have C := Lib.hid (snum_walk w gr A0 c0 lb k e 64 h hb)
  clear h hb
  go_enter Try.func91, Try.ntmps91
  go_wp2_with fail
  refine C.out.mono ?_
  rintro x w2 ⟨rfl, h2, h3⟩
  have H2 := Lib.hid h2
  have H3 := Lib.hid h3
  clear h2 h3
  go_wp2
  go_ret
  exact ⟨rfl, H2.out, H3.out⟩
theorem ssmall_any (w : World) (gr : Nat) (A0 : Option Addr) (c0 : Nat) (lb : List Int) (k : Nat) (e : Int) (h : In8 w A0 c0 lb) (hb : RC w gr A0 c0 lb k e) :
    Calls Try.prog 92 #[.pointer (some ⟨gr, 0, none⟩)] w fun x w' => x = .returned (.int .i64 (rnum lb k e 65535).1) ∧
      RC w' gr A0 c0 lb (rnum lb k e 65535).2.1 (rnum lb k e 65535).2.2 ∧ w.grownBy w' (some gr) := by
  have C := Lib.hid (snum_walk w gr A0 c0 lb k e 65535 h hb)
  have hl : 0 ≤ (rnum lb k e 65535).1 ∧ (rnum lb k e 65535).1 ≤ 65535 := by
    obtain ⟨_, _, _, _, hk, _⟩ := hb
    have := rnum_le h.byt hk e (most := 65535) (by decide)
    omega
  obtain ⟨⟨v, k2, e2⟩, hr⟩ : ∃ r, rnum lb k e 65535 = r := ⟨_, rfl⟩
  rw [hr] at C hl ⊢
  simp only at C hl ⊢
  have wv : IntKind.i64.wrap v = v := by simp [IntKind.wrap_i64]; omega
  clear h hb hr hl
  go_enter Try.func92, Try.ntmps92
  go_wp2_with fail
  refine C.out.mono ?_
  rintro x w2 ⟨rfl, h2, h3⟩
  have H2 := Lib.hid h2
  have H3 := Lib.hid h3
  clear h2 h3
  go_wp2
  go_ret
  exact ⟨rfl, H2.out, H3.out⟩
end Go.Proofs.Ytadkkhbbempaaaa

/- Records read: the code's closure num. -/
namespace Go.Proofs.Ytadkkhbbempaaaa
set_option maxRecDepth 100000
open Go.RowKit

theorem readN_bad (l : List Int) (h : (readN l).2.2 ≠ 0) : (readN l).1 = 0 := by
  unfold readN at h ⊢
  by_cases h0 : l.length = 0
  · rw [if_pos h0]
  rw [if_neg h0] at h ⊢
  by_cases h8 : l.getD 0 0 > 8
  · rw [if_pos h8]
  rw [if_neg h8] at h ⊢
  by_cases hs : (l.length : Int) < 1 + l.getD 0 0
  · rw [if_pos hs]
  rw [if_neg hs] at h ⊢
  by_cases hz : 1 + l.getD 0 0 > 1 ∧ l.getD 1 0 = 0
  · rw [if_pos hz]
  rw [if_neg hz] at h
  exact absurd rfl h
/-- The code's reader of records stands at place k of the bytes lb (that came in at A0, c0), with error e: a slice in block gb, an error in block ge. -/
def RH (w : World) (gb ge : Nat) (A0 : Option Addr) (c0 : Nat) (lb : List Int) (k : Nat) (e : Int) : Prop :=
  ∃ A c, Blk w gb 75 #[.slice A (lb.length - k) c] ∧ Blk w ge 34 #[.int .i64 e] ∧ (∀ W, In8 W A0 c0 lb → In8 W A c (lb.drop k)) ∧ k ≤ lb.length ∧ lb.length - k ≤ c
/-- Two blocks have turned at most. -/
def Two (w w' : World) (gb ge : Nat) : Prop := ∃ w1, w.grownBy w1 (some ge) ∧ w1.grownBy w' (some gb)
theorem Two.refl (w : World) (gb ge : Nat) : Two w w gb ge := ⟨w, World.grownBy.refl _ _, World.grownBy.refl _ _⟩
theorem Two.blk {w w' : World} {gb ge g : Nat} {T : TypeId} {cs : Array Value} (h : Two w w' gb ge) (hb : Blk w g T cs) (h1 : g ≠ gb) (h2 : g ≠ ge) : Blk w' g T cs := by
  obtain ⟨w1, k1, k2⟩ := h
  exact (hb.grown k1 (fun e => h2 (Option.some.inj e))).grown k2 (fun e => h1 (Option.some.inj e))
theorem Two.below {w w' w0 : World} {gb ge B : Nat} (h : Two w w' gb ge) (hB : Below B w0 w) (h0 : B ≤ w.heap.size) (h1 : B ≤ gb) (h2 : B ≤ ge) : Below B w0 w' := by
  obtain ⟨w1, k1, k2⟩ := h
  exact (hB.grown k1 h0 (fun i hi => by injection hi with hi; omega)).grown k2 (Nat.le_trans h0 k1.size) (fun i hi => by injection hi with hi; omega)
theorem Two.own {w w' : World} {gb ge base : Nat} {v : Value} {l : List Int} (h : Two w w' gb ge) (ho : Own8 w base v l) (h1 : v.ownBlock ≠ some gb) (h2 : v.ownBlock ≠ some ge) : Own8 w' base v l := by
  obtain ⟨w1, k1, k2⟩ := h
  exact World.ownsRow.kept (World.ownsRow.kept ho k1 (.inr h2)) k2 (.inr h1)

set_option maxHeartbeats 4000000 in
theorem hnum_any (w : World) (gb ge : Nat) (A0 : Option Addr) (c0 : Nat) (lb : List Int) (k : Nat) (e : Int) (h : In8 w A0 c0 lb) (hb : RH w gb ge A0 c0 lb k e) :
    Calls Try.prog 54 #[.pointer (some ⟨ge, 0, none⟩), .pointer (some ⟨gb, 0, none⟩)] w fun x w' => x = .returned (.int .u64 (rnum lb k e 18446744073709551615).1) ∧
      RH w' gb ge A0 c0 lb (rnum lb k e 18446744073709551615).2.1 (rnum lb k e 18446744073709551615).2.2 ∧ Two w w' gb ge := by
  have hs := h.small
  obtain ⟨A, c, hb, he0, hin, hk, hcap⟩ := hb
  have hnbe : gb ≠ ge := Blk.ne_ hb he0 (by decide)
  have HRD := Lib.hid (hin w h)
  have HIN := Lib.hid hin
  have HB := Lib.hid hb
  have HE := Lib.hid he0
  obtain ⟨S, hS⟩ : ∃ S, Value.slice A (lb.length - k) c = S := ⟨_, rfl⟩
  have hb3 : Blk w gb 75 #[S] := by rw [← hS]; exact hb
  have hc0 : w.cell? ⟨gb, 0, none⟩ = some S := hb3.cell 0
  have hc1 : w.cell? ⟨ge, 0, none⟩ = some (.int .i64 e) := he0.cell 0
  have f0 := hb3.frozen 0
  have f1 := he0.frozen 0
  by_cases he : e = 0
  rotate_left
  · have hne : (e != 0) = true := bne_iff_ne.2 he
    have HR := Lib.hid (rnum_err (lb := lb) (k := k) (most := 18446744073709551615) he)
    clear he h hS hin
    go_enter Try.func54, Try.ntmps54
    go_wp2
    go_ret
    rw [HR.out]
    exact ⟨rfl, ⟨A, c, HB.out, HE.out, HIN.out, hk, hcap⟩, Two.refl _ _ _⟩
  subst he
  have C1 := readNum_any A c (lb.drop k) w HRD.out
  rw [List.length_drop, hS] at C1
  have hrok := readN_ok (lb.drop k) (h.byt.drop k)
  have hrb := readN_bad (lb.drop k)
  have hrn : rnum lb k 0 18446744073709551615 = rnum lb k 0 18446744073709551615 := rfl
  conv at hrn => rhs; unfold rnum
  rw [if_neg (by simp)] at hrn
  obtain ⟨⟨n, kk, x⟩, hr⟩ : ∃ r, readN (lb.drop k) = r := ⟨_, rfl⟩
  rw [hr] at hrok hrn C1 hrb
  simp only at C1 hrok hrn hrb
  have C1 := Lib.hid C1
  clear hr hin h
  by_cases hx : x = 0
  rotate_left
  · rw [if_pos hx] at hrn
    have HR := Lib.hid hrn
    obtain rfl := hrb hx
    have hxe : (x == 0) = false := beq_eq_false_iff_ne.2 hx
    have HS := Lib.hid hS
    clear hrn hrok hx hS hrb
    go_enter Try.func54, Try.ntmps54
    go_wp2_with fail
    refine C1.out.mono ?_
    rintro y w2 ⟨rfl, hw2⟩
    obtain rfl := hw2.symm
    go_wp2
    go_ret
    rw [HR.out]
    have hf : Blk (w.setCell ⟨ge, 0, none⟩ (.int .i64 x)) ge 34 #[.int .i64 x] := HE.out.set_ 0 (.int .i64 x)
    exact ⟨rfl, ⟨A, c, HB.out.far (p := ⟨ge, 0, none⟩) hnbe _, hf, HIN.out, hk, hcap⟩, ⟨_, only_setCell (p := ⟨ge, 0, none⟩) (World.grownBy.refl w (some ge)) (.inl rfl) _, World.grownBy.refl _ _⟩⟩
  subst hx
  clear hrb
  obtain ⟨hk1, hk2, hk3, hn1, hn2⟩ := hrok rfl
  rw [if_neg (by simp)] at hrn
  clear hrok
  rw [if_neg (by omega)] at hrn
  obtain ⟨j, rfl⟩ := Int.eq_ofNat_of_zero_le (show 0 ≤ kk by omega)
  rw [Int.toNat_natCast] at hrn
  rw [List.length_drop] at hk2
  have HR := Lib.hid hrn
  obtain ⟨A', c', hcut, hin'⟩ := cut8n (A := A) (c := c) (n := lb.length - k) (j := j) (by omega) hcap
  rw [hS] at hcut
  have hjl : j ≤ lb.length - k := by omega
  have hc' : lb.length - (k + j) ≤ c' := by
    have h1 := (hin' w (lb.drop k) (by rw [List.length_drop]) HRD.out).cap
    rw [List.length_drop, List.length_drop] at h1
    omega
  have HI2 : Hid (∀ W, In8 W A0 c0 lb → In8 W A' c' (lb.drop (k + j))) := fun W hW => by
    have := hin' W (lb.drop k) (by rw [List.length_drop]) (HIN.out W hW)
    rw [List.drop_drop] at this
    exact this
  obtain ⟨m, hm2⟩ : ∃ m, lb.length - k - j = m := ⟨_, rfl⟩
  rw [hm2] at hcut
  have HM : Hid (m = lb.length - (k + j)) := by
    show _ = _
    omega
  clear hk1 hk2 hk3 hrn hn1 hn2 hin' hS hm2 HRD
  go_enter Try.func54, Try.ntmps54
  go_wp2_with fail
  refine C1.out.mono ?_
  rintro y w2 ⟨rfl, hw2⟩
  obtain rfl := hw2.symm
  have hf1 : Blk (w.setCell ⟨ge, 0, none⟩ (.int .i64 0)) ge 34 #[.int .i64 0] := HE.out.set_ 0 (.int .i64 0)
  have hf2 : Blk (w.setCell ⟨ge, 0, none⟩ (.int .i64 0)) gb 75 #[S] := hb3.far (p := ⟨ge, 0, none⟩) hnbe _
  have g0 : (w.setCell ⟨ge, 0, none⟩ (.int .i64 0)).cell? ⟨gb, 0, none⟩ = some S := hf2.cell 0
  have g1 : (w.setCell ⟨ge, 0, none⟩ (.int .i64 0)).cell? ⟨ge, 0, none⟩ = some (.int .i64 0) := hf1.cell 0
  have g2 := hf2.frozen 0
  have HF1 := Lib.hid hf1
  have HF2 := Lib.hid hf2
  clear hf1 hf2
  go_wp2
  go_ret
  rw [HR.out]
  have hf : Blk ((w.setCell ⟨ge, 0, none⟩ (.int .i64 0)).setCell ⟨gb, 0, none⟩ (.slice A' m c')) gb 75 #[.slice A' m c'] := HF2.out.set_ 0 (.slice A' m c')
  rw [HM.out] at hf ⊢
  exact ⟨rfl, ⟨A', c', hf, HF1.out.far (p := ⟨gb, 0, none⟩) (fun e => hnbe e.symm) _, HI2.out, by show k + j ≤ lb.length; omega, hc'⟩, ⟨_, only_setCell (p := ⟨ge, 0, none⟩) (World.grownBy.refl w (some ge)) (.inl rfl) _, only_setCell (p := ⟨gb, 0, none⟩) (World.grownBy.refl _ (some gb)) (.inl rfl) _⟩⟩
end Go.Proofs.Ytadkkhbbempaaaa

/- Records read: what stands when the code's Decode begins. -/
namespace Go.Proofs.Ytadkkhbbempaaaa
set_option maxRecDepth 100000
open Go.RowKit

/-- Bytes that a conversion made, in block b. -/
def By (w : World) (b : Nat) (lb : List Int) : Prop := ∃ cs fr, w.heap[b]? = some (.cells cs 5 fr) ∧ ∀ j (hj : j < lb.length), cs[j]? = some (.int .u8 lb[j])
theorem By.lt {w : World} {b : Nat} {lb : List Int} (h : By w b lb) : b < w.heap.size := by
  obtain ⟨cs, fr, h, _⟩ := h
  exact (Array.getElem?_eq_some_iff.1 h).1
theorem By.of_block {w w' : World} {b : Nat} {lb : List Int} (h : By w b lb) (e : w'.heap[b]? = w.heap[b]?) : By w' b lb := by
  obtain ⟨cs, fr, h, h2⟩ := h
  exact ⟨cs, fr, e.trans h, h2⟩
theorem By.grown {w w' : World} {b : Nat} {lb : List Int} {row : Option Nat} (h : By w b lb) (hg : w.grownBy w' row) (hne : some b ≠ row) : By w' b lb := h.of_block (hg.block b h.lt hne)
theorem By.below {w w' : World} {b B : Nat} {lb : List Int} (h : By w b lb) (hg : Below B w w') (hB : b < B) : By w' b lb := h.of_block (hg.block b hB)
theorem By.ne {w : World} {b g : Nat} {lb : List Int} {T : TypeId} {cs : Array Value} (h : By w b lb) (hb : Blk w g T cs) (hT : 5 ≠ T) : b ≠ g := by
  rintro rfl
  obtain ⟨cs, fr, h, _⟩ := h
  unfold Blk at hb
  rw [h] at hb
  injection hb with hb
  injection hb with _ hb
  exact hT hb
theorem By.in8 {w : World} {b c : Nat} {lb : List Int} (h : By w b lb) (hb : Byt lb) (hc : lb.length ≤ c) (hs : lb.length ≤ 140737488355328) : In8 w (some ⟨b, 0, none⟩) c lb := by
  have hlt := h.lt
  obtain ⟨cs, fr, h, h2⟩ := h
  refine ⟨⟨u8s_length lb ▸ (Nat.mul_one _).symm, fun _ => ⟨b, 0, rfl, hlt, fun j u hu => ?_⟩⟩, hb, hc, hs⟩
  rw [Nat.zero_add, cell_of_row w b j cs _ fr h]
  have hj : j < lb.length := by
    have := (List.getElem?_eq_some_iff.1 hu).1
    rwa [u8s_length] at this
  rw [u8s_get hj] at hu
  rw [h2 j hj, hu]
theorem by_conv (w : World) (s : ByteArray) : By (Lib.bytesWorld w 5 s) w.heap.size (bytes s) := by
  refine ⟨_, _, Lib.bytesWorld_at_new w _ s, fun j hj => ?_⟩
  have hj' : j < s.size := by rw [bytes_length] at hj; exact hj
  have h := Lib.bytesWorld_cell w 5 s j hj'
  rw [cell_of_row _ _ _ _ _ _ (Lib.bytesWorld_at_new w 5 s)] at h
  rw [h]
  have hd : j < s.data.toList.length := by simpa using hj'
  simp only [bytes, List.getElem_map, List.getD_eq_getElem?_getD, List.getElem?_eq_getElem hd, Option.getD_some]
theorem conv_below (w : World) (s : ByteArray) : Below w.heap.size w (Lib.bytesWorld w 5 s) :=
  ⟨by simp [Lib.bytesWorld, World.freeze, World.alloc, World.drew, -World.alloc_eq, -World.drew_eq], by simp [Lib.bytesWorld, World.freeze, World.alloc, World.drew, -World.alloc_eq, -World.drew_eq], by simp [Lib.bytesWorld, World.freeze, World.alloc, World.drew, -World.alloc_eq, -World.drew_eq], by rw [Lib.bytesWorld_size]; omega, fun i hi => Lib.bytesWorld_at_old w _ s i hi⟩

structure RG (w W : World) (g : Nat) (lb : List Int) (p6 : Option (Nat × Nat)) (p7 : Option (Nat × Array Value)) (p8 : Option (Nat × Value)) (p9 : Option Nat) : Prop where
  res : Blk W g 48 (recC rc0 ra0)
  bel : Below g w W
  b6 : ∀ b c, p6 = some (b, c) → By W b lb ∧ lb.length ≤ c
  b7 : ∀ i cs, p7 = some (i, cs) → Blk W i 48 cs ∧ g < i
  b8 : ∀ i v, p8 = some (i, v) → Blk W i 75 #[v] ∧ g < i
  b9 : ∀ i, p9 = some i → Blk W i 34 #[.int .i64 0] ∧ g < i
section
variable {w W : World} {g : Nat} {lb : List Int} {p6 : Option (Nat × Nat)} {p7 : Option (Nat × Array Value)} {p8 : Option (Nat × Value)} {p9 : Option Nat}
theorem RG.keep (h : RG w W g lb p6 p7 p8 p9) {W1 : World} (hb : Below W.heap.size W W1) : RG w W1 g lb p6 p7 p8 p9 := by
  have hl := h.res.lt
  refine ⟨h.res.below hb hl, h.bel.trans (hb.mono (Nat.le_of_lt hl)), fun b c e => ?_, fun i cs e => ?_, fun i v e => ?_, fun i e => ?_⟩
  · exact ⟨(h.b6 b c e).1.below hb (h.b6 b c e).1.lt, (h.b6 b c e).2⟩
  · exact ⟨(h.b7 i cs e).1.below hb (h.b7 i cs e).1.lt, (h.b7 i cs e).2⟩
  · exact ⟨(h.b8 i v e).1.below hb (h.b8 i v e).1.lt, (h.b8 i v e).2⟩
  · exact ⟨(h.b9 i e).1.below hb (h.b9 i e).1.lt, (h.b9 i e).2⟩
theorem RG.new (h : RG w W g lb p6 p7 p8 p9) (o : Obj) : RG w (W.alloc o) g lb p6 p7 p8 p9 := h.keep ((Below.refl _ _).alloc (Nat.le_refl _) o)
theorem RG.a7 (h : RG w W g lb p6 p7 p8 p9) (cs : Array Value) : RG w (W.alloc (.cells cs 48)) g lb p6 (some (W.heap.size, cs)) p8 p9 := by
  have k := h.new (.cells cs 48)
  have hl := h.res.lt
  refine ⟨k.res, k.bel, k.b6, fun i cs' e => ?_, k.b8, k.b9⟩
  injection e with e
  injection e with e1 e2
  subst e1 e2
  exact ⟨Blk.new _ _ _, hl⟩
theorem RG.a8 (h : RG w W g lb p6 p7 p8 p9) (v : Value) : RG w (W.alloc (.cells #[v] 75)) g lb p6 p7 (some (W.heap.size, v)) p9 := by
  have k := h.new (.cells #[v] 75)
  have hl := h.res.lt
  refine ⟨k.res, k.bel, k.b6, k.b7, fun i v' e => ?_, k.b9⟩
  injection e with e
  injection e with e1 e2
  subst e1 e2
  exact ⟨Blk.new _ _ _, hl⟩
theorem RG.a9 (h : RG w W g lb p6 p7 p8 p9) : RG w (W.alloc (.cells #[.int .i64 0] 34)) g lb p6 p7 p8 (some W.heap.size) := by
  have k := h.new (.cells #[.int .i64 0] 34)
  have hl := h.res.lt
  refine ⟨k.res, k.bel, k.b6, k.b7, k.b8, fun i e => ?_⟩
  injection e with e1
  subst e1
  exact ⟨Blk.new _ _ _, hl⟩
theorem RG.c6 {s : ByteArray} (h : RG w W g (bytes s) p6 p7 p8 p9) {c : Nat} (hc : s.size ≤ c) : RG w (Lib.bytesWorld W 5 s) g (bytes s) (some (W.heap.size, c)) p7 p8 p9 := by
  have k := h.keep (conv_below W s)
  refine ⟨k.res, k.bel, fun b c' e => ?_, k.b7, k.b8, k.b9⟩
  injection e with e
  injection e with e1 e2
  subst e1 e2
  exact ⟨by_conv W s, by rw [bytes_length]; exact hc⟩
theorem RG.s10 {i : Nat} {old : Array Value} (h : RG w W g lb p6 (some (i, old)) p8 p9) (cs : Array Value) : RG w (W.setRow i cs) g lb p6 (some (i, cs)) p8 p9 := by
  obtain ⟨h7, hi⟩ := h.b7 i old rfl
  refine ⟨h.res.rowFar (by omega), row_below h.bel (by omega) _, fun b c e => ?_, fun i' cs' e => ?_, fun j v e => ?_, fun j e => ?_⟩
  · obtain ⟨k1, k2⟩ := h.b6 b c e
    exact ⟨k1.of_block (row_block b (k1.ne h7 (by decide))), k2⟩
  · injection e with e
    injection e with e1 e2
    subst e1 e2
    exact ⟨h7.row, hi⟩
  · obtain ⟨k1, k2⟩ := h.b8 j v e
    exact ⟨k1.rowFar (k1.ne_ h7 (by decide)), k2⟩
  · obtain ⟨k1, k2⟩ := h.b9 j e
    exact ⟨k1.rowFar (k1.ne_ h7 (by decide)), k2⟩
theorem RG.s11 {i : Nat} {old : Value} (h : RG w W g lb p6 p7 (some (i, old)) p9) (v : Value) : RG w (W.setCell ⟨i, 0, none⟩ v) g lb p6 p7 (some (i, v)) p9 := by
  obtain ⟨h8, hi⟩ := h.b8 i old rfl
  refine ⟨h.res.far (p := ⟨i, 0, none⟩) (by show g ≠ i; omega) v, h.bel.setCell (p := ⟨i, 0, none⟩) (by show g ≤ i; omega) v, fun b c e => ?_, fun j cs e => ?_, fun j v' e => ?_, fun j e => ?_⟩
  · obtain ⟨k1, k2⟩ := h.b6 b c e
    exact ⟨k1.of_block (Below.heap_setCell W ⟨i, 0, none⟩ v b (k1.ne h8 (by decide))), k2⟩
  · obtain ⟨k1, k2⟩ := h.b7 j cs e
    exact ⟨k1.far (p := ⟨i, 0, none⟩) (k1.ne_ h8 (by decide)) v, k2⟩
  · injection e with e
    injection e with e1 e2
    subst e1 e2
    exact ⟨h8.set_ 0 v, hi⟩
  · obtain ⟨k1, k2⟩ := h.b9 j e
    exact ⟨k1.far (p := ⟨i, 0, none⟩) (k1.ne_ h8 (by decide)) v, k2⟩
theorem RG.s12 {i : Nat} (h : RG w W g lb p6 p7 p8 (some i)) : RG w (W.setCell ⟨i, 0, none⟩ (.int .i64 0)) g lb p6 p7 p8 (some i) := by
  obtain ⟨h9, hi⟩ := h.b9 i rfl
  refine ⟨h.res.far (p := ⟨i, 0, none⟩) (by show g ≠ i; omega) _, h.bel.setCell (p := ⟨i, 0, none⟩) (by show g ≤ i; omega) _, fun b c e => ?_, fun j cs e => ?_, fun j v' e => ?_, fun j e => ?_⟩
  · obtain ⟨k1, k2⟩ := h.b6 b c e
    exact ⟨k1.of_block (Below.heap_setCell W ⟨i, 0, none⟩ _ b (k1.ne h9 (by decide))), k2⟩
  · obtain ⟨k1, k2⟩ := h.b7 j cs e
    exact ⟨k1.far (p := ⟨i, 0, none⟩) (k1.ne_ h9 (by decide)) _, k2⟩
  · obtain ⟨k1, k2⟩ := h.b8 j v' e
    exact ⟨k1.far (p := ⟨i, 0, none⟩) (k1.ne_ h9 (by decide)) _, k2⟩
  · injection e with e1
    subst e1
    exact ⟨h9.set_ 0 _, hi⟩
end
end Go.Proofs.Ytadkkhbbempaaaa

/- Snapshots read: what is read (plain), and what stands in memory while the code reads. -/
namespace Go.Proofs.Ytadkkhbbempaaaa
set_option maxRecDepth 100000
open Go.RowKit

/-! ### Plain -/
/-- A row of Held. -/
def dHd (lb : List Int) (k : Nat) (e : Int) : Hd × Nat × Int :=
  let a := rnum lb k e 65535
  let b := rnum lb a.2.1 a.2.2 65535
  let c := rnum lb b.2.1 b.2.2 18446744073709551615
  let d := rnum lb c.2.1 c.2.2 18446744073709551615
  let f := rnum lb d.2.1 d.2.2 18446744073709551615
  (⟨a.1, b.1, c.1, d.1, f.1⟩, f.2)
def decH (lb : List Int) : Nat → Nat → Int → List Hd × Nat × Int
  | 0, k, e => ([], k, e)
  | c + 1, k, e => ((dHd lb k e).1 :: (decH lb c (dHd lb k e).2.1 (dHd lb k e).2.2).1, (decH lb c (dHd lb k e).2.1 (dHd lb k e).2.2).2)
/-- A row of Last. -/
def dLs (lb : List Int) (k : Nat) (e : Int) : Ls × Nat × Int :=
  let a := rnum lb k e 65535
  let b := rnum lb a.2.1 a.2.2 18446744073709551615
  let c := rnum lb b.2.1 b.2.2 18446744073709551615
  let d := rnum lb c.2.1 c.2.2 65535
  let f := rnum lb d.2.1 d.2.2 65535
  let g := rnum lb f.2.1 f.2.2 18446744073709551615
  (⟨a.1, b.1, c.1, d.1, f.1, g.1⟩, g.2)
def decL (lb : List Int) : Nat → Nat → Int → List Ls × Nat × Int
  | 0, k, e => ([], k, e)
  | c + 1, k, e => ((dLs lb k e).1 :: (decL lb c (dLs lb k e).2.1 (dLs lb k e).2.2).1, (decL lb c (dLs lb k e).2.1 (dLs lb k e).2.2).2)
def sI (lb : List Int) := rnum lb 1 0 18446744073709551615
def sT (lb : List Int) := rnum lb (sI lb).2.1 (sI lb).2.2 18446744073709551615
def sCn (lb : List Int) := rnum lb (sT lb).2.1 (sT lb).2.2 64
def sNs (lb : List Int) := decNodes lb (sCn lb).1.toNat (sCn lb).2.1 (sCn lb).2.2
def sLim (lb : List Int) := rnum lb (sNs lb).2.1 (sNs lb).2.2 65535
def sNxt (lb : List Int) := rnum lb (sLim lb).2.1 (sLim lb).2.2 18446744073709551615
def sCh (lb : List Int) := rnum lb (sNxt lb).2.1 (sNxt lb).2.2 64
def sHs (lb : List Int) := decH lb (sCh lb).1.toNat (sCh lb).2.1 (sCh lb).2.2
def sCl (lb : List Int) := rnum lb (sHs lb).2.1 (sHs lb).2.2 64
def sLs (lb : List Int) := decL lb (sCl lb).1.toNat (sCl lb).2.1 (sCl lb).2.2
/-- The reader's error in the end. -/
def sE1 (lb : List Int) : Int := if (sLs lb).2.2 = 0 ∧ (sLs lb).2.1 < lb.length then 11 else (sLs lb).2.2
/-- The error of the whole. -/
noncomputable def sE (lb : List Int) : Int :=
  if 8192 < lb.length then 2 else if lb.length = 0 then 10 else if lb.head? ≠ some 83 then 11
  else if sE1 lb = 0 then errShot (decide (ShotOk (sI lb).1 (sT lb).1 (sNs lb).1 (sLim lb).1 (sNxt lb).1 (sHs lb).1 (sLs lb).1)) else sE1 lb

/-! ### In memory -/
theorem own_own_ne {w : World} {base base' : Nat} {e e' : TypeId} {s s' n n' : Nat} {v v' : Value} {xs xs' : List Value} (h : w.ownsRow base e s v n xs) (h' : w.ownsRow base' e' s' v' n' xs') (hne : e ≠ e') {b : Nat} (hb : v'.ownBlock = some b) : v.ownBlock ≠ some b := by
  rcases h'.2 with ⟨rfl, _⟩ | ⟨g', cap, cur, rfl, _, hh, _⟩
  · simp [Value.ownBlock] at hb
  · simp only [Value.ownBlock, Option.some.injEq] at hb
    subst hb
    exact own_blk_ne h hh hne
structure SDo (g gr gs B : Nat) : Prop where
  h1 : g < gr
  h2 : gr < gs
  h3 : gs < B
structure SD (w : World) (g gr gs B : Nat) (A0 : Option Addr) (c0 : Nat) (lb : List Int) (wx : World) (i t : Int) (sn : Value) (ns : List Int) (lim nxt : Int) (sh : Value) (hs : List Hd) (sl : Value) (ls : List Ls) (k : Nat) (e : Int) : Prop where
  res : Blk wx g 29 (shC 0 0 (.slice none 0 0) 0 0 (.slice none 0 0) (.slice none 0 0))
  rd : RC wx gr A0 c0 lb k e
  cm : Blk wx gs 29 (shC i t sn lim nxt sh sl)
  bel : Below g w wx
  sz : B ≤ wx.heap.size
  on : OwnN .i64 3 wx B sn ns
  oh : wx.ownsRow B 98 5 sh hs.length (hs.flatMap hdC)
  ol : wx.ownsRow B 123 6 sl ls.length (ls.flatMap lsC)
theorem t_ih : (3 : TypeId) ≠ 98 := by decide
theorem t_il : (3 : TypeId) ≠ 123 := by decide
theorem t_hl : (98 : TypeId) ≠ 123 := by decide
theorem kept_gr {w w1 : World} {B b n s : Nat} {e : TypeId} {v : Value} {xs : List Value} (h : w.ownsRow B e s v n xs) (hg : w.grownBy w1 (some b)) (hb : b < B) : w1.ownsRow B e s v n xs := by
  refine h.kept hg ?_
  cases hv : v.ownBlock with
  | none => exact .inl rfl
  | some i =>
    have := own_base h i hv
    exact .inr (fun hh => by injection hh with hh; omega)

section
variable {w : World} {g gr gs B : Nat} {A0 : Option Addr} {c0 : Nat} {lb : List Int} {wx : World} {i t : Int} {sn : Value} {ns : List Int} {lim nxt : Int} {sh : Value} {hs : List Hd} {sl : Value} {ls : List Ls} {k : Nat} {e : Int}
theorem SD.drew (h : SD w g gr gs B A0 c0 lb wx i t sn ns lim nxt sh hs sl ls k e) : SD w g gr gs B A0 c0 lb wx.drew i t sn ns lim nxt sh hs sl ls k e :=
  ⟨h.res, h.rd, h.cm, h.bel.drew, h.sz, h.on, h.oh, h.ol⟩
/-- Behind a call of the reader. -/
theorem SD.call (h : SD w g gr gs B A0 c0 lb wx i t sn ns lim nxt sh hs sl ls k e) (o : SDo g gr gs B) {w1 : World} {k1 : Nat} {e1 : Int} (hr : RC w1 gr A0 c0 lb k1 e1) (hg : wx.grownBy w1 (some gr)) :
    SD w g gr gs B A0 c0 lb w1 i t sn ns lim nxt sh hs sl ls k1 e1 := by
  have o1 := o.h1
  have o2 := o.h2
  have o3 := o.h3
  have hz := h.sz
  have hne : ∀ j, j ≠ gr → some j ≠ some gr := fun j hj hh => hj (by injection hh)
  exact ⟨h.res.grown hg (hne _ (by omega)), hr, h.cm.grown hg (hne _ (by omega)), h.bel.grown hg (by omega) (fun j hj => by injection hj with hj; omega), Nat.le_trans h.sz hg.size,
    kept_gr h.on hg (by omega), kept_gr h.oh hg (by omega), kept_gr h.ol hg (by omega)⟩
theorem SD.wide (h : SD w g gr gs B A0 c0 lb wx i t sn ns lim nxt sh hs sl ls k e) (o : SDo g gr gs B) (hI : ∀ W, Below g w W → In8 W A0 c0 lb) :
    Calls Try.prog 90 #[.pointer (some ⟨gr, 0, none⟩)] wx fun x w' => x = .returned (.int .u64 (rnum lb k e 18446744073709551615).1) ∧
      SD w g gr gs B A0 c0 lb w' i t sn ns lim nxt sh hs sl ls (rnum lb k e 18446744073709551615).2.1 (rnum lb k e 18446744073709551615).2.2 :=
  (swide_any wx gr A0 c0 lb k e (hI _ h.bel) h.rd).mono fun _ _ ⟨hx, hr, hg⟩ => ⟨hx, h.call o hr hg⟩
theorem SD.many (h : SD w g gr gs B A0 c0 lb wx i t sn ns lim nxt sh hs sl ls k e) (o : SDo g gr gs B) (hI : ∀ W, Below g w W → In8 W A0 c0 lb) :
    Calls Try.prog 91 #[.pointer (some ⟨gr, 0, none⟩)] wx fun x w' => x = .returned (.int .u64 (rnum lb k e 64).1) ∧
      SD w g gr gs B A0 c0 lb w' i t sn ns lim nxt sh hs sl ls (rnum lb k e 64).2.1 (rnum lb k e 64).2.2 :=
  (smany_any wx gr A0 c0 lb k e (hI _ h.bel) h.rd).mono fun _ _ ⟨hx, hr, hg⟩ => ⟨hx, h.call o hr hg⟩
theorem SD.small (h : SD w g gr gs B A0 c0 lb wx i t sn ns lim nxt sh hs sl ls k e) (o : SDo g gr gs B) (hI : ∀ W, Below g w W → In8 W A0 c0 lb) :
    Calls Try.prog 92 #[.pointer (some ⟨gr, 0, none⟩)] wx fun x w' => x = .returned (.int .i64 (rnum lb k e 65535).1) ∧
      SD w g gr gs B A0 c0 lb w' i t sn ns lim nxt sh hs sl ls (rnum lb k e 65535).2.1 (rnum lb k e 65535).2.2 :=
  (ssmall_any wx gr A0 c0 lb k e (hI _ h.bel) h.rd).mono fun _ _ ⟨hx, hr, hg⟩ => ⟨hx, h.call o hr hg⟩
/-- A cell of the snapshot is set; its rows are what they are. -/
theorem SD.setc (h : SD w g gr gs B A0 c0 lb wx i t sn ns lim nxt sh hs sl ls k e) (o : SDo g gr gs B) (j : Nat) (u : Value) {i' t' lim' nxt' : Int} {sn' sh' sl' : Value}
    (hcs : ([Value.int .u64 i, .int .u64 t, sn, .int .i64 lim, .int .u64 nxt, sh, sl].set j u).toArray = shC i' t' sn' lim' nxt' sh' sl') {ns' : List Int} {hs' : List Hd} {ls' : List Ls}
    (on : OwnN .i64 3 wx B sn' ns') (oh : wx.ownsRow B 98 5 sh' hs'.length (hs'.flatMap hdC)) (ol : wx.ownsRow B 123 6 sl' ls'.length (ls'.flatMap lsC)) :
    SD w g gr gs B A0 c0 lb (wx.setCell ⟨gs, j, none⟩ u) i' t' sn' ns' lim' nxt' sh' hs' sl' ls' k e := by
  have o1 := o.h1
  have o2 := o.h2
  have o3 := o.h3
  have hz := h.sz
  have hg : wx.grownBy (wx.setCell ⟨gs, j, none⟩ u) (some gs) := only_setCell (p := ⟨gs, j, none⟩) (World.grownBy.refl wx (some gs)) (.inl rfl) u
  have hne : ∀ j, j ≠ gs → some j ≠ some gs := fun j hj hh => hj (by injection hh)
  exact ⟨h.res.grown hg (hne _ (by omega)), h.rd.grown hg (hne _ (by omega)), hcs ▸ Blk.setL (l := [Value.int .u64 i, .int .u64 t, sn, .int .i64 lim, .int .u64 nxt, sh, sl]) h.cm j u, h.bel.grown hg (by omega) (fun j hj => by injection hj with hj; omega),
    Nat.le_trans h.sz hg.size, kept_gr on hg o3, kept_gr oh hg o3, kept_gr ol hg o3⟩
/-- Behind an append to one of the rows (the others' blocks are of other kinds). -/
theorem SD.appN (h : SD w g gr gs B A0 c0 lb wx i t sn ns lim nxt sh hs sl ls k e) (o : SDo g gr gs B) {w1 : World} {v1 : Value} {ns1 : List Int} (hg : wx.grownBy w1 sn.ownBlock) (ho : OwnN .i64 3 w1 B v1 ns1) :
    SD w g gr gs B A0 c0 lb (w1.setCell ⟨gs, 2, none⟩ v1) i t v1 ns1 lim nxt sh hs sl ls k e := by
  have o1 := o.h1
  have o2 := o.h2
  have o3 := o.h3
  have hz := h.sz
  have hb := own_base h.on
  have hne : ∀ j, j < B → some j ≠ sn.ownBlock := fun j hj hh => by have := hb j hh.symm; omega
  have hoh : w1.ownsRow B 98 5 sh hs.length (hs.flatMap hdC) := h.oh.kept hg (by
    cases hv : sh.ownBlock with
    | none => exact .inl rfl
    | some b => exact .inr (fun hh => own_own_ne h.on h.oh t_ih hv hh.symm))
  have hol : w1.ownsRow B 123 6 sl ls.length (ls.flatMap lsC) := h.ol.kept hg (by
    cases hv : sl.ownBlock with
    | none => exact .inl rfl
    | some b => exact .inr (fun hh => own_own_ne h.on h.ol t_il hv hh.symm))
  have hg2 : w1.grownBy (w1.setCell ⟨gs, 2, none⟩ v1) (some gs) := only_setCell (p := ⟨gs, 2, none⟩) (World.grownBy.refl w1 (some gs)) (.inl rfl) v1
  have hne2 : ∀ j, j ≠ gs → some j ≠ some gs := fun j hj hh => hj (by injection hh)
  have hbel : Below g w w1 := h.bel.grown hg (by omega) (fun j hj => by have := hb j hj; omega)
  exact ⟨(h.res.grown hg (hne _ (by omega))).grown hg2 (hne2 _ (by omega)), (h.rd.grown hg (hne _ (by omega))).grown hg2 (hne2 _ (by omega)), Blk.setL (l := [Value.int .u64 i, .int .u64 t, sn, .int .i64 lim, .int .u64 nxt, sh, sl]) (h.cm.grown hg (hne _ (by omega))) 2 v1,
    hbel.grown hg2 (by have := hg.size; omega) (fun j hj => by injection hj with hj; omega), Nat.le_trans (Nat.le_trans h.sz hg.size) hg2.size, kept_gr ho hg2 o3, kept_gr hoh hg2 o3, kept_gr hol hg2 o3⟩
theorem SD.appH (h : SD w g gr gs B A0 c0 lb wx i t sn ns lim nxt sh hs sl ls k e) (o : SDo g gr gs B) {w1 : World} {v1 : Value} {hs1 : List Hd} (hg : wx.grownBy w1 sh.ownBlock) (ho : w1.ownsRow B 98 5 v1 hs1.length (hs1.flatMap hdC)) :
    SD w g gr gs B A0 c0 lb (w1.setCell ⟨gs, 5, none⟩ v1) i t sn ns lim nxt v1 hs1 sl ls k e := by
  have o1 := o.h1
  have o2 := o.h2
  have o3 := o.h3
  have hz := h.sz
  have hb := own_base h.oh
  have hne : ∀ j, j < B → some j ≠ sh.ownBlock := fun j hj hh => by have := hb j hh.symm; omega
  have hon : OwnN .i64 3 w1 B sn ns := World.ownsRow.kept h.on hg (by
    cases hv : sn.ownBlock with
    | none => exact .inl rfl
    | some b => exact .inr (fun hh => own_own_ne h.oh h.on t_ih.symm hv hh.symm))
  have hol : w1.ownsRow B 123 6 sl ls.length (ls.flatMap lsC) := h.ol.kept hg (by
    cases hv : sl.ownBlock with
    | none => exact .inl rfl
    | some b => exact .inr (fun hh => own_own_ne h.oh h.ol t_hl hv hh.symm))
  have hg2 : w1.grownBy (w1.setCell ⟨gs, 5, none⟩ v1) (some gs) := only_setCell (p := ⟨gs, 5, none⟩) (World.grownBy.refl w1 (some gs)) (.inl rfl) v1
  have hne2 : ∀ j, j ≠ gs → some j ≠ some gs := fun j hj hh => hj (by injection hh)
  have hbel : Below g w w1 := h.bel.grown hg (by omega) (fun j hj => by have := hb j hj; omega)
  exact ⟨(h.res.grown hg (hne _ (by omega))).grown hg2 (hne2 _ (by omega)), (h.rd.grown hg (hne _ (by omega))).grown hg2 (hne2 _ (by omega)), Blk.setL (l := [Value.int .u64 i, .int .u64 t, sn, .int .i64 lim, .int .u64 nxt, sh, sl]) (h.cm.grown hg (hne _ (by omega))) 5 v1,
    hbel.grown hg2 (by have := hg.size; omega) (fun j hj => by injection hj with hj; omega), Nat.le_trans (Nat.le_trans h.sz hg.size) hg2.size, kept_gr hon hg2 o3, kept_gr ho hg2 o3, kept_gr hol hg2 o3⟩
theorem SD.appL (h : SD w g gr gs B A0 c0 lb wx i t sn ns lim nxt sh hs sl ls k e) (o : SDo g gr gs B) {w1 : World} {v1 : Value} {ls1 : List Ls} (hg : wx.grownBy w1 sl.ownBlock) (ho : w1.ownsRow B 123 6 v1 ls1.length (ls1.flatMap lsC)) :
    SD w g gr gs B A0 c0 lb (w1.setCell ⟨gs, 6, none⟩ v1) i t sn ns lim nxt sh hs v1 ls1 k e := by
  have o1 := o.h1
  have o2 := o.h2
  have o3 := o.h3
  have hz := h.sz
  have hb := own_base h.ol
  have hne : ∀ j, j < B → some j ≠ sl.ownBlock := fun j hj hh => by have := hb j hh.symm; omega
  have hon : OwnN .i64 3 w1 B sn ns := World.ownsRow.kept h.on hg (by
    cases hv : sn.ownBlock with
    | none => exact .inl rfl
    | some b => exact .inr (fun hh => own_own_ne h.ol h.on t_il.symm hv hh.symm))
  have hoh : w1.ownsRow B 98 5 sh hs.length (hs.flatMap hdC) := h.oh.kept hg (by
    cases hv : sh.ownBlock with
    | none => exact .inl rfl
    | some b => exact .inr (fun hh => own_own_ne h.ol h.oh t_hl.symm hv hh.symm))
  have hg2 : w1.grownBy (w1.setCell ⟨gs, 6, none⟩ v1) (some gs) := only_setCell (p := ⟨gs, 6, none⟩) (World.grownBy.refl w1 (some gs)) (.inl rfl) v1
  have hne2 : ∀ j, j ≠ gs → some j ≠ some gs := fun j hj hh => hj (by injection hh)
  have hbel : Below g w w1 := h.bel.grown hg (by omega) (fun j hj => by have := hb j hj; omega)
  exact ⟨(h.res.grown hg (hne _ (by omega))).grown hg2 (hne2 _ (by omega)), (h.rd.grown hg (hne _ (by omega))).grown hg2 (hne2 _ (by omega)), Blk.setL (l := [Value.int .u64 i, .int .u64 t, sn, .int .i64 lim, .int .u64 nxt, sh, sl]) (h.cm.grown hg (hne _ (by omega))) 6 v1,
    hbel.grown hg2 (by have := hg.size; omega) (fun j hj => by injection hj with hj; omega), Nat.le_trans (Nat.le_trans h.sz hg.size) hg2.size, kept_gr hon hg2 o3, kept_gr hoh hg2 o3, kept_gr ho hg2 o3⟩
end
theorem nums_flat (l : List Int) : nums .i64 l = l.flatMap fun z => [Value.int .i64 z] := by
  induction l with
  | nil => rfl
  | cons z l ih => rw [List.flatMap_cons, ← ih]; rfl
theorem SD.alloc {w : World} {g gr gs B : Nat} {A0 : Option Addr} {c0 : Nat} {lb : List Int} {wx : World} {i t : Int} {sn : Value} {ns : List Int} {lim nxt : Int} {sh : Value} {hs : List Hd} {sl : Value} {ls : List Ls} {k : Nat} {e : Int} (h : SD w g gr gs B A0 c0 lb wx i t sn ns lim nxt sh hs sl ls k e) (o : SDo g gr gs B) (ob : Obj) : SD w g gr gs B A0 c0 lb (wx.alloc ob) i t sn ns lim nxt sh hs sl ls k e := by
  have o1 := o.h1
  have o2 := o.h2
  have o3 := o.h3
  have hz := h.sz
  have hb : Below wx.heap.size wx (wx.alloc ob) := (Below.refl _ _).alloc (Nat.le_refl _) _
  exact ⟨h.res.alloc ob, h.rd.grown (World.grownBy_alloc _ _ none) (by simp), h.cm.alloc ob, h.bel.trans (hb.mono (by omega)), Nat.le_trans hz hb.size, own_below h.on hb, own_below h.oh hb, own_below h.ol hb⟩
theorem RC.below {w w1 : World} {gr : Nat} {A0 : Option Addr} {c0 : Nat} {lb : List Int} {k : Nat} {e : Int} {B : Nat} (h : RC w gr A0 c0 lb k e) (hb : Below B w w1) (hg : gr < B) : RC w1 gr A0 c0 lb k e := by
  obtain ⟨A, c, h1, h2⟩ := h
  exact ⟨A, c, h1.below hb hg, h2⟩
theorem SD.below {w : World} {g gr gs B : Nat} {A0 : Option Addr} {c0 : Nat} {lb : List Int} {wx : World} {i t : Int} {sn : Value} {ns : List Int} {lim nxt : Int} {sh : Value} {hs : List Hd} {sl : Value} {ls : List Ls} {k : Nat} {e : Int} (h : SD w g gr gs B A0 c0 lb wx i t sn ns lim nxt sh hs sl ls k e) (o : SDo g gr gs B) {w1 : World} (hb : Below wx.heap.size wx w1) : SD w g gr gs B A0 c0 lb w1 i t sn ns lim nxt sh hs sl ls k e := by
  have o1 := o.h1
  have o2 := o.h2
  have o3 := o.h3
  have hz := h.sz
  exact ⟨h.res.below hb (by omega), h.rd.below hb (by omega), h.cm.below hb (by omega), h.bel.trans (hb.mono (by omega)), Nat.le_trans hz hb.size, own_below h.on hb, own_below h.oh hb, own_below h.ol hb⟩
/-- The reader's error is set. -/
theorem SD.err {w : World} {g gr gs B : Nat} {A0 : Option Addr} {c0 : Nat} {lb : List Int} {wx : World} {i t : Int} {sn : Value} {ns : List Int} {lim nxt : Int} {sh : Value} {hs : List Hd} {sl : Value} {ls : List Ls} {k : Nat} {e : Int} (h : SD w g gr gs B A0 c0 lb wx i t sn ns lim nxt sh hs sl ls k e) (o : SDo g gr gs B) (e1 : Int) : SD w g gr gs B A0 c0 lb (wx.setCell ⟨gr, 1, none⟩ (.int .i64 e1)) i t sn ns lim nxt sh hs sl ls k e1 := by
  have hg : wx.grownBy (wx.setCell ⟨gr, 1, none⟩ (.int .i64 e1)) (some gr) := only_setCell (p := ⟨gr, 1, none⟩) (World.grownBy.refl wx (some gr)) (.inl rfl) _
  obtain ⟨A, c, hb, h2⟩ := h.rd
  exact h.call o ⟨A, c, Blk.setL (l := [Value.slice A (lb.length - k) c, .int .i64 e]) hb 1 _, h2⟩ hg
/-- append(v, x): one element, in a block just made; as a step of a region that draws its order. -/
theorem step_one {α : Type} {f : α → List Value} {s bytes : Nat} {T E : TypeId} {z0 : Value} (hT : Try.prog.underlying T = some (.slice E)) (hinfo : (Try.prog.info? E).map (fun i => (i.zero, i.size, i.bytes)) = some (some z0, s, bytes)) (hz : z0.cells.size = s) (hs0 : 0 < s) (hfl : ∀ x, (f x).length = s) (hone : ∀ x, ∀ u ∈ f x, u.oneCell' = true)
    {ops : Array Oper} {o : Oper} {a : Act} {K : Act → World → Prop} {Q : Exit → Act → World → Prop} {EE : Prop} {W : World} {cs : Array Value} (base : Nat) (hgd : o.guard = none) (sx x : Operand)
    (ho : o.op = .call { callee := .builtin .append, args := #[sx, x], argTypes := #[T, T] })
    (v : Value) (l : List α) (y : α) (hs : a.eval sx = v) (hcs : cs = (f y).toArray) (hx : a.eval x = .slice (some ⟨W.heap.size, 0, none⟩) 1 1) (HO : W.ownsRow base E s v l.length (l.flatMap f)) (hbase : base ≤ W.heap.size) (hl : (l.length + 1) * bytes ≤ 1000000) (hb1 : 1 ≤ bytes)
    (h : ∀ v1 w1, w1.ownsRow base E s v1 (l ++ [y]).length ((l ++ [y]).flatMap f) → W.grownBy w1 v.ownBlock → K (a.put o.dst v1) w1) :
    if Region.wanted o (yielded ops a.tmps) = true then Oper.wp Try.prog o a (W.alloc (.cells cs E)) K Q else EE := by
  have hr : Reads (W.alloc (.cells cs E)) (W.heap.size + 1) s (some ⟨W.heap.size, 0, none⟩) 1 (f y) := by
    subst hcs
    refine ⟨by rw [hfl, Nat.one_mul], fun _ => ⟨W.heap.size, 0, rfl, by omega, fun j u hu => ?_⟩⟩
    rw [Nat.zero_add, World.cell?_alloc_mark]
    simpa using hu
  obtain ⟨i0, hi, hz0, hz1, hz2⟩ := info_parts hinfo
  have hO := World.ownsRow.alloc HO (.cells cs E)
  have hlen : l.length + 1 ≤ (l.length + 1) * bytes := Nat.le_mul_of_pos_right _ hb1
  refine step_append_any _ hgd sx x T ho base E i0 z0 s bytes hT hi hz0 hz1 hz2 hz hs0 v l.length (l.flatMap f) hs hO (W.heap.size + 1) _ _ _ (f y) hx hr (hone y) (by simp only [maxLen]; omega) (by omega) (by simp; omega) ?_
  intro v1 w1 ho1 hg _
  refine h v1 w1 ?_ (World.grownBy.trans (World.grownBy_alloc W _ _) hg)
  rw [List.length_append, List.length_singleton, List.flatMap_append, List.flatMap_singleton]
  exact ho1
theorem RC.le {w : World} {gr : Nat} {A0 : Option Addr} {c0 : Nat} {lb : List Int} {k : Nat} {e : Int} (h : RC w gr A0 c0 lb k e) : k ≤ lb.length := by
  obtain ⟨_, _, _, _, h, _⟩ := h
  exact h
section
variable {w : World} {g gr gs B : Nat} {A0 : Option Addr} {c0 : Nat} {lb : List Int} {wx : World} {i t : Int} {sn : Value} {ns : List Int} {lim nxt : Int} {sh : Value} {hs : List Hd} {sl : Value} {ls : List Ls} {k : Nat} {e : Int}
theorem SD.wideB (h : SD w g gr gs B A0 c0 lb wx i t sn ns lim nxt sh hs sl ls k e) (o : SDo g gr gs B) (hI : ∀ W, Below g w W → In8 W A0 c0 lb) {gx : Nat} {T : TypeId} {cs : Array Value} (hx : Blk wx gx T cs) (hne : gx ≠ gr) :
    Calls Try.prog 90 #[.pointer (some ⟨gr, 0, none⟩)] wx fun x w' => x = .returned (.int .u64 (rnum lb k e 18446744073709551615).1) ∧
      SD w g gr gs B A0 c0 lb w' i t sn ns lim nxt sh hs sl ls (rnum lb k e 18446744073709551615).2.1 (rnum lb k e 18446744073709551615).2.2 ∧ Blk w' gx T cs :=
  (swide_any wx gr A0 c0 lb k e (hI _ h.bel) h.rd).mono fun _ _ ⟨hx2, hr, hg⟩ => ⟨hx2, h.call o hr hg, hx.grown hg (fun hh => by injection hh with hh; exact hne hh)⟩
theorem SD.smallB (h : SD w g gr gs B A0 c0 lb wx i t sn ns lim nxt sh hs sl ls k e) (o : SDo g gr gs B) (hI : ∀ W, Below g w W → In8 W A0 c0 lb) {gx : Nat} {T : TypeId} {cs : Array Value} (hx : Blk wx gx T cs) (hne : gx ≠ gr) :
    Calls Try.prog 92 #[.pointer (some ⟨gr, 0, none⟩)] wx fun x w' => x = .returned (.int .i64 (rnum lb k e 65535).1) ∧
      SD w g gr gs B A0 c0 lb w' i t sn ns lim nxt sh hs sl ls (rnum lb k e 65535).2.1 (rnum lb k e 65535).2.2 ∧ Blk w' gx T cs :=
  (ssmall_any wx gr A0 c0 lb k e (hI _ h.bel) h.rd).mono fun _ _ ⟨hx2, hr, hg⟩ => ⟨hx2, h.call o hr hg, hx.grown hg (fun hh => by injection hh with hh; exact hne hh)⟩
/-- A cell of a block apart is set. -/
theorem SD.setX (h : SD w g gr gs B A0 c0 lb wx i t sn ns lim nxt sh hs sl ls k e) (o : SDo g gr gs B) {gx : Nat} (hx : B ≤ gx) (n1 : sn.ownBlock ≠ some gx) (n2 : sh.ownBlock ≠ some gx) (n3 : sl.ownBlock ≠ some gx) (j : Nat) (u : Value) :
    SD w g gr gs B A0 c0 lb (wx.setCell ⟨gx, j, none⟩ u) i t sn ns lim nxt sh hs sl ls k e := by
  have o1 := o.h1
  have o2 := o.h2
  have o3 := o.h3
  have hz := h.sz
  have hg : wx.grownBy (wx.setCell ⟨gx, j, none⟩ u) (some gx) := only_setCell (p := ⟨gx, j, none⟩) (World.grownBy.refl wx (some gx)) (.inl rfl) u
  have hne : ∀ j, j ≠ gx → some j ≠ some gx := fun j hj hh => hj (by injection hh)
  refine ⟨h.res.grown hg (hne _ (by omega)), h.rd.grown hg (hne _ (by omega)), h.cm.grown hg (hne _ (by omega)), h.bel.grown hg (by omega) (fun j hj => by injection hj with hj; omega), Nat.le_trans h.sz hg.size, World.ownsRow.kept h.on hg (.inr n1), h.oh.kept hg (.inr n2), h.ol.kept hg (.inr n3)⟩
end
theorem grown_set7 (w : World) (g : Nat) (u0 u1 u2 u3 u4 u5 u6 : Value) :
    w.grownBy (((((((w.setCell ⟨g, 0, none⟩ u0).setCell ⟨g, 1, none⟩ u1).setCell ⟨g, 2, none⟩ u2).setCell ⟨g, 3, none⟩ u3).setCell ⟨g, 4, none⟩ u4).setCell ⟨g, 5, none⟩ u5).setCell ⟨g, 6, none⟩ u6) (some g) := by
  refine only_setCell (only_setCell (only_setCell (only_setCell (only_setCell (only_setCell (only_setCell (World.grownBy.refl _ _) ?_ _) ?_ _) ?_ _) ?_ _) ?_ _) ?_ _) ?_ _
  all_goals exact .inl rfl
theorem wf_small {z : Int} (h1 : 0 ≤ z) (h2 : z ≤ 65535) : (Lit.int .i64 z).wf = true := by
  simp [Lit.wf, IntKind.min, IntKind.max, IntKind.bits, IntKind.signed]
  omega
theorem dHd_wf {lb : List Int} (hb : Byt lb) {k : Nat} (hk : k ≤ lb.length) (e : Int) : (dHd lb k e).1.Wf ∧ (dHd lb k e).2.1 ≤ lb.length := by
  have a := rnum_le hb hk e (most := 65535) (by decide)
  have b := rnum_le hb a.2.2.1 (rnum lb k e 65535).2.2 (most := 65535) (by decide)
  unfold dHd
  simp only
  obtain ⟨⟨a1, ka, ea⟩, ra⟩ : ∃ r, rnum lb k e 65535 = r := ⟨_, rfl⟩
  rw [ra] at a b ⊢
  simp only at a b ⊢
  have c := rnum_le hb b.2.2.1 (rnum lb ka ea 65535).2.2 (most := 18446744073709551615) (by decide)
  obtain ⟨⟨b1, kb, eb⟩, rb⟩ : ∃ r, rnum lb ka ea 65535 = r := ⟨_, rfl⟩
  rw [rb] at b c ⊢
  simp only at b c ⊢
  have d := rnum_le hb c.2.2.1 (rnum lb kb eb 18446744073709551615).2.2 (most := 18446744073709551615) (by decide)
  obtain ⟨⟨c1, kc, ec⟩, rc⟩ : ∃ r, rnum lb kb eb 18446744073709551615 = r := ⟨_, rfl⟩
  rw [rc] at c d ⊢
  simp only at c d ⊢
  have f := rnum_le hb d.2.2.1 (rnum lb kc ec 18446744073709551615).2.2 (most := 18446744073709551615) (by decide)
  obtain ⟨⟨d1, kd, ed⟩, rd⟩ : ∃ r, rnum lb kc ec 18446744073709551615 = r := ⟨_, rfl⟩
  rw [rd] at d f ⊢
  simp only at d f ⊢
  exact ⟨⟨wf_small a.1 a.2.1, wf_small b.1 b.2.1, ⟨c.1, c.2.2.2⟩, ⟨d.1, d.2.2.2⟩, ⟨f.1, f.2.2.2⟩⟩, f.2.2.1⟩
theorem decH_mem {lb : List Int} (hb : Byt lb) : ∀ (c k : Nat) (e : Int), k ≤ lb.length → (decH lb c k e).1.length = c ∧ (∀ h ∈ (decH lb c k e).1, h.Wf) ∧ (decH lb c k e).2.1 ≤ lb.length := by
  intro c
  induction c with
  | zero => intro k e hk; exact ⟨rfl, (fun z hz => by cases hz), hk⟩
  | succ c ih =>
    intro k e hk
    obtain ⟨r1, r2⟩ := dHd_wf hb hk e
    obtain ⟨i1, i2, i3⟩ := ih (dHd lb k e).2.1 (dHd lb k e).2.2 r2
    refine ⟨by simp [decH, i1], fun z hz => ?_, i3⟩
    simp only [decH, List.mem_cons] at hz
    rcases hz with rfl | hz
    · exact r1
    · exact i2 z hz
theorem dLs_wf {lb : List Int} (hb : Byt lb) {k : Nat} (hk : k ≤ lb.length) (e : Int) : (dLs lb k e).1.Wf ∧ (dLs lb k e).2.1 ≤ lb.length := by
  have a := rnum_le hb hk e (most := 65535) (by decide)
  have b := rnum_le hb a.2.2.1 (rnum lb k e 65535).2.2 (most := 18446744073709551615) (by decide)
  unfold dLs
  simp only
  obtain ⟨⟨a1, ka, ea⟩, ra⟩ : ∃ r, rnum lb k e 65535 = r := ⟨_, rfl⟩
  rw [ra] at a b ⊢
  simp only at a b ⊢
  have c := rnum_le hb b.2.2.1 (rnum lb ka ea 18446744073709551615).2.2 (most := 18446744073709551615) (by decide)
  obtain ⟨⟨b1, kb, eb⟩, rb⟩ : ∃ r, rnum lb ka ea 18446744073709551615 = r := ⟨_, rfl⟩
  rw [rb] at b c ⊢
  simp only at b c ⊢
  have d := rnum_le hb c.2.2.1 (rnum lb kb eb 18446744073709551615).2.2 (most := 65535) (by decide)
  obtain ⟨⟨c1, kc, ec⟩, rc⟩ : ∃ r, rnum lb kb eb 18446744073709551615 = r := ⟨_, rfl⟩
  rw [rc] at c d ⊢
  simp only at c d ⊢
  have f := rnum_le hb d.2.2.1 (rnum lb kc ec 65535).2.2 (most := 65535) (by decide)
  obtain ⟨⟨d1, kd, ed⟩, rd⟩ : ∃ r, rnum lb kc ec 65535 = r := ⟨_, rfl⟩
  rw [rd] at d f ⊢
  simp only at d f ⊢
  have q := rnum_le hb f.2.2.1 (rnum lb kd ed 65535).2.2 (most := 18446744073709551615) (by decide)
  obtain ⟨⟨f1, kf, ef⟩, rf⟩ : ∃ r, rnum lb kd ed 65535 = r := ⟨_, rfl⟩
  rw [rf] at f q ⊢
  simp only at f q ⊢
  exact ⟨⟨wf_small a.1 a.2.1, ⟨b.1, b.2.2.2⟩, ⟨c.1, c.2.2.2⟩, wf_small d.1 d.2.1, wf_small f.1 f.2.1, ⟨q.1, q.2.2.2⟩⟩, q.2.2.1⟩
theorem decL_mem {lb : List Int} (hb : Byt lb) : ∀ (c k : Nat) (e : Int), k ≤ lb.length → (decL lb c k e).1.length = c ∧ (∀ h ∈ (decL lb c k e).1, h.Wf) ∧ (decL lb c k e).2.1 ≤ lb.length := by
  intro c
  induction c with
  | zero => intro k e hk; exact ⟨rfl, (fun z hz => by cases hz), hk⟩
  | succ c ih =>
    intro k e hk
    obtain ⟨r1, r2⟩ := dLs_wf hb hk e
    obtain ⟨i1, i2, i3⟩ := ih (dLs lb k e).2.1 (dLs lb k e).2.2 r2
    refine ⟨by simp [decL, i1], fun z hz => ?_, i3⟩
    simp only [decL, List.mem_cons] at hz
    rcases hz with rfl | hz
    · exact r1
    · exact i2 z hz
theorem step_oneN {ops : Array Oper} {o : Oper} {a : Act} {K : Act → World → Prop} {Q : Exit → Act → World → Prop} {EE : Prop} {W : World} {cs : Array Value} (base : Nat) (hgd : o.guard = none) (sx x : Operand)
    (ho : o.op = .call { callee := .builtin .append, args := #[sx, x], argTypes := #[23, 23] })
    (v : Value) (l : List Int) (y : Int) (hs : a.eval sx = v) (hcs : cs = #[.int .i64 y]) (hx : a.eval x = .slice (some ⟨W.heap.size, 0, none⟩) 1 1) (HO : OwnN .i64 3 W base v l) (hbase : base ≤ W.heap.size) (hl : l.length ≤ 100)
    (h : ∀ v1 w1, OwnN .i64 3 w1 base v1 (l ++ [y]) → W.grownBy w1 v.ownBlock → K (a.put o.dst v1) w1) :
    if Region.wanted o (yielded ops a.tmps) = true then Oper.wp Try.prog o a (W.alloc (.cells cs 3)) K Q else EE := by
  unfold OwnN at HO h
  rw [nums_flat] at HO
  refine step_one (f := fun z => [Value.int .i64 z]) Try.underlying23 info_int rfl (by omega) (fun _ => rfl) (fun _ u hu => by simp only [List.mem_singleton] at hu; subst hu; rfl) base hgd sx x ho v l y hs hcs hx HO hbase (by omega) (by omega) (fun v1 w1 h1 h2 => h v1 w1 ?_ h2)
  rw [nums_flat]
  exact h1
theorem step_oneH {ops : Array Oper} {o : Oper} {a : Act} {K : Act → World → Prop} {Q : Exit → Act → World → Prop} {EE : Prop} {W : World} {cs : Array Value} (base : Nat) (hgd : o.guard = none) (sx x : Operand)
    (ho : o.op = .call { callee := .builtin .append, args := #[sx, x], argTypes := #[24, 24] })
    (v : Value) (l : List Hd) (y : Hd) (hs : a.eval sx = v) (hcs : cs = hdA y) (hx : a.eval x = .slice (some ⟨W.heap.size, 0, none⟩) 1 1) (HO : W.ownsRow base 98 5 v l.length (l.flatMap hdC)) (hbase : base ≤ W.heap.size) (hl : l.length ≤ 100)
    (h : ∀ v1 w1, w1.ownsRow base 98 5 v1 (l ++ [y]).length ((l ++ [y]).flatMap hdC) → W.grownBy w1 v.ownBlock → K (a.put o.dst v1) w1) :
    if Region.wanted o (yielded ops a.tmps) = true then Oper.wp Try.prog o a (W.alloc (.cells cs 98)) K Q else EE :=
  step_one (f := hdC) Try.underlying24 info_Held rfl (by omega) hdC_len hdC_one base hgd sx x ho v l y hs hcs hx HO hbase (by omega) (by omega) h
theorem step_oneL {ops : Array Oper} {o : Oper} {a : Act} {K : Act → World → Prop} {Q : Exit → Act → World → Prop} {EE : Prop} {W : World} {cs : Array Value} (base : Nat) (hgd : o.guard = none) (sx x : Operand)
    (ho : o.op = .call { callee := .builtin .append, args := #[sx, x], argTypes := #[25, 25] })
    (v : Value) (l : List Ls) (y : Ls) (hs : a.eval sx = v) (hcs : cs = lsA y) (hx : a.eval x = .slice (some ⟨W.heap.size, 0, none⟩) 1 1) (HO : W.ownsRow base 123 6 v l.length (l.flatMap lsC)) (hbase : base ≤ W.heap.size) (hl : l.length ≤ 100)
    (h : ∀ v1 w1, w1.ownsRow base 123 6 v1 (l ++ [y]).length ((l ++ [y]).flatMap lsC) → W.grownBy w1 v.ownBlock → K (a.put o.dst v1) w1) :
    if Region.wanted o (yielded ops a.tmps) = true then Oper.wp Try.prog o a (W.alloc (.cells cs 123)) K Q else EE :=
  step_one (f := lsC) Try.underlying25 info_Last rfl (by omega) lsC_len lsC_one base hgd sx x ho v l y hs hcs hx HO hbase (by omega) (by omega) h
end Go.Proofs.Ytadkkhbbempaaaa
