/- What lasts in new memory: the document's Entries, Copy. -/
import Derived.Test.YtadkkhbbempaaaaHdM
import Derived.Test.YtadkkhbbempaaaaShE
import Derived.Deep.RegionLaw
namespace Go.Proofs.Ytadkkhbbempaaaa
set_option maxRecDepth 100000
open Go.RowKit

/-- append(v, x) of one struct, as a step of a region that draws its order: any number of them. -/
theorem step_oneG {α : Type} {f : α → List Value} {s bytes : Nat} {T E : TypeId} {z0 : Value} {W : World} (hT : Try.prog.underlying T = some (.slice E)) (hinfo : (Try.prog.info? E).map (fun i => (i.zero, i.size, i.bytes)) = some (some z0, s, bytes)) (hz : z0.cells.size = s) (hs0 : 0 < s) (hfl : ∀ x, (f x).length = s) (hone : ∀ x, ∀ u ∈ f x, u.oneCell' = true)
    {ops : Array Oper} {o : Oper} {a : Act} {K : Act → World → Prop} {Q : Exit → Act → World → Prop} {EE : Prop} {cs : Array Value} (base : Nat) (hgd : o.guard = none) (sx x : Operand)
    (ho : o.op = .call { callee := .builtin .append, args := #[sx, x], argTypes := #[T, T] })
    (v : Value) (l : List α) (y : α) (hs : a.eval sx = v) (hcs : cs = (f y).toArray) (hx : a.eval x = .slice (some ⟨W.heap.size, 0, none⟩) 1 1) (HO : W.ownsRow base E s v l.length (l.flatMap f)) (hbase : base ≤ W.heap.size) (hl : (l.length + 1) * bytes ≤ 140737488355328) (hb1 : 1 ≤ bytes)
    (h : ∀ v1 w1, w1.ownsRow base E s v1 (l ++ [y]).length ((l ++ [y]).flatMap f) → W.grownBy w1 v.ownBlock → (v1.ownBlock = v.ownBlock ∨ ∃ b, v1.ownBlock = some b ∧ W.heap.size ≤ b) → K (a.put o.dst v1) w1) :
    if Region.wanted o (yielded ops a.tmps) = true then Oper.wp Try.prog o a (W.alloc (.cells cs E)) K Q else EE := by
  have hr : Reads (W.alloc (.cells cs E)) (W.heap.size + 1) s (some ⟨W.heap.size, 0, none⟩) 1 (f y) := by
    subst hcs
    refine ⟨by rw [hfl, Nat.one_mul], fun _ => ⟨W.heap.size, 0, rfl, by omega, fun j u hu => ?_⟩⟩
    rw [Nat.zero_add, World.cell?_alloc_mark]
    simpa using hu
  obtain ⟨i0, hi, hz0, hz1, hz2⟩ := info_parts hinfo
  have hO := World.ownsRow.alloc HO (.cells cs E)
  have hlen : l.length + 1 ≤ (l.length + 1) * bytes := Nat.le_mul_of_pos_right _ hb1
  refine step_append_any _ hgd sx x T ho base E i0 z0 s bytes hT hi hz0 hz1 hz2 hz hs0 v l.length (l.flatMap f) hs hO (W.heap.size + 1) _ _ _ (f y) hx hr (hone y) (by simp only [maxLen]; omega) hl (by simp; omega) ?_
  intro v1 w1 ho1 hg hat
  refine h v1 w1 ?_ (World.grownBy.trans (World.grownBy_alloc W _ _) hg) ?_
  · rw [List.length_append, List.length_singleton, List.flatMap_append, List.flatMap_singleton]
    exact ho1
  · rcases hat with hat | hat
    · exact .inl hat
    · exact .inr ⟨_, hat, by simp⟩
/-- Entries in the call's own memory, from block base on. -/
structure OwE (w : World) (base : Nat) (A : Option Addr) (c : Nat) (xs : List Ec) : Prop where
  inn : InE w A c xs
  own : ∀ a, A = some a → base ≤ a.block
  lists : ∀ x ∈ xs, ∀ a, x.A = some a → base ≤ a.block
theorem OwE.keep {w w1 : World} {base : Nat} {A : Option Addr} {c : Nat} {xs : List Ec} (h : OwE w base A c xs) (hb : Below w.heap.size w w1) : OwE w1 base A c xs := ⟨h.inn.keep hb, h.own, h.lists⟩
theorem OwE.lower {w : World} {base base' : Nat} {A : Option Addr} {c : Nat} {xs : List Ec} (h : OwE w base A c xs) (hb : base' ≤ base) : OwE w base' A c xs := ⟨h.inn, fun a e => Nat.le_trans hb (h.own a e), fun x hx a e => Nat.le_trans hb (h.lists x hx a e)⟩
theorem InN.setx {k : IntKind} {w : World} {A : Option Addr} {c : Nat} {l : List Int} (h : InN k w A c l) {p : Addr} (hp : ∀ a, A = some a → p.block ≠ a.block) (u : Value) : InN k (w.setCell p u) A c l := by
  refine ⟨⟨h.reads.1, fun h0 => ?_⟩, h.wf, h.cap, h.small⟩
  obtain ⟨b, off, e, hb, hc⟩ := h.reads.2 h0
  refine ⟨b, off, e, by simpa [World.setCell] using hb, fun j u' hu => ?_⟩
  rw [World.cell?_setCell_other w p _ u (fun e2 => by have := hp _ e; rw [e2] at this; exact this rfl)]
  exact hc j u' hu
theorem OwE.set {w : World} {base : Nat} {A : Option Addr} {c : Nat} {xs : List Ec} (h : OwE w base A c xs) {p : Addr} (hp : p.block < base) (u : Value) : OwE (w.setCell p u) base A c xs :=
  ⟨⟨h.inn.rows.far (fun b off e => by have := h.own _ e; simp only at this; omega) u, fun x hx => (h.inn.inn x hx).setx (fun a e => by have := h.lists x hx a e; omega) u, h.inn.small⟩, h.own, h.lists⟩
/-- What is kept of the entries that have been copied, while a further one is. -/
structure Ent1 (w : World) (g : Nat) (v : Value) (ys : List Ec) : Prop where
  row : w.ownsRow g 46 9 v ys.length (ys.flatMap ecC)
  inn : ∀ y ∈ ys, InN .i64 w y.A y.c y.e.l
  own : ∀ y ∈ ys, ∀ a, y.A = some a → g ≤ a.block ∧ v.ownBlock ≠ some a.block
theorem Ent1.drew {w : World} {g : Nat} {v : Value} {ys : List Ec} (h : Ent1 w g v ys) : Ent1 w.drew g v ys := ⟨h.row, fun y hy => ⟨(h.inn y hy).reads.drew, (h.inn y hy).wf, (h.inn y hy).cap, (h.inn y hy).small⟩, h.own⟩
theorem Ent1.below {w w1 : World} {g : Nat} {v : Value} {ys : List Ec} (h : Ent1 w g v ys) (hb : Below w.heap.size w w1) : Ent1 w1 g v ys := ⟨own_below h.row hb, fun y hy => (h.inn y hy).keep hb, h.own⟩
theorem Ent1.push {w w1 : World} {g : Nat} {v v1 : Value} {ys : List Ec} {y : Ec} (h : Ent1 w g v ys) (hr : w1.ownsRow g 46 9 v1 (ys ++ [y]).length ((ys ++ [y]).flatMap ecC)) (hg : w.grownBy w1 v.ownBlock) (hat : v1.ownBlock = v.ownBlock ∨ ∃ b, v1.ownBlock = some b ∧ w.heap.size ≤ b)
    (hy : InN .i64 w y.A y.c y.e.l) (ho : ∀ a, y.A = some a → g ≤ a.block ∧ v.ownBlock ≠ some a.block) (hlt : ∀ a, y.A = some a → a.block < w.heap.size) (hlts : ∀ x ∈ ys, ∀ a, x.A = some a → a.block < w.heap.size) : Ent1 w1 g v1 (ys ++ [y]) := by
  have hne : ∀ a : Addr, v.ownBlock ≠ some a.block → a.block < w.heap.size → v1.ownBlock ≠ some a.block := by
    intro a h1 h2 h3
    rcases hat with q | ⟨b, q, hb⟩
    · exact h1 (q.symm.trans h3)
    · rw [q] at h3
      injection h3 with h3
      omega
  refine ⟨hr, fun x hx => ?_, fun x hx a ha => ?_⟩
  · rcases List.mem_append.1 hx with q | q
    · exact (h.inn x q).grown hg (fun b off e hh => (h.own x q _ e).2 hh.symm)
    · rw [List.mem_singleton] at q
      subst q
      exact hy.grown hg (fun b off e hh => (ho _ e).2 hh.symm)
  · rcases List.mem_append.1 hx with q | q
    · exact ⟨(h.own x q a ha).1, hne a (h.own x q a ha).2 (hlts x q a ha)⟩
    · rw [List.mem_singleton] at q
      subst q
      exact ⟨(ho a ha).1, hne a (ho a ha).2 (hlt a ha)⟩

set_option maxHeartbeats 8000000 in
theorem r04_Entries_any (w : World) (A : Option Addr) (c : Nat) (xs : List Ec) (h : InE w A c xs) (hl : ∀ x ∈ xs, x.e.l.length ≤ 17592186043904) :
    Calls Try.prog 31 #[.slice A xs.length c] w fun e w' => ∃ A' c' ys, e = .returned (.slice A' ys.length c') ∧ ys.map (·.e) = xs.map (·.e) ∧ OwE w' w.heap.size A' c' ys ∧ Below w.heap.size w w' := by
  obtain ⟨g, hg⟩ : ∃ g, w.heap.size = g := ⟨_, rfl⟩
  rw [hg]
  have HIN := Lib.hid h
  have hsm := h.small
  have HLL := Lib.hid hl
  clear h hl
  go_enter Try.func31, Try.ntmps31
  go_wp2_with fail
  go_loopw [3, 5, 8] (fun v _ iv wr => ∃ (k : Nat) (ys : List Ec), iv = .int .i64 (k : Int) ∧ k ≤ xs.length ∧ ys.length = k ∧ ys.map (·.e) = (xs.take k).map (·.e) ∧ Ent1 wr g v ys ∧ Below g w wr ∧ (∀ y ∈ ys, ∀ a, y.A = some a → a.block < wr.heap.size)) (fun _ _ iv _ => xs.length - (intOf iv).toNat)
  case atStart => exact ⟨0, [], rfl, by omega, rfl, rfl, ⟨own_nil _ _ _ _, (fun y hy => by cases hy), (fun y hy => by cases hy)⟩, Below.refl _ _, fun y hy => by cases hy⟩
  case round =>
    obtain ⟨k, ys, rfl, hk, hyl, hym, hst, hB, hlts⟩ := hrel
    have HS := Lib.hid hst
    have HB := Lib.hid hB
    have HYM := Lib.hid hym
    have HYL := Lib.hid hyl
    have HLT := Lib.hid hlts
    clear hst hym hyl hlts
    by_cases hkl : k < xs.length
    · obtain ⟨b, off, rfl, hbb, hat⟩ := (HIN.out.keep (hg ▸ hB)).rows.ec (by omega)
      have hmem := List.getElem_mem hkl
      have hatk := hat k hkl
      have hinx := (HIN.out.keep (hg ▸ hB)).inn _ hmem
      have hlx := HLL.out _ hmem
      have htk : (xs.take (k + 1)).map (·.e) = (xs.take k).map (·.e) ++ [xs[k].e] := by
        rw [← List.take_append_getElem hkl, List.map_append]
        rfl
      obtain ⟨x, hx⟩ : ∃ x, xs[k] = x := ⟨_, rfl⟩
      rw [hx] at hatk hinx hlx htk
      obtain ⟨x0, x1, x2, x3, x4, x5, x6, x7, x8⟩ := hatk
      have HINX := Lib.hid hinx
      have HTK := Lib.hid htk
      clear hat hx hmem hinx htk hB
      have hgw : g ≤ wr.heap.size := by have := HB.out.size; omega
      obtain ⟨gx, hgx⟩ : ∃ gx, wr.heap.size = gx := ⟨_, rfl⟩
      have hx1 : Blk (wr.alloc (.cells (ecA x) 46)) gx 46 (ecA x) := hgx ▸ Blk.new _ _ _
      have hal : Below wr.heap.size wr (wr.alloc (.cells (ecA x) 46)) := (Below.refl _ _).alloc (Nat.le_refl _) _
      have hB1 := HB.out.alloc hgw (.cells (ecA x) 46)
      have hI1 := HINX.out.keep hal
      have hS1 := HS.out.below hal
      have hz1 : (wr.alloc (.cells (ecA x) 46)).heap.size = gx + 1 := by simp [hgx]
      have HLT1 : Hid (∀ y ∈ ys, ∀ a, y.A = some a → a.block < gx) := fun y hy a ha => by have := HLT.out y hy a ha; omega
      have HVB : Hid (∀ b, u3.ownBlock = some b → b < gx) := fun b hb => by have := (World.ownsRow.lt HS.out.row b hb).2; omega
      clear hal HS HLT
      go_upto_region 5 with (fail)
      change Code.wp _ _ _ _ (wr.alloc (.cells (ecA x) 46))
      generalize (wr.alloc (.cells (ecA x) 46)) = W5 at hx1 hB1 hI1 hS1 hz1 ⊢
      try rw [hgx]
      clear x0 x1 x2 x3 x4 x5 x6 x7 x8
      have HB1 := Lib.hid hB1
      have HX1 := Lib.hid hx1
      have HS1 := Lib.hid hS1
      have HZ5 : Hid (gx < W5.heap.size) := by show _ < _; omega
      have HZG : Hid (g ≤ W5.heap.size) := by show _ ≤ _; omega
      clear hz1
      obtain ⟨x0, x1, x2, x3, x4, x5, x6, x7, x8⟩ := hx1.ec
      have C7 := ref_Copy_own W5.drew x.e.k x.e.n x.e.t x.A x.c x.e.l x.e.b x.e.q x.e.s x.e.m ⟨hI1.reads.drew, hI1.wf, hI1.cap, hI1.small⟩ hlx
      unfold cmdV at C7
      have C7 := Lib.hid C7
      clear hgx hx1 hB1 hI1 hS1
      go_wp2_with fail
      go_region_law (first
        | (refine step_oneG (f := ecC) (W := w7) Try.underlying30 info_Entry rfl (by omega) ecC_len ecC_one g rfl _ _ rfl u3 ys ⟨A7, c7, x.e⟩ rfl rfl rfl H7.out.row HZ7.out (by have := HYL.out; omega) (by omega) ?_; intro v8 w8 ho8 hg8 hat8; have H8 := Lib.hid ho8; have HG8 := Lib.hid hg8; have HA8 := Lib.hid hat8; clear ho8 hg8 hat8)
        | (go_simp; go_at_call 41; refine C7.out.mono ?_; rintro q w7 ⟨A7, c7, rfl, hin7, hown7, hB7⟩; have hl7 : gx < w7.heap.size := Nat.lt_of_lt_of_le HZ5.out hB7.size; have c70 : w7.cell? ⟨gx, 0, none⟩ = some (.int .u64 x.e.tm) := ((HX1.out.drew.below hB7 HZ5.out).ec.c0); have H7 := Lib.hid (HS1.out.drew.below hB7); have HB7 := Lib.hid (HB1.out.drew.trans (hB7.mono HZG.out)); have HZ7 : Hid (g ≤ w7.heap.size) := Nat.le_trans HZG.out hB7.size; have HI7 := Lib.hid hin7; have HO7 := Lib.hid hown7; clear hB7 hin7 hown7))
      all_goals
        go_wp2
        go_roundw
        case rel =>
          have hlt7 : ∀ a, A7 = some a → a.block < w7.heap.size := fun a ha => (HO7.out a ha).2
          have hz7 : gx ≤ w7.heap.size := by omega
          refine ⟨k + 1, ys ++ [⟨A7, c7, x.e⟩], by go_num, by omega, by have := HYL.out; simp; omega, by rw [HTK.out, List.map_append, HYM.out]; rfl, H7.out.push H8.out HG8.out HA8.out HI7.out (fun a ha => by have h5 : W5.heap.size ≤ a.block := (HO7.out a ha).1; exact ⟨Nat.le_trans HZG.out h5, fun hh => by have := HVB.out _ hh; have := HZ5.out; omega⟩) hlt7 (fun y hy a ha => by have := HLT1.out y hy a ha; omega), HB7.out.grown HG8.out HZ7.out (fun j hj => own_base H7.out.row j hj), fun y hy a ha => ?_⟩
          have hs8 := HG8.out.size
          rcases List.mem_append.1 hy with q | q
          · have := HLT1.out y q a ha
            omega
          · rw [List.mem_singleton] at q
            subst q
            have := hlt7 a ha
            omega
        case measure => simp [intOf]; omega
    · obtain rfl : k = xs.length := by omega
      have hrow := HS.out.row
      obtain ⟨A8, c8, rfl, hc8, _, hrd⟩ := own_open hrow
      have HRD := Lib.hid hrd
      clear hrow hrd hB
      go_wp2
      go_ret
      refine ⟨A8, c8, ys, rfl, by rw [HYM.out, List.take_length], ⟨⟨⟨HRD.out, hc8, by have := HYL.out; omega⟩, HS.out.inn, by have := HYL.out; omega⟩, fun a ha => own_base HS.out.row a.block (by rw [ha]; rfl), fun y hy a ha => (HS.out.own y hy a ha).1⟩, HB.out⟩
end Go.Proofs.Ytadkkhbbempaaaa
