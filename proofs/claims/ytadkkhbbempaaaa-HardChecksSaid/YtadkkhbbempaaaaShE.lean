/- Snapshots' bytes: plain; the code's lay, the document's num. -/
import Derived.Test.YtadkkhbbempaaaaEnc
import Derived.Test.YtadkkhbbempaaaaShM
namespace Go.Proofs.Ytadkkhbbempaaaa
set_option maxRecDepth 100000
open Go.RowKit

theorem InN.grown {k : IntKind} {w w' : World} {A : Option Addr} {c : Nat} {l : List Int} {r : Option Nat} (h : InN k w A c l) (hg : w.grownBy w' r) (hne : ∀ b off, A = some ⟨b, off, none⟩ → some b ≠ r) : InN k w' A c l := by
  refine ⟨⟨h.reads.1, fun h0 => ?_⟩, h.wf, h.cap, h.small⟩
  obtain ⟨b, off, e, hb, hc⟩ := h.reads.2 h0
  exact ⟨b, off, e, Nat.lt_of_lt_of_le hb hg.size, fun j u hu => (World.cell?_of_block (hg.block b hb (hne b off e))).trans (hc j u hu)⟩
/-- All of them are words. -/
def Wds (l : List Int) : Prop := ∀ z ∈ l, 0 ≤ z ∧ z < 18446744073709551616
theorem Wds.wfs {l : List Int} (h : Wds l) : Wfs .u64 l := fun z hz => by
  have := h z hz
  simp [Lit.wf, IntKind.min, IntKind.max, IntKind.bits, IntKind.signed]
  omega

set_option maxHeartbeats 1000000 in
theorem lay_any (w : World) (base : Nat) (v : Value) (lb : List Int) (A : Option Addr) (c : Nat) (l : List Int) (hlb : lb.length ≤ 1000000) (hl : l.length ≤ 10) (hu : Wds l) (ho : Own8 w base v lb) (hbase : base ≤ w.heap.size)
    (hin : ∀ w', w.grownBy w' v.ownBlock → InN .u64 w' A c l) :
    Calls Try.prog 85 #[v, .slice A l.length c] w fun e w' => ∃ v', e = .returned v' ∧ Own8 w' base v' (lb ++ numsB l) ∧ Grow w v.ownBlock w' v' := by
  have HIN := Lib.hid hin
  have hcap := (hin w (World.grownBy.refl _ _)).cap
  have CN := fun x hx w => Lib.hid (num_any x hx w)
  have HO := Lib.hid ho
  have HU := Lib.hid hu
  have hbs := own_base ho
  clear hin ho hu
  obtain ⟨A0, c0, rfl⟩ := own_slice HO.out
  obtain ⟨r0, hr0⟩ : ∃ r0, (Value.slice A0 lb.length c0).ownBlock = r0 := ⟨_, rfl⟩
  have hG0 : Grow w r0 w (Value.slice A0 lb.length c0) := hr0 ▸ Grow.refl _ _
  rw [hr0] at hbs HIN ⊢
  have HG0 := Lib.hid hG0
  have HBS := Lib.hid hbs
  clear hr0 hG0 hbs
  go_enter Try.func85, Try.ntmps85
  go_wp2_with fail
  go_loopw [0, 6, 9] (fun x z i wr => ∃ k : Nat, k ≤ l.length ∧ i = .int .i64 k ∧ Own8 wr base x (lb ++ numsB (l.take k)) ∧ Grow w r0 wr x) (fun _ _ i _ => l.length - (intOf i).toNat)
  case atStart => exact ⟨0, by omega, rfl, by simpa [numsB] using HO.out, HG0.out⟩
  case round =>
    clear HG0
    obtain ⟨k, hk, rfl, hrow, hG⟩ := hrel
    have HG := Lib.hid hG
    have HR := Lib.hid hrow
    have HB := Lib.hid (hG.below hbase HBS.out)
    clear hrow
    by_cases hlt : k < l.length
    · obtain ⟨b, off, rfl, hcell⟩ := (HIN.out _ hG.grown).all (by omega)
      have hck := hcell k hlt
      have hmem := HU.out _ (List.getElem_mem hlt)
      have HST := Lib.hid (numsB_take_succ l hlt)
      have hn9 := numsB_le (l.take k)
      rw [List.length_take, Nat.min_eq_left (by omega)] at hn9
      clear hcell hG
      obtain ⟨z, hz⟩ : ∃ z, l[k] = z := ⟨_, rfl⟩
      rw [hz] at hck hmem HST
      clear hz
      obtain ⟨n, rfl⟩ : ∃ n : Nat, z = (n : Int) := ⟨z.toNat, by omega⟩
      have C1 := CN n (by omega)
      have hnb := numB_le n
      rw [Int.toNat_natCast] at HST
      go_wp2_with fail
      refine (C1 _).out.mono ?_
      rintro e w1 ⟨v1, rfl, ho1, hB1⟩
      have HO1 := Lib.hid (own_below HR.out hB1)
      have HX1 := Lib.hid ho1
      have HB1 := Lib.hid (HB.out.trans (hB1.mono (Nat.le_trans hbase HB.out.size)))
      have HG1 := Lib.hid (HG.out.step hB1)
      clear ho1 hB1
      go_wp2_with (at_builtin; refine app_row (w0 := w) base rfl _ _ rfl _ (lb ++ numsB (l.take k)) rfl _ _ _ rfl HO1.out HX1.out HB1.out (Nat.le_trans hbase HB1.out.size) (by simp only [List.length_append]; omega) ?_; intro v2 w2 ho2 hB2 hG2)
      have HO2 := Lib.hid ho2
      have HG2 := Lib.hid (hG2 _ _ HG1.out)
      clear ho2 hB2 hG2
      go_roundw
      case rel => exact ⟨k + 1, by omega, by go_num, by rw [HST.out]; simpa using HO2.out, HG2.out⟩
      case measure => simp [intOf]; omega
    · obtain rfl : k = l.length := by omega
      clear hG
      go_wp2
      go_ret
      exact ⟨_, rfl, by simpa using HR.out, HG.out⟩

/-- lay(b, x, ..): the numbers lie in a block just made. -/
theorem lay_lit (wx : World) (base : Nat) (v : Value) (lb : List Int) (l : List Int) (cs : Array Value) (p n : Nat) (hp : p = wx.heap.size) (hn : n = l.length) (hcs : cs = (nums .u64 l).toArray) (hlb : lb.length ≤ 1000000) (hl : l.length ≤ 10) (hu : Wds l) (ho : Own8 wx base v lb) (hbase : base ≤ wx.heap.size) :
    Calls Try.prog 85 #[v, .slice (some ⟨p, 0, none⟩) n n] (wx.alloc (.cells cs 22)) fun e w' => ∃ v', e = .returned v' ∧ Own8 w' base v' (lb ++ numsB l) ∧ Grow wx v.ownBlock w' v' := by
  subst hp hn
  have hb : Below wx.heap.size wx (wx.alloc (.cells cs 22)) := (Below.refl _ _).alloc (Nat.le_refl _) _
  refine (lay_any (wx.alloc (.cells cs 22)) base v lb (some ⟨wx.heap.size, 0, none⟩) l.length l hlb hl hu (own_below ho hb) (Nat.le_trans hbase hb.size) (fun w' hg => ?_)).mono fun e w' ⟨v', he, h1, h2⟩ => ⟨v', he, h1, ?_⟩
  · refine (InN.lit wx l hu.wfs (by omega) cs (0, 0) hcs).grown hg (fun b off e hh => ?_)
    injection e with e
    injection e with e _ _
    subst e
    have := (World.ownsRow.lt ho wx.heap.size hh.symm).2
    omega
  · exact ((Grow.refl wx v).step hb).then_ h2

theorem r06_num_any (w : World) (base : Nat) (v : Value) (lb : List Int) (n : Nat) (hn : n < 18446744073709551616) (hlb : lb.length ≤ 1000000) (ho : Own8 w base v lb) (hbase : base ≤ w.heap.size) :
    Calls Try.prog 88 #[v, .int .u64 n] w fun e w' => ∃ v', e = .returned v' ∧ Own8 w' base v' (lb ++ numB n) ∧ Grow w v.ownBlock w' v' := by
  have C1 := fun w => Lib.hid (refNum_any n hn w)
  have hnb := numB_le n
  have HO := Lib.hid ho
  have HG := Lib.hid (Grow.refl w v)
  obtain ⟨A0, c0, rfl⟩ := own_slice ho
  clear ho
  go_enter Try.func88, Try.ntmps88
  go_wp2_with fail
  refine (C1 _).out.mono ?_
  rintro e w1 ⟨v1, rfl, ho1, hB1⟩
  have HO1 := Lib.hid (own_below HO.out hB1)
  have HX1 := Lib.hid ho1
  have HB1 := Lib.hid (hB1.mono hbase)
  have HG1 := Lib.hid (HG.out.step hB1)
  clear ho1 hB1
  go_wp2_with (at_builtin; refine app_row (w0 := w) base rfl _ _ rfl _ lb rfl _ _ _ rfl HO1.out HX1.out HB1.out (Nat.le_trans hbase HB1.out.size) (by omega) ?_; intro v2 w2 ho2 hB2 hG2)
  have HO2 := Lib.hid ho2
  have HG2 := Lib.hid (hG2 _ _ HG1.out)
  clear ho2 hB2 hG2
  go_ret
  exact ⟨_, rfl, HO2.out, HG2.out⟩

/-! ### Plain -/
def hdL (h : Hd) : List Int := [h.tok, h.nod, h.bt, h.ser, h.stp]
def lsL (x : Ls) : List Int := [x.nod, x.bt, x.sq, x.cod, x.tok, x.ser]
/-- A snapshot's numbers, in order. -/
def shotL (i t : Int) (ns : List Int) (lim nxt : Int) (hs : List Hd) (ls : List Ls) : List Int :=
  [i, t, (ns.length : Int)] ++ (ns ++ ([lim, nxt, (hs.length : Int)] ++ (hs.flatMap hdL ++ ([(ls.length : Int)] ++ ls.flatMap lsL))))
/-- A snapshot's bytes. -/
def shotB (i t : Int) (ns : List Int) (lim nxt : Int) (hs : List Hd) (ls : List Ls) : List Int := 83 :: numsB (shotL i t ns lim nxt hs ls)
theorem LssOk.len {lim nxt : Int} {ls : List Ls} (h : LssOk lim nxt ls ls.length) : ls.length ≤ 7 := by
  have hge : ∀ j (hj : j < ls.length), (j : Int) + 1 ≤ ls[j].nod := by
    intro j
    induction j with
    | zero =>
      intro hj
      have := (h 0 hj hj).nod1
      omega
    | succ j ih =>
      intro hj
      have h1 := ih (by omega)
      have h2 := (h (j + 1) hj hj).rise (by omega) (by omega)
      simp only [Nat.add_sub_cancel] at h2
      omega
  rcases Nat.eq_zero_or_pos ls.length with h0 | h0
  · omega
  · have h1 := hge (ls.length - 1) (by omega)
    have h2 := (h (ls.length - 1) (by omega) (by omega)).nod2
    omega
end Go.Proofs.Ytadkkhbbempaaaa
