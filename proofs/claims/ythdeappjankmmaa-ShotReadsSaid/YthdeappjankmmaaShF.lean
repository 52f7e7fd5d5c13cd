/- Snapshots' bytes: the code's Encode. -/
import Derived.Test.YthdeappjankmmaaShE
namespace Go.Proofs.Ythdeappjankmmaa
set_option maxRecDepth 100000
open Go.RowKit

/-- What stands while a snapshot is written: its cells, the ledger's, the bytes of the numbers L. -/
structure ENs (w : World) (g gl base : Nat) (SH LD : Array Value) (wx : World) (v : Value) (L : List Int) : Prop where
  sh : Blk wx g 29 SH
  led : Blk wx gl 27 LD
  own : Own8 wx base v (83 :: numsB L)
  bel : Below g w wx
  sz : base ≤ wx.heap.size
structure ENo (g gl base : Nat) : Prop where
  h1 : g < gl
  h2 : gl < base
section
variable {w : World} {g gl base : Nat} {SH LD : Array Value} {wx : World} {v : Value} {L : List Int}
theorem ENs.alloc (h : ENs w g gl base SH LD wx v L) (o : ENo g gl base) (ob : Obj) : ENs w g gl base SH LD (wx.alloc ob) v L := by
  have o1 := o.h1
  have o2 := o.h2
  have hz := h.sz
  have hb : Below wx.heap.size wx (wx.alloc ob) := (Below.refl _ _).alloc (Nat.le_refl _) _
  exact ⟨h.sh.alloc ob, h.led.alloc ob, own_below h.own hb, h.bel.trans (hb.mono (by omega)), Nat.le_trans hz hb.size⟩
theorem ENs.grow (h : ENs w g gl base SH LD wx v L) (o : ENo g gl base) {w1 : World} {v1 : Value} {L1 : List Int} (hg : Grow wx v.ownBlock w1 v1) (ho : Own8 w1 base v1 (83 :: numsB L1)) : ENs w g gl base SH LD w1 v1 L1 := by
  have o1 := o.h1
  have o2 := o.h2
  have hz := h.sz
  have hb := own_base h.own
  have hne : ∀ i, i < base → some i ≠ v.ownBlock := fun i hi hh => by have := hb i hh.symm; omega
  exact ⟨h.sh.grown hg.grown (hne _ (by omega)), h.led.grown hg.grown (hne _ (by omega)), ho, h.bel.grown hg.grown (by omega) (fun i hi => by have := hb i hi; omega), Nat.le_trans hz hg.grown.size⟩
theorem numsB_len (L : List Int) (hL : L.length ≤ 1000) : (83 :: numsB L).length ≤ 1000000 := by
  have := numsB_le L
  rw [List.length_cons]
  omega
theorem ENs.lay (h : ENs w g gl base SH LD wx v L) (o : ENo g gl base) (l : List Int) (cs : Array Value) (p n : Nat) (hp : p = wx.heap.size) (hn : n = l.length) (hcs : cs = (nums .u64 l).toArray) (hL : L.length ≤ 1000) (hl : l.length ≤ 10) (hu : Wds l) :
    Calls Try.prog 33 #[v, .slice (some ⟨p, 0, none⟩) n n] (wx.alloc (.cells cs 23)) fun e w' => ∃ v', e = .returned v' ∧ ENs w g gl base SH LD w' v' (L ++ l) :=
  (lay_lit wx base v (83 :: numsB L) l cs p n hp hn hcs (numsB_len L hL) hl hu h.own h.sz).mono fun _ _ ⟨v', he, h1, h2⟩ => ⟨v', he, h.grow o h2 (by rw [numsB_append]; exact h1)⟩
end
theorem flatI_len {α : Type} {f : α → List Int} {s : Nat} (hf : ∀ x, (f x).length = s) : ∀ l : List α, (l.flatMap f).length = l.length * s := by
  intro l
  induction l with
  | nil => simp
  | cons x l ih => rw [List.flatMap_cons, List.length_append, ih, hf, List.length_cons, Nat.add_mul, Nat.one_mul, Nat.add_comm]
/-- Numbers of a snapshot that may be. -/
structure ShNums (i t : Int) (ns : List Int) (lim nxt : Int) (hs : List Hd) (ls : List Ls) : Prop where
  i : 0 ≤ i ∧ i < 18446744073709551616
  t : 0 ≤ t ∧ t < 18446744073709551616
  nsl : ns.length ≤ 7
  ns : ∀ z ∈ ns, 1 ≤ z ∧ z ≤ 7
  lim : 1 ≤ lim ∧ lim ≤ 65535
  nxt : 0 ≤ nxt ∧ nxt < 18446744073709551616
  hsl : hs.length ≤ 64
  hs : ∀ h ∈ hs, (1 ≤ h.tok ∧ h.tok ≤ 65535) ∧ (1 ≤ h.nod ∧ h.nod ≤ 7) ∧ (0 ≤ h.bt ∧ h.bt < 18446744073709551616) ∧ (0 ≤ h.ser ∧ h.ser < 18446744073709551616) ∧ (0 ≤ h.stp ∧ h.stp < 18446744073709551616)
  lsl : ls.length ≤ 7
  ls : ∀ x ∈ ls, (1 ≤ x.nod ∧ x.nod ≤ 7) ∧ (0 ≤ x.bt ∧ x.bt < 18446744073709551616) ∧ (0 ≤ x.sq ∧ x.sq < 18446744073709551616) ∧ (1 ≤ x.cod ∧ x.cod ≤ 5) ∧ (0 ≤ x.tok ∧ x.tok ≤ 65535) ∧ (0 ≤ x.ser ∧ x.ser < 18446744073709551616)
theorem ShotOk.nums {i t : Int} {ns : List Int} {lim nxt : Int} {hs : List Hd} {ls : List Ls} (h : ShotOk i t ns lim nxt hs ls) (hi : 0 ≤ i ∧ i < 18446744073709551616) (ht : 0 ≤ t ∧ t < 18446744073709551616) (hnx : 0 ≤ nxt ∧ nxt < 18446744073709551616)
    (hw1 : ∀ h ∈ hs, h.Wf) (hw2 : ∀ x ∈ ls, x.Wf) : ShNums i t ns lim nxt hs ls := by
  have hl1 := h.led.head.l1
  have hl2 := h.led.head.l2
  refine ⟨hi, ht, set_len h.set, fun z hz => ?_, ⟨hl1, hl2⟩, hnx, h.led.head.len, fun x hx => ?_, h.led.lss.len, fun x hx => ?_⟩
  · obtain ⟨a, ha, rfl⟩ := List.getElem_of_mem hz
    exact set_mem h.set ha
  · have hw := hw1 x hx
    obtain ⟨a, ha, rfl⟩ := List.getElem_of_mem hx
    have k := h.led.hds a ha ha
    have := k.tok2
    exact ⟨⟨k.tok1, by omega⟩, ⟨k.nod1, k.nod2⟩, hw.bt, hw.ser, hw.stp⟩
  · have hw := hw2 x hx
    obtain ⟨a, ha, rfl⟩ := List.getElem_of_mem hx
    have k := h.led.lss a ha ha
    have ka := k.ans
    unfold ansOk at ka
    refine ⟨⟨k.nod1, k.nod2⟩, hw.bt, hw.sq, ?_⟩
    split at ka
    · rw [decide_eq_true_iff] at ka
      exact ⟨by omega, by omega, hw.ser⟩
    · rw [decide_eq_true_iff] at ka
      exact ⟨by omega, by omega, hw.ser⟩
theorem wrap_u {z : Int} (h1 : 0 ≤ z) (h2 : z < 18446744073709551616) : IntKind.u64.wrap z = z := by
  rw [IntKind.wrap_u64]
  omega

set_option maxRecDepth 100000 in
set_option maxHeartbeats 4000000 in
theorem shot_Encode_bad (w : World) (i t : Int) (An : Option Addr) (cn : Nat) (ns : List Int) (lim nxt : Int) (Ah : Option Addr) (ch : Nat) (hs : List Hd) (Al : Option Addr) (cl : Nat) (ls : List Ls) (hn : InN .i64 w An cn ns) (hh : InS hdC 5 w Ah ch hs) (hl : InS lsC 6 w Al cl ls)
    (hw1 : ∀ h ∈ hs, h.Wf) (hw2 : ∀ x ∈ ls, x.Wf) (hnx : nxt < 18446744073709551616) (bad : ¬ ShotOk i t ns lim nxt hs ls) :
    Calls Try.prog 16 #[shV i t (.slice An ns.length cn) lim nxt (.slice Ah hs.length ch) (.slice Al ls.length cl)] w fun e w' => e = .returned (.tuple #[.slice none 0 0, .int .i64 60]) ∧ Below w.heap.size w w' := by
  obtain ⟨g, hg⟩ : ∃ g, w.heap.size = g := ⟨_, rfl⟩
  rw [hg]
  have hBx : Below g w (w.alloc (.cells (shC i t (.slice An ns.length cn) lim nxt (.slice Ah hs.length ch) (.slice Al ls.length cl)) 29)) := (Below.refl _ _).alloc (by omega) _
  have hb1 : Blk (w.alloc (.cells (shC i t (.slice An ns.length cn) lim nxt (.slice Ah hs.length ch) (.slice Al ls.length cl)) 29)) g 29 (shC i t (.slice An ns.length cn) lim nxt (.slice Ah hs.length ch) (.slice Al ls.length cl)) := hg ▸ Blk.new _ _ _
  have HN := Lib.hid hn
  have HH := Lib.hid hh
  have HL := Lib.hid hl
  have CK := fun W h1 h2 h3 => shot_Check_any W i t An cn ns lim nxt Ah ch hs Al cl ls h1 h2 h3 hw1 hw2 hnx
  rw [shot_bad bad] at CK
  unfold shV at CK ⊢
  have CK := Lib.hid CK
  clear hn hh hl hw1 hw2 hnx bad
  go_enter Try.func16, Try.ntmps16
  go_upto_region 1 with (fail)
  change Code.wp _ _ _ _ (w.alloc (.cells (shC i t (.slice An ns.length cn) lim nxt (.slice Ah hs.length ch) (.slice Al ls.length cl)) 29))
  generalize (w.alloc (.cells (shC i t (.slice An ns.length cn) lim nxt (.slice Ah hs.length ch) (.slice Al ls.length cl)) 29)) = W at hb1 hBx ⊢
  try rw [hg]
  have X := Lib.hid (CK.out W (HN.out.keep (hg ▸ hBx)) (HH.out.keep (hg ▸ hBx)) (HL.out.keep (hg ▸ hBx)))
  obtain ⟨q0, q1, q2, q3, q4, q5, q6⟩ := hb1.sh
  go_wp2_with fail
  refine X.out.mono ?_
  rintro e w1 ⟨rfl, hB1⟩
  have HB1 := Lib.hid (hBx.trans (hB1.mono (Nat.le_of_lt hb1.lt)))
  clear q0 q1 q2 q3 q4 q5 q6 hb1 hBx hB1 X
  go_wp2
  go_ret2
  exact ⟨rfl, HB1.out⟩

set_option maxRecDepth 100000 in
set_option maxHeartbeats 8000000 in
theorem shot_Encode_ok (w : World) (i t : Int) (An : Option Addr) (cn : Nat) (ns : List Int) (lim nxt : Int) (Ah : Option Addr) (ch : Nat) (hs : List Hd) (Al : Option Addr) (cl : Nat) (ls : List Ls) (hn : InN .i64 w An cn ns) (hh : InS hdC 5 w Ah ch hs) (hl : InS lsC 6 w Al cl ls)
    (hw1 : ∀ h ∈ hs, h.Wf) (hw2 : ∀ x ∈ ls, x.Wf) (hnx : nxt < 18446744073709551616) (ok : ShotOk i t ns lim nxt hs ls) (nu : ShNums i t ns lim nxt hs ls) :
    Calls Try.prog 16 #[shV i t (.slice An ns.length cn) lim nxt (.slice Ah hs.length ch) (.slice Al ls.length cl)] w fun e w' => ∃ v, e = .returned (.tuple #[v, .int .i64 0]) ∧ Own8 w' w.heap.size v (shotB i t ns lim nxt hs ls) ∧ Below w.heap.size w w' := by
  obtain ⟨g, hg⟩ : ∃ g, w.heap.size = g := ⟨_, rfl⟩
  rw [hg]
  have hBx : Below g w (w.alloc (.cells (shC i t (.slice An ns.length cn) lim nxt (.slice Ah hs.length ch) (.slice Al ls.length cl)) 29)) := (Below.refl _ _).alloc (by omega) _
  have hb1 : Blk (w.alloc (.cells (shC i t (.slice An ns.length cn) lim nxt (.slice Ah hs.length ch) (.slice Al ls.length cl)) 29)) g 29 (shC i t (.slice An ns.length cn) lim nxt (.slice Ah hs.length ch) (.slice Al ls.length cl)) := hg ▸ Blk.new _ _ _
  have HN := Lib.hid hn
  have HH := Lib.hid hh
  have HL := Lib.hid hl
  have NU := Lib.hid nu
  have hnl := nu.nsl
  have hhl := nu.hsl
  have hll := nu.lsl
  have hcn := hn.cap
  have hch := hh.cap
  have hcl := hl.cap
  have CK := fun W h1 h2 h3 => shot_Check_any W i t An cn ns lim nxt Ah ch hs Al cl ls h1 h2 h3 hw1 hw2 hnx
  rw [decide_eq_true ok, show errShot true = 0 from rfl] at CK
  unfold shV at CK ⊢
  have CK := Lib.hid CK
  obtain ⟨SB, hSB⟩ : ∃ SB, shotB i t ns lim nxt hs ls = SB := ⟨_, rfl⟩
  have HSB := Lib.hid hSB
  rw [hSB]
  have wn : IntKind.u64.wrap (ns.length : Int) = (ns.length : Int) := wrap_u (by omega) (by omega)
  have wh : IntKind.u64.wrap (hs.length : Int) = (hs.length : Int) := wrap_u (by omega) (by omega)
  have wl : IntKind.u64.wrap (ls.length : Int) = (ls.length : Int) := wrap_u (by omega) (by omega)
  have wm : IntKind.u64.wrap lim = lim := wrap_u (by have := nu.lim; omega) (by have := nu.lim; omega)
  clear hn hh hl hw1 hw2 hnx ok nu hSB
  go_enter Try.func16, Try.ntmps16
  go_upto_region 1 with (fail)
  change Code.wp _ _ _ _ (w.alloc (.cells (shC i t (.slice An ns.length cn) lim nxt (.slice Ah hs.length ch) (.slice Al ls.length cl)) 29))
  generalize (w.alloc (.cells (shC i t (.slice An ns.length cn) lim nxt (.slice Ah hs.length ch) (.slice Al ls.length cl)) 29)) = W at hb1 hBx ⊢
  try rw [hg]
  have X := Lib.hid (CK.out W (HN.out.keep (hg ▸ hBx)) (HH.out.keep (hg ▸ hBx)) (HL.out.keep (hg ▸ hBx)))
  obtain ⟨q0, q1, q2, q3, q4, q5, q6⟩ := hb1.sh
  go_wp2_with fail
  refine X.out.mono ?_
  rintro e w1 ⟨rfl, hB1⟩
  have hb2 := hb1.below hB1 hb1.lt
  have hB2 := hBx.trans (hB1.mono (Nat.le_of_lt hb1.lt))
  clear q0 q1 q2 q3 q4 q5 q6 hb1 hBx hB1 X CK
  obtain ⟨gl, hgl⟩ : ∃ gl, w1.heap.size = gl := ⟨_, rfl⟩
  have hlt : g < gl := hgl ▸ hb2.lt
  have hb3 := hb2.alloc (.cells (ledC lim nxt (.slice Ah hs.length ch) (.slice Al ls.length cl)) 27)
  have hl3 : Blk (w1.alloc (.cells (ledC lim nxt (.slice Ah hs.length ch) (.slice Al ls.length cl)) 27)) gl 27 (ledC lim nxt (.slice Ah hs.length ch) (.slice Al ls.length cl)) := hgl ▸ Blk.new _ _ _
  have hB3 := hB2.alloc (by omega) (.cells (ledC lim nxt (.slice Ah hs.length ch) (.slice Al ls.length cl)) 27)
  obtain ⟨q0, q1, q2, q3, q4, q5, q6⟩ := hb2.sh
  go_upto_region 5 with (fail)
  change Code.wp _ _ _ _ (w1.alloc (.cells (ledC lim nxt (.slice Ah hs.length ch) (.slice Al ls.length cl)) 27))
  generalize (w1.alloc (.cells (ledC lim nxt (.slice Ah hs.length ch) (.slice Al ls.length cl)) 27)) = W2 at hb3 hl3 hB3 ⊢
  try rw [hgl]
  clear q0 q1 q2 q3 q4 q5 q6 hb2 hB2 hgl
  obtain ⟨B, hB⟩ : ∃ B, W2.heap.size = B := ⟨_, rfl⟩
  have hltB : gl < B := hB ▸ hl3.lt
  have HO : Hid (ENo g gl B) := ⟨hlt, hltB⟩
  have q0 : ∀ o, (W2.alloc o).cell? ⟨g, 0, none⟩ = some (.int .u64 i) := fun o => (hb3.alloc o).sh.z0
  have q1 : ∀ o, (W2.alloc o).cell? ⟨g, 1, none⟩ = some (.int .u64 t) := fun o => (hb3.alloc o).sh.z1
  have q2 : ∀ o, (W2.alloc o).cell? ⟨g, 2, none⟩ = some (.slice An ns.length cn) := fun o => (hb3.alloc o).sh.z2
  have hlit : Own8 (W2.alloc (.cells #[.int .u8 83] 5)) B (.slice (some ⟨B, 0, none⟩) 1 1) [83] := by
    have h := own_lit1 W2 B 5 (.int .u8 83) (by omega)
    rw [hB] at h
    exact h
  have E0 : Hid (ENs w g gl B (shC i t (.slice An ns.length cn) lim nxt (.slice Ah hs.length ch) (.slice Al ls.length cl)) (ledC lim nxt (.slice Ah hs.length ch) (.slice Al ls.length cl)) (W2.alloc (.cells #[.int .u8 83] 5)) (.slice (some ⟨B, 0, none⟩) 1 1) []) :=
    ⟨hb3.alloc _, hl3.alloc _, hlit, hB3.alloc (by omega) _, by simp; omega⟩
  have X0 := Lib.hid (E0.out.lay HO.out [i, t, (ns.length : Int)] #[.int .u64 i, .int .u64 t, .int .u64 (ns.length : Int)] (B + 1) 3 (by simp [hB]) rfl rfl (by simp) (by simp) (fun z hz => by
    have n := NU.out
    simp only [List.mem_cons, List.not_mem_nil, or_false] at hz
    rcases hz with rfl | rfl | rfl
    · exact n.i
    · exact n.t
    · omega))
  clear hlit hb3 hl3 hB3 E0
  go_wp2_with fail
  refine X0.out.mono ?_
  rintro e w4 ⟨v4, rfl, h4⟩
  have H4 := Lib.hid h4
  obtain ⟨x0, x1, x2, x3, x4, x5, x6⟩ := h4.sh.sh
  clear h4 q0 q1 q2 X0 hB
  go_wp2_with fail
  clear x0 x1 x2 x3 x4 x5 x6
  go_loopw [6, 8, 34] (fun x _ j wr => ∃ k : Nat, j = .int .i64 (k : Int) ∧ k ≤ ns.length ∧ ENs w g gl B (shC i t (.slice An ns.length cn) lim nxt (.slice Ah hs.length ch) (.slice Al ls.length cl)) (ledC lim nxt (.slice Ah hs.length ch) (.slice Al ls.length cl)) wr x ([i, t, (ns.length : Int)] ++ ns.take k)) (fun _ _ j _ => ns.length - (intOf j).toNat)
  case atStart => exact ⟨0, rfl, by omega, by simpa using H4.out⟩
  case round =>
    clear H4
    obtain ⟨k, rfl, hk, hst⟩ := hrel
    have HS := Lib.hid hst
    by_cases hlt : k < ns.length
    · obtain ⟨b, off, rfl, hcell⟩ := (HN.out.keep (hg ▸ hst.bel)).all (by omega)
      have hck := hcell k hlt
      have hmem := NU.out.ns _ (List.getElem_mem hlt)
      have htk := List.take_append_getElem hlt
      obtain ⟨z, hz⟩ : ∃ z, ns[k] = z := ⟨_, rfl⟩
      rw [hz] at hck hmem htk
      have HTK := Lib.hid htk
      have wz : IntKind.u64.wrap z = z := wrap_u (by omega) (by omega)
      have CX := Lib.hid (hst.lay HO.out [z] #[.int .u64 z] wr.heap.size 1 rfl rfl rfl (by simp; omega) (by simp) (fun y hy => by
        simp only [List.mem_singleton] at hy
        subst hy
        omega))
      clear hcell hst hz htk hmem
      go_wp2_with fail
      refine CX.out.mono ?_
      rintro e w5 ⟨v5, rfl, h5⟩
      have H5 := Lib.hid h5
      clear h5 CX
      go_wp2
      go_roundw
      case rel => exact ⟨k + 1, by go_num, by omega, by have := H5.out; rw [List.append_assoc, HTK.out] at this; exact this⟩
      case measure => simp [intOf]; omega
    · obtain rfl : k = ns.length := by omega
      obtain ⟨q0, q1, q2, q3⟩ := hst.led.led
      have CX := Lib.hid (hst.lay HO.out [lim, nxt, (hs.length : Int)] #[.int .u64 lim, .int .u64 nxt, .int .u64 (hs.length : Int)] wr.heap.size 3 rfl rfl rfl (by simp; omega) (by simp) (fun z hz => by
        have n := NU.out
        simp only [List.mem_cons, List.not_mem_nil, or_false] at hz
        rcases hz with rfl | rfl | rfl
        · have := n.lim; omega
        · exact n.nxt
        · omega))
      clear hst HS
      go_wp2_with fail
      refine CX.out.mono ?_
      rintro e w5 ⟨v5, rfl, h5⟩
      rw [List.take_length] at h5
      obtain ⟨P2, hP2⟩ : ∃ P2, [i, t, (ns.length : Int)] ++ ns ++ [lim, nxt, (hs.length : Int)] = P2 := ⟨_, rfl⟩
      have hl2 : P2.length ≤ 13 := by rw [← hP2]; simp; omega
      rw [hP2] at h5
      have HP2 := Lib.hid hP2
      have H5 := Lib.hid h5
      clear q0 q1 q2 q3 CX hP2
      obtain ⟨q0, q1, q2, q3⟩ := h5.led.led
      clear h5
      go_wp2_with fail
      clear q0 q1 q2 q3
      go_loopw [6, 10, 59] (fun x _ j wr => ∃ k : Nat, j = .int .i64 (k : Int) ∧ k ≤ hs.length ∧ ENs w g gl B (shC i t (.slice An ns.length cn) lim nxt (.slice Ah hs.length ch) (.slice Al ls.length cl)) (ledC lim nxt (.slice Ah hs.length ch) (.slice Al ls.length cl)) wr x (P2 ++ (hs.take k).flatMap hdL)) (fun _ _ j _ => hs.length - (intOf j).toNat)
      case atStart => exact ⟨0, rfl, by omega, by simpa using H5.out⟩
      case round =>
        clear H5
        obtain ⟨k, rfl, hk, hst⟩ := hrel
        have hfl := flatI_len (f := hdL) (s := 5) (fun _ => rfl) (hs.take k)
        rw [List.length_take, Nat.min_eq_left hk] at hfl
        by_cases hlt : k < hs.length
        · obtain ⟨b, off, rfl, _, hall⟩ := (HH.out.keep (hg ▸ hst.bel)).hd (by omega)
          obtain ⟨c0, c1, c2, c3, c4⟩ := hall k hlt
          have hmem := NU.out.hs _ (List.getElem_mem hlt)
          have htk := List.take_append_getElem hlt
          obtain ⟨y, hy⟩ : ∃ y, hs[k] = y := ⟨_, rfl⟩
          rw [hy] at c0 c1 c2 c3 c4 hmem htk
          have HTK : Hid ((hs.take (k + 1)).flatMap hdL = (hs.take k).flatMap hdL ++ hdL y) := by
            show _ = _
            rw [← htk, List.flatMap_append, List.flatMap_singleton]
          obtain ⟨m1, m2, m3, m4, m5⟩ := hmem
          have w1' : IntKind.u64.wrap y.tok = y.tok := wrap_u (by omega) (by omega)
          have w2' : IntKind.u64.wrap y.nod = y.nod := wrap_u (by omega) (by omega)
          obtain ⟨gh, hgh⟩ : ∃ gh, wr.heap.size = gh := ⟨_, rfl⟩
          have hnew : Blk (wr.alloc (.cells (hdA y) 54)) gh 54 (hdA y) := hgh ▸ Blk.new _ _ _
          have hst2 := hst.alloc HO.out (.cells (hdA y) 54)
          have HWD : Hid (Wds (hdL y)) := fun z hz => by
            simp only [hdL, List.mem_cons, List.not_mem_nil, or_false] at hz
            rcases hz with rfl | rfl | rfl | rfl | rfl <;> omega
          clear hall hst hy htk m1 m2 m3 m4 m5
          go_upto_region 15 with (fail)
          change Code.wp _ _ _ _ (wr.alloc (.cells (hdA y) 54))
          generalize wr.alloc (.cells (hdA y) 54) = W3 at hnew hst2 ⊢
          try rw [hgh]
          clear c0 c1 c2 c3 c4 hgh
          have d0 : W3.cell? ⟨gh, 0, none⟩ = some (.int .i64 y.tok) := (hnew.cell 0).trans rfl
          have d1 : W3.cell? ⟨gh, 1, none⟩ = some (.int .i64 y.nod) := (hnew.cell 1).trans rfl
          have d2 : W3.cell? ⟨gh, 2, none⟩ = some (.int .u64 y.bt) := (hnew.cell 2).trans rfl
          have d3 : W3.cell? ⟨gh, 3, none⟩ = some (.int .u64 y.ser) := (hnew.cell 3).trans rfl
          have d4 : W3.cell? ⟨gh, 4, none⟩ = some (.int .u64 y.stp) := (hnew.cell 4).trans rfl
          have CX := Lib.hid (hst2.lay HO.out (hdL y) #[.int .u64 y.tok, .int .u64 y.nod, .int .u64 y.bt, .int .u64 y.ser, .int .u64 y.stp] W3.heap.size 5 rfl rfl rfl (by rw [List.length_append]; omega) (by simp [hdL]) HWD.out)
          clear hnew hst2
          go_wp2_with fail
          refine CX.out.mono ?_
          rintro e w6 ⟨v6, rfl, h6⟩
          have H6 := Lib.hid h6
          clear h6 CX d0 d1 d2 d3 d4
          go_wp2
          go_roundw
          case rel => exact ⟨k + 1, by go_num, by omega, by have := H6.out; rw [List.append_assoc] at this; rw [HTK.out]; exact this⟩
          case measure => simp [intOf]; omega
        · obtain rfl : k = hs.length := by omega
          obtain ⟨q0, q1, q2, q3⟩ := hst.led.led
          have CX := Lib.hid (hst.lay HO.out [(ls.length : Int)] #[.int .u64 (ls.length : Int)] wr.heap.size 1 rfl rfl rfl (by rw [List.length_append]; omega) (by simp) (fun z hz => by
            simp only [List.mem_singleton] at hz
            subst hz
            omega))
          clear hst
          go_wp2_with fail
          refine CX.out.mono ?_
          rintro e w6 ⟨v6, rfl, h6⟩
          rw [List.take_length] at h6
          rw [List.take_length] at hfl
          obtain ⟨P3, hP3⟩ : ∃ P3, P2 ++ hs.flatMap hdL ++ [(ls.length : Int)] = P3 := ⟨_, rfl⟩
          have hl3 : P3.length ≤ 400 := by rw [← hP3, List.length_append, List.length_append, hfl, List.length_singleton]; omega
          rw [hP3] at h6
          have HP3 := Lib.hid hP3
          have H6 := Lib.hid h6
          clear q0 q1 q2 q3 CX hP3 hfl
          obtain ⟨q0, q1, q2, q3⟩ := h6.led.led
          clear h6
          go_wp2_with fail
          clear q0 q1 q2 q3
          go_loopw [6, 12, 89] (fun x _ j wr => ∃ k : Nat, j = .int .i64 (k : Int) ∧ k ≤ ls.length ∧ ENs w g gl B (shC i t (.slice An ns.length cn) lim nxt (.slice Ah hs.length ch) (.slice Al ls.length cl)) (ledC lim nxt (.slice Ah hs.length ch) (.slice Al ls.length cl)) wr x (P3 ++ (ls.take k).flatMap lsL)) (fun _ _ j _ => ls.length - (intOf j).toNat)
          case atStart => exact ⟨0, rfl, by omega, by simpa using H6.out⟩
          case round =>
            clear H6
            obtain ⟨k, rfl, hk, hst⟩ := hrel
            have hfl := flatI_len (f := lsL) (s := 6) (fun _ => rfl) (ls.take k)
            rw [List.length_take, Nat.min_eq_left hk] at hfl
            by_cases hlt : k < ls.length
            · obtain ⟨b, off, rfl, _, hall⟩ := (HL.out.keep (hg ▸ hst.bel)).ls (by omega)
              obtain ⟨c0, c1, c2, c3, c4, c5⟩ := hall k hlt
              have hmem := NU.out.ls _ (List.getElem_mem hlt)
              have htk := List.take_append_getElem hlt
              obtain ⟨y, hy⟩ : ∃ y, ls[k] = y := ⟨_, rfl⟩
              rw [hy] at c0 c1 c2 c3 c4 c5 hmem htk
              have HTK : Hid ((ls.take (k + 1)).flatMap lsL = (ls.take k).flatMap lsL ++ lsL y) := by
                show _ = _
                rw [← htk, List.flatMap_append, List.flatMap_singleton]
              obtain ⟨m1, m2, m3, m4, m5, m6⟩ := hmem
              have w1' : IntKind.u64.wrap y.nod = y.nod := wrap_u (by omega) (by omega)
              have w2' : IntKind.u64.wrap y.cod = y.cod := wrap_u (by omega) (by omega)
              have w3' : IntKind.u64.wrap y.tok = y.tok := wrap_u (by omega) (by omega)
              obtain ⟨gh, hgh⟩ : ∃ gh, wr.heap.size = gh := ⟨_, rfl⟩
              have hnew : Blk (wr.alloc (.cells (lsA y) 61)) gh 61 (lsA y) := hgh ▸ Blk.new _ _ _
              have hst2 := hst.alloc HO.out (.cells (lsA y) 61)
              have HWD : Hid (Wds (lsL y)) := fun z hz => by
                simp only [lsL, List.mem_cons, List.not_mem_nil, or_false] at hz
                rcases hz with rfl | rfl | rfl | rfl | rfl | rfl <;> omega
              clear hall hst hy htk m1 m2 m3 m4 m5 m6
              go_upto_region 21 with (fail)
              change Code.wp _ _ _ _ (wr.alloc (.cells (lsA y) 61))
              generalize wr.alloc (.cells (lsA y) 61) = W3 at hnew hst2 ⊢
              try rw [hgh]
              clear c0 c1 c2 c3 c4 c5 hgh
              have d0 : W3.cell? ⟨gh, 0, none⟩ = some (.int .i64 y.nod) := (hnew.cell 0).trans rfl
              have d1 : W3.cell? ⟨gh, 1, none⟩ = some (.int .u64 y.bt) := (hnew.cell 1).trans rfl
              have d2 : W3.cell? ⟨gh, 2, none⟩ = some (.int .u64 y.sq) := (hnew.cell 2).trans rfl
              have d3 : W3.cell? ⟨gh, 3, none⟩ = some (.int .i64 y.cod) := (hnew.cell 3).trans rfl
              have d4 : W3.cell? ⟨gh, 4, none⟩ = some (.int .i64 y.tok) := (hnew.cell 4).trans rfl
              have d5 : W3.cell? ⟨gh, 5, none⟩ = some (.int .u64 y.ser) := (hnew.cell 5).trans rfl
              have CX := Lib.hid (hst2.lay HO.out (lsL y) #[.int .u64 y.nod, .int .u64 y.bt, .int .u64 y.sq, .int .u64 y.cod, .int .u64 y.tok, .int .u64 y.ser] W3.heap.size 6 rfl rfl rfl (by rw [List.length_append]; omega) (by simp [lsL]) HWD.out)
              clear hnew hst2
              go_wp2_with fail
              refine CX.out.mono ?_
              rintro e w7 ⟨v7, rfl, h7⟩
              have H7 := Lib.hid h7
              clear h7 CX d0 d1 d2 d3 d4 d5
              go_wp2
              go_roundw
              case rel => exact ⟨k + 1, by go_num, by omega, by have := H7.out; rw [List.append_assoc] at this; rw [HTK.out]; exact this⟩
              case measure => simp [intOf]; omega
            · obtain rfl : k = ls.length := by omega
              have HS := Lib.hid hst
              clear hst hfl
              go_wp2
              go_ret2
              have o1 := HO.out.h1
              have o2 := HO.out.h2
              refine ⟨_, rfl, ?_, HS.out.bel⟩
              have hown := HS.out.own
              rw [List.take_length] at hown
              rw [← HSB.out]
              have e : shotB i t ns lim nxt hs ls = 83 :: numsB (P3 ++ ls.flatMap lsL) := by
                unfold shotB shotL
                rw [← HP3.out, ← HP2.out]
                simp only [List.append_assoc]
              rw [e]
              exact own_lower hown (by omega)
end Go.Proofs.Ythdeappjankmmaa
