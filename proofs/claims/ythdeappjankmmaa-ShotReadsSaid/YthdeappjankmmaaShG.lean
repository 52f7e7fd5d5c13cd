/- Snapshots' bytes: the document's Bytes, Encode. -/
import Derived.Test.YthdeappjankmmaaShF
import Derived.Deep.RegionHeld3
namespace Go.Proofs.Ythdeappjankmmaa
set_option maxRecDepth 100000
open Go.RowKit

/-- What stands while the document writes a snapshot: its cells, a row's block, the bytes of the numbers L. -/
structure ENr (w : World) (g base : Nat) (SH : Array Value) (gh : Nat) (T : TypeId) (cs : Array Value) (wx : World) (v : Value) (L : List Int) : Prop where
  sh : Blk wx g 29 SH
  row : Blk wx gh T cs
  own : Own8 wx base v (83 :: numsB L)
  ne : v.ownBlock ≠ some gh
  bel : Below g w wx
  sz : base ≤ wx.heap.size
section
variable {w : World} {g base gh : Nat} {SH cs : Array Value} {T : TypeId} {wx : World} {v : Value} {L : List Int}
theorem ENr.drew (h : ENr w g base SH gh T cs wx v L) : ENr w g base SH gh T cs wx.drew v L := ⟨h.sh, h.row, h.own, h.ne, h.bel.drew, h.sz⟩
theorem ENr.grow (h : ENr w g base SH gh T cs wx v L) (o : g < base) {w1 : World} {v1 : Value} {L1 : List Int} (hg : Grow wx v.ownBlock w1 v1) (ho : Own8 w1 base v1 (83 :: numsB L1)) : ENr w g base SH gh T cs w1 v1 L1 := by
  have hz := h.sz
  have hb := own_base h.own
  have hne : ∀ i, i < base → some i ≠ v.ownBlock := fun i hi hh => by have := hb i hh.symm; omega
  refine ⟨h.sh.grown hg.grown (hne _ o), h.row.grown hg.grown (fun e => h.ne e.symm), ho, ?_, h.bel.grown hg.grown (by omega) (fun i hi => by have := hb i hi; omega), Nat.le_trans hz hg.grown.size⟩
  rcases hg.at_ with e | ⟨b, e, hbz⟩
  · rw [e]
    exact h.ne
  · rw [e]
    intro hh
    injection hh with hh
    have := h.row.lt
    omega
/-- Another row in the old one's place. -/
theorem ENr.new (h : ENr w g base SH gh T cs wx v L) (o : g < base) (T2 : TypeId) (cs2 : Array Value) : ENr w g base SH wx.heap.size T2 cs2 (wx.alloc (.cells cs2 T2)) v L := by
  have hz := h.sz
  have hb : Below wx.heap.size wx (wx.alloc (.cells cs2 T2)) := (Below.refl _ _).alloc (Nat.le_refl _) _
  refine ⟨h.sh.alloc _, Blk.new _ _ _, own_below h.own hb, fun e => ?_, h.bel.trans (hb.mono (by omega)), Nat.le_trans hz hb.size⟩
  have := (World.ownsRow.lt h.own _ e).2
  omega
theorem ENr.num (h : ENr w g base SH gh T cs wx v L) (o : g < base) (z : Int) (hz : 0 ≤ z ∧ z < 18446744073709551616) (hL : L.length ≤ 1000) :
    Calls Try.prog 46 #[v, .int .u64 z] wx fun e w' => ∃ v', e = .returned v' ∧ ENr w g base SH gh T cs w' v' (L ++ [z]) := by
  obtain ⟨n, rfl⟩ := Int.eq_ofNat_of_zero_le hz.1
  refine (r06_num_any wx base v (83 :: numsB L) n (by omega) (numsB_len L hL) h.own h.sz).mono fun _ _ ⟨v', he, h1, h2⟩ => ⟨v', he, h.grow o h2 ?_⟩
  rw [numsB_append]
  simpa [numsB] using h1
end
/-- A row's cells. -/
def HdS (w : World) (b : Nat) (h : Hd) : Prop := w.cell? ⟨b, 0, none⟩ = some (.int .i64 h.tok) ∧ w.cell? ⟨b, 1, none⟩ = some (.int .i64 h.nod) ∧ w.cell? ⟨b, 2, none⟩ = some (.int .u64 h.bt) ∧ w.cell? ⟨b, 3, none⟩ = some (.int .u64 h.ser) ∧ w.cell? ⟨b, 4, none⟩ = some (.int .u64 h.stp)
theorem Blk.hdS {w : World} {g : Nat} {T : TypeId} {h : Hd} (hb : Blk w g T (hdA h)) : HdS w g h := ⟨(hb.cell 0).trans rfl, (hb.cell 1).trans rfl, (hb.cell 2).trans rfl, (hb.cell 3).trans rfl, (hb.cell 4).trans rfl⟩
def LsS (w : World) (b : Nat) (x : Ls) : Prop := w.cell? ⟨b, 0, none⟩ = some (.int .i64 x.nod) ∧ w.cell? ⟨b, 1, none⟩ = some (.int .u64 x.bt) ∧ w.cell? ⟨b, 2, none⟩ = some (.int .u64 x.sq) ∧ w.cell? ⟨b, 3, none⟩ = some (.int .i64 x.cod) ∧ w.cell? ⟨b, 4, none⟩ = some (.int .i64 x.tok) ∧ w.cell? ⟨b, 5, none⟩ = some (.int .u64 x.ser)
theorem Blk.lsS {w : World} {g : Nat} {T : TypeId} {x : Ls} (hb : Blk w g T (lsA x)) : LsS w g x := ⟨(hb.cell 0).trans rfl, (hb.cell 1).trans rfl, (hb.cell 2).trans rfl, (hb.cell 3).trans rfl, (hb.cell 4).trans rfl, (hb.cell 5).trans rfl⟩
def ShS (w : World) (b : Nat) (i t lim nxt : Int) : Prop := w.cell? ⟨b, 0, none⟩ = some (.int .u64 i) ∧ w.cell? ⟨b, 1, none⟩ = some (.int .u64 t) ∧ w.cell? ⟨b, 3, none⟩ = some (.int .i64 lim) ∧ w.cell? ⟨b, 4, none⟩ = some (.int .u64 nxt)
theorem Blk.shS {w : World} {g : Nat} {T : TypeId} {i t : Int} {sl : Value} {lim nxt : Int} {hl ll : Value} (h : Blk w g T (shC i t sl lim nxt hl ll)) : ShS w g i t lim nxt := ⟨h.sh.z0, h.sh.z1, h.sh.z3, h.sh.z4⟩

set_option maxRecDepth 100000 in
set_option maxHeartbeats 8000000 in
theorem r06_Bytes_any (w : World) (i t : Int) (An : Option Addr) (cn : Nat) (ns : List Int) (lim nxt : Int) (Ah : Option Addr) (ch : Nat) (hs : List Hd) (Al : Option Addr) (cl : Nat) (ls : List Ls) (hn : InN .i64 w An cn ns) (hh : InS hdC 5 w Ah ch hs) (hl : InS lsC 6 w Al cl ls)
    (hset : IsSet ns) (nu : ShNums i t ns lim nxt hs ls) :
    Calls Try.prog 34 #[shV i t (.slice An ns.length cn) lim nxt (.slice Ah hs.length ch) (.slice Al ls.length cl)] w fun e w' => ∃ v, e = .returned v ∧ Own8 w' w.heap.size v (shotB i t ns lim nxt hs ls) ∧ Below w.heap.size w w' := by
  obtain ⟨g, hg⟩ : ∃ g, w.heap.size = g := ⟨_, rfl⟩
  rw [hg]
  have hBx : Below g w (w.alloc (.cells (shC i t (.slice An ns.length cn) lim nxt (.slice Ah hs.length ch) (.slice Al ls.length cl)) 29)) := (Below.refl _ _).alloc (by omega) _
  have hb1 : Blk (w.alloc (.cells (shC i t (.slice An ns.length cn) lim nxt (.slice Ah hs.length ch) (.slice Al ls.length cl)) 29)) g 29 (shC i t (.slice An ns.length cn) lim nxt (.slice Ah hs.length ch) (.slice Al ls.length cl)) := hg ▸ Blk.new _ _ _
  have HN := Lib.hid hn
  have HH := Lib.hid hh
  have HL := Lib.hid hl
  have NU := Lib.hid nu
  have HSET := Lib.hid hset
  have hnl := nu.nsl
  have hhl := nu.hsl
  have hll := nu.lsl
  have hcn := hn.cap
  have hch := hh.cap
  have hcl := hl.cap
  unfold shV
  obtain ⟨SB, hSB⟩ : ∃ SB, shotB i t ns lim nxt hs ls = SB := ⟨_, rfl⟩
  have HSB := Lib.hid hSB
  rw [hSB]
  have wn : IntKind.u64.wrap (ns.length : Int) = (ns.length : Int) := wrap_u (by omega) (by omega)
  have wh : IntKind.u64.wrap (hs.length : Int) = (hs.length : Int) := wrap_u (by omega) (by omega)
  have wl : IntKind.u64.wrap (ls.length : Int) = (ls.length : Int) := wrap_u (by omega) (by omega)
  have wm : IntKind.u64.wrap lim = lim := wrap_u (by have := nu.lim; omega) (by have := nu.lim; omega)
  clear hn hh hl nu hSB hset
  go_enter Try.func34, Try.ntmps34
  go_upto_region 1 with (fail)
  change Code.wp _ _ _ _ (w.alloc (.cells (shC i t (.slice An ns.length cn) lim nxt (.slice Ah hs.length ch) (.slice Al ls.length cl)) 29))
  generalize (w.alloc (.cells (shC i t (.slice An ns.length cn) lim nxt (.slice Ah hs.length ch) (.slice Al ls.length cl)) 29)) = W at hb1 hBx ⊢
  try rw [hg]
  obtain ⟨B, hB⟩ : ∃ B, W.heap.size = B := ⟨_, rfl⟩
  have hlt : g < B := hB ▸ hb1.lt
  have hlit : Own8 (W.drew.alloc (.cells #[.int .u8 83] 5)) B (.slice (some ⟨B, 0, none⟩) 1 1) [83] := by
    have h := own_lit1 W.drew B 5 (.int .u8 83) (by show B ≤ W.heap.size; omega)
    rw [show W.drew.heap.size = B from hB] at h
    exact h
  have E0 : ENr w g B (shC i t (.slice An ns.length cn) lim nxt (.slice Ah hs.length ch) (.slice Al ls.length cl)) g 29 (shC i t (.slice An ns.length cn) lim nxt (.slice Ah hs.length ch) (.slice Al ls.length cl)) (W.drew.alloc (.cells #[.int .u8 83] 5)) (.slice (some ⟨B, 0, none⟩) 1 1) [] :=
    ⟨hb1.drew.alloc _, hb1.drew.alloc _, hlit, (by show some B ≠ some g; intro hh; injection hh with hh; omega), hBx.drew.alloc (by show g ≤ W.heap.size; omega) _, by simp; omega⟩
  have HS0 : ShS W.drew g i t lim nxt := hb1.drew.shS
  have HS1 := E0.sh.shS
  have X0 := Lib.hid (E0.num hlt i NU.out.i (by simp))
  unfold ShS at HS0 HS1
  clear hlit E0 hb1 hBx
  go_wp2_with fail
  go_region_held3 (fun w' => w'.cell? ⟨g, 0, none⟩ = some (.int .u64 i) ∧ w'.cell? ⟨g, 1, none⟩ = some (.int .u64 t) ∧ w'.cell? ⟨g, 3, none⟩ = some (.int .i64 lim) ∧ w'.cell? ⟨g, 4, none⟩ = some (.int .u64 nxt)) (first | exact HS0 | exact HS1 | exact HS2 | exact HS3)
    (first
      | (go_at_call 46; refine X0.out.mono ?_; rintro e w2 ⟨v2, rfl, h2⟩; have HS2 := h2.sh.shS; unfold ShS at HS2; have X1 := Lib.hid (h2.num hlt t NU.out.t (by simp)); clear h2)
      | (go_at_call 46; refine X1.out.mono ?_; rintro e w3 ⟨v3, rfl, h3⟩; have HS3 := h3.sh.shS; unfold ShS at HS3; have H3 := Lib.hid h3; clear h3))
  obtain ⟨q0, q1, q2, q3, q4, q5, q6⟩ := H3.out.sh.sh
  have CND := Lib.hid (ref_Nodes_any w3 B v3 (83 :: numsB ([] ++ [i] ++ [t])) An cn ns HSET.out (numsB_len _ (by simp)) H3.out.own H3.out.sz (fun w' hBB => HN.out.keep (hg ▸ H3.out.bel.trans (hBB.mono (Nat.le_of_lt hlt)))))
  clear HS0 HS1 HS2 HS3 X0 X1 hB
  go_wp2_with fail
  refine CND.out.mono ?_
  rintro e w4 ⟨v4, rfl, ho4, hB4, hG4⟩
  have e4 : (83 :: numsB ([] ++ [i] ++ [t])) ++ (numB ns.length ++ numsB ns) = 83 :: numsB ([i, t, (ns.length : Int)] ++ ns) := by simp [numsB]
  rw [e4] at ho4
  have h4 := H3.out.grow hlt hG4 ho4
  have HS4 := h4.drew.sh.shS
  unfold ShS at HS4
  have X2 := Lib.hid (h4.drew.num hlt lim (by have := NU.out.lim; omega) (by simp; omega))
  clear h4 ho4 hB4 hG4 e4 CND H3 q0 q1 q2 q3 q4 q5 q6
  go_wp2_with fail
  go_region_held3 (fun w' => w'.cell? ⟨g, 0, none⟩ = some (.int .u64 i) ∧ w'.cell? ⟨g, 1, none⟩ = some (.int .u64 t) ∧ w'.cell? ⟨g, 3, none⟩ = some (.int .i64 lim) ∧ w'.cell? ⟨g, 4, none⟩ = some (.int .u64 nxt)) (first | exact HS4 | exact HS5 | exact HS6)
    (first
      | (go_at_call 46; refine X2.out.mono ?_; rintro e w5 ⟨v5, rfl, h5⟩; have HS5 := h5.sh.shS; unfold ShS at HS5; have X3 := Lib.hid (h5.num hlt nxt NU.out.nxt (by simp; omega)); clear h5)
      | (go_at_call 46; refine X3.out.mono ?_; rintro e w6 ⟨v6, rfl, h6⟩; have HS6 := h6.sh.shS; unfold ShS at HS6; have H6 := Lib.hid h6; clear h6))
  obtain ⟨q0, q1, q2, q3, q4, q5, q6⟩ := H6.out.sh.sh
  have X4 := Lib.hid (H6.out.num hlt (hs.length : Int) (by omega) (by simp; omega))
  clear HS4 HS5 HS6 X2 X3
  go_wp2_with fail
  refine X4.out.mono ?_
  rintro e w7 ⟨v7, rfl, h7⟩
  obtain ⟨P2, hP2⟩ : ∃ P2, [i, t, (ns.length : Int)] ++ ns ++ [lim] ++ [nxt] ++ [(hs.length : Int)] = P2 := ⟨_, rfl⟩
  have hl2 : P2.length ≤ 13 := by rw [← hP2]; simp; omega
  rw [hP2] at h7
  have HP2 := Lib.hid hP2
  have H7 := Lib.hid h7
  clear q0 q1 q2 q3 q4 q5 q6 X4 hP2 H6
  obtain ⟨q0, q1, q2, q3, q4, q5, q6⟩ := h7.sh.sh
  clear h7
  go_wp2_with fail
  clear q0 q1 q2 q3 q4 q5 q6
  go_loopw [3, 5, 40] (fun x _ j wr => ∃ (k gh : Nat) (T : TypeId) (cs : Array Value), j = .int .i64 (k : Int) ∧ k ≤ hs.length ∧ ENr w g B (shC i t (.slice An ns.length cn) lim nxt (.slice Ah hs.length ch) (.slice Al ls.length cl)) gh T cs wr x (P2 ++ (hs.take k).flatMap hdL)) (fun _ _ j _ => hs.length - (intOf j).toNat)
  case atStart => exact ⟨0, _, _, _, rfl, by omega, by simpa using H7.out⟩
  case round =>
    clear H7
    obtain ⟨k, gh, T, cs, rfl, hk, hst⟩ := hrel
    have hfl := flatI_len (f := hdL) (s := 5) (fun _ => rfl) (hs.take k)
    rw [List.length_take, Nat.min_eq_left hk] at hfl
    by_cases hlt2 : k < hs.length
    · obtain ⟨b, off, rfl, _, hall⟩ := (HH.out.keep (hg ▸ hst.bel)).hd (by omega)
      obtain ⟨c0, c1, c2, c3, c4⟩ := hall k hlt2
      have hmem := NU.out.hs _ (List.getElem_mem hlt2)
      have htk := List.take_append_getElem hlt2
      obtain ⟨y, hy⟩ : ∃ y, hs[k] = y := ⟨_, rfl⟩
      rw [hy] at c0 c1 c2 c3 c4 hmem htk
      have HTK : Hid ((hs.take (k + 1)).flatMap hdL = (hs.take k).flatMap hdL ++ hdL y) := by
        show _ = _
        rw [← htk, List.flatMap_append, List.flatMap_singleton]
      have HM := Lib.hid hmem
      have w1' : IntKind.u64.wrap y.tok = y.tok := wrap_u (by omega) (by omega)
      have w2' : IntKind.u64.wrap y.nod = y.nod := wrap_u (by omega) (by omega)
      have hst2 := hst.new hlt 54 (hdA y)
      obtain ⟨ge, hge⟩ : ∃ ge, wr.heap.size = ge := ⟨_, rfl⟩
      rw [hge] at hst2
      clear hall hst hy htk hmem
      go_upto_region 8 with (fail)
      change Code.wp _ _ _ _ (wr.alloc (.cells (hdA y) 54))
      generalize wr.alloc (.cells (hdA y) 54) = W3 at hst2 ⊢
      try rw [hge]
      clear c0 c1 c2 c3 c4 hge
      have T0 := hst2.drew.row.hdS
      unfold HdS at T0
      obtain ⟨PR, hPR⟩ : ∃ PR, P2 ++ (hs.take k).flatMap hdL = PR := ⟨_, rfl⟩
      have hlr : PR.length ≤ 900 := by rw [← hPR, List.length_append]; omega
      rw [hPR] at hst2
      have HPR := Lib.hid hPR
      have Y0 := Lib.hid (hst2.drew.num hlt y.tok (by have := HM.out; omega) (by omega))
      clear hst2 hPR hfl
      go_wp2_with fail
      go_region_held3 (fun w' => w'.cell? ⟨ge, 0, none⟩ = some (.int .i64 y.tok) ∧ w'.cell? ⟨ge, 1, none⟩ = some (.int .i64 y.nod) ∧ w'.cell? ⟨ge, 2, none⟩ = some (.int .u64 y.bt) ∧ w'.cell? ⟨ge, 3, none⟩ = some (.int .u64 y.ser) ∧ w'.cell? ⟨ge, 4, none⟩ = some (.int .u64 y.stp)) (first | exact T0 | exact T1 | exact T2 | exact T3 | exact T4 | exact T5)
        (first
          | (go_at_call 46; refine Y0.out.mono ?_; rintro e wq0 ⟨vq0, rfl, hq⟩; have T1 := hq.row.hdS; unfold HdS at T1; have Y1 := Lib.hid (hq.num hlt y.nod (by have := HM.out; omega) (by simp; omega)); clear hq)
          | (go_at_call 46; refine Y1.out.mono ?_; rintro e wq1 ⟨vq1, rfl, hq⟩; have T2 := hq.row.hdS; unfold HdS at T2; have Y2 := Lib.hid (hq.num hlt y.bt (by have := HM.out; omega) (by simp; omega)); clear hq)
          | (go_at_call 46; refine Y2.out.mono ?_; rintro e wq2 ⟨vq2, rfl, hq⟩; have T3 := hq.row.hdS; unfold HdS at T3; have Y3 := Lib.hid (hq.num hlt y.ser (by have := HM.out; omega) (by simp; omega)); clear hq)
          | (go_at_call 46; refine Y3.out.mono ?_; rintro e wq3 ⟨vq3, rfl, hq⟩; have T4 := hq.row.hdS; unfold HdS at T4; have Y4 := Lib.hid (hq.num hlt y.stp (by have := HM.out; omega) (by simp; omega)); clear hq)
          | (go_at_call 46; refine Y4.out.mono ?_; rintro e wq4 ⟨vq4, rfl, hq⟩; have T5 := hq.row.hdS; unfold HdS at T5; have ZF := Lib.hid hq; clear hq))
      go_wp2
      go_roundw
      case rel => exact ⟨k + 1, _, _, _, by go_num, by omega, by have := ZF.out; rw [← HPR.out] at this; simp only [List.append_assoc] at this; rw [HTK.out]; exact this⟩
      case measure => simp [intOf]; omega
    · obtain rfl : k = hs.length := by omega
      obtain ⟨q0, q1, q2, q3, q4, q5, q6⟩ := hst.sh.sh
      have CX := Lib.hid (hst.num hlt (ls.length : Int) (by omega) (by rw [List.length_append]; omega))
      clear hst
      go_wp2_with fail
      refine CX.out.mono ?_
      rintro e w8 ⟨v8, rfl, h8⟩
      rw [List.take_length] at h8
      rw [List.take_length] at hfl
      obtain ⟨P3, hP3⟩ : ∃ P3, P2 ++ hs.flatMap hdL ++ [(ls.length : Int)] = P3 := ⟨_, rfl⟩
      have hl3 : P3.length ≤ 400 := by rw [← hP3, List.length_append, List.length_append, hfl, List.length_singleton]; omega
      rw [hP3] at h8
      have HP3 := Lib.hid hP3
      have H8 := Lib.hid h8
      clear q0 q1 q2 q3 q4 q5 q6 CX hP3 hfl
      obtain ⟨q0, q1, q2, q3, q4, q5, q6⟩ := h8.sh.sh
      clear h8
      go_wp2_with fail
      clear q0 q1 q2 q3 q4 q5 q6
      go_loopw [3, 7, 74] (fun x _ j wr => ∃ (k gh : Nat) (T : TypeId) (cs : Array Value), j = .int .i64 (k : Int) ∧ k ≤ ls.length ∧ ENr w g B (shC i t (.slice An ns.length cn) lim nxt (.slice Ah hs.length ch) (.slice Al ls.length cl)) gh T cs wr x (P3 ++ (ls.take k).flatMap lsL)) (fun _ _ j _ => ls.length - (intOf j).toNat)
      case atStart => exact ⟨0, _, _, _, rfl, by omega, by simpa using H8.out⟩
      case round =>
        clear H8
        obtain ⟨k, gh, T, cs, rfl, hk, hst⟩ := hrel
        have hfl := flatI_len (f := lsL) (s := 6) (fun _ => rfl) (ls.take k)
        rw [List.length_take, Nat.min_eq_left hk] at hfl
        by_cases hlt2 : k < ls.length
        · obtain ⟨b, off, rfl, _, hall⟩ := (HL.out.keep (hg ▸ hst.bel)).ls (by omega)
          obtain ⟨c0, c1, c2, c3, c4, c5⟩ := hall k hlt2
          have hmem := NU.out.ls _ (List.getElem_mem hlt2)
          have htk := List.take_append_getElem hlt2
          obtain ⟨y, hy⟩ : ∃ y, ls[k] = y := ⟨_, rfl⟩
          rw [hy] at c0 c1 c2 c3 c4 c5 hmem htk
          have HTK : Hid ((ls.take (k + 1)).flatMap lsL = (ls.take k).flatMap lsL ++ lsL y) := by
            show _ = _
            rw [← htk, List.flatMap_append, List.flatMap_singleton]
          have HM := Lib.hid hmem
          have w1' : IntKind.u64.wrap y.nod = y.nod := wrap_u (by omega) (by omega)
          have w2' : IntKind.u64.wrap y.cod = y.cod := wrap_u (by omega) (by omega)
          have w3' : IntKind.u64.wrap y.tok = y.tok := wrap_u (by omega) (by omega)
          have hst2 := hst.new hlt 61 (lsA y)
          obtain ⟨ge, hge⟩ : ∃ ge, wr.heap.size = ge := ⟨_, rfl⟩
          rw [hge] at hst2
          clear hall hst hy htk hmem
          go_upto_region 14 with (fail)
          change Code.wp _ _ _ _ (wr.alloc (.cells (lsA y) 61))
          generalize wr.alloc (.cells (lsA y) 61) = W3 at hst2 ⊢
          try rw [hge]
          clear c0 c1 c2 c3 c4 c5 hge
          have T0 := hst2.drew.row.lsS
          unfold LsS at T0
          obtain ⟨PR, hPR⟩ : ∃ PR, P3 ++ (ls.take k).flatMap lsL = PR := ⟨_, rfl⟩
          have hlr : PR.length ≤ 900 := by rw [← hPR, List.length_append]; omega
          rw [hPR] at hst2
          have HPR := Lib.hid hPR
          have Y0 := Lib.hid (hst2.drew.num hlt y.nod (by have := HM.out; omega) (by omega))
          clear hst2 hPR hfl
          go_wp2_with fail
          go_region_held3 (fun w' => w'.cell? ⟨ge, 0, none⟩ = some (.int .i64 y.nod) ∧ w'.cell? ⟨ge, 1, none⟩ = some (.int .u64 y.bt) ∧ w'.cell? ⟨ge, 2, none⟩ = some (.int .u64 y.sq) ∧ w'.cell? ⟨ge, 3, none⟩ = some (.int .i64 y.cod) ∧ w'.cell? ⟨ge, 4, none⟩ = some (.int .i64 y.tok) ∧ w'.cell? ⟨ge, 5, none⟩ = some (.int .u64 y.ser)) (first | exact T0 | exact T1 | exact T2 | exact T3)
            (first
              | (go_at_call 46; refine Y0.out.mono ?_; rintro e wq0 ⟨vq0, rfl, hq⟩; have T1 := hq.row.lsS; unfold LsS at T1; have Y1 := Lib.hid (hq.num hlt y.bt (by have := HM.out; omega) (by simp; omega)); clear hq)
              | (go_at_call 46; refine Y1.out.mono ?_; rintro e wq1 ⟨vq1, rfl, hq⟩; have T2 := hq.row.lsS; unfold LsS at T2; have Y2 := Lib.hid (hq.num hlt y.sq (by have := HM.out; omega) (by simp; omega)); clear hq)
              | (go_at_call 46; refine Y2.out.mono ?_; rintro e wq2 ⟨vq2, rfl, hq⟩; have T3 := hq.row.lsS; unfold LsS at T3; have ZM := Lib.hid hq; clear hq))
          have U0' := ZM.out.drew.row.lsS
          unfold LsS at U0'
          have Y3 := Lib.hid (ZM.out.drew.num hlt y.cod (by have := HM.out; omega) (by simp; omega))
          clear T0 T1 T2 T3 Y0 Y1 Y2
          go_wp2_with fail
          go_region_held3 (fun w' => w'.cell? ⟨ge, 0, none⟩ = some (.int .i64 y.nod) ∧ w'.cell? ⟨ge, 1, none⟩ = some (.int .u64 y.bt) ∧ w'.cell? ⟨ge, 2, none⟩ = some (.int .u64 y.sq) ∧ w'.cell? ⟨ge, 3, none⟩ = some (.int .i64 y.cod) ∧ w'.cell? ⟨ge, 4, none⟩ = some (.int .i64 y.tok) ∧ w'.cell? ⟨ge, 5, none⟩ = some (.int .u64 y.ser)) (first | exact U0' | exact U1' | exact U2' | exact U3')
            (first
              | (go_at_call 46; refine Y3.out.mono ?_; rintro e wq3 ⟨vq3, rfl, hq⟩; have U1' := hq.row.lsS; unfold LsS at U1'; have Y4 := Lib.hid (hq.num hlt y.tok (by have := HM.out; omega) (by simp; omega)); clear hq)
              | (go_at_call 46; refine Y4.out.mono ?_; rintro e wq4 ⟨vq4, rfl, hq⟩; have U2' := hq.row.lsS; unfold LsS at U2'; have Y5 := Lib.hid (hq.num hlt y.ser (by have := HM.out; omega) (by simp; omega)); clear hq)
              | (go_at_call 46; refine Y5.out.mono ?_; rintro e wq5 ⟨vq5, rfl, hq⟩; have U3' := hq.row.lsS; unfold LsS at U3'; have ZF := Lib.hid hq; clear hq))
          go_wp2
          go_roundw
          case rel => exact ⟨k + 1, _, _, _, by go_num, by omega, by have := ZF.out; rw [← HPR.out] at this; simp only [List.append_assoc] at this; rw [HTK.out]; exact this⟩
          case measure => simp [intOf]; omega
        · obtain rfl : k = ls.length := by omega
          have HS := Lib.hid hst
          clear hst hfl
          go_wp2
          go_ret
          refine ⟨_, rfl, ?_, HS.out.bel⟩
          have hown := HS.out.own
          rw [List.take_length] at hown
          rw [← HSB.out]
          have e : shotB i t ns lim nxt hs ls = 83 :: numsB (P3 ++ ls.flatMap lsL) := by
            unfold shotB shotL
            rw [← HP3.out, ← HP2.out]
            simp only [List.append_assoc, List.cons_append, List.nil_append]
          rw [e]
          exact own_lower hown (by omega)
end Go.Proofs.Ythdeappjankmmaa
