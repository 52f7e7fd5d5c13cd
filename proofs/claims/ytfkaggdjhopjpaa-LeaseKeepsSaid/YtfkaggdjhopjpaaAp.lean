/- Ledgers: the document's Find, without. -/
import Derived.Test.YtfkaggdjhopjpaaShCp
import Derived.Test.YtfkaggdjhopjpaaOneH
import Derived.Test.YtfkaggdjhopjpaaSetM
import Derived.Test.YtfkaggdjhopjpaaLedR
namespace Go.Proofs.Ytfkaggdjhopjpaa
set_option maxRecDepth 100000
open Go.RowKit

def hd0 : Hd := ⟨0, 0, 0, 0, 0⟩
def hdV (h : Hd) : Value := .agg #[.int .i64 h.tok, .int .i64 h.nod, .int .u64 h.bt, .int .u64 h.ser, .int .u64 h.stp]
def findT (hs : List Hd) (t : Int) : Option Hd := hs.find? (fun h => h.tok == t)
def outT (hs : List Hd) (t : Int) : List Hd := hs.filter (fun h => h.tok != t)
theorem info_Hd1 : (Try.prog.info? 55).map (·.size) = some 5 := by kernel_rfl
theorem info_Hd : (Try.prog.info? 55).map (fun i => (i.zero, i.size, i.bytes)) = some (some (.agg #[.int .i64 0, .int .i64 0, .int .u64 0, .int .u64 0, .int .u64 0]), 5, 40) := by kernel_rfl
theorem hdA_one (h : Hd) : (hdA h).all (·.oneCell') = true := by simp [hdA, Value.oneCell']
theorem findT_take {hs : List Hd} {t : Int} {k : Nat} (hk : k < hs.length) (h : ∀ j (hj : j < hs.length), j < k → hs[j].tok ≠ t) (e : hs[k].tok = t) : findT hs t = some hs[k] := by
  unfold findT
  rw [List.find?_eq_some_iff_getElem]
  refine ⟨by simpa using e, k, hk, rfl, fun j hj => ?_⟩
  have := h j (by omega) hj
  simpa using this
theorem findT_none {hs : List Hd} {t : Int} (h : ∀ j (hj : j < hs.length), hs[j].tok ≠ t) : findT hs t = none := by
  unfold findT
  rw [List.find?_eq_none]
  intro x hx
  obtain ⟨j, hj, rfl⟩ := List.getElem_of_mem hx
  have := h j hj
  simpa using this
theorem outT_succ (hs : List Hd) (t : Int) (k : Nat) (hk : k < hs.length) : outT (hs.take (k + 1)) t = outT (hs.take k) t ++ (if hs[k].tok != t then [hs[k]] else []) := by
  unfold outT
  rw [← List.take_append_getElem hk, List.filter_append]
  congr 1
  by_cases h : hs[k].tok = t
  · simp [h]
  · simp [h]
theorem outT_len (hs : List Hd) (t : Int) : (outT hs t).length ≤ hs.length := List.length_filter_le _ _
set_option maxHeartbeats 8000000 in
theorem r05_Find_any (w : World) (lim nxt : Int) (Ah : Option Addr) (ch : Nat) (hs : List Hd) (Al : Option Addr) (cl m : Nat) (t : Int) (hh : InS hdC 5 w Ah ch hs) :
    Calls Try.prog 47 #[ledV lim nxt (.slice Ah hs.length ch) (.slice Al m cl), .int .i64 t] w fun e w' => e = .returned (.tuple #[hdV ((findT hs t).getD hd0), .bool (findT hs t).isSome]) ∧ Below w.heap.size w w' := by
  obtain ⟨g, hg⟩ : ∃ g, w.heap.size = g := ⟨_, rfl⟩
  obtain ⟨gr, hgr⟩ : ∃ gr, g + 1 = gr := ⟨_, rfl⟩
  have hs1 : (w.alloc (.cells (ledC lim nxt (.slice Ah hs.length ch) (.slice Al m cl)) 26)).heap.size = gr := by simp [hg, hgr]
  have hb0 : Blk ((w.alloc (.cells (ledC lim nxt (.slice Ah hs.length ch) (.slice Al m cl)) 26)).alloc (.cells (hdA hd0) 55)) g 26 (ledC lim nxt (.slice Ah hs.length ch) (.slice Al m cl)) := (hg ▸ Blk.new w 26 (ledC lim nxt (.slice Ah hs.length ch) (.slice Al m cl)) : Blk (w.alloc (.cells (ledC lim nxt (.slice Ah hs.length ch) (.slice Al m cl)) 26)) g 26 (ledC lim nxt (.slice Ah hs.length ch) (.slice Al m cl))).alloc _
  have hr0 : Blk ((w.alloc (.cells (ledC lim nxt (.slice Ah hs.length ch) (.slice Al m cl)) 26)).alloc (.cells (hdA hd0) 55)) gr 55 (hdA hd0) := hs1 ▸ Blk.new _ _ _
  have hB0 : Below g w ((w.alloc (.cells (ledC lim nxt (.slice Ah hs.length ch) (.slice Al m cl)) 26)).alloc (.cells (hdA hd0) 55)) := ((Below.refl _ _).alloc (by omega) _).alloc (by omega) _
  have hcap := hh.cap
  have hsm := hh.small
  have HH := Lib.hid hh
  rw [hg]
  have HG := Lib.hid hg
  have HGR : Hid (g ≤ gr) := by show _ ≤ _; omega
  clear hh hs1
  unfold ledV
  go_enter Try.func47, Try.ntmps47
  go_upto_region 1 with (fail)
  change Code.wp _ _ _ _ ((w.alloc (.cells (ledC lim nxt (.slice Ah hs.length ch) (.slice Al m cl)) 26)).alloc (.cells (hdA hd0) 55))
  generalize ((w.alloc (.cells (ledC lim nxt (.slice Ah hs.length ch) (.slice Al m cl)) 26)).alloc (.cells (hdA hd0) 55)) = W0 at hb0 hr0 hB0 ⊢
  try rw [hg]
  try rw [hgr]
  obtain ⟨q0, q1, q2, q3⟩ := hb0.led
  have HR0 := Lib.hid hr0
  have HB0 := Lib.hid hB0
  clear hb0 hr0 hB0 hg
  go_wp2_with fail
  clear q0 q1 q2 q3
  go_loopw [7, 11] (fun _ iv wr => ∃ (k : Nat), iv = .int .i64 (k : Int) ∧ k ≤ hs.length ∧ (∀ j (hj : j < hs.length), j < k → hs[j].tok ≠ t) ∧ Blk wr gr 55 (hdA hd0) ∧ Below g w wr) (fun _ iv _ => hs.length - (intOf iv).toNat)
  case atStart => exact ⟨0, rfl, by omega, (fun _ _ h => by omega), HR0.out, HB0.out⟩
  case round =>
    clear HR0 HB0
    obtain ⟨k, rfl, hk, hno, hr, hB⟩ := hrel
    have HNO := Lib.hid hno
    have HR := Lib.hid hr
    have HB := Lib.hid hB
    clear hno hr
    by_cases hkl : k < hs.length
    · obtain ⟨b, off, rfl, hbb, hat⟩ := (HH.out.keep (HG.out ▸ hB)).hd (by omega)
      have hatk := hat k hkl
      obtain ⟨x, hx⟩ : ∃ x, hs[k] = x := ⟨_, rfl⟩
      rw [hx] at hatk
      have HX := Lib.hid hx
      obtain ⟨c0, c1, c2, c3, c4⟩ := hatk
      obtain ⟨gx, hgx⟩ : ∃ gx, wr.heap.size = gx := ⟨_, rfl⟩
      have hx5 : Blk (wr.alloc (.cells (hdA x) 55)) gx 55 (hdA x) := hgx ▸ Blk.new _ _ _
      have hr5 := HR.out.alloc (.cells (hdA x) 55)
      have hB5 := HB.out.alloc (by have := HR.out.lt; omega) (.cells (hdA x) 55)
      clear hat hx hB
      go_upto_region 4 with (fail)
      change Code.wp _ _ _ _ (wr.alloc (.cells (hdA x) 55))
      generalize (wr.alloc (.cells (hdA x) 55)) = W5 at hx5 hr5 hB5 ⊢
      try rw [hgx]
      clear c0 c1 c2 c3 c4 HR HB hbb
      have d0 : W5.cell? ⟨gx, 0, none⟩ = some (.int .i64 x.tok) := (hx5.cell 0).trans rfl
      have HB5 := Lib.hid hB5
      have HR5 := Lib.hid hr5
      clear hB5 hr5
      cases e1 : (x.tok == t)
      · have hne : x.tok ≠ t := by simpa using e1
        have HNE := Lib.hid hne
        clear hne hx5
        go_wp2
        go_roundw
        case rel =>
          refine ⟨k + 1, by go_num, by omega, fun j hj hjk => ?_, HR5.out, HB5.out⟩
          rcases Nat.lt_or_ge j k with h | h
          · exact HNO.out j hj h
          · obtain rfl : j = k := by omega
            rw [HX.out]
            exact HNE.out
        case measure => simp [intOf]; omega
      · have HEQ : Hid (findT hs t = some x) := by
          show _ = _
          rw [← HX.out]
          exact findT_take hkl HNO.out (by rw [HX.out]; simpa using e1)
        go_wp2_with (first | (refine wpList_load_row rfl 55 _ rfl gx rfl 55 (hdA x) hx5 _ Try.underlying55 rfl info_Hd1 ?_) | (refine wpList_store_row rfl 55 _ _ rfl gr (hdA x) rfl rfl 55 (hdA hd0) HR5.out info_Hd1 rfl (hdA_one _) ?_))
        (try simp only [Exit.inBlock, Exit.then])
        refine bodyPost_ret (results_cell rfl rfl (run_loadVar_row _ gr 55 55 _ (0, 0) _ (Blk.row (cs := hdA x) HR5.out) Try.underlying55 rfl info_Hd1)) rfl ?_
        rw [HEQ.out]
        exact ⟨rfl, row_below HB5.out HGR.out _⟩
    · have HEQ : Hid (findT hs t = none) := findT_none fun j hj => HNO.out j hj (by omega)
      go_wp2_with (refine wpList_store_row rfl 55 _ _ rfl gr (hdA hd0) rfl rfl 55 (hdA hd0) HR.out info_Hd1 rfl (hdA_one _) ?_)
      (try simp only [Exit.inBlock, Exit.then])
      refine bodyPost_ret (results_cell rfl rfl (run_loadVar_row _ gr 55 55 _ (0, 0) _ (Blk.row (cs := hdA hd0) HR.out) Try.underlying55 rfl info_Hd1)) rfl ?_
      rw [HEQ.out]
      exact ⟨rfl, row_below HB.out HGR.out _⟩
set_option maxHeartbeats 8000000 in
theorem r05_without_any (w : World) (Ah : Option Addr) (ch : Nat) (hs : List Hd) (t : Int) (hh : InS hdC 5 w Ah ch hs) (hl : hs.length ≤ 64) :
    Calls Try.prog 48 #[.slice Ah hs.length ch, .int .i64 t] w fun e w' => ∃ A' c', e = .returned (.slice A' (outT hs t).length c') ∧ OwS hdC 5 w' w.heap.size A' c' (outT hs t) ∧ Below w.heap.size w w' := by
  obtain ⟨g, hg⟩ : ∃ g, w.heap.size = g := ⟨_, rfl⟩
  have hcap := hh.cap
  have HH := Lib.hid hh
  rw [hg]
  have HG := Lib.hid hg
  clear hh hg
  go_enter Try.func48, Try.ntmps48
  go_wp2_with fail
  go_loopw [5, 7, 10] (fun v _ iv wr => ∃ (k : Nat), iv = .int .i64 (k : Int) ∧ k ≤ hs.length ∧ wr.ownsRow g 55 5 v (outT (hs.take k) t).length ((outT (hs.take k) t).flatMap hdC) ∧ Below g w wr) (fun _ _ iv _ => hs.length - (intOf iv).toNat)
  case atStart => exact ⟨0, rfl, by omega, own_nil _ _ _ _, Below.refl _ _⟩
  case round =>
    obtain ⟨k, rfl, hk, ho, hB⟩ := hrel
    have HO := Lib.hid ho
    have HB := Lib.hid hB
    clear ho
    by_cases hkl : k < hs.length
    · obtain ⟨b, off, rfl, hbb, hat⟩ := (HH.out.keep (HG.out ▸ hB)).hd (by omega)
      have hatk := hat k hkl
      obtain ⟨x, hx⟩ : ∃ x, hs[k] = x := ⟨_, rfl⟩
      rw [hx] at hatk
      have HX := Lib.hid hx
      have hgz : g ≤ wr.heap.size := by have := hB.size; have := HG.out; omega
      obtain ⟨c0, c1, c2, c3, c4⟩ := hatk
      obtain ⟨gx, hgx⟩ : ∃ gx, wr.heap.size = gx := ⟨_, rfl⟩
      have hx5 : Blk (wr.alloc (.cells (hdA x) 55)) gx 55 (hdA x) := hgx ▸ Blk.new _ _ _
      have hO5 := HO.out.alloc (.cells (hdA x) 55)
      have hB5 := HB.out.alloc hgz (.cells (hdA x) 55)
      have HZ5 : Hid (g ≤ (wr.alloc (.cells (hdA x) 55)).heap.size) := by show _ ≤ _; simp; omega
      clear hat hx hB
      go_upto_region 5 with (fail)
      change Code.wp _ _ _ _ (wr.alloc (.cells (hdA x) 55))
      generalize (wr.alloc (.cells (hdA x) 55)) = W5 at hx5 hO5 hB5 HZ5 ⊢
      try rw [hgx]
      clear c0 c1 c2 c3 c4 HO HB hbb
      have d0 : W5.cell? ⟨gx, 0, none⟩ = some (.int .i64 x.tok) := (hx5.cell 0).trans rfl
      have HB5 := Lib.hid hB5
      have HO5 := Lib.hid hO5
      have HSU := Lib.hid (outT_succ hs t k hkl)
      have HLN : Hid (((outT (hs.take k) t).length + 1) * 40 ≤ 140737488355328) := by
        have h1 := outT_len (hs.take k) t
        rw [List.length_take] at h1
        show _ ≤ _
        omega
      clear hB5 hO5 hgx
      cases e1 : (x.tok != t)
      · have HS2 : Hid (outT (hs.take (k + 1)) t = outT (hs.take k) t) := by
          show _ = _
          rw [HSU.out, HX.out, e1]
          simp
        clear hx5
        go_wp2
        go_roundw
        case rel =>
          refine ⟨k + 1, by go_num, by omega, ?_, HB5.out⟩
          rw [HS2.out]
          exact HO5.out
        case measure => simp [intOf]; omega
      · have HS2 : Hid (outT (hs.take (k + 1)) t = outT (hs.take k) t ++ [x]) := by
          show _ = _
          rw [HSU.out, HX.out, e1]
          simp
        have ho6 := HO5.out
        have d1 : W5.cell? ⟨gx, 1, none⟩ = some (.int .i64 x.nod) := (hx5.cell 1).trans rfl
        have d2 : W5.cell? ⟨gx, 2, none⟩ = some (.int .u64 x.bt) := (hx5.cell 2).trans rfl
        have d3 : W5.cell? ⟨gx, 3, none⟩ = some (.int .u64 x.ser) := (hx5.cell 3).trans rfl
        have d4 : W5.cell? ⟨gx, 4, none⟩ = some (.int .u64 x.stp) := (hx5.cell 4).trans rfl
        go_wp2_with ((refine wpList_oneH (f := hdC) (W := W5) Try.underlying23 info_Hd rfl (by omega) hdC_len hdC_one g rfl _ _ rfl u5 (outT (hs.take k) t) x rfl rfl rfl ho6 HZ5.out HLN.out (by omega) ?_; intro v8 w8 ho8 hg8 hat8; have HO8 := Lib.hid ho8; have HG8 := Lib.hid hg8; clear ho8 hg8 hat8))
        go_roundw
        case rel =>
          refine ⟨k + 1, by go_num, by omega, ?_, HB5.out.grown HG8.out HZ5.out (fun j hj => own_base HO5.out j hj)⟩
          rw [HS2.out]
          exact HO8.out
        case measure => simp [intOf]; omega
    · obtain rfl : k = hs.length := by omega
      have ho : wr.ownsRow g 55 5 u5 (outT hs t).length ((outT hs t).flatMap hdC) := by
        have := HO.out
        rwa [List.take_length] at this
      have hlen := outT_len hs t
      have hbase := own_base ho
      obtain ⟨A8, c8, e8, hin⟩ := InS.own ho (by omega)
      subst e8
      have HP : Hid (OwS hdC 5 wr g A8 c8 (outT hs t)) := ⟨hin, fun q e => hbase q.block (by rw [e]; rfl)⟩
      clear hin ho hbase hB HO hlen
      go_wp2
      go_ret
      exact ⟨A8, c8, rfl, HP.out, HB.out⟩
end Go.Proofs.Ytfkaggdjhopjpaa
