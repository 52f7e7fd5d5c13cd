/- The document's pool: Close. -/
import Derived.Test.YtidkhekekfennaaRpF
namespace Go.Proofs.Ytidkhekekfennaa
set_option maxRecDepth 100000
set_option linter.unusedVariables false
open Go.RowKit

/-- append(v, x...) of rows, in a region that draws. -/
theorem step_rowsH {α : Type} {f : α → List Value} {s bytes : Nat} {T E : TypeId} {z0 : Value} {W : World} (hT : Try.prog.underlying T = some (.slice E)) (hinfo : (Try.prog.info? E).map (fun i => (i.zero, i.size, i.bytes)) = some (some z0, s, bytes)) (hz : z0.cells.size = s) (hs0 : 0 < s) (hone : ∀ x, ∀ u ∈ f x, u.oneCell' = true)
    {ops : Array Oper} {o : Oper} {a : Act} {K : Act → World → Prop} {Q : Exit → Act → World → Prop} {X : Prop} (base : Nat) (hgd : o.guard = none) (sx x : Operand)
    (ho : o.op = .call { callee := .builtin .append, args := #[sx, x], argTypes := #[T, T] })
    (v : Value) (l l2 : List α) (n : Nat) (hn : l.length = n) (hs : a.eval sx = v) (A : Option Addr) (c m : Nat) (hm : l2.length = m) (hx : a.eval x = .slice A m c) (HO : W.ownsRow base E s v l.length (l.flatMap f)) (hr : Reads W W.heap.size s A l2.length (l2.flatMap f)) (hbase : base ≤ W.heap.size) (hl : (n + m) * bytes ≤ 140737488355328) (hb1 : 1 ≤ bytes)
    (h : ∀ v1 w1, w1.ownsRow base E s v1 (l ++ l2).length ((l ++ l2).flatMap f) → W.grownBy w1 v.ownBlock → K (a.put o.dst v1) w1) :
    if Region.wanted o (yielded ops a.tmps) = true then Oper.wp Try.prog o a W K Q else X := by
  subst hn hm
  obtain ⟨i0, hi, hz0, hz1, hz2⟩ := info_parts hinfo
  have hlen : l.length + l2.length ≤ (l.length + l2.length) * bytes := Nat.le_mul_of_pos_right _ hb1
  refine step_append_any _ hgd sx x T ho base E i0 z0 s bytes hT hi hz0 hz1 hz2 hz hs0 v l.length (l.flatMap f) hs HO W.heap.size A l2.length c (l2.flatMap f) hx hr (fun u hu => by obtain ⟨y, _, hy⟩ := List.mem_flatMap.1 hu; exact hone y u hy) (by simp only [maxLen]; omega) hl hbase ?_
  intro v1 w1 ho1 hg hat
  refine h v1 w1 ?_ hg
  rw [List.length_append, List.flatMap_append]
  exact ho1
/-- What a row's head and its tail read. -/
theorem InS.headR {α : Type} {f : α → List Value} {s : Nat} {w : World} {gb off c : Nat} {l : List α} (h : InS f s w (some ⟨gb, off, none⟩) c l) (hf : ∀ x, (f x).length = s) (k : Nat) (hk : k ≤ l.length) : Reads w w.heap.size s (some ⟨gb, off, none⟩) (l.take k).length ((l.take k).flatMap f) := by
  refine ⟨by rw [flat_len hf], fun h0 => ?_⟩
  have hlt : (l.take k).length = k := by rw [List.length_take]; omega
  obtain ⟨b, o, e, hb, hc⟩ := h.reads.2 (by omega)
  refine ⟨b, o, e, hb, fun j u hu => hc j u ?_⟩
  have e2 : l.flatMap f = (l.take k).flatMap f ++ (l.drop k).flatMap f := by rw [← List.flatMap_append, List.take_append_drop]
  rw [e2]
  have hj : j < ((l.take k).flatMap f).length := by
    rcases Nat.lt_or_ge j ((l.take k).flatMap f).length with q | q
    · exact q
    · rw [List.getElem?_eq_none q] at hu; cases hu
  rw [List.getElem?_append_left hj]
  exact hu
theorem InS.tailR {α : Type} {f : α → List Value} {s : Nat} {w : World} {gb off c : Nat} {l : List α} (h : InS f s w (some ⟨gb, off, none⟩) c l) (hf : ∀ x, (f x).length = s) (k : Nat) (hk : k ≤ l.length) : Reads w w.heap.size s (some ⟨gb, off + k * s, none⟩) (l.drop k).length ((l.drop k).flatMap f) := by
  refine ⟨by rw [flat_len hf], fun h0 => ?_⟩
  obtain ⟨b, o, e, hb, hc⟩ := h.reads.2 (by rw [List.length_drop] at h0; omega)
  injection e with e
  injection e with e1 e2
  subst e1 e2
  refine ⟨gb, off + k * s, rfl, hb, fun j u hu => ?_⟩
  have := hc (k * s + j) u (by
    have e2 : l.flatMap f = (l.take k).flatMap f ++ (l.drop k).flatMap f := by rw [← List.flatMap_append, List.take_append_drop]
    have e3 : ((l.take k).flatMap f).length = k * s := by rw [flat_len hf, List.length_take, Nat.min_eq_left hk]
    rw [e2, List.getElem?_append_right (by omega), e3, Nat.add_sub_cancel_left]
    exact hu)
  rw [Nat.add_assoc]
  exact this
theorem Reads.empty {w : World} {B s : Nat} {A : Option Addr} : Reads w B s A 0 [] := ⟨by simp, fun h => absurd h (Nat.lt_irrefl _)⟩
/-- A slice behind xs[k:], whatever its address is written like. -/
theorem InS.tailA {α : Type} {f : α → List Value} {s : Nat} {w : World} {gb c : Nat} {l : List α} (h : InS f s w (some ⟨gb, 0, none⟩) c l) (hf : ∀ x, (f x).length = s) (k : Nat) (hk : k ≤ l.length) : Reads w w.heap.size s (if c = k then some ⟨gb, 0, none⟩ else some ⟨gb, k * s, none⟩) (l.drop k).length ((l.drop k).flatMap f) := by
  split
  · next e =>
    have : l.drop k = [] := List.drop_eq_nil_of_le (by have := h.cap; omega)
    rw [this]
    exact Reads.empty
  · have := h.tailR hf k hk
    rwa [Nat.zero_add] at this
theorem Reads.mono_ {w w1 : World} {s n : Nat} {A : Option Addr} {xs : List Value} (h : Reads w w.heap.size s A n xs) (hb : Below w.heap.size w w1) : Reads w1 w1.heap.size s A n xs := (h.below hb).more hb.size
def sesAt (cs : List Cn) (k : Nat) : Int := match cs[k]? with
  | some c => c.s
  | none => 0
def rcloseP (cs : List Cn) (ws : List Int) (t : Int) : Rs := match fdT cs t with
  | some i => ⟨sesAt cs i, 0, cs.take i ++ cs.drop (i + 1), ws⟩
  | none => ⟨0, 4, cs, ws⟩
theorem fdT_some {cs : List Cn} {t : Int} {k : Nat} (h : fdT cs t = some k) : ∃ hk : k < cs.length, cs[k].t = t ∧ ∀ j (hj : j < k), cs[j].t ≠ t := by
  obtain ⟨hk, h1, h2⟩ := List.findIdx?_eq_some_iff_getElem.1 h
  exact ⟨hk, by simpa using h1, fun j hj => by simpa using h2 j hj⟩
set_option maxHeartbeats 8000000 in
theorem rclose_any (w : World) (base g : Nat) (v u : Value) (cs : List Cn) (ws : List Int) (h : RpAt w base g v u cs ws) (hbase : base ≤ w.heap.size) (t : Int) :
    Calls Try.prog 16 #[.pointer (some ⟨g, 0, none⟩), .int .i64 t] w (RPost w base g v u (rcloseP cs ws t)) := by
  have C := rfind_any w base g v u cs ws h t
  cases hf : fdT cs t with
  | none =>
    rw [rcloseP, hf]
    rw [hf] at C
    change Calls _ _ _ _ (fun e w' => e = .returned (.int .i64 (-1)) ∧ _) at C
    obtain ⟨Q, hQ⟩ : ∃ Q, RPost w base g v u ⟨0, 4, cs, ws⟩ = Q := ⟨_, rfl⟩
    change Calls _ _ _ _ (RPost w base g v u ⟨0, 4, cs, ws⟩)
    rw [hQ]
    have HQ := Lib.hid hQ
    have HH := Lib.hid h
    have C := Lib.hid C
    clear h hQ hf hbase
    go_enter Try.func16, Try.ntmps16
    go_wp2_with fail
    refine C.out.mono ?_
    rintro e w1 ⟨rfl, hb⟩
    have HP := Lib.hid (RPost.same HH.out hb 0 4)
    clear hb C
    go_wp2
    show Q (.returned (.tuple #[.int .i64 0, .int .i64 4])) _
    rw [← HQ.out]
    exact HP.out
  | some i =>
    obtain ⟨hi, -, -⟩ := fdT_some hf
    rw [rcloseP, hf]
    rw [hf] at C
    change Calls _ _ _ _ (fun e w' => e = .returned (.int .i64 (i : Int)) ∧ _) at C
    obtain ⟨q, hq⟩ : ∃ q, sesAt cs i = q := ⟨_, rfl⟩
    obtain ⟨Q, hQ⟩ : ∃ Q, RPost w base g v u ⟨sesAt cs i, 0, cs.take i ++ cs.drop (i + 1), ws⟩ = Q := ⟨_, rfl⟩
    change Calls _ _ _ _ (RPost w base g v u ⟨sesAt cs i, 0, cs.take i ++ cs.drop (i + 1), ws⟩)
    rw [hQ]
    rw [hq] at hQ
    have hqi : cs[i].s = q := by rw [← hq, sesAt, List.getElem?_eq_getElem hi]
    have HQ := Lib.hid hQ
    have HH := Lib.hid h
    have C := Lib.hid C
    obtain ⟨n, hn⟩ : ∃ n, cs.length = n := ⟨_, rfl⟩
    have hn8 : n ≤ 8 := hn ▸ h.c8
    have hin : i < n := hn ▸ hi
    have HQI := Lib.hid hqi
    have HN := Lib.hid hn
    have HI := Lib.hid hi
    have HBS := Lib.hid hbase
    have h9 : decide ((i : Int) < 0) = false := decide_eq_false (by omega)
    clear h hQ hf hq hqi hbase hn
    go_enter Try.func16, Try.ntmps16
    go_wp2_with fail
    refine C.out.mono ?_
    rintro e w1 ⟨rfl, hb⟩
    have hp := HH.out.keep hb
    obtain ⟨gb, cap, hv, hne, hlt, hu, hcn, hfz⟩ := hp.row1 HI.out
    obtain ⟨c0, c1⟩ := hcn
    rw [HQI.out] at c1
    have z0 := hp.z0
    rw [hv, HN.out] at z0
    have f0 := hp.blk.frozen 0
    obtain ⟨A1, cA, e1, hins⟩ := hp.ins
    rw [hv] at e1
    injection e1 with q1 q2 q3
    subst q1 q3
    have hcap : n ≤ cap := by rw [← HN.out]; exact hins.cap
    have HR1 := Lib.hid (hins.headR cnC_len i (Nat.le_of_lt HI.out))
    have HR2 := Lib.hid (hins.tailA cnC_len (i + 1) HI.out)
    have HL1 : Hid ((cs.take i).length = i) := Lib.hid (by rw [List.length_take]; have := HI.out; omega)
    have HL2 : Hid ((cs.drop (i + 1)).length = n - (i + 1)) := Lib.hid (by rw [List.length_drop, HN.out])
    obtain ⟨LL, hLL⟩ : ∃ LL, cs.take i ++ cs.drop (i + 1) = LL := ⟨_, rfl⟩
    have HLL := Lib.hid hLL
    have HL8 : Hid (LL.length ≤ 8) := Lib.hid (by rw [← hLL, List.length_append, HL1.out, HL2.out]; omega)
    have HP := Lib.hid hp
    have HB := Lib.hid hb
    have HV : Hid (v = .slice (some ⟨gb, 0, none⟩) n cap) := Lib.hid (HN.out ▸ hv)
    clear hb C hp hv hlt hu hfz hne c0 q2 hins hLL
    have hc2 : i + 1 ≤ cap := by omega
    have hw1 : IntKind.i64.wrap ((i : Int) + 1) = (i : Int) + 1 := by rw [IntKind.wrap_i64]; omega
    have hA : (i : Int) + 1 ≤ (n : Int) := by omega
    have hA2 : ((i + 1 : Nat) : Int) ≤ (n : Int) := by omega
    have hA3 : i + 1 ≤ n := by omega
    have hA4 : (i : Int) ≤ (cap : Int) := by omega
    have hA5 : i ≤ cap := by omega
    have hA6 : (i : Int) ≤ (i : Int) + 1 := by omega
    have hA7 : (0 : Int) ≤ (i : Int) + 1 := by omega
    by_cases hce : cap = i + 1
    · have HR2 := Lib.hid HR2.out
      rw [if_pos hce] at HR2
      obtain rfl : n = i + 1 := by omega
      subst hce
      have HL2 : Hid ((cs.drop (i + 1)).length = 0) := Lib.hid (HL2.out.trans (by omega))
      go_upto_region 5 with (fail)
      go_region_law (first | (refine step_rowsH (f := cnC) (W := w1.drew) Try.underlying40 info_RConn rfl (by omega) cnC_one w1.heap.size rfl _ _ rfl (.slice none 0 0) [] (cs.take i) 0 rfl rfl _ _ _ HL1.out (by first | rfl | simp [Act.eval]) (own_nil _ _ _ _) HR1.out (Nat.le_refl _) (by omega) (by omega) ?_; intro v2 w2 ho2 hg2; rw [List.nil_append] at ho2; have hb2 : Below w1.heap.size w1 w2 := (Below.refl _ _).drew.grown hg2 (Nat.le_refl _) (fun b e => by cases e); have HO2 := Lib.hid ho2; have HB2 := Lib.hid hb2; have z0' := ((HP.out.keep hb2).z0).trans (congrArg some HV.out); have f0' := (HP.out.keep hb2).blk.frozen 0; clear ho2 hg2 hb2) | (refine step_rowsH (f := cnC) (W := w2) Try.underlying40 info_RConn rfl (by omega) cnC_one w1.heap.size rfl _ _ rfl v2 (cs.take i) (cs.drop (i + 1)) i HL1.out (by first | rfl | simp [Act.eval]) _ _ _ HL2.out (by first | rfl | simp [Act.eval]) HO2.out (HR2.out.mono_ HB2.out) HB2.out.size (by omega) (by omega) ?_; intro v3 w3 ho3 hg3; rw [HLL.out] at ho3; have hb3 : Below w1.heap.size w1 w3 := HB2.out.grown hg3 HB2.out.size (fun b e => own_base HO2.out b e); have HO3 := Lib.hid ho3; have HB3 := Lib.hid hb3; obtain ⟨A3, c3, rfl⟩ := own_slice ho3; have z0'' := ((HP.out.keep hb3).z0).trans (congrArg some HV.out); have f0'' := (HP.out.keep hb3).blk.frozen 0; clear ho3 hg3 hb3))
      all_goals (
        have hp4 := (HP.out.keep HB3.out).setV (own_lower HO3.out (Nat.le_trans HBS.out HB.out.size)) HL8.out
        have hT : Tr w (w3.setCell ⟨g, 0, none⟩ (.slice A3 LL.length c3)) (RB g v u) := ((Tr.of_below HB.out).trans (Tr.of_below HB3.out)).setCell (fun _ => Or.inl rfl) _
        have HE : Hid (RPost w base g v u ⟨q, 0, LL, ws⟩ (.returned (.tuple #[.int .i64 q, .int .i64 0])) (w3.setCell ⟨g, 0, none⟩ (.slice A3 LL.length c3))) := Lib.hid ⟨_, u, rfl, hp4, hT, fun j hj => by
          rcases hj with e | e | e
          · exact Or.inl (Or.inl e)
          · exact Or.inr (Nat.le_trans HB.out.size (own_base HO3.out j e))
          · exact Or.inl (Or.inr (Or.inr e))⟩
        clear hp4 hT
        go_wp2
        show Q (.returned (.tuple #[.int .i64 q, .int .i64 0])) _
        rw [← HQ.out, HLL.out]
        exact HE.out)
    · have HR2 := Lib.hid HR2.out
      rw [if_neg hce] at HR2
      go_upto_region 5 with (fail)
      go_region_law (first | (refine step_rowsH (f := cnC) (W := w1.drew) Try.underlying40 info_RConn rfl (by omega) cnC_one w1.heap.size rfl _ _ rfl (.slice none 0 0) [] (cs.take i) 0 rfl rfl _ _ _ HL1.out (by first | rfl | simp [Act.eval]) (own_nil _ _ _ _) HR1.out (Nat.le_refl _) (by omega) (by omega) ?_; intro v2 w2 ho2 hg2; rw [List.nil_append] at ho2; have hb2 : Below w1.heap.size w1 w2 := (Below.refl _ _).drew.grown hg2 (Nat.le_refl _) (fun b e => by cases e); have HO2 := Lib.hid ho2; have HB2 := Lib.hid hb2; have z0' := ((HP.out.keep hb2).z0).trans (congrArg some HV.out); have f0' := (HP.out.keep hb2).blk.frozen 0; clear ho2 hg2 hb2) | (refine step_rowsH (f := cnC) (W := w2) Try.underlying40 info_RConn rfl (by omega) cnC_one w1.heap.size rfl _ _ rfl v2 (cs.take i) (cs.drop (i + 1)) i HL1.out (by first | rfl | simp [Act.eval]) _ _ _ HL2.out (by first | rfl | simp [Act.eval]) HO2.out (HR2.out.mono_ HB2.out) HB2.out.size (by omega) (by omega) ?_; intro v3 w3 ho3 hg3; rw [HLL.out] at ho3; have hb3 : Below w1.heap.size w1 w3 := HB2.out.grown hg3 HB2.out.size (fun b e => own_base HO2.out b e); have HO3 := Lib.hid ho3; have HB3 := Lib.hid hb3; obtain ⟨A3, c3, rfl⟩ := own_slice ho3; have z0'' := ((HP.out.keep hb3).z0).trans (congrArg some HV.out); have f0'' := (HP.out.keep hb3).blk.frozen 0; clear ho3 hg3 hb3))
      all_goals (
        have hp4 := (HP.out.keep HB3.out).setV (own_lower HO3.out (Nat.le_trans HBS.out HB.out.size)) HL8.out
        have hT : Tr w (w3.setCell ⟨g, 0, none⟩ (.slice A3 LL.length c3)) (RB g v u) := ((Tr.of_below HB.out).trans (Tr.of_below HB3.out)).setCell (fun _ => Or.inl rfl) _
        have HE : Hid (RPost w base g v u ⟨q, 0, LL, ws⟩ (.returned (.tuple #[.int .i64 q, .int .i64 0])) (w3.setCell ⟨g, 0, none⟩ (.slice A3 LL.length c3))) := Lib.hid ⟨_, u, rfl, hp4, hT, fun j hj => by
          rcases hj with e | e | e
          · exact Or.inl (Or.inl e)
          · exact Or.inr (Nat.le_trans HB.out.size (own_base HO3.out j e))
          · exact Or.inl (Or.inr (Or.inr e))⟩
        clear hp4 hT
        go_wp2
        show Q (.returned (.tuple #[.int .i64 q, .int .i64 0])) _
        rw [← HQ.out, HLL.out]
        exact HE.out)
end Go.Proofs.Ytidkhekekfennaa
