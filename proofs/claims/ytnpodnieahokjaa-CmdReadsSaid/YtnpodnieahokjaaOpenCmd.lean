/- Arguments opened: a command that came in. -/
import Derived.Test.YtnpodnieahokjaaCmdA
import Derived.Lib.SmallJoins
namespace Go.Proofs.Ytnpodnieahokjaa
open Go.Joins Go.ChangeShapes Go.WideShapes Go.RowKit Go.Deep Go.ChangeAt

section
variable {H : Type} {enc : TypeId × Value → H} {P : Program} {w : World} {base : Nat} {spare : Nat → Bool} {held : Bool}
theorem open_agg8 {r : Reach} {b0 : Nat} {t : TypeId} {f0 f1 f2 f3 f4 f5 f6 f7 : Field} {v : Value} {d : DataW H} {p : List MemPlace} (hs : P.underlying t = some (.struct #[f0, f1, f2, f3, f4, f5, f6, f7])) (hone : oneCellFields P #[f0, f1, f2, f3, f4, f5, f6, f7] = true) (hC : P.cellsOf t = 8)
    (hv : Value.okWide P w r b0 t v) (h : DataW.Trod enc P w base spare held t v d p) :
    ∃ (v0 v1 v2 v3 v4 v5 v6 v7 : Value) (y0 y1 y2 y3 y4 y5 y6 y7 : DataW H × List MemPlace) (n : Nat), v = .agg #[v0, v1, v2, v3, v4, v5, v6, v7] ∧ d = .agg [y0.1, y1.1, y2.1, y3.1, y4.1, y5.1, y6.1, y7.1] ∧ p = y0.2 ++ (y1.2 ++ (y2.2 ++ (y3.2 ++ (y4.2 ++ (y5.2 ++ (y6.2 ++ y7.2)))))) ∧
      DataW.trod enc P w base spare held n f0.type [v0] = some y0 ∧ DataW.trod enc P w base spare held n f1.type [v1] = some y1 ∧ DataW.trod enc P w base spare held n f2.type [v2] = some y2 ∧ DataW.trod enc P w base spare held n f3.type [v3] = some y3 ∧ DataW.trod enc P w base spare held n f4.type [v4] = some y4 ∧ DataW.trod enc P w base spare held n f5.type [v5] = some y5 ∧ DataW.trod enc P w base spare held n f6.type [v6] = some y6 ∧ DataW.trod enc P w base spare held n f7.type [v7] = some y7 := by
  obtain ⟨cs, rfl, hsz⟩ := okWide_struct hs hv
  obtain ⟨l⟩ := cs
  match l, hsz.trans hC with
  | [c0, c1, c2, c3, c4, c5, c6, c7], _ =>
    obtain ⟨fuel, hf⟩ := h
    obtain ⟨xs, n, _, hx, _, hlen, hg⟩ := DataW.trod_struct hs hf
    obtain ⟨o0, k0⟩ := hone_of hone 0 f0 rfl
    obtain ⟨o1, k1⟩ := hone_of hone 1 f1 rfl
    obtain ⟨o2, k2⟩ := hone_of hone 2 f2 rfl
    obtain ⟨o3, k3⟩ := hone_of hone 3 f3 rfl
    obtain ⟨o4, k4⟩ := hone_of hone 4 f4 rfl
    obtain ⟨o5, k5⟩ := hone_of hone 5 f5 rfl
    obtain ⟨o6, k6⟩ := hone_of hone 6 f6 rfl
    obtain ⟨o7, k7⟩ := hone_of hone 7 f7 rfl
    match xs, hlen with
    | [y0, y1, y2, y3, y4, y5, y6, y7], _ =>
      simp only [Prod.mk.injEq] at hx
      exact ⟨c0, c1, c2, c3, c4, c5, c6, c7, y0, y1, y2, y3, y4, y5, y6, y7, n, rfl, by simpa using hx.1, by simpa using hx.2, by simpa [Value.cells, o0, k0] using hg 0 f0 rfl, by simpa [Value.cells, o1, k1] using hg 1 f1 rfl, by simpa [Value.cells, o2, k2] using hg 2 f2 rfl, by simpa [Value.cells, o3, k3] using hg 3 f3 rfl, by simpa [Value.cells, o4, k4] using hg 4 f4 rfl, by simpa [Value.cells, o5, k5] using hg 5 f5 rfl, by simpa [Value.cells, o6, k6] using hg 6 f6 rfl, by simpa [Value.cells, o7, k7] using hg 7 f7 rfl⟩
theorem sized_agg {ts : List TypeId} {ds : List (DataW H)} (h : (DataW.weightsEach P ts ds).all (· ≤ reachBytes) = true) {j : Nat} {t : TypeId} {fs : Array Field} {parts : List (DataW H)} (ht : ts[j]? = some t) (hd : ds[j]? = some (.agg parts)) (hu : P.underlying t = some (.struct fs)) :
    (DataW.weightsEach P (fs.toList.map (·.type)) parts).all (· ≤ reachBytes) = true := by
  refine List.all_eq_true.2 fun n hn => List.all_eq_true.1 h n (DataW.weights_mem_each ht hd n ?_)
  simp only [DataW.weights, hu]
  exact hn
end

/-- A slice of ints that came in, within something else. -/
theorem open_nums {H : Type} {enc : TypeId × Value → H} {W : World} {fuel : Nat} {cs : List Value} {x : DataW H × List MemPlace} {ts : List TypeId} {ds : List (DataW H)}
    (hf : DataW.trod enc Try.prog W 0 (fun _ => true) true fuel 22 cs = some x)
    (hsz : (DataW.weightsEach Try.prog ts ds).all (· ≤ reachBytes) = true) {j : Nat} (ht : ts[j]? = some 22) (hd : ds[j]? = some x.1) :
    ∃ A c l, cs = [.slice A l.length c] ∧ InN .i64 W A c l ∧ l.length ≤ 17592186043904 := by
  rcases open_ints Try.underlying22 Try.underlying3 (by kernel_rfl) hf with ⟨hcs, hx⟩ | ⟨x0, len, cap, zs, hcs, _, hl, hm, hz, hx, hcell, hwz⟩
  · exact ⟨none, 0, [], hcs, InN.nil, by simp⟩
  · have hz' : zs.length = cap := by simpa using hz
    have hw : cap * 8 ≤ 140737488351232 := by
      subst hx
      have z := sized_slice hsz ht hd Try.underlying22
      rw [show Try.prog.bytesOf 3 = 8 from by kernel_rfl] at z
      have h1 : (lits (H := H) .i64 (zs.take len)).length + (lits (H := H) .i64 (zs.drop len)).length = zs.length := by
        simp [lits]
        omega
      rw [h1] at z
      have hr : reachBytes = 140737488351232 := rfl
      rw [hr] at z
      omega
    have hlen : (zs.take len).length = len := by rw [List.length_take, Nat.min_eq_left (by omega)]
    refine ⟨some x0, cap, zs.take len, by rw [hlen]; exact hcs, ⟨?_, ?_, ?_, ?_⟩, ?_⟩
    · have hnl : (nums .i64 (zs.take len)).length = len := by rw [nums_length, hlen]
      rw [hlen]
      rcases Nat.eq_zero_or_pos len with h0 | h0
      · subst h0
        exact ⟨by simpa using hnl, fun h => by omega⟩
      · have hb : x0.block < W.heap.size := World.block_lt_of_cell? W _ (hcell 0 (by omega))
        refine Reads.of_add (by omega) hb (fun j u hu => ?_) (by omega)
        have hj : j < len := by have := (List.getElem?_eq_some_iff.1 hu).1; omega
        rw [nums_get (by omega)] at hu
        injection hu with hu
        subst hu
        rw [hcell j (by omega)]
        simp [List.getD_eq_getElem?_getD, show j < zs.length by omega]
    · intro y hy
      exact hwz y (List.mem_of_mem_take hy)
    · omega
    · omega
    · omega

/-- What is known of a command that came in. -/
def OpenCmd (W : World) (v : Value) : Prop := ∃ k n t A c l b q s m, v = cmdV k n t (.slice A l.length c) b q s m ∧ InN .i64 W A c l ∧ l.length ≤ 17592186043904 ∧
  (Lit.int .i64 k).wf = true ∧ (Lit.int .i64 n).wf = true ∧ (Lit.int .i64 t).wf = true ∧ (Lit.int .u64 b).wf = true ∧ (Lit.int .u64 q).wf = true ∧ (Lit.int .u64 s).wf = true ∧ (Lit.int .u64 m).wf = true
theorem open_cmd {H : Type} {enc : TypeId × Value → H} {W : World} {base : Nat} {r : Reach} {v : Value} {d : DataW H} {p : List MemPlace} {ts : List TypeId} {ds : List (DataW H)}
    (hv : Value.okWide Try.prog W r base 25 v) (h : DataW.Trod enc Try.prog W 0 (fun _ => true) true 25 v d p)
    (hsz : (DataW.weightsEach Try.prog ts ds).all (· ≤ reachBytes) = true) {j : Nat} (ht : ts[j]? = some 25) (hd : ds[j]? = some d) :
    OpenCmd W v := by
  obtain ⟨v0, v1, v2, v3, v4, v5, v6, v7, y0, y1, y2, y3, y4, y5, y6, y7, N, rfl, rfl, rfl, h0, h1, h2, h3, h4, h5, h6, h7⟩ := open_agg8 Try.underlying25 (by kernel_rfl) (by kernel_rfl) hv h
  have hin := sized_agg hsz ht hd Try.underlying25
  obtain ⟨k, e0, _, w0⟩ := DataW.trod_int Try.underlying3 h0
  obtain ⟨n, e1, _, w1⟩ := DataW.trod_int Try.underlying3 h1
  obtain ⟨t, e2, _, w2⟩ := DataW.trod_int Try.underlying3 h2
  obtain ⟨A, c, l, e3, i3, s3⟩ := open_nums h3 hin (j := 3) rfl rfl
  obtain ⟨b, e4, _, w4⟩ := DataW.trod_int Try.underlying23 h4
  obtain ⟨q, e5, _, w5⟩ := DataW.trod_int Try.underlying23 h5
  obtain ⟨s, e6, _, w6⟩ := DataW.trod_int Try.underlying23 h6
  obtain ⟨m, e7, _, w7⟩ := DataW.trod_int Try.underlying23 h7
  simp only [List.cons.injEq, and_true] at e0 e1 e2 e3 e4 e5 e6 e7
  subst e0 e1 e2 e3 e4 e5 e6 e7
  exact ⟨k, n, t, A, c, l, b, q, s, m, rfl, i3, s3, w0, w1, w2, w4, w5, w6, w7⟩
end Go.Proofs.Ytnpodnieahokjaa
