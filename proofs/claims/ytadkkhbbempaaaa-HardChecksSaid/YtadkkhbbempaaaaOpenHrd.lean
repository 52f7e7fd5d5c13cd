/- Arguments opened: entries, what lasts. -/
import Derived.Test.YtadkkhbbempaaaaEnt
import Derived.Test.YtadkkhbbempaaaaOpenShot
namespace Go.Proofs.Ytadkkhbbempaaaa
set_option maxRecDepth 100000
open Go.Joins Go.ChangeShapes Go.WideShapes Go.RowKit Go.Deep Go.ChangeAt

theorem weightsAll_mem {H : Type} {P : Program} {e : TypeId} : ∀ {l : List (DataW H)} {d : DataW H}, d ∈ l → ∀ n ∈ d.weights P e, n ∈ DataW.weightsAll P e l
  | d' :: r, d, hd, n, hn => by
    simp only [DataW.weightsAll, List.mem_append]
    rcases List.mem_cons.1 hd with rfl | h
    · exact Or.inl hn
    · exact Or.inr (weightsAll_mem h n hn)
/-- What bounds a whole slice bounds its elements. -/
theorem sized_elem {H : Type} {P : Program} {ts : List TypeId} {ds : List (DataW H)} (h : (DataW.weightsEach P ts ds).all (· ≤ reachBytes) = true) {j : Nat} {t e : TypeId} {elems spare : List (DataW H)} (ht : ts[j]? = some t) (hd : ds[j]? = some (.slice elems spare)) (hu : P.underlying t = some (.slice e)) {d : DataW H} (hx : d ∈ elems) :
    (DataW.weightsEach P [e] [d]).all (· ≤ reachBytes) = true := by
  refine List.all_eq_true.2 fun n hn => List.all_eq_true.1 h n (DataW.weights_mem_each ht hd n ?_)
  simp only [DataW.weightsEach, List.append_nil] at hn
  simp only [DataW.weights, hu, List.mem_cons, List.mem_append]
  exact Or.inr (Or.inl (weightsAll_mem hx _ hn))
theorem c_Entry : Try.prog.cellsOf 46 = 9 := by kernel_rfl
theorem c_Cmd : Try.prog.cellsOf 44 = 8 := by kernel_rfl
theorem c_Hard : Try.prog.cellsOf 32 = 11 := by kernel_rfl
section
variable {H : Type} {enc : TypeId × Value → H} {w : World}
/-- A slice of structs that came in, within something else; its elements have slices of their own. -/
theorem open_rowsW {α : Type} {f : α → List Value} {s bt : Nat} {Wf : α → Prop} {T E : TypeId} {fuel : Nat} {cs : List Value} {x : DataW H × List MemPlace} {ts : List TypeId} {ds : List (DataW H)} (hT : Try.prog.underlying T = some (.slice E)) (hC : Try.prog.cellsOf E = s) (hs : 0 < s) (hbt : Try.prog.bytesOf E = bt) (hb8 : 8 * s ≤ bt) (hfl : ∀ x, (f x).length = s)
    (hof : ∀ fuel cs (y : DataW H × List MemPlace), DataW.trod enc Try.prog w 0 (fun _ => true) true fuel E cs = some y → (DataW.weightsEach Try.prog [E] [y.1]).all (· ≤ reachBytes) = true → ∃ x, cs = f x ∧ Wf x)
    (h : DataW.trod enc Try.prog w 0 (fun _ => true) true fuel T cs = some x) (hsz : (DataW.weightsEach Try.prog ts ds).all (· ≤ reachBytes) = true) {j : Nat} (ht : ts[j]? = some T) (hd : ds[j]? = some x.1) :
    ∃ A c l, cs = [.slice A l.length c] ∧ InS f s w A c l ∧ l.length * bt ≤ 140737488351232 ∧ ∀ y ∈ l, Wf y := by
  rcases open_slice hT h with ⟨hcs, _⟩ | ⟨a, len, cap, m, n, D, Pl, hcs, _, hl, hm, hmm, hx, hi⟩
  · exact ⟨none, 0, [], hcs, InS.nil, by simp, fun y hy => by cases hy⟩
  · have hmc : m = cap := by simpa using hmm
    have hd2 := hd
    rw [hx] at hd2
    have hw : cap * bt ≤ 140737488351232 := by
      have z := sized_slice hsz ht hd2 hT
      rw [hbt] at z
      simp only [List.length_map, List.length_range] at z
      have hr : reachBytes = 140737488351232 := rfl
      rw [hr, show len + (m - len) = cap by omega] at z
      exact z
    have hex : ∀ i, i < len → ∃ y : α, Wf y ∧ ∀ k u, (f y)[k]? = some u → w.cell? ((a.add (i * s)).add k) = some u := by
      intro i hil
      obtain ⟨cs', hc, ht'⟩ := hi i (by omega)
      obtain ⟨y, rfl, hwf⟩ := hof _ _ _ ht' (sized_elem hsz ht hd2 hT (List.mem_map.2 ⟨i, List.mem_range.2 hil, rfl⟩))
      obtain ⟨_, hcl, hat⟩ := World.cells?_some hc
      refine ⟨y, hwf, fun k u hu => ?_⟩
      rw [hC] at hat
      have hk : k < s := by
        have := (List.getElem?_eq_some_iff.1 hu).1
        rw [hfl] at this
        exact this
      rw [hat k hk]
      exact hu
    obtain ⟨l, hll, hp⟩ := listed len hex
    have hcap : l.length * bt ≤ cap * bt := Nat.mul_le_mul_right _ (by omega)
    have hcap8 : l.length * (8 * s) ≤ l.length * bt := Nat.mul_le_mul_left _ hb8
    refine ⟨some a, cap, l, by rw [hll]; exact hcs, ⟨?_, by omega, by omega⟩, by omega, fun y hy => ?_⟩
    · rcases Nat.eq_zero_or_pos l.length with h0 | h0
      · have : l = [] := List.eq_nil_of_length_eq_zero h0
        subst this
        exact ⟨by simp, fun h => by simp at h⟩
      · have hcell : ∀ j u, (l.flatMap f)[j]? = some u → w.cell? (a.add j) = some u := by
          intro j u hu
          have hj : j < l.length * s := by
            have := (List.getElem?_eq_some_iff.1 hu).1
            rw [flat_len hfl] at this
            exact this
          have hq : j / s < l.length := Nat.div_lt_of_lt_mul (by rw [Nat.mul_comm]; exact hj)
          have hr : j % s < s := Nat.mod_lt _ hs
          have hdm : j = j / s * s + j % s := by rw [Nat.mul_comm]; exact (Nat.div_add_mod j s).symm
          rw [hdm, flat_get hfl l _ hq _ hr] at hu
          have := (hp _ hq).2 _ _ hu
          rw [Go.Deep.add_add] at this
          rw [hdm]
          exact this
        have hb : a.block < w.heap.size := by
          have h1 : ∃ u, (l.flatMap f)[0]? = some u := by
            have : 0 < (l.flatMap f).length := by rw [flat_len hfl]; exact Nat.mul_pos h0 hs
            exact ⟨_, List.getElem?_eq_getElem this⟩
          obtain ⟨u, hu⟩ := h1
          have := World.block_lt_of_cell? w _ (hcell 0 u hu)
          simpa [Addr.add] using this
        exact Reads.of_add (flat_len hfl l) hb hcell hs
    · obtain ⟨i, hi, rfl⟩ := List.getElem_of_mem hy
      exact (hp i hi).1
theorem ec_of {fuel : Nat} {cs : List Value} {y : DataW H × List MemPlace} (h : DataW.trod enc Try.prog w 0 (fun _ => true) true fuel 46 cs = some y) (hsz : (DataW.weightsEach Try.prog [46] [y.1]).all (· ≤ reachBytes) = true) :
    ∃ x : Ec, cs = ecC x ∧ x.e.Wf ∧ InN .i64 w x.A x.c x.e.l := by
  obtain ⟨xs, n, hx, hl, hlen, hg⟩ := parts Try.underlying46 h
  rw [c_Entry] at hl
  match cs, hl with
  | [v0, v1, v2, v3, v4, v5, v6, v7, v8], _ =>
    match xs, hlen with
    | [y0, y1], _ =>
      have g0 := hg 0 _ rfl 0 1 rfl (by kernel_rfl)
      have g1 := hg 1 _ rfl 1 8 rfl (by kernel_rfl)
      simp only [List.drop_zero, List.drop_succ_cons, List.take_succ_cons, List.take_zero, List.getElem?_cons_zero, List.getElem?_cons_succ] at g0 g1
      have hin1 := sized_agg hsz (j := 0) (t := 46) rfl (by show some y.1 = _; rw [hx]) Try.underlying46
      obtain ⟨zs, m, hz, _, hlen2, hk⟩ := parts Try.underlying44 g1
      match zs, hlen2 with
      | [z0, z1, z2, z3, z4, z5, z6, z7], _ =>
        have k0 := hk 0 _ rfl 0 1 rfl (by kernel_rfl)
        have k1 := hk 1 _ rfl 1 1 rfl (by kernel_rfl)
        have k2 := hk 2 _ rfl 2 1 rfl (by kernel_rfl)
        have k3 := hk 3 _ rfl 3 1 rfl (by kernel_rfl)
        have k4 := hk 4 _ rfl 4 1 rfl (by kernel_rfl)
        have k5 := hk 5 _ rfl 5 1 rfl (by kernel_rfl)
        have k6 := hk 6 _ rfl 6 1 rfl (by kernel_rfl)
        have k7 := hk 7 _ rfl 7 1 rfl (by kernel_rfl)
        simp only [List.drop_zero, List.drop_succ_cons, List.take_succ_cons, List.take_zero, List.getElem?_cons_zero, List.getElem?_cons_succ] at k0 k1 k2 k3 k4 k5 k6 k7
        have hzd : y1.1 = .agg ([z0, z1, z2, z3, z4, z5, z6, z7].map (·.1)) := by rw [hz]
        have hin2 := sized_agg hin1 (j := 1) (t := 44) rfl (by show some y1.1 = _; rw [hzd]) Try.underlying44
        obtain ⟨tm, e0, _, w0⟩ := DataW.trod_int Try.underlying22 g0
        obtain ⟨a, e1, _, w1⟩ := DataW.trod_int Try.underlying3 k0
        obtain ⟨b, e2, _, w2⟩ := DataW.trod_int Try.underlying3 k1
        obtain ⟨c, e3, _, w3⟩ := DataW.trod_int Try.underlying3 k2
        obtain ⟨A, cc, l, e4, i4, s4⟩ := open_nums k3 hin2 (j := 3) rfl rfl
        obtain ⟨d, e5, _, w5⟩ := DataW.trod_int Try.underlying22 k4
        obtain ⟨q, e6, _, w6⟩ := DataW.trod_int Try.underlying22 k5
        obtain ⟨s, e7, _, w7⟩ := DataW.trod_int Try.underlying22 k6
        obtain ⟨mm, e8, _, w8⟩ := DataW.trod_int Try.underlying22 k7
        simp only [List.cons.injEq, and_true] at e0 e1 e2 e3 e4 e5 e6 e7 e8
        subst e0 e1 e2 e3 e4 e5 e6 e7 e8
        exact ⟨⟨A, cc, ⟨tm, a, b, c, l, d, q, s, mm⟩⟩, rfl, ⟨wf_u w0, w1, w2, w3, s4, wf_u w5, wf_u w6, wf_u w7, wf_u w8⟩, i4⟩
theorem open_entries {fuel : Nat} {cs : List Value} {x : DataW H × List MemPlace} {ts : List TypeId} {ds : List (DataW H)} (h : DataW.trod enc Try.prog w 0 (fun _ => true) true fuel 30 cs = some x) (hsz : (DataW.weightsEach Try.prog ts ds).all (· ≤ reachBytes) = true) {j : Nat} (ht : ts[j]? = some 30) (hd : ds[j]? = some x.1) :
    ∃ A c l, cs = [.slice A l.length c] ∧ InE w A c l ∧ l.length * 88 ≤ 140737488351232 ∧ ∀ y ∈ l, y.e.Wf := by
  obtain ⟨A, c, l, e, h1, h2, h3⟩ := open_rowsW (s := 9) (bt := 88) (Wf := fun y : Ec => y.e.Wf ∧ InN .i64 w y.A y.c y.e.l) Try.underlying30 c_Entry (by omega) (by kernel_rfl) (by omega) ecC_len (fun _ _ _ k z => ec_of k z) h hsz ht hd
  exact ⟨A, c, l, e, ⟨h1, fun y hy => (h3 y hy).2, by omega⟩, h2, fun y hy => (h3 y hy).1⟩
theorem sh_of {fuel : Nat} {cs : List Value} {y : DataW H × List MemPlace} {ts : List TypeId} {ds : List (DataW H)} (hf : DataW.trod enc Try.prog w 0 (fun _ => true) true fuel 29 cs = some y) (hsz : (DataW.weightsEach Try.prog ts ds).all (· ≤ reachBytes) = true) {j : Nat} (ht : ts[j]? = some 29) (hd : ds[j]? = some y.1) :
    ∃ (s : Sh) (a : Sa), cs = [.int .u64 s.i, .int .u64 s.t, .slice a.A0 s.ns.length a.c0, .int .i64 s.lim, .int .u64 s.nxt, .slice a.A1 s.hs.length a.c1, .slice a.A2 s.ls.length a.c2] ∧ InSh w s a ∧ s.Wf := by
  obtain ⟨xs, n, hx, hcl, hlen, hg⟩ := parts Try.underlying29 hf
  rw [c_Shot] at hcl
  match cs, hcl with
  | [c0, c1, c2, c3, c4, c5, c6], _ =>
    match xs, hlen with
    | [y0, y1, y2, y3], _ =>
      have g0 := hg 0 _ rfl 0 1 rfl (by kernel_rfl)
      have g1 := hg 1 _ rfl 1 1 rfl (by kernel_rfl)
      have g2 := hg 2 _ rfl 2 1 rfl (by kernel_rfl)
      have g3 := hg 3 _ rfl 3 4 rfl (by kernel_rfl)
      simp only [List.drop_zero, List.drop_succ_cons, List.take_succ_cons, List.take_zero, List.getElem?_cons_zero, List.getElem?_cons_succ] at g0 g1 g2 g3
      have hin := sized_agg hsz ht (by rw [hd, hx]) Try.underlying29
      obtain ⟨i, e0, _, w0⟩ := DataW.trod_int Try.underlying22 g0
      obtain ⟨t, e1, _, w1⟩ := DataW.trod_int Try.underlying22 g1
      obtain ⟨An, cn, ns, e2, i2, s2⟩ := open_nums g2 hin (j := 2) rfl rfl
      obtain ⟨zs, m, hz, _, hlen2, hk⟩ := parts Try.underlying27 g3
      match zs, hlen2 with
      | [z0, z1, z2, z3], _ =>
        have k0 := hk 0 _ rfl 0 1 rfl (by kernel_rfl)
        have k1 := hk 1 _ rfl 1 1 rfl (by kernel_rfl)
        have k2 := hk 2 _ rfl 2 1 rfl (by kernel_rfl)
        have k3 := hk 3 _ rfl 3 1 rfl (by kernel_rfl)
        simp only [List.drop_zero, List.drop_succ_cons, List.take_succ_cons, List.take_zero, List.getElem?_cons_zero, List.getElem?_cons_succ] at k0 k1 k2 k3
        have hzd : y3.1 = .agg ([z0, z1, z2, z3].map (·.1)) := by rw [hz]
        have hin2 := sized_agg hin (j := 3) (t := 27) rfl (by show some y3.1 = _; rw [hzd]) Try.underlying27
        obtain ⟨lim, e3, _, w3⟩ := DataW.trod_int Try.underlying3 k0
        obtain ⟨nxt, e4, _, w4⟩ := DataW.trod_int Try.underlying22 k1
        obtain ⟨Ah, ch, hs, e5, i5, s5⟩ := open_rows (s := 5) Try.underlying24 c_Held (by omega) (by kernel_rfl) hdC_len (fun _ _ _ h => hd_of h) k2 hin2 (j := 2) rfl rfl
        obtain ⟨Al, cl, ls, e6, i6, s6⟩ := open_rows (s := 6) Try.underlying25 c_Last (by omega) (by kernel_rfl) lsC_len (fun _ _ _ h => ls_of h) k3 hin2 (j := 3) rfl rfl
        simp only [List.cons.injEq, and_true] at e0 e1 e2 e3 e4 e5 e6
        subst e0 e1 e2 e3 e4 e5 e6
        exact ⟨⟨i, t, ns, lim, nxt, hs, ls⟩, ⟨An, cn, Ah, ch, Al, cl⟩, rfl, ⟨i2, i5, i6⟩, ⟨wf_u w0, wf_u w1, s2, w3, wf_u w4, s5, s6⟩⟩
end
/-- What is known of what lasts that came in. -/
def OpenHrd (W : World) (v : Value) : Prop := ∃ h p PA PC xs, v = hrdV h p PA PC xs ∧ InH W h p PA PC xs ∧ (h.hrd xs).Wf ∧ xs.length * 88 ≤ 140737488351232
theorem open_hard {H : Type} {enc : TypeId × Value → H} {W : World} {base : Nat} {r : Reach} {v : Value} {d : DataW H} {p : List MemPlace} {ts : List TypeId} {ds : List (DataW H)}
    (hv : Value.okWide Try.prog W r base 32 v) (h : DataW.Trod enc Try.prog W 0 (fun _ => true) true 32 v d p)
    (hsz : (DataW.weightsEach Try.prog ts ds).all (· ≤ reachBytes) = true) {j : Nat} (ht : ts[j]? = some 32) (hd : ds[j]? = some d) :
    OpenHrd W v := by
  obtain ⟨cs, rfl, hcs⟩ := okWide_struct Try.underlying32 hv
  obtain ⟨l⟩ := cs
  match l, hcs.trans c_Hard with
  | [c0, c1, c2, c3, c4, c5, c6, c7, c8, c9, c10], _ =>
    obtain ⟨fuel, hf⟩ := h
    obtain ⟨xs, n, hx, _, hlen, hg⟩ := parts Try.underlying32 hf
    match xs, hlen with
    | [y0, y1, y2, y3, y4], _ =>
      have g0 := hg 0 _ rfl 0 1 rfl (by kernel_rfl)
      have g1 := hg 1 _ rfl 1 1 rfl (by kernel_rfl)
      have g2 := hg 2 _ rfl 2 1 rfl (by kernel_rfl)
      have g3 := hg 3 _ rfl 3 7 rfl (by kernel_rfl)
      have g4 := hg 4 _ rfl 10 1 rfl (by kernel_rfl)
      simp only [Value.cells, List.drop_zero, List.drop_succ_cons, List.take_succ_cons, List.take_zero, List.getElem?_cons_zero, List.getElem?_cons_succ] at g0 g1 g2 g3 g4
      simp only [Prod.mk.injEq] at hx
      obtain ⟨rfl, _⟩ := hx
      have hin := sized_agg hsz ht hd Try.underlying32
      obtain ⟨b, e0, _, w0⟩ := DataW.trod_int Try.underlying22 g0
      obtain ⟨t, e1, _, w1⟩ := DataW.trod_int Try.underlying22 g1
      obtain ⟨v, e2, _, w2⟩ := DataW.trod_int Try.underlying3 g2
      obtain ⟨s, a, e3, i3, w3⟩ := sh_of g3 hin (j := 3) rfl rfl
      obtain ⟨A, c, xs, e4, i4, s4, w4⟩ := open_entries g4 hin (j := 4) rfl rfl
      simp only [List.cons.injEq, and_true] at e0 e1 e2 e3 e4
      obtain ⟨e3, e3b, e3c, e3d, e3e, e3f, e3g⟩ := e3
      subst e0 e1 e2 e3 e3b e3c e3d e3e e3f e3g e4
      exact ⟨⟨b, t, v, s⟩, a, A, c, xs, rfl, ⟨i3, i4⟩, ⟨wf_u w0, wf_u w1, w2, w3, fun e he => by obtain ⟨x, hx, rfl⟩ := List.mem_map.1 he; exact w4 x hx⟩, s4⟩
end Go.Proofs.Ytadkkhbbempaaaa
