/- Arguments opened: a list of calls on a keeper. -/
import Derived.Test.YtfkaggdjhopjpaaOpenLed
import Derived.Test.YtfkaggdjhopjpaaKp
namespace Go.Proofs.Ytfkaggdjhopjpaa
set_option maxRecDepth 100000
open Go.Joins Go.ChangeShapes Go.WideShapes Go.RowKit Go.Deep Go.ChangeAt

theorem weightsAll_mem {H : Type} {P : Program} {e : TypeId} : ∀ {l : List (DataW H)} {d : DataW H}, d ∈ l → ∀ n ∈ d.weights P e, n ∈ DataW.weightsAll P e l
  | d' :: r, d, hd, n, hn => by
    simp only [DataW.weightsAll, List.mem_append]
    rcases List.mem_cons.1 hd with rfl | h
    · exact Or.inl hn
    · exact Or.inr (weightsAll_mem h n hn)
/-- What bounds a whole slice bounds its elements. -/
theorem sized_elem {H : Type} {P : Program} {ts : List TypeId} {ds : List (DataW H)} (h : (DataW.weightsEach P ts ds).all (· ≤ reachBytes) = true) {j : Nat} {t e : TypeId} {elems spare : List (DataW H)} (ht : ts[j]? = some t) (hd : ds[j]? = some (.slice elems spare)) (hu : P.underlying t = some (.slice e)) {d : DataW H} (hx : d ∈ elems) :
    (DataW.weightsEach P [e] [d]).all (· ≤ reachBytes) = true := by
  refine List.all_eq_true.2 fun n hn => List.all_eq_true.1 h n (DataW.weights_mem_each ht hd n ?_)
  simp only [DataW.weightsEach, List.append_nil] at hn
  simp only [DataW.weights, hu, List.mem_cons, List.mem_append]
  exact Or.inr (Or.inl (weightsAll_mem hx _ hn))
section
variable {H : Type} {enc : TypeId × Value → H} {w : World}
/-- A slice of structs that came in, within something else; its elements have slices of their own. -/
theorem open_rowsW {α : Type} {f : α → List Value} {s bt : Nat} {Wf : α → Prop} {T E : TypeId} {fuel : Nat} {cs : List Value} {x : DataW H × List MemPlace} {ts : List TypeId} {ds : List (DataW H)} (hT : Try.prog.underlying T = some (.slice E)) (hC : Try.prog.cellsOf E = s) (hs : 0 < s) (hbt : Try.prog.bytesOf E = bt) (hb8 : 8 * s ≤ bt) (hfl : ∀ x, (f x).length = s)
    (hof : ∀ fuel cs (y : DataW H × List MemPlace), DataW.trod enc Try.prog w 0 (fun _ => true) true fuel E cs = some y → (DataW.weightsEach Try.prog [E] [y.1]).all (· ≤ reachBytes) = true → ∃ x, cs = f x ∧ Wf x)
    (h : DataW.trod enc Try.prog w 0 (fun _ => true) true fuel T cs = some x) (hsz : (DataW.weightsEach Try.prog ts ds).all (· ≤ reachBytes) = true) {j : Nat} (ht : ts[j]? = some T) (hd : ds[j]? = some x.1) :
    ∃ A c l, cs = [.slice A l.length c] ∧ InS f s w A c l ∧ l.length * bt ≤ 140737488351232 ∧ ∀ y ∈ l, Wf y := by
  rcases open_slice hT h with ⟨hcs, _⟩ | ⟨a, len, cap, m, n, D, Pl, hcs, _, hl, hm, hmm, hx, hi⟩
  · exact ⟨none, 0, [], hcs, InS.nil, by simp, fun y hy => by cases hy⟩
  · have hmc : m = cap := by simpa using hmm
    have hd2 := hd
    rw [hx] at hd2
    have hw : cap * bt ≤ 140737488351232 := by
      have z := sized_slice hsz ht hd2 hT
      rw [hbt] at z
      simp only [List.length_map, List.length_range] at z
      have hr : reachBytes = 140737488351232 := rfl
      rw [hr, show len + (m - len) = cap by omega] at z
      exact z
    have hex : ∀ i, i < len → ∃ y : α, Wf y ∧ ∀ k u, (f y)[k]? = some u → w.cell? ((a.add (i * s)).add k) = some u := by
      intro i hil
      obtain ⟨cs', hc, ht'⟩ := hi i (by omega)
      obtain ⟨y, rfl, hwf⟩ := hof _ _ _ ht' (sized_elem hsz ht hd2 hT (List.mem_map.2 ⟨i, List.mem_range.2 hil, rfl⟩))
      obtain ⟨_, hcl, hat⟩ := World.cells?_some hc
      refine ⟨y, hwf, fun k u hu => ?_⟩
      rw [hC] at hat
      have hk : k < s := by
        have := (List.getElem?_eq_some_iff.1 hu).1
        rw [hfl] at this
        exact this
      rw [hat k hk]
      exact hu
    obtain ⟨l, hll, hp⟩ := listed len hex
    have hcap : l.length * bt ≤ cap * bt := Nat.mul_le_mul_right _ (by omega)
    have hcap8 : l.length * (8 * s) ≤ l.length * bt := Nat.mul_le_mul_left _ hb8
    refine ⟨some a, cap, l, by rw [hll]; exact hcs, ⟨?_, by omega, by omega⟩, by omega, fun y hy => ?_⟩
    · rcases Nat.eq_zero_or_pos l.length with h0 | h0
      · have : l = [] := List.eq_nil_of_length_eq_zero h0
        subst this
        exact ⟨by simp, fun h => by simp at h⟩
      · have hcell : ∀ j u, (l.flatMap f)[j]? = some u → w.cell? (a.add j) = some u := by
          intro j u hu
          have hj : j < l.length * s := by
            have := (List.getElem?_eq_some_iff.1 hu).1
            rw [flat_len hfl] at this
            exact this
          have hq : j / s < l.length := Nat.div_lt_of_lt_mul (by rw [Nat.mul_comm]; exact hj)
          have hr : j % s < s := Nat.mod_lt _ hs
          have hdm : j = j / s * s + j % s := by rw [Nat.mul_comm]; exact (Nat.div_add_mod j s).symm
          rw [hdm, flat_get hfl l _ hq _ hr] at hu
          have := (hp _ hq).2 _ _ hu
          rw [Go.Deep.add_add] at this
          rw [hdm]
          exact this
        have hb : a.block < w.heap.size := by
          have h1 : ∃ u, (l.flatMap f)[0]? = some u := by
            have : 0 < (l.flatMap f).length := by rw [flat_len hfl]; exact Nat.mul_pos h0 hs
            exact ⟨_, List.getElem?_eq_getElem this⟩
          obtain ⟨u, hu⟩ := h1
          have := World.block_lt_of_cell? w _ (hcell 0 u hu)
          simpa [Addr.add] using this
        exact Reads.of_add (flat_len hfl l) hb hcell hs
    · obtain ⟨i, hi, rfl⟩ := List.getElem_of_mem hy
      exact (hp i hi).1
/-- A ledger, with its slices' places. -/
structure Ld where
  lim : Int
  nxt : Int
  Ah : Option Addr
  ch : Nat
  hs : List Hd
  Al : Option Addr
  cl : Nat
  ls : List Ls
structure InLd (W : World) (x : Ld) : Prop where
  hh : InS hdC 5 W x.Ah x.ch x.hs
  hl : InS lsC 6 W x.Al x.cl x.ls
  wh : ∀ h ∈ x.hs, h.Wf
  wl : ∀ l ∈ x.ls, l.Wf
/-- A call on a keeper. -/
structure Se where
  d : Int
  now : Int
  l : Ld
def seC (x : Se) : List Value := [.int .i64 x.d, .int .i64 x.now, .int .i64 x.l.lim, .int .u64 x.l.nxt, .slice x.l.Ah x.l.hs.length x.l.ch, .slice x.l.Al x.l.ls.length x.l.cl]
def seA (x : Se) : Array Value := #[.int .i64 x.d, .int .i64 x.now, .int .i64 x.l.lim, .int .u64 x.l.nxt, .slice x.l.Ah x.l.hs.length x.l.ch, .slice x.l.Al x.l.ls.length x.l.cl]
theorem seC_len (x : Se) : (seC x).length = 6 := rfl
theorem c_See : Try.prog.cellsOf 50 = 6 := by kernel_rfl
theorem see_of {fuel : Nat} {cs : List Value} {y : DataW H × List MemPlace} (h : DataW.trod enc Try.prog w 0 (fun _ => true) true fuel 50 cs = some y) {ts : List TypeId} {ds : List (DataW H)} (hsz : (DataW.weightsEach Try.prog ts ds).all (· ≤ reachBytes) = true) {j : Nat} (ht : ts[j]? = some 50) (hd : ds[j]? = some y.1) :
    ∃ x : Se, cs = seC x ∧ InLd w x.l := by
  obtain ⟨xs, n, hx, hcl, hlen, hg⟩ := parts Try.underlying50 h
  rw [c_See] at hcl
  match cs, hcl with
  | [c0, c1, c2, c3, c4, c5], _ =>
    match xs, hlen with
    | [y0, y1, y2], _ =>
      have g0 := hg 0 _ rfl 0 1 rfl (by kernel_rfl)
      have g1 := hg 1 _ rfl 1 1 rfl (by kernel_rfl)
      have g2 := hg 2 _ rfl 2 4 rfl (by kernel_rfl)
      simp only [List.drop_zero, List.drop_succ_cons, List.take_succ_cons, List.take_zero, List.getElem?_cons_zero, List.getElem?_cons_succ] at g0 g1 g2
      have hin := sized_agg hsz ht (by rw [hd, hx]) Try.underlying50
      obtain ⟨k, e0, _, w0⟩ := DataW.trod_int Try.underlying3 g0
      obtain ⟨v, e1, _, w1⟩ := DataW.trod_int Try.underlying2 g1
      obtain ⟨zs, m, hz, _, hlen2, hk⟩ := parts Try.underlying26 g2
      match zs, hlen2 with
      | [z0, z1, z2, z3], _ =>
        have k0 := hk 0 _ rfl 0 1 rfl (by kernel_rfl)
        have k1 := hk 1 _ rfl 1 1 rfl (by kernel_rfl)
        have k2 := hk 2 _ rfl 2 1 rfl (by kernel_rfl)
        have k3 := hk 3 _ rfl 3 1 rfl (by kernel_rfl)
        simp only [List.drop_zero, List.drop_succ_cons, List.take_succ_cons, List.take_zero, List.getElem?_cons_zero, List.getElem?_cons_succ] at k0 k1 k2 k3
        have hzd : y2.1 = .agg ([z0, z1, z2, z3].map (·.1)) := by rw [hz]
        have hin2 := sized_agg hin (j := 2) (t := 26) rfl (by show some y2.1 = _; rw [hzd]) Try.underlying26
        obtain ⟨lim, e3, _, w3⟩ := DataW.trod_int Try.underlying3 k0
        obtain ⟨nxt, e4, _, w4⟩ := DataW.trod_int Try.underlying22 k1
        obtain ⟨Ah, ch, hs, e5, i5, s5⟩ := open_rows (s := 5) Try.underlying23 c_Held (by omega) (by kernel_rfl) hdC_len (fun _ _ _ h => hd_of h) k2 hin2 (j := 2) rfl rfl
        obtain ⟨Al, cl, ls, e6, i6, s6⟩ := open_rows (s := 6) Try.underlying24 c_Last (by omega) (by kernel_rfl) lsC_len (fun _ _ _ h => ls_of h) k3 hin2 (j := 3) rfl rfl
        simp only [List.cons.injEq, and_true] at e0 e1 e3 e4 e5 e6
        subst e0 e1 e3 e4 e5 e6
        exact ⟨⟨k, v, ⟨lim, nxt, Ah, ch, hs, Al, cl, ls⟩⟩, rfl, ⟨i5, i6, s5, s6⟩⟩
end
/-- What is known of a list of calls that came in. -/
def OpenSees (W : World) (v : Value) : Prop := ∃ A c xs, v = .slice A xs.length c ∧ InS seC 6 W A c xs ∧ ∀ x ∈ xs, InLd W x.l
theorem open_sees {H : Type} {enc : TypeId × Value → H} {W : World} {base : Nat} {r : Reach} {v : Value} {d : DataW H} {p : List MemPlace} {ts : List TypeId} {ds : List (DataW H)}
    (hv : Value.okWide Try.prog W r base 45 v) (h : DataW.Trod enc Try.prog W 0 (fun _ => true) true 45 v d p)
    (hsz : (DataW.weightsEach Try.prog ts ds).all (· ≤ reachBytes) = true) {j : Nat} (ht : ts[j]? = some 45) (hd : ds[j]? = some d) :
    OpenSees W v := by
  obtain ⟨a0, len, cap, rfl⟩ := okWide_slice Try.underlying45 hv
  obtain ⟨fuel, hf⟩ := h
  obtain ⟨A, c, l, e, h1, _, h3⟩ := open_rowsW (f := seC) (s := 6) (bt := 80) (Wf := fun y : Se => InLd W y.l) Try.underlying45 c_See (by omega) (by kernel_rfl) (by omega) seC_len (fun _ _ y k z => see_of k z (j := 0) rfl rfl) hf hsz ht hd
  simp [Value.cells] at e
  obtain ⟨rfl, rfl, rfl⟩ := e
  exact ⟨_, _, l, rfl, h1, h3⟩
end Go.Proofs.Ytfkaggdjhopjpaa
