/- Arguments opened: a snapshot that came in. -/
import Derived.Test.YtfkaggdjhopjpaaShCp
import Derived.Test.YtfkaggdjhopjpaaOpenI
import Derived.Lib.SmallJoins
namespace Go.Proofs.Ytfkaggdjhopjpaa
set_option maxRecDepth 100000
open Go.Joins Go.ChangeShapes Go.WideShapes Go.RowKit Go.Deep Go.ChangeAt

theorem listed {α : Type} {P : Nat → α → Prop} : ∀ (n : Nat), (∀ i, i < n → ∃ x, P i x) → ∃ l : List α, l.length = n ∧ ∀ i (hi : i < l.length), P i l[i] := by
  intro n
  induction n with
  | zero => intro _; exact ⟨[], rfl, fun i hi => absurd hi (by simp)⟩
  | succ n ih =>
    intro h
    obtain ⟨l, hl, hp⟩ := ih (fun i hi => h i (by omega))
    obtain ⟨x, hx⟩ := h n (by omega)
    refine ⟨l ++ [x], by simp [hl], fun i hi => ?_⟩
    rw [List.length_append, List.length_singleton] at hi
    rcases Nat.lt_or_ge i l.length with h1 | h1
    · rw [List.getElem_append_left h1]
      exact hp i h1
    · obtain rfl : i = l.length := by omega
      rw [List.getElem_append_right (Nat.le_refl _)]
      simp only [Nat.sub_self, List.getElem_singleton]
      rw [hl]
      exact hx
theorem c_int : Try.prog.cellsOf 3 = 1 := by kernel_rfl
theorem c_u64 : Try.prog.cellsOf 22 = 1 := by kernel_rfl
theorem c_Held : Try.prog.cellsOf 55 = 5 := by kernel_rfl
theorem c_Last : Try.prog.cellsOf 100 = 6 := by kernel_rfl
theorem c_Answer : Try.prog.cellsOf 41 = 3 := by kernel_rfl
theorem c_Ledger : Try.prog.cellsOf 26 = 4 := by kernel_rfl
theorem c_ints : Try.prog.cellsOf 37 = 1 := by kernel_rfl
theorem c_Helds : Try.prog.cellsOf 23 = 1 := by kernel_rfl
theorem c_Lasts : Try.prog.cellsOf 24 = 1 := by kernel_rfl
theorem wf_u {a : Int} (h : (Lit.int .u64 a).wf = true) : 0 ≤ a ∧ a < 18446744073709551616 := by
  simp [Lit.wf, IntKind.min, IntKind.max, IntKind.bits, IntKind.signed] at h
  omega

section
variable {H : Type} {enc : TypeId × Value → H} {w : World} {base : Nat} {spare : Nat → Bool} {held : Bool}
theorem parts {P : Program} {t : TypeId} {fs : Array Field} {fuel : Nat} {cs : List Value} {x : DataW H × List MemPlace} (ht : P.underlying t = some (.struct fs)) (h : DataW.trod enc P w base spare held fuel t cs = some x) :
    ∃ (xs : List (DataW H × List MemPlace)) (n : Nat), x = (.agg (xs.map (·.1)), xs.flatMap (·.2)) ∧ cs.length = P.cellsOf t ∧ xs.length = fs.size ∧
      ∀ (i : Nat) (f : Field) (_ : fs[i]? = some f) (o k : Nat) (_ : f.offset = o) (_ : P.cellsOf f.type = k), DataW.trod enc P w base spare held n f.type ((cs.drop o).take k) = xs[i]? := by
  obtain ⟨xs, n, _, h1, h2, h3, hg⟩ := DataW.trod_struct ht h
  refine ⟨xs, n, h1, h2, h3, fun i f hf o k ho hk => ?_⟩
  rw [← ho, ← hk]
  exact hg i f hf
theorem hd_of {fuel : Nat} {cs : List Value} {y : DataW H × List MemPlace} (h : DataW.trod enc Try.prog w base spare held fuel 55 cs = some y) : ∃ x : Hd, cs = hdC x ∧ x.Wf := by
  obtain ⟨xs, n, _, hl, hlen, hg⟩ := parts Try.underlying55 h
  rw [c_Held] at hl
  match cs, hl with
  | [c0, c1, c2, c3, c4], _ =>
    match xs, hlen with
    | [y0, y1, y2, y3, y4], _ =>
      have g0 := hg 0 _ rfl 0 1 rfl (by kernel_rfl)
      have g1 := hg 1 _ rfl 1 1 rfl (by kernel_rfl)
      have g2 := hg 2 _ rfl 2 1 rfl (by kernel_rfl)
      have g3 := hg 3 _ rfl 3 1 rfl (by kernel_rfl)
      have g4 := hg 4 _ rfl 4 1 rfl (by kernel_rfl)
      simp only [List.drop_zero, List.drop_succ_cons, List.take_succ_cons, List.take_zero, List.getElem?_cons_zero, List.getElem?_cons_succ] at g0 g1 g2 g3 g4
      obtain ⟨a, e0, _, w0⟩ := DataW.trod_int Try.underlying3 g0
      obtain ⟨b, e1, _, w1⟩ := DataW.trod_int Try.underlying3 g1
      obtain ⟨c, e2, _, w2⟩ := DataW.trod_int Try.underlying22 g2
      obtain ⟨d, e3, _, w3⟩ := DataW.trod_int Try.underlying22 g3
      obtain ⟨e, e4, _, w4⟩ := DataW.trod_int Try.underlying22 g4
      simp only [List.cons.injEq, and_true] at e0 e1 e2 e3 e4
      subst e0 e1 e2 e3 e4
      exact ⟨⟨a, b, c, d, e⟩, rfl, ⟨w0, w1, wf_u w2, wf_u w3, wf_u w4⟩⟩
theorem ls_of {fuel : Nat} {cs : List Value} {y : DataW H × List MemPlace} (h : DataW.trod enc Try.prog w base spare held fuel 100 cs = some y) : ∃ x : Ls, cs = lsC x ∧ x.Wf := by
  obtain ⟨xs, n, _, hl, hlen, hg⟩ := parts Try.underlying100 h
  rw [c_Last] at hl
  match cs, hl with
  | [c0, c1, c2, c3, c4, c5], _ =>
    match xs, hlen with
    | [y0, y1, y2, y3], _ =>
      have g0 := hg 0 _ rfl 0 1 rfl (by kernel_rfl)
      have g1 := hg 1 _ rfl 1 1 rfl (by kernel_rfl)
      have g2 := hg 2 _ rfl 2 1 rfl (by kernel_rfl)
      have g3 := hg 3 _ rfl 3 3 rfl (by kernel_rfl)
      simp only [List.drop_zero, List.drop_succ_cons, List.take_succ_cons, List.take_zero, List.getElem?_cons_zero, List.getElem?_cons_succ] at g0 g1 g2 g3
      obtain ⟨a, e0, _, w0⟩ := DataW.trod_int Try.underlying3 g0
      obtain ⟨b, e1, _, w1⟩ := DataW.trod_int Try.underlying22 g1
      obtain ⟨c, e2, _, w2⟩ := DataW.trod_int Try.underlying22 g2
      obtain ⟨zs, m, _, _, hlen2, hk⟩ := parts Try.underlying41 g3
      match zs, hlen2 with
      | [z0, z1, z2], _ =>
        have k0 := hk 0 _ rfl 0 1 rfl (by kernel_rfl)
        have k1 := hk 1 _ rfl 1 1 rfl (by kernel_rfl)
        have k2 := hk 2 _ rfl 2 1 rfl (by kernel_rfl)
        simp only [List.drop_zero, List.drop_succ_cons, List.take_succ_cons, List.take_zero, List.getElem?_cons_zero, List.getElem?_cons_succ] at k0 k1 k2
        obtain ⟨d, e3, _, w3⟩ := DataW.trod_int Try.underlying3 k0
        obtain ⟨e, e4, _, w4⟩ := DataW.trod_int Try.underlying3 k1
        obtain ⟨f, e5, _, w5⟩ := DataW.trod_int Try.underlying22 k2
        simp only [List.cons.injEq, and_true] at e0 e1 e2 e3 e4 e5
        subst e0 e1 e2 e3 e4 e5
        exact ⟨⟨a, b, c, d, e, f⟩, rfl, ⟨w0, wf_u w1, wf_u w2, w3, w4, wf_u w5⟩⟩
/-- A slice of structs that came in, within something else. -/
theorem open_rows {α : Type} {f : α → List Value} {s : Nat} {Wf : α → Prop} {T E : TypeId} {fuel : Nat} {cs : List Value} {x : DataW H × List MemPlace} {ts : List TypeId} {ds : List (DataW H)} (hT : Try.prog.underlying T = some (.slice E)) (hC : Try.prog.cellsOf E = s) (hs : 0 < s) (hbt : Try.prog.bytesOf E = 8 * s) (hfl : ∀ x, (f x).length = s)
    (hof : ∀ fuel cs (y : DataW H × List MemPlace), DataW.trod enc Try.prog w base (fun _ => true) held fuel E cs = some y → ∃ x, cs = f x ∧ Wf x)
    (h : DataW.trod enc Try.prog w base (fun _ => true) held fuel T cs = some x) (hsz : (DataW.weightsEach Try.prog ts ds).all (· ≤ reachBytes) = true) {j : Nat} (ht : ts[j]? = some T) (hd : ds[j]? = some x.1) :
    ∃ A c l, cs = [.slice A l.length c] ∧ InS f s w A c l ∧ ∀ y ∈ l, Wf y := by
  rcases open_slice hT h with ⟨hcs, _⟩ | ⟨a, len, cap, m, n, D, Pl, hcs, _, hl, hm, hmm, hx, hi⟩
  · exact ⟨none, 0, [], hcs, InS.nil, fun y hy => by cases hy⟩
  · have hmc : m = cap := by simpa using hmm
    have hw : cap * (8 * s) ≤ 140737488351232 := by
      rw [hx] at hd
      have z := sized_slice hsz ht hd hT
      rw [hbt] at z
      simp only [List.length_map, List.length_range] at z
      have hr : reachBytes = 140737488351232 := rfl
      rw [hr, show len + (m - len) = cap by omega] at z
      exact z
    have hex : ∀ i, i < len → ∃ y : α, Wf y ∧ ∀ k u, (f y)[k]? = some u → w.cell? ((a.add (i * s)).add k) = some u := by
      intro i hil
      obtain ⟨cs', hc, ht'⟩ := hi i (by omega)
      obtain ⟨y, rfl, hwf⟩ := hof _ _ _ ht'
      obtain ⟨_, hcl, hat⟩ := World.cells?_some hc
      refine ⟨y, hwf, fun k u hu => ?_⟩
      rw [hC] at hat
      have hk : k < s := by
        have := (List.getElem?_eq_some_iff.1 hu).1
        rw [hfl] at this
        exact this
      rw [hat k hk]
      exact hu
    obtain ⟨l, hll, hp⟩ := listed len hex
    have hcap : l.length * (8 * s) ≤ cap * (8 * s) := Nat.mul_le_mul_right _ (by omega)
    refine ⟨some a, cap, l, by rw [hll]; exact hcs, ⟨?_, by omega, by omega⟩, fun y hy => ?_⟩
    · rcases Nat.eq_zero_or_pos l.length with h0 | h0
      · have : l = [] := List.eq_nil_of_length_eq_zero h0
        subst this
        exact ⟨by simp, fun h => by simp at h⟩
      · have hcell : ∀ j u, (l.flatMap f)[j]? = some u → w.cell? (a.add j) = some u := by
          intro j u hu
          have hj : j < l.length * s := by
            have := (List.getElem?_eq_some_iff.1 hu).1
            rw [flat_len hfl] at this
            exact this
          have hq : j / s < l.length := Nat.div_lt_of_lt_mul (by rw [Nat.mul_comm]; exact hj)
          have hr : j % s < s := Nat.mod_lt _ hs
          have hdm : j = j / s * s + j % s := by rw [Nat.mul_comm]; exact (Nat.div_add_mod j s).symm
          rw [hdm, flat_get hfl l _ hq _ hr] at hu
          have := (hp _ hq).2 _ _ hu
          rw [Go.Deep.add_add] at this
          rw [hdm]
          exact this
        have hb : a.block < w.heap.size := by
          have h1 : ∃ u, (l.flatMap f)[0]? = some u := by
            have : 0 < (l.flatMap f).length := by rw [flat_len hfl]; exact Nat.mul_pos h0 hs
            exact ⟨_, List.getElem?_eq_getElem this⟩
          obtain ⟨u, hu⟩ := h1
          have := World.block_lt_of_cell? w _ (hcell 0 u hu)
          simpa [Addr.add] using this
        exact Reads.of_add (flat_len hfl l) hb hcell hs
    · obtain ⟨i, hi, rfl⟩ := List.getElem_of_mem hy
      exact (hp i hi).1
end
/-- What is known of a snapshot that came in. -/
def OpenShot (W : World) (v : Value) : Prop := ∃ i t An cn ns lim nxt Ah ch hs Al cl ls, v = shV i t (.slice An ns.length cn) lim nxt (.slice Ah hs.length ch) (.slice Al ls.length cl) ∧ InN .i64 W An cn ns ∧ ns.length ≤ 17592186043904 ∧ InS hdC 5 W Ah ch hs ∧ InS lsC 6 W Al cl ls ∧
  (∀ h ∈ hs, h.Wf) ∧ (∀ x ∈ ls, x.Wf) ∧ (0 ≤ i ∧ i < 18446744073709551616) ∧ (0 ≤ t ∧ t < 18446744073709551616) ∧ (Lit.int .i64 lim).wf = true ∧ (0 ≤ nxt ∧ nxt < 18446744073709551616)
end Go.Proofs.Ytfkaggdjhopjpaa
