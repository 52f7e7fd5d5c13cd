/- Arguments opened: a ledger that came in. -/
import Derived.Test.YtfkaggdjhopjpaaOpenShot
namespace Go.Proofs.Ytfkaggdjhopjpaa
set_option maxRecDepth 100000
open Go.Joins Go.ChangeShapes Go.WideShapes Go.RowKit Go.Deep Go.ChangeAt

/-- What is known of a ledger that came in. -/
def OpenLed (W : World) (v : Value) : Prop := ∃ lim nxt Ah ch hs Al cl ls, v = ledV lim nxt (.slice Ah hs.length ch) (.slice Al ls.length cl) ∧ InS hdC 5 W Ah ch hs ∧ InS lsC 6 W Al cl ls ∧
  (∀ h ∈ hs, h.Wf) ∧ (∀ x ∈ ls, x.Wf) ∧ (Lit.int .i64 lim).wf = true ∧ (0 ≤ nxt ∧ nxt < 18446744073709551616)
theorem open_led {H : Type} {enc : TypeId × Value → H} {W : World} {base : Nat} {r : Reach} {v : Value} {d : DataW H} {p : List MemPlace} {ts : List TypeId} {ds : List (DataW H)}
    (hv : Value.okWide Try.prog W r base 26 v) (h : DataW.Trod enc Try.prog W 0 (fun _ => true) true 26 v d p)
    (hsz : (DataW.weightsEach Try.prog ts ds).all (· ≤ reachBytes) = true) {j : Nat} (ht : ts[j]? = some 26) (hd : ds[j]? = some d) :
    OpenLed W v := by
  obtain ⟨cs, rfl, hcs⟩ := okWide_struct Try.underlying26 hv
  obtain ⟨l⟩ := cs
  match l, hcs.trans c_Ledger with
  | [c0, c1, c2, c3], _ =>
    obtain ⟨fuel, hf⟩ := h
    obtain ⟨xs, n, hx, _, hlen, hg⟩ := parts Try.underlying26 hf
    match xs, hlen with
    | [y0, y1, y2, y3], _ =>
      have k0 := hg 0 _ rfl 0 1 rfl (by kernel_rfl)
      have k1 := hg 1 _ rfl 1 1 rfl (by kernel_rfl)
      have k2 := hg 2 _ rfl 2 1 rfl (by kernel_rfl)
      have k3 := hg 3 _ rfl 3 1 rfl (by kernel_rfl)
      simp only [Value.cells, List.drop_zero, List.drop_succ_cons, List.take_succ_cons, List.take_zero, List.getElem?_cons_zero, List.getElem?_cons_succ] at k0 k1 k2 k3
      simp only [Prod.mk.injEq] at hx
      obtain ⟨rfl, _⟩ := hx
      have hin := sized_agg hsz ht hd Try.underlying26
      obtain ⟨lim, e3, _, w3⟩ := DataW.trod_int Try.underlying3 k0
      obtain ⟨nxt, e4, _, w4⟩ := DataW.trod_int Try.underlying22 k1
      obtain ⟨Ah, ch, hs, e5, i5, s5⟩ := open_rows (s := 5) Try.underlying23 c_Held (by omega) (by kernel_rfl) hdC_len (fun _ _ _ h => hd_of h) k2 hin (j := 2) rfl rfl
      obtain ⟨Al, cl, ls, e6, i6, s6⟩ := open_rows (s := 6) Try.underlying24 c_Last (by omega) (by kernel_rfl) lsC_len (fun _ _ _ h => ls_of h) k3 hin (j := 3) rfl rfl
      simp only [List.cons.injEq, and_true] at e3 e4 e5 e6
      subst e3 e4 e5 e6
      exact ⟨lim, nxt, Ah, ch, hs, Al, cl, ls, rfl, i5, i6, s5, s6, w3, wf_u w4⟩
end Go.Proofs.Ytfkaggdjhopjpaa
