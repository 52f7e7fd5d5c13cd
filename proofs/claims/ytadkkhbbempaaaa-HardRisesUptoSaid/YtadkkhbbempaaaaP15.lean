/- Texts drawn together (1 of them): words, plain laws and walks that the row leans on. -/
import Derived.Test.YtadkkhbbempaaaaP3
import Derived.Test.YtadkkhbbempaaaaP13
/- Arguments opened: lists of records. -/
namespace Go.Proofs.Ytadkkhbbempaaaa
set_option maxRecDepth 100000
open Go.Joins Go.ChangeShapes Go.WideShapes Go.RowKit Go.Deep Go.ChangeAt

/-- What is known of a list of records that came in. -/
def OpenRecs (W : World) (v : Value) : Prop := ∃ A c rs, v = .slice A rs.length c ∧ InRs W A c rs ∧ ∀ x ∈ rs, x.r.Wf
theorem open_recs {H : Type} {enc : TypeId × Value → H} {W : World} {base : Nat} {r : Reach} {v : Value} {d : DataW H} {p : List MemPlace} {ts : List TypeId} {ds : List (DataW H)}
    (hv : Value.okWide Try.prog W r base 38 v) (h : DataW.Trod enc Try.prog W 0 (fun _ => true) true 38 v d p)
    (hsz : (DataW.weightsEach Try.prog ts ds).all (· ≤ reachBytes) = true) {j : Nat} (ht : ts[j]? = some 38) (hd : ds[j]? = some d) :
    OpenRecs W v := by
  obtain ⟨a0, len, cap, rfl⟩ := okWide_slice Try.underlying38 hv
  obtain ⟨fuel, hf⟩ := h
  obtain ⟨A, c, l, e, h1, _, h3⟩ := open_rowsW (f := recL) (s := 21) (bt := 232) (Wf := fun y : Rr => y.r.Wf ∧ InR W y.r y.a) Try.underlying38 c_Rec (by omega) (by kernel_rfl) (by omega) recL_len (fun _ _ y k z => by
    obtain ⟨r, a, e, i, wf⟩ := rec_of k z (j := 0) rfl rfl
    exact ⟨⟨r, a⟩, e, wf, i⟩) hf hsz ht hd
  simp [Value.cells] at e
  obtain ⟨rfl, rfl, rfl⟩ := e
  exact ⟨_, _, l, rfl, ⟨h1, fun y hy => (h3 y hy).2⟩, fun y hy => (h3 y hy).1⟩
end Go.Proofs.Ytadkkhbbempaaaa
