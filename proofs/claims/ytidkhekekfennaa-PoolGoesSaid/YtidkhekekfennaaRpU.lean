/- Two pools beside each other. -/
import Derived.Test.YtidkhekekfennaaRpT
namespace Go.Proofs.Ytidkhekekfennaa
set_option maxRecDepth 100000
set_option linter.unusedVariables false
open Go.RowKit

/-- Both pools, and what is known. -/
structure Pg (w : World) (G g gx : Nat) (v v' u' : Value) (cs : List Cn) (ws : List Int) (cs' : List Cn) (ws' : List Int) (wr : World) : Prop where
  pl : PlAt wr G g v cs ws
  rp : RpAt wr G gx v' u' cs' ws'
  dis : ∀ j, PB g v j → ¬ RB gx v' u' j
  bel : Below G w wr
  siz : G ≤ wr.heap.size
section
variable {w wr w1 : World} {G g gx : Nat} {v v' u' : Value} {cs cs' : List Cn} {ws ws' : List Int} {R : Rs} {e : Ending}
theorem Pg.keep (h : Pg w G g gx v v' u' cs ws cs' ws' wr) (hb : Below wr.heap.size wr w1) : Pg w G g gx v v' u' cs ws cs' ws' w1 :=
  ⟨h.pl.keep hb, h.rp.keep hb, h.dis, h.bel.trans (hb.mono h.siz), Nat.le_trans h.siz hb.size⟩
theorem Pg.code (h : Pg w G g gx v v' u' cs ws cs' ws' wr) (k : Post wr G g v R e w1) : ∃ v1, e = .returned (.tuple #[.int .i64 R.r, .int .i64 R.e]) ∧ Pg w G g gx v1 v' u' R.cs R.ws cs' ws' w1 := by
  obtain ⟨v1, h1, h2, h3, h4⟩ := k
  refine ⟨v1, h1, h2, h.rp.tr h3 (fun j hj q => h.dis j q hj), fun j hj hr => ?_, h.bel.trans (h3.below (fun j _ hj => (h.pl.lts j hj).1) h.siz), Nat.le_trans h.siz h3.size⟩
  rcases hj with q | q
  · exact h.dis j (Or.inl q) hr
  · rcases h4 with h4 | ⟨b, h4, h5⟩
    · exact h.dis j (Or.inr (h4 ▸ q)) hr
    · rw [h4] at q
      injection q with q
      have := (h.rp.lts j hr).2
      omega
theorem Pg.ref (h : Pg w G g gx v v' u' cs ws cs' ws' wr) (k : RPost wr G gx v' u' R e w1) : ∃ v1 u1, e = .returned (.tuple #[.int .i64 R.r, .int .i64 R.e]) ∧ Pg w G g gx v v1 u1 cs ws R.cs R.ws w1 := by
  obtain ⟨v1, u1, h1, h2, h3, h4⟩ := k
  refine ⟨v1, u1, h1, h.pl.tr h3 (fun j hj q => h.dis j hj q), h2, fun j hj hr => ?_, h.bel.trans (h3.below (fun j _ hj => (h.rp.lts j hj).1) h.siz), Nat.le_trans h.siz h3.size⟩
  rcases h4 j hr with q | q
  · exact h.dis j hj q
  · have := (h.pl.lts j hj).2
    omega
end
/-- A pool that goes on by itself from a world w1 on. -/
structure PpS (w1 : World) (G g : Nat) (v0 v : Value) (cs : List Cn) (ws : List Int) (w2 : World) : Prop where
  pl : PlAt w2 G g v cs ws
  inv : Inv cs ws
  tr : Tr w1 w2 (PB g v0)
  new : ∀ j, PB g v j → PB g v0 j ∨ w1.heap.size ≤ j
section
variable {w1 w2 w3 : World} {G g : Nat} {v0 v : Value} {cs : List Cn} {ws : List Int} {R : Rs} {e : Ending}
theorem PpS.step (h : PpS w1 G g v0 v cs ws w2) (k : Post w2 G g v R e w3) (hi : Inv R.cs R.ws) : ∃ v1, e = .returned (.tuple #[.int .i64 R.r, .int .i64 R.e]) ∧ PpS w1 G g v0 v1 R.cs R.ws w3 := by
  obtain ⟨v1, h1, h2, h3, h4⟩ := k
  refine ⟨v1, h1, h2, hi, h.tr.more h3 (fun j hj q => ?_), fun j hj => ?_⟩
  · rcases h.new j q with q | q
    · exact q
    · omega
  · rcases hj with q | q
    · exact Or.inl (Or.inl q)
    · rcases h4 with h4 | ⟨b, h4, h5⟩
      · exact h.new j (Or.inr (h4 ▸ q))
      · rw [h4] at q
        injection q with q
        exact Or.inr (Nat.le_trans h.tr.size (by omega))
/-- Behind a clone, whatever the first one did since. -/
theorem Pg.clone {w wr : World} {G g gx : Nat} {v v' u' v2 : Value} {cs cs2 : List Cn} {ws ws2 : List Int} (h : Pg w G g gx v v' u' cs ws cs ws wr) (h2 : PlAt w1 wr.heap.size wr.heap.size v2 cs ws) (hb : Below wr.heap.size wr w1) (k : PpS w1 G g v v0 cs2 ws2 w2) : Pg w G wr.heap.size gx v2 v' u' cs ws cs ws w2 := by
  have hw := h.keep hb
  refine ⟨(h2.lower h.siz).tr k.tr (fun j hj q => ?_), hw.rp.tr k.tr (fun j hj q => h.dis j q hj), fun j hj hr => ?_, hw.bel.trans (k.tr.below (fun j _ hj => (h.pl.lts j hj).1) hw.siz), Nat.le_trans hw.siz k.tr.size⟩
  · have h3 := (h2.lts j hj).1
    have h4 := (h.pl.lts j q).2
    omega
  · have h3 := (h2.lts j hj).1
    have h4 := (h.rp.lts j hr).2
    omega
end
theorem rpool_new (w : World) : RpAt (w.alloc (.cells #[.slice none 0 0, .slice none 0 0] 42)) w.heap.size w.heap.size (.slice none 0 0) (.slice none 0 0) [] [] :=
  ⟨Blk.new _ _ _, own_nil _ _ _ _, own_nil _ _ _ _, Nat.le_refl _, by simp, by simp, by simp⟩
end Go.Proofs.Ytidkhekekfennaa
