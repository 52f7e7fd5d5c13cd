/- For every string, bytes and bound that are together of bulk at most 1048576: what octet.Text wrote is read as what it was, or refused as too long (law OctetTextBack is true there). -/
import Derived.Test.YtkapdfaiceiffaaRows
import Derived.Test.YtkapdfaiceiffaaLawTextBack
import Derived.Test.YtkapdfaiceiffaaOpen
import Derived.Test.YtkapdfaiceiffaaBulk
import Derived.ProofKit
import Derived.JoinedCond
import Derived.Deep.CondSized
import Derived.OpenShut
import Derived.ShutString
import Derived.ChangeOld
import Derived.SizedLaws
namespace Go.Proofs.Ytkapdfaiceiffaa.octetTextBack
open Go.ChangeShapes Go.WideShapes Go.ChangeAt Go.RowKit
open Go.ChangeMaps (open_string shut_string)
set_option linter.unusedVariables false
theorem own : ownKnob Try.prog.godebug = none := by kernel_rfl
theorem laidOut : laidOutB Try.prog = true := by kernel_rfl
set_option maxRecDepth 100000 in
theorem lifted (os : Os) (started : os.Started) (H : Type) (enc : TypeId × Value → H) (F : Stop.Interp) :
    ReturnsInHanded {} Try.checked os 11 .any ((Rows.OpenSpec.upto Rows.octetTextBackSpec).pre6 enc Try.prog Try.f11 Rows.octetTextBackUptoRow.domain false) (((Rows.OpenSpec.upto Rows.octetTextBackSpec).at F).post enc Try.prog Try.f11 false true false false) := by
  refine returnsInHanded_of_cond_sized (C := Try.checked) (s := Rows.OpenSpec.upto Rows.octetTextBackSpec) (k := Rows.uptoSmall) rfl own started (by kernel_rfl) Try.func11
    (OpenSpec.witness (enc := enc) (C := Try.checked) (s := Rows.OpenSpec.upto Rows.octetTextBackSpec) (k := Rows.uptoSmall) rfl false ⟨#[], #[.string ByteArray.empty, .slice none 0 0, .int .i64 0], []⟩ 8 (by kernel_rfl) (by kernel_rfl) (by kernel_rfl)
      (x := ([.lit (.string []), .nil, .lit (.int .i64 0)], [], [])) (by kernel_rfl) rfl (by kernel_rfl)) ?_
  intro W base args ds gs before hval0 hW hcnd hk hsz0 _
  have hsz : (DataW.weightsEach Try.prog (Try.f11.params.toList ++ (Rows.OpenSpec.upto Rows.octetTextBackSpec).bare.plain.varTypes Try.prog) (ds ++ gs)).all (· ≤ reachBytes) = true := hsz0
  have hval : ∀ (j : Nat) t v, Try.f11.params[j]? = some t → args[j]? = some v → Value.okWide Try.prog W .any base t v := hval0
  have hW' := hW
  obtain ⟨p, q, hA0, hV, rfl, hfz, hnd⟩ := hW
  have hA : DataW.TrodAll enc Try.prog W 0 (fun _ => true) true Try.f11.params.toList args.toList ds p := hA0
  rw [Try.params11] at hA hval hsz
  obtain ⟨v0, vs0, d0, ds0, p0, q0, hargs, rfl, rfl, h0, r0⟩ := trodAll_cons hA
  obtain ⟨v1, vs1, d1, ds1, p1, q1, rfl, rfl, rfl, h1, r1⟩ := trodAll_cons r0
  obtain ⟨v2, vs2, d2, ds2, p2, q2, rfl, rfl, rfl, h2, r2⟩ := trodAll_cons r1
  obtain ⟨rfl, rfl, rfl⟩ := trodAll_nil r2
  obtain rfl : args = #[v0, v1, v2] := by cases args; simp_all
  obtain ⟨rfl, rfl⟩ := trodVars_none hV
  obtain ⟨a0, rfl, rfl, rfl, y0⟩ := open_string Try.underlying9 (hval 0 9 v0 rfl rfl) h0
  have w0 : a0.size ≤ 140737488351232 := by
    have z := sized_string hsz (j := 0) (t := 9) rfl rfl
    rw [Array.length_toList] at z
    exact z
  have k1 := h1
  have lt1 : ∀ x ∈ p1, x.block < W.heap.size := by obtain ⟨m, hm⟩ := k1; exact DataW.trod_lt m _ _ _ hm
  have z1 := open_bytes (hval 1 22 v1 rfl rfl) h1 hsz (j := 1) rfl rfl
  obtain ⟨a2, rfl, rfl, rfl, w2⟩ := open_int Try.underlying3 (hval 2 3 v2 rfl rfl) h2
  have hbk := bulks.bound hk
  simp only [List.append_nil] at hbk
  have b0 : a0.size ≤ 1048576 := by
    have q := bulks.part_le (H := H) (d := .lit (.string a0.data.toList)) (l := [DataW.lit (.string a0.data.toList), d1, DataW.lit (.int .i64 a2)]) (by simp)
    rw [bulks.string_eq] at q
    have e : a0.data.toList.length = a0.size := by rw [Array.length_toList]; rfl
    omega
  have b1 : ∀ A n c, v1 = .slice A n c → n ≤ 1048576 := by
    intro A n c e
    subst e
    have q1 := bulks.bytes_len k1
    have q2 := bulks.part_le (H := H) (d := d1) (l := [DataW.lit (.string a0.data.toList), d1, DataW.lit (.int .i64 a2)]) (by simp)
    omega
  clear hA0 hval0 hsz0 hsz
  refine (octetTextBack_row W a0 b0 z1 b1 a2 w2).mono fun e W' ⟨he, bel⟩ => ?_
  subst he
  exact ⟨_, rfl, _, _, _, [], _, [], hW', trodAll_mk1 (shut_bool Try.underlying4 _), (trodAll_cons_mk (shut_string Try.underlying9 y0) (trodAll_cons_mk (Below.trod laidOut (by kernel_rfl) (of_decide_eq_true (by kernel_rfl)) k1 bel lt1) (trodAll_cons_mk (shut_int Try.underlying3 w2) trodAll_mk0))), rfl, bel.frame _, fun h => by cases h⟩
theorem over : Rows.octetTextBackUptoRow.holds Try.pinned (Rows.OpenSpec.upto Rows.octetTextBackSpec) :=
  OpenClaim.holds_of_cond 11 Try.f11 rfl rfl rfl rfl rfl rfl rfl ⟨rfl, rfl, rfl, rfl, rfl⟩ rfl rfl rfl rfl rfl (by kernel_rfl) Try.func11 (by kernel_rfl)
    (of_decide_eq_true (by kernel_rfl)) (by unfold Func.isWrapper; first | (rw [if_pos (by decide +kernel)]; kernel_rfl) | (rw [if_neg (by decide +kernel)]; exact ⟨rfl, rfl⟩))
    (fun os started H enc _ F => lifted os started H enc F)
theorem proved : Rows.OctetTextBackUptoSaid := over
#print axioms proved
end Go.Proofs.Ytkapdfaiceiffaa.octetTextBack
namespace Go.Proofs.Ytkapdfaiceiffaa
theorem octetTextBack_holds : Rows.OctetTextBackUptoSaid := octetTextBack.proved
end Go.Proofs.Ytkapdfaiceiffaa
