/- Plain laws of commands' bytes: what is refused, and that the code's bytes are the document's. -/
import Derived.Test.YtnpodnieahokjaaLive
namespace Go.Proofs.Ytnpodnieahokjaa
open Go.RowKit

theorem ok_nats {k n t : Int} {l : List Int} {b q s m : Int} (h : codeOk k n t l b q s m = true) : 1 ≤ k ∧ k ≤ 6 ∧ 0 ≤ n ∧ n ≤ 7 ∧ 0 ≤ t ∧ t ≤ 65535 ∧ (kN k = true → IsSet l) ∧ (kN k = false → l = []) := by
  unfold codeOk at h
  simp only [Bool.and_eq_true] at h
  obtain ⟨⟨⟨⟨h1, h2⟩, h3⟩, h4⟩, _⟩ := h
  have hk : 1 ≤ k ∧ k ≤ 6 := by simpa [kI] using h1
  refine ⟨hk.1, hk.2, ?_, ?_, ?_, ?_, ?_, ?_⟩
  · unfold reqB reqZ at h3
    split at h3
    · simp at h3; omega
    · simp at h3; omega
  · unfold reqB reqZ at h3
    split at h3
    · simp at h3; omega
    · simp at h3; omega
  · unfold tokB tokZ at h4
    split at h4
    · simp at h4; omega
    · simp at h4; omega
  · unfold tokB tokZ at h4
    split at h4
    · simp at h4; omega
    · simp at h4; omega
  · intro hN
    simpa [listB, hN] using h2
  · intro hN
    simpa [listB, hN] using h2
end Go.Proofs.Ytnpodnieahokjaa
