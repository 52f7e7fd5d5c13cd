/- Pools, plain: what holds of every pool that a list of calls makes. -/
import Derived.Test.YtidkhekekfennaaPlL
namespace Go.Proofs.Ytidkhekekfennaa
set_option maxRecDepth 100000
set_option linter.unusedVariables false

structure Inv (cs : List Cn) (ws : List Int) : Prop where
  srt : Srt cs
  tok : ∀ c ∈ cs, 1 ≤ c.t
  ses : ∀ c ∈ cs, 0 ≤ c.s ∧ c.s ≤ 6
  dis : cs.Pairwise (fun a b => a.s = b.s → a.s = 0)
  nod : ws.Pairwise (· ≠ ·)
  wr : ∀ x ∈ ws, 1 ≤ x ∧ x ≤ 6
  off : ∀ c ∈ cs, c.s ∉ ws
  idle : ws ≠ [] → ∀ c ∈ cs, c.s ≠ 0
theorem Inv.nil : Inv [] [] := ⟨List.Pairwise.nil, by simp, by simp, List.Pairwise.nil, List.Pairwise.nil, by simp, by simp, by simp⟩
theorem mem_insL {α : Type} {l : List α} {k : Nat} {x y : α} : y ∈ insL l k x ↔ y = x ∨ y ∈ l := by
  have e : y ∈ l ↔ y ∈ l.take k ∨ y ∈ l.drop k := by
    rw [← List.mem_append, List.take_append_drop]
  rw [insL, List.mem_append, List.mem_cons, e]
  constructor
  · rintro (h | h | h)
    · exact Or.inr (Or.inl h)
    · exact Or.inl h
    · exact Or.inr (Or.inr h)
  · rintro (h | h | h)
    · exact Or.inr (Or.inl h)
    · exact Or.inl h
    · exact Or.inr (Or.inr h)
theorem pair_ins {α : Type} {R : α → α → Prop} {l : List α} (k : Nat) {x : α} (h : l.Pairwise R) (h1 : ∀ a ∈ l, R a x) (h2 : ∀ a ∈ l, R x a) : (insL l k x).Pairwise R := by
  have h' := h
  rw [← List.take_append_drop k l, List.pairwise_append] at h'
  rw [insL, List.pairwise_append, List.pairwise_cons]
  refine ⟨h'.1, ⟨fun a ha => h2 a (List.mem_of_mem_drop ha), h'.2.1⟩, fun a ha b hb => ?_⟩
  rcases List.mem_cons.1 hb with rfl | hb
  · exact h1 a (List.mem_of_mem_take ha)
  · exact h'.2.2 a ha b hb
theorem lb_cons (c : Cn) (l : List Cn) (t : Int) : lbT (c :: l) t = if c.t < t then lbT l t + 1 else 0 := by
  unfold lbT
  by_cases h : c.t < t
  · simp [h]
  · simp [h]
theorem has_cons (c : Cn) (l : List Cn) (t : Int) : hasT (c :: l) t = if c.t < t then hasT l t else c.t == t := by
  unfold hasT
  rw [lb_cons]
  by_cases h : c.t < t
  · simp [h]
  · simp [h]
theorem srt_ins : ∀ (l : List Cn) (t s : Int), Srt l → hasT l t = false → Srt (insL l (lbT l t) ⟨t, s⟩)
  | [], t, s, _, _ => by simp [insL, Srt]
  | c :: l, t, s, h, hf => by
    obtain ⟨h1, h2⟩ := List.pairwise_cons.1 h
    rw [lb_cons]
    rw [has_cons] at hf
    by_cases hc : c.t < t
    · rw [if_pos hc]
      rw [if_pos hc] at hf
      have ih := srt_ins l t s h2 hf
      show Srt (c :: insL l (lbT l t) ⟨t, s⟩)
      refine List.pairwise_cons.2 ⟨fun a ha => ?_, ih⟩
      rcases mem_insL.1 ha with rfl | ha
      · exact hc
      · exact h1 a ha
    · rw [if_neg hc]
      rw [if_neg hc] at hf
      have hne : c.t ≠ t := by simpa using hf
      show Srt (⟨t, s⟩ :: c :: l)
      refine List.pairwise_cons.2 ⟨fun a ha => ?_, h⟩
      rcases List.mem_cons.1 ha with rfl | ha
      · show t < a.t
        omega
      · have := h1 a ha
        show t < a.t
        omega
theorem mem_setS {cs : List Cn} {k : Nat} {s : Int} {c : Cn} (h : c ∈ setS cs k s) : (∃ hk : k < cs.length, c = ⟨cs[k].t, s⟩) ∨ ∃ j, ∃ hj : j < cs.length, j ≠ k ∧ c = cs[j] := by
  obtain ⟨j, hj, rfl⟩ := List.getElem_of_mem h
  have hj' : j < cs.length := by rwa [setS_len] at hj
  by_cases e : k = j
  · subst e
    refine Or.inl ⟨hj', ?_⟩
    simp [setS]
  · refine Or.inr ⟨j, hj', fun h => e h.symm, ?_⟩
    simp [setS, e]
theorem get_setS {cs : List Cn} {k : Nat} {s : Int} {j : Nat} (hj : j < (setS cs k s).length) (hj' : j < cs.length) : (setS cs k s)[j] = if k = j then ⟨cs[j].t, s⟩ else cs[j] := by
  simp only [setS, List.getElem_modify]
theorem srt_setS {cs : List Cn} {k : Nat} {s : Int} (h : Srt cs) : Srt (setS cs k s) := by
  refine List.pairwise_iff_getElem.2 fun i j hi hj hij => ?_
  have hi' : i < cs.length := by rwa [setS_len] at hi
  have hj' : j < cs.length := by rwa [setS_len] at hj
  have := h.lt hi' hj' hij
  rw [get_setS hi hi', get_setS hj hj']
  split <;> split <;> exact this
theorem dis_setS {cs : List Cn} {k : Nat} {s : Int} (h : cs.Pairwise (fun a b => a.s = b.s → a.s = 0)) (hs : ∀ j (hj : j < cs.length), j ≠ k → cs[j].s = s → s = 0) : (setS cs k s).Pairwise (fun a b => a.s = b.s → a.s = 0) := by
  refine List.pairwise_iff_getElem.2 fun i j hi hj hij => ?_
  have hi' : i < cs.length := by rwa [setS_len] at hi
  have hj' : j < cs.length := by rwa [setS_len] at hj
  have h0 := List.pairwise_iff_getElem.1 h i j hi' hj' hij
  rw [get_setS hi hi', get_setS hj hj']
  by_cases e1 : k = i
  · by_cases e2 : k = j
    · omega
    · rw [if_pos e1, if_neg e2]
      intro h
      exact hs j hj' (fun e => e2 e.symm) h.symm
  · rw [if_neg e1]
    by_cases e2 : k = j
    · rw [if_pos e2]
      intro h
      have h' : cs[i].s = s := h
      rw [h']
      exact hs i hi' (fun e => e1 e.symm) h'
    · rw [if_neg e2]
      exact h0
theorem Inv.free {cs : List Cn} {ws : List Int} (h : Inv cs ws) {k : Nat} (hk : k < cs.length) (h0 : cs[k].s ≠ 0) : Inv (setS cs k (ws.headD 0)) ws.tail := by
  cases ws with
  | nil =>
    refine ⟨srt_setS h.srt, fun c hc => ?_, fun c hc => ?_, dis_setS h.dis (fun j hj _ e => rfl), List.Pairwise.nil, by simp, by simp, by simp⟩
    · rcases mem_setS hc with ⟨_, rfl⟩ | ⟨j, hj, _, rfl⟩
      · exact (h.tok _ (List.getElem_mem hk) : 1 ≤ cs[k].t)
      · exact h.tok _ (List.getElem_mem hj)
    · rcases mem_setS hc with ⟨_, rfl⟩ | ⟨j, hj, _, rfl⟩
      · exact ⟨by simp, by simp⟩
      · exact h.ses _ (List.getElem_mem hj)
  | cons y ws =>
    have hn := List.pairwise_cons.1 h.nod
    have hy := h.wr y (by simp)
    have hidle := h.idle (by simp)
    refine ⟨srt_setS h.srt, fun c hc => ?_, fun c hc => ?_, dis_setS h.dis (fun j hj _ e => ?_), hn.2, fun x hx => h.wr x (List.mem_cons_of_mem _ hx), fun c hc => ?_, fun _ c hc => ?_⟩
    · rcases mem_setS hc with ⟨_, rfl⟩ | ⟨j, hj, _, rfl⟩
      · exact (h.tok _ (List.getElem_mem hk) : 1 ≤ cs[k].t)
      · exact h.tok _ (List.getElem_mem hj)
    · rcases mem_setS hc with ⟨_, rfl⟩ | ⟨j, hj, _, rfl⟩
      · exact ⟨by show 0 ≤ y; omega, hy.2⟩
      · exact h.ses _ (List.getElem_mem hj)
    · exact absurd (e ▸ (by simp : y ∈ y :: ws)) (h.off _ (List.getElem_mem hj))
    · rcases mem_setS hc with ⟨_, rfl⟩ | ⟨j, hj, _, rfl⟩
      · intro hm
        exact hn.1 y hm rfl
      · exact fun hm => h.off _ (List.getElem_mem hj) (List.mem_cons_of_mem _ hm)
    · rcases mem_setS hc with ⟨_, rfl⟩ | ⟨j, hj, _, rfl⟩
      · show y ≠ 0
        omega
      · exact hidle _ (List.getElem_mem hj)
theorem Inv.freeP {cs : List Cn} {ws : List Int} (h : Inv cs ws) (s : Int) : Inv (freeP cs ws s).cs (freeP cs ws s).ws := by
  unfold Ytidkhekekfennaa.freeP
  split
  · exact h
  · rename_i hs
    split
    · rename_i k hf
      obtain ⟨hk, h1, _⟩ := fd_some hf
      exact h.free hk (by rw [h1]; exact hs)
    · exact h
theorem Inv.leaveP {cs : List Cn} {ws : List Int} (h : Inv cs ws) (s : Int) : Inv (leaveP cs ws s).cs (leaveP cs ws s).ws := by
  unfold Ytidkhekekfennaa.leaveP
  split
  · rename_i i hf
    have hsub := List.eraseIdx_sublist ws i
    refine ⟨h.srt, h.tok, h.ses, h.dis, h.nod.sublist hsub, fun x hx => h.wr x (hsub.subset hx), fun c hc hm => h.off c hc (hsub.subset hm), fun hne => h.idle (fun e => hne (by rw [e]; rfl))⟩
  · exact h.freeP s
theorem Inv.closeP {cs : List Cn} {ws : List Int} (h : Inv cs ws) (t : Int) : Inv (closeP cs ws t).cs (closeP cs ws t).ws := by
  unfold Ytidkhekekfennaa.closeP
  split
  · have hsub : (delL cs (lbT cs t)).Sublist cs := by
      have := List.eraseIdx_sublist cs (lbT cs t)
      rwa [List.eraseIdx_eq_take_drop_succ] at this
    exact ⟨h.srt.sublist hsub, fun c hc => h.tok c (hsub.subset hc), fun c hc => h.ses c (hsub.subset hc), h.dis.sublist hsub, h.nod, h.wr, fun c hc => h.off c (hsub.subset hc), fun hne c hc => h.idle hne c (hsub.subset hc)⟩
  · exact h
theorem Inv.openP {cs : List Cn} {ws : List Int} (h : Inv cs ws) (t : Int) : Inv (openP cs ws t).cs (openP cs ws t).ws := by
  unfold Ytidkhekekfennaa.openP
  split
  · exact h
  · rename_i ht
    split
    · exact h
    · rename_i hf
      split
      · exact h
      · have hf' : hasT cs t = false := by simpa using hf
        cases ws with
        | nil =>
          refine ⟨srt_ins cs t _ h.srt hf', fun c hc => ?_, fun c hc => ?_, pair_ins _ h.dis (fun a _ e => e) (fun a _ _ => rfl), List.Pairwise.nil, by simp, by simp, by simp⟩
          · rcases mem_insL.1 hc with rfl | hc
            · show 1 ≤ t
              omega
            · exact h.tok c hc
          · rcases mem_insL.1 hc with rfl | hc
            · exact ⟨by simp, by simp⟩
            · exact h.ses c hc
        | cons y ws =>
          have hn := List.pairwise_cons.1 h.nod
          have hy := h.wr y (by simp)
          have hidle := h.idle (by simp)
          refine ⟨srt_ins cs t _ h.srt hf', fun c hc => ?_, fun c hc => ?_, pair_ins _ h.dis (fun a ha e => ?_) (fun a ha e => ?_), hn.2, fun x hx => h.wr x (List.mem_cons_of_mem _ hx), fun c hc => ?_, fun _ c hc => ?_⟩
          · rcases mem_insL.1 hc with rfl | hc
            · show 1 ≤ t
              omega
            · exact h.tok c hc
          · rcases mem_insL.1 hc with rfl | hc
            · exact ⟨by show 0 ≤ y; omega, hy.2⟩
            · exact h.ses c hc
          · have e' : a.s = y := e
            exact absurd (e' ▸ (by simp : y ∈ y :: ws)) (h.off a ha)
          · have e' : y = a.s := e
            exact absurd (e' ▸ (by simp : y ∈ y :: ws)) (h.off a ha)
          · rcases mem_insL.1 hc with rfl | hc
            · intro hm
              exact hn.1 y hm rfl
            · exact fun hm => h.off c hc (List.mem_cons_of_mem _ hm)
          · rcases mem_insL.1 hc with rfl | hc
            · show y ≠ 0
              omega
            · exact hidle c hc
theorem busy_no {cs : List Cn} {ws : List Int} {s : Int} (h : ¬ busyB cs ws s = true) : (∀ c ∈ cs, c.s ≠ s) ∧ s ∉ ws := by
  unfold busyB inW at h
  cases hf : fdS cs s with
  | some k => rw [hf] at h; simp at h
  | none =>
    refine ⟨fd_none hf, fun hm => ?_⟩
    rw [hf] at h
    cases hg : ws.findIdx? (fun x => x == s) with
    | some k => rw [hg] at h; simp at h
    | none =>
      have := List.findIdx?_eq_none_iff.1 hg s hm
      simp at this
theorem Inv.wantP {cs : List Cn} {ws : List Int} (h : Inv cs ws) (s : Int) : Inv (wantP cs ws s).cs (wantP cs ws s).ws := by
  unfold Ytidkhekekfennaa.wantP
  split
  · exact h
  · rename_i hs
    split
    · exact h
    · rename_i hb
      obtain ⟨hb1, hb2⟩ := busy_no hb
      split
      · rename_i k hf
        obtain ⟨hk, hk0, _⟩ := fd_some hf
        have hw : ws = [] := by
          cases ws with
          | nil => rfl
          | cons y ws => exact absurd hk0 (h.idle (by simp) _ (List.getElem_mem hk))
        subst hw
        refine ⟨srt_setS h.srt, fun c hc => ?_, fun c hc => ?_, dis_setS h.dis (fun j hj _ e => absurd e (hb1 _ (List.getElem_mem hj))), List.Pairwise.nil, by simp, by simp, by simp⟩
        · rcases mem_setS hc with ⟨_, rfl⟩ | ⟨j, hj, _, rfl⟩
          · exact (h.tok _ (List.getElem_mem hk) : 1 ≤ cs[k].t)
          · exact h.tok _ (List.getElem_mem hj)
        · rcases mem_setS hc with ⟨_, rfl⟩ | ⟨j, hj, _, rfl⟩
          · exact ⟨by show 0 ≤ s; omega, by show s ≤ 6; omega⟩
          · exact h.ses _ (List.getElem_mem hj)
      · rename_i hf
        split
        · exact h
        · refine ⟨h.srt, h.tok, h.ses, h.dis, ?_, fun x hx => ?_, fun c hc hm => ?_, fun _ => fd_none hf⟩
          · refine List.pairwise_append.2 ⟨h.nod, by simp, fun a ha b hb e => ?_⟩
            rw [List.mem_singleton.1 hb] at e
            exact hb2 (e ▸ ha)
          · rcases List.mem_append.1 hx with hx | hx
            · exact h.wr x hx
            · rw [List.mem_singleton.1 hx]; omega
          · rcases List.mem_append.1 hm with hm | hm
            · exact h.off c hc hm
            · exact hb1 c hc (List.mem_singleton.1 hm)
theorem Inv.doP {cs : List Cn} {ws : List Int} (h : Inv cs ws) (d n : Int) : Inv (doP cs ws d n).cs (doP cs ws d n).ws := by
  unfold Ytidkhekekfennaa.doP
  split
  · exact h.openP n
  · split
    · exact h.closeP n
    · split
      · exact h.wantP n
      · split
        · exact h.freeP n
        · split
          · exact h.leaveP n
          · exact h
theorem has_mem {cs : List Cn} {s : Int} {c : Cn} (hc : c ∈ cs) (e : c.s = s) (h0 : s ≠ 0) (ht : ∀ c ∈ cs, 1 ≤ c.t) : hasP cs s ≠ 0 := by
  unfold hasP
  rw [if_neg h0]
  cases hf : fdS cs s with
  | none => exact absurd e (fd_none hf c hc)
  | some k =>
    obtain ⟨hk, _, _⟩ := fd_some hf
    show tokAt cs k ≠ 0
    rw [fd_at hk]
    have := ht _ (List.getElem_mem hk)
    omega
/-- Who gets a connection has waited longest. -/
theorem fair {cs : List Cn} {ws : List Int} (h : Inv cs ws) (d n : Int) (hr : (doP cs ws d n).r ≠ 0) :
    ∃ ws', ws = (doP cs ws d n).r :: ws' ∧ (doP cs ws d n).ws = ws' ∧ hasP (doP cs ws d n).cs (doP cs ws d n).r ≠ 0 := by
  have hi := h.doP d n
  have free_ : ∀ s, (Ytidkhekekfennaa.freeP cs ws s).r ≠ 0 → ∃ ws', ws = (Ytidkhekekfennaa.freeP cs ws s).r :: ws' ∧ (Ytidkhekekfennaa.freeP cs ws s).ws = ws' ∧ hasP (Ytidkhekekfennaa.freeP cs ws s).cs (Ytidkhekekfennaa.freeP cs ws s).r ≠ 0 := by
    intro s hr
    have hi := h.freeP s
    by_cases hs : s = 0
    · rw [Ytidkhekekfennaa.freeP, if_pos hs] at hr
      exact absurd rfl hr
    cases hf : fdS cs s with
    | none =>
      rw [Ytidkhekekfennaa.freeP, if_neg hs, hf] at hr
      exact absurd rfl hr
    | some k =>
      obtain ⟨hk, _, _⟩ := fd_some hf
      have e0 : Ytidkhekekfennaa.freeP cs ws s = ⟨ws.headD 0, 0, setS cs k (ws.headD 0), ws.tail⟩ := by rw [Ytidkhekekfennaa.freeP, if_neg hs, hf]
      rw [e0] at hr hi ⊢
      cases ws with
      | nil => exact absurd rfl hr
      | cons y ws =>
        refine ⟨ws, rfl, rfl, ?_⟩
        refine has_mem (c := ⟨cs[k].t, y⟩) ?_ rfl hr hi.tok
        have hk2 : k < (setS cs k y).length := by rw [setS_len]; exact hk
        have := List.getElem_mem hk2
        rwa [get_setS hk2 hk, if_pos rfl] at this
  unfold Ytidkhekekfennaa.doP at hr hi ⊢
  by_cases h0 : d = 0
  · simp only [h0, if_true] at hr hi ⊢
    by_cases ht : n < 1 ∨ 65535 < n
    · rw [Ytidkhekekfennaa.openP, if_pos ht] at hr
      exact absurd rfl hr
    by_cases hf : hasT cs n = true
    · rw [Ytidkhekekfennaa.openP, if_neg ht, if_pos hf] at hr
      exact absurd rfl hr
    by_cases h8 : 8 ≤ cs.length
    · rw [Ytidkhekekfennaa.openP, if_neg ht, if_neg hf, if_pos h8] at hr
      exact absurd rfl hr
    have e0 : Ytidkhekekfennaa.openP cs ws n = ⟨ws.headD 0, 0, insL cs (lbT cs n) ⟨n, ws.headD 0⟩, ws.tail⟩ := by rw [Ytidkhekekfennaa.openP, if_neg ht, if_neg hf, if_neg h8]
    rw [e0] at hr hi ⊢
    cases ws with
    | nil => exact absurd rfl hr
    | cons y ws => exact ⟨ws, rfl, rfl, has_mem (c := ⟨n, y⟩) (mem_insL.2 (Or.inl rfl)) rfl hr hi.tok⟩
  · by_cases h1 : d = 1
    · simp only [h1] at hr
      exact absurd rfl hr
    · by_cases h2 : d = 2
      · simp only [h2] at hr
        exact absurd rfl hr
      · by_cases h3 : d = 3
        · simp only [h3] at hr ⊢
          exact free_ n hr
        · by_cases h4 : d = 4
          · simp only [h4] at hr ⊢
            change (Ytidkhekekfennaa.leaveP cs ws n).r ≠ 0 at hr
            show ∃ ws', ws = (Ytidkhekekfennaa.leaveP cs ws n).r :: ws' ∧ (Ytidkhekekfennaa.leaveP cs ws n).ws = ws' ∧ hasP (Ytidkhekekfennaa.leaveP cs ws n).cs (Ytidkhekekfennaa.leaveP cs ws n).r ≠ 0
            unfold Ytidkhekekfennaa.leaveP at hr ⊢
            split at hr
            · exact absurd rfl hr
            · exact free_ n hr
          · simp only [h0, h1, h2, h3, h4, if_false] at hr
            exact absurd rfl hr
end Go.Proofs.Ytidkhekekfennaa
