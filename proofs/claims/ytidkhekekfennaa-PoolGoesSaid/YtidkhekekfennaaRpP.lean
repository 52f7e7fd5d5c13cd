/- The document's pool and the code's: plain. -/
import Derived.Test.YtidkhekekfennaaRpO
import Derived.Test.YtidkhekekfennaaRpW
import Derived.Test.YtidkhekekfennaaPlP
namespace Go.Proofs.Ytidkhekekfennaa
set_option maxRecDepth 100000
set_option linter.unusedVariables false
open Go.RowKit

theorem ropen_any (w : World) (base g : Nat) (v u : Value) (cs : List Cn) (ws : List Int) (h : RpAt w base g v u cs ws) (hbase : base ≤ w.heap.size) (t : Int) :
    Calls Try.prog 14 #[.pointer (some ⟨g, 0, none⟩), .int .i64 t] w (RPost w base g v u (ropenP cs ws t)) := by
  by_cases hs : t < 1 ∨ 65535 < t
  · rw [ropenP, if_pos hs]
    exact ropen_bad w base g v u cs ws h t hs
  · exact ropen_ok w base g v u cs ws h hbase t (by omega) (by omega)
theorem fdT_srt {cs : List Cn} (h : Srt cs) (t : Int) : fdT cs t = if hasT cs t = true then some (lbT cs t) else none := by
  cases hf : fdT cs t with
  | some k =>
    obtain ⟨hk, h1, _⟩ := fdT_some hf
    have hlb : lbT cs t = k := lb_at cs t k (Nat.le_of_lt hk) (fun j hj hjk => by rw [← h1]; exact h.lt hj hk hjk) (fun _ => by omega)
    have hh : hasT cs t = true := by
      unfold hasT
      rw [hlb, List.getElem?_eq_getElem hk]
      simpa using h1
    rw [if_pos hh, hlb]
  | none =>
    by_cases hh : hasT cs t = true
    · exfalso
      have hl := has_lt hh
      unfold hasT at hh
      rw [List.getElem?_eq_getElem hl] at hh
      have h2 := List.findIdx?_eq_none_iff.1 hf _ (List.getElem_mem hl)
      simp at hh h2
      exact h2 hh
    · rw [if_neg hh]
theorem close_same {cs : List Cn} {ws : List Int} (h : Srt cs) (t : Int) : rcloseP cs ws t = closeP cs ws t := by
  unfold rcloseP closeP
  rw [fdT_srt h]
  by_cases hh : hasT cs t = true
  · rw [if_pos hh, if_pos hh]
    rfl
  · rw [if_neg hh, if_neg hh]
theorem giveC_id {cs : List Cn} {t r : Int} (h : ∀ c ∈ cs, c.t ≠ t) : giveC cs t r = cs := by
  unfold giveC
  induction cs with
  | nil => rfl
  | cons c cs ih =>
    rw [List.map_cons, if_neg (h c (List.mem_cons_self ..)), ih (fun x hx => h x (List.mem_cons_of_mem _ hx))]
theorem open_same {cs : List Cn} {ws : List Int} (h : Srt cs) (t : Int) : ropenP cs ws t = openP cs ws t := by
  unfold ropenP openP
  rw [fdT_srt h]
  by_cases hb : t < 1 ∨ 65535 < t
  · rw [if_pos hb, if_pos hb]
  · rw [if_neg hb, if_neg hb]
    by_cases hh : hasT cs t = true
    · rw [if_pos hh, if_pos hh]
      rfl
    · have hno : ∀ c ∈ cs, c.t ≠ t := by
        have hf := fdT_srt h t
        rw [if_neg hh] at hf
        intro c hc
        have := List.findIdx?_eq_none_iff.1 hf c hc
        simpa using this
      rw [if_neg hh, if_neg hh]
      have e : giveC (insL cs (lbT cs t) ⟨t, 0⟩) t (ws.headD 0) = insL cs (lbT cs t) ⟨t, ws.headD 0⟩ := by
        unfold insL
        have e1 := giveC_id (cs := cs.take (lbT cs t)) (t := t) (r := ws.headD 0) (fun c hc => hno c (List.mem_of_mem_take hc))
        have e2 := giveC_id (cs := cs.drop (lbT cs t)) (t := t) (r := ws.headD 0) (fun c hc => hno c (List.mem_of_mem_drop hc))
        unfold giveC at e1 e2 ⊢
        rw [List.map_append, List.map_cons, e1, e2, if_pos rfl]
      rw [e, if_neg (by simp)]
theorem give_set {cs : List Cn} (h : Srt cs) {k : Nat} (hk : k < cs.length) (r : Int) : giveC cs cs[k].t r = setS cs k r := by
  apply List.ext_getElem
  · rw [giveC_len, setS_len]
  · intro j h1 h2
    have hj : j < cs.length := by rwa [giveC_len] at h1
    simp only [giveC, setS, List.getElem_map, List.getElem_modify]
    rcases Nat.lt_trichotomy j k with q | q | q
    · have := h.lt hj hk q
      rw [if_neg (by omega), if_neg (by omega)]
    · subst q
      rw [if_pos rfl, if_pos rfl]
    · have := h.lt hk hj q
      rw [if_neg (by omega), if_neg (by omega)]
section
variable {cs : List Cn} {ws : List Int}
theorem hasP_some (h : Inv cs ws) {s : Int} {k : Nat} (hs : s ≠ 0) (hf : fdS cs s = some k) : ∃ hk : k < cs.length, hasP cs s = cs[k].t ∧ cs[k].t ≠ 0 := by
  obtain ⟨hk, _, _⟩ := fd_some hf
  refine ⟨hk, ?_, ?_⟩
  · unfold hasP
    rw [if_neg hs, hf]
    exact fd_at hk
  · have := h.tok _ (List.getElem_mem hk)
    omega
theorem free_same (h : Inv cs ws) (s : Int) : rfreeP cs ws s = freeP cs ws s := by
  unfold rfreeP freeP
  by_cases hs : s = 0
  · rw [if_pos hs, if_pos (by unfold hasP; rw [if_pos hs])]
  · rw [if_neg hs]
    cases hf : fdS cs s with
    | none =>
      rw [if_pos (by unfold hasP; rw [if_neg hs, hf])]
    | some k =>
      obtain ⟨hk, h1, h2⟩ := hasP_some h hs hf
      rw [h1, if_neg h2, give_set h.srt hk]
theorem filter_id : ∀ (ws : List Int) (s : Int), (∀ x ∈ ws, x ≠ s) → ws.filter (fun x => x != s) = ws
  | [], _, _ => rfl
  | x :: ws, s, h => by
    rw [List.filter_cons, if_pos (by simpa using h x (List.mem_cons_self ..)), filter_id ws s (fun y hy => h y (List.mem_cons_of_mem _ hy))]
theorem filter_erase : ∀ (ws : List Int) (s : Int) (i : Nat), ws.Pairwise (· ≠ ·) → ws.findIdx? (fun x => x == s) = some i → ws.filter (fun x => x != s) = ws.eraseIdx i
  | [], s, i, _, h => by simp at h
  | x :: ws, s, i, hn, h => by
    rw [List.findIdx?_cons] at h
    by_cases hx : (x == s) = true
    · rw [if_pos hx] at h
      injection h with h
      subst h
      have e : x = s := by simpa using hx
      rw [List.filter_cons, if_neg (by simp [e]), filter_id ws s (fun y hy => by
        have := (List.pairwise_cons.1 hn).1 y hy
        rw [← e]; exact fun q => this q.symm)]
      rfl
    · rw [if_neg hx] at h
      cases hf : ws.findIdx? (fun x => x == s) with
      | none => rw [hf] at h; cases h
      | some j =>
        rw [hf] at h
        injection h with h
        subst h
        have e : x ≠ s := by simpa using hx
        rw [List.filter_cons, if_pos (by simpa using e), filter_erase ws s j (List.pairwise_cons.1 hn).2 hf]
        rfl
theorem leave_same (h : Inv cs ws) (s : Int) : rleaveP cs ws s = leaveP cs ws s := by
  unfold rleaveP leaveP inW
  cases hf : ws.findIdx? (fun x => x == s) with
  | none =>
    rw [if_neg (by simp)]
    exact free_same h s
  | some i =>
    rw [if_pos (by simp), filter_erase ws s i h.nod hf]
theorem want_same (h : Inv cs ws) (h4 : ws.length ≤ 4) (s : Int) : rwantP cs ws s = wantP cs ws s := by
  unfold rwantP wantP
  by_cases hb : s < 1 ∨ 6 < s
  · rw [if_pos hb, if_pos hb]
  · rw [if_neg hb, if_neg hb]
    have hiff : (hasP cs s ≠ 0 ∨ inW ws s = true) ↔ busyB cs ws s = true := by
      unfold busyB
      rw [Bool.or_eq_true]
      constructor
      · rintro (q | q)
        · refine Or.inl ?_
          cases hf : fdS cs s with
          | none => exact absurd (by unfold hasP; rw [if_neg (by omega), hf]) q
          | some k => rfl
        · exact Or.inr q
      · rintro (q | q)
        · refine Or.inl ?_
          cases hf : fdS cs s with
          | none => rw [hf] at q; cases q
          | some k =>
            obtain ⟨hk, h1, h2⟩ := hasP_some h (by omega) hf
            rw [h1]; exact h2
        · exact Or.inr q
    by_cases hq : busyB cs ws s = true
    · rw [if_pos hq, if_pos (hiff.2 hq)]
    · rw [if_neg hq, if_neg (fun e => hq (hiff.1 e))]
      cases hf : fdS cs 0 with
      | some k => rfl
      | none =>
        show (if 4 ≤ ws.length then _ else _) = (if ws.length = 4 then _ else _)
        by_cases h5 : ws.length = 4
        · rw [if_pos h5, if_pos (by omega)]
        · rw [if_neg h5, if_neg (by omega)]
end
end Go.Proofs.Ytidkhekekfennaa
