/- The document's pool: give. -/
import Derived.Test.YtidkhekekfennaaRpM
import Derived.Test.YtidkhekekfennaaOneH
namespace Go.Proofs.Ytidkhekekfennaa
set_option maxRecDepth 100000
set_option linter.unusedVariables false
open Go.RowKit

/-! ### Plain -/
def giveC (cs : List Cn) (t s : Int) : List Cn := cs.map (fun c => if c.t = t then ⟨c.t, s⟩ else c)
def giveK (cs : List Cn) (t s : Int) (k : Nat) : List Cn := giveC (cs.take k) t s ++ cs.drop k
theorem giveC_len (cs : List Cn) (t s : Int) : (giveC cs t s).length = cs.length := by simp [giveC]
theorem giveK_zero (cs : List Cn) (t s : Int) : giveK cs t s 0 = cs := by simp [giveK, giveC]
theorem giveK_all (cs : List Cn) (t s : Int) : giveK cs t s cs.length = giveC cs t s := by simp [giveK]
theorem giveK_len (cs : List Cn) (t s : Int) (k : Nat) : (giveK cs t s k).length = cs.length := by
  rw [giveK, List.length_append, giveC_len, ← List.length_append, List.take_append_drop]
theorem giveK_at {cs : List Cn} {t s : Int} {k : Nat} (hk : k < cs.length) (h : k < (giveK cs t s k).length := by rw [giveK_len]; assumption) : (giveK cs t s k)[k] = cs[k] := by
  have hl : (giveC (cs.take k) t s).length = k := by rw [giveC_len, List.length_take]; omega
  simp only [giveK]
  rw [List.getElem_append_right (by omega), List.getElem_drop]
  simp [hl]
theorem giveK_succ {cs : List Cn} {t s : Int} {k : Nat} (hk : k < cs.length) : giveK cs t s (k + 1) = giveC (cs.take k) t s ++ (if cs[k].t = t then (⟨cs[k].t, s⟩ : Cn) else cs[k]) :: cs.drop (k + 1) := by
  rw [giveK, List.take_succ_eq_append_getElem hk, giveC, List.map_append, List.append_assoc]
  rfl
theorem giveK_miss {cs : List Cn} {t s : Int} {k : Nat} (hk : k < cs.length) (h : cs[k].t ≠ t) : giveK cs t s k = giveK cs t s (k + 1) := by
  rw [giveK_succ hk, if_neg h, giveK, List.drop_eq_getElem_cons hk]
theorem modify_mid (f : Cn → Cn) : ∀ (P : List Cn) (c : Cn) (D : List Cn), (P ++ c :: D).modify P.length f = P ++ f c :: D
  | [], _, _ => rfl
  | p :: P, c, D => by
    show (p :: (P ++ c :: D)).modify (P.length + 1) f = p :: (P ++ f c :: D)
    rw [List.modify_succ_cons, modify_mid f P c D]
theorem giveK_hit {cs : List Cn} {t s : Int} {k : Nat} (hk : k < cs.length) (h : cs[k].t = t) : setS (giveK cs t s k) k s = giveK cs t s (k + 1) := by
  have hl : (giveC (cs.take k) t s).length = k := by rw [giveC_len, List.length_take]; omega
  rw [giveK_succ hk, if_pos h, giveK, List.drop_eq_getElem_cons hk, setS]
  have := modify_mid (fun c => ⟨c.t, s⟩) (giveC (cs.take k) t s) cs[k] (cs.drop (k + 1))
  rw [hl] at this
  exact this
/-! ### In memory -/
def niC (x : Int) : List Value := [.int .i64 x]
theorem nums_flat (l : List Int) : nums .i64 l = l.flatMap niC := by
  induction l with
  | nil => rfl
  | cons x l ih => rw [List.flatMap_cons, ← ih]; rfl
theorem niC_one (x : Int) : ∀ u ∈ niC x, u.oneCell' = true := by
  intro u hu
  simp only [niC, List.mem_cons, List.not_mem_nil, or_false] at hu
  subst hu
  rfl
theorem info_intF : (Try.prog.info? 3).map (fun i => (i.zero, i.size, i.bytes)) = some (some (.int .i64 0), 1, 8) := by kernel_rfl
theorem info_RConn : (Try.prog.info? 56).map (fun i => (i.zero, i.size, i.bytes)) = some (some (.agg #[.int .i64 0, .int .i64 0]), 2, 16) := by kernel_rfl
/-- append(v, x...) of rows, in a region that keeps its order. -/
theorem wpList_rowsH {α : Type} {f : α → List Value} {s bytes : Nat} {T E : TypeId} {z0 : Value} {W : World} (hT : Try.prog.underlying T = some (.slice E)) (hinfo : (Try.prog.info? E).map (fun i => (i.zero, i.size, i.bytes)) = some (some z0, s, bytes)) (hz : z0.cells.size = s) (hs0 : 0 < s) (hone : ∀ x, ∀ u ∈ f x, u.oneCell' = true)
    {ops : Array Oper} {rest : List Oper} {o : Oper} {a : Act} {Q : Exit → Act → World → Prop} (base : Nat) (hgd : o.guard = none) (sx x : Operand)
    (ho : o.op = .call { callee := .builtin .append, args := #[sx, x], argTypes := #[T, T] })
    (v : Value) (l l2 : List α) (n : Nat) (hn : l.length = n) (hs : a.eval sx = v) (A : Option Addr) (c m : Nat) (hm : l2.length = m) (hx : a.eval x = .slice A m c) (HO : W.ownsRow base E s v l.length (l.flatMap f)) (hr : Reads W W.heap.size s A l2.length (l2.flatMap f)) (hbase : base ≤ W.heap.size) (hl : (n + m) * bytes ≤ 140737488355328) (hb1 : 1 ≤ bytes)
    (h : ∀ v1 w1, w1.ownsRow base E s v1 (l ++ l2).length ((l ++ l2).flatMap f) → W.grownBy w1 v.ownBlock → (∀ b, v1.ownBlock = some b → v.ownBlock = some b ∨ W.heap.size ≤ b) → wpList Try.prog ops Q rest (a.put o.dst v1) w1) :
    wpList Try.prog ops Q (o :: rest) a W := by
  subst hn hm
  obtain ⟨i0, hi, hz0, hz1, hz2⟩ := info_parts hinfo
  have hlen : l.length + l2.length ≤ (l.length + l2.length) * bytes := Nat.le_mul_of_pos_right _ hb1
  refine wpList_append_any _ hgd sx x T ho base E i0 z0 s bytes hT hi hz0 hz1 hz2 hz hs0 v l.length (l.flatMap f) hs HO W.heap.size A l2.length c (l2.flatMap f) hx hr (fun u hu => by obtain ⟨y, _, hy⟩ := List.mem_flatMap.1 hu; exact hone y u hy) (by simp only [maxLen]; omega) hl hbase ?_
  intro v1 w1 ho1 hg hat
  refine h v1 w1 ?_ hg ?_
  · rw [List.length_append, List.flatMap_append]
    exact ho1
  · intro b hb
    rcases hat with hat | hat
    · exact .inl (hat ▸ hb)
    · rw [hat] at hb; injection hb with hb; exact .inr (by omega)
section
variable {w w1 : World} {base g : Nat} {v u : Value} {cs : List Cn} {ws : List Int}
theorem RpAt.ne (h : RpAt w base g v u cs ws) : v.ownBlock ≠ some g := own_blk_ne h.row h.blk (by decide)
theorem RpAt.neW (h : RpAt w base g v u cs ws) : u.ownBlock ≠ some g := own_blk_ne (show w.ownsRow base 3 1 u ws.length (nums .i64 ws) from h.lin) h.blk (by decide)
theorem RpAt.row1 (h : RpAt w base g v u cs ws) {k : Nat} (hk : k < cs.length) : ∃ gb cap, v = .slice (some ⟨gb, 0, none⟩) cs.length cap ∧ gb ≠ g ∧ gb < w.heap.size ∧ u.ownBlock ≠ some gb ∧ CnAt w gb (k * 2) cs[k] ∧ (∀ j, w.frozen? ⟨gb, j, none⟩ = false) := by
  obtain ⟨gb, cap, hv, _, hlt⟩ := h.row.form (by omega)
  have hne := h.ne
  rcases h.row.2 with ⟨_, h0⟩ | ⟨g', cap', cur, hv', _, hh, h1, h2, _⟩
  · omega
  · rw [hv] at hv'
    injection hv' with q1 q2 q3
    injection q1 with q1
    injection q1 with q1
    subst q1 q3
    obtain ⟨A, c, e, hin⟩ := h.ins
    rw [hv] at e
    injection e with e1 e2 e3
    obtain ⟨b, off, e', hb, hat⟩ := hin.cn (by omega)
    rw [e', Option.some.injEq] at e1
    injection e1 with e4 e5
    subst e4 e5
    have := hat k hk
    rw [Nat.zero_add] at this
    have hB : Blk w gb 56 cur := hh
    exact ⟨gb, cap, hv, fun e => hne (by rw [hv, e]; rfl), hlt, own_blk_ne (show w.ownsRow base 3 1 u ws.length (nums .i64 ws) from h.lin) hB (by decide), this, fun j => Blk.frozen hB j⟩
theorem RpAt.setS {gb cap : Nat} (h : RpAt w base g (.slice (some ⟨gb, 0, none⟩) cs.length cap) u cs ws) (k : Nat) (s : Int) :
    RpAt (w.setCell ⟨gb, k * 2 + 1, none⟩ (.int .i64 s)) base g (.slice (some ⟨gb, 0, none⟩) cs.length cap) u (setS cs k s) ws := by
  have hne : gb ≠ g := fun e => h.ne (by rw [e]; rfl)
  have hst := h.row.stored (k * 2 + 1) (.int .i64 s)
  have hnu : u.ownBlock ≠ some gb := by
    rcases h.row.2 with ⟨q, _⟩ | ⟨g', cap', cur, hv', _, hh, _⟩
    · cases q
    · injection hv' with q1
      injection q1 with q1
      injection q1 with q1
      subst q1
      have hB : Blk w gb 56 cur := hh
      exact own_blk_ne (show w.ownsRow base 3 1 u ws.length (nums .i64 ws) from h.lin) hB (by decide)
  have hT : Tr w (w.setCell ⟨gb, k * 2 + 1, none⟩ (.int .i64 s)) (fun j => j = gb) := (Tr.refl w (fun j => j = gb)).setCell (a := ⟨gb, k * 2 + 1, none⟩) (fun _ => rfl) _
  refine ⟨h.blk.far (p := ⟨gb, _, none⟩) hne.symm _, ?_, own_tr h.lin hT (fun b e q => hnu (q ▸ e)), h.gb, by rw [setS_len]; exact h.c8, h.w4, h.wr⟩
  have := hst.1
  rw [flat_set] at this
  rw [setS_len]
  exact this
end
/-- Behind a call of give. -/
def GPost (w : World) (base g : Nat) (v u : Value) (r : Int) (cs : List Cn) (ws : List Int) (e : Ending) (w' : World) : Prop :=
  ∃ v' u', e = .returned (.int .i64 r) ∧ RpAt w' base g v' u' cs ws ∧ Tr w w' (RB g v u) ∧ (∀ j, RB g v' u' j → RB g v u j ∨ w.heap.size ≤ j)
set_option maxHeartbeats 4000000 in
theorem give_none (w : World) (base g : Nat) (v u : Value) (cs : List Cn) (h : RpAt w base g v u cs []) (t : Int) :
    Calls Try.prog 33 #[.pointer (some ⟨g, 0, none⟩), .int .i64 t] w (GPost w base g v u 0 (giveC cs t 0) []) := by
  obtain ⟨V, hV⟩ : ∃ V, v = V := ⟨_, rfl⟩
  obtain ⟨U, hU⟩ : ∃ U, u = U := ⟨_, rfl⟩
  obtain ⟨WS, hWS⟩ : ∃ WS, ([] : List Int) = WS := ⟨_, rfl⟩
  obtain ⟨n, hn⟩ : ∃ n, cs.length = n := ⟨_, rfl⟩
  have hn8 : n ≤ 8 := hn ▸ h.c8
  have z0 := h.z0
  have z1 := h.z1
  obtain ⟨A, c, e1, -⟩ := h.ins
  obtain ⟨A2, c2, e2, -⟩ := h.inn
  rw [e1, hn] at z0
  rw [e2] at z1
  change w.cell? ⟨g, 1, none⟩ = some (.slice A2 0 c2) at z1
  obtain ⟨PS, hPS⟩ : ∃ PS, RB g v u = PS := ⟨_, rfl⟩
  have HPS : Hid (∀ b, V.ownBlock = some b → PS b) := Lib.hid (fun b hb => by rw [← hPS]; exact Or.inr (Or.inl (hV ▸ hb)))
  have HPS2 : Hid (∀ w1 : World, Tr w w1 PS → Tr w w1 (RB g v u)) := Lib.hid (fun w1 h => by rw [hPS]; exact h)
  have HFR : Hid (∀ j, RB g V U j → RB g v u j ∨ w.heap.size ≤ j) := Lib.hid (fun j hj => Or.inl (by rw [hV, hU]; exact hj))
  have HT : Hid (Tr w w PS) := Lib.hid (Tr.refl w _)
  have HP : Hid (RpAt w base g V U cs WS) := Lib.hid (hV ▸ hU ▸ hWS ▸ h)
  rw [hWS]
  have HN := Lib.hid hn
  unfold GPost
  clear hV hU hWS e1 e2 hPS h hn
  go_enter Try.func33, Try.ntmps33
  go_wp2
  clear z0 z1
  go_loopw [33] (fun s33 wr => ∃ k : Nat, s33 = .int .i64 k ∧ k ≤ n ∧ RpAt wr base g V U (giveK cs t 0 k) WS ∧ Tr w wr PS) (fun s33 _ => n - (intOf s33).toNat)
  case atStart => exact ⟨0, rfl, Nat.zero_le _, (giveK_zero cs t 0).symm ▸ HP.out, HT.out⟩
  case round =>
    clear HP HT
    obtain ⟨k, rfl, hk, hp, ht⟩ := hrel
    by_cases hkn : k < n
    · have hkl : k < cs.length := by rw [HN.out]; exact hkn
      have hkl2 : k < (giveK cs t 0 k).length := by rw [giveK_len]; exact hkl
      obtain ⟨gb, cap, hv, hne, hlt, hu, hcn, hfz⟩ := hp.row1 hkl2
      rw [giveK_at hkl] at hcn
      rw [giveK_len, HN.out] at hv
      have z0 := hp.z0
      rw [hv] at z0
      have HH1 : Hid (cs[k].t = t → setS (giveK cs t 0 k) k 0 = giveK cs t 0 (k + 1)) := Lib.hid (fun h => giveK_hit hkl h)
      have HH0 : Hid (cs[k].t ≠ t → giveK cs t 0 k = giveK cs t 0 (k + 1)) := Lib.hid (fun h => giveK_miss hkl h)
      obtain ⟨y, hy⟩ : ∃ y, cs[k] = y := ⟨_, rfl⟩
      rw [hy] at hcn HH1 HH0
      obtain ⟨p, hp'⟩ : ∃ p, y.t = p := ⟨_, rfl⟩
      obtain ⟨q, hq⟩ : ∃ q, y.s = q := ⟨_, rfl⟩
      obtain ⟨c0, c1⟩ := hcn
      rw [hp'] at c0 HH1 HH0
      rw [hq] at c1
      have HP := Lib.hid hp
      have HT := Lib.hid ht
      clear hy hp' hq hp ht hkl hkl2
      cases e1 : (p == t)
      · have HH0 := HH0.out (by simpa using e1)
        have HP := Lib.hid (HH0 ▸ HP.out)
        clear HH0 HH1 hfz hu
        go_wp2
        go_roundw
        case rel => exact ⟨k + 1, by go_num, by omega, HP.out, HT.out⟩
        case measure => simp [intOf]; omega
      · have HH1 := HH1.out (by simpa using e1)
        have hf := hfz (k * 2 + 1)
        have h2 := (hv ▸ HP.out : RpAt wr base g (.slice (some ⟨gb, 0, none⟩) n cap) U (giveK cs t 0 k) WS)
        have hn2 : n = (giveK cs t 0 k).length := by rw [giveK_len, HN.out]
        have h3 : RpAt (wr.setCell ⟨gb, k * 2 + 1, none⟩ (.int .i64 0)) base g V U (giveK cs t 0 (k + 1)) WS := by
          rw [hn2] at h2
          have := h2.setS k 0
          rw [HH1, ← hn2, ← hv] at this
          exact this
        have h4 : Tr w (wr.setCell ⟨gb, k * 2 + 1, none⟩ (.int .i64 0)) PS := HT.out.setCell (fun _ => HPS.out gb (by rw [hv]; rfl)) _
        have HP := Lib.hid h3
        have HT := Lib.hid h4
        clear HH0 HH1 hfz hu h2 h3 h4 hn2
        go_wp2
        go_roundw
        case rel => exact ⟨k + 1, by go_num, by omega, HP.out, HT.out⟩
        case measure => simp [intOf]; omega
    · obtain rfl : k = n := by omega
      have HK : Hid (giveK cs t 0 k = giveC cs t 0) := Lib.hid (HN.out ▸ giveK_all cs t 0)
      have HP := Lib.hid (HK.out ▸ hp)
      have HT := Lib.hid ht
      clear hp ht hkn
      go_wp2
      go_ret
      exact ⟨V, U, rfl, HP.out, HPS2.out _ HT.out, HFR.out⟩
set_option maxHeartbeats 8000000 in
theorem give_some (w : World) (base g : Nat) (v u : Value) (cs : List Cn) (R : Int) (WS : List Int) (h : RpAt w base g v u cs (R :: WS)) (hbase : base ≤ w.heap.size) (t : Int) :
    Calls Try.prog 33 #[.pointer (some ⟨g, 0, none⟩), .int .i64 t] w (GPost w base g v u R (giveC cs t R) WS) := by
  obtain ⟨V, hV⟩ : ∃ V, v = V := ⟨_, rfl⟩
  obtain ⟨n, hn⟩ : ∃ n, cs.length = n := ⟨_, rfl⟩
  obtain ⟨m, hm⟩ : ∃ m, (R :: WS).length = m := ⟨_, rfl⟩
  have hn8 : n ≤ 8 := hn ▸ h.c8
  have hm4 : m ≤ 4 := hm ▸ h.w4
  have hm1 : 1 ≤ m := by rw [← hm]; simp
  have z0 := h.z0
  have z1 := h.z1
  obtain ⟨A, c, e1, -⟩ := h.ins
  obtain ⟨A2, c2, e2, hin⟩ := h.inn
  have hc2 : m ≤ c2 := hm ▸ hin.cap
  obtain ⟨b7, o7, rfl, hat⟩ := hin.all (by simp)
  have z7 : w.cell? ⟨b7, o7, none⟩ = some (.int .i64 R) := by have := hat 0 (by simp); simpa using this
  rw [e1, hn] at z0
  rw [e2, hm] at z1
  have f1 := h.blk.frozen 1
  obtain ⟨PS, hPS⟩ : ∃ PS, RB g v u = PS := ⟨_, rfl⟩
  have HPS : Hid (∀ b, V.ownBlock = some b → PS b) := Lib.hid (fun b hb => by rw [← hPS]; exact Or.inr (Or.inl (hV ▸ hb)))
  have HPS2 : Hid (∀ w1 : World, Tr w w1 PS → Tr w w1 (RB g v u)) := Lib.hid (fun w1 h => by rw [hPS]; exact h)
  have HPG : Hid (PS g) := Lib.hid (by rw [← hPS]; exact Or.inl rfl)
  have HR1 : Hid (Reads w w.heap.size 1 (if c2 = 1 then some ⟨b7, o7, none⟩ else some ⟨b7, o7 + 1, none⟩) WS.length (WS.flatMap niC)) := by
    have h2 := hin.reads.cut (k := 1) (cap := c2) (by simp) hin.cap
    have e1 : (Option.map (fun x => x.add (1 * 1)) (some (⟨b7, o7, none⟩ : Addr))) = some ⟨b7, o7 + 1, none⟩ := by simp [add_plain]
    rw [e1] at h2
    have e2 : (R :: WS).length - 1 = WS.length := by simp
    rw [e2] at h2
    show Reads _ _ _ _ _ _
    rw [← nums_flat]
    simpa [nums] using h2
  have HWL : Hid (WS.length = m - 1) := Lib.hid (by rw [← hm]; simp)
  -- behind the store of the new list
  have HST : Hid (∀ v1 w1, w1.ownsRow base 3 1 v1 WS.length (WS.flatMap niC) → w.grownBy w1 none → (∀ b, v1.ownBlock = some b → none = some b ∨ w.heap.size ≤ b) →
      w1.frozen? ⟨g, 1, none⟩ = false ∧ w1.cell? ⟨g, 1, none⟩ = some (.slice (some ⟨b7, o7, none⟩) m c2) ∧ (w1.setCell ⟨g, 1, none⟩ v1).cell? ⟨g, 0, none⟩ = some (.slice A n c) ∧ RpAt (w1.setCell ⟨g, 1, none⟩ v1) base g V v1 cs WS ∧ Tr w (w1.setCell ⟨g, 1, none⟩ v1) PS ∧ (∀ j, RB g V v1 j → RB g v u j ∨ w.heap.size ≤ j)) := Lib.hid (fun v1 w1 ho hg hb => by
    have T1 : Tr w w1 (fun _ => False) := Tr.of_grown hg (fun k e _ => by cases e)
    have h1 := h.tr T1 (fun _ _ q => q)
    have hb1 := h1.blk
    have hne : v1.ownBlock ≠ some g := fun e => by
      rcases hb g e with q | q
      · cases q
      · have := h.lt; omega
    have T2 : Tr w1 (w1.setCell ⟨g, 1, none⟩ v1) (fun j => j = g) := (Tr.refl w1 (fun j => j = g)).setCell (a := ⟨g, 1, none⟩) (fun _ => rfl) v1
    have ho2 : OwnN .i64 3 (w1.setCell ⟨g, 1, none⟩ v1) base v1 WS := by
      have := own_tr ho T2 (fun b e q => hne (q ▸ e))
      rw [← nums_flat] at this
      exact this
    have hset : Blk (w1.setCell ⟨g, 1, none⟩ v1) g 42 #[v, v1] := hb1.set_ 1 v1
    refine ⟨hb1.frozen 1, by rw [h1.z1, e2, hm], by rw [hset.cell, e1, hn]; rfl, ?_, ?_, ?_⟩
    · rw [← hV]
      exact ⟨hset, own_tr h1.row T2 (fun b e q => h1.ne (q ▸ e)), ho2, h.gb, h.c8, by have := h.w4; simp at this; omega, fun x hx => h.wr x (List.mem_cons_of_mem _ hx)⟩
    · exact (T1.imp (fun _ _ q => q.elim)).trans ((Tr.refl w1 _).setCell (fun _ => HPG.out) _)
    · rintro j (rfl | e | e)
      · exact Or.inl (Or.inl rfl)
      · exact Or.inl (Or.inr (Or.inl (hV ▸ e)))
      · rcases hb j e with q | q
        · cases q
        · exact Or.inr q)
  have HN := Lib.hid hn
  have HBS := Lib.hid hbase
  unfold GPost
  have hm0 : decide ((m : Int) > 0) = true := decide_eq_true (by omega)
  have hm0' : decide ((m : Int) ≤ 0) = false := decide_eq_false (by omega)
  have hm0'' : decide (0 < m) = true := decide_eq_true (by omega)
  have hmi : (1 : Int) ≤ (m : Int) := by omega
  have hci : (1 : Int) ≤ (c2 : Int) := by omega
  clear hV e1 e2 hPS h hn hin hat hbase hm
  by_cases hc1 : c2 = 1
  · obtain rfl : m = 1 := by omega
    subst hc1
    have HWL : Hid (WS.length = 0) := Lib.hid HWL.out
    have HR1 : Hid (Reads w w.heap.size 1 (some ⟨b7, o7, none⟩) WS.length (WS.flatMap niC)) := Lib.hid HR1.out
    go_enter Try.func33, Try.ntmps33
    go_upto_region 5 with (at_builtin; refine wpList_rowsH (f := niC) (W := w) Try.underlying28 info_intF rfl (by omega) niC_one base rfl _ _ rfl (.slice none 0 0) [] WS 0 rfl rfl _ _ _ HWL.out rfl (own_nil _ _ _ _) HR1.out HBS.out (by omega) (by omega) ?_; intro v1 w1 ho1 hg1 hb1; rw [List.nil_append] at ho1; have HO1 := Lib.hid ho1; obtain ⟨f1, i1, z0, hp1, ht1, hfr⟩ := HST.out v1 w1 ho1 hg1 hb1; obtain ⟨A3, c3, rfl⟩ := own_slice ho1; have HP := Lib.hid hp1; have HT := Lib.hid ht1; have HFR := Lib.hid hfr; clear ho1 hg1 hb1 hp1 ht1 hfr)
    generalize (w1.setCell ⟨g, 1, none⟩ (.slice A3 WS.length c3)) = W5 at HP HT z0 ⊢
    generalize (Value.slice A3 WS.length c3) = U at HP HFR ⊢
    clear f1 i1 z7
    go_wp2
    clear z0
    go_loopw [33] (fun s33 wr => ∃ k : Nat, s33 = .int .i64 k ∧ k ≤ n ∧ RpAt wr base g V U (giveK cs t R k) WS ∧ Tr w wr PS) (fun s33 _ => n - (intOf s33).toNat)
    case atStart => exact ⟨0, rfl, Nat.zero_le _, (giveK_zero cs t R).symm ▸ HP.out, HT.out⟩
    case round =>
      clear HP HT
      obtain ⟨k, rfl, hk, hp, ht⟩ := hrel
      by_cases hkn : k < n
      · have hkl : k < cs.length := by rw [HN.out]; exact hkn
        have hkl2 : k < (giveK cs t R k).length := by rw [giveK_len]; exact hkl
        obtain ⟨gb, cap, hv, hne, hlt, hu, hcn, hfz⟩ := hp.row1 hkl2
        rw [giveK_at hkl] at hcn
        rw [giveK_len, HN.out] at hv
        have z0 := hp.z0
        rw [hv] at z0
        have HH1 : Hid (cs[k].t = t → setS (giveK cs t R k) k R = giveK cs t R (k + 1)) := Lib.hid (fun h => giveK_hit hkl h)
        have HH0 : Hid (cs[k].t ≠ t → giveK cs t R k = giveK cs t R (k + 1)) := Lib.hid (fun h => giveK_miss hkl h)
        obtain ⟨y, hy⟩ : ∃ y, cs[k] = y := ⟨_, rfl⟩
        rw [hy] at hcn HH1 HH0
        obtain ⟨p, hp'⟩ : ∃ p, y.t = p := ⟨_, rfl⟩
        obtain ⟨q, hq⟩ : ∃ q, y.s = q := ⟨_, rfl⟩
        obtain ⟨c0, c1⟩ := hcn
        rw [hp'] at c0 HH1 HH0
        rw [hq] at c1
        have HP := Lib.hid hp
        have HT := Lib.hid ht
        clear hy hp' hq hp ht hkl hkl2
        cases e1 : (p == t)
        · have HH0 := HH0.out (by simpa using e1)
          have HP := Lib.hid (HH0 ▸ HP.out)
          clear HH0 HH1 hfz hu
          go_wp2
          go_roundw
          case rel => exact ⟨k + 1, by go_num, by omega, HP.out, HT.out⟩
          case measure => simp [intOf]; omega
        · have HH1 := HH1.out (by simpa using e1)
          have hf := hfz (k * 2 + 1)
          have h2 := (hv ▸ HP.out : RpAt wr base g (.slice (some ⟨gb, 0, none⟩) n cap) U (giveK cs t R k) WS)
          have hn2 : n = (giveK cs t R k).length := by rw [giveK_len, HN.out]
          have h3 : RpAt (wr.setCell ⟨gb, k * 2 + 1, none⟩ (.int .i64 R)) base g V U (giveK cs t R (k + 1)) WS := by
            rw [hn2] at h2
            have := h2.setS k R
            rw [HH1, ← hn2, ← hv] at this
            exact this
          have h4 : Tr w (wr.setCell ⟨gb, k * 2 + 1, none⟩ (.int .i64 R)) PS := HT.out.setCell (fun _ => HPS.out gb (by rw [hv]; rfl)) _
          have HP := Lib.hid h3
          have HT := Lib.hid h4
          clear HH0 HH1 hfz hu h2 h3 h4 hn2
          go_wp2
          go_roundw
          case rel => exact ⟨k + 1, by go_num, by omega, HP.out, HT.out⟩
          case measure => simp [intOf]; omega
      · obtain rfl : k = n := by omega
        have HK : Hid (giveK cs t R k = giveC cs t R) := Lib.hid (HN.out ▸ giveK_all cs t R)
        have HP := Lib.hid (HK.out ▸ hp)
        have HT := Lib.hid ht
        clear hp ht hkn
        go_wp2
        go_ret
        exact ⟨V, U, rfl, HP.out, HPS2.out _ HT.out, HFR.out⟩
  · have HR1 : Hid (Reads w w.heap.size 1 (some ⟨b7, o7 + 1, none⟩) WS.length (WS.flatMap niC)) := Lib.hid (by have := HR1.out; rw [if_neg hc1] at this; exact this)
    go_enter Try.func33, Try.ntmps33
    go_upto_region 5 with (at_builtin; refine wpList_rowsH (f := niC) (W := w) Try.underlying28 info_intF rfl (by omega) niC_one base rfl _ _ rfl (.slice none 0 0) [] WS 0 rfl rfl _ _ _ HWL.out rfl (own_nil _ _ _ _) HR1.out HBS.out (by omega) (by omega) ?_; intro v1 w1 ho1 hg1 hb1; rw [List.nil_append] at ho1; have HO1 := Lib.hid ho1; obtain ⟨f1, i1, z0, hp1, ht1, hfr⟩ := HST.out v1 w1 ho1 hg1 hb1; obtain ⟨A3, c3, rfl⟩ := own_slice ho1; have HP := Lib.hid hp1; have HT := Lib.hid ht1; have HFR := Lib.hid hfr; clear ho1 hg1 hb1 hp1 ht1 hfr)
    generalize (w1.setCell ⟨g, 1, none⟩ (.slice A3 WS.length c3)) = W5 at HP HT z0 ⊢
    generalize (Value.slice A3 WS.length c3) = U at HP HFR ⊢
    clear f1 i1 z7
    go_wp2
    clear z0
    go_loopw [33] (fun s33 wr => ∃ k : Nat, s33 = .int .i64 k ∧ k ≤ n ∧ RpAt wr base g V U (giveK cs t R k) WS ∧ Tr w wr PS) (fun s33 _ => n - (intOf s33).toNat)
    case atStart => exact ⟨0, rfl, Nat.zero_le _, (giveK_zero cs t R).symm ▸ HP.out, HT.out⟩
    case round =>
      clear HP HT
      obtain ⟨k, rfl, hk, hp, ht⟩ := hrel
      by_cases hkn : k < n
      · have hkl : k < cs.length := by rw [HN.out]; exact hkn
        have hkl2 : k < (giveK cs t R k).length := by rw [giveK_len]; exact hkl
        obtain ⟨gb, cap, hv, hne, hlt, hu, hcn, hfz⟩ := hp.row1 hkl2
        rw [giveK_at hkl] at hcn
        rw [giveK_len, HN.out] at hv
        have z0 := hp.z0
        rw [hv] at z0
        have HH1 : Hid (cs[k].t = t → setS (giveK cs t R k) k R = giveK cs t R (k + 1)) := Lib.hid (fun h => giveK_hit hkl h)
        have HH0 : Hid (cs[k].t ≠ t → giveK cs t R k = giveK cs t R (k + 1)) := Lib.hid (fun h => giveK_miss hkl h)
        obtain ⟨y, hy⟩ : ∃ y, cs[k] = y := ⟨_, rfl⟩
        rw [hy] at hcn HH1 HH0
        obtain ⟨p, hp'⟩ : ∃ p, y.t = p := ⟨_, rfl⟩
        obtain ⟨q, hq⟩ : ∃ q, y.s = q := ⟨_, rfl⟩
        obtain ⟨c0, c1⟩ := hcn
        rw [hp'] at c0 HH1 HH0
        rw [hq] at c1
        have HP := Lib.hid hp
        have HT := Lib.hid ht
        clear hy hp' hq hp ht hkl hkl2
        cases e1 : (p == t)
        · have HH0 := HH0.out (by simpa using e1)
          have HP := Lib.hid (HH0 ▸ HP.out)
          clear HH0 HH1 hfz hu
          go_wp2
          go_roundw
          case rel => exact ⟨k + 1, by go_num, by omega, HP.out, HT.out⟩
          case measure => simp [intOf]; omega
        · have HH1 := HH1.out (by simpa using e1)
          have hf := hfz (k * 2 + 1)
          have h2 := (hv ▸ HP.out : RpAt wr base g (.slice (some ⟨gb, 0, none⟩) n cap) U (giveK cs t R k) WS)
          have hn2 : n = (giveK cs t R k).length := by rw [giveK_len, HN.out]
          have h3 : RpAt (wr.setCell ⟨gb, k * 2 + 1, none⟩ (.int .i64 R)) base g V U (giveK cs t R (k + 1)) WS := by
            rw [hn2] at h2
            have := h2.setS k R
            rw [HH1, ← hn2, ← hv] at this
            exact this
          have h4 : Tr w (wr.setCell ⟨gb, k * 2 + 1, none⟩ (.int .i64 R)) PS := HT.out.setCell (fun _ => HPS.out gb (by rw [hv]; rfl)) _
          have HP := Lib.hid h3
          have HT := Lib.hid h4
          clear HH0 HH1 hfz hu h2 h3 h4 hn2
          go_wp2
          go_roundw
          case rel => exact ⟨k + 1, by go_num, by omega, HP.out, HT.out⟩
          case measure => simp [intOf]; omega
      · obtain rfl : k = n := by omega
        have HK : Hid (giveK cs t R k = giveC cs t R) := Lib.hid (HN.out ▸ giveK_all cs t R)
        have HP := Lib.hid (HK.out ▸ hp)
        have HT := Lib.hid ht
        clear hp ht hkn
        go_wp2
        go_ret
        exact ⟨V, U, rfl, HP.out, HPS2.out _ HT.out, HFR.out⟩
end Go.Proofs.Ytidkhekekfennaa
