/- Walks over commands: the code's Decode. -/
import Derived.Test.YtnpodnieahokjaaDecS
import Derived.Test.YtnpodnieahokjaaCmdD
import Derived.Deep.RegionLaw
import Derived.Deep.RegionHeld3
namespace Go.Proofs.Ytnpodnieahokjaa
open Go.RowKit

structure RdAt (w : World) (gr : Nat) (S : Value) (k e : Int) : Prop where
  r0 : w.cell? ⟨gr, 0, none⟩ = some S
  r1 : w.cell? ⟨gr, 1, none⟩ = some (.int .i64 k)
  r2 : w.cell? ⟨gr, 2, none⟩ = some (.int .i64 e)
theorem Blk.rdAt {w : World} {gr : Nat} {T : TypeId} {A : Option Addr} {n c k : Nat} {e : Int} (h : Blk w gr T (rdCells A n c k e)) : RdAt w gr (.slice A n c) (k : Int) e := by
  constructor <;> (rw [h.cell]; rfl)
theorem decNodes_mem {lb : List Int} (hb : Byt lb) : ∀ (c k : Nat) (e : Int), k ≤ lb.length → (decNodes lb c k e).1.length = c ∧ (∀ z ∈ (decNodes lb c k e).1, 0 ≤ z ∧ z ≤ 65535) ∧ (decNodes lb c k e).2.1 ≤ lb.length := by
  intro c
  induction c with
  | zero => intro k e hk; exact ⟨rfl, (fun z hz => by cases hz), hk⟩
  | succ c ih =>
    intro k e hk
    obtain ⟨r1, r2, r3, r4⟩ := rnum_le hb hk e (most := 65535) (by decide)
    obtain ⟨i1, i2, i3⟩ := ih (rnum lb k e 65535).2.1 (rnum lb k e 65535).2.2 r3
    refine ⟨by simp [decNodes, i1], fun z hz => ?_, i3⟩
    simp only [decNodes, List.mem_cons] at hz
    rcases hz with rfl | hz
    · exact ⟨r1, r2⟩
    · exact i2 z hz
theorem results_cell3 {fn : Func} {t u v : Tmp} {ty : TypeId} (h : fn.results = #[.cell t ty, .tmp u, .tmp v]) {tmps : Array Value} {P : Program} {w : World} {a : Addr} {x : Value} (ha : tmps.getD t undef = .pointer (some a)) (hl : (loadVar ty a).run P w = .ok x w) :
    (results fn tmps).run P w = .ok (.tuple #[x, tmps.getD u undef, tmps.getD v undef]) w := by
  have ha2 : tmps[t]?.getD undef = .pointer (some a) := by simpa using ha
  have e : (asAddr (.pointer (some a))).run P w = .ok a w := rfl
  simp [results, h, ha2, e, hl]

set_option maxRecDepth 100000 in
set_option maxHeartbeats 8000000 in
theorem cmd_Decode_walk (w : World) (A : Option Addr) (c : Nat) (lb : List Int) (h : In8 w A c lb) :
    Calls Try.prog 16 #[.slice A lb.length c] w fun x w' => Below w.heap.size w w' ∧
      ((dE lb = 0 ∧ ∃ A' c', x = .returned (.tuple #[cmdV (dK lb).1 (dn lb).1 (dt lb).1 (.slice A' (dL lb).1.length c') (db lb).1 (dq lb).1 (ds lb).1 (dm lb).1, .int .i64 ((dm lb).2.1 : Int), .int .i64 0]) ∧ InN .i64 w' A' c' (dL lb).1) ∨
       (dE lb ≠ 0 ∧ x = .returned (.tuple #[cmdV 0 0 0 (.slice none 0 0) 0 0 0 0, .int .i64 0, .int .i64 (dE lb)]))) := by
  have HIN := Lib.hid h
  have hbyt := h.byt
  have hsm := h.small
  obtain ⟨g, hg⟩ : ∃ g, w.heap.size = g := ⟨_, rfl⟩
  rw [hg]
  have HLE := Lib.hid (fun (k : Nat) (hk : k ≤ lb.length) (e most : Int) (hm : 0 ≤ most) => rnum_le hbyt hk e hm)
  have HDN := Lib.hid (fun (cc k : Nat) (e : Int) (hk : k ≤ lb.length) => decNodes_mem hbyt cc k e hk)
  have hb0 : Blk (w.alloc (.cells (cmdCells 0 0 0 (.slice none 0 0) 0 0 0 0) 25)) g 25 (cmdCells 0 0 0 (.slice none 0 0) 0 0 0 0) := hg ▸ Blk.new _ _ _
  have hB0 : Below g w (w.alloc (.cells (cmdCells 0 0 0 (.slice none 0 0) 0 0 0 0) 25)) := (Below.refl _ _).alloc (by omega) _
  have hs1 : (w.alloc (.cells (cmdCells 0 0 0 (.slice none 0 0) 0 0 0 0) 25)).heap.size = g + 1 := by simp [hg]
  have hb1 := hb0.alloc (.cells (rdCells A lb.length c 0 0) 53)
  have hr1 : Blk ((w.alloc (.cells (cmdCells 0 0 0 (.slice none 0 0) 0 0 0 0) 25)).alloc (.cells (rdCells A lb.length c 0 0) 53)) (g + 1) 53 (rdCells A lb.length c 0 0) := hs1 ▸ Blk.new _ _ _
  have hB1 := hB0.alloc (by omega) (.cells (rdCells A lb.length c 0 0) 53)
  have hs2 : ((w.alloc (.cells (cmdCells 0 0 0 (.slice none 0 0) 0 0 0 0) 25)).alloc (.cells (rdCells A lb.length c 0 0) 53)).heap.size = g + 2 := by simp [hg]
  clear hb0 hB0 hs1 h hbyt
  go_enter Try.func16, Try.ntmps16
  go_upto_region 2 with (fail)
  change Code.wp _ _ _ _ ((w.alloc (.cells (cmdCells 0 0 0 (.slice none 0 0) 0 0 0 0) 25)).alloc (.cells (rdCells A lb.length c 0 0) 53))
  generalize ((w.alloc (.cells (cmdCells 0 0 0 (.slice none 0 0) 0 0 0 0) 25)).alloc (.cells (rdCells A lb.length c 0 0) 53)) = W0 at hb1 hr1 hB1 hs2 ⊢
  have N0 := num_walk W0 (g + 1) A c lb 0 0 6 (HIN.out.keep (by rw [hg]; exact hB1)) (by omega) hr1
  have hr0 := HLE.out 0 (by omega) 0 6 (by decide)
  obtain ⟨⟨kind, k0, e0⟩, hrk⟩ : ∃ r, rnum lb 0 0 6 = r := ⟨_, rfl⟩
  rw [hrk] at N0 hr0
  simp only at N0 hr0
  have HRK := Lib.hid hrk
  have N0 := Lib.hid N0
  clear hrk hr1
  have wk : IntKind.i64.wrap kind = kind := by simp [IntKind.wrap_i64]; omega
  have CO := Lib.hid (fun W => cmd_of_any W kind)
  go_wp2_with fail
  refine N0.out.mono ?_
  rintro x w1 ⟨rfl, hrd1, hgr1⟩
  have hne : ∀ i, i ≠ g + 1 → some i ≠ some (g + 1) := fun i hi hh => hi (by injection hh)
  have hb2 := hb1.grown hgr1 (hne _ (by omega))
  have hB2 : Below g w w1 := hB1.grown hgr1 (by omega) (fun i hi => by injection hi with hi; omega)
  have hs3 : g + 2 ≤ w1.heap.size := by have := hgr1.size; omega
  clear hb1 hB1 hs2 hgr1 hne N0
  obtain ⟨gc, hgc⟩ : ∃ gc, w1.heap.size = gc := ⟨_, rfl⟩
  have hc3 : Blk (w1.alloc (.cells (cmdCells kind 0 0 (.slice none 0 0) 0 0 0 0) 25)) gc 25 (cmdCells kind 0 0 (.slice none 0 0) 0 0 0 0) := hgc ▸ Blk.new _ _ _
  have hb3 := hb2.alloc (.cells (cmdCells kind 0 0 (.slice none 0 0) 0 0 0 0) 25)
  have hrd3 := hrd1.alloc (.cells (cmdCells kind 0 0 (.slice none 0 0) 0 0 0 0) 25)
  have hB3 := hB2.alloc (by omega) (.cells (cmdCells kind 0 0 (.slice none 0 0) 0 0 0 0) 25)
  clear hb2 hrd1 hB2
  go_upto_region 3 with (fail)
  change Code.wp _ _ _ _ (w1.alloc (.cells (cmdCells kind 0 0 (.slice none 0 0) 0 0 0 0) 25))
  generalize w1.alloc (.cells (cmdCells kind 0 0 (.slice none 0 0) 0 0 0 0) 25) = W3 at hc3 hb3 hrd3 hB3 ⊢
  obtain ⟨c0, c1, c2, c3, c4, c5, c6, c7⟩ := hc3.cmd
  go_wp2_with fail
  refine (CO.out _).mono ?_
  rintro x w4 ⟨rfl, hB4⟩
  clear c0 c1 c2 c3 c4 c5 c6 c7
  unfold which
  have hc4 := hc3.below hB4 hc3.lt
  have hb4 := hb3.below hB4 hb3.lt
  have hrd4 := hrd3.below hB4 hrd3.lt
  have hBw4 : Below g w w4 := hB3.trans (hB4.mono (Nat.le_of_lt hb3.lt))
  obtain ⟨gw, hgw⟩ : ∃ gw, w4.heap.size = gw := ⟨_, rfl⟩
  have hlt4 : gc < gw := hgw ▸ hc4.lt
  have hw5 : Blk (w4.alloc (.cells #[.bool (kN kind), .bool (kR kind), .bool (kT kind), .bool (kS kind), .bool (kI kind)] 40)) gw 40 _ := hgw ▸ Blk.new _ _ _
  have hb5 := hb4.alloc (.cells #[.bool (kN kind), .bool (kR kind), .bool (kT kind), .bool (kS kind), .bool (kI kind)] 40)
  have hc5 := hc4.alloc (.cells #[.bool (kN kind), .bool (kR kind), .bool (kT kind), .bool (kS kind), .bool (kI kind)] 40)
  have hrd5 := hrd4.alloc (.cells #[.bool (kN kind), .bool (kR kind), .bool (kT kind), .bool (kS kind), .bool (kI kind)] 40)
  have hB5 := hBw4.alloc (by omega) (.cells #[.bool (kN kind), .bool (kR kind), .bool (kT kind), .bool (kS kind), .bool (kI kind)] 40)
  clear hc3 hb3 hrd3 hB3 hB4 hc4 hb4 hrd4 hBw4
  go_upto_region 4 with (fail)
  generalize w4.alloc (.cells #[.bool (kN kind), .bool (kR kind), .bool (kT kind), .bool (kS kind), .bool (kI kind)] 40) = W at hw5 hb5 hc5 hrd5 hB5 ⊢
  obtain ⟨B, hBz⟩ : ∃ B, W.heap.size = B := ⟨_, rfl⟩
  obtain ⟨gr, hgr⟩ : ∃ gr, g + 1 = gr := ⟨_, rfl⟩
  rw [hgr] at hrd5 ⊢
  have ORD : Hid (Ord g gr gc gw B) := ⟨by omega, by omega, hlt4, hBz ▸ hw5.lt⟩
  have H0 : Hid (ST w g gr gc gw B A c lb W kind 0 0 (.slice none 0 0) [] 0 0 0 0 k0 e0) := ⟨hb5, hrd5, hc5, hw5, hB5, hr0.2.2.1, by omega, own_nil _ _ _ _⟩
  have hk0 := hr0.2.2.1
  clear hw5 hb5 hc5 hrd5 hB5 hBz hlt4 hgw hgc hgr hs3 hr0 wk CO
  obtain ⟨d0, d1, d2, d3, d4⟩ := H0.out.wh.which
  obtain ⟨r0, r1, r2⟩ := H0.out.rd.rdAt
  have fr := H0.out.rd.frozen 2
  obtain ⟨e1, he1⟩ : ∃ e1, (if e0 = 0 ∧ kI kind = false then 11 else e0) = e1 := ⟨_, rfl⟩
  have HE1 := Lib.hid he1
  have HDK : Hid (dK lb = (kind, k0, e1)) := by
    show _ = _
    unfold dK
    rw [HRK.out, ← he1]
  clear he1
  go_upto_region 4 with (fail)
  go_cut [27] (fun x wx => x = .bool (e0 == 0 && !(kI kind)) ∧ wx = W)
  case first =>
    cases hE : (e0 == 0)
    · go_wp2
      go_meet
      case rel => exact ⟨by rw [hE]; rfl, rfl⟩
    · cases hI : kI kind
      all_goals
        go_wp2
        go_meet
        case rel => exact ⟨by rw [hE, hI]; rfl, rfl⟩
  case rest =>
  obtain ⟨rfl, rfl⟩ := hcut
  go_upto_if 27 with (fail)
  go_cut [7] (fun x wx => x = .pointer (some ⟨gw, 0, none⟩) ∧ ST w g gr gc gw B A c lb wx kind 0 0 (.slice none 0 0) [] 0 0 0 0 k0 e1)
  case first =>
    cases hE : (e0 == 0 && !(kI kind))
    · have HV : Hid (e1 = e0) := by
        show _ = _
        rw [← HE1.out, if_neg]
        intro hh
        rw [hh.1, hh.2] at hE
        simp at hE
      go_wp2
      go_meet
      case rel => exact ⟨rfl, by rw [HV.out]; exact H0.out⟩
    · have HV : Hid (e1 = 11) := by
        show _ = _
        rw [Bool.and_eq_true] at hE
        rw [← HE1.out, if_pos ⟨by simpa using hE.1, by simpa using hE.2⟩]
      go_wp2
      go_meet
      case rel => exact ⟨rfl, by rw [HV.out]; exact H0.out.err ORD.out 11⟩
  case rest =>
    clear d0 d1 d2 d3 d4 r0 r1 r2 fr H0 HE1 HRK
    obtain ⟨rfl, h1⟩ := hcut
    have H1 := Lib.hid h1
    clear h1
    obtain ⟨⟨L, k2, e2⟩, hdl⟩ : ∃ r, dL lb = r := ⟨_, rfl⟩
    have HDL := Lib.hid hdl
    clear hdl
    obtain ⟨d0, d1, d2, d3, d4⟩ := H1.out.wh.which
    go_upto_if 32 with (fail)
    go_cut [7] (fun x wx => x = .pointer (some ⟨gw, 0, none⟩) ∧ ∃ sl, ST w g gr gc gw B A c lb wx kind 0 0 sl L 0 0 0 0 k2 e2)
    case first =>
      cases hN : kN kind
      · have hv : dL lb = ([], k0, e1) := by
          unfold dL
          rw [HDK.out]
          simp only
          rw [if_neg (by rw [hN]; simp)]
        have HV := Lib.hid ((HDL.out).symm.trans hv)
        clear hv
        go_wp2
        go_meet
        case rel =>
          have e := HV.out
          simp only [Prod.mk.injEq] at e
          obtain ⟨rfl, rfl, rfl⟩ := e
          exact ⟨rfl, _, H1.out⟩
      · have C5 := H1.out.num ORD.out hg HIN.out 7 (by decide)
        have hb5 := HLE.out k0 hk0 e1 7 (by decide)
        have hv : dL lb = decNodes lb (rnum lb k0 e1 7).1.toNat (rnum lb k0 e1 7).2.1 (rnum lb k0 e1 7).2.2 := by
          unfold dL
          rw [HDK.out]
          simp only
          rw [if_pos hN]
        obtain ⟨⟨cnt, k5, e5⟩, hr5⟩ : ∃ r, rnum lb k0 e1 7 = r := ⟨_, rfl⟩
        rw [hr5] at C5 hb5 hv
        simp only at C5 hb5 hv
        obtain ⟨cn, rfl⟩ := Int.eq_ofNat_of_zero_le hb5.1
        rw [Int.toNat_natCast, HDL.out] at hv
        have HV := Lib.hid hv
        have C5 := Lib.hid C5
        have hcn : cn ≤ 7 := by omega
        clear hv hr5 hb5
        go_wp2_with fail
        refine C5.out.mono ?_
        rintro x w5 ⟨rfl, h5⟩
        have H5 := Lib.hid h5
        clear h5 d0 d1 d2 d3 d4 C5
        go_wp2_with fail
        go_loopw [35] (fun i wr => ∃ (j : Nat) (sl : Value) (Lj : List Int) (kj : Nat) (ej : Int), i = .int .u64 (j : Int) ∧ j ≤ cn ∧ Lj.length = j ∧ ST w g gr gc gw B A c lb wr kind 0 0 sl Lj 0 0 0 0 kj ej ∧ (L, k2, e2) = (Lj ++ (decNodes lb (cn - j) kj ej).1, (decNodes lb (cn - j) kj ej).2)) (fun i _ => cn - (intOf i).toNat)
        case atStart => exact ⟨0, _, [], k5, e5, rfl, by omega, rfl, H5.out, by rw [HV.out]; simp⟩
        case round =>
          clear H5
          obtain ⟨j, sl, Lj, kj, ej, rfl, hj, hlj, hst, heq⟩ := hrel
          have HS := Lib.hid hst
          have HEQ := Lib.hid heq
          have HLJ := Lib.hid hlj
          clear hst heq hlj
          by_cases hlt : j < cn
          · have C7 := (HS.out.drew).num ORD.out hg HIN.out 65535 (by decide)
            have hb7 := HLE.out kj HS.out.le ej 65535 (by decide)
            have hd7 : decNodes lb (cn - j) kj ej = ((rnum lb kj ej 65535).1 :: (decNodes lb (cn - j - 1) (rnum lb kj ej 65535).2.1 (rnum lb kj ej 65535).2.2).1, (decNodes lb (cn - j - 1) (rnum lb kj ej 65535).2.1 (rnum lb kj ej 65535).2.2).2) := by
              obtain ⟨y, hy⟩ : ∃ y, cn - j = y + 1 := ⟨cn - j - 1, by omega⟩
              rw [hy]
              rfl
            obtain ⟨⟨v7, k7, e7⟩, hr7⟩ : ∃ r, rnum lb kj ej 65535 = r := ⟨_, rfl⟩
            rw [hr7] at C7 hb7 hd7
            simp only at C7 hb7 hd7
            have HD7 := Lib.hid hd7
            have C7 := Lib.hid C7
            have hv7 : 0 ≤ v7 ∧ v7 ≤ 65535 := by omega
            have wv : IntKind.i64.wrap v7 = v7 := by simp [IntKind.wrap_i64]; omega
            clear hr7 hb7 hd7
            obtain ⟨c0, c1, c2, c3, c4, c5, c6, c7⟩ := HS.out.cm.cmd
            clear c0 c1 c2 c4 c5 c6 c7
            go_wp2_with fail
            go_region_law (first
              | (refine step_litsI (W := w7) B rfl _ _ rfl _ Lj [v7] rfl rfl rfl H7.out.own H7.out.sz (by have := HLJ.out; simp; omega) ?_; intro v8 w8 ho8 hB8; have H8 := Lib.hid ho8; have HB8 := Lib.hid hB8; have o2 := ORD.out.h2; have o3 := ORD.out.h3; have o4 := ORD.out.h4; have b38 := H7.out.cm.below hB8 (by omega); have c38 := b38.cmd.c3; have f38 := b38.frozen 3; obtain ⟨A8, c8, rfl⟩ := own_slice ho8; clear b38 ho8 hB8 o2 o3 o4)
              | (go_simp; go_at_call 28; refine C7.out.mono ?_; rintro x w7 ⟨rfl, h7⟩; have H7 := Lib.hid h7; have c37 := h7.cm.cmd.c3; have hl7 := h7.cm.lt; have c39 : ∀ o, (w7.alloc o).cell? ⟨gc, 3, none⟩ = some sl := fun o => (World.cell?_alloc_lt w7 o ⟨gc, 3, none⟩ hl7).trans c37; clear h7))
            all_goals
              go_wp2
              go_roundw
              case rel => exact ⟨j + 1, _, Lj ++ [v7], k7, e7, by go_num, by omega, by have := HLJ.out; simp; omega, H7.out.app ORD.out HB8.out (by have := H8.out; rw [List.length_append] at this; exact this), by rw [HEQ.out, HD7.out, show cn - (j + 1) = cn - j - 1 by omega]; simp⟩
              case measure => simp [intOf]; omega
          · obtain rfl : j = cn := by omega
            have hfin := HEQ.out
            rw [Nat.sub_self] at hfin
            simp only [decNodes, List.append_nil, Prod.mk.injEq] at hfin
            obtain ⟨rfl, rfl, rfl⟩ := hfin
            go_wp2
            go_meet
            case rel => exact ⟨rfl, _, HS.out⟩
    case rest =>
      clear d0 d1 d2 d3 d4 H1
      obtain ⟨rfl, sl, h1⟩ := hcut
      have H2 := Lib.hid h1
      clear h1
      obtain ⟨⟨vn, kn, en⟩, hdn⟩ : ∃ r, dn lb = r := ⟨_, rfl⟩
      have hfn : (vn, kn, en) = fnum (kR kind) lb (k2, e2) 65535 := by
        rw [← hdn]
        unfold dn
        rw [HDK.out, HDL.out]
      have HDn := Lib.hid hdn
      have HFn := Lib.hid hfn
      clear hdn hfn
      obtain ⟨⟨vb, kb, eb⟩, hdb⟩ : ∃ r, db lb = r := ⟨_, rfl⟩
      have hfb : (vb, kb, eb) = fnum (kR kind) lb (kn, en) 18446744073709551615 := by
        rw [← hdb]
        unfold db
        rw [HDK.out, HDn.out]
      have HDb := Lib.hid hdb
      have HFb := Lib.hid hfb
      clear hdb hfb
      obtain ⟨⟨vq, kq, eq⟩, hdq⟩ : ∃ r, dq lb = r := ⟨_, rfl⟩
      have hfq : (vq, kq, eq) = fnum (kR kind) lb (kb, eb) 18446744073709551615 := by
        rw [← hdq]
        unfold dq
        rw [HDK.out, HDb.out]
      have HDq := Lib.hid hdq
      have HFq := Lib.hid hfq
      clear hdq hfq
      obtain ⟨d0, d1, d2, d3, d4⟩ := H2.out.wh.which
      go_upto_if 47 with (fail)
      go_cut [7] (fun x wx => x = .pointer (some ⟨gw, 0, none⟩) ∧ ST w g gr gc gw B A c lb wx kind vn 0 sl L vb vq 0 0 kq eq)
      case first =>
        cases hR : kR kind
        · skip
          have gn := HFn.out
          rw [hR] at gn
          simp only [fnum, if_neg (by simp : ¬ (false = true)), Prod.mk.injEq] at gn
          obtain ⟨rfl, rfl, rfl⟩ := gn
          have gb := HFb.out
          rw [hR] at gb
          simp only [fnum, if_neg (by simp : ¬ (false = true)), Prod.mk.injEq] at gb
          obtain ⟨rfl, rfl, rfl⟩ := gb
          have gq := HFq.out
          rw [hR] at gq
          simp only [fnum, if_neg (by simp : ¬ (false = true)), Prod.mk.injEq] at gq
          obtain ⟨rfl, rfl, rfl⟩ := gq
          go_wp2
          go_meet
          case rel => exact ⟨rfl, H2.out⟩
        · skip
          have gn := HFn.out
          rw [hR] at gn
          simp only [fnum, if_pos] at gn
          have Cn := (H2.out).num ORD.out hg HIN.out 65535 (by decide)
          have hbn := HLE.out k2 (H2.out).le e2 65535 (by decide)
          rw [← gn] at Cn hbn
          simp only at Cn hbn
          have wn : IntKind.i64.wrap vn = vn := by simp [IntKind.wrap_i64]; omega
          have Cn := Lib.hid Cn
          clear gn hbn
          go_wp2_with fail
          refine Cn.out.mono ?_
          rintro x w20 ⟨rfl, hn⟩
          have Hn := Lib.hid hn
          have ccn := hn.cm.cmd.c1
          have ffn := hn.cm.frozen 1
          clear hn
          clear d0 d1 d2 d3 d4
          have gb := HFb.out
          rw [hR] at gb
          simp only [fnum, if_pos] at gb
          have Cb := ((Hn.out.set1 ORD.out vn)).num ORD.out hg HIN.out 18446744073709551615 (by decide)
          have hbb := HLE.out kn ((Hn.out.set1 ORD.out vn)).le en 18446744073709551615 (by decide)
          rw [← gb] at Cb hbb
          simp only at Cb hbb
          have Cb := Lib.hid Cb
          clear gb hbb
          go_wp2_with fail
          refine Cb.out.mono ?_
          rintro x w21 ⟨rfl, hb⟩
          have Hb := Lib.hid hb
          have ccb := hb.cm.cmd.c4
          have ffb := hb.cm.frozen 4
          clear hb
          have gq := HFq.out
          rw [hR] at gq
          simp only [fnum, if_pos] at gq
          have Cq := ((Hb.out.set4 ORD.out vb)).num ORD.out hg HIN.out 18446744073709551615 (by decide)
          have hbq := HLE.out kb ((Hb.out.set4 ORD.out vb)).le eb 18446744073709551615 (by decide)
          rw [← gq] at Cq hbq
          simp only at Cq hbq
          have Cq := Lib.hid Cq
          clear gq hbq
          go_wp2_with fail
          refine Cq.out.mono ?_
          rintro x w22 ⟨rfl, hq⟩
          have Hq := Lib.hid hq
          have ccq := hq.cm.cmd.c5
          have ffq := hq.cm.frozen 5
          clear hq
          go_wp2
          go_meet
          case rel => exact ⟨rfl, (Hq.out.set5 ORD.out vq)⟩
      case rest =>
        clear d0 d1 d2 d3 d4 H2
        obtain ⟨rfl, h1⟩ := hcut
        have H3 := Lib.hid h1
        clear h1
        obtain ⟨⟨vt, kt, et⟩, hdt⟩ : ∃ r, dt lb = r := ⟨_, rfl⟩
        have hft : (vt, kt, et) = fnum (kT kind) lb (kq, eq) 65535 := by
          rw [← hdt]
          unfold dt
          rw [HDK.out, HDq.out]
        have HDt := Lib.hid hdt
        have HFt := Lib.hid hft
        clear hdt hft
        obtain ⟨⟨vs, ks, es⟩, hds⟩ : ∃ r, ds lb = r := ⟨_, rfl⟩
        have hfs : (vs, ks, es) = fnum (kT kind) lb (kt, et) 18446744073709551615 := by
          rw [← hds]
          unfold ds
          rw [HDK.out, HDt.out]
        have HDs := Lib.hid hds
        have HFs := Lib.hid hfs
        clear hds hfs
        obtain ⟨d0, d1, d2, d3, d4⟩ := H3.out.wh.which
        go_upto_if 59 with (fail)
        go_cut [7] (fun x wx => x = .pointer (some ⟨gw, 0, none⟩) ∧ ST w g gr gc gw B A c lb wx kind vn vt sl L vb vq vs 0 ks es)
        case first =>
          cases hR : kT kind
          · skip
            have gt := HFt.out
            rw [hR] at gt
            simp only [fnum, if_neg (by simp : ¬ (false = true)), Prod.mk.injEq] at gt
            obtain ⟨rfl, rfl, rfl⟩ := gt
            have gs := HFs.out
            rw [hR] at gs
            simp only [fnum, if_neg (by simp : ¬ (false = true)), Prod.mk.injEq] at gs
            obtain ⟨rfl, rfl, rfl⟩ := gs
            go_wp2
            go_meet
            case rel => exact ⟨rfl, H3.out⟩
          · skip
            have gt := HFt.out
            rw [hR] at gt
            simp only [fnum, if_pos] at gt
            have Ct := (H3.out).num ORD.out hg HIN.out 65535 (by decide)
            have hbt := HLE.out kq (H3.out).le eq 65535 (by decide)
            rw [← gt] at Ct hbt
            simp only at Ct hbt
            have wt : IntKind.i64.wrap vt = vt := by simp [IntKind.wrap_i64]; omega
            have Ct := Lib.hid Ct
            clear gt hbt
            go_wp2_with fail
            refine Ct.out.mono ?_
            rintro x w20 ⟨rfl, ht⟩
            have Ht := Lib.hid ht
            have cct := ht.cm.cmd.c2
            have fft := ht.cm.frozen 2
            clear ht
            clear d0 d1 d2 d3 d4
            have gs := HFs.out
            rw [hR] at gs
            simp only [fnum, if_pos] at gs
            have Cs := ((Ht.out.set2 ORD.out vt)).num ORD.out hg HIN.out 18446744073709551615 (by decide)
            have hbs := HLE.out kt ((Ht.out.set2 ORD.out vt)).le et 18446744073709551615 (by decide)
            rw [← gs] at Cs hbs
            simp only at Cs hbs
            have Cs := Lib.hid Cs
            clear gs hbs
            go_wp2_with fail
            refine Cs.out.mono ?_
            rintro x w21 ⟨rfl, hs⟩
            have Hs := Lib.hid hs
            have ccs := hs.cm.cmd.c6
            have ffs := hs.cm.frozen 6
            clear hs
            go_wp2
            go_meet
            case rel => exact ⟨rfl, (Hs.out.set6 ORD.out vs)⟩
        case rest =>
          clear d0 d1 d2 d3 d4 H3
          obtain ⟨rfl, h1⟩ := hcut
          have H4 := Lib.hid h1
          clear h1
          obtain ⟨⟨vm, km, em⟩, hdm⟩ : ∃ r, dm lb = r := ⟨_, rfl⟩
          have hfm : (vm, km, em) = fnum (kS kind) lb (ks, es) 18446744073709551615 := by
            rw [← hdm]
            unfold dm
            rw [HDK.out, HDs.out]
          have HDm := Lib.hid hdm
          have HFm := Lib.hid hfm
          clear hdm hfm
          obtain ⟨d0, d1, d2, d3, d4⟩ := H4.out.wh.which
          go_upto_if 68 with (fail)
          go_cut [7] (fun x wx => x = .pointer (some ⟨gw, 0, none⟩) ∧ ST w g gr gc gw B A c lb wx kind vn vt sl L vb vq vs vm km em)
          case first =>
            cases hR : kS kind
            · skip
              have gm := HFm.out
              rw [hR] at gm
              simp only [fnum, if_neg (by simp : ¬ (false = true)), Prod.mk.injEq] at gm
              obtain ⟨rfl, rfl, rfl⟩ := gm
              go_wp2
              go_meet
              case rel => exact ⟨rfl, H4.out⟩
            · skip
              have gm := HFm.out
              rw [hR] at gm
              simp only [fnum, if_pos] at gm
              have Cm := (H4.out).num ORD.out hg HIN.out 18446744073709551615 (by decide)
              have hbm := HLE.out ks (H4.out).le es 18446744073709551615 (by decide)
              rw [← gm] at Cm hbm
              simp only at Cm hbm
              have Cm := Lib.hid Cm
              clear gm hbm
              go_wp2_with fail
              refine Cm.out.mono ?_
              rintro x w20 ⟨rfl, hm⟩
              have Hm := Lib.hid hm
              have ccm := hm.cm.cmd.c7
              have ffm := hm.cm.frozen 7
              clear hm
              clear d0 d1 d2 d3 d4
              go_wp2
              go_meet
              case rel => exact ⟨rfl, (Hm.out.set7 ORD.out vm)⟩
          case rest =>
            clear d0 d1 d2 d3 d4 H4
            obtain ⟨rfl, h1⟩ := hcut
            have H5 := Lib.hid h1
            clear h1
            have hll : L.length ≤ 7 ∧ ∀ z ∈ L, 0 ≤ z ∧ z ≤ 65535 := by
              have e := HDL.out
              unfold dL at e
              rw [HDK.out] at e
              simp only at e
              split at e
              · have hb := HLE.out k0 hk0 e1 7 (by decide)
                obtain ⟨n1, n2, n3⟩ := HDN.out (rnum lb k0 e1 7).1.toNat (rnum lb k0 e1 7).2.1 (rnum lb k0 e1 7).2.2 hb.2.2.1
                rw [e] at n1 n2
                exact ⟨by simp only at n1; omega, n2⟩
              · simp only [Prod.mk.injEq] at e
                rw [← e.1]
                exact ⟨by simp, fun z hz => by cases hz⟩
            have hl7 := hll.1
            have HLZ := Lib.hid hll.2
            obtain ⟨A9, c9, rfl, hin9⟩ := InN.own (k := .i64) H5.out.own (fun z hz => wf_i64_of (by have := hll.2 z hz; omega) (by have := hll.2 z hz; omega)) (by omega)
            have HI9 := Lib.hid hin9
            clear hin9 hll
            obtain ⟨E, hEE⟩ : ∃ E, dE lb = E := ⟨_, rfl⟩
            have HDE : Hid (E = if em = 0 then errCmd (codeOk kind vn vt L vb vq vs vm) else em) := by
              show _ = _
              rw [← hEE]
              unfold dE
              rw [HDm.out, HDK.out, HDn.out, HDt.out, HDL.out, HDb.out, HDq.out, HDs.out]
            have HDEE := Lib.hid hEE
            clear hEE
            obtain ⟨r0, r1, r2⟩ := H5.out.rd.rdAt
            obtain ⟨c0, c1, c2, c3, c4, c5, c6, c7⟩ := H5.out.cm.cmd
            have CC := Lib.hid (cmd_Check_any _ kind vn vt A9 c9 L vb vq vs vm HI9.out)
            go_upto_if 76 with (fail)
            go_cut [7] (fun x wx => x = .pointer (some ⟨gw, 0, none⟩) ∧ ST w g gr gc gw B A c lb wx kind vn vt (.slice A9 L.length c9) L vb vq vs vm km E)
            case first =>
              cases hE0 : (em == 0)
              · have HV : Hid (E = em) := by
                  show _ = _
                  rw [HDE.out, if_neg]
                  intro hh
                  rw [hh] at hE0
                  simp at hE0
                go_wp2
                go_meet
                case rel => exact ⟨rfl, by rw [HV.out]; exact H5.out⟩
              · have HV : Hid (E = errCmd (codeOk kind vn vt L vb vq vs vm)) := by
                  show _ = _
                  rw [HDE.out, if_pos (by simpa using hE0)]
                go_wp2_with fail
                refine CC.out.mono ?_
                rintro x w30 ⟨rfl, hB30⟩
                have H30 := Lib.hid (H5.out.below ORD.out hB30)
                clear r0 r1 r2 c0 c1 c2 c3 c4 c5 c6 c7 hB30
                obtain ⟨r0, r1, r2⟩ := H30.out.rd.rdAt
                have fr := H30.out.rd.frozen 2
                go_wp2
                go_meet
                case rel => exact ⟨rfl, by rw [HV.out]; exact H30.out.err ORD.out _⟩
            case rest =>
              clear r0 r1 r2 c0 c1 c2 c3 c4 c5 c6 c7 H5 CC HDE HI9
              obtain ⟨rfl, h1⟩ := hcut
              have H6 := Lib.hid h1
              clear h1
              have hin6 := InN.own (k := .i64) H6.out.own (fun z hz => wf_i64_of (by have := HLZ.out z hz; omega) (by have := HLZ.out z hz; omega)) (by omega)
              have HI6 : Hid (InN .i64 wc A9 c9 L) := by
                obtain ⟨A8, c8, e8, h8⟩ := hin6
                injection e8 with e8a _ e8c
                subst e8a e8c
                exact h8
              have HFAR : Hid (∀ (W : World) (i : Nat) (u : Value), InN .i64 W A9 c9 L → InN .i64 (W.setCell ⟨g, i, none⟩ u) A9 c9 L) := fun W i u hW => InN.far (n := L.length) hW (fun bb hbb => by
                have h1 := (World.ownsRow.lt H6.out.own bb hbb).1
                have o1 := ORD.out.h1
                have o2 := ORD.out.h2
                have o3 := ORD.out.h3
                have o4 := ORD.out.h4
                show g ≠ bb
                omega) u
              have hset : ∀ (i : Nat) (W : World) (u : Value), Below g w W → Below g w (W.setCell ⟨g, i, none⟩ u) := fun i W u hW => hW.setCell (p := ⟨g, i, none⟩) (Nat.le_refl _) u
              have HSET := Lib.hid hset
              clear hset hin6
              obtain ⟨r0, r1, r2⟩ := H6.out.rd.rdAt
              obtain ⟨c0, c1, c2, c3, c4, c5, c6, c7⟩ := H6.out.cm.cmd
              obtain ⟨z0, z1, z2, z3, z4, z5, z6, z7⟩ := H6.out.res.cmd
              have y0 := H6.out.res.frozen 0
              have y1 := H6.out.res.frozen 1
              have y2 := H6.out.res.frozen 2
              have y3 := H6.out.res.frozen 3
              have y4 := H6.out.res.frozen 4
              have y5 := H6.out.res.frozen 5
              have y6 := H6.out.res.frozen 6
              have y7 := H6.out.res.frozen 7
              have o1 := ORD.out.h1
              have o2 := ORD.out.h2
              have hn1 : gr ≠ g := by omega
              have hn2 : gc ≠ g := by omega
              have hn3 : g ≠ gr := by omega
              have hn4 : g ≠ gc := by omega
              clear o1 o2
              cases hEE : (E != 0)
              · have E0 : E = 0 := by simpa using hEE
                subst E0
                go_wp2_with fail
                go_region_held3 (fun w' => w'.cell? ⟨gc, 0, none⟩ = some (.int .i64 kind) ∧ w'.cell? ⟨gc, 1, none⟩ = some (.int .i64 vn) ∧ w'.cell? ⟨gc, 2, none⟩ = some (.int .i64 vt) ∧ w'.cell? ⟨gc, 3, none⟩ = some (.slice A9 L.length c9) ∧ w'.cell? ⟨gc, 4, none⟩ = some (.int .u64 vb) ∧ w'.cell? ⟨gc, 5, none⟩ = some (.int .u64 vq) ∧ w'.cell? ⟨gc, 6, none⟩ = some (.int .u64 vs) ∧ w'.cell? ⟨gc, 7, none⟩ = some (.int .u64 vm) ∧ w'.cell? ⟨gr, 1, none⟩ = some (.int .i64 (km : Int))) (go_keep) (fail)
                all_goals go_wp2
                have hrF := (Blk.set8 H6.out.res (.int .i64 kind) (.int .i64 vn) (.int .i64 vt) (.slice A9 L.length c9) (.int .u64 vb) (.int .u64 vq) (.int .u64 vs) (.int .u64 vm)).drew
                refine bodyPost_ret (results_cell3 rfl rfl (run_loadVar_row _ _ _ _ _ (0, 0) _ hrF Try.underlying25 rfl info_Cmd)) rfl ?_
                refine ⟨(HSET.out _ _ _ (HSET.out _ _ _ (HSET.out _ _ _ (HSET.out _ _ _ (HSET.out _ _ _ (HSET.out _ _ _ (HSET.out _ _ _ (HSET.out _ _ _ (H6.out.bel))))))))).drew, .inl ⟨HDEE.out, A9, c9, ?_, ?_⟩⟩
                · rw [HDK.out, HDn.out, HDt.out, HDL.out, HDb.out, HDq.out, HDs.out, HDm.out]
                  rfl
                · rw [HDL.out]
                  exact (HFAR.out _ _ _ (HFAR.out _ _ _ (HFAR.out _ _ _ (HFAR.out _ _ _ (HFAR.out _ _ _ (HFAR.out _ _ _ (HFAR.out _ _ _ (HFAR.out _ _ _ (HI6.out))))))))).keep (Below.refl _ _).drew
              · go_wp2_with fail
                go_region_held3 (fun w' => w'.cell? ⟨gr, 2, none⟩ = some (.int .i64 E)) (go_keep) (fail)
                all_goals go_wp2
                have hrF := (Blk.set8 H6.out.res (.int .i64 0) (.int .i64 0) (.int .i64 0) (.slice none 0 0) (.int .u64 0) (.int .u64 0) (.int .u64 0) (.int .u64 0)).drew
                refine bodyPost_ret (results_cell3 rfl rfl (run_loadVar_row _ _ _ _ _ (0, 0) _ hrF Try.underlying25 rfl info_Cmd)) rfl ?_
                refine ⟨(HSET.out _ _ _ (HSET.out _ _ _ (HSET.out _ _ _ (HSET.out _ _ _ (HSET.out _ _ _ (HSET.out _ _ _ (HSET.out _ _ _ (HSET.out _ _ _ (H6.out.bel))))))))).drew, .inr ⟨?_, ?_⟩⟩
                · rw [HDEE.out]
                  simpa using hEE
                · rw [HDEE.out]
                  rfl
end Go.Proofs.Ytnpodnieahokjaa
