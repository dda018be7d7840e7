/-
  The document's engine: goOn.
  (*Engine).Start: a new instance.
  EngineEnds, plain: what is kept of an instance, its pending effects and what was sent and undone.
-/
import Derived.Test.YtoemmakhbiiknaaGreatQe12
import Derived.Laws.OwnMore
namespace Go.Proofs.YtoemmakhbiiknaaGreat
open Go.RowKit Go.WideShapes Go.ChangeShapes Go.ChangeAt Go.Deep
set_option linter.unusedVariables false

/-- The program's plan beside the document's. -/
structure SameP (Ls : List Stp) (Bs : List IRow) (Lr : List Stp) : Prop where
  len : Lr.length = Ls.length
  rows : RowsOk Ls Bs
  row : ∀ (q : Nat) (s : Stp), Lr[q]? = some s → rowAt Bs (q : Int) = pickL (fun t => waitB s t) Lr Lr.length
  st : ∀ (q : Nat) (t : Stp), Ls[q]? = some t → ∃ A c, Lr[q]? = some (twn t A c)
theorem bfOk_dall (Bs : List IRow) (v : Iv) (q : Nat) : bfOk Bs v q = dallB v.ms (rowAt Bs (q : Int)) 3 3 := by
  unfold bfOk dallB
  rw [List.not_any_eq_all_not]
  congr 1
  funext x
  simp
/-- The marks are marks. -/
def MkOk (ms : List Int) : Prop := ∀ m ∈ ms, 0 ≤ m ∧ m ≤ 5
theorem MkOk.set {ms : List Int} (h : MkOk ms) (k : Nat) {m : Int} (hm : 0 ≤ m ∧ m ≤ 5) : MkOk (ms.set k m) := fun x hx => by
  rcases List.mem_or_eq_of_mem_set hx with h1 | h1
  · exact h x h1
  · rw [h1]; exact hm
theorem bgV_mk {v : Iv} (h : MkOk v.ms) (s : Nat) (t : Stp) : MkOk (bgV v s t).ms := by
  unfold bgV
  split
  · exact h.set s (by omega)
  · split
    · exact h.set s (by omega)
    · exact h.set s (by omega)
theorem goS_mk {v : Iv} (Ls : List Stp) (Bs : List IRow) (h : MkOk v.ms) (s : Nat) : MkOk (goS Ls Bs v s).ms := by
  unfold goS
  split
  · cases Ls[s]? with
    | none => exact h
    | some t => exact bgV_mk h s t
  · exact h
theorem goN_mk {v : Iv} (Ls : List Stp) (Bs : List IRow) (h : MkOk v.ms) : ∀ k, MkOk (goN Ls Bs v k).ms
  | 0 => h
  | k + 1 => goS_mk Ls Bs (goN_mk Ls Bs h k) k
theorem done_all {ms : List Int} (h : MkOk ms) : (anyMk [0, 1, 2, 4, 5] ms = true ↔ ms.countP (fun x => x == 3) ≠ ms.length) := by
  have h1 := @List.countP_eq_length Int ms (fun x => x == 3)
  rw [ne_eq, h1]
  unfold anyMk
  rw [List.any_eq_true]
  constructor
  · rintro ⟨m, hm, hy⟩ hall
    have := hall m hm
    simp only [beq_iff_eq] at this
    subst this
    simp at hy
  · intro hn
    apply Classical.byContradiction
    intro hc
    refine hn fun m hm => ?_
    have hr := h m hm
    have : m = 3 := by
      apply Classical.byContradiction
      intro h3
      refine hc ⟨m, hm, ?_⟩
      have : m = 0 ∨ m = 1 ∨ m = 2 ∨ m = 4 ∨ m = 5 := by omega
      rcases this with rfl | rfl | rfl | rfl | rfl <;> rfl
    simp [this]
section
variable {n0 R J RP bG base2 sc : Nat} {X : Nat → Prop} {vL : Value} {v : Iv} {l : Il} {w w' : World} {nm : ByteArray} {SA : Option Addr} {Ls Lr : List Stp} {Bs : List IRow}
/-- The instance between the rounds. -/
structure DgS (w0 : World) (n0 : Nat) (X : Nat → Prop) (R J RP bG base2 : Nat) (nm : ByteArray) (SA : Option Addr) (sc : Nat) (Lr : List Stp) (vL : Value) (v : Iv) (l : Il) (w : World) : Prop where
  d : IsD n0 X R J RP vL v l w
  p : RpK X R bG base2 RP nm SA sc Lr w
  t : Touch (DU X R) w0 w
theorem DgS.next {w0 : World} (h : DgS w0 n0 X R J RP bG base2 nm SA sc Lr vL v l w) (hb : Below w.heap.size w w') : DgS w0 n0 X R J RP bG base2 nm SA sc Lr vL v l w' := ⟨h.d.next hb, h.p.next hb, h.t.then (Touch.of_below hb)⟩
theorem DgS.upd {w0 : World} {v1 : Iv} {l1 : Il} (h : DgS w0 n0 X R J RP bG base2 nm SA sc Lr vL v l w) (hd : IsD n0 X R J RP vL v1 l1 w') (hT : Touch (DU X R) w w') : DgS w0 n0 X R J RP bG base2 nm SA sc Lr vL v1 l1 w' := ⟨hd, h.p.touch hT, h.t.then hT⟩
set_option maxRecDepth 100000 in
set_option maxHeartbeats 16000000 in
theorem dgoOn_any (h : IsD n0 X R J RP vL v l w) (hp : RpK X R bG base2 RP nm SA sc Lr w) (hs : SameP Ls Bs Lr) (hmn : v.ms.length = Ls.length) (hrg : MkOk v.ms) (ho : v.out.length ≤ 900000) :
    Calls Tryz.prog 57 #[.pointer (some ⟨R, 0, none⟩), .pointer (some ⟨J, 0, none⟩)] w fun e w' => e = .returned (.tuple #[]) ∧ ∃ l', DgS w n0 X R J RP bG base2 nm SA sc Lr vL (goV Ls Bs v) l' w' := by
  have HI := hid (DgS.mk (w0 := w) h hp (Touch.refl _ _))
  have HS := hid hs
  have HMN := hid hmn
  have hn := h.n
  have HRG := hid hrg
  clear h hp hs hmn hrg
  go_enter Tryz.func57, Tryz.ntmps57
  go_wp2_with fail
  go_loopw [4] (fun i wr => ∃ (k : Nat) (l1 : Il), k ≤ v.ms.length ∧ i = .int .i64 k ∧ Hid (DgS w n0 X R J RP bG base2 nm SA sc Lr vL (goN Ls Bs v k) l1 wr)) (fun i _ => v.ms.length - nOf i)
  case atStart => exact ⟨0, l, Nat.zero_le _, rfl, HI⟩
  case round =>
    obtain ⟨k, l1, hk, rfl, HJ⟩ := hrel
    have i3 : wr.cell? ⟨J, 3, none⟩ = some (.slice l1.MA v.ms.length l1.mc) := by have := HJ.out.d.b.cell 3; simpa [inD, goN_ms] using this
    have lJ := HJ.out.d.b.lt
    by_cases hlt : k < v.ms.length
    · have hku : k < (goN Ls Bs v k).ms.length := by rw [goN_ms]; exact hlt
      have HKU := hid hku
      have hLs : k < Ls.length := by have := HMN.out; omega
      obtain ⟨t, ht⟩ : ∃ t, Ls[k]? = some t := ⟨_, List.getElem?_eq_getElem hLs⟩
      obtain ⟨tA, tc, htr⟩ := HS.out.st k t ht
      have hml : (goN Ls Bs v k).ms.length = Lr.length := by rw [goN_ms, HMN.out, HS.out.len]
      have KA := hid (dall_any HJ.out.d HJ.out.p.r hml htr 3 3)
      rw [← HS.out.row k _ htr, ← bfOk_dall] at KA
      have HT := hid ht
      have HTR := hid htr
      have HOL := hid (goN_out Ls Bs v k)
      have HST := hid (show goN Ls Bs v (k + 1) = goS Ls Bs (goN Ls Bs v k) k from rfl)
      obtain ⟨m, hm⟩ : ∃ m, (goN Ls Bs v k).ms[k]? = some m := ⟨_, List.getElem?_eq_getElem hku⟩
      have HMK := hid (show mkA (goN Ls Bs v k).ms k = m from by simp [mkA, List.getD, hm])
      have HM := hid hm
      have HVL := hid (show (goN Ls Bs v k).ms.length = v.ms.length from goN_ms Ls Bs v k)
      generalize hgv : goN Ls Bs v k = u at *
      clear hgv ht htr hml hm hku
      obtain ⟨bo, hbo⟩ : ∃ bo, bfOk Bs u k = bo := ⟨_, rfl⟩
      rw [hbo] at KA
      have HBO := hid hbo
      clear hbo
      go_wp2_with fail
      refine KA.out.mono ?_
      rintro e w3 ⟨rfl, hb3⟩
      have H3 := hid (HJ.out.next hb3)
      clear KA HJ hb3 i3 lJ
      obtain ⟨gm, hgm, lgm⟩ := H3.out.d.ma HKU.out
      have HGM := hid hgm
      have i3 : w3.cell? ⟨J, 3, none⟩ = some (.slice (some ⟨gm, 0, none⟩) v.ms.length l1.mc) := by have := H3.out.d.b.cell 3; simpa [inD, HVL.out, hgm] using this
      have lJ := H3.out.d.b.lt
      have cm : w3.cell? ⟨gm, k, none⟩ = some (.int .i64 m) := H3.out.d.mark hgm HM.out
      clear hgm
      cases em : (m != 0) with
      | true =>
        have HSK := hid (show goN Ls Bs v (k + 1) = u from by
          rw [HST.out]; unfold goS
          rw [if_neg (by rw [HMK.out]; simp only [bne] at em; cases h0 : (m == 0) <;> simp_all)])
        go_wp2_with fail
        go_roundw
        case rel => exact ⟨k + 1, l1, by omega, by go_num, by rw [HSK.out]; exact H3⟩
        case measure => simp [nOf]; omega
      | false =>
        cases bo with
        | false =>
          have HSK := hid (show goN Ls Bs v (k + 1) = u from by
            rw [HST.out]; unfold goS
            rw [if_neg (by rw [HBO.out]; simp)])
          go_wp2_with fail
          go_roundw
          case rel => exact ⟨k + 1, l1, by omega, by go_num, by rw [HSK.out]; exact H3⟩
          case measure => simp [nOf]; omega
        | true =>
          have HSK := hid (show goN Ls Bs v (k + 1) = bgV u k t from by
            rw [HST.out]; unfold goS
            rw [if_pos (by rw [HMK.out, HBO.out]; simp only [bne] at em; cases h0 : (m == 0) <;> simp_all), HT.out])
          have i5 : w3.cell? ⟨J, 5, none⟩ = some (.pointer (some ⟨RP, 0, none⟩)) := H3.out.d.b.cell 5
          have p1 : w3.cell? ⟨RP, 1, none⟩ = some (.slice SA Lr.length sc) := H3.out.p.r.p.cell 1
          have lP := H3.out.p.r.p.lt
          have hkr : k < Lr.length := (List.getElem?_eq_some_iff.1 HTR.out).1
          have hLrn := H3.out.p.r.n
          obtain ⟨sb, so, hAA, _, hcc⟩ := (own_rd H3.out.p.r.os).at_ 9 enSt_len (by omega) HTR.out
          have HSA := hid hAA
          obtain ⟨xn, xv, xu, xe, xf, xr, xy, xw, xA, xc, xl⟩ := t
          have q0 : w3.cell? ⟨sb, so + k * 9, none⟩ = some (.string xn) := hcc 0 _ rfl
          have q1 : w3.cell? ⟨sb, so + k * 9 + 1, none⟩ = some (.string xv) := hcc 1 _ rfl
          have q2 : w3.cell? ⟨sb, so + k * 9 + 2, none⟩ = some (.string xu) := hcc 2 _ rfl
          have q3 : w3.cell? ⟨sb, so + k * 9 + 3, none⟩ = some (.string xe) := hcc 3 _ rfl
          have q4 : w3.cell? ⟨sb, so + k * 9 + 4, none⟩ = some (.bool xf) := hcc 4 _ rfl
          have q5 : w3.cell? ⟨sb, so + k * 9 + 5, none⟩ = some (.int .i64 xr) := hcc 5 _ rfl
          have q6 : w3.cell? ⟨sb, so + k * 9 + 6, none⟩ = some (.int .i64 xy) := hcc 6 _ rfl
          have q7 : w3.cell? ⟨sb, so + k * 9 + 7, none⟩ = some (.int .i64 xw) := hcc 7 _ rfl
          have q8 : w3.cell? ⟨sb, so + k * 9 + 8, none⟩ = some (.slice tA xl.length tc) := hcc 8 _ rfl
          rw [hAA] at p1
          clear hcc hAA
          go_upto_region 6 with fail
          have hB := Blk.new w3 156 #[.string xn, .string xv, .string xu, .string xe, .bool xf, .int .i64 xr, .int .i64 xy, .int .i64 xw, .slice tA xl.length tc]
          have hbW : Below w3.heap.size w3 (w3.alloc (.cells #[.string xn, .string xv, .string xu, .string xe, .bool xf, .int .i64 xr, .int .i64 xy, .int .i64 xw, .slice tA xl.length tc] 156)) := (Below.refl _ _).alloc (Nat.le_refl _) _
          have hDlt := hid (show gm < w3.heap.size from lgm)
          clear q0 q1 q2 q3 q4 q5 q6 q7 q8 p1 lP i3 i5 lJ cm lgm
          generalize w3.alloc (.cells #[.string xn, .string xv, .string xu, .string xe, .bool xf, .int .i64 xr, .int .i64 xy, .int .i64 xw, .slice tA xl.length tc] 156) = W at hB hbW ⊢
          have HW := hid (H3.out.next hbW)
          have b3 : W.cell? ⟨w3.heap.size, 3, none⟩ = some (.string xe) := hB.cell 3
          have b7 : W.cell? ⟨w3.heap.size, 7, none⟩ = some (.int .i64 xw) := hB.cell 7
          have lG := hB.lt
          have hgG : gm ≠ w3.heap.size := fun e => by have := hDlt.out; omega
          generalize w3.heap.size = G at hB lG b3 b7 hgG hbW ⊢
          clear hB hbW H3 hDlt
          have hku : k < u.ms.length := HKU.out
          have hkt : k < u.ts.length := by have := HW.out.d.tl; omega
          obtain ⟨gt, hgt, lgt⟩ := HW.out.d.ta hku
          have HGT := hid hgt
          have HKT := hid hkt
          have hum : u.ms.length = v.ms.length := HVL.out
          have hut : u.ts.length = v.ms.length := by have := HW.out.d.tl; omega
          have i3 : W.cell? ⟨J, 3, none⟩ = some (.slice (some ⟨gm, 0, none⟩) v.ms.length l1.mc) := by rw [HW.out.d.b.cell 3, ← HGM.out, ← hum]; rfl
          have i4 : W.cell? ⟨J, 4, none⟩ = some (.slice (some ⟨gt, 0, none⟩) v.ms.length l1.tc) := by rw [HW.out.d.b.cell 4, ← hgt, ← hut]; rfl
          have i2 : W.cell? ⟨J, 2, none⟩ = some (.bool u.paid) := HW.out.d.b.cell 2
          have lJ := HW.out.d.b.lt
          have lgm : gm < W.heap.size := by obtain ⟨g', h1, h2⟩ := HW.out.d.ma hku; rw [HGM.out] at h1; simp only [Option.some.injEq, Addr.mk.injEq, and_true] at h1; omega
          have cm : W.cell? ⟨gm, k, none⟩ = some (.int .i64 m) := HW.out.d.mark HGM.out HM.out
          have ct : W.cell? ⟨gt, k, none⟩ = some (.int .i64 u.ts[k]) := HW.out.d.try_ hgt (List.getElem?_eq_getElem hkt)
          have fm : W.frozen? ⟨gm, k, none⟩ = false := own_free (by have := HW.out.d.m; rw [HGM.out] at this; exact this) k
          have ft : W.frozen? ⟨gt, k, none⟩ = false := own_free (by have := HW.out.d.t; rw [hgt] at this; exact this) k
          have hne : gm ≠ gt := fun e => HW.out.d.mt gm (by rw [HGM.out]; rfl) (by rw [hgt, e]; rfl)
          have hJm : J ≠ gm := fun e => own_notBlk HW.out.d.m HW.out.d.b (by decide) (g := J) (by rw [HGM.out, e]; rfl)
          have hmJ := hJm.symm
          clear hgt hum hut
          generalize u.ts[k] = tq at ct
          cases he : xe.toList.isEmpty with
          | true =>
            have HV := hid (show bgV u k ⟨xn, xv, xu, xe, xf, xr, xy, xw, xA, xc, xl⟩ = { u with ms := u.ms.set k 1, ts := u.ts.set k 1, out := u.out ++ [⟨1, u.ord, k, 1, 0, false⟩] } from if_pos he)
            obtain ⟨m1, m2⟩ := HW.out.d.setMark HGM.out hku 1
            have U1 := HW.out.upd m1 m2
            obtain ⟨t1, t2⟩ := m1.setTry HGT.out hkt 1
            have U2 := U1.upd t1 t2
            have HTL := hid (dtell_any U2.d (by have := HOL.out; show u.out.length ≤ _; omega) 1 k 1 0 false)
            have HU2 := hid U2
            clear m1 m2 U1 t1 t2 U2
            go_wp2_with fail
            refine HTL.out.mono ?_
            rintro e w5 ⟨rfl, OA', oc', T1, T2⟩
            have HU3 := hid (HU2.out.upd T1 T2)
            clear T1 T2 HTL HU2
            go_wp2_with fail
            go_roundw
            case rel => exact ⟨k + 1, _, by omega, by go_num, by rw [HSK.out, HV.out]; exact HU3⟩
            case measure => simp [nOf]; omega
          | false =>
            cases hpd : u.paid with
            | true =>
              have HV := hid (show bgV u k ⟨xn, xv, xu, xe, xf, xr, xy, xw, xA, xc, xl⟩ = { u with ms := u.ms.set k 3 } from by unfold bgV; rw [if_neg (by rw [he]; decide), if_pos hpd])
              obtain ⟨m1, m2⟩ := HW.out.d.setMark HGM.out hku 3
              have HU := hid (HW.out.upd m1 m2)
              clear m1 m2
              go_wp2_with fail
              go_roundw
              case rel => exact ⟨k + 1, _, by omega, by go_num, by rw [HSK.out, HV.out]; exact HU⟩
              case measure => simp [nOf]; omega
            | false =>
              have HV := hid (show bgV u k ⟨xn, xv, xu, xe, xf, xr, xy, xw, xA, xc, xl⟩ = { u with ms := u.ms.set k 2, out := u.out ++ [⟨2, u.ord, k, 0, xw, false⟩] } from by unfold bgV; rw [if_neg (by rw [he]; decide), if_neg (by rw [hpd]; decide)])
              obtain ⟨m1, m2⟩ := HW.out.d.setMark HGM.out hku 2
              have U1 := HW.out.upd m1 m2
              have HTL := hid (dtell_any U1.d (by have := HOL.out; show u.out.length ≤ _; omega) 2 k 0 xw false)
              have HU := hid U1
              clear m1 m2 U1
              go_wp2_with fail
              refine HTL.out.mono ?_
              rintro e w5 ⟨rfl, OA', oc', T1, T2⟩
              have HU2 := hid (HU.out.upd T1 T2)
              clear T1 T2 HTL HU
              go_wp2_with fail
              go_roundw
              case rel => exact ⟨k + 1, _, by omega, by go_num, by rw [HSK.out, HV.out]; exact HU2⟩
              case measure => simp [nOf]; omega
    · have hk' : k = v.ms.length := by omega
      subst hk'
      have HNM := hid (goN_mk Ls Bs HRG.out v.ms.length)
      have HGV := hid (show goV Ls Bs v = if anyMk [0, 1, 2, 4, 5] (goN Ls Bs v v.ms.length).ms = true then goN Ls Bs v v.ms.length else { goN Ls Bs v v.ms.length with st := 2 } from rfl)
      have hVL : (goN Ls Bs v v.ms.length).ms.length = v.ms.length := goN_ms Ls Bs v v.ms.length
      generalize goN Ls Bs v v.ms.length = u at *
      have KC := hid (dcount_any J l1.MA l1.mc u.ms 3 wr (HJ.out.d.b.cell 3) lJ (own_rd HJ.out.d.m) (by omega))
      have hle : u.ms.countP (fun x => x == 3) ≤ v.ms.length := by rw [← hVL]; exact List.countP_le_length
      have HDA := hid (done_all HNM.out)
      generalize u.ms.countP (fun x => x == 3) = c at KC hle HDA
      go_wp2_with fail
      refine KC.out.mono ?_
      rintro e w3 ⟨rfl, rfl⟩
      clear KC
      cases hc : decide (c = v.ms.length) with
      | true =>
        have hc' := of_decide_eq_true hc
        subst hc'
        have HV2 := hid (show goV Ls Bs v = { u with st := 2 } from by rw [HGV.out, if_neg (fun h => HDA.out.1 h hVL.symm)])
        have c1 : w3.cell? ⟨J, 1, none⟩ = some (.int .i64 u.st) := HJ.out.d.b.cell 1
        have f1 := HJ.out.d.b.free 1
        obtain ⟨s1, s2⟩ := HJ.out.d.setSt 2
        have HU := hid (HJ.out.upd s1 s2)
        clear s1 s2
        go_wp2_with fail
        go_end0
        rw [HV2.out]
        exact ⟨rfl, _, HU.out⟩
      | false =>
        have hc' := of_decide_eq_false hc
        have HV2 := hid (show goV Ls Bs v = u from by rw [HGV.out, if_pos (HDA.out.2 (by omega))])
        go_wp2_with fail
        go_end0
        rw [HV2.out]
        exact ⟨rfl, _, HJ.out⟩
end

end Go.Proofs.YtoemmakhbiiknaaGreat

namespace Go.Proofs.YtoemmakhbiiknaaGreat
open Go.RowKit Go.WideShapes Go.ChangeShapes Go.ChangeAt Go.Deep
set_option linter.unusedVariables false

theorem info_mk13 : (Tryz.prog.info? 71).map (fun i => (i.zero, i.size, i.bytes)) = some (some (.int .i64 0), 1, 8) := by kernel_rfl
theorem info_int13 : (Tryz.prog.info? 3).map (fun i => (i.zero, i.size, i.bytes)) = some (some (.int .i64 0), 1, 8) := by kernel_rfl
theorem made_zeros (n : Nat) : (madeCells (Value.int .i64 0).cells (n * 1)).toList = (List.replicate n (0 : Int)).flatMap en1 := by
  rw [flat_en1]
  apply List.ext_getElem?
  intro i
  by_cases hi : i < n
  · simp [madeCells, Value.cells, hi, Nat.mod_one]
  · simp [madeCells, Value.cells, hi]
theorem below_grown13 {w w' : World} (h : w.grownBy w' none) : Below w.heap.size w w' := ⟨h.os, h.tape, h.output, h.size, fun k hk => h.block k hk (by simp)⟩
section
variable {base base2 n0 I P X M : Nat} {es : List (Int × Nat)} {nm : ByteArray} {Ls : List Stp} {Bs : List IRow} {ask : Int} {y y1 y2 : Pw} {v v1 v2 : Iv} {l l1 l2 : Il} {w w' w1 w2 : World}
theorem PlY.notMap {κ ν : Type} {kE : κ → Value} {vE : ν → Value} {m : List (κ × ν)} (h : PlY base2 nm P Ls Bs ask y w) (hM : IsMap w M kE vE m) : ¬ PlV P Ls Bs y M := by
  rintro (e | e | e | ⟨s, hs, e⟩ | ⟨b, hb, e⟩ | ⟨hd, e⟩)
  · exact hM.notBlk h.p.p e
  · exact hM.notOwn h.p.os e.symm
  · exact hM.notOwn h.p.ob e.symm
  · exact hM.notOwn (h.p.st s hs) e.symm
  · exact hM.notOwn (h.p.rw b hb) e.symm
  · obtain ⟨H, h1, h2, h3, h4⟩ := h.p.hs hd
    rcases e with e | ⟨b, hb, e⟩
    · rw [h1] at e
      have e2 : H = M := by simpa [Value.ownBlock] using e
      exact hM.notBlk h2 e2.symm
    · exact hM.notOwn (h4 b hb) e.symm
theorem IsI.notMap {κ ν : Type} {kE : κ → Value} {vE : ν → Value} {m : List (κ × ν)} {vP : Value} (h : IsI base I vP v l w) (hM : IsMap w M kE vE m) : ¬ IU I v l M := by
  rintro (e | e | e | e)
  · exact hM.notBlk h.b e
  · exact hM.notOwn h.m e.symm
  · exact hM.notOwn h.t e.symm
  · exact hM.notOwn h.o e.symm
theorem IsEng.mw {y' : Pw} {v' : Iv} {l' : Il} (hE : IsEng n0 X M es w) (hI : InP base base2 I P nm Ls Bs ask y v l w) (hm : Mw I P Ls Bs y v l y' v' l' w w') : IsEng n0 X M es w' :=
  hE.touch hm.m.t (fun hu => by
    rcases hu with (hu | hu | hu | hu) | hu
    · exact hE.blk.ne_ hI.i.b (by decide) hu
    · exact own_notBlk hI.i.m hE.blk (by decide) hu
    · exact own_notBlk hI.i.t hE.blk (by decide) hu
    · exact own_notBlk hI.i.o hE.blk (by decide) hu
    · exact hE.blk.ne_ hI.p.p.p (by decide) hu) (fun hu => by
    rcases hu with hu | hu
    · exact hI.i.notMap hE.map hu
    · exact hE.map.notBlk hI.p.p.p hu)
def newV (o : Int) (n : Nat) : Iv := ⟨o, 0, false, List.replicate n 0, List.replicate n 0, []⟩
/-- What Start leaves. -/
def StaR (base2 n0 P X M : Nat) (es : List (Int × Nat)) (nm : ByteArray) (Ls : List Stp) (Bs : List IRow) (ask : Int) (y : Pw) (o : Int) (w : World) (e : Ending) (w' : World) : Prop :=
  ∃ I OA oc l', e = .returned (.tuple #[.slice OA (goV Ls Bs (newV o Ls.length)).out.length oc, .int .i64 0]) ∧ InP w.heap.size base2 I P nm Ls Bs ask y { goV Ls Bs (newV o Ls.length) with out := [] } l' w' ∧ IsEng n0 X M (mset es o I) w' ∧ Touch (fun g => g = M ∨ g = P) w w' ∧
    w'.ownsRow w.heap.size 55 6 (.slice OA (goV Ls Bs (newV o Ls.length)).out.length oc) (goV Ls Bs (newV o Ls.length)).out.length ((goV Ls Bs (newV o Ls.length)).out.flatMap enEf) ∧ l'.OA = none
set_option maxRecDepth 100000 in
set_option maxHeartbeats 32000000 in
theorem start_any (h : PlY base2 nm P Ls Bs ask y w) (hE : IsEng n0 X M es w) (o : Int) (hno : mget es o = none) :
    Calls Tryz.prog 16 #[.pointer (some ⟨X, 0, none⟩), .int .i64 o, .pointer (some ⟨P, 0, none⟩)] w (StaR base2 n0 P X M es nm Ls Bs ask y o w) := by
  have KR := hid (room_any hE o P)
  rw [show roomV es o = 0 from by unfold roomV; rw [hno]] at KR
  have HP := hid h
  have HE := hid hE
  have HLn := hid h.rows.n
  obtain ⟨n, hn⟩ : ∃ n, n = Ls.length := ⟨_, rfl⟩
  have HN := hid hn
  clear h hE hno hn
  go_enter Tryz.func16, Tryz.ntmps16
  go_wp2_with fail
  refine KR.out.mono ?_
  rintro e w0 ⟨rfl, rfl⟩
  clear KR
  go_upto_region 4 with fail
  obtain ⟨C, hCd⟩ : ∃ C : World → Prop, ∀ w', C w' ↔ Below w0.heap.size w0 w' := ⟨_, fun _ => Iff.rfl⟩
  have HCd := hid hCd
  have HC0 : Hid (C w0.drew) := hid ((hCd _).2 (Below.refl _ _).drew)
  clear hCd
  obtain ⟨i1, hj, hy0, hy1, hy2⟩ := info_parts info_mk13
  obtain ⟨i2, hk, hx0, hx1, hx2⟩ := info_parts info_int13
  have HLe := hid (show ∀ w' : World, C w' → Calls Tryz.prog 17 #[.pointer (some ⟨P, 0, none⟩)] w' fun e w'' => e = .returned (.int .i64 (n : Int)) ∧ C w'' ∧ Below w'.heap.size w' w'' from fun w' hw' => by
    refine (len_some (HP.out.next ((HCd.out _).1 hw')).p).mono ?_
    rintro e w2 ⟨rfl, rfl⟩
    exact ⟨by rw [HN.out], hw', Below.refl _ _⟩)
  refine wp_region_many C (fun i => if i = 2 ∨ i = 5 then some (.int .i64 (n : Int)) else none) 11 (by kernel_rfl) (by kernel_rfl) HC0.out ?_
  simp only [List.take_succ_cons, List.take_zero, List.drop_succ_cons, List.drop_zero]
  have KM1 := hid (show ∀ w' : World, C w' → ∃ u w'', (Instr.makeSlice 37 (.int .i64 (n : Int)) (.int .i64 (n : Int))).run Tryz.prog w' = .ok u w'' ∧ C w'' ∧ Below w'.heap.size w' w'' ∧ ∃ g, u = .slice (some ⟨g, 0, none⟩) n n ∧ w''.ownsRow w0.heap.size 71 1 (.slice (some ⟨g, 0, none⟩) n n) n ((List.replicate n (0 : Int)).flatMap en1) from fun w' hw' => by
    have hb := (HCd.out _).1 hw'
    have hnl := HLn.out
    rw [← HN.out] at hnl
    obtain ⟨w'', h1, h2, h3⟩ := run_makeSlice_full (P := Tryz.prog) (w := w') w0.heap.size 37 71 i1 (.int .i64 0) 1 Tryz.underlying37 hj hy0 hy1 .i64 .i64 n (by omega) (by rw [hy2]; omega) (by unfold maxLen; omega) hb.size
    rw [made_zeros] at h2
    have hb3 := below_grown13 h3
    exact ⟨_, w'', h1, (HCd.out _).2 (bthen hb hb3), hb3, _, rfl, h2⟩)
  have KM2 := hid (show ∀ w' : World, C w' → ∃ u w'', (Instr.makeSlice 38 (.int .i64 (n : Int)) (.int .i64 (n : Int))).run Tryz.prog w' = .ok u w'' ∧ C w'' ∧ Below w'.heap.size w' w'' ∧ ∃ g, u = .slice (some ⟨g, 0, none⟩) n n ∧ w''.ownsRow w0.heap.size 3 1 (.slice (some ⟨g, 0, none⟩) n n) n ((List.replicate n (0 : Int)).flatMap en1) from fun w' hw' => by
    have hb := (HCd.out _).1 hw'
    have hnl := HLn.out
    rw [← HN.out] at hnl
    obtain ⟨w'', h1, h2, h3⟩ := run_makeSlice_full (P := Tryz.prog) (w := w') w0.heap.size 38 3 i2 (.int .i64 0) 1 Tryz.underlying38 hk hx0 hx1 .i64 .i64 n (by omega) (by rw [hx2]; omega) (by unfold maxLen; omega) hb.size
    rw [made_zeros] at h2
    have hb3 := below_grown13 h3
    exact ⟨_, w'', h1, (HCd.out _).2 (bthen hb hb3), hb3, _, rfl, h2⟩)
  clear hj hy0 hy1 hy2 hk hx0 hx1 hx2
  refine wpM_one (fun a D D' hd h w' hC hD' => h w' hC (hd w' hD')) (if_neg (by omega)) (by kernel_rfl) (.int .i64 o) (fun w' hw' => by go_simp) ?_
  refine wpM_one (fun a D D' hd h w' hC hD' => h w' hC (hd w' hD')) (if_neg (by omega)) (by kernel_rfl) (.pointer (some ⟨P, 0, none⟩)) (fun w' hw' => by go_simp) ?_
  refine wpM_call (v := .int .i64 (n : Int)) (fun a D D' hd h w' hC hD' => h w' hC (hd w' hD')) rfl (by kernel_rfl) (fun w' hw' => ⟨17, #[.pointer (some ⟨P, 0, none⟩)], by go_simp, HLe.out w' hw'⟩) ?_
  refine wpM_many (fun a D D' hd h w' hC hD' => h w' hC (hd w' hD')) (if_neg (by omega)) (by kernel_rfl) (fun u w' => ∃ g, u = .slice (some ⟨g, 0, none⟩) n n ∧ w'.ownsRow w0.heap.size 71 1 (.slice (some ⟨g, 0, none⟩) n n) n ((List.replicate n (0 : Int)).flatMap en1)) (fun u w1 w2 ⟨g, h1, h2⟩ hb => ⟨g, h1, own_next h2 hb⟩) (fun w' hw' => by
    obtain ⟨u, w'', hrun, hC', hb', hR⟩ := KM1.out w' hw'
    exact ⟨u, w'', by go_simp, hC', hb', hR⟩) ?_
  rintro u1 ⟨_, g1, rfl, _⟩
  refine wpM_one (fun a D D' hd h w' hC hD' => h w' hC (hd w' hD')) (if_neg (by omega)) (by kernel_rfl) (.pointer (some ⟨P, 0, none⟩)) (fun w' hw' => by go_simp) ?_
  refine wpM_call (v := .int .i64 (n : Int)) (fun a D D' hd h w' hC hD' => h w' hC (hd w' hD')) rfl (by kernel_rfl) (fun w' hw' => ⟨17, #[.pointer (some ⟨P, 0, none⟩)], by go_simp, HLe.out w' hw'⟩) ?_
  refine wpM_many (fun a D D' hd h w' hC hD' => h w' hC (hd w' hD')) (if_neg (by omega)) (by kernel_rfl) (fun u w' => ∃ g, u = .slice (some ⟨g, 0, none⟩) n n ∧ w'.ownsRow w0.heap.size 3 1 (.slice (some ⟨g, 0, none⟩) n n) n ((List.replicate n (0 : Int)).flatMap en1)) (fun u w1 w2 ⟨g, h1, h2⟩ hb => ⟨g, h1, own_next h2 hb⟩) (fun w' hw' => by
    obtain ⟨u, w'', hrun, hC', hb', hR⟩ := KM2.out w' hw'
    exact ⟨u, w'', by go_simp, hC', hb', hR⟩) ?_
  rintro u2 ⟨_, g2, rfl, _⟩
  refine wpM_one (fun a D D' hd h w' hC hD' => h w' hC (hd w' hD')) (if_neg (by omega)) (by kernel_rfl) (.agg #[.int .i64 o, .int .i64 0, .bool false, .slice (some ⟨g1, 0, none⟩) n n, .slice (some ⟨g2, 0, none⟩) n n]) (fun w' hw' => by go_simp) ?_
  refine wpM_one (fun a D D' hd h w' hC hD' => h w' hC (hd w' hD')) (if_neg (by omega)) (by kernel_rfl) (.pointer (some ⟨P, 0, none⟩)) (fun w' hw' => by go_simp) ?_
  refine wpM_one (fun a D D' hd h w' hC hD' => h w' hC (hd w' hD')) (if_neg (by omega)) (by kernel_rfl) (.agg #[.int .i64 o, .int .i64 0, .bool false, .slice (some ⟨g1, 0, none⟩) n n, .slice (some ⟨g2, 0, none⟩) n n, .pointer (some ⟨P, 0, none⟩), .slice none 0 0]) (fun w' hw' => by go_simp) ?_
  refine wpM_many (fun a D D' hd h w' hC hD' => h w' hC (hd w' hD')) (if_neg (by omega)) (by kernel_rfl) (fun u w' => ∃ g, u = .pointer (some ⟨g, 0, none⟩) ∧ Blk w' g 96 #[.int .i64 o, .int .i64 0, .bool false, .slice (some ⟨g1, 0, none⟩) n n, .slice (some ⟨g2, 0, none⟩) n n, .pointer (some ⟨P, 0, none⟩), .slice none 0 0] ∧ w0.heap.size ≤ g) (fun u w1 w2 ⟨g, h1, h2, h3⟩ hb => ⟨g, h1, h2.next hb, h3⟩) (fun w' hw' => ⟨.pointer (some ⟨w'.heap.size, 0, none⟩), w'.alloc (.cells #[.int .i64 o, .int .i64 0, .bool false, .slice (some ⟨g1, 0, none⟩) n n, .slice (some ⟨g2, 0, none⟩) n n, .pointer (some ⟨P, 0, none⟩), .slice none 0 0] 96), by go_simp, (HCd.out _).2 (((HCd.out _).1 hw').alloc ((HCd.out _).1 hw').size _), (Below.refl _ _).alloc (Nat.le_refl _) _, w'.heap.size, rfl, Blk.new _ _ _, ((HCd.out _).1 hw').size⟩) ?_
  rintro u3 ⟨_, I, rfl, _, _⟩
  refine wpM_nil ?_
  intro wf hC hD
  obtain ⟨⟨⟨_, g1', e1, hO1⟩, g2', e2, hO2⟩, I', e3, hBI, hIl⟩ := hD
  simp only [Value.slice.injEq, Value.pointer.injEq, Option.some.injEq, Addr.mk.injEq, and_true] at e1 e2 e3
  subst e1 e2 e3
  have hbf := (HCd.out _).1 hC
  obtain ⟨l0, hl0⟩ : ∃ l0 : Il, l0 = ⟨some ⟨g1, 0, none⟩, n, some ⟨g2, 0, none⟩, n, none, 0⟩ := ⟨_, rfl⟩
  have hPf := HP.out.next hbf
  have hEf := HE.out.next hbf
  have hnl := HLn.out
  rw [← HN.out] at hnl
  have hIs : IsI w0.heap.size I (.pointer (some ⟨P, 0, none⟩)) (newV o n) l0 wf := by
    subst hl0
    exact ⟨by simpa [inC, newV] using hBI, by simpa [newV] using hO1, by simpa [newV] using hO2, World.ownsRow_nil _ _ _ _, hIl, by simpa [newV] using hnl, by simp [newV]⟩
  obtain ⟨w8, hrun, hM8, hg8, hs8⟩ := hEf.map.store keyE13 Tryz.underlying88 o I
  simp only [kE13, pB] at hrun
  have hT8 := Touch.of_grown hg8
  have hdj : ∀ g, PlV P Ls Bs y g → ¬ IU I (newV o n) l0 g := fun g hg hu => by
    have h1 := (HP.out.p.use hg).2
    have h2 := (hIs.use hu).1
    omega
  have hI8 := hIs.touch hT8 (fun g hg hu => hIs.notMap hEf.map (by rw [← hg]; exact hu))
  have hP8 : PlY base2 nm P Ls Bs ask y w8 := ⟨hPf.p.touchS hT8 (fun g hg hu => hPf.notMap hEf.map (by rw [← hg]; exact hu)), hPf.ok, hPf.nil, hPf.rows, hPf.aft⟩
  have hInP : InP w0.heap.size base2 I P nm Ls Bs ask y (newV o n) l0 w8 := ⟨hI8, hP8, hdj, by simp [newV, HN.out]⟩
  have hE8 : IsEng n0 X M (mset es o I) w8 := ⟨hT8.blk hEf.blk (fun e => hEf.map.notBlk hEf.blk e.symm), hM8, hEf.low⟩
  have hT0 := (Touch.of_below (S := (· = M)) hbf).then hT8
  have KG := hid (goOn_any hInP (by simp [newV]))
  have HE8 := hid hE8
  have HT0 := hid hT0
  have HB8 := hid (show ∀ g, IU I (newV o n) l0 g → w0.heap.size ≤ g from fun g hg => (hIs.use hg).1)
  have c0 : wf.cell? ⟨X, 0, none⟩ = some (.map (some M)) := hEf.blk.cell 0
  have lX := hEf.blk.lt
  clear hInP hE8 hT0 hI8 hP8 hT8 hM8 hg8 hs8 hdj hIs hBI hIl hO1 hO2 hPf hEf hbf hC hl0
  go_wp2_with fail
  refine KG.out.mono ?_
  rintro e w9 ⟨rfl, l9, hI9, hM9⟩
  have KE := hid (effects_any (X := fun _ => False) hI9.i)
  have HF := hid (And.intro hI9 hM9)
  clear KG hI9 hM9
  go_wp2_with fail
  refine KE.out.mono ?_
  rintro e w10 ⟨rfl, E1, E2, E3⟩
  have HI10 := hid (HF.out.1.upd E1 E2 rfl)
  have HM10 := hid (HF.out.2.trans (Mw.of E2))
  have HO := hid E3
  clear E1 E2 E3 KE
  go_wp2_with fail
  go_ret2
  unfold StaR
  rw [← HN.out]
  refine ⟨I, _, _, _, rfl, HI10.out, ?_, ?_, HO.out, rfl⟩
  · have lX := HE.out.blk.lt
    have lM := HE.out.map.lt
    refine HE8.out.touch HM10.out.m.t (fun hu => ?_) (fun hu => ?_)
    · rcases hu with hu | hu
      · have := HB8.out X hu; omega
      · exact HE.out.blk.ne_ HP.out.p.p (by decide) hu
    · rcases hu with hu | hu
      · have := HB8.out M hu; omega
      · exact HE.out.map.notBlk HP.out.p.p hu
  · exact (HT0.out.mono (fun k hk => .inl hk)).trans HM10.out.m.t (fun k hk => by
      rcases hk with hk | hk
      · exact .inr (HB8.out k hk)
      · exact .inl (.inr hk))
end

end Go.Proofs.YtoemmakhbiiknaaGreat

namespace Go.Proofs.YtoemmakhbiiknaaGreat
open Go.RowKit Go.WideShapes Go.ChangeShapes Go.ChangeAt Go.Deep
set_option linter.unusedVariables false

theorem mkA_nat (ms : List Int) (s : Nat) : mkA ms (s : Int) = (ms[s]?).getD 0 := by simp [mkA, List.getD]
theorem mkA_set (ms : List Int) {k : Nat} (hk : k < ms.length) (m : Int) (s : Nat) : mkA (ms.set k m) (s : Int) = if s = k then m else mkA ms (s : Int) := by
  rw [mkA_nat, mkA_nat, List.getElem?_set]
  by_cases e : s = k
  · subst e; simp [hk]
  · rw [if_neg (fun h => e h.symm), if_neg e]
theorem mkA_out {ms : List Int} {s : Nat} (h : ms.length ≤ s) : mkA ms (s : Int) = 0 := by
  rw [mkA_nat, List.getElem?_eq_none h]; rfl
theorem mkA_mem {ms : List Int} {s : Nat} (h : s < ms.length) : mkA ms (s : Int) ∈ ms := by
  rw [mkA_nat, List.getElem?_eq_getElem h]
  exact List.getElem_mem h
/-- What a step's mark may still cost. -/
def pot (m : Int) : Nat := if m = 0 then 3 else if m = 2 then 2 else if m = 1 then 1 else if m = 3 then 1 else 0
def potS (ms : List Int) : Nat := (ms.map pot).sum
theorem potS_set : ∀ (ms : List Int) (k : Nat) (m : Int), k < ms.length → potS (ms.set k m) + pot (mkA ms (k : Int)) = potS ms + pot m
  | [], k, m, h => by simp at h
  | x :: ms, 0, m, h => by
    rw [mkA_nat]
    simp [potS]
    omega
  | x :: ms, k + 1, m, h => by
    have ih := potS_set ms k m (by simpa using h)
    rw [mkA_nat] at ih ⊢
    simp only [List.set_cons_succ, potS, List.map_cons, List.sum_cons, List.getElem?_cons_succ] at ih ⊢
    omega
/-- Rows point back. -/
structure Topo (Ls : List Stp) (Bs : List IRow) : Prop where
  len : Bs.length = Ls.length
  n : Ls.length ≤ 40
  lt : ∀ (s : Nat) (x : Int), x ∈ rowAt Bs (s : Int) → ∃ q : Nat, x = (q : Int) ∧ q < s
def isSend (f : Eff) (s : Nat) (t : Int) : Prop := f.kind = 1 ∧ f.step = (s : Int) ∧ f.tr = t ∧ f.undo = false
def isArm (f : Eff) (s : Nat) : Prop := f.kind = 2 ∧ f.step = (s : Int)
def isUndo (f : Eff) (s : Nat) : Bool := f.kind == 1 && (f.undo && f.step == (s : Int))
structure EJ (Ls : List Stp) (Bs : List IRow) (pd : List Eff) (un se : Nat → Bool) (B : Nat) (v : Iv) : Prop where
  len : v.ms.length = Ls.length
  tl : v.ts.length = Ls.length
  mks : MkOk v.ms
  pd0 : v.paid = false
  rng : ∀ f ∈ pd ++ v.out, (∃ q : Nat, f.step = (q : Int) ∧ q < Ls.length) ∧ (f.kind = 1 ∨ f.kind = 2 ∨ f.kind = 3)
  sn1 : ∀ f ∈ pd ++ v.out, f.kind = 1 → ∀ s : Nat, f.step = (s : Int) → mkA v.ms s ≠ 0
  snd : ∀ s : Nat, mkA v.ms s = 1 → v.st = 0 → ∃ f ∈ pd ++ v.out, isSend f s (mkA v.ts s)
  arm : ∀ s : Nat, mkA v.ms s = 2 → ∃ f ∈ pd ++ v.out, isArm f s
  und : ∀ s : Nat, mkA v.ms s = 4 → ∃ f ∈ pd ++ v.out, isUndo f s = true
  und1 : ∀ f ∈ pd ++ v.out, ∀ s : Nat, isUndo f s = true → mkA v.ms s = 4
  und2 : ∀ s : Nat, (pd ++ v.out).countP (fun f => isUndo f s) ≤ 1
  fre : ∀ s : Nat, mkA v.ms s = 4 → ∀ k : Nat, (k : Int) ∈ behL Bs Ls.length s → mkA v.ms k = 0 ∨ mkA v.ms k = 5
  fw : v.st = 0 → ∀ s : Nat, mkA v.ms s ≠ 4 ∧ mkA v.ms s ≠ 5
  seO : ∀ s : Nat, se s = true → mkA v.ms s ≠ 0
  unO : ∀ s : Nat, un s = true → mkA v.ms s = 5
  phi : pd.length + v.out.length + potS v.ms ≤ B
/-- The same, but for step x. -/
structure EJx (Ls : List Stp) (Bs : List IRow) (pd : List Eff) (un se : Nat → Bool) (B x : Nat) (v : Iv) : Prop where
  len : v.ms.length = Ls.length
  tl : v.ts.length = Ls.length
  mks : MkOk v.ms
  pd0 : v.paid = false
  rng : ∀ f ∈ pd ++ v.out, (∃ q : Nat, f.step = (q : Int) ∧ q < Ls.length) ∧ (f.kind = 1 ∨ f.kind = 2 ∨ f.kind = 3)
  sn1 : ∀ f ∈ pd ++ v.out, f.kind = 1 → ∀ s : Nat, f.step = (s : Int) → mkA v.ms s ≠ 0
  snd : ∀ s : Nat, s ≠ x → mkA v.ms s = 1 → v.st = 0 → ∃ f ∈ pd ++ v.out, isSend f s (mkA v.ts s)
  arm : ∀ s : Nat, s ≠ x → mkA v.ms s = 2 → ∃ f ∈ pd ++ v.out, isArm f s
  und : ∀ s : Nat, s ≠ x → mkA v.ms s = 4 → ∃ f ∈ pd ++ v.out, isUndo f s = true
  und1 : ∀ f ∈ pd ++ v.out, ∀ s : Nat, isUndo f s = true → mkA v.ms s = 4
  und2 : ∀ s : Nat, (pd ++ v.out).countP (fun f => isUndo f s) ≤ 1
  fre : ∀ s : Nat, mkA v.ms s = 4 → ∀ k : Nat, (k : Int) ∈ behL Bs Ls.length s → mkA v.ms k = 0 ∨ mkA v.ms k = 5
  fw : v.st = 0 → ∀ s : Nat, mkA v.ms s ≠ 4 ∧ mkA v.ms s ≠ 5
  seO : ∀ s : Nat, se s = true → mkA v.ms s ≠ 0
  unO : ∀ s : Nat, un s = true → mkA v.ms s = 5
  phi : pd.length + v.out.length + potS v.ms ≤ B
section
variable {Ls : List Stp} {Bs : List IRow} {pd : List Eff} {un se : Nat → Bool} {B k : Nat} {v : Iv}
theorem EJ.mono (h : EJ Ls Bs pd un se B v) {B' : Nat} (hb : B ≤ B') : EJ Ls Bs pd un se B' v := { h with phi := Nat.le_trans h.phi hb }
theorem isUndo_step {f : Eff} {s q : Nat} (h : isUndo f s = true) (h' : isUndo f q = true) : s = q := by
  unfold isUndo at h h'
  simp only [Bool.and_eq_true, beq_iff_eq] at h h'
  omega
/-- One step's mark is set, what that wants is pushed. -/
theorem EJ.x (h : EJ Ls Bs pd un se B v) (k : Nat) : EJx Ls Bs pd un se B k v := ⟨h.len, h.tl, h.mks, h.pd0, h.rng, h.sn1, fun s _ => h.snd s, fun s _ => h.arm s, fun s _ => h.und s, h.und1, h.und2, h.fre, h.fw, h.seO, h.unO, h.phi⟩
theorem EJx.to {k : Nat} (h : EJx Ls Bs pd un se B k v) (h1 : mkA v.ms k = 1 → v.st = 0 → ∃ f ∈ pd ++ v.out, isSend f k (mkA v.ts k)) (h2 : mkA v.ms k = 2 → ∃ f ∈ pd ++ v.out, isArm f k) (h4 : mkA v.ms k = 4 → ∃ f ∈ pd ++ v.out, isUndo f k = true) : EJ Ls Bs pd un se B v :=
  ⟨h.len, h.tl, h.mks, h.pd0, h.rng, h.sn1, fun s a b => by
    by_cases e : s = k
    · subst e; exact h1 a b
    · exact h.snd s e a b, fun s a => by
    by_cases e : s = k
    · subst e; exact h2 a
    · exact h.arm s e a, fun s a => by
    by_cases e : s = k
    · subst e; exact h4 a
    · exact h.und s e a, h.und1, h.und2, h.fre, h.fw, h.seO, h.unO, h.phi⟩
theorem EJx.upd {k : Nat} (h : EJx Ls Bs pd un se B k v) (hk : k < Ls.length) {m' st' : Int} {ts' : List Int} {fs : List Eff} {un' : Nat → Bool} {B' : Nat} (hm : 0 ≤ m' ∧ m' ≤ 5) (hm0 : m' ≠ 0) (htl : ts'.length = v.ts.length) (hts : ∀ s : Nat, s ≠ k → mkA ts' s = mkA v.ts s) (hst : st' = 0 → v.st = 0)
    (h1 : m' = 1 → st' = 0 → ∃ f ∈ pd ++ v.out ++ fs, isSend f k (mkA ts' k)) (h2 : m' = 2 → ∃ f ∈ pd ++ v.out ++ fs, isArm f k)
    (h4 : m' = 4 → (∃ f ∈ fs, isUndo f k = true) ∧ ∀ q : Nat, (q : Int) ∈ behL Bs Ls.length k → q ≠ k ∧ (mkA v.ms q = 0 ∨ mkA v.ms q = 5))
    (hno : ∀ f ∈ pd ++ v.out, isUndo f k = false) (hfs : ∀ f ∈ fs, ∀ s : Nat, isUndo f s = true → s = k ∧ m' = 4) (hfl : fs.length ≤ 1) (hfr : ∀ f ∈ fs, f.step = (k : Int) ∧ (f.kind = 1 ∨ f.kind = 2 ∨ f.kind = 3))
    (hfre : (mkA v.ms k ≠ 0 ∧ mkA v.ms k ≠ 5) ∨ m' = 5 ∨ v.st = 0) (hfw : st' = 0 → m' ≠ 4 ∧ m' ≠ 5) (hun : ∀ s : Nat, un' s = true → (s = k ∧ m' = 5) ∨ (un s = true ∧ s ≠ k))
    (hphi : pd.length + v.out.length + fs.length + potS v.ms + pot m' ≤ B' + pot (mkA v.ms k)) :
    EJ Ls Bs pd un' se B' { v with st := st', ms := v.ms.set k m', ts := ts', out := v.out ++ fs } := by
  have hkl : k < v.ms.length := by rw [h.len]; exact hk
  have hM : ∀ s : Nat, mkA (v.ms.set k m') s = if s = k then m' else mkA v.ms s := fun s => mkA_set v.ms hkl m' s
  have hmem : ∀ {f : Eff}, f ∈ pd ++ (v.out ++ fs) ↔ f ∈ pd ++ v.out ∨ f ∈ fs := fun {f} => by simp [or_assoc]
  refine ⟨by simp [h.len], by rw [htl]; exact h.tl, h.mks.set k hm, h.pd0, fun f hf => ?_, fun f hf hk1 s hfs1 => ?_, fun s hs h0 => ?_, fun s hs => ?_, fun s hs => ?_, fun f hf s hu => ?_, fun s => ?_, fun s hs q hq => ?_, fun h0 s => ?_, fun s hs => ?_, fun s hs => ?_, ?_⟩
  · rcases hmem.1 hf with hf | hf
    · exact h.rng f hf
    · exact ⟨⟨k, (hfr f hf).1, hk⟩, (hfr f hf).2⟩
  · simp only [hM]
    by_cases e : s = k
    · rw [if_pos e]; exact hm0
    · rw [if_neg e]
      rcases hmem.1 hf with hf2 | hf2
      · exact h.sn1 f hf2 hk1 s hfs1
      · have := (hfr f hf2).1
        omega
  · simp only [hM] at hs
    by_cases e : s = k
    · subst e
      rw [if_pos rfl] at hs
      obtain ⟨f, hf, hh⟩ := h1 hs h0
      exact ⟨f, by rw [← List.append_assoc]; exact hf, hh⟩
    · rw [if_neg e] at hs
      obtain ⟨f, hf, hh⟩ := h.snd s e hs (hst h0)
      exact ⟨f, hmem.2 (.inl hf), by rw [hts s e]; exact hh⟩
  · simp only [hM] at hs
    by_cases e : s = k
    · subst e
      rw [if_pos rfl] at hs
      obtain ⟨f, hf, hh⟩ := h2 hs
      exact ⟨f, by rw [← List.append_assoc]; exact hf, hh⟩
    · rw [if_neg e] at hs
      obtain ⟨f, hf, hh⟩ := h.arm s e hs
      exact ⟨f, hmem.2 (.inl hf), hh⟩
  · simp only [hM] at hs
    by_cases e : s = k
    · subst e
      rw [if_pos rfl] at hs
      obtain ⟨f, hf, hh⟩ := (h4 hs).1
      exact ⟨f, hmem.2 (.inr hf), hh⟩
    · rw [if_neg e] at hs
      obtain ⟨f, hf, hh⟩ := h.und s e hs
      exact ⟨f, hmem.2 (.inl hf), hh⟩
  · simp only [hM]
    rcases hmem.1 hf with hf2 | hf2
    · by_cases e : s = k
      · subst e
        rw [hno f hf2] at hu
        cases hu
      · rw [if_neg e]
        exact h.und1 f hf2 s hu
    · obtain ⟨e, em⟩ := hfs f hf2 s hu
      rw [if_pos e]
      exact em
  · show (pd ++ (v.out ++ fs)).countP _ ≤ 1
    rw [← List.append_assoc, List.countP_append]
    by_cases e : s = k
    · subst e
      have h0 : (pd ++ v.out).countP (fun f => isUndo f s) = 0 := List.countP_eq_zero.2 (fun f hf => by rw [hno f hf]; decide)
      have := @List.countP_le_length _ (fun f => isUndo f s) fs
      omega
    · have h0 : fs.countP (fun f => isUndo f s) = 0 := List.countP_eq_zero.2 (fun f hf hu => e (hfs f hf s hu).1)
      have := h.und2 s
      omega
  · simp only [hM] at hs ⊢
    by_cases e : s = k
    · subst e
      rw [if_pos rfl] at hs
      obtain ⟨h5, h6⟩ := (h4 hs).2 q hq
      rw [if_neg h5]
      exact h6
    · rw [if_neg e] at hs
      have h5 := h.fre s hs q hq
      by_cases eq : q = k
      · subst eq
        rw [if_pos rfl]
        rcases hfre with ⟨h6, h7⟩ | h6 | h6
        · rcases h5 with h5 | h5
          · exact absurd h5 h6
          · exact absurd h5 h7
        · exact .inr h6
        · exact absurd hs (h.fw h6 s).1
      · rw [if_neg eq]
        exact h5
  · simp only [hM]
    by_cases e : s = k
    · rw [if_pos e]
      exact hfw h0
    · rw [if_neg e]
      exact h.fw (hst h0) s
  · simp only [hM]
    by_cases e : s = k
    · rw [if_pos e]
      exact hm0
    · rw [if_neg e]
      exact h.seO s hs
  · simp only [hM]
    rcases hun s hs with ⟨e, e5⟩ | ⟨hu, e⟩
    · rw [if_pos e]
      exact e5
    · rw [if_neg e]
      exact h.unO s hu
  · show pd.length + (v.out ++ fs).length + potS (v.ms.set k m') ≤ B'
    have := potS_set v.ms k m' hkl
    rw [List.length_append]
    omega
/-- No undoing of a step that is not being undone is pending. -/
theorem EJ.noU (h : EJ Ls Bs pd un se B v) {k : Nat} (hk : mkA v.ms k ≠ 4) : ∀ f ∈ pd ++ v.out, isUndo f k = false := fun f hf => by
  cases hu : isUndo f k with
  | false => rfl
  | true => exact absurd (h.und1 f hf k hu) hk
theorem EJ.unK (h : EJ Ls Bs pd un se B v) {k : Nat} (hk : mkA v.ms k ≠ 5) {m' : Int} : ∀ s : Nat, un s = true → (s = k ∧ m' = 5) ∨ (un s = true ∧ s ≠ k) := fun s hs => .inr ⟨hs, fun e => by subst e; exact hk (h.unO s hs)⟩
theorem EJ.st1 (h : EJ Ls Bs pd un se B v) : EJ Ls Bs pd un se B { v with st := 1 } := { h with snd := fun s _ h0 => by simp at h0, fw := fun h0 => by simp at h0 }
/-- What begins. -/
theorem EJ.bg (h : EJ Ls Bs pd un se B v) {k : Nat} {t : Stp} (hk : k < Ls.length) (h0 : mkA v.ms k = 0) (hs0 : v.st = 0) : EJ Ls Bs pd un se B (bgV v k t) := by
  have hm4 : mkA v.ms k ≠ 4 := by omega
  have hm5 : mkA v.ms k ≠ 5 := by omega
  have hkt : k < v.ts.length := by rw [h.tl]; exact hk
  unfold bgV
  split
  · refine (h.x _).upd hk (m' := 1) (st' := v.st) (ts' := v.ts.set k 1) (fs := [⟨1, v.ord, k, 1, 0, false⟩]) (by omega) (by omega) (by simp) (fun s hs => by rw [mkA_set v.ts hkt, if_neg hs]) (fun e => e) (fun _ _ => ⟨⟨1, v.ord, k, 1, 0, false⟩, by simp, rfl, rfl, by rw [mkA_set v.ts hkt, if_pos rfl], rfl⟩) (fun e => by omega) (fun e => by omega) (h.noU hm4) (fun f hf s hu => ?_) (by simp) (fun f hf => ?_) (.inr (.inr hs0)) (fun _ => by omega) (h.unK hm5) ?_
    · obtain rfl : f = _ := by simpa using hf
      simp [isUndo] at hu
    · obtain rfl : f = _ := by simpa using hf
      exact ⟨rfl, .inl rfl⟩
    · have := h.phi
      rw [h0]
      simp only [List.length_singleton, pot]
      simp
      omega
  · rw [if_neg (by rw [h.pd0]; decide)]
    refine (h.x _).upd hk (m' := 2) (st' := v.st) (ts' := v.ts) (fs := [⟨2, v.ord, k, 0, t.wi, false⟩]) (by omega) (by omega) rfl (fun s hs => rfl) (fun e => e) (fun e => by omega) (fun _ => ⟨⟨2, v.ord, k, 0, t.wi, false⟩, by simp, rfl, rfl⟩) (fun e => by omega) (h.noU hm4) (fun f hf s hu => ?_) (by simp) (fun f hf => ?_) (.inr (.inr hs0)) (fun _ => by omega) (h.unK hm5) ?_
    · obtain rfl : f = _ := by simpa using hf
      simp [isUndo] at hu
    · obtain rfl : f = _ := by simpa using hf
      exact ⟨rfl, .inr (.inl rfl)⟩
    · have := h.phi
      rw [h0]
      simp only [List.length_singleton, pot]
      simp
      omega
theorem bgV_st (v : Iv) (s : Nat) (t : Stp) : (bgV v s t).st = v.st ∧ (bgV v s t).paid = v.paid := by unfold bgV; split <;> (try split) <;> exact ⟨rfl, rfl⟩
theorem goN_st (Ls : List Stp) (Bs : List IRow) (v : Iv) : ∀ k, (goN Ls Bs v k).st = v.st ∧ (goN Ls Bs v k).paid = v.paid
  | 0 => ⟨rfl, rfl⟩
  | k + 1 => by
    have ih := goN_st Ls Bs v k
    show (goS Ls Bs (goN Ls Bs v k) k).st = _ ∧ (goS Ls Bs (goN Ls Bs v k) k).paid = _
    unfold goS
    split
    · cases Ls[k]? with
      | none => exact ih
      | some t => exact ⟨(bgV_st _ _ _).1.trans ih.1, (bgV_st _ _ _).2.trans ih.2⟩
    · exact ih
theorem EJ.goNs (h : EJ Ls Bs pd un se B v) (hs0 : v.st = 0) : ∀ k, k ≤ Ls.length → EJ Ls Bs pd un se B (goN Ls Bs v k)
  | 0, _ => h
  | k + 1, hk => by
    have ih := EJ.goNs h hs0 k (by omega)
    show EJ Ls Bs pd un se B (goS Ls Bs (Go.Proofs.YtoemmakhbiiknaaGreat.goN Ls Bs v k) k)
    unfold goS
    split
    · rename_i hc
      simp only [Bool.and_eq_true, beq_iff_eq] at hc
      cases Ls[k]? with
      | none => exact ih
      | some t => exact ih.bg (by omega) hc.1 ((goN_st Ls Bs v k).1.trans hs0)
    · exact ih
theorem bgV_at (hk : k < v.ms.length) (hp : v.paid = false) (t : Stp) : ∃ m', (m' = 1 ∨ m' = 2) ∧ (bgV v k t).ms = v.ms.set k m' := by
  unfold bgV
  split
  · exact ⟨1, .inl rfl, rfl⟩
  · rw [if_neg (by rw [hp]; decide)]
    exact ⟨2, .inr rfl, rfl⟩
theorem goS_at (hk : k < v.ms.length) (hp : v.paid = false) (Ls : List Stp) (Bs : List IRow) : (goS Ls Bs v k).ms = v.ms ∧ (mkA v.ms k = 0 → (bfOk Bs v k = false ∨ Ls.length ≤ k)) ∨ (mkA v.ms k = 0 ∧ ∃ m', (m' = 1 ∨ m' = 2) ∧ (goS Ls Bs v k).ms = v.ms.set k m') := by
  unfold goS
  by_cases hc : (mkA v.ms (k : Int) == 0 && bfOk Bs v k) = true
  · rw [if_pos hc]
    simp only [Bool.and_eq_true, beq_iff_eq] at hc
    cases hl : Ls[k]? with
    | none => exact .inl ⟨rfl, fun _ => .inr (List.getElem?_eq_none_iff.1 hl)⟩
    | some t => exact .inr ⟨hc.1, bgV_at hk hp t⟩
  · rw [if_neg hc]
    refine .inl ⟨rfl, fun h0 => .inl ?_⟩
    cases hb : bfOk Bs v k with
    | false => rfl
    | true => exact absurd (by rw [h0, hb]; rfl) hc
theorem bfOk_same {u v : Iv} (hT : Topo Ls Bs) (h : ∀ q : Nat, mkA v.ms q = 3 ↔ mkA u.ms q = 3) (s : Nat) : bfOk Bs v s = bfOk Bs u s := by
  rw [bfOk_dall, bfOk_dall]
  unfold dallB
  refine Bool.eq_iff_iff.2 ?_
  rw [List.all_eq_true, List.all_eq_true]
  constructor
  all_goals
    intro hh x hx
    obtain ⟨q, rfl, _⟩ := hT.lt s x hx
    have := hh _ hx
    have h3 := h q
    simp only [Bool.or_self, beq_iff_eq] at this ⊢
    first | exact h3.1 this | exact h3.2 this
/-- What goOn's rounds leave. -/
structure GoI (Ls : List Stp) (Bs : List IRow) (v : Iv) (k : Nat) (u : Iv) : Prop where
  later : ∀ s : Nat, k ≤ s → mkA u.ms s = mkA v.ms s
  done : ∀ s : Nat, mkA u.ms s = 3 ↔ mkA v.ms s = 3
  shut : ∀ s : Nat, s < k → mkA u.ms s = 0 → bfOk Bs v s = false
theorem goI (hT : Topo Ls Bs) (hl : v.ms.length = Ls.length) (hp : v.paid = false) : ∀ k, k ≤ Ls.length → GoI Ls Bs v k (goN Ls Bs v k)
  | 0, _ => ⟨fun s _ => rfl, fun s => Iff.rfl, fun s h => by omega⟩
  | k + 1, hk => by
    have ih := goI hT hl hp k (by omega)
    have hkl : k < (goN Ls Bs v k).ms.length := by rw [goN_ms, hl]; omega
    have hpp : (goN Ls Bs v k).paid = false := (goN_st Ls Bs v k).2.trans hp
    have hb := bfOk_same hT ih.done k
    rcases goS_at hkl hpp Ls Bs with ⟨e, hs⟩ | ⟨h0, m', hm, e⟩
    · have e : (goN Ls Bs v (k + 1)).ms = (goN Ls Bs v k).ms := e
      refine ⟨fun s hs => by rw [e]; exact ih.later s (by omega), fun s => by rw [e]; exact ih.done s, fun s hsk h0 => ?_⟩
      rw [e] at h0
      by_cases ek : s = k
      · subst ek
        rcases hs h0 with h1 | h1
        · rw [hb] at h1; exact h1
        · omega
      · exact ih.shut s (by omega) h0
    · have e : (goN Ls Bs v (k + 1)).ms = (goN Ls Bs v k).ms.set k m' := e
      refine ⟨fun s hs => ?_, fun s => ?_, fun s hsk h1 => ?_⟩
      · rw [e, mkA_set _ hkl, if_neg (by omega)]
        exact ih.later s (by omega)
      · rw [e, mkA_set _ hkl]
        by_cases ek : s = k
        · subst ek
          rw [if_pos rfl]
          have := ih.done s
          constructor
          · intro h; omega
          · intro h; have := this.2 h; omega
        · rw [if_neg ek]
          exact ih.done s
      · rw [e, mkA_set _ hkl] at h1
        by_cases ek : s = k
        · rw [if_pos ek] at h1; omega
        · rw [if_neg ek] at h1
          exact ih.shut s (by omega) h1
/-- The states, told by the marks. -/
def FwS (Ls : List Stp) (Bs : List IRow) (v : Iv) : Prop := (∀ s : Nat, s < Ls.length → mkA v.ms s = 0 → bfOk Bs v s = false) ∧ ∃ s : Nat, s < Ls.length ∧ mkA v.ms s ≠ 3
def BkS (Ls : List Stp) (Bs : List IRow) (v : Iv) : Prop := (∀ s : Nat, s < Ls.length → (mkA v.ms s = 1 ∨ mkA v.ms s = 3) → bhOk Bs Ls.length v s = false) ∧ (∀ s : Nat, mkA v.ms s ≠ 2) ∧ ∃ s : Nat, s < Ls.length ∧ mkA v.ms s ≠ 0 ∧ mkA v.ms s ≠ 5
def SS (Ls : List Stp) (Bs : List IRow) (v : Iv) : Prop := (v.st = 0 ∧ FwS Ls Bs v) ∨ (v.st = 1 ∧ BkS Ls Bs v) ∨ (v.st = 2 ∧ ∀ s : Nat, s < Ls.length → mkA v.ms s = 3) ∨ (v.st = 3 ∧ ∀ s : Nat, mkA v.ms s = 0 ∨ mkA v.ms s = 5)
theorem anyMk_ex {q ms : List Int} (h : anyMk q ms = true) : ∃ s : Nat, s < ms.length ∧ mkA ms s ∈ q := by
  unfold anyMk at h
  obtain ⟨m, hm, hy⟩ := List.any_eq_true.1 h
  obtain ⟨y, hy1, hy2⟩ := List.any_eq_true.1 hy
  obtain ⟨s, hs⟩ := List.mem_iff_getElem?.1 hm
  have hl := (List.getElem?_eq_some_iff.1 hs).1
  refine ⟨s, hl, ?_⟩
  rw [mkA_nat, hs]
  have : m = y := by simpa using hy2
  rw [show ((some m).getD 0 : Int) = m from rfl, this]
  exact hy1
theorem anyMk_no {q ms : List Int} (h : anyMk q ms = false) {s : Nat} (hs : s < ms.length) : mkA ms s ∉ q := fun hq => by
  unfold anyMk at h
  have := List.any_eq_false.1 h _ (mkA_mem hs)
  exact this (List.any_eq_true.2 ⟨_, hq, by simp⟩)
/-- goOn, of an instance that goes forward. -/
theorem EJ.goes (h : EJ Ls Bs pd un se B v) (hT : Topo Ls Bs) (hs0 : v.st = 0) : EJ Ls Bs pd un se B (goV Ls Bs v) ∧ SS Ls Bs (goV Ls Bs v) := by
  have hI := goI hT h.len h.pd0 Ls.length (Nat.le_refl _)
  have hJ := h.goNs hs0 Ls.length (Nat.le_refl _)
  have hst := (goN_st Ls Bs v Ls.length).1.trans hs0
  have hms : (goN Ls Bs v Ls.length).ms.length = Ls.length := hJ.len
  have hsh : ∀ s : Nat, s < Ls.length → mkA (goN Ls Bs v Ls.length).ms s = 0 → bfOk Bs (goN Ls Bs v Ls.length) s = false := fun s hs h0 => by rw [bfOk_same hT hI.done s]; exact hI.shut s hs h0
  unfold goV
  rw [h.len]
  generalize goN Ls Bs v Ls.length = u at *
  split
  · rename_i ha
    obtain ⟨s, hsl, hs⟩ := anyMk_ex ha
    refine ⟨hJ, .inl ⟨hst, hsh, s, by omega, fun e => ?_⟩⟩
    rw [e] at hs
    simp at hs
  · rename_i ha
    have ha : anyMk [0, 1, 2, 4, 5] u.ms = false := by simpa using ha
    have h3 : ∀ s : Nat, s < Ls.length → mkA u.ms s = 3 := fun s hs => by
      have hr := hJ.mks _ (mkA_mem (by omega : s < u.ms.length))
      have hn := anyMk_no ha (by omega : s < u.ms.length)
      simp only [List.mem_cons, List.not_mem_nil, or_false, not_or] at hn
      omega
    refine ⟨{ hJ with snd := fun s _ h0 => by simp at h0, fw := fun h0 => by simp at h0 }, .inr (.inr (.inl ⟨rfl, h3⟩))⟩
theorem beh_gt (hT : Topo Ls Bs) {k : Nat} {x : Int} (h : x ∈ behL Bs Ls.length (k : Int)) : ∃ q : Nat, x = (q : Int) ∧ k < q ∧ q < Ls.length := by
  unfold behL at h
  split at h
  · rw [Int.toNat_natCast] at h
    obtain ⟨i, hi, rfl, hr⟩ := hitsB_mem.1 h
    obtain ⟨q, e, hq⟩ := hT.lt i _ hr
    have hl := hT.len
    exact ⟨i, rfl, by omega, by omega⟩
  · cases h
theorem bhOk_iff (s : Nat) : bhOk Bs Ls.length v s = true ↔ ∀ x ∈ behL Bs Ls.length (s : Int), mkA v.ms x = 0 ∨ mkA v.ms x = 5 := by
  unfold bhOk
  rw [List.not_any_eq_all_not, List.all_eq_true]
  constructor
  · intro h x hx
    have := h x hx
    simpa using this
  · intro h x hx
    have := h x hx
    simpa using this
theorem bhOk_same {u : Iv} (hT : Topo Ls Bs) {s : Nat} (h : ∀ q : Nat, s < q → mkA v.ms q = mkA u.ms q) : bhOk Bs Ls.length v s = bhOk Bs Ls.length u s := by
  refine Bool.eq_iff_iff.2 ?_
  rw [bhOk_iff, bhOk_iff]
  constructor
  all_goals
    intro hh x hx
    obtain ⟨q, rfl, hq, _⟩ := beh_gt hT hx
    have h1 := hh _ hx
    have h2 := h q hq
    first | (rw [← h2]; exact h1) | (rw [h2]; exact h1)
theorem uwS_at (hk : k < v.ms.length) (hl : k < Ls.length) (Bs : List IRow) : ((uwS Ls Bs v k).ms = v.ms ∧ ((mkA v.ms k = 1 ∨ mkA v.ms k = 3) → bhOk Bs Ls.length v k = false)) ∨ ((mkA v.ms k = 1 ∨ mkA v.ms k = 3) ∧ ∃ m', (m' = 4 ∨ m' = 5) ∧ (uwS Ls Bs v k).ms = v.ms.set k m') := by
  unfold uwS
  by_cases hc : ((mkA v.ms (k : Int) == 1 || mkA v.ms (k : Int) == 3) && bhOk Bs Ls.length v k) = true
  · rw [if_pos hc]
    simp only [Bool.and_eq_true, Bool.or_eq_true, beq_iff_eq] at hc
    rw [List.getElem?_eq_getElem hl]
    refine .inr ⟨hc.1, ?_⟩
    dsimp only
    split
    · exact ⟨4, .inl rfl, rfl⟩
    · exact ⟨5, .inr rfl, rfl⟩
  · rw [if_neg hc]
    refine .inl ⟨rfl, fun h1 => ?_⟩
    cases hb : bhOk Bs Ls.length v k with
    | false => rfl
    | true =>
      refine absurd ?_ hc
      rw [hb]
      rcases h1 with h1 | h1 <;> rw [h1] <;> rfl
theorem uwS_st (v : Iv) (k : Nat) : (uwS Ls Bs v k).st = v.st := by
  unfold uwS
  split
  · cases Ls[k]? with
    | none => rfl
    | some t => show Iv.st (if _ then _ else _) = _; split <;> rfl
  · rfl
theorem uwN_st (n : Nat) (v : Iv) : ∀ k, (uwN Ls Bs n v k).st = v.st
  | 0 => rfl
  | k + 1 => (uwS_st _ _).trans (uwN_st n v k)
theorem EJ.uw1 (h : EJ Ls Bs pd un se B v) (hT : Topo Ls Bs) (hk : k < Ls.length) (hs : v.st ≠ 0) : EJ Ls Bs pd un se B (uwS Ls Bs v k) := by
  unfold uwS
  split
  · rename_i hc
    simp only [Bool.and_eq_true, Bool.or_eq_true, beq_iff_eq] at hc
    have hm4 : mkA v.ms k ≠ 4 := by omega
    have hm5 : mkA v.ms k ≠ 5 := by omega
    have hpk : pot (mkA v.ms k) = 1 := by rcases hc.1 with h1 | h1 <;> rw [h1] <;> rfl
    cases Ls[k]? with
    | none => exact h
    | some t =>
      show EJ Ls Bs pd un se B (if _ then _ else _)
      split
      · refine (h.x _).upd hk (m' := 4) (st' := v.st) (ts' := v.ts) (fs := [⟨1, v.ord, k, 0, 0, true⟩]) (by omega) (by omega) rfl (fun s hs => rfl) (fun e => e) (fun e => by omega) (fun e => by omega) (fun _ => ⟨⟨⟨1, v.ord, k, 0, 0, true⟩, by simp, by simp [isUndo]⟩, fun q hq => ?_⟩) (h.noU hm4) (fun f hf s hu => ?_) (by simp) (fun f hf => ?_) (.inl (by omega)) (fun e => absurd e hs) (h.unK hm5) ?_
        · obtain ⟨q2, e, hlt, _⟩ := beh_gt hT hq
          exact ⟨by omega, (bhOk_iff k).1 hc.2 _ hq⟩
        · obtain rfl : f = _ := by simpa using hf
          exact ⟨(isUndo_step (s := k) (by simp [isUndo]) hu).symm, rfl⟩
        · obtain rfl : f = _ := by simpa using hf
          exact ⟨rfl, .inl rfl⟩
        · have := h.phi
          rw [hpk, show pot 4 = 0 from rfl, List.length_singleton]
          omega
      · have := (h.x _).upd hk (m' := 5) (st' := v.st) (ts' := v.ts) (fs := []) (B' := B) (by omega) (by omega) rfl (fun s hs => rfl) (fun e => e) (fun e => by omega) (fun e => by omega) (fun e => by omega) (h.noU hm4) (fun f hf => by cases hf) (by simp) (fun f hf => by cases hf) (.inl (by omega)) (fun e => absurd e hs) (h.unK hm5) (by
          have := h.phi
          rw [hpk, show pot 5 = 0 from rfl, List.length_nil]
          omega)
        simpa using this
  · exact h
theorem EJ.uwNs (h : EJ Ls Bs pd un se B v) (hT : Topo Ls Bs) (hs : v.st ≠ 0) : ∀ k, k ≤ Ls.length → EJ Ls Bs pd un se B (uwN Ls Bs Ls.length v k)
  | 0, _ => h
  | k + 1, hk => (EJ.uwNs h hT hs k (by omega)).uw1 hT (by omega) (by rw [uwN_st]; exact hs)
/-- What unwind's rounds leave. -/
structure UwI (Ls : List Stp) (Bs : List IRow) (v : Iv) (j : Nat) (u : Iv) : Prop where
  early : ∀ s : Nat, s < Ls.length - j → mkA u.ms s = mkA v.ms s
  shut : ∀ s : Nat, Ls.length - j ≤ s → s < Ls.length → (mkA u.ms s = 1 ∨ mkA u.ms s = 3) → bhOk Bs Ls.length u s = false
  two : ∀ s : Nat, mkA u.ms s = 2 → mkA v.ms s = 2
theorem uwI (hT : Topo Ls Bs) (hl : v.ms.length = Ls.length) : ∀ j, j ≤ Ls.length → UwI Ls Bs v j (uwN Ls Bs Ls.length v j)
  | 0, _ => ⟨fun s _ => rfl, fun s h1 h2 => by omega, fun s h => h⟩
  | j + 1, hj => by
    have ih := uwI hT hl j (by omega)
    have hkl : Ls.length - 1 - j < (uwN Ls Bs Ls.length v j).ms.length := by rw [uwN_ms, hl]; omega
    rcases uwS_at hkl (by omega : Ls.length - 1 - j < Ls.length) Bs with ⟨e, hs⟩ | ⟨h0, m', hm, e⟩
    · have e : (uwN Ls Bs Ls.length v (j + 1)).ms = (uwN Ls Bs Ls.length v j).ms := e
      refine ⟨fun s hs => by rw [e]; exact ih.early s (by omega), fun s h1 h2 h3 => ?_, fun s h => by rw [e] at h; exact ih.two s h⟩
      rw [e] at h3
      rw [bhOk_same (u := uwN Ls Bs Ls.length v j) hT (fun q _ => by rw [e])]
      by_cases es : s = Ls.length - 1 - j
      · rw [es] at h3 ⊢
        exact hs h3
      · exact ih.shut s (by omega) h2 h3
    · have e : (uwN Ls Bs Ls.length v (j + 1)).ms = (uwN Ls Bs Ls.length v j).ms.set (Ls.length - 1 - j) m' := e
      refine ⟨fun s hs => ?_, fun s h1 h2 h3 => ?_, fun s h => ?_⟩
      · rw [e, mkA_set _ hkl, if_neg (by omega)]
        exact ih.early s (by omega)
      · rw [e, mkA_set _ hkl] at h3
        by_cases es : s = Ls.length - 1 - j
        · rw [if_pos es] at h3; omega
        · rw [if_neg es] at h3
          rw [bhOk_same (u := uwN Ls Bs Ls.length v j) hT (fun q hq => by rw [e, mkA_set _ hkl, if_neg (by omega)])]
          exact ih.shut s (by omega) h2 h3
      · rw [e, mkA_set _ hkl] at h
        by_cases es : s = Ls.length - 1 - j
        · rw [if_pos es] at h; omega
        · rw [if_neg es] at h
          exact ih.two s h
/-- unwind, of an instance that goes back. -/
theorem EJ.uws (h : EJ Ls Bs pd un se B v) (hT : Topo Ls Bs) (hs1 : v.st = 1) (h2 : ∀ s : Nat, mkA v.ms s ≠ 2) : EJ Ls Bs pd un se B (uwV Ls Bs v) ∧ SS Ls Bs (uwV Ls Bs v) := by
  have hI := uwI hT h.len Ls.length (Nat.le_refl _)
  have hJ := h.uwNs hT (by omega) Ls.length (Nat.le_refl _)
  have hst := (uwN_st (Ls := Ls) (Bs := Bs) Ls.length v Ls.length).trans hs1
  unfold uwV
  rw [h.len]
  generalize uwN Ls Bs Ls.length v Ls.length = u at *
  have hn2 : ∀ s : Nat, mkA u.ms s ≠ 2 := fun s e => h2 s (hI.two s e)
  split
  · rename_i ha
    obtain ⟨s, hsl, hs⟩ := anyMk_ex ha
    have hl := hJ.len
    refine ⟨hJ, .inr (.inl ⟨hst, fun s hs => hI.shut s (by omega) hs, hn2, s, by omega, ?_⟩)⟩
    simp only [List.mem_cons, List.not_mem_nil, or_false] at hs
    omega
  · rename_i ha
    have ha : anyMk [1, 2, 3, 4] u.ms = false := by simpa using ha
    have h5 : ∀ s : Nat, mkA u.ms s = 0 ∨ mkA u.ms s = 5 := fun s => by
      by_cases hs : s < u.ms.length
      · have hr := hJ.mks _ (mkA_mem hs)
        have hn := anyMk_no ha hs
        simp only [List.mem_cons, List.not_mem_nil, or_false, not_or] at hn
        omega
      · left; exact mkA_out (by omega)
    exact ⟨{ hJ with snd := fun s _ h0 => by simp at h0, fw := fun h0 => by simp at h0 }, .inr (.inr (.inr ⟨rfl, h5⟩))⟩
/-- A pending effect is taken. -/
theorem EJ.pop {f : Eff} {a b : List Eff} (h : EJ Ls Bs pd un se (B + 1) v) (ho : v.out = []) (hpd : pd = a ++ f :: b) (hk : f.step = (k : Int)) :
    EJx Ls Bs (a ++ b) un se B k v ∧ (mkA v.ms k = 1 → v.st = 0 → ¬ isSend f k (mkA v.ts k) → ∃ g ∈ a ++ b ++ v.out, isSend g k (mkA v.ts k)) ∧ (mkA v.ms k = 2 → f.kind ≠ 2 → ∃ g ∈ a ++ b ++ v.out, isArm g k) ∧ (mkA v.ms k = 4 → isUndo f k = false → ∃ g ∈ a ++ b ++ v.out, isUndo g k = true) ∧ (isUndo f k = true → ∀ g ∈ a ++ b ++ v.out, isUndo g k = false) := by
  subst hpd
  have hin : ∀ {g : Eff}, g ∈ a ++ b ++ v.out → g ∈ a ++ f :: b ++ v.out := fun {g} hg => by
    simp only [List.mem_append, List.mem_cons] at hg ⊢
    rcases hg with (hg | hg) | hg
    · exact .inl (.inl hg)
    · exact .inl (.inr (.inr hg))
    · exact .inr hg
  have hback : ∀ {g : Eff}, g ∈ a ++ f :: b ++ v.out → g ≠ f → g ∈ a ++ b ++ v.out := fun {g} hg hne => by
    simp only [List.mem_append, List.mem_cons] at hg ⊢
    rcases hg with (hg | hg | hg) | hg
    · exact .inl (.inl hg)
    · exact absurd hg hne
    · exact .inl (.inr hg)
    · exact .inr hg
  refine ⟨⟨h.len, h.tl, h.mks, h.pd0, fun g hg => h.rng g (hin hg), fun g hg => h.sn1 g (hin hg), fun s e h1 h0 => ?_, fun s e h1 => ?_, fun s e h1 => ?_, fun g hg => h.und1 g (hin hg), fun s => ?_, h.fre, h.fw, h.seO, h.unO, ?_⟩, fun h1 h0 hn => ?_, fun h1 hn => ?_, fun h1 hn => ?_, fun hu g hg => ?_⟩
  · obtain ⟨g, hg, hh⟩ := h.snd s h1 h0
    exact ⟨g, hback hg (fun eq => by subst eq; have := hh.2.1; omega), hh⟩
  · obtain ⟨g, hg, hh⟩ := h.arm s h1
    exact ⟨g, hback hg (fun eq => by subst eq; have := hh.2; omega), hh⟩
  · obtain ⟨g, hg, hh⟩ := h.und s h1
    refine ⟨g, hback hg (fun eq => ?_), hh⟩
    subst eq
    unfold isUndo at hh
    simp only [Bool.and_eq_true, beq_iff_eq] at hh
    omega
  · have := h.und2 s
    simp only [List.countP_append, List.countP_cons] at this ⊢
    omega
  · have := h.phi
    simp only [List.length_append, List.length_cons] at this ⊢
    omega
  · obtain ⟨g, hg, hh⟩ := h.snd k h1 h0
    exact ⟨g, hback hg (fun eq => by subst eq; exact hn hh), hh⟩
  · obtain ⟨g, hg, hh⟩ := h.arm k h1
    exact ⟨g, hback hg (fun eq => by subst eq; exact hn hh.1), hh⟩
  · obtain ⟨g, hg, hh⟩ := h.und k h1
    exact ⟨g, hback hg (fun eq => by subst eq; rw [hn] at hh; cases hh), hh⟩
  · have h2 := h.und2 k
    have h3 : (a ++ b ++ v.out).countP (fun f => isUndo f k) = 0 := by
      simp only [List.countP_append, List.countP_cons, hu] at h2 ⊢
      simp at h2
      omega
    have := List.countP_eq_zero.1 h3 g hg
    cases hh : isUndo g k with
    | false => rfl
    | true => exact absurd hh this
theorem EJ.out0 (h : EJ Ls Bs pd un se B v) : EJ Ls Bs (pd ++ v.out) un se B { v with out := [] } :=
  ⟨h.len, h.tl, h.mks, h.pd0, by simpa using h.rng, by simpa using h.sn1, by simpa using h.snd, by simpa using h.arm, by simpa using h.und, by simpa using h.und1, by simpa using h.und2, h.fre, h.fw, h.seO, h.unO, by simpa using h.phi⟩
theorem EJ.sent (h : EJ Ls Bs pd un se B v) {k : Nat} (hk : mkA v.ms k ≠ 0) : EJ Ls Bs pd un (fun s => se s || s == k) B v := by
  have hn : ∀ s : Nat, (se s || s == k) = true → mkA v.ms s ≠ 0 := fun s hs => by
    simp only [Bool.or_eq_true, beq_iff_eq] at hs
    rcases hs with hs | rfl
    · exact h.seO s hs
    · exact hk
  exact { h with seO := hn }
/-- turn. -/
theorem EJ.tn1 (h : EJ Ls Bs pd un se B v) (hk : k < Ls.length) (hs : v.st ≠ 0) : EJ Ls Bs pd un se B (tnS v k) := by
  unfold tnS
  split
  · rename_i hc
    have hc : mkA v.ms k = 2 := by simpa using hc
    refine (h.x _).upd hk (m' := 5) (st' := v.st) (ts' := v.ts) (fs := [⟨3, v.ord, k, 0, 0, false⟩]) (by omega) (by omega) rfl (fun s hs => rfl) (fun e => e) (fun e => by omega) (fun e => by omega) (fun e => by omega) (h.noU (by omega)) (fun f hf s hu => ?_) (by simp) (fun f hf => ?_) (.inl (by omega)) (fun e => absurd e hs) (h.unK (by omega)) ?_
    · obtain rfl : f = _ := by simpa using hf
      simp [isUndo] at hu
    · obtain rfl : f = _ := by simpa using hf
      exact ⟨rfl, .inr (.inr rfl)⟩
    · have := h.phi
      rw [hc, show pot 5 = 0 from rfl, show pot 2 = 2 from rfl, List.length_singleton]
      omega
  · exact h
theorem tnS_st (v : Iv) (k : Nat) : (tnS v k).st = v.st := by unfold tnS; split <;> rfl
theorem tnN_st (v : Iv) : ∀ k, (tnN v k).st = v.st
  | 0 => rfl
  | k + 1 => (tnS_st _ _).trans (tnN_st v k)
theorem EJ.tnNs (h : EJ Ls Bs pd un se B v) (hs : v.st ≠ 0) : ∀ k, k ≤ Ls.length → EJ Ls Bs pd un se B (tnN v k)
  | 0, _ => h
  | k + 1, hk => (EJ.tnNs h hs k (by omega)).tn1 (by omega) (by rw [tnN_st]; exact hs)
theorem tn_no2 (v : Iv) : ∀ k, k ≤ v.ms.length → ∀ s : Nat, s < k → mkA (tnN v k).ms s ≠ 2
  | 0, _, s, h => by omega
  | k + 1, hk, s, h => by
    have ih := tn_no2 v k (by omega) s
    have hl : k < (tnN v k).ms.length := by rw [tnN_ms]; omega
    show mkA (tnS (tnN v k) k).ms s ≠ 2
    unfold tnS
    split
    · show mkA ((tnN v k).ms.set k 5) s ≠ 2
      rw [mkA_set _ hl]
      by_cases e : s = k
      · rw [if_pos e]; decide
      · rw [if_neg e]; exact ih (by omega)
    · rename_i hc
      by_cases e : s = k
      · subst e; simpa using hc
      · exact ih (by omega)
theorem EJ.turns (h : EJ Ls Bs pd un se B v) (hT : Topo Ls Bs) (hs : v.st = 1) : EJ Ls Bs pd un se B (uwV Ls Bs (tnN v v.ms.length)) ∧ SS Ls Bs (uwV Ls Bs (tnN v v.ms.length)) := by
  have hl := h.len
  refine (h.tnNs (by omega) v.ms.length (by omega)).uws hT ((tnN_st v _).trans hs) (fun s => ?_)
  by_cases hsl : s < v.ms.length
  · exact tn_no2 v _ (Nat.le_refl _) s hsl
  · rw [mkA_out (by rw [tnN_ms]; omega)]; decide
theorem FwS.move (h : FwS Ls Bs v) (hT : Topo Ls Bs) (hl : v.ms.length = Ls.length) (hk : k < Ls.length) {m' : Int} (h0 : mkA v.ms k ≠ 3) (h1 : m' ≠ 0) (h3 : m' ≠ 3) {ts' : List Int} {o' : List Eff} : FwS Ls Bs { v with ms := v.ms.set k m', ts := ts', out := o' } := by
  have hkl : k < v.ms.length := by omega
  refine ⟨fun s hs hz => ?_, k, hk, ?_⟩
  · have hz : mkA (v.ms.set k m') s = 0 := hz
    rw [mkA_set _ hkl] at hz
    by_cases e : s = k
    · rw [if_pos e] at hz; exact absurd hz h1
    · rw [if_neg e] at hz
      rw [bfOk_same (u := v) hT (fun q => ?_)]
      · exact h.1 s hs hz
      · show mkA (v.ms.set k m') q = 3 ↔ _
        rw [mkA_set _ hkl]
        by_cases e : q = k
        · subst e
          rw [if_pos rfl]
          exact ⟨fun e => absurd e h3, fun e => absurd e h0⟩
        · rw [if_neg e]
  · show mkA (v.ms.set k m') k ≠ 3
    rw [mkA_set _ hkl, if_pos rfl]
    exact h3
/-- A mark that is neither Idle, Done nor Undone tells the state. -/
theorem SS.fwd (h : SS Ls Bs v) (hk : k < Ls.length) (h2 : mkA v.ms k = 2) : v.st = 0 ∧ FwS Ls Bs v := by
  rcases h with h | ⟨_, h⟩ | ⟨_, h⟩ | ⟨_, h⟩
  · exact h
  · exact absurd h2 (h.2.1 k)
  · have := h k hk; omega
  · have := h k; omega
theorem SS.fw1 (h : SS Ls Bs v) (h0 : v.st = 0) : FwS Ls Bs v := by
  rcases h with h | ⟨h1, _⟩ | ⟨h1, _⟩ | ⟨h1, _⟩
  · exact h.2
  all_goals omega
theorem SS.bck (h : SS Ls Bs v) (hk : k < Ls.length) (h4 : mkA v.ms k = 4) (h0 : v.st ≠ 0) : v.st = 1 ∧ BkS Ls Bs v := by
  rcases h with h | h | ⟨_, h⟩ | ⟨_, h⟩
  · exact absurd h.1 h0
  · exact h
  · have := h k hk; omega
  · have := h k; omega
/-- Fire. -/
theorem EJ.fire {f : Eff} {a b : List Eff} (h : EJ Ls Bs pd un se (B + 1) v) (hT : Topo Ls Bs) (hS : SS Ls Bs v) (ho : v.out = []) (hpd : pd = a ++ f :: b) (hk : f.step = (k : Int)) (hf : f.kind = 2) {t : Stp} (ht : Ls[k]? = some t) : EJ Ls Bs (a ++ b) un se B (frV Ls Bs v t k) ∧ SS Ls Bs (frV Ls Bs v t k) := by
  have hkl : k < Ls.length := (List.getElem?_eq_some_iff.1 ht).1
  obtain ⟨hx, c1, c2, c4, _⟩ := h.pop ho hpd hk
  have hnu : isUndo f k = false := by simp [isUndo, hf]
  have hns : ¬ isSend f k (mkA v.ts k) := fun e => by have := e.1; omega
  have hlm := h.len
  have hkt : k < v.ts.length := by rw [h.tl]; exact hkl
  unfold frV
  split
  · rename_i hc
    have hc : mkA v.ms k ≠ 2 := by simpa using hc
    exact ⟨hx.to (fun e e0 => c1 e e0 hns) (fun e => absurd e hc) (fun e => c4 e hnu), hS⟩
  · rename_i hc
    have hc : mkA v.ms k = 2 := by simpa using hc
    obtain ⟨h0, hF⟩ := hS.fwd hkl hc
    have hno : ∀ g ∈ a ++ b ++ v.out, isUndo g k = false := fun g hg => by
      cases hu : isUndo g k with
      | false => rfl
      | true => have := hx.und1 g hg k hu; omega
    have hunk : ∀ s : Nat, un s = true → (s = k ∧ (1 : Int) = 5) ∨ (un s = true ∧ s ≠ k) := fun s hs => .inr ⟨hs, fun e => by subst e; have := h.unO s hs; omega⟩
    have hunk5 : ∀ s : Nat, un s = true → (s = k ∧ (5 : Int) = 5) ∨ (un s = true ∧ s ≠ k) := fun s hs => .inr ⟨hs, fun e => by subst e; have := h.unO s hs; omega⟩
    split
    · refine ⟨hx.upd hkl (m' := 1) (st' := v.st) (ts' := v.ts.set k (mkA v.ts k + 1)) (fs := [⟨1, v.ord, k, mkA v.ts k + 1, 0, false⟩]) (by omega) (by omega) (by simp) (fun s hs => by rw [mkA_set v.ts hkt, if_neg hs]) (fun e => e) (fun _ _ => ⟨⟨1, v.ord, k, mkA v.ts k + 1, 0, false⟩, by simp, rfl, rfl, by rw [mkA_set v.ts hkt, if_pos rfl], rfl⟩) (fun e => by omega) (fun e => by omega) hno (fun g hg s hu => ?_) (by simp) (fun g hg => ?_) (.inr (.inr h0)) (fun _ => by omega) hunk ?_, .inl ⟨h0, hF.move hT hlm hkl (by omega) (by omega) (by omega)⟩⟩
      · obtain rfl : g = _ := by simpa using hg
        simp [isUndo] at hu
      · obtain rfl : g = _ := by simpa using hg
        exact ⟨rfl, .inl rfl⟩
      · have := hx.phi
        rw [hc, show pot 1 = 1 from rfl, show pot 2 = 2 from rfl, List.length_singleton]
        omega
    · have hE := hx.upd hkl (m' := 5) (st' := 1) (ts' := v.ts) (fs := []) (B' := B) (un' := un) (by omega) (by omega) rfl (fun s hs => rfl) (fun e => by omega) (fun e => by omega) (fun e => by omega) (fun e => by omega) hno (fun g hg => by cases hg) (by simp) (fun g hg => by cases hg) (.inr (.inr h0)) (fun e => by omega) hunk5 (by
        have := hx.phi
        rw [hc, show pot 5 = 0 from rfl, show pot 2 = 2 from rfl, List.length_nil]
        omega)
      rw [List.append_nil] at hE
      have := hE.turns hT rfl
      exact this
/-- Reply to what was to be done. -/
theorem EJ.reply {f : Eff} {a b : List Eff} (h : EJ Ls Bs pd un se (B + 1) v) (hT : Topo Ls Bs) (hS : SS Ls Bs v) (ho : v.out = []) (hpd : pd = a ++ f :: b) (hk : f.step = (k : Int)) (hf : f.kind = 1) (hfu : f.undo = false) {t : Stp} (ht : Ls[k]? = some t) (code : Int) {B' : Nat} (hB : B ≤ B') (hB2 : code ≠ 0 → B + 2 ≤ B') :
    EJ Ls Bs (a ++ b) un se B' (rpV Ls Bs v t k f.tr false code) ∧ SS Ls Bs (rpV Ls Bs v t k f.tr false code) := by
  have hkl : k < Ls.length := (List.getElem?_eq_some_iff.1 ht).1
  obtain ⟨hx, c1, c2, c4, _⟩ := h.pop ho hpd hk
  have hnu : isUndo f k = false := by simp [isUndo, hfu]
  have hlm := h.len
  unfold rpV
  rw [if_neg (by decide)]
  split
  · rename_i hc
    simp only [Bool.or_eq_true, bne_iff_ne] at hc
    refine ⟨(hx.to (fun e e0 => c1 e e0 (fun hs => ?_)) (fun e => c2 e (by omega)) (fun e => c4 e hnu)).mono hB, hS⟩
    rcases hc with hc | hc | hc
    · exact hc e0
    · exact hc e
    · exact hc hs.2.2.1.symm
  · rename_i hc
    simp only [Bool.or_eq_true, bne_iff_ne, not_or, Decidable.not_not] at hc
    obtain ⟨h0, hm, htr⟩ := hc
    have hF := hS.fw1 h0
    have hno : ∀ g ∈ a ++ b ++ v.out, isUndo g k = false := fun g hg => by
      cases hu : isUndo g k with
      | false => rfl
      | true => have := hx.und1 g hg k hu; omega
    have hunk : ∀ m' : Int, ∀ s : Nat, un s = true → (s = k ∧ m' = 5) ∨ (un s = true ∧ s ≠ k) := fun m' s hs => .inr ⟨hs, fun e => by subst e; have := h.unO s hs; omega⟩
    split
    · have hE := hx.upd hkl (m' := 3) (st' := v.st) (ts' := v.ts) (fs := []) (B' := B) (un' := un) (by omega) (by omega) rfl (fun s hs => rfl) (fun e => e) (fun e => by omega) (fun e => by omega) (fun e => by omega) hno (fun g hg => by cases hg) (by simp) (fun g hg => by cases hg) (.inr (.inr h0)) (fun e => by omega) (hunk 3) (by
        have := hx.phi
        rw [hm, show pot 3 = 1 from rfl, show pot 1 = 1 from rfl, List.length_nil]
        omega)
      rw [List.append_nil] at hE
      exact (hE.mono hB).goes hT h0
    · rename_i hc0
      simp only [Bool.or_eq_true, beq_iff_eq, not_or] at hc0
      split
      · refine ⟨hx.upd hkl (m' := 2) (st' := v.st) (ts' := v.ts) (fs := [⟨2, v.ord, k, 0, t.ev, false⟩]) (by omega) (by omega) rfl (fun s hs => rfl) (fun e => e) (fun e => by omega) (fun _ => ⟨⟨2, v.ord, k, 0, t.ev, false⟩, by simp, rfl, rfl⟩) (fun e => by omega) hno (fun g hg s hu => ?_) (by simp) (fun g hg => ?_) (.inr (.inr h0)) (fun _ => by omega) (hunk 2) ?_, .inl ⟨h0, hF.move hT hlm hkl (by omega) (by omega) (by omega)⟩⟩
        · obtain rfl : g = _ := by simpa using hg
          simp [isUndo] at hu
        · obtain rfl : g = _ := by simpa using hg
          exact ⟨rfl, .inr (.inl rfl)⟩
        · have := hx.phi
          have := hB2 hc0.1
          rw [hm, show pot 1 = 1 from rfl, show pot 2 = 2 from rfl, List.length_singleton]
          omega
      · have hE := hx.upd hkl (m' := 5) (st' := 1) (ts' := v.ts) (fs := []) (B' := B) (un' := un) (by omega) (by omega) rfl (fun s hs => rfl) (fun e => by omega) (fun e => by omega) (fun e => by omega) (fun e => by omega) hno (fun g hg => by cases hg) (by simp) (fun g hg => by cases hg) (.inr (.inr h0)) (fun e => by omega) (hunk 5) (by
          have := hx.phi
          rw [hm, show pot 5 = 0 from rfl, show pot 1 = 1 from rfl, List.length_nil]
          omega)
        rw [List.append_nil] at hE
        exact (hE.mono hB).turns hT rfl
/-- What the law asks of a request to undo. -/
theorem EJ.undoing {f : Eff} (h : EJ Ls Bs pd un se B v) (hf : f ∈ pd) (hk : f.step = (k : Int)) (h1 : f.kind = 1) (hu : f.undo = true) : mkA v.ms k = 4 ∧ un k = false ∧ ∀ q : Nat, (q : Int) ∈ behL Bs Ls.length k → se q = true → mkA v.ms q = 5 := by
  have h4 := h.und1 f (List.mem_append_left _ hf) k (by simp [isUndo, h1, hu, hk])
  refine ⟨h4, ?_, fun q hq hs => ?_⟩
  · cases hh : un k with
    | false => rfl
    | true => have := h.unO k hh; omega
  · rcases h.fre k h4 q hq with e | e
    · exact absurd e (h.seO q hs)
    · exact e
/-- Reply to a request to undo. -/
theorem EJ.undo {f : Eff} {a b : List Eff} (h : EJ Ls Bs pd un se (B + 1) v) (hT : Topo Ls Bs) (hS : SS Ls Bs v) (ho : v.out = []) (hpd : pd = a ++ f :: b) (hk : f.step = (k : Int)) (hf : f.kind = 1) (hfu : f.undo = true) (hkl : k < Ls.length) (t : Stp) (tr code : Int) :
    EJ Ls Bs (a ++ b) (fun s => un s || s == k) se B (rpV Ls Bs v t k tr true code) ∧ SS Ls Bs (rpV Ls Bs v t k tr true code) := by
  obtain ⟨hx, c1, c2, c4, c5⟩ := h.pop ho hpd hk
  have hfm : f ∈ pd := by rw [hpd]; simp
  obtain ⟨h4, hun, _⟩ := h.undoing hfm hk hf hfu
  have h0 : v.st ≠ 0 := fun e => (h.fw e k).1 h4
  obtain ⟨h1, hB⟩ := hS.bck hkl h4 h0
  have hlm := h.len
  unfold rpV
  rw [if_pos rfl, if_pos (by rw [h4]; rfl)]
  have hE := hx.upd hkl (m' := 5) (st' := v.st) (ts' := v.ts) (fs := []) (B' := B) (un' := fun s => un s || s == k) (by omega) (by omega) rfl (fun s hs => rfl) (fun e => e) (fun e => by omega) (fun e => by omega) (fun e => by omega) (c5 (by simp [isUndo, hf, hfu, hk])) (fun g hg => by cases hg) (by simp) (fun g hg => by cases hg) (.inl (by omega)) (fun e => absurd e h0) (fun s hs => by
    simp only [Bool.or_eq_true, beq_iff_eq] at hs
    by_cases e : s = k
    · exact .inl ⟨e, rfl⟩
    · exact .inr ⟨by rcases hs with hs | hs; exact hs; exact absurd hs e, e⟩) (by
    have := hx.phi
    rw [h4, show pot 5 = 0 from rfl, show pot 4 = 0 from rfl, List.length_nil]
    omega)
  rw [List.append_nil] at hE
  refine hE.uws hT h1 (fun s => ?_)
  show mkA (v.ms.set k 5) s ≠ 2
  rw [mkA_set _ (by omega)]
  by_cases e : s = k
  · rw [if_pos e]; decide
  · rw [if_neg e]; exact hB.2.1 s
/-- A timer taken down. -/
theorem EJ.drop {f : Eff} {a b : List Eff} (h : EJ Ls Bs pd un se (B + 1) v) (ho : v.out = []) (hpd : pd = a ++ f :: b) (hk : f.step = (k : Int)) (hf : f.kind = 3) : EJ Ls Bs (a ++ b) un se B v := by
  obtain ⟨hx, c1, c2, c4, _⟩ := h.pop ho hpd hk
  exact hx.to (fun e e0 => c1 e e0 (fun hs => by have := hs.1; omega)) (fun e => c2 e (by omega)) (fun e => c4 e (by simp [isUndo, hf]))
/-- Cancel. -/
theorem EJ.cancel (h : EJ Ls Bs pd un se B v) (hT : Topo Ls Bs) : EJ Ls Bs pd un se B (turnV Ls Bs v) ∧ SS Ls Bs (turnV Ls Bs v) := h.st1.turns hT rfl
/-- Start. -/
theorem EJ.start (hT : Topo Ls Bs) (o : Int) : EJ Ls Bs [] (fun _ => false) (fun _ => false) (3 * Ls.length) (goV Ls Bs (newV o Ls.length)) ∧ SS Ls Bs (goV Ls Bs (newV o Ls.length)) := by
  have hz : ∀ s : Nat, mkA (newV o Ls.length).ms s = 0 := fun s => by
    rw [mkA_nat]
    show ((List.replicate Ls.length (0 : Int))[s]?).getD 0 = 0
    rw [List.getElem?_replicate]
    split <;> rfl
  have hE : EJ Ls Bs [] (fun _ => false) (fun _ => false) (3 * Ls.length) (newV o Ls.length) := by
    refine ⟨by simp [newV], by simp [newV], fun m hm => ?_, rfl, fun f hf => by simp [newV] at hf, fun f hf => by simp [newV] at hf, fun s h1 => ?_, fun s h1 => ?_, fun s h1 => ?_, fun f hf => by simp [newV] at hf, fun s => by simp [newV], fun s h1 => ?_, fun _ s => ?_, fun s h1 => (by cases h1), fun s h1 => (by cases h1), ?_⟩
    · have : m = 0 := List.eq_of_mem_replicate hm
      omega
    · rw [hz] at h1; omega
    · rw [hz] at h1; omega
    · rw [hz] at h1; omega
    · rw [hz] at h1; omega
    · rw [hz]; omega
    · show 0 + 0 + potS (List.replicate Ls.length 0) ≤ _
      simp [potS, pot]
      omega
  exact hE.goes hT rfl
/-- The end: nothing is pending. -/
theorem EJ.ends (h : EJ Ls Bs [] un se B v) (hT : Topo Ls Bs) (hS : SS Ls Bs v) (ho : v.out = []) : (v.st = 2 ∧ (∀ s : Nat, s < Ls.length → mkA v.ms s = 3) ∧ ∀ s : Nat, un s = false) ∨ (v.st = 3 ∧ ∀ s : Nat, mkA v.ms s = 0 ∨ mkA v.ms s = 5) := by
  have hno : ∀ f, f ∉ ([] : List Eff) ++ v.out := fun f hf => by rw [ho] at hf; simp at hf
  have hlm := h.len
  rcases hS with ⟨h0, hF⟩ | ⟨h1, hB⟩ | ⟨h2, h3⟩ | ⟨h3, h5⟩
  · exfalso
    obtain ⟨s, hs, hn⟩ := hF.2
    refine absurd ?_ hn
    clear hn
    induction s using Nat.strongRecOn with
    | _ s ih =>
      have hr := h.mks _ (mkA_mem (by omega : s < v.ms.length))
      have hf := h.fw h0 s
      have n1 : mkA v.ms s ≠ 1 := fun e => by obtain ⟨f, hf, _⟩ := h.snd s e h0; exact hno f hf
      have n2 : mkA v.ms s ≠ 2 := fun e => by obtain ⟨f, hf, _⟩ := h.arm s e; exact hno f hf
      have n0 : mkA v.ms s ≠ 0 := fun e => by
        have hb := hF.1 s hs e
        have : bfOk Bs v s = true := by
          rw [bfOk_dall]
          unfold dallB
          rw [List.all_eq_true]
          intro x hx
          obtain ⟨q, rfl, hq⟩ := hT.lt s x hx
          have h3 := ih q hq (by omega)
          simp only [Bool.or_self, beq_iff_eq]
          exact h3
        rw [hb] at this
        cases this
      omega
  · exfalso
    obtain ⟨s, hs, hn0, hn5⟩ := hB.2.2
    have hall : ∀ j s : Nat, s < Ls.length → Ls.length ≤ s + j → mkA v.ms s = 0 ∨ mkA v.ms s = 5 := by
      intro j
      induction j with
      | zero => intro s hs hj; omega
      | succ j ih =>
        intro s hs hj
        have hr := h.mks _ (mkA_mem (by omega : s < v.ms.length))
        have n4 : mkA v.ms s ≠ 4 := fun e => by obtain ⟨f, hf, _⟩ := h.und s e; exact hno f hf
        have n2 := hB.2.1 s
        have n13 : ¬ (mkA v.ms s = 1 ∨ mkA v.ms s = 3) := fun e => by
          have hb := hB.1 s hs e
          have : bhOk Bs Ls.length v s = true := (bhOk_iff s).2 (fun x hx => by
            obtain ⟨q, rfl, hq, hql⟩ := beh_gt hT hx
            exact ih q hql (by omega))
          rw [hb] at this
          cases this
        omega
    rcases hall Ls.length s hs (by omega) with e | e
    · exact hn0 e
    · exact hn5 e
  · refine .inl ⟨h2, h3, fun s => ?_⟩
    cases hu : un s with
    | false => rfl
    | true =>
      have e5 := h.unO s hu
      by_cases hs : s < Ls.length
      · have := h3 s hs; omega
      · rw [mkA_out (by omega)] at e5; omega
  · exact .inr ⟨h3, h5⟩
end
theorem idx_take {ds : List Nat} {p k : Nat} (h : k ∈ ds.take p) : ds.idxOf k < p := by
  induction ds generalizing p with
  | nil => simp at h
  | cons a ds ih =>
    cases p with
    | zero => simp at h
    | succ p =>
      rw [List.take_succ_cons, List.mem_cons] at h
      rw [List.idxOf_cons]
      by_cases e : a = k
      · simp [e]
      · have hb : (a == k) = false := by simpa using e
        rw [hb]
        simp only [cond_false]
        rcases h with h | h
        · exact absurd h.symm e
        · have := ih h; omega
theorem topo_of {l : List Stp} {ds : List Nat} {Ls : List Stp} {Bs : List IRow} (h : PlG l ds Ls Bs) (ho : OrdOk (grf l) ds) (hn : Ls.length ≤ 40) : Topo Ls Bs := by
  refine ⟨by rw [h.bs, h.ls], hn, fun s x hx => ?_⟩
  by_cases hs : s < Bs.length
  · have hsd : s < ds.length := by rw [← h.bs]; exact hs
    obtain ⟨b, h1, h2⟩ := h.row s ds[s] (List.getElem?_eq_getElem hsd)
    rw [rowAt_in h1] at hx
    obtain ⟨k, hk, rfl⟩ := (h2.2 x).1 hx
    exact ⟨_, rfl, idx_take (ho.before s _ (List.getElem?_eq_getElem hsd) k hk)⟩
  · exfalso
    unfold rowAt at hx
    rw [if_pos (by omega), Int.toNat_natCast, List.getElem?_eq_none (by omega)] at hx
    simp at hx

end Go.Proofs.YtoemmakhbiiknaaGreat
