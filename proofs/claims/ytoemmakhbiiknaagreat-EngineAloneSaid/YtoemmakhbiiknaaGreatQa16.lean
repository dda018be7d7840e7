/-
  (*Engine).Paid, (*Engine).Cancel, at an instance that is there.
  (*Engine).Fire, at an instance that is there.
  Plain: what every call keeps of an instance's numbers (its order, its tries' bounds, its effects' order).
  EngineAlone: all instances, all plans, the document's engine: what a call keeps of them.
  EngineAlone: the engine's calls over all instances.
-/
import Derived.Test.YtoemmakhbiiknaaGreatQa15
namespace Go.Proofs.YtoemmakhbiiknaaGreat
open Go.RowKit Go.WideShapes Go.ChangeShapes Go.ChangeAt Go.Deep
set_option linter.unusedVariables false

section
variable {base base2 I P : Nat} {nm : ByteArray} {Ls : List Stp} {Bs : List IRow} {ask : Int} {y y1 y2 : Pw} {v v1 v2 : Iv} {l l1 l2 : Il} {w w' w1 w2 : World} {X : Nat → Prop}
def evB (Ls : List Stp) (s : Nat) : Bool := match Ls[s]? with | some t => !t.event.toList.isEmpty | none => false
def pdC (Ls : List Stp) (v : Iv) (s : Nat) : Bool := v.st == 0 && (mkA v.ms s == 2 && evB Ls s)
def pdN (Ls : List Stp) (v : Iv) : Nat → Iv
  | 0 => v
  | k + 1 => if pdC Ls (pdN Ls v k) k = true then { pdN Ls v k with ms := (pdN Ls v k).ms.set k 3, out := (pdN Ls v k).out ++ [⟨3, (pdN Ls v k).ord, k, 0, 0, false⟩] } else pdN Ls v k
def pdA (Ls : List Stp) (v : Iv) : Nat → Bool
  | 0 => false
  | k + 1 => pdA Ls v k || pdC Ls (pdN Ls v k) k
def paidV (Ls : List Stp) (Bs : List IRow) (v : Iv) : Iv := if pdA Ls { v with paid := true } v.ms.length = true then goV Ls Bs (pdN Ls { v with paid := true } v.ms.length) else pdN Ls { v with paid := true } v.ms.length
theorem pdN_ms (Ls : List Stp) (v : Iv) : ∀ k, (pdN Ls v k).ms.length = v.ms.length
  | 0 => rfl
  | k + 1 => by
    show (if _ then _ else _ : Iv).ms.length = _
    split
    · simp [pdN_ms Ls v k]
    · exact pdN_ms Ls v k
theorem pdN_out (Ls : List Stp) (v : Iv) : ∀ k, (pdN Ls v k).out.length ≤ v.out.length + k
  | 0 => Nat.le_refl _
  | k + 1 => by
    have h2 := pdN_out Ls v k
    show (if _ then _ else _ : Iv).out.length ≤ _
    split
    · simp; omega
    · omega
theorem pdN_st (Ls : List Stp) (v : Iv) : ∀ k, (pdN Ls v k).st = v.st
  | 0 => rfl
  | k + 1 => by
    show (if _ then _ else _ : Iv).st = _
    split
    · exact pdN_st Ls v k
    · exact pdN_st Ls v k
set_option maxRecDepth 100000 in
set_option maxHeartbeats 32000000 in
theorem paid_any (h : InP base base2 I P nm Ls Bs ask y v l w) (ho : v.out.length ≤ 1000) (xv : Value) (o : Int)
    (hat : Calls Tryz.prog 28 #[xv, .int .i64 o] w fun e w' => e = .returned (.tuple #[.pointer (some ⟨I, 0, none⟩), .int .i64 0]) ∧ w' = w) :
    Calls Tryz.prog 12 #[xv, .int .i64 o] w (EffR base base2 I P nm Ls Bs ask y v l (paidV Ls Bs v) w) := by
  have HAT := hid (hat)
  have HO := hid ho
  have i2 : w.cell? ⟨I, 2, none⟩ = some (.bool v.paid) := h.i.b.cell 2
  have f2 := h.i.b.free 2
  have i3 : w.cell? ⟨I, 3, none⟩ = some (.slice l.MA v.ms.length l.mc) := h.i.b.cell 3
  have lI := h.i.b.lt
  have hn := h.i.n
  obtain ⟨s1, s2⟩ := h.i.setPaid (X := fun _ => False) true
  have HU := hid (And.intro (h.upd s1 s2 rfl) s2)
  obtain ⟨n, hnn⟩ : ∃ n, n = v.ms.length := ⟨_, rfl⟩
  rw [← hnn] at i3 hn
  obtain ⟨u, hu⟩ : ∃ u : Iv, u = { v with paid := true } := ⟨_, rfl⟩
  rw [← hu] at HU
  have HV := hid (show paidV Ls Bs v = if pdA Ls u n = true then goV Ls Bs (pdN Ls u n) else pdN Ls u n from by unfold paidV; rw [← hu, ← hnn])
  have HUL := hid (show u.ms.length = n ∧ u.out.length = v.out.length ∧ u.st = v.st from by rw [hu]; exact ⟨hnn.symm, rfl, rfl⟩)
  have HNL := hid (show n = Ls.length from by rw [hnn]; exact h.mn)
  clear h hnn s1 s2 hu ho hat
  go_enter Tryz.func12, Tryz.ntmps12
  go_wp2_with fail
  refine HAT.out.mono ?_
  rintro e w0 ⟨rfl, rfl⟩
  clear HAT
  go_wp2_with fail
  go_loopw [8, 9, 10, 30] (fun an _a _b i wr => ∃ (k : Nat) (l1 : Il), k ≤ n ∧ i = .int .i64 k ∧ an = .bool (pdA Ls u k) ∧ Hid (InP base base2 I P nm Ls Bs ask y (pdN Ls u k) l1 wr ∧ Mw I P Ls Bs y v l y (pdN Ls u k) l1 w0 wr)) (fun _an _a _b i _ => n - nOf i)
  case atStart => exact ⟨0, l, Nat.zero_le _, rfl, rfl, hid ⟨HU.out.1, Mw.of HU.out.2⟩⟩
  case round =>
    obtain ⟨k, l1, hk, rfl, rfl, HJ⟩ := hrel
    clear i3 lI i2 f2 HU
    by_cases hlt : k < n
    · have hku : k < (pdN Ls u k).ms.length := by rw [pdN_ms, HUL.out.1]; exact hlt
      obtain ⟨gm, hgm, lgm⟩ := HJ.out.1.i.ma hku
      have HGM := hid hgm
      have HML := hid (HJ.out.2.m.s.1.1.symm.trans hgm)
      obtain ⟨m, hm⟩ : ∃ m, (pdN Ls u k).ms[k]? = some m := ⟨_, List.getElem?_eq_getElem hku⟩
      have cm : wr.cell? ⟨gm, k, none⟩ = some (.int .i64 m) := HJ.out.1.i.mark hgm hm
      have hmk : mkA (pdN Ls u k).ms k = m := by simp [mkA, List.getD, hm]
      have HMK := hid hmk
      have HKU := hid hku
      have HOL := hid (pdN_out Ls u k)
      have HMV := hid hm
      have hLs : k < Ls.length := by rw [← HNL.out]; exact hlt
      obtain ⟨t, ht⟩ : ∃ t, Ls[k]? = some t := ⟨_, List.getElem?_eq_getElem hLs⟩
      have HT := hid ht
      have i1 : wr.cell? ⟨I, 1, none⟩ = some (.int .i64 (pdN Ls u k).st) := HJ.out.1.i.b.cell 1
      have i5 : wr.cell? ⟨I, 5, none⟩ = some (.pointer (some ⟨P, 0, none⟩)) := HJ.out.1.i.b.cell 5
      have lI := HJ.out.1.i.b.lt
      have HNS : Hid (pdC Ls (pdN Ls u k) k = false → pdN Ls u (k + 1) = pdN Ls u k ∧ pdA Ls u (k + 1) = pdA Ls u k) := hid (fun hc => ⟨by
        show (if _ then _ else _) = _
        rw [if_neg (by rw [hc]; decide)], by
        show (pdA Ls u k || pdC Ls (pdN Ls u k) k) = _
        rw [hc]; simp⟩)
      clear hmk hm hku hgm ht
      rw [HML.out]
      obtain ⟨st, hstt⟩ : ∃ st, st = (pdN Ls u k).st := ⟨_, rfl⟩
      rw [← hstt] at i1
      have HST := hid hstt
      clear hstt
      cases hz : (st == 0) with
      | false =>
        have HC := hid (HNS.out (by unfold pdC; rw [← HST.out, hz]; rfl))
        go_wp2_with fail
        go_roundw
        case rel => exact ⟨k + 1, l1, by omega, by go_num, by rw [HC.out.2], by rw [HC.out.1]; exact HJ⟩
        case measure => simp [nOf]; omega
      | true =>
        have HZ := hid hz
        cases hz2 : (m == 2) with
        | false =>
          have HC := hid (HNS.out (by unfold pdC; rw [HMK.out, hz2]; simp))
          go_wp2_with fail
          go_roundw
          case rel => exact ⟨k + 1, l1, by omega, by go_num, by rw [HC.out.2], by rw [HC.out.1]; exact HJ⟩
          case measure => simp [nOf]; omega
        | true =>
          have HZ2 := hid hz2
          have KS := hid (step_in HJ.out.1.p.p k t HT.out (HJ.out.1.p.aft t (List.mem_of_getElem? HT.out)))
          go_wp2_with fail
          refine KS.out.mono ?_
          rintro e w6 ⟨A6, cap6, rfl, _, hb6⟩
          have HI6 := hid (HJ.out.1.next hb6)
          have HM6 := hid (HJ.out.2.next hb6)
          clear KS i5 i1 lI hb6 HJ cm lgm
          have HEV := hid (show evB Ls k = !t.event.toList.isEmpty from by unfold evB; rw [HT.out])
          obtain ⟨xn, xv2, xu, xe, xf, xr, xy, xw, xA, xc, xl⟩ := t
          rw [show (enSt (twn ⟨xn, xv2, xu, xe, xf, xr, xy, xw, xA, xc, xl⟩ A6 cap6)).toArray = #[.string xn, .string xv2, .string xu, .string xe, .bool xf, .int .i64 xr, .int .i64 xy, .int .i64 xw, .slice A6 xl.length cap6] from rfl]
          have hfd := fieldE13 (.string xn) (.string xv2) (.string xu) (.string xe) (.bool xf) (.int .i64 xr) (.int .i64 xy) (.int .i64 xw) (.slice A6 xl.length cap6)
          cases he : xe.toList.isEmpty with
          | true =>
            have HC := hid (HNS.out (by unfold pdC; rw [HEV.out]; simp only; rw [he]; simp))
            go_wp2_with fail
            go_roundw
            case rel => exact ⟨k + 1, l1, by omega, by go_num, by rw [HC.out.2], by rw [HC.out.1]; exact hid ⟨HI6.out, HM6.out⟩⟩
            case measure => simp [nOf]; omega
          | false =>
            have hc : pdC Ls (pdN Ls u k) k = true := by unfold pdC; rw [← HST.out, HZ.out, HMK.out, HZ2.out, HEV.out]; simp only; rw [he]; rfl
            have HC1 := hid (show pdN Ls u (k + 1) = { pdN Ls u k with ms := (pdN Ls u k).ms.set k 3, out := (pdN Ls u k).out ++ [⟨3, (pdN Ls u k).ord, k, 0, 0, false⟩] } from by
              show (if _ then _ else _) = _
              rw [if_pos hc])
            have HC2 := hid (show pdA Ls u (k + 1) = true from by
              show (pdA Ls u k || pdC Ls (pdN Ls u k) k) = _
              rw [hc]; simp)
            have cm : w6.cell? ⟨gm, k, none⟩ = some (.int .i64 m) := HI6.out.i.mark HGM.out HMV.out
            have fm : w6.frozen? ⟨gm, k, none⟩ = false := own_free (by have := HI6.out.i.m; rw [HGM.out] at this; exact this) k
            have i3 : w6.cell? ⟨I, 3, none⟩ = some (.slice (some ⟨gm, 0, none⟩) n l1.mc) := by
              rw [HI6.out.i.b.cell 3, ← HGM.out]
              simp [inC, pdN_ms, HUL.out.1]
            have lI := HI6.out.i.b.lt
            have lgm6 : gm < w6.heap.size := (HI6.out.i.use (.inr (.inl (by rw [HGM.out]; rfl)) : IU I _ l1 gm)).2
            obtain ⟨m1, m2⟩ := HI6.out.i.setMark (X := fun _ => False) HGM.out HKU.out 3
            have U1 := HI6.out.upd m1 m2 (by simp)
            have KT := hid (tell_any (X := fun _ => False) U1.i (by have := HOL.out; have := HUL.out.2; have := HO.out; simp only; omega) 3 k 0 0 false)
            have HU := hid (And.intro U1 (HM6.out.trans (Mw.of m2)))
            clear m1 m2 U1 hc
            go_wp2_with fail
            refine KT.out.mono ?_
            rintro e w7 ⟨rfl, OA', oc', T1, T2⟩
            have HU2 := hid (And.intro (HU.out.1.upd T1 T2 rfl) (HU.out.2.trans (Mw.of T2)))
            clear T1 T2 KT HU
            go_wp2_with fail
            go_roundw
            case rel => exact ⟨k + 1, _, by omega, by go_num, by rw [HC2.out], by rw [HC1.out]; exact HU2⟩
            case measure => simp [nOf]; omega
    · have hk' : k = n := by omega
      subst hk'
      have HMW := hid HJ.out.2
      have HIW := hid HJ.out.1
      clear HJ
      have HOL := hid (pdN_out Ls u k)
      cases hA : pdA Ls u k with
      | true =>
        rw [hA] at HV
        have HV := hid (HV.out.trans (if_pos rfl))
        have KU := hid (goOn_any HIW.out (by have := HO.out; have := HUL.out.2; have := HOL.out; omega))
        go_wp2_with fail
        refine KU.out.mono ?_
        rintro e w5 ⟨rfl, l', q3, q4⟩
        have HF := hid (And.intro q3 (HMW.out.trans q4))
        clear q3 q4 KU
        have KE := hid (effects_any (X := fun _ => False) HF.out.1.i)
        go_wp2_with fail
        refine KE.out.mono ?_
        rintro e w9 ⟨rfl, E1, E2, E3⟩
        have HE := hid (effR_of (v := v) (l := l) (y := y) (w := w0) (ask := ask) HF.out.1 ⟨by omega, by omega⟩ HF.out.2 E1 E2 E3)
        clear E1 E2 E3 KE
        go_wp2_with fail
        go_ret2
        rw [HV.out]
        exact HE.out
      | false =>
        rw [hA] at HV
        have HV := hid (HV.out.trans (if_neg (by decide)))
        have KE := hid (effects_any (X := fun _ => False) HIW.out.i)
        go_wp2_with fail
        refine KE.out.mono ?_
        rintro e w9 ⟨rfl, E1, E2, E3⟩
        have HE := hid (effR_of (v := v) (l := l) (y := y) (w := w0) (ask := ask) HIW.out ⟨by omega, by omega⟩ HMW.out E1 E2 E3)
        clear E1 E2 E3 KE
        go_wp2_with fail
        go_ret2
        rw [HV.out]
        exact HE.out
def cnC (Ls : List Stp) (v : Iv) (s : Nat) : Bool := match Ls[s]? with | some t => t.event.toList.isEmpty && (t.fin && mkA v.ms s != 0) | none => false
def cnA (Ls : List Stp) (v : Iv) : Nat → Bool
  | 0 => false
  | k + 1 => cnA Ls v k || cnC Ls v k
theorem cnA_mono (Ls : List Stp) (v : Iv) (k : Nat) (h : cnA Ls v k = true) : ∀ n, k ≤ n → cnA Ls v n = true
  | 0, hn => by have : k = 0 := by omega
                subst this; exact h
  | n + 1, hn => by
    show (cnA Ls v n || cnC Ls v n) = true
    by_cases e : k = n + 1
    · subst e; exact h
    · rw [cnA_mono Ls v k h n (by omega)]; rfl
/-- What Cancel answers. -/
def CanR (base base2 I P : Nat) (nm : ByteArray) (Ls : List Stp) (Bs : List IRow) (ask : Int) (y : Pw) (v : Iv) (l : Il) (w : World) (e : Ending) (w' : World) : Prop :=
  if (cnA Ls v v.ms.length || v.st != 0) = true then e = .returned (.tuple #[.slice none 0 0, .int .i64 130]) ∧ Below w.heap.size w w'
  else EffR base base2 I P nm Ls Bs ask y v l (turnV Ls Bs v) w e w'
set_option maxRecDepth 100000 in
set_option maxHeartbeats 32000000 in
theorem cancel_any (h : InP base base2 I P nm Ls Bs ask y v l w) (ho : v.out.length ≤ 1000) (ha : 0 ≤ ask ∧ ask ≤ 4611686018427386904) (xv : Value) (o : Int)
    (hat : Calls Tryz.prog 28 #[xv, .int .i64 o] w fun e w' => e = .returned (.tuple #[.pointer (some ⟨I, 0, none⟩), .int .i64 0]) ∧ w' = w) :
    Calls Tryz.prog 13 #[xv, .int .i64 o] w (CanR base base2 I P nm Ls Bs ask y v l w) := by
  have HAT := hid (hat)
  have HO := hid ho
  have HA := hid ha
  have HI := hid h
  have i3 : w.cell? ⟨I, 3, none⟩ = some (.slice l.MA v.ms.length l.mc) := h.i.b.cell 3
  have lI := h.i.b.lt
  have hn := h.i.n
  obtain ⟨n, hnn⟩ : ∃ n, n = v.ms.length := ⟨_, rfl⟩
  rw [← hnn] at i3 hn
  have HN := hid hnn
  have HNL := hid (show n = Ls.length from by rw [hnn]; exact h.mn)
  have HY := hid (show ∀ e w', (cnA Ls v n || v.st != 0) = true → e = .returned (.tuple #[.slice none 0 0, .int .i64 130]) → Below w.heap.size w w' → CanR base base2 I P nm Ls Bs ask y v l w e w' from fun e w' h1 h2 h3 => by unfold CanR; rw [← hnn, if_pos h1]; exact ⟨h2, h3⟩)
  have HZ := hid (show ∀ e w', (cnA Ls v n || v.st != 0) = false → EffR base base2 I P nm Ls Bs ask y v l (turnV Ls Bs v) w e w' → CanR base base2 I P nm Ls Bs ask y v l w e w' from fun e w' h1 h2 => by unfold CanR; rw [← hnn, if_neg (by rw [h1]; decide)]; exact h2)
  clear h hnn ho hat ha
  go_enter Tryz.func13, Tryz.ntmps13
  go_wp2_with fail
  refine HAT.out.mono ?_
  rintro e w0 ⟨rfl, rfl⟩
  clear HAT
  go_wp2_with fail
  go_loopw [8, 9, 10, 26] (fun _a _b _c i wr => ∃ k : Nat, k ≤ n ∧ i = .int .i64 k ∧ Hid (cnA Ls v k = false ∧ Below w0.heap.size w0 wr)) (fun _a _b _c i _ => n - nOf i)
  case atStart => exact ⟨0, Nat.zero_le _, rfl, hid ⟨rfl, Below.refl _ _⟩⟩
  case round =>
    obtain ⟨k, hk, rfl, HJ⟩ := hrel
    clear i3 lI
    have HI1 := hid (HI.out.next HJ.out.2)
    by_cases hlt : k < n
    · have hku : k < v.ms.length := by rw [← HN.out]; exact hlt
      obtain ⟨gm, hgm, lgm⟩ := HI1.out.i.ma hku
      have HML := hid hgm
      obtain ⟨m, hm⟩ : ∃ m, v.ms[k]? = some m := ⟨_, List.getElem?_eq_getElem hku⟩
      have cm : wr.cell? ⟨gm, k, none⟩ = some (.int .i64 m) := HI1.out.i.mark hgm hm
      have hmk : mkA v.ms k = m := by simp [mkA, List.getD, hm]
      have HMK := hid hmk
      have hLs : k < Ls.length := by rw [← HNL.out]; exact hlt
      obtain ⟨t, ht⟩ : ∃ t, Ls[k]? = some t := ⟨_, List.getElem?_eq_getElem hLs⟩
      have HT := hid ht
      have i5 : wr.cell? ⟨I, 5, none⟩ = some (.pointer (some ⟨P, 0, none⟩)) := HI1.out.i.b.cell 5
      have lI := HI1.out.i.b.lt
      have KS := hid (step_in HI1.out.p.p k t ht (HI1.out.p.aft t (List.mem_of_getElem? ht)))
      have HC := hid (show cnC Ls v k = (t.event.toList.isEmpty && (t.fin && m != 0)) from by unfold cnC; rw [ht]; simp only; rw [hmk])
      clear hmk hm hku hgm ht
      rw [HML.out]
      go_wp2_with fail
      refine KS.out.mono ?_
      rintro e w6 ⟨A6, cap6, rfl, _, hb6⟩
      clear KS i5 lI cm lgm
      have HB6 := hid (bthen HJ.out.2 hb6)
      obtain ⟨xn, xv2, xu, xe, xf, xr, xy, xw, xA, xc, xl⟩ := t
      rw [show (enSt (twn ⟨xn, xv2, xu, xe, xf, xr, xy, xw, xA, xc, xl⟩ A6 cap6)).toArray = #[.string xn, .string xv2, .string xu, .string xe, .bool xf, .int .i64 xr, .int .i64 xy, .int .i64 xw, .slice A6 xl.length cap6] from rfl]
      simp only at HC
      go_upto_region 8 with fail
      have hB := Blk.new w6 69 #[.string xn, .string xv2, .string xu, .string xe, .bool xf, .int .i64 xr, .int .i64 xy, .int .i64 xw, .slice A6 xl.length cap6]
      have HBW : Hid (Below w0.heap.size w0 (w6.alloc (.cells #[.string xn, .string xv2, .string xu, .string xe, .bool xf, .int .i64 xr, .int .i64 xy, .int .i64 xw, .slice A6 xl.length cap6] 69))) := hid (bthen HB6.out ((Below.refl _ _).alloc (Nat.le_refl _) _))
      generalize w6.alloc (.cells #[.string xn, .string xv2, .string xu, .string xe, .bool xf, .int .i64 xr, .int .i64 xy, .int .i64 xw, .slice A6 xl.length cap6] 69) = W at hB HBW ⊢
      generalize w6.heap.size = G at hB ⊢
      have b3 : W.cell? ⟨G, 3, none⟩ = some (.string xe) := hB.cell 3
      have b4 : W.cell? ⟨G, 4, none⟩ = some (.bool xf) := hB.cell 4
      have lG := hB.lt
      have HNO := hid (show cnC Ls v k = false → cnA Ls v (k + 1) = false from fun h => by show (cnA Ls v k || cnC Ls v k) = false; rw [HJ.out.1, h]; rfl)
      clear hB hb6
      cases he : xe.toList.isEmpty with
      | false =>
        have HC2 := hid (HNO.out (by rw [HC.out, he]; rfl))
        go_wp2_with fail
        go_roundw
        case rel => exact ⟨k + 1, by omega, by go_num, hid ⟨HC2.out, HBW.out⟩⟩
        case measure => simp [nOf]; omega
      | true =>
        have HEE := hid he
        cases xf with
        | false =>
          have HC2 := hid (HNO.out (by rw [HC.out]; simp))
          go_wp2_with fail
          go_roundw
          case rel => exact ⟨k + 1, by omega, by go_num, hid ⟨HC2.out, HBW.out⟩⟩
          case measure => simp [nOf]; omega
        | true =>
          cases hz : (m != 0) with
          | false =>
            have HC2 := hid (HNO.out (by rw [HC.out, hz]; simp))
            go_wp2_with fail
            go_roundw
            case rel => exact ⟨k + 1, by omega, by go_num, hid ⟨HC2.out, HBW.out⟩⟩
            case measure => simp [nOf]; omega
          | true =>
            have HC2 := hid (cnA_mono Ls v (k + 1) (by show (cnA Ls v k || cnC Ls v k) = true; rw [HC.out, HEE.out, hz]; simp) n (by omega))
            go_wp2_with fail
            go_ret2
            exact HY.out _ _ (by rw [HC2.out]; rfl) rfl HBW.out
    · have hk' : k = n := by omega
      subst hk'
      have i1 : wr.cell? ⟨I, 1, none⟩ = some (.int .i64 v.st) := HI1.out.i.b.cell 1
      have lI := HI1.out.i.b.lt
      have HMW : Hid (Mw I P Ls Bs y v l y v l w0 wr) := hid (Mw.of (HJ.out.2.mv))
      cases hz : (v.st != 0) with
      | true =>
        have HZZ := hid hz
        go_wp2_with fail
        go_ret2
        exact HY.out _ _ (by rw [HZZ.out]; simp) rfl HJ.out.2
      | false =>
        have HZZ := hid hz
        have KU := hid (turn_any HI1.out (by have := HO.out; omega) HA.out)
        go_wp2_with fail
        refine KU.out.mono ?_
        rintro e w5 ⟨rfl, ask', y', l', q1, q2, q3, q4⟩
        have HF := hid (And.intro q3 (HMW.out.trans q4))
        clear q3 q4 KU
        have KE := hid (effects_any (X := fun _ => False) HF.out.1.i)
        go_wp2_with fail
        refine KE.out.mono ?_
        rintro e w9 ⟨rfl, E1, E2, E3⟩
        have HE := hid (effR_of (v := v) (l := l) (y := y) (w := w0) (ask := ask) HF.out.1 ⟨q1, q2⟩ HF.out.2 E1 E2 E3)
        clear E1 E2 E3 KE
        go_wp2_with fail
        go_ret2
        exact HZ.out _ _ (by rw [HJ.out.1, HZZ.out]; rfl) HE.out
end

end Go.Proofs.YtoemmakhbiiknaaGreat

namespace Go.Proofs.YtoemmakhbiiknaaGreat
open Go.RowKit Go.WideShapes Go.ChangeShapes Go.ChangeAt Go.Deep
set_option linter.unusedVariables false

section
variable {base base2 I P : Nat} {nm : ByteArray} {Ls : List Stp} {Bs : List IRow} {ask : Int} {y y1 y2 : Pw} {v v1 v2 : Iv} {l l1 l2 : Il} {w w' w1 w2 : World} {X : Nat → Prop}
def frV (Ls : List Stp) (Bs : List IRow) (v : Iv) (t : Stp) (s : Nat) : Iv :=
  if (mkA v.ms s != 2) = true then v
  else if t.event.toList.isEmpty = true then { v with ms := v.ms.set s 1, ts := v.ts.set s (mkA v.ts s + 1), out := v.out ++ [⟨1, v.ord, s, mkA v.ts s + 1, 0, false⟩] }
  else turnV Ls Bs { v with ms := v.ms.set s 5 }
set_option maxRecDepth 100000 in
set_option maxHeartbeats 32000000 in
theorem fire_any (h : InP base base2 I P nm Ls Bs ask y v l w) (ho : v.out.length ≤ 1000) (ha : 0 ≤ ask ∧ ask ≤ 4611686018427386904) (xv : Value) (o : Int) (s : Nat) (t : Stp) (ht : Ls[s]? = some t) (hq0 : 0 ≤ mkA v.ts s ∧ mkA v.ts s ≤ 4611686018427387904)
    (hat : Calls Tryz.prog 30 #[xv, .int .i64 o, .int .i64 s] w fun e w' => e = .returned (.tuple #[.pointer (some ⟨I, 0, none⟩), .int .i64 0]) ∧ w' = w) :
    Calls Tryz.prog 11 #[xv, .int .i64 o, .int .i64 s] w (EffR base base2 I P nm Ls Bs ask y v l (frV Ls Bs v t s) w) := by
  have HAT := hid (hat)
  have HT := hid ht
  have HA := hid ha
  have HO := hid ho
  have HI := hid h
  have HMW : Hid (Mw I P Ls Bs y v l y v l w w) := hid Mw.refl
  have KS := hid (step_in h.p.p s t ht (h.p.aft t (List.mem_of_getElem? ht)))
  have HHS := hid (show s < v.ms.length from by rw [h.mn]; exact (List.getElem?_eq_some_iff.1 ht).1)
  have i5 : w.cell? ⟨I, 5, none⟩ = some (.pointer (some ⟨P, 0, none⟩)) := h.i.b.cell 5
  have lI := h.i.b.lt
  have hn := h.i.n
  obtain ⟨gm, hgm, lgm⟩ := h.i.ma HHS.out
  obtain ⟨gt, hgt, lgt⟩ := h.i.ta HHS.out
  have HGM := hid hgm
  have HGT := hid hgt
  have i3 : w.cell? ⟨I, 3, none⟩ = some (.slice (some ⟨gm, 0, none⟩) v.ms.length l.mc) := by rw [h.i.b.cell 3, ← hgm]; rfl
  have hsz := HHS.out
  have hst : s < v.ts.length := by rw [h.i.tl]; exact hsz
  have hn2 : v.ts.length ≤ 1000 := by rw [h.i.tl]; exact hn
  obtain ⟨m, hm⟩ : ∃ m, v.ms[s]? = some m := ⟨_, List.getElem?_eq_getElem hsz⟩
  obtain ⟨q, hq⟩ : ∃ q, v.ts[s]? = some q := ⟨_, List.getElem?_eq_getElem hst⟩
  have cm : w.cell? ⟨gm, s, none⟩ = some (.int .i64 m) := h.i.mark hgm hm
  have hmk : mkA v.ms s = m := by simp [mkA, List.getD, hm]
  have hqk : mkA v.ts s = q := by simp [mkA, List.getD, hq]
  have HMK := hid (And.intro hmk hqk)
  rw [hqk] at hq0
  have HQ := hid hq0
  have HQV := hid hq
  clear h ht hat ha ho hgm hgt hm hq hmk hqk
  go_enter Tryz.func11, Tryz.ntmps11
  go_wp2_with fail
  refine HAT.out.mono ?_
  rintro e w0 ⟨rfl, rfl⟩
  clear HAT
  cases hz : (m != 2) with
  | true =>
    have HV := hid (show frV Ls Bs v t s = v from by unfold frV; rw [HMK.out.1, if_pos hz])
    have KE := hid (effects_any (X := fun _ => False) HI.out.i)
    go_wp2_with fail
    refine KE.out.mono ?_
    rintro e w9 ⟨rfl, E1, E2, E3⟩
    have HE := hid (effR_of (v := v) (l := l) (y := y) (w := w0) (ask := ask) HI.out ⟨by omega, by omega⟩ HMW.out E1 E2 E3)
    clear E1 E2 E3 KE
    go_wp2_with fail
    go_ret2
    rw [HV.out]
    exact HE.out
  | false =>
    have HZ := hid hz
    go_wp2_with fail
    refine KS.out.mono ?_
    rintro e w1 ⟨A, cap, rfl, _, hb1⟩
    have HI1 := hid (HI.out.next hb1)
    have HM1 := hid (HMW.out.next hb1)
    clear KS i5 i3 cm lI lgm lgt
    obtain ⟨xn, xv2, xu, xe, xf, xr, xy, xw, xA, xc, xl⟩ := t
    rw [show (enSt (twn ⟨xn, xv2, xu, xe, xf, xr, xy, xw, xA, xc, xl⟩ A cap)).toArray = #[.string xn, .string xv2, .string xu, .string xe, .bool xf, .int .i64 xr, .int .i64 xy, .int .i64 xw, .slice A xl.length cap] from rfl]
    have hfd := fieldE13 (.string xn) (.string xv2) (.string xu) (.string xe) (.bool xf) (.int .i64 xr) (.int .i64 xy) (.int .i64 xw) (.slice A xl.length cap)
    have lI := HI1.out.i.b.lt
    have lgm : gm < w1.heap.size := (HI1.out.i.use (.inr (.inl (by rw [HGM.out]; rfl)) : IU I v l gm)).2
    have lgt : gt < w1.heap.size := (HI1.out.i.use (.inr (.inr (.inl (by rw [HGT.out]; rfl))) : IU I v l gt)).2
    have i3 : w1.cell? ⟨I, 3, none⟩ = some (.slice (some ⟨gm, 0, none⟩) v.ms.length l.mc) := by rw [HI1.out.i.b.cell 3, ← HGM.out]; rfl
    have i4 : w1.cell? ⟨I, 4, none⟩ = some (.slice (some ⟨gt, 0, none⟩) v.ts.length l.tc) := by rw [HI1.out.i.b.cell 4, ← HGT.out]; rfl
    obtain ⟨m0, hm0⟩ : ∃ m, v.ms[s]? = some m := ⟨_, List.getElem?_eq_getElem hsz⟩
    have cm : w1.cell? ⟨gm, s, none⟩ = some (.int .i64 m0) := HI1.out.i.mark HGM.out hm0
    have ct : w1.cell? ⟨gt, s, none⟩ = some (.int .i64 q) := HI1.out.i.try_ HGT.out HQV.out
    have fm : w1.frozen? ⟨gm, s, none⟩ = false := own_free (by have := HI1.out.i.m; rw [HGM.out] at this; exact this) s
    have ft : w1.frozen? ⟨gt, s, none⟩ = false := own_free (by have := HI1.out.i.t; rw [HGT.out] at this; exact this) s
    have hne : gm ≠ gt := fun e => own_ne HI1.out.i.m HI1.out.i.t (by decide) (g := gm) (by rw [HGM.out]; rfl) (by rw [HGT.out, e]; rfl)
    have hgI : gm ≠ I := fun e => own_notBlk HI1.out.i.m HI1.out.i.b (by decide) (by rw [HGM.out, ← e]; rfl)
    have hgI2 : gt ≠ I := fun e => own_notBlk HI1.out.i.t HI1.out.i.b (by decide) (by rw [HGT.out, ← e]; rfl)
    clear hm0
    cases he : xe.toList.isEmpty with
    | false =>
      have HV := hid (show frV Ls Bs v ⟨xn, xv2, xu, xe, xf, xr, xy, xw, xA, xc, xl⟩ s = turnV Ls Bs { v with ms := v.ms.set s 5 } from by unfold frV; rw [HMK.out.1, if_neg (by rw [HZ.out]; decide), if_neg (by simp only; rw [he]; decide)])
      obtain ⟨m1, m2⟩ := HI1.out.i.setMark (X := fun _ => False) HGM.out HHS.out 5
      have HU := hid (And.intro (HI1.out.upd m1 m2 (by simp)) (HM1.out.trans (Mw.of m2)))
      clear m1 m2
      have KU := hid (turn_any HU.out.1 (by have := HO.out; simp only; omega) HA.out)
      go_wp2_with fail
      refine KU.out.mono ?_
      rintro e w5 ⟨rfl, ask', y', l', q1, q2, q3, q4⟩
      have HF := hid (And.intro q3 (HU.out.2.trans q4))
      clear q3 q4 KU HU
      have KE := hid (effects_any (X := fun _ => False) HF.out.1.i)
      go_wp2_with fail
      refine KE.out.mono ?_
      rintro e w9 ⟨rfl, E1, E2, E3⟩
      have HE := hid (effR_of (v := v) (l := l) (y := y) (w := w0) (ask := ask) HF.out.1 ⟨q1, q2⟩ HF.out.2 E1 E2 E3)
      clear E1 E2 E3 KE
      go_wp2_with fail
      go_ret2
      rw [HV.out]
      exact HE.out
    | true =>
      obtain ⟨r, hr⟩ : ∃ r : Iv, r = { v with ms := v.ms.set s 1, ts := v.ts.set s (q + 1), out := v.out ++ [⟨1, v.ord, s, q + 1, 0, false⟩] } := ⟨_, rfl⟩
      have HV := hid (show frV Ls Bs v ⟨xn, xv2, xu, xe, xf, xr, xy, xw, xA, xc, xl⟩ s = r from by unfold frV; rw [HMK.out.1, HMK.out.2, if_neg (by rw [HZ.out]; decide), if_pos he, hr])
      obtain ⟨m1, m2⟩ := HI1.out.i.setMark (X := fun _ => False) HGM.out HHS.out 1
      have U1 := HI1.out.upd m1 m2 (by simp)
      obtain ⟨t1, t2⟩ := U1.i.setTry (X := fun _ => False) (k := s) HGT.out hst (q + 1)
      have U2 := U1.upd t1 t2 rfl
      have KT := hid (tell_any (X := fun _ => False) U2.i (by have := HO.out; simp only; omega) 1 s (q + 1) 0 false)
      have HU := hid (And.intro U2 (HM1.out.trans (Mw.of (m2.trans t2))))
      have HR := hid hr
      have q1 := HQ.out
      clear m1 m2 t1 t2 U1 U2 hr
      go_wp2_with fail
      refine KT.out.mono ?_
      rintro e w7 ⟨rfl, OA', oc', T1, T2⟩
      have HF := hid (And.intro (HU.out.1.upd T1 T2 rfl) (HU.out.2.trans (Mw.of T2)))
      clear T1 T2 KT HU
      rw [← HR.out] at HF
      have KE := hid (effects_any (X := fun _ => False) HF.out.1.i)
      go_wp2_with fail
      refine KE.out.mono ?_
      rintro e w9 ⟨rfl, E1, E2, E3⟩
      have HE := hid (effR_of (v := v) (l := l) (y := y) (w := w0) (ask := ask) HF.out.1 ⟨by omega, by omega⟩ HF.out.2 E1 E2 E3)
      clear E1 E2 E3 KE
      go_wp2_with fail
      go_ret2
      rw [HV.out]
      exact HE.out
end

end Go.Proofs.YtoemmakhbiiknaaGreat

namespace Go.Proofs.YtoemmakhbiiknaaGreat
open Go.RowKit Go.WideShapes Go.ChangeShapes Go.ChangeAt Go.Deep
set_option linter.unusedVariables false

structure IvP (o B : Int) (v : Iv) : Prop where
  ord : v.ord = o
  ts : ∀ t ∈ v.ts, 0 ≤ t ∧ t ≤ B
  out : ∀ f ∈ v.out, f.order = o
section
variable {o B : Int} {v : Iv}
theorem IvP.mono (h : IvP o B v) {B' : Int} (hb : B ≤ B') : IvP o B' v := ⟨h.ord, fun t ht => by have := h.ts t ht; omega, h.out⟩
theorem IvP.ms (h : IvP o B v) (ms : List Int) : IvP o B { v with ms := ms } := ⟨h.ord, h.ts, h.out⟩
theorem IvP.st (h : IvP o B v) (s : Int) : IvP o B { v with st := s } := ⟨h.ord, h.ts, h.out⟩
theorem IvP.paid (h : IvP o B v) (s : Bool) : IvP o B { v with paid := s } := ⟨h.ord, h.ts, h.out⟩
theorem IvP.zero (h : IvP o B v) : IvP o B { v with out := [] } := ⟨h.ord, h.ts, fun f hf => by cases hf⟩
theorem IvP.tell (h : IvP o B v) {f : Eff} (hf : f.order = v.ord) : IvP o B { v with out := v.out ++ [f] } := ⟨h.ord, h.ts, fun g hg => by
  rcases List.mem_append.1 hg with hg | hg
  · exact h.out g hg
  · obtain rfl : g = f := by simpa using hg
    exact hf.trans h.ord⟩
theorem IvP.try_ (h : IvP o B v) (s : Nat) {t : Int} (ht : 0 ≤ t ∧ t ≤ B) : IvP o B { v with ts := v.ts.set s t } := ⟨h.ord, fun x hx => by
  rcases List.mem_or_eq_of_mem_set hx with h1 | h1
  · exact h.ts x h1
  · rw [h1]; exact ht, h.out⟩
theorem IvP.bg (h : IvP o B v) (hB : 1 ≤ B) (s : Nat) (t : Stp) : IvP o B (bgV v s t) := by
  unfold bgV
  split
  · exact ((h.ms _).try_ s (t := 1) (by omega)).tell (f := ⟨1, v.ord, s, 1, 0, false⟩) rfl
  · split
    · exact h.ms _
    · exact (h.ms (v.ms.set s 2)).tell (f := ⟨2, v.ord, s, 0, t.wi, false⟩) rfl
theorem IvP.goN (h : IvP o B v) (hB : 1 ≤ B) (Ls : List Stp) (Bs : List IRow) : ∀ k, IvP o B (goN Ls Bs v k)
  | 0 => h
  | k + 1 => by
    show IvP o B (goS Ls Bs (Go.Proofs.YtoemmakhbiiknaaGreat.goN Ls Bs v k) k)
    unfold goS
    split
    · cases Ls[k]? with
      | none => exact IvP.goN h hB Ls Bs k
      | some t => exact (IvP.goN h hB Ls Bs k).bg hB k t
    · exact IvP.goN h hB Ls Bs k
theorem IvP.go (h : IvP o B v) (hB : 1 ≤ B) (Ls : List Stp) (Bs : List IRow) : IvP o B (goV Ls Bs v) := by
  unfold goV
  split
  · exact h.goN hB Ls Bs _
  · exact (h.goN hB Ls Bs _).st 2
theorem IvP.uwS (h : IvP o B v) (Ls : List Stp) (Bs : List IRow) (s : Nat) : IvP o B (uwS Ls Bs v s) := by
  unfold Go.Proofs.YtoemmakhbiiknaaGreat.uwS
  split
  · cases Ls[s]? with
    | none => exact h
    | some t =>
      show IvP o B (if _ then _ else _)
      split
      · exact (h.ms (v.ms.set s 4)).tell (f := ⟨1, v.ord, s, 0, 0, true⟩) rfl
      · exact h.ms _
  · exact h
theorem IvP.uwN (h : IvP o B v) (Ls : List Stp) (Bs : List IRow) (n : Nat) : ∀ k, IvP o B (uwN Ls Bs n v k)
  | 0 => h
  | k + 1 => (IvP.uwN h Ls Bs n k).uwS Ls Bs _
theorem IvP.uw (h : IvP o B v) (Ls : List Stp) (Bs : List IRow) : IvP o B (uwV Ls Bs v) := by
  unfold uwV
  split
  · exact h.uwN Ls Bs _ _
  · exact (h.uwN Ls Bs _ _).st 3
theorem IvP.tnN (h : IvP o B v) : ∀ k, IvP o B (tnN v k)
  | 0 => h
  | k + 1 => by
    show IvP o B (tnS (Go.Proofs.YtoemmakhbiiknaaGreat.tnN v k) k)
    unfold tnS
    split
    · exact ((IvP.tnN h k).ms ((Go.Proofs.YtoemmakhbiiknaaGreat.tnN v k).ms.set k 5)).tell (f := ⟨3, (Go.Proofs.YtoemmakhbiiknaaGreat.tnN v k).ord, k, 0, 0, false⟩) rfl
    · exact IvP.tnN h k
theorem IvP.turn (h : IvP o B v) (Ls : List Stp) (Bs : List IRow) : IvP o B (turnV Ls Bs v) := ((h.st 1).tnN _).uw Ls Bs
theorem IvP.rp (h : IvP o B v) (hB : 1 ≤ B) (Ls : List Stp) (Bs : List IRow) (t : Stp) (s : Nat) (tr : Int) (un : Bool) (code : Int) : IvP o B (rpV Ls Bs v t s tr un code) := by
  unfold rpV
  split
  · split
    · exact (h.ms _).uw Ls Bs
    · exact h
  · split
    · exact h
    · split
      · exact (h.ms _).go hB Ls Bs
      · split
        · exact (h.ms (v.ms.set s 2)).tell (f := ⟨2, v.ord, s, 0, t.ev, false⟩) rfl
        · exact (h.ms _).turn Ls Bs
theorem mkA_ts (h : IvP o B v) (hB : 0 ≤ B) (s : Nat) : 0 ≤ mkA v.ts s ∧ mkA v.ts s ≤ B := by
  have e : mkA v.ts s = (v.ts[s]?).getD 0 := by simp [mkA, List.getD]
  rw [e]
  cases hs : v.ts[s]? with
  | none => exact ⟨Int.le_refl _, hB⟩
  | some t => exact h.ts t (List.mem_of_getElem? hs)
theorem IvP.fr (h : IvP o B v) (hB : 1 ≤ B) (Ls : List Stp) (Bs : List IRow) (t : Stp) (s : Nat) : IvP o (B + 1) (frV Ls Bs v t s) := by
  have h2 := mkA_ts h (by omega) s
  unfold frV
  split
  · exact h.mono (by omega)
  · split
    · exact (((h.mono (B' := B + 1) (by omega)).ms _).try_ s (t := mkA v.ts s + 1) (by omega)).tell (f := ⟨1, v.ord, s, mkA v.ts s + 1, 0, false⟩) rfl
    · exact ((h.ms _).turn Ls Bs).mono (by omega)
theorem IvP.pdN (h : IvP o B v) (Ls : List Stp) : ∀ k, IvP o B (pdN Ls v k)
  | 0 => h
  | k + 1 => by
    show IvP o B (if _ then _ else _)
    split
    · exact ((IvP.pdN h Ls k).ms ((Go.Proofs.YtoemmakhbiiknaaGreat.pdN Ls v k).ms.set k 3)).tell (f := ⟨3, (Go.Proofs.YtoemmakhbiiknaaGreat.pdN Ls v k).ord, k, 0, 0, false⟩) rfl
    · exact IvP.pdN h Ls k
theorem IvP.pd (h : IvP o B v) (hB : 1 ≤ B) (Ls : List Stp) (Bs : List IRow) : IvP o B (paidV Ls Bs v) := by
  unfold paidV
  split
  · exact ((h.paid true).pdN Ls _).go hB Ls Bs
  · exact (h.paid true).pdN Ls _
theorem IvP.new (o : Int) (n : Nat) {B : Int} (hB : 0 ≤ B) (ts : List Int) (hts : ∀ t ∈ ts, t = 0) : IvP o B ⟨o, 0, false, List.replicate n 0, ts, []⟩ := ⟨rfl, fun t ht => by have := hts t ht; omega, fun f hf => by cases hf⟩
end

end Go.Proofs.YtoemmakhbiiknaaGreat

namespace Go.Proofs.YtoemmakhbiiknaaGreat
open Go.RowKit Go.WideShapes Go.ChangeShapes Go.ChangeAt Go.Deep
set_option linter.unusedVariables false

/-- An instance, its plan. -/
structure Ins where
  I : Nat
  base : Nat
  d : PlD
  v : Iv
  l : Il
def Ins.U (i : Ins) (g : Nat) : Prop := IU i.I i.v i.l g
def PlD.V (d : PlD) (Y : Nat → Pw) (g : Nat) : Prop := PlV d.P d.Ls d.Bs (Y d.P) g
def esOf (ins : List Ins) : List (Int × Nat) := ins.map fun i => (i.v.ord, i.I)
def insAt (ins : List Ins) (o : Int) : Option Ins := ins.find? fun i => i.v.ord == o
theorem mget_ins (o : Int) : ∀ ins : List Ins, mget (esOf ins) o = (insAt ins o).map (·.I)
  | [] => rfl
  | i :: ins => by
    unfold esOf insAt
    rw [List.map_cons, List.find?_cons]
    by_cases h : i.v.ord = o
    · simp [mget, h]
    · have ih := mget_ins o ins
      unfold esOf insAt at ih
      rw [show (i.v.ord == o) = false from by simpa using h]
      simp only [mget] at ih ⊢
      rw [List.find?_cons, show decide ((i.v.ord, i.I).fst = o) = false from decide_eq_false h]
      exact ih
theorem insAt_mem {ins : List Ins} {o : Int} {i : Ins} (h : insAt ins o = some i) : i ∈ ins ∧ i.v.ord = o := ⟨List.mem_of_find?_eq_some h, by simpa using List.find?_some h⟩
structure AlS (w0 : World) (ds : List PlD) (X M n0 : Nat) (ins : List Ins) (A : Nat → Int) (Y : Nat → Pw) (n1 R : Nat) (LA : Option Addr) (lc : Nat) (bs : List Nat) (od : Nat → Int) (vO : Value) (pA : Option Addr) (pc : Nat) (rA : Option Addr) (rc : Nat) (K : Int) (w : World) : Prop where
  e : IsEng n0 X M (esOf ins) w
  nd : (ins.map fun i => i.v.ord).Nodup
  i : ∀ i ∈ ins, i.d ∈ ds ∧ IsI i.base i.I (.pointer (some ⟨i.d.P, 0, none⟩)) i.v i.l w ∧ i.v.ms.length = i.d.Ls.length ∧ i.v.out = [] ∧ w0.heap.size ≤ i.base ∧ IvP i.v.ord (1099511627776 + K) i.v
  p : ∀ d ∈ ds, PlF d ∧ PlOk d (A d.P) (Y d.P) w ∧ (0 ≤ A d.P ∧ A d.P ≤ 1000 * K) ∧ d.hi ≤ n1 ∧ w0.heap.size ≤ d.P
  dq : ∀ a ∈ ds, ∀ b ∈ ds, a.P = b.P → a = b
  pp : ∀ a ∈ ds, ∀ b ∈ ds, a.P ≠ b.P → ∀ g, a.V Y g → ¬ b.V Y g
  pr : ∀ a ∈ ds, ∀ b ∈ ds, ∀ g, a.V Y g → ¬ b.RU g
  ip : ∀ i ∈ ins, ∀ d ∈ ds, ∀ g, i.U g → ¬ d.V Y g ∧ ¬ d.RU g
  ii : ∀ i ∈ ins, ∀ j ∈ ins, i.v.ord ≠ j.v.ord → ∀ g, i.U g → ¬ j.U g
  dn : DEn n1 R LA lc bs od vO w
  po : w.ownsRow w0.heap.size 43 1 (.slice pA ds.length pc) ds.length (ds.flatMap fun d => enB13 d.P)
  ro : w.ownsRow w0.heap.size 77 1 (.slice rA ds.length rc) ds.length (ds.flatMap fun d => enB13 d.RP)
  b : Below w0.heap.size w0 w
  lo : w0.heap.size ≤ n0 ∧ w0.heap.size ≤ n1
  k : 0 ≤ K
  hn : ∀ d ∈ ds, d.hi ≤ n0
section
variable {w0 w w' : World} {ds : List PlD} {X M n0 : Nat} {ins : List Ins} {A : Nat → Int} {Y : Nat → Pw} {n1 R lc pc rc : Nat} {LA pA rA : Option Addr} {bs : List Nat} {od : Nat → Int} {vO : Value} {K : Int}
/-- Which types the blocks of a plan have. -/
theorem PlY.typ {base : Nat} {nm : ByteArray} {P : Nat} {Ls : List Stp} {Bs : List IRow} {ask : Int} {y : Pw} (h : PlY base nm P Ls Bs ask y w) {g : Nat} (hu : PlV P Ls Bs y g) : ∃ t cs r, w.heap[g]? = some (.cells cs t r) ∧ (t = 126 ∨ t = 69 ∨ t = 38 ∨ t = 9 ∨ t = 3) := by
  have own : ∀ {b : Nat} {t : TypeId} {s n : Nat} {v : Value} {xs : List Value}, w.ownsRow b t s v n xs → v.ownBlock = some g → ∃ cs r, w.heap[g]? = some (.cells cs t r) := fun {b t s n v xs} ho hg => by
    rcases ho.2 with ⟨e, _⟩ | ⟨g1, c1, cur1, e, _, hh, _⟩
    · rw [e] at hg; cases hg
    · rw [e] at hg
      have : g1 = g := by simpa [Value.ownBlock] using hg
      subst this
      exact ⟨_, _, hh⟩
  rcases hu with e | e | e | ⟨s, hs, e⟩ | ⟨b, hb, e⟩ | ⟨hd, e⟩
  · subst e
    exact ⟨_, _, _, h.p.p, .inl rfl⟩
  · obtain ⟨cs, r, hh⟩ := own h.p.os e
    exact ⟨_, cs, r, hh, .inr (.inl rfl)⟩
  · obtain ⟨cs, r, hh⟩ := own h.p.ob e
    exact ⟨_, cs, r, hh, .inr (.inr (.inl rfl))⟩
  · obtain ⟨cs, r, hh⟩ := own (h.p.st s hs) e
    exact ⟨_, cs, r, hh, .inr (.inr (.inr (.inl rfl)))⟩
  · obtain ⟨cs, r, hh⟩ := own (h.p.rw b hb) e
    exact ⟨_, cs, r, hh, .inr (.inr (.inr (.inr rfl)))⟩
  · obtain ⟨H, h1, h2, h3, h4⟩ := h.p.hs hd
    rcases e with e | ⟨b, hb, e⟩
    · rw [h1] at e
      have e2 : H = g := by simpa [Value.ownBlock] using e
      subst e2
      exact ⟨_, _, _, h2, .inr (.inr (.inl rfl))⟩
    · obtain ⟨cs, r, hh⟩ := own (h4 b hb) e
      exact ⟨_, cs, r, hh, .inr (.inr (.inr (.inr rfl)))⟩
theorem IsI.typ {base I : Nat} {vP : Value} {v : Iv} {l : Il} (h : IsI base I vP v l w) {g : Nat} (hu : IU I v l g) : ∃ t cs r, w.heap[g]? = some (.cells cs t r) ∧ (t = 96 ∨ t = 71 ∨ t = 3 ∨ t = 55) := by
  have own : ∀ {b : Nat} {t : TypeId} {s n : Nat} {v : Value} {xs : List Value}, w.ownsRow b t s v n xs → v.ownBlock = some g → ∃ cs r, w.heap[g]? = some (.cells cs t r) := fun {b t s n v xs} ho hg => by
    rcases ho.2 with ⟨e, _⟩ | ⟨g1, c1, cur1, e, _, hh, _⟩
    · rw [e] at hg; cases hg
    · rw [e] at hg
      have : g1 = g := by simpa [Value.ownBlock] using hg
      subst this
      exact ⟨_, _, hh⟩
  rcases hu with e | e | e | e
  · subst e
    exact ⟨_, _, _, h.b, .inl rfl⟩
  · obtain ⟨cs, r, hh⟩ := own h.m e
    exact ⟨_, cs, r, hh, .inr (.inl rfl)⟩
  · obtain ⟨cs, r, hh⟩ := own h.t e
    exact ⟨_, cs, r, hh, .inr (.inr (.inl rfl))⟩
  · obtain ⟨cs, r, hh⟩ := own h.o e
    exact ⟨_, cs, r, hh, .inr (.inr (.inr rfl))⟩
theorem blk_typ {g : Nat} {t t' : TypeId} {cs cs' : Array Value} {r : Nat × Nat} (h : Blk w g t cs) (h' : w.heap[g]? = some (.cells cs' t' r)) : t = t' := by
  unfold Blk at h
  rw [h] at h'
  simp only [Option.some.injEq, Obj.cells.injEq] at h'
  exact h'.2.1
theorem own_typ {b n s g : Nat} {t t' : TypeId} {v : Value} {xs : List Value} {cs' : Array Value} {r : Nat × Nat} (h : w.ownsRow b t s v n xs) (hg : v.ownBlock = some g) (h' : w.heap[g]? = some (.cells cs' t' r)) : t = t' := by
  rcases h.2 with ⟨e, _⟩ | ⟨g1, c1, cur1, e, _, hh, _⟩
  · rw [e] at hg; cases hg
  · rw [e] at hg
    have : g1 = g := by simpa [Value.ownBlock] using hg
    subst this
    rw [hh] at h'
    simp only [Option.some.injEq, Obj.cells.injEq] at h'
    exact h'.2.1
/-- A call that leaves all instances and plans alone. -/
theorem AlS.frame {S : Nat → Prop} {LA' : Option Addr} {lc' : Nat} {bs' : List Nat} {od' : Nat → Int} {vO' : Value} (h : AlS w0 ds X M n0 ins A Y n1 R LA lc bs od vO pA pc rA rc K w) (hT : Touch S w w') (hS : ∀ g, S g → w0.heap.size ≤ g ∧ g ≠ X ∧ g ≠ M ∧ (∀ i ∈ ins, ¬ i.U g) ∧ (∀ d ∈ ds, ¬ d.V Y g ∧ ¬ d.RU g) ∧ (Value.slice pA ds.length pc).ownBlock ≠ some g ∧ (Value.slice rA ds.length rc).ownBlock ≠ some g) (hd : DEn n1 R LA' lc' bs' od' vO' w') : AlS w0 ds X M n0 ins A Y n1 R LA' lc' bs' od' vO' pA pc rA rc K w' :=
  ⟨h.e.touch hT (fun hg => (hS X hg).2.1 rfl) (fun hg => (hS M hg).2.2.1 rfl), h.nd, fun i hi => by
    obtain ⟨a, b, c⟩ := h.i i hi
    exact ⟨a, b.touch hT (fun g hg hu => (hS g hg).2.2.2.1 i hi hu), c⟩, fun d hd' => by
    obtain ⟨a, b, c⟩ := h.p d hd'
    exact ⟨a, b.touch hT (fun g hg hu => ((hS g hg).2.2.2.2.1 d hd').1 hu) (fun g hg hu => ((hS g hg).2.2.2.2.1 d hd').2 hu), c⟩, h.dq, h.pp, h.pr, h.ip, h.ii, hd, own_touch h.po hT (fun g hg hs => (hS g hs).2.2.2.2.2.1 hg), own_touch h.ro hT (fun g hg hs => (hS g hs).2.2.2.2.2.2 hg), h.b.trans (hT.below h.b.size (fun k hk => (hS k hk).1)), h.lo, h.k, h.hn⟩
theorem AlS.next (h : AlS w0 ds X M n0 ins A Y n1 R LA lc bs od vO pA pc rA rc K w) (hb : Below w.heap.size w w') : AlS w0 ds X M n0 ins A Y n1 R LA lc bs od vO pA pc rA rc K w' := h.frame (S := fun _ => False) (Touch.of_below hb) (fun _ hf => hf.elim) (h.dn.next hb)
theorem AlS.mono {K' : Int} (h : AlS w0 ds X M n0 ins A Y n1 R LA lc bs od vO pA pc rA rc K w) (hk : K ≤ K') : AlS w0 ds X M n0 ins A Y n1 R LA lc bs od vO pA pc rA rc K' w := ⟨h.e, h.nd, fun i hi => by
    obtain ⟨a, b, c, d, e, f⟩ := h.i i hi
    exact ⟨a, b, c, d, e, f.mono (by omega)⟩, fun d hd => by
    obtain ⟨a, b, c, e⟩ := h.p d hd
    exact ⟨a, b, ⟨c.1, by omega⟩, e⟩, h.dq, h.pp, h.pr, h.ip, h.ii, h.dn, h.po, h.ro, h.b, h.lo, by have := h.k; omega, h.hn⟩
/-- What is of the document's engine is no instance's and no plan's. -/
theorem AlS.docS (h : AlS w0 ds X M n0 ins A Y n1 R LA lc bs od vO pA pc rA rc K w) {g : Nat} (hg : DV R LA bs.length lc g) : w0.heap.size ≤ g ∧ g ≠ X ∧ g ≠ M ∧ (∀ i ∈ ins, ¬ i.U g) ∧ (∀ d ∈ ds, ¬ d.V Y g ∧ ¬ d.RU g) ∧ (Value.slice pA ds.length pc).ownBlock ≠ some g ∧ (Value.slice rA ds.length rc).ownBlock ≠ some g := by
  have hn1 : n1 ≤ g := by
    rcases hg with hg | hg
    · rw [hg]; exact h.dn.lo.1
    · exact (h.dn.own.lt g hg).1
  have ht : ∀ {t : TypeId} {cs : Array Value} {r : Nat × Nat}, w.heap[g]? = some (.cells cs t r) → t = 34 ∨ t = 139 := fun {t cs r} hh => by
    rcases hg with hg | hg
    · left; rw [hg] at hh; exact (blk_typ h.dn.r hh).symm
    · right; exact (own_typ h.dn.own hg hh).symm
  refine ⟨Nat.le_trans h.lo.2 hn1, fun e => ?_, fun e => ?_, fun i hi hu => ?_, fun d hd => ⟨fun hu => ?_, fun hu => ?_⟩, fun e => ?_, fun e => ?_⟩
  · have hh := h.e.blk
    unfold Blk at hh
    rw [← e] at hh
    rcases ht hh with h1 | h1 <;> revert h1 <;> decide
  · rcases hg with hg | hg
    · exact h.e.map.notBlk h.dn.r (by rw [← e, hg])
    · exact h.e.map.notOwn h.dn.own (by rw [hg, e])
  · obtain ⟨t, cs, r, hh, h1⟩ := (h.i i hi).2.1.typ hu
    rcases ht hh with h2 | h2 <;> subst h2 <;> revert h1 <;> decide
  · obtain ⟨t, cs, r, hh, h1⟩ := (h.p d hd).2.1.p.typ hu
    rcases ht hh with h2 | h2 <;> subst h2 <;> revert h1 <;> decide
  · have h1 := (h.p d hd).1.ir g hu
    have h2 := (h.p d hd).2.2.2.1
    omega
  · rcases hg with hg | hg
    · exact own_notBlk h.po h.dn.r (by decide) (by rw [e, hg])
    · exact own_ne (own_base h.po (Nat.zero_le _)) (own_base h.dn.own (Nat.zero_le _)) (by decide) e hg
  · rcases hg with hg | hg
    · exact own_notBlk h.ro h.dn.r (by decide) (by rw [e, hg])
    · exact own_ne (own_base h.ro (Nat.zero_le _)) (own_base h.dn.own (Nat.zero_le _)) (by decide) e hg
theorem AlS.doc {LA' : Option Addr} {lc' : Nat} {bs' : List Nat} {od' : Nat → Int} {vO' : Value} (h : AlS w0 ds X M n0 ins A Y n1 R LA lc bs od vO pA pc rA rc K w) (hT : Touch (DV R LA bs.length lc) w w') (hd : DEn n1 R LA' lc' bs' od' vO' w') : AlS w0 ds X M n0 ins A Y n1 R LA' lc' bs' od' vO' pA pc rA rc K w' := h.frame hT (fun g hg => h.docS hg) hd
/-- The instance of an order is changed. -/
def insSet (ins : List Ins) (o : Int) (v' : Iv) (l' : Il) : List Ins := ins.map fun j => if j.v.ord = o then { j with v := v', l := l' } else j
def upN {α : Type} (f : Nat → α) (p : Nat) (x : α) (q : Nat) : α := if q = p then x else f q
theorem upN_eq {α : Type} (f : Nat → α) (p : Nat) (x : α) : upN f p x p = x := if_pos rfl
theorem upN_ne {α : Type} (f : Nat → α) {p q : Nat} (x : α) (h : q ≠ p) : upN f p x q = f q := if_neg h
theorem mem_insSet {o : Int} {v' : Iv} {l' : Il} {j : Ins} (h : j ∈ insSet ins o v' l') : (∃ i ∈ ins, i.v.ord = o ∧ j = { i with v := v', l := l' }) ∨ (j ∈ ins ∧ j.v.ord ≠ o) := by
  obtain ⟨i, hi, e⟩ := List.mem_map.1 h
  by_cases ho : i.v.ord = o
  · rw [if_pos ho] at e
    exact .inl ⟨i, hi, ho, e.symm⟩
  · rw [if_neg ho] at e
    subst e
    exact .inr ⟨hi, ho⟩
theorem esOf_set {o : Int} {v' : Iv} {l' : Il} (hv : v'.ord = o) : esOf (insSet ins o v' l') = esOf ins := by
  unfold esOf insSet
  rw [List.map_map]
  refine List.map_congr_left fun j _ => ?_
  simp only [Function.comp]
  split
  · rename_i e
    simp [hv, e]
  · rfl
theorem insAt_set {o o2 : Int} {v' : Iv} {l' : Il} (hv : v'.ord = o) (hne : o2 ≠ o) : ∀ ins : List Ins, insAt (insSet ins o v' l') o2 = insAt ins o2
  | [] => rfl
  | i :: ins => by
    have ih := insAt_set (l' := l') hv hne ins
    unfold insAt insSet at ih ⊢
    rw [List.map_cons, List.find?_cons, List.find?_cons, ih]
    by_cases e : i.v.ord = o
    · rw [if_pos e]
      have h1 : (v'.ord == o2) = false := by rw [hv]; simpa using fun e => hne e.symm
      have h2 : (i.v.ord == o2) = false := by rw [e]; simpa using fun e => hne e.symm
      simp [h1, h2]
    · rw [if_neg e]
theorem AlS.uniq (h : AlS w0 ds X M n0 ins A Y n1 R LA lc bs od vO pA pc rA rc K w) {i j : Ins} (hi : i ∈ ins) (hj : j ∈ ins) (e : i.v.ord = j.v.ord) : i = j := by
  have hp : ins.Pairwise fun a b => a.v.ord ≠ b.v.ord := List.pairwise_map.1 h.nd
  exact (pw_all (S := fun a b => a = b ∨ a.v.ord ≠ b.v.ord) (fun x => .inl rfl) hp (fun {x y} hxy => ⟨.inr hxy, .inr fun e => hxy e.symm⟩) hi hj).resolve_right (fun hne => hne e)
theorem AlS.inp (h : AlS w0 ds X M n0 ins A Y n1 R LA lc bs od vO pA pc rA rc K w) {i : Ins} (hi : i ∈ ins) : InP i.base i.d.base i.I i.d.P i.d.nm i.d.Ls i.d.Bs (A i.d.P) (Y i.d.P) i.v i.l w := by
  obtain ⟨hd, a, b, _⟩ := h.i i hi
  exact ⟨a, (h.p i.d hd).2.1.p, fun g hg hu => (h.ip i hi i.d hd g hu).1 hg, b⟩
/-- A call for one order. -/
theorem AlS.eff (h : AlS w0 ds X M n0 ins A Y n1 R LA lc bs od vO pA pc rA rc K w) {i : Ins} (hi : i ∈ ins) {ask' : Int} {y' : Pw} {v' : Iv} {l' : Il} {K' : Int} (hI : InP i.base i.d.base i.I i.d.P i.d.nm i.d.Ls i.d.Bs ask' y' v' l' w') (hM : Mw i.I i.d.P i.d.Ls i.d.Bs (Y i.d.P) i.v i.l y' v' l' w w') (ho : v'.out = []) (hv : IvP i.v.ord (1099511627776 + K') v') (ha : 0 ≤ ask' ∧ ask' ≤ 1000 * K') (hK : K ≤ K') : AlS w0 ds X M n0 (insSet ins i.v.ord v' l') (upN A i.d.P ask') (upN Y i.d.P y') n1 R LA lc bs od vO pA pc rA rc K' w' := by
  obtain ⟨hid, hii, hmn, _, hbb, _⟩ := h.i i hi
  obtain ⟨hPf, hPo, _, hhi, hPl⟩ := h.p i.d hid
  have hT := hM.m.t
  have hSi : ∀ g, (IU i.I i.v i.l g ∨ g = i.d.P) → w0.heap.size ≤ g := fun g hg => by
    rcases hg with hg | hg
    · have := (hii.use hg).1; omega
    · rw [hg]; exact hPl
  have hty : ∀ g, (IU i.I i.v i.l g ∨ g = i.d.P) → ∃ t cs r, w.heap[g]? = some (.cells cs t r) ∧ (t = 126 ∨ t = 96 ∨ t = 71 ∨ t = 3 ∨ t = 55) := fun g hg => by
    rcases hg with hg | hg
    · obtain ⟨t, cs, r, a, b⟩ := hii.typ hg
      exact ⟨t, cs, r, a, .inr b⟩
    · subst hg
      exact ⟨_, _, _, hPo.p.p.p, .inl rfl⟩
  have hnb : ∀ {g : Nat} {t : TypeId} {cs : Array Value}, Blk w g t cs → (t ≠ 126 ∧ t ≠ 96 ∧ t ≠ 71 ∧ t ≠ 3 ∧ t ≠ 55) → ¬ (IU i.I i.v i.l g ∨ g = i.d.P) := fun {g t cs} hb ht hg => by
    obtain ⟨t', cs', r, a, b⟩ := hty g hg
    have := blk_typ hb a
    subst this
    rcases b with b | b | b | b | b
    · exact ht.1 b
    · exact ht.2.1 b
    · exact ht.2.2.1 b
    · exact ht.2.2.2.1 b
    · exact ht.2.2.2.2 b
  have hno : ∀ {b n s g : Nat} {t : TypeId} {x : Value} {xs : List Value}, w.ownsRow b t s x n xs → x.ownBlock = some g → (t ≠ 126 ∧ t ≠ 96 ∧ t ≠ 71 ∧ t ≠ 3 ∧ t ≠ 55) → ¬ (IU i.I i.v i.l g ∨ g = i.d.P) := fun {b n s g t x xs} hb hx ht hg => by
    obtain ⟨t', cs', r, a, b⟩ := hty g hg
    have := own_typ hb hx a
    subst this
    rcases b with b | b | b | b | b
    · exact ht.1 b
    · exact ht.2.1 b
    · exact ht.2.2.1 b
    · exact ht.2.2.2.1 b
    · exact ht.2.2.2.2 b
  have hVo : ∀ d ∈ ds, ∀ g, d.V (upN Y i.d.P y') g → d.V Y g ∨ (d = i.d ∧ w.heap.size ≤ g) := fun d hd g hg => by
    unfold PlD.V at hg
    by_cases e : d.P = i.d.P
    · have := h.dq d hd i.d hid e
      subst this
      rw [upN_eq] at hg
      rcases hM.p g hg with h1 | h1
      · exact .inl h1
      · exact .inr ⟨rfl, h1⟩
    · rw [upN_ne _ _ e] at hg
      exact .inl hg
  have hVl : ∀ d ∈ ds, ∀ g, d.V Y g → g < w.heap.size := fun d hd g hg => ((h.p d hd).2.1.p.p.use hg).2
  have hRl : ∀ d ∈ ds, ∀ g, d.RU g → g < w.heap.size := fun d hd g hg => by
    have h1 := (h.p d hd).1.ir g hg
    have h2 := (h.p d hd).2.2.2.1
    have h3 := h.dn.lo.1
    have h4 := h.dn.r.lt
    omega
  have hUo : ∀ j ∈ insSet ins i.v.ord v' l', ∀ g, j.U g → (∃ j0 ∈ ins, j0.v.ord = j.v.ord ∧ j0.U g) ∨ (j.v.ord = i.v.ord ∧ w.heap.size ≤ g) := fun j hj g hg => by
    rcases mem_insSet hj with ⟨i2, hi2, e, rfl⟩ | ⟨hj, _⟩
    · have := h.uniq hi2 hi e
      subst this
      rcases hM.m.u g hg with h1 | h1
      · exact .inl ⟨i2, hi2, hv.ord.symm, h1⟩
      · exact .inr ⟨hv.ord, h1⟩
    · exact .inl ⟨j, hj, rfl, hg⟩
  have hUl : ∀ j ∈ ins, ∀ g, j.U g → g < w.heap.size := fun j hj g hg => ((h.i j hj).2.1.use hg).2
  refine ⟨?_, ?_, fun j hj => ?_, fun d hd => ?_, h.dq, fun a ha b hb hne g hg hg' => ?_, fun a ha b hb g hg hr => ?_, fun j hj d hd g hg => ⟨fun hv2 => ?_, fun hr => ?_⟩, fun j hj k hk hne g hg hg' => ?_, h.dn.touch hT (hnb h.dn.r (by decide)) (fun g hg => hno h.dn.own hg (by decide)) (fun b hb => ?_), own_touch h.po hT (fun g hg => hno h.po hg (by decide)), own_touch h.ro hT (fun g hg => hno h.ro hg (by decide)), h.b.trans (hT.below h.b.size hSi), h.lo, by have := h.k; omega, h.hn⟩
  · rw [esOf_set hv.ord]
    exact h.e.mw (h.inp hi) hM
  · have := congrArg (List.map (·.1)) (esOf_set (ins := ins) (l' := l') hv.ord)
    unfold esOf at this
    rw [List.map_map, List.map_map] at this
    have h2 : (insSet ins i.v.ord v' l').map (fun i => i.v.ord) = ins.map (fun i => i.v.ord) := this
    rw [h2]
    exact h.nd
  · rcases mem_insSet hj with ⟨i2, hi2, e, rfl⟩ | ⟨hj, hne⟩
    · have := h.uniq hi2 hi e
      subst this
      exact ⟨hid, hI.i, hI.mn, ho, hbb, by show IvP v'.ord _ v'; rw [hv.ord]; exact hv⟩
    · obtain ⟨a, b, c, d, e, f⟩ := h.i j hj
      exact ⟨a, b.touch hT (fun g hg hu => by
        rcases hg with hg | hg
        · exact h.ii i hi j hj (fun e => hne e.symm) g hg hu
        · exact (h.ip j hj i.d hid g hu).1 (.inl hg)), c, d, e, f.mono (by omega)⟩
  · obtain ⟨a, b, c, e⟩ := h.p d hd
    by_cases ed : d.P = i.d.P
    · have := h.dq d hd i.d hid ed
      subst this
      refine ⟨a, ⟨by rw [upN_eq, upN_eq]; exact hI.p, ?_⟩, by rw [upN_eq]; exact ha, e⟩
      have hru : ∀ g, (IU i.I i.v i.l g ∨ g = i.d.P) → ¬ i.d.RU g := fun g hg hr => by
        rcases hg with hg | hg
        · exact (h.ip i hi i.d hid g hg).2 hr
        · exact h.pr i.d hid i.d hid g (.inl hg) hr
      exact ⟨hT.blk b.r.p (fun e => hru _ e (.inl rfl)), own_touch b.r.os hT (fun g hg e => hru g e (.inr (.inl hg))), fun s hs => ⟨hT.rd (b.r.ok s hs).row (fun bb hb e => hru bb e (.inr (.inr ⟨s, hs, hb⟩))), (b.r.ok s hs).len⟩, b.r.n⟩
    · refine ⟨a, ?_, by rw [upN_ne _ _ ed]; exact ⟨c.1, by omega⟩, e⟩
      rw [upN_ne _ _ ed, upN_ne _ _ ed]
      exact b.touch hT (fun g hg hu => by
        rcases hg with hg | hg
        · exact (h.ip i hi d hd g hg).1 hu
        · exact h.pp d hd i.d hid ed g hu (.inl hg)) (fun g hg hr => by
        rcases hg with hg | hg
        · exact (h.ip i hi d hd g hg).2 hr
        · exact h.pr i.d hid d hd g (.inl hg) hr)
  · rcases hVo a ha g hg with h1 | ⟨rfl, h1⟩
    · rcases hVo b hb g hg' with h2 | ⟨rfl, h2⟩
      · exact h.pp a ha b hb hne g h1 h2
      · have := hVl a ha g h1; omega
    · rcases hVo b hb g hg' with h2 | ⟨rfl, h2⟩
      · have := hVl b hb g h2; omega
      · exact hne rfl
  · rcases hVo a ha g hg with h1 | ⟨rfl, h1⟩
    · exact h.pr a ha b hb g h1 hr
    · have := hRl b hb g hr; omega
  · rcases hUo j hj g hg with ⟨j0, hj0, _, h1⟩ | ⟨_, h1⟩
    · rcases hVo d hd g hv2 with h2 | ⟨rfl, h2⟩
      · exact (h.ip j0 hj0 d hd g h1).1 h2
      · have := hUl j0 hj0 g h1; omega
    · rcases hVo d hd g hv2 with h2 | ⟨rfl, h2⟩
      · have := hVl d hd g h2; omega
      · rcases mem_insSet hj with ⟨i2, hi2, e, rfl⟩ | ⟨hj2, hne2⟩
        · have := h.uniq hi2 hi e
          subst this
          refine hI.dj g ?_ hg
          unfold PlD.V at hv2
          rw [upN_eq] at hv2
          exact hv2
        · have := hUl j hj2 g hg; omega
  · rcases hUo j hj g hg with ⟨j0, hj0, _, h1⟩ | ⟨_, h1⟩
    · exact (h.ip j0 hj0 d hd g h1).2 hr
    · have := hRl d hd g hr; omega
  · rcases hUo j hj g hg with ⟨j0, hj0, e1, h1⟩ | ⟨e1, h1⟩
    · rcases hUo k hk g hg' with ⟨k0, hk0, e2, h2⟩ | ⟨e2, h2⟩
      · exact h.ii j0 hj0 k0 hk0 (by rw [e1, e2]; exact hne) g h1 h2
      · have := hUl j0 hj0 g h1; omega
    · rcases hUo k hk g hg' with ⟨k0, hk0, e2, h2⟩ | ⟨e2, h2⟩
      · have := hUl k0 hk0 g h2; omega
      · exact hne (e1.trans e2.symm)
  · obtain ⟨v2, l2, RP2, a, _⟩ := h.dn.inst b hb
    exact hnb a (by decide)
theorem insAt_more {o2 : Int} {n : Ins} (hne : o2 ≠ n.v.ord) (ins : List Ins) : insAt (ins ++ [n]) o2 = insAt ins o2 := by
  unfold insAt
  rw [List.find?_append]
  have h1 : (n.v.ord == o2) = false := by simpa using fun e => hne e.symm
  rw [List.find?_cons, h1]
  simp
/-- One instance more. -/
theorem AlS.more (h : AlS w0 ds X M n0 ins A Y n1 R LA lc bs od vO pA pc rA rc K w) {d : PlD} (hd : d ∈ ds) {I : Nat} {v : Iv} {l : Il} {K' : Int} (hT : Touch (fun g => g = M ∨ g = d.P) w w') (hI : InP w.heap.size d.base I d.P d.nm d.Ls d.Bs (A d.P) (Y d.P) v l w') (hE : IsEng n0 X M (mset (esOf ins) v.ord I) w') (hno : mget (esOf ins) v.ord = none) (ho : v.out = []) (hv : IvP v.ord (1099511627776 + K') v) (hK : K ≤ K') : AlS w0 ds X M n0 (ins ++ [⟨I, w.heap.size, d, v, l⟩]) A Y n1 R LA lc bs od vO pA pc rA rc K' w' := by
  have hPd : d.V Y d.P := .inl rfl
  have hnM : ∀ {g : Nat} {t : TypeId} {cs : Array Value} {r : Nat × Nat}, w.heap[g]? = some (.cells cs t r) → g ≠ M := fun {g t cs r} hh e => by
    obtain ⟨es, c, h1, _⟩ := h.e.map
    rw [e, h1] at hh
    cases hh
  have hPt := (h.p d hd).2.1.p.p.p
  have hVl : ∀ d ∈ ds, ∀ g, d.V Y g → g < w.heap.size := fun d hd g hg => ((h.p d hd).2.1.p.p.use hg).2
  have hRl : ∀ d ∈ ds, ∀ g, d.RU g → g < w.heap.size := fun d hd g hg => by
    have h1 := (h.p d hd).1.ir g hg
    have h2 := (h.p d hd).2.2.2.1
    have h3 := h.dn.lo.1
    have h4 := h.dn.r.lt
    omega
  have hUl : ∀ j ∈ ins, ∀ g, j.U g → g < w.heap.size := fun j hj g hg => ((h.i j hj).2.1.use hg).2
  have hnew : ∀ g, IU I v l g → w.heap.size ≤ g := fun g hg => (hI.i.use hg).1
  have hMl := h.e.low.2
  have hnb : ∀ {g : Nat} {t : TypeId} {cs : Array Value}, Blk w g t cs → t ≠ 126 → ¬ (g = M ∨ g = d.P) := fun {g t cs} hb ht hg => by
    rcases hg with hg | hg
    · exact hnM hb hg
    · exact ht (blk_typ (by rw [← hg]; exact hb) hPt)
  have hno2 : ∀ {b n s g : Nat} {t : TypeId} {x : Value} {xs : List Value}, w.ownsRow b t s x n xs → x.ownBlock = some g → t ≠ 126 → ¬ (g = M ∨ g = d.P) := fun {b n s g t x xs} hb hx ht hg => by
    rcases hg with hg | hg
    · exact h.e.map.notOwn hb (by rw [hx, hg])
    · exact ht (own_typ hb hx (by rw [hg]; exact hPt))
  have hmem : ∀ {j : Ins}, j ∈ ins ++ [⟨I, w.heap.size, d, v, l⟩] → j ∈ ins ∨ j = ⟨I, w.heap.size, d, v, l⟩ := fun {j} hj => by
    rcases List.mem_append.1 hj with hj | hj
    · exact .inl hj
    · exact .inr (by simpa using hj)
  have hordn : ∀ j ∈ ins, j.v.ord ≠ v.ord := fun j hj e => by
    rw [mget_ins] at hno
    cases hf : insAt ins v.ord with
    | none =>
      have := List.find?_eq_none.1 hf j hj
      simp [e] at this
    | some x => rw [hf] at hno; cases hno
  refine ⟨?_, ?_, fun j hj => ?_, fun b hb => ?_, h.dq, h.pp, h.pr, fun j hj b hb g hg => ?_, fun j hj k hk hne g hg hg' => ?_, h.dn.touch hT (hnb h.dn.r (by decide)) (fun g hg => hno2 h.dn.own hg (by decide)) (fun b hb => ?_), own_touch h.po hT (fun g hg => hno2 h.po hg (by decide)), own_touch h.ro hT (fun g hg => hno2 h.ro hg (by decide)), h.b.trans (hT.below h.b.size (fun k hk => ?_)), h.lo, by have := h.k; omega, h.hn⟩
  · rw [mset_new hno] at hE
    unfold esOf at hE ⊢
    rw [List.map_append]
    exact hE
  · rw [List.map_append]
    refine List.nodup_append.2 ⟨h.nd, by simp, fun a ha b hb => ?_⟩
    obtain ⟨j, hj, rfl⟩ := List.mem_map.1 ha
    have : b = v.ord := by simpa using hb
    rw [this]
    exact hordn j hj
  · rcases hmem hj with hj | rfl
    · obtain ⟨a, b, c, e, f, g⟩ := h.i j hj
      exact ⟨a, b.touch hT (fun q hq hu => by
        obtain ⟨t, cs, r, hh, h1⟩ := b.typ hu
        rcases hq with hq | hq
        · exact hnM hh hq
        · have := blk_typ hPt (by rw [← hq]; exact hh)
          rw [← this] at h1
          revert h1
          decide), c, e, f, g.mono (by omega)⟩
    · exact ⟨hd, hI.i, hI.mn, ho, h.b.size, hv⟩
  · obtain ⟨a, b2, c, e⟩ := h.p b hb
    refine ⟨a, ?_, ⟨c.1, by omega⟩, e⟩
    by_cases eP : b.P = d.P
    · have := h.dq b hb d hd eP
      subst this
      refine ⟨hI.p, ?_⟩
      have hru : ∀ g, (g = M ∨ g = b.P) → ¬ b.RU g := fun g hg hr => by
        rcases hg with hg | hg
        · subst hg
          rcases hr with e | e | ⟨s, hs, e⟩
          · exact hnM b2.r.p e.symm
          · exact h.e.map.notOwn b2.r.os e.symm
          · have h1 := a.ir g (.inr (.inr ⟨s, hs, e⟩))
            have h2 := h.hn b hb
            omega
        · exact h.pr b hb b hb g (.inl hg) hr
      exact ⟨hT.blk b2.r.p (fun e => hru _ e (.inl rfl)), own_touch b2.r.os hT (fun g hg e => hru g e (.inr (.inl hg))), fun s hs => ⟨hT.rd (b2.r.ok s hs).row (fun bb hb e => hru bb e (.inr (.inr ⟨s, hs, hb⟩))), (b2.r.ok s hs).len⟩, b2.r.n⟩
    · exact b2.touch hT (fun g hg hu => by
        rcases hg with hg | hg
        · obtain ⟨t, cs, r, hh, _⟩ := b2.p.typ hu
          exact hnM hh hg
        · exact h.pp b hb d hd eP g hu (.inl hg)) (fun g hg hr => by
        rcases hg with hg | hg
        · have h1 := a.ir g hr
          have h2 := h.hn b hb
          omega
        · exact h.pr d hd b hb g (.inl hg) hr)
  · rcases hmem hj with hj | rfl
    · exact h.ip j hj b hb g hg
    · have h1 := hnew g hg
      exact ⟨fun hv2 => by have := hVl b hb g hv2; omega, fun hr => by have := hRl b hb g hr; omega⟩
  · rcases hmem hj with hj | rfl
    · rcases hmem hk with hk | rfl
      · exact h.ii j hj k hk hne g hg hg'
      · have h1 := hnew g hg'
        have h2 := hUl j hj g hg
        omega
    · rcases hmem hk with hk | rfl
      · have h1 := hnew g hg
        have h2 := hUl k hk g hg'
        omega
      · exact hne rfl
  · obtain ⟨v2, l2, RP2, a, _⟩ := h.dn.inst b hb
    exact hnb a (by decide)
  · rcases hk with hk | hk
    · rw [hk]; have := h.lo; omega
    · rw [hk]; exact (h.p d hd).2.2.2.2
end

end Go.Proofs.YtoemmakhbiiknaaGreat

namespace Go.Proofs.YtoemmakhbiiknaaGreat
open Go.RowKit Go.WideShapes Go.ChangeShapes Go.ChangeAt Go.Deep
set_option linter.unusedVariables false

theorem own_max13 {w : World} {base n cap : Nat} {e : TypeId} {size : Nat} {A : Option Addr} {xs : List Value} (h : w.ownsRow base e size (.slice A n cap) n xs) : n ≤ maxLen := by
  rcases h.2 with ⟨_, h0⟩ | ⟨g', cap', cur, h, hb, hg, hnc, hcm, hcs, htk⟩
  · omega
  · omega
section
variable {w0 w w' : World} {ds : List PlD} {X M n0 : Nat} {ins : List Ins} {A : Nat → Int} {Y : Nat → Pw} {n1 R lc pc rc : Nat} {LA pA rA : Option Addr} {bs : List Nat} {od : Nat → Int} {vO : Value} {K : Int}
/-- What a call may write of what was there. -/
def OwnA (ds : List PlD) (M : Nat) (ins : List Ins) (Y : Nat → Pw) (R : Nat) (LA : Option Addr) (lc n : Nat) (g : Nat) : Prop := (∃ i ∈ ins, i.U g) ∨ (∃ d ∈ ds, g = d.P) ∨ g = M ∨ DV R LA n lc g
theorem AlS.own_lt (h : AlS w0 ds X M n0 ins A Y n1 R LA lc bs od vO pA pc rA rc K w) {g : Nat} (hg : OwnA ds M ins Y R LA lc bs.length g) : g < w.heap.size := by
  rcases hg with ⟨i, hi, hg⟩ | ⟨d, hd, hg⟩ | hg | hg | hg
  · exact ((h.i i hi).2.1.use hg).2
  · subst hg
    exact (h.p d hd).2.1.p.p.p.lt
  · rw [hg]; exact h.e.map.lt
  · rw [hg]; exact h.dn.r.lt
  · exact (h.dn.own.lt g hg).2
/-- What Get tells. -/
def savC (s : Option Ins) : Int × Int × Bool := match s with | some i => (i.v.ord, i.v.st, i.v.paid) | none => (0, 0, false)
def savM (s : Option Ins) : List Int := match s with | some i => i.v.ms | none => []
def savT (s : Option Ins) : List Int := match s with | some i => i.v.ts | none => []
def SavR (s : Option Ins) (w : World) (e : Ending) (w' : World) : Prop := ∃ MA mc TA tc pv, e = .returned (.tuple #[.agg #[.int .i64 (savC s).1, .int .i64 (savC s).2.1, .bool (savC s).2.2, .slice MA (savM s).length mc, .slice TA (savM s).length tc], pv, .bool s.isSome]) ∧ w'.ownsRow w.heap.size 71 1 (.slice MA (savM s).length mc) (savM s).length ((savM s).flatMap en1) ∧ w'.ownsRow w.heap.size 3 1 (.slice TA (savM s).length tc) (savM s).length ((savT s).flatMap en1) ∧ Below w.heap.size w w' ∧ (savT s).length = (savM s).length ∧ (savM s).length ≤ 1000
theorem AlS.get (h : AlS w0 ds X M n0 ins A Y n1 R LA lc bs od vO pA pc rA rc K w) (o : Int) : Calls Tryz.prog 9 #[.pointer (some ⟨X, 0, none⟩), .int .i64 o] w (SavR (insAt ins o) w) := by
  cases hs : insAt ins o with
  | none =>
    refine (get_err (w := w) (.pointer (some ⟨X, 0, none⟩)) o 70 (.inr rfl) (fun w' hb => ?_)).mono ?_
    · have := efind_any (h.e.next hb) o
      rw [show findV (esOf ins) o = (.pointer none, 70) from by unfold findV; rw [mget_ins, hs]; rfl] at this
      exact this
    · rintro e w2 ⟨rfl, hb⟩
      exact ⟨none, 0, none, 0, .pointer none, rfl, World.ownsRow_nil _ _ _ _, World.ownsRow_nil _ _ _ _, hb, rfl, by simp [savM]⟩
  | some i =>
    obtain ⟨hi, ho⟩ := insAt_mem hs
    have hii := (h.i i hi).2.1
    refine (get_some hii (.pointer (some ⟨X, 0, none⟩)) o (fun w' hb => ?_)).mono ?_
    · have := efind_any (h.e.next hb) o
      rw [show findV (esOf ins) o = (.pointer (some ⟨i.I, 0, none⟩), 0) from by unfold findV; rw [mget_ins, hs]; rfl] at this
      exact this
    · rintro e w2 ⟨MA, mc, TA, tc, rfl, h1, h2, hb⟩
      have hl := hii.tl
      refine ⟨MA, mc, TA, tc, .pointer (some ⟨i.d.P, 0, none⟩), ?_, h1, ?_, hb, hl, hii.n⟩
      · rw [show svC i.v.ord i.v.st i.v.paid i.v.ms MA mc i.v.ts TA tc = #[.int .i64 i.v.ord, .int .i64 i.v.st, .bool i.v.paid, .slice MA i.v.ms.length mc, .slice TA i.v.ts.length tc] from rfl, hl]
        rfl
      · rw [hl] at h2
        exact h2
/-- What a call for one order leaves. -/
def CallR (w0 : World) (ds : List PlD) (X M n0 : Nat) (ins : List Ins) (A : Nat → Int) (Y : Nat → Pw) (n1 R : Nat) (LA : Option Addr) (lc : Nat) (bs : List Nat) (od : Nat → Int) (vO : Value) (pA : Option Addr) (pc : Nat) (rA : Option Addr) (rc : Nat) (K : Int) (o : Int) (w : World) (e : Ending) (w' : World) : Prop :=
  ∃ (OA : Option Addr) (fs : List Eff) (oc : Nat) (c : Int) (ins' : List Ins) (A' : Nat → Int) (Y' : Nat → Pw), e = .returned (.tuple #[.slice OA fs.length oc, .int .i64 c]) ∧ Rd w' OA (fs.flatMap enEf) ∧ (∀ f ∈ fs, f.order = o) ∧ AlS w0 ds X M n0 ins' A' Y' n1 R LA lc bs od vO pA pc rA rc (K + 1) w' ∧ (∀ o2, o2 ≠ o → insAt ins' o2 = insAt ins o2) ∧ Touch (OwnA ds M ins Y R LA lc bs.length) w w' ∧ fs.length ≤ maxLen
theorem AlS.no_eff (h : AlS w0 ds X M n0 ins A Y n1 R LA lc bs od vO pA pc rA rc K w) {o c : Int} {e : Ending} {w' : World} (he : e = .returned (.tuple #[.slice none 0 0, .int .i64 c]) ∧ Below w.heap.size w w') : CallR w0 ds X M n0 ins A Y n1 R LA lc bs od vO pA pc rA rc K o w e w' :=
  ⟨none, [], 0, c, ins, A, Y, he.1, .inl rfl, fun f hf => (by cases hf), (h.next he.2).mono (by omega), fun _ _ => rfl, Touch.of_below he.2, by simp [maxLen]⟩
theorem AlS.of_eff (h : AlS w0 ds X M n0 ins A Y n1 R LA lc bs od vO pA pc rA rc K w) {o : Int} {i : Ins} (hs : insAt ins o = some i) {r : Iv} {e : Ending} {w' : World} (hr : IvP o (1099511627776 + K + 1) r) (hE : EffR i.base i.d.base i.I i.d.P i.d.nm i.d.Ls i.d.Bs (A i.d.P) (Y i.d.P) i.v i.l r w e w') : CallR w0 ds X M n0 ins A Y n1 R LA lc bs od vO pA pc rA rc K o w e w' := by
  obtain ⟨hi, ho⟩ := insAt_mem hs
  obtain ⟨OA, oc, ask', y', l', rfl, ha, hI, hM, hO, _⟩ := hE
  have hA := (h.p i.d (h.i i hi).1).2.2.1
  subst ho
  refine ⟨OA, r.out, oc, 0, _, _, _, rfl, own_rd hO, hr.out, h.eff hi hI hM rfl (by have := hr.zero; rw [show (1099511627776 + (K + 1) : Int) = 1099511627776 + K + 1 from by omega]; exact this) ⟨by omega, by omega⟩ (by omega), fun o2 ho2 => insAt_set (by exact hr.ord) ho2 ins, hM.m.t.mono (fun g hg => ?_), ?_⟩
  · rcases hg with hg | hg
    · exact .inl ⟨i, hi, hg⟩
    · exact .inr (.inl ⟨i.d, (h.i i hi).1, hg⟩)
  · exact own_max13 hO
theorem AlS.reply (h : AlS w0 ds X M n0 ins A Y n1 R LA lc bs od vO pA pc rA rc K w) (hK : K ≤ 1000000000000000) (o s tr code : Int) (un : Bool) : Calls Tryz.prog 10 #[.pointer (some ⟨X, 0, none⟩), .int .i64 o, .int .i64 s, .int .i64 tr, .bool un, .int .i64 code] w (CallR w0 ds X M n0 ins A Y n1 R LA lc bs od vO pA pc rA rc K o w) := by
  have hk := h.k
  cases hs : insAt ins o with
  | none =>
    refine (reply_err (w := w) (.pointer (some ⟨X, 0, none⟩)) o s tr code un 70 (.inr (.inl rfl)) (at_none h.e o s (by rw [mget_ins, hs]; rfl))).mono ?_
    rintro e w2 ⟨rfl, rfl⟩
    exact h.no_eff ⟨rfl, Below.refl _ _⟩
  | some i =>
    obtain ⟨hi, ho⟩ := insAt_mem hs
    obtain ⟨hd, hii, hmn, hout, _, hiv⟩ := h.i i hi
    have hat := at_some h.e o s (by rw [mget_ins, hs]; rfl) hii
    by_cases hr : 0 ≤ s ∧ s < i.v.ms.length
    · rw [if_pos hr] at hat
      obtain ⟨q, rfl⟩ : ∃ q : Nat, s = (q : Int) := ⟨s.toNat, by omega⟩
      have hq : q < i.d.Ls.length := by omega
      refine (reply_any (h.inp hi) (by rw [hout]; simp) (by have := (h.p i.d hd).2.2.1; omega) (.pointer (some ⟨X, 0, none⟩)) o tr code un q _ (List.getElem?_eq_getElem hq) hat).mono (fun e w2 hE => h.of_eff hs ?_ hE)
      rw [ho] at hiv
      exact (hiv.rp (by omega) _ _ _ _ _ _ _).mono (by omega)
    · rw [if_neg hr] at hat
      refine (reply_err (w := w) (.pointer (some ⟨X, 0, none⟩)) o s tr code un 70 (.inr (.inl rfl)) hat).mono ?_
      rintro e w2 ⟨rfl, rfl⟩
      exact h.no_eff ⟨rfl, Below.refl _ _⟩
theorem AlS.fire (h : AlS w0 ds X M n0 ins A Y n1 R LA lc bs od vO pA pc rA rc K w) (hK : K ≤ 1000000000000000) (o s : Int) : Calls Tryz.prog 11 #[.pointer (some ⟨X, 0, none⟩), .int .i64 o, .int .i64 s] w (CallR w0 ds X M n0 ins A Y n1 R LA lc bs od vO pA pc rA rc K o w) := by
  have hk := h.k
  cases hs : insAt ins o with
  | none =>
    refine (fire_err (w := w) (.pointer (some ⟨X, 0, none⟩)) o s 70 (.inr (.inl rfl)) (at_none h.e o s (by rw [mget_ins, hs]; rfl))).mono ?_
    rintro e w2 ⟨rfl, rfl⟩
    exact h.no_eff ⟨rfl, Below.refl _ _⟩
  | some i =>
    obtain ⟨hi, ho⟩ := insAt_mem hs
    obtain ⟨hd, hii, hmn, hout, _, hiv⟩ := h.i i hi
    have hat := at_some h.e o s (by rw [mget_ins, hs]; rfl) hii
    by_cases hr : 0 ≤ s ∧ s < i.v.ms.length
    · rw [if_pos hr] at hat
      obtain ⟨q, rfl⟩ : ∃ q : Nat, s = (q : Int) := ⟨s.toNat, by omega⟩
      have hq : q < i.d.Ls.length := by omega
      have hm := mkA_ts hiv (by omega) q
      refine (fire_any (h.inp hi) (by rw [hout]; simp) (by have := (h.p i.d hd).2.2.1; omega) (.pointer (some ⟨X, 0, none⟩)) o q _ (List.getElem?_eq_getElem hq) (by omega) hat).mono (fun e w2 hE => h.of_eff hs ?_ hE)
      rw [ho] at hiv
      exact hiv.fr (by omega) _ _ _ _
    · rw [if_neg hr] at hat
      refine (fire_err (w := w) (.pointer (some ⟨X, 0, none⟩)) o s 70 (.inr (.inl rfl)) hat).mono ?_
      rintro e w2 ⟨rfl, rfl⟩
      exact h.no_eff ⟨rfl, Below.refl _ _⟩
theorem AlS.paid (h : AlS w0 ds X M n0 ins A Y n1 R LA lc bs od vO pA pc rA rc K w) (o : Int) : Calls Tryz.prog 12 #[.pointer (some ⟨X, 0, none⟩), .int .i64 o] w (CallR w0 ds X M n0 ins A Y n1 R LA lc bs od vO pA pc rA rc K o w) := by
  have hk := h.k
  have hf := efind_any h.e o
  cases hs : insAt ins o with
  | none =>
    rw [show findV (esOf ins) o = (.pointer none, 70) from by unfold findV; rw [mget_ins, hs]; rfl] at hf
    refine (paid_err (w := w) (.pointer (some ⟨X, 0, none⟩)) o 70 (.inr (.inl rfl)) hf).mono ?_
    rintro e w2 ⟨rfl, rfl⟩
    exact h.no_eff ⟨rfl, Below.refl _ _⟩
  | some i =>
    obtain ⟨hi, ho⟩ := insAt_mem hs
    obtain ⟨hd, hii, hmn, hout, _, hiv⟩ := h.i i hi
    rw [show findV (esOf ins) o = (.pointer (some ⟨i.I, 0, none⟩), 0) from by unfold findV; rw [mget_ins, hs]; rfl] at hf
    refine (paid_any (h.inp hi) (by rw [hout]; simp) (.pointer (some ⟨X, 0, none⟩)) o hf).mono (fun e w2 hE => h.of_eff hs ?_ hE)
    rw [ho] at hiv
    exact (hiv.pd (by omega) _ _).mono (by omega)
theorem AlS.cancel (h : AlS w0 ds X M n0 ins A Y n1 R LA lc bs od vO pA pc rA rc K w) (hK : K ≤ 1000000000000000) (o : Int) : Calls Tryz.prog 13 #[.pointer (some ⟨X, 0, none⟩), .int .i64 o] w (CallR w0 ds X M n0 ins A Y n1 R LA lc bs od vO pA pc rA rc K o w) := by
  have hk := h.k
  have hf := efind_any h.e o
  cases hs : insAt ins o with
  | none =>
    rw [show findV (esOf ins) o = (.pointer none, 70) from by unfold findV; rw [mget_ins, hs]; rfl] at hf
    refine (cancel_err (w := w) (.pointer (some ⟨X, 0, none⟩)) o 70 (.inr (.inl rfl)) hf).mono ?_
    rintro e w2 ⟨rfl, rfl⟩
    exact h.no_eff ⟨rfl, Below.refl _ _⟩
  | some i =>
    obtain ⟨hi, ho⟩ := insAt_mem hs
    obtain ⟨hd, hii, hmn, hout, _, hiv⟩ := h.i i hi
    rw [show findV (esOf ins) o = (.pointer (some ⟨i.I, 0, none⟩), 0) from by unfold findV; rw [mget_ins, hs]; rfl] at hf
    refine (cancel_any (h.inp hi) (by rw [hout]; simp) (by have := (h.p i.d hd).2.2.1; omega) (.pointer (some ⟨X, 0, none⟩)) o hf).mono (fun e w2 hE => ?_)
    unfold CanR at hE
    split at hE
    · exact h.no_eff hE
    · refine h.of_eff hs ?_ hE
      rw [ho] at hiv
      exact (hiv.turn _ _).mono (by omega)
end

end Go.Proofs.YtoemmakhbiiknaaGreat
