/-
  (*Engine).Reply, at an instance that is there.
  (*Engine).Paid, (*Engine).Cancel, at an instance that is there.
  (*Engine).Fire, at an instance that is there.
  Plain: what every call keeps of an instance's numbers (its order, its tries' bounds, its effects' order).
  The document's engine: Find.
  The document's engine: Live.
  The document's engine: an instance under way; all, tell.
  The document's engine: count.
-/
import Derived.Test.YtoemmakhbiiknaaGreatQe11
namespace Go.Proofs.YtoemmakhbiiknaaGreat
open Go.RowKit Go.WideShapes Go.ChangeShapes Go.ChangeAt Go.Deep
set_option linter.unusedVariables false

section
variable {base base2 I P : Nat} {nm : ByteArray} {Ls : List Stp} {Bs : List IRow} {ask : Int} {y y1 y2 : Pw} {v v1 v2 : Iv} {l l1 l2 : Il} {w w' w1 w2 : World} {X : Nat → Prop}
/-- What a call answers: the effects of r, the instance as r without them. -/
def EffR (base base2 I P : Nat) (nm : ByteArray) (Ls : List Stp) (Bs : List IRow) (ask : Int) (y : Pw) (v : Iv) (l : Il) (r : Iv) (w : World) (e : Ending) (w' : World) : Prop :=
  ∃ OA oc ask' y' l', e = .returned (.tuple #[.slice OA r.out.length oc, .int .i64 0]) ∧ (ask ≤ ask' ∧ ask' ≤ ask + 1000) ∧ InP base base2 I P nm Ls Bs ask' y' { r with out := [] } l' w' ∧ Mw I P Ls Bs y v l y' { r with out := [] } l' w w' ∧ w'.ownsRow base 55 6 (.slice OA r.out.length oc) r.out.length (r.out.flatMap enEf) ∧ l'.OA = none
/-- What was answered stays, whatever comes later. -/
theorem eff_keep {b n m : Nat} {x : Value} {xs : List Value} {y' : Pw} {v' : Iv} {l' : Il} (hO : w.ownsRow b 55 m x n xs) (hI : InP base base2 I P nm Ls Bs ask y v l w) (hl : l.OA = none) (hm : Mw I P Ls Bs y v l y' v' l' w w') : w'.ownsRow b 55 m x n xs :=
  own_touch hO hm.m.t (fun g hg hu => by
    rcases hu with (hu | hu | hu | hu) | hu
    · exact own_notBlk hO hI.i.b (by decide) (by rw [hg, hu])
    · exact own_ne (own_base hO (Nat.zero_le _)) (own_base hI.i.m (Nat.zero_le _)) (by decide) hg hu
    · exact own_ne (own_base hO (Nat.zero_le _)) (own_base hI.i.t (Nat.zero_le _)) (by decide) hg hu
    · rw [hl] at hu
      cases hu
    · exact own_notBlk hO hI.p.p.p (by decide) (by rw [hg, hu]))
theorem effR_of {ask' : Int} {y' : Pw} {r : Iv} {l' : Il} (h : InP base base2 I P nm Ls Bs ask' y' r l' w1) (ha : ask ≤ ask' ∧ ask' ≤ ask + 1000) (hm : Mw I P Ls Bs y v l y' r l' w w1) (E1 : IsI base I (.pointer (some ⟨P, 0, none⟩)) { r with out := [] } { l' with OA := none, oc := 0 } w2) (E2 : Mv (fun _ => False) I r l' { r with out := [] } { l' with OA := none, oc := 0 } w1 w2) (E3 : w2.ownsRow base 55 6 (.slice l'.OA r.out.length l'.oc) r.out.length (r.out.flatMap enEf)) :
    EffR base base2 I P nm Ls Bs ask y v l r w (.returned (.tuple #[.slice l'.OA r.out.length l'.oc, .int .i64 0])) w2 :=
  ⟨_, _, ask', y', _, rfl, ha, h.upd E1 E2 rfl, hm.trans (Mw.of E2), E3, rfl⟩
def rpV (Ls : List Stp) (Bs : List IRow) (v : Iv) (t : Stp) (s : Nat) (tr : Int) (un : Bool) (code : Int) : Iv :=
  if un = true then (if (mkA v.ms s == 4) = true then uwV Ls Bs { v with ms := v.ms.set s 5 } else v)
  else if (v.st != 0 || (mkA v.ms s != 1 || mkA v.ts s != tr)) = true then v
  else if (code == 0 || (t.event.toList.isEmpty && t.fin)) = true then goV Ls Bs { v with ms := v.ms.set s 3 }
  else if (code == 150 && decide (tr ≤ t.ret)) = true then { v with ms := v.ms.set s 2, out := v.out ++ [⟨2, v.ord, s, 0, t.ev, false⟩] }
  else turnV Ls Bs { v with ms := v.ms.set s 5 }
set_option maxRecDepth 100000 in
set_option maxHeartbeats 32000000 in
theorem reply_any (h : InP base base2 I P nm Ls Bs ask y v l w) (ho : v.out.length ≤ 1000) (ha : 0 ≤ ask ∧ ask ≤ 4611686018427386904) (xv : Value) (o tr code : Int) (un : Bool) (s : Nat) (t : Stp) (ht : Ls[s]? = some t)
    (hat : Calls Tryz.prog 30 #[xv, .int .i64 o, .int .i64 s] w fun e w' => e = .returned (.tuple #[.pointer (some ⟨I, 0, none⟩), .int .i64 0]) ∧ w' = w) :
    Calls Tryz.prog 10 #[xv, .int .i64 o, .int .i64 s, .int .i64 tr, .bool un, .int .i64 code] w (EffR base base2 I P nm Ls Bs ask y v l (rpV Ls Bs v t s tr un code) w) := by
  have HAT := hid (hat)
  have HT := hid ht
  have HA := hid ha
  have HO := hid ho
  have HI := hid h
  have KS := hid (step_in h.p.p s t ht (h.p.aft t (List.mem_of_getElem? ht)))
  have HHS := hid (show s < v.ms.length from by rw [h.mn]; exact (List.getElem?_eq_some_iff.1 ht).1)
  have i5 : w.cell? ⟨I, 5, none⟩ = some (.pointer (some ⟨P, 0, none⟩)) := h.i.b.cell 5
  have lI := h.i.b.lt
  have hn := h.i.n
  clear h ht hat ha ho
  go_enter Tryz.func10, Tryz.ntmps10
  go_wp2_with fail
  refine HAT.out.mono ?_
  rintro e w0 ⟨rfl, rfl⟩
  clear HAT
  go_wp2_with fail
  refine KS.out.mono ?_
  rintro e w1 ⟨A, cap, rfl, _, hb1⟩
  have HI1 := hid (HI.out.next hb1)
  clear KS i5
  obtain ⟨xn, xv2, xu, xe, xf, xr, xy, xw, xA, xc, xl⟩ := t
  rw [show (enSt (twn ⟨xn, xv2, xu, xe, xf, xr, xy, xw, xA, xc, xl⟩ A cap)).toArray = #[.string xn, .string xv2, .string xu, .string xe, .bool xf, .int .i64 xr, .int .i64 xy, .int .i64 xw, .slice A xl.length cap] from rfl]
  go_upto_region 7 with fail
  have hB := Blk.new w1 69 #[.string xn, .string xv2, .string xu, .string xe, .bool xf, .int .i64 xr, .int .i64 xy, .int .i64 xw, .slice A xl.length cap]
  have hbW : Below w1.heap.size w1 (w1.alloc (.cells #[.string xn, .string xv2, .string xu, .string xe, .bool xf, .int .i64 xr, .int .i64 xy, .int .i64 xw, .slice A xl.length cap] 69)) := (Below.refl _ _).alloc (Nat.le_refl _) _
  generalize w1.alloc (.cells #[.string xn, .string xv2, .string xu, .string xe, .bool xf, .int .i64 xr, .int .i64 xy, .int .i64 xw, .slice A xl.length cap] 69) = W at hB hbW ⊢
  have HIW := hid (HI1.out.next hbW)
  have HBW := hid (bthen hb1 hbW)
  have HMW : Hid (Mw I P Ls Bs y v l y v l w0 W) := hid (Mw.of (HBW.out.mv))
  clear hbW
  have hGlt := hid (show ∀ g, IU I v l g → g < w1.heap.size from fun g hg => (HI1.out.i.use hg).2)
  generalize w1.heap.size = G at hB hGlt ⊢
  obtain ⟨gm, hgm, lgm⟩ := HIW.out.i.ma HHS.out
  obtain ⟨gt, hgt, lgt⟩ := HIW.out.i.ta HHS.out
  have HGM := hid hgm
  have HGT := hid hgt
  have b3 : W.cell? ⟨G, 3, none⟩ = some (.string xe) := hB.cell 3
  have b4 : W.cell? ⟨G, 4, none⟩ = some (.bool xf) := hB.cell 4
  have b5 : W.cell? ⟨G, 5, none⟩ = some (.int .i64 xr) := hB.cell 5
  have b6 : W.cell? ⟨G, 6, none⟩ = some (.int .i64 xy) := hB.cell 6
  have lG := hB.lt
  have i1 : W.cell? ⟨I, 1, none⟩ = some (.int .i64 v.st) := HIW.out.i.b.cell 1
  have i3 : W.cell? ⟨I, 3, none⟩ = some (.slice (some ⟨gm, 0, none⟩) v.ms.length l.mc) := by rw [HIW.out.i.b.cell 3, ← hgm]; rfl
  have i4 : W.cell? ⟨I, 4, none⟩ = some (.slice (some ⟨gt, 0, none⟩) v.ts.length l.tc) := by rw [HIW.out.i.b.cell 4, ← hgt]; rfl
  have lIW := HIW.out.i.b.lt
  have hsz := HHS.out
  have hst : s < v.ts.length := by rw [HIW.out.i.tl]; exact hsz
  have hn2 : v.ts.length ≤ 1000 := by rw [HIW.out.i.tl]; exact hn
  obtain ⟨m, hm⟩ : ∃ m, v.ms[s]? = some m := ⟨_, List.getElem?_eq_getElem hsz⟩
  obtain ⟨q, hq⟩ : ∃ q, v.ts[s]? = some q := ⟨_, List.getElem?_eq_getElem hst⟩
  have cm : W.cell? ⟨gm, s, none⟩ = some (.int .i64 m) := HIW.out.i.mark hgm hm
  have ct : W.cell? ⟨gt, s, none⟩ = some (.int .i64 q) := HIW.out.i.try_ hgt hq
  have fm : W.frozen? ⟨gm, s, none⟩ = false := own_free (by have := HIW.out.i.m; rw [hgm] at this; exact this) s
  have hgG : gm ≠ G := fun e => by have := hGlt.out gm (.inr (.inl (by rw [hgm]; rfl))); omega
  have hmk : mkA v.ms s = m := by simp [mkA, List.getD, hm]
  have hqk : mkA v.ts s = q := by simp [mkA, List.getD, hq]
  have HMK := hid (And.intro hmk hqk)
  clear hgm hgt hB hb1 HI HI1 hGlt hm hq hmk hqk
  cases un with
  | true =>
    cases hz : (m == 4) with
    | true =>
      have HV := hid (show rpV Ls Bs v ⟨xn, xv2, xu, xe, xf, xr, xy, xw, xA, xc, xl⟩ s tr true code = uwV Ls Bs { v with ms := v.ms.set s 5 } from by
        unfold rpV
        rw [if_pos rfl, HMK.out.1, if_pos hz])
      obtain ⟨m1, m2⟩ := HIW.out.i.setMark (X := fun _ => False) HGM.out HHS.out 5
      have HU := hid (And.intro (HIW.out.upd m1 m2 (by simp)) (HMW.out.trans (Mw.of m2)))
      clear m1 m2
      have KU := hid (unwind_any HU.out.1 (by have := HO.out; simp only; omega) HA.out)
      go_wp2_with fail
      refine KU.out.mono ?_
      rintro e w5 ⟨rfl, ask', y', l', q1, q2, q3, q4⟩
      have HF := hid (And.intro q3 (HU.out.2.trans q4))
      clear q3 q4 KU HU
      have KE := hid (effects_any (X := fun _ => False) HF.out.1.i)
      go_wp2_with fail
      refine KE.out.mono ?_
      rintro e w9 ⟨rfl, E1, E2, E3⟩
      have HE := hid (effR_of (v := v) (l := l) (y := y) (w := w0) (ask := ask) HF.out.1 ⟨q1, q2⟩ HF.out.2 E1 E2 E3)
      clear E1 E2 E3 KE
      go_wp2_with fail
      go_ret2
      rw [HV.out]
      exact HE.out
    | false =>
      have HV := hid (show rpV Ls Bs v ⟨xn, xv2, xu, xe, xf, xr, xy, xw, xA, xc, xl⟩ s tr true code = v from by
        unfold rpV
        rw [if_pos rfl, HMK.out.1, if_neg (by rw [hz]; decide)])
      have KE := hid (effects_any (X := fun _ => False) HIW.out.i)
      go_wp2_with fail
      refine KE.out.mono ?_
      rintro e w9 ⟨rfl, E1, E2, E3⟩
      have HE := hid (effR_of (v := v) (l := l) (y := y) (w := w0) (ask := ask) HIW.out ⟨by omega, by omega⟩ HMW.out E1 E2 E3)
      clear E1 E2 E3 KE
      go_wp2_with fail
      go_ret2
      rw [HV.out]
      exact HE.out
  | false =>
    cases h1 : (v.st != 0) with
    | true =>
      have HV := hid (show rpV Ls Bs v ⟨xn, xv2, xu, xe, xf, xr, xy, xw, xA, xc, xl⟩ s tr false code = v from by
        unfold rpV
        rw [if_neg (by decide), if_pos (by rw [h1]; rfl)])
      have KE := hid (effects_any (X := fun _ => False) HIW.out.i)
      go_wp2_with fail
      refine KE.out.mono ?_
      rintro e w9 ⟨rfl, E1, E2, E3⟩
      have HE := hid (effR_of (v := v) (l := l) (y := y) (w := w0) (ask := ask) HIW.out ⟨by omega, by omega⟩ HMW.out E1 E2 E3)
      clear E1 E2 E3 KE
      go_wp2_with fail
      go_ret2
      rw [HV.out]
      exact HE.out
    | false =>
      cases h2 : (m != 1) with
      | true =>
        have HV := hid (show rpV Ls Bs v ⟨xn, xv2, xu, xe, xf, xr, xy, xw, xA, xc, xl⟩ s tr false code = v from by
          unfold rpV
          rw [if_neg (by decide), HMK.out.1, if_pos (by rw [h1, h2]; rfl)])
        have KE := hid (effects_any (X := fun _ => False) HIW.out.i)
        go_wp2_with fail
        refine KE.out.mono ?_
        rintro e w9 ⟨rfl, E1, E2, E3⟩
        have HE := hid (effR_of (v := v) (l := l) (y := y) (w := w0) (ask := ask) HIW.out ⟨by omega, by omega⟩ HMW.out E1 E2 E3)
        clear E1 E2 E3 KE
        go_wp2_with fail
        go_ret2
        rw [HV.out]
        exact HE.out
      | false =>
        cases h3 : (q != tr) with
        | true =>
          have HV := hid (show rpV Ls Bs v ⟨xn, xv2, xu, xe, xf, xr, xy, xw, xA, xc, xl⟩ s tr false code = v from by
            unfold rpV
            rw [if_neg (by decide), HMK.out.1, HMK.out.2, if_pos (by rw [h1, h2, h3]; rfl)])
          have KE := hid (effects_any (X := fun _ => False) HIW.out.i)
          go_wp2_with fail
          refine KE.out.mono ?_
          rintro e w9 ⟨rfl, E1, E2, E3⟩
          have HE := hid (effR_of (v := v) (l := l) (y := y) (w := w0) (ask := ask) HIW.out ⟨by omega, by omega⟩ HMW.out E1 E2 E3)
          clear E1 E2 E3 KE
          go_wp2_with fail
          go_ret2
          rw [HV.out]
          exact HE.out
        | false =>
          have HN3 := hid (show ¬ ((v.st != 0 || (mkA v.ms s != 1 || mkA v.ts s != tr)) = true) from by rw [HMK.out.1, HMK.out.2, h1, h2, h3]; decide)
          cases h4 : (code == 0) with
          | true =>
            have HV := hid (show rpV Ls Bs v ⟨xn, xv2, xu, xe, xf, xr, xy, xw, xA, xc, xl⟩ s tr false code = goV Ls Bs { v with ms := v.ms.set s 3 } from by
              unfold rpV
              rw [if_neg (by decide), if_neg HN3.out, if_pos (by rw [h4]; rfl)])
            obtain ⟨m1, m2⟩ := HIW.out.i.setMark (X := fun _ => False) HGM.out HHS.out 3
            have HU := hid (And.intro (HIW.out.upd m1 m2 (by simp)) (HMW.out.trans (Mw.of m2)))
            clear m1 m2
            have KU := hid (goOn_any HU.out.1 (by have := HO.out; simp only; omega))
            go_wp2_with fail
            refine KU.out.mono ?_
            rintro e w5 ⟨rfl, l', q3, q4⟩
            have HF := hid (And.intro q3 (HU.out.2.trans q4))
            clear q3 q4 KU HU
            have KE := hid (effects_any (X := fun _ => False) HF.out.1.i)
            go_wp2_with fail
            refine KE.out.mono ?_
            rintro e w9 ⟨rfl, E1, E2, E3⟩
            have HE := hid (effR_of (v := v) (l := l) (y := y) (w := w0) (ask := ask) HF.out.1 ⟨by omega, by omega⟩ HF.out.2 E1 E2 E3)
            clear E1 E2 E3 KE
            go_wp2_with fail
            go_ret2
            rw [HV.out]
            exact HE.out
          | false =>
            cases h5 : xe.toList.isEmpty with
            | true =>
              cases xf with
              | true =>
                have HV := hid (show rpV Ls Bs v ⟨xn, xv2, xu, xe, true, xr, xy, xw, xA, xc, xl⟩ s tr false code = goV Ls Bs { v with ms := v.ms.set s 3 } from by
                  unfold rpV
                  rw [if_neg (by decide), if_neg HN3.out, if_pos (by simp only; rw [h4, h5]; rfl)])
                obtain ⟨m1, m2⟩ := HIW.out.i.setMark (X := fun _ => False) HGM.out HHS.out 3
                have HU := hid (And.intro (HIW.out.upd m1 m2 (by simp)) (HMW.out.trans (Mw.of m2)))
                clear m1 m2
                have KU := hid (goOn_any HU.out.1 (by have := HO.out; simp only; omega))
                go_wp2_with fail
                refine KU.out.mono ?_
                rintro e w5 ⟨rfl, l', q3, q4⟩
                have HF := hid (And.intro q3 (HU.out.2.trans q4))
                clear q3 q4 KU HU
                have KE := hid (effects_any (X := fun _ => False) HF.out.1.i)
                go_wp2_with fail
                refine KE.out.mono ?_
                rintro e w9 ⟨rfl, E1, E2, E3⟩
                have HE := hid (effR_of (v := v) (l := l) (y := y) (w := w0) (ask := ask) HF.out.1 ⟨by omega, by omega⟩ HF.out.2 E1 E2 E3)
                clear E1 E2 E3 KE
                go_wp2_with fail
                go_ret2
                rw [HV.out]
                exact HE.out
              | false =>
                cases h7 : (code == 150) with
                | true =>
                  by_cases h8 : tr ≤ xr
                  · have HV := hid (show rpV Ls Bs v ⟨xn, xv2, xu, xe, false, xr, xy, xw, xA, xc, xl⟩ s tr false code = { v with ms := v.ms.set s 2, out := v.out ++ [⟨2, v.ord, s, 0, xy, false⟩] } from by
                      unfold rpV
                      rw [if_neg (by decide), if_neg HN3.out, if_neg (by simp only; rw [h4, h5]; decide), if_pos (by simp only; rw [h7, decide_eq_true h8]; rfl)])
                    obtain ⟨m1, m2⟩ := HIW.out.i.setMark (X := fun _ => False) HGM.out HHS.out 2
                    have HU := hid (And.intro (HIW.out.upd m1 m2 (by simp)) (HMW.out.trans (Mw.of m2)))
                    clear m1 m2
                    have KT := hid (tell_any (X := fun _ => False) HU.out.1.i (by have := HO.out; simp only; omega) 2 s 0 xy false)
                    go_wp2_with fail
                    refine KT.out.mono ?_
                    rintro e w7 ⟨rfl, OA', oc', T1, T2⟩
                    have HF := hid (And.intro (HU.out.1.upd T1 T2 rfl) (HU.out.2.trans (Mw.of T2)))
                    clear T1 T2 KT HU
                    obtain ⟨r, hr⟩ : ∃ r : Iv, r = { v with ms := v.ms.set s 2, out := v.out ++ [⟨2, v.ord, s, 0, xy, false⟩] } := ⟨_, rfl⟩
                    rw [← hr] at HF HV
                    clear hr
                    have KE := hid (effects_any (X := fun _ => False) HF.out.1.i)
                    go_wp2_with fail
                    refine KE.out.mono ?_
                    rintro e w9 ⟨rfl, E1, E2, E3⟩
                    have HE := hid (effR_of (v := v) (l := l) (y := y) (w := w0) (ask := ask) HF.out.1 ⟨by omega, by omega⟩ HF.out.2 E1 E2 E3)
                    clear E1 E2 E3 KE
                    go_wp2_with fail
                    go_ret2
                    rw [HV.out]
                    exact HE.out
                  · have HV := hid (show rpV Ls Bs v ⟨xn, xv2, xu, xe, false, xr, xy, xw, xA, xc, xl⟩ s tr false code = turnV Ls Bs { v with ms := v.ms.set s 5 } from by
                      unfold rpV
                      rw [if_neg (by decide), if_neg HN3.out, if_neg (by simp only; rw [h4, h5]; decide), if_neg (by simp only; rw [h7, decide_eq_false h8]; decide)])
                    obtain ⟨m1, m2⟩ := HIW.out.i.setMark (X := fun _ => False) HGM.out HHS.out 5
                    have HU := hid (And.intro (HIW.out.upd m1 m2 (by simp)) (HMW.out.trans (Mw.of m2)))
                    clear m1 m2
                    have KU := hid (turn_any HU.out.1 (by have := HO.out; simp only; omega) HA.out)
                    go_wp2_with fail
                    refine KU.out.mono ?_
                    rintro e w5 ⟨rfl, ask', y', l', q1, q2, q3, q4⟩
                    have HF := hid (And.intro q3 (HU.out.2.trans q4))
                    clear q3 q4 KU HU
                    have KE := hid (effects_any (X := fun _ => False) HF.out.1.i)
                    go_wp2_with fail
                    refine KE.out.mono ?_
                    rintro e w9 ⟨rfl, E1, E2, E3⟩
                    have HE := hid (effR_of (v := v) (l := l) (y := y) (w := w0) (ask := ask) HF.out.1 ⟨q1, q2⟩ HF.out.2 E1 E2 E3)
                    clear E1 E2 E3 KE
                    go_wp2_with fail
                    go_ret2
                    rw [HV.out]
                    exact HE.out
                | false =>
                  have HV := hid (show rpV Ls Bs v ⟨xn, xv2, xu, xe, false, xr, xy, xw, xA, xc, xl⟩ s tr false code = turnV Ls Bs { v with ms := v.ms.set s 5 } from by
                    unfold rpV
                    rw [if_neg (by decide), if_neg HN3.out, if_neg (by simp only; rw [h4, h5]; decide), if_neg (by simp only; rw [h7]; simp)])
                  obtain ⟨m1, m2⟩ := HIW.out.i.setMark (X := fun _ => False) HGM.out HHS.out 5
                  have HU := hid (And.intro (HIW.out.upd m1 m2 (by simp)) (HMW.out.trans (Mw.of m2)))
                  clear m1 m2
                  have KU := hid (turn_any HU.out.1 (by have := HO.out; simp only; omega) HA.out)
                  go_wp2_with fail
                  refine KU.out.mono ?_
                  rintro e w5 ⟨rfl, ask', y', l', q1, q2, q3, q4⟩
                  have HF := hid (And.intro q3 (HU.out.2.trans q4))
                  clear q3 q4 KU HU
                  have KE := hid (effects_any (X := fun _ => False) HF.out.1.i)
                  go_wp2_with fail
                  refine KE.out.mono ?_
                  rintro e w9 ⟨rfl, E1, E2, E3⟩
                  have HE := hid (effR_of (v := v) (l := l) (y := y) (w := w0) (ask := ask) HF.out.1 ⟨q1, q2⟩ HF.out.2 E1 E2 E3)
                  clear E1 E2 E3 KE
                  go_wp2_with fail
                  go_ret2
                  rw [HV.out]
                  exact HE.out
            | false =>
              cases h7 : (code == 150) with
              | true =>
                by_cases h8 : tr ≤ xr
                · have HV := hid (show rpV Ls Bs v ⟨xn, xv2, xu, xe, xf, xr, xy, xw, xA, xc, xl⟩ s tr false code = { v with ms := v.ms.set s 2, out := v.out ++ [⟨2, v.ord, s, 0, xy, false⟩] } from by
                    unfold rpV
                    rw [if_neg (by decide), if_neg HN3.out, if_neg (by simp only; rw [h4, h5]; simp), if_pos (by simp only; rw [h7, decide_eq_true h8]; rfl)])
                  obtain ⟨m1, m2⟩ := HIW.out.i.setMark (X := fun _ => False) HGM.out HHS.out 2
                  have HU := hid (And.intro (HIW.out.upd m1 m2 (by simp)) (HMW.out.trans (Mw.of m2)))
                  clear m1 m2
                  have KT := hid (tell_any (X := fun _ => False) HU.out.1.i (by have := HO.out; simp only; omega) 2 s 0 xy false)
                  go_wp2_with fail
                  refine KT.out.mono ?_
                  rintro e w7 ⟨rfl, OA', oc', T1, T2⟩
                  have HF := hid (And.intro (HU.out.1.upd T1 T2 rfl) (HU.out.2.trans (Mw.of T2)))
                  clear T1 T2 KT HU
                  obtain ⟨r, hr⟩ : ∃ r : Iv, r = { v with ms := v.ms.set s 2, out := v.out ++ [⟨2, v.ord, s, 0, xy, false⟩] } := ⟨_, rfl⟩
                  rw [← hr] at HF HV
                  clear hr
                  have KE := hid (effects_any (X := fun _ => False) HF.out.1.i)
                  go_wp2_with fail
                  refine KE.out.mono ?_
                  rintro e w9 ⟨rfl, E1, E2, E3⟩
                  have HE := hid (effR_of (v := v) (l := l) (y := y) (w := w0) (ask := ask) HF.out.1 ⟨by omega, by omega⟩ HF.out.2 E1 E2 E3)
                  clear E1 E2 E3 KE
                  go_wp2_with fail
                  go_ret2
                  rw [HV.out]
                  exact HE.out
                · have HV := hid (show rpV Ls Bs v ⟨xn, xv2, xu, xe, xf, xr, xy, xw, xA, xc, xl⟩ s tr false code = turnV Ls Bs { v with ms := v.ms.set s 5 } from by
                    unfold rpV
                    rw [if_neg (by decide), if_neg HN3.out, if_neg (by simp only; rw [h4, h5]; simp), if_neg (by simp only; rw [h7, decide_eq_false h8]; decide)])
                  obtain ⟨m1, m2⟩ := HIW.out.i.setMark (X := fun _ => False) HGM.out HHS.out 5
                  have HU := hid (And.intro (HIW.out.upd m1 m2 (by simp)) (HMW.out.trans (Mw.of m2)))
                  clear m1 m2
                  have KU := hid (turn_any HU.out.1 (by have := HO.out; simp only; omega) HA.out)
                  go_wp2_with fail
                  refine KU.out.mono ?_
                  rintro e w5 ⟨rfl, ask', y', l', q1, q2, q3, q4⟩
                  have HF := hid (And.intro q3 (HU.out.2.trans q4))
                  clear q3 q4 KU HU
                  have KE := hid (effects_any (X := fun _ => False) HF.out.1.i)
                  go_wp2_with fail
                  refine KE.out.mono ?_
                  rintro e w9 ⟨rfl, E1, E2, E3⟩
                  have HE := hid (effR_of (v := v) (l := l) (y := y) (w := w0) (ask := ask) HF.out.1 ⟨q1, q2⟩ HF.out.2 E1 E2 E3)
                  clear E1 E2 E3 KE
                  go_wp2_with fail
                  go_ret2
                  rw [HV.out]
                  exact HE.out
              | false =>
                have HV := hid (show rpV Ls Bs v ⟨xn, xv2, xu, xe, xf, xr, xy, xw, xA, xc, xl⟩ s tr false code = turnV Ls Bs { v with ms := v.ms.set s 5 } from by
                  unfold rpV
                  rw [if_neg (by decide), if_neg HN3.out, if_neg (by simp only; rw [h4, h5]; simp), if_neg (by simp only; rw [h7]; simp)])
                obtain ⟨m1, m2⟩ := HIW.out.i.setMark (X := fun _ => False) HGM.out HHS.out 5
                have HU := hid (And.intro (HIW.out.upd m1 m2 (by simp)) (HMW.out.trans (Mw.of m2)))
                clear m1 m2
                have KU := hid (turn_any HU.out.1 (by have := HO.out; simp only; omega) HA.out)
                go_wp2_with fail
                refine KU.out.mono ?_
                rintro e w5 ⟨rfl, ask', y', l', q1, q2, q3, q4⟩
                have HF := hid (And.intro q3 (HU.out.2.trans q4))
                clear q3 q4 KU HU
                have KE := hid (effects_any (X := fun _ => False) HF.out.1.i)
                go_wp2_with fail
                refine KE.out.mono ?_
                rintro e w9 ⟨rfl, E1, E2, E3⟩
                have HE := hid (effR_of (v := v) (l := l) (y := y) (w := w0) (ask := ask) HF.out.1 ⟨q1, q2⟩ HF.out.2 E1 E2 E3)
                clear E1 E2 E3 KE
                go_wp2_with fail
                go_ret2
                rw [HV.out]
                exact HE.out
end

end Go.Proofs.YtoemmakhbiiknaaGreat

namespace Go.Proofs.YtoemmakhbiiknaaGreat
open Go.RowKit Go.WideShapes Go.ChangeShapes Go.ChangeAt Go.Deep
set_option linter.unusedVariables false

section
variable {base base2 I P : Nat} {nm : ByteArray} {Ls : List Stp} {Bs : List IRow} {ask : Int} {y y1 y2 : Pw} {v v1 v2 : Iv} {l l1 l2 : Il} {w w' w1 w2 : World} {X : Nat → Prop}
def evB (Ls : List Stp) (s : Nat) : Bool := match Ls[s]? with | some t => !t.event.toList.isEmpty | none => false
def pdC (Ls : List Stp) (v : Iv) (s : Nat) : Bool := v.st == 0 && (mkA v.ms s == 2 && evB Ls s)
def pdN (Ls : List Stp) (v : Iv) : Nat → Iv
  | 0 => v
  | k + 1 => if pdC Ls (pdN Ls v k) k = true then { pdN Ls v k with ms := (pdN Ls v k).ms.set k 3, out := (pdN Ls v k).out ++ [⟨3, (pdN Ls v k).ord, k, 0, 0, false⟩] } else pdN Ls v k
def pdA (Ls : List Stp) (v : Iv) : Nat → Bool
  | 0 => false
  | k + 1 => pdA Ls v k || pdC Ls (pdN Ls v k) k
def paidV (Ls : List Stp) (Bs : List IRow) (v : Iv) : Iv := if pdA Ls { v with paid := true } v.ms.length = true then goV Ls Bs (pdN Ls { v with paid := true } v.ms.length) else pdN Ls { v with paid := true } v.ms.length
theorem pdN_ms (Ls : List Stp) (v : Iv) : ∀ k, (pdN Ls v k).ms.length = v.ms.length
  | 0 => rfl
  | k + 1 => by
    show (if _ then _ else _ : Iv).ms.length = _
    split
    · simp [pdN_ms Ls v k]
    · exact pdN_ms Ls v k
theorem pdN_out (Ls : List Stp) (v : Iv) : ∀ k, (pdN Ls v k).out.length ≤ v.out.length + k
  | 0 => Nat.le_refl _
  | k + 1 => by
    have h2 := pdN_out Ls v k
    show (if _ then _ else _ : Iv).out.length ≤ _
    split
    · simp; omega
    · omega
theorem pdN_st (Ls : List Stp) (v : Iv) : ∀ k, (pdN Ls v k).st = v.st
  | 0 => rfl
  | k + 1 => by
    show (if _ then _ else _ : Iv).st = _
    split
    · exact pdN_st Ls v k
    · exact pdN_st Ls v k
set_option maxRecDepth 100000 in
set_option maxHeartbeats 32000000 in
theorem paid_any (h : InP base base2 I P nm Ls Bs ask y v l w) (ho : v.out.length ≤ 1000) (xv : Value) (o : Int)
    (hat : Calls Tryz.prog 28 #[xv, .int .i64 o] w fun e w' => e = .returned (.tuple #[.pointer (some ⟨I, 0, none⟩), .int .i64 0]) ∧ w' = w) :
    Calls Tryz.prog 12 #[xv, .int .i64 o] w (EffR base base2 I P nm Ls Bs ask y v l (paidV Ls Bs v) w) := by
  have HAT := hid (hat)
  have HO := hid ho
  have i2 : w.cell? ⟨I, 2, none⟩ = some (.bool v.paid) := h.i.b.cell 2
  have f2 := h.i.b.free 2
  have i3 : w.cell? ⟨I, 3, none⟩ = some (.slice l.MA v.ms.length l.mc) := h.i.b.cell 3
  have lI := h.i.b.lt
  have hn := h.i.n
  obtain ⟨s1, s2⟩ := h.i.setPaid (X := fun _ => False) true
  have HU := hid (And.intro (h.upd s1 s2 rfl) s2)
  obtain ⟨n, hnn⟩ : ∃ n, n = v.ms.length := ⟨_, rfl⟩
  rw [← hnn] at i3 hn
  obtain ⟨u, hu⟩ : ∃ u : Iv, u = { v with paid := true } := ⟨_, rfl⟩
  rw [← hu] at HU
  have HV := hid (show paidV Ls Bs v = if pdA Ls u n = true then goV Ls Bs (pdN Ls u n) else pdN Ls u n from by unfold paidV; rw [← hu, ← hnn])
  have HUL := hid (show u.ms.length = n ∧ u.out.length = v.out.length ∧ u.st = v.st from by rw [hu]; exact ⟨hnn.symm, rfl, rfl⟩)
  have HNL := hid (show n = Ls.length from by rw [hnn]; exact h.mn)
  clear h hnn s1 s2 hu ho hat
  go_enter Tryz.func12, Tryz.ntmps12
  go_wp2_with fail
  refine HAT.out.mono ?_
  rintro e w0 ⟨rfl, rfl⟩
  clear HAT
  go_wp2_with fail
  go_loopw [8, 9, 10, 30] (fun an _a _b i wr => ∃ (k : Nat) (l1 : Il), k ≤ n ∧ i = .int .i64 k ∧ an = .bool (pdA Ls u k) ∧ Hid (InP base base2 I P nm Ls Bs ask y (pdN Ls u k) l1 wr ∧ Mw I P Ls Bs y v l y (pdN Ls u k) l1 w0 wr)) (fun _an _a _b i _ => n - nOf i)
  case atStart => exact ⟨0, l, Nat.zero_le _, rfl, rfl, hid ⟨HU.out.1, Mw.of HU.out.2⟩⟩
  case round =>
    obtain ⟨k, l1, hk, rfl, rfl, HJ⟩ := hrel
    clear i3 lI i2 f2 HU
    by_cases hlt : k < n
    · have hku : k < (pdN Ls u k).ms.length := by rw [pdN_ms, HUL.out.1]; exact hlt
      obtain ⟨gm, hgm, lgm⟩ := HJ.out.1.i.ma hku
      have HGM := hid hgm
      have HML := hid (HJ.out.2.m.s.1.1.symm.trans hgm)
      obtain ⟨m, hm⟩ : ∃ m, (pdN Ls u k).ms[k]? = some m := ⟨_, List.getElem?_eq_getElem hku⟩
      have cm : wr.cell? ⟨gm, k, none⟩ = some (.int .i64 m) := HJ.out.1.i.mark hgm hm
      have hmk : mkA (pdN Ls u k).ms k = m := by simp [mkA, List.getD, hm]
      have HMK := hid hmk
      have HKU := hid hku
      have HOL := hid (pdN_out Ls u k)
      have HMV := hid hm
      have hLs : k < Ls.length := by rw [← HNL.out]; exact hlt
      obtain ⟨t, ht⟩ : ∃ t, Ls[k]? = some t := ⟨_, List.getElem?_eq_getElem hLs⟩
      have HT := hid ht
      have i1 : wr.cell? ⟨I, 1, none⟩ = some (.int .i64 (pdN Ls u k).st) := HJ.out.1.i.b.cell 1
      have i5 : wr.cell? ⟨I, 5, none⟩ = some (.pointer (some ⟨P, 0, none⟩)) := HJ.out.1.i.b.cell 5
      have lI := HJ.out.1.i.b.lt
      have HNS : Hid (pdC Ls (pdN Ls u k) k = false → pdN Ls u (k + 1) = pdN Ls u k ∧ pdA Ls u (k + 1) = pdA Ls u k) := hid (fun hc => ⟨by
        show (if _ then _ else _) = _
        rw [if_neg (by rw [hc]; decide)], by
        show (pdA Ls u k || pdC Ls (pdN Ls u k) k) = _
        rw [hc]; simp⟩)
      clear hmk hm hku hgm ht
      rw [HML.out]
      obtain ⟨st, hstt⟩ : ∃ st, st = (pdN Ls u k).st := ⟨_, rfl⟩
      rw [← hstt] at i1
      have HST := hid hstt
      clear hstt
      cases hz : (st == 0) with
      | false =>
        have HC := hid (HNS.out (by unfold pdC; rw [← HST.out, hz]; rfl))
        go_wp2_with fail
        go_roundw
        case rel => exact ⟨k + 1, l1, by omega, by go_num, by rw [HC.out.2], by rw [HC.out.1]; exact HJ⟩
        case measure => simp [nOf]; omega
      | true =>
        have HZ := hid hz
        cases hz2 : (m == 2) with
        | false =>
          have HC := hid (HNS.out (by unfold pdC; rw [HMK.out, hz2]; simp))
          go_wp2_with fail
          go_roundw
          case rel => exact ⟨k + 1, l1, by omega, by go_num, by rw [HC.out.2], by rw [HC.out.1]; exact HJ⟩
          case measure => simp [nOf]; omega
        | true =>
          have HZ2 := hid hz2
          have KS := hid (step_in HJ.out.1.p.p k t HT.out (HJ.out.1.p.aft t (List.mem_of_getElem? HT.out)))
          go_wp2_with fail
          refine KS.out.mono ?_
          rintro e w6 ⟨A6, cap6, rfl, _, hb6⟩
          have HI6 := hid (HJ.out.1.next hb6)
          have HM6 := hid (HJ.out.2.next hb6)
          clear KS i5 i1 lI hb6 HJ cm lgm
          have HEV := hid (show evB Ls k = !t.event.toList.isEmpty from by unfold evB; rw [HT.out])
          obtain ⟨xn, xv2, xu, xe, xf, xr, xy, xw, xA, xc, xl⟩ := t
          rw [show (enSt (twn ⟨xn, xv2, xu, xe, xf, xr, xy, xw, xA, xc, xl⟩ A6 cap6)).toArray = #[.string xn, .string xv2, .string xu, .string xe, .bool xf, .int .i64 xr, .int .i64 xy, .int .i64 xw, .slice A6 xl.length cap6] from rfl]
          have hfd := fieldE13 (.string xn) (.string xv2) (.string xu) (.string xe) (.bool xf) (.int .i64 xr) (.int .i64 xy) (.int .i64 xw) (.slice A6 xl.length cap6)
          cases he : xe.toList.isEmpty with
          | true =>
            have HC := hid (HNS.out (by unfold pdC; rw [HEV.out]; simp only; rw [he]; simp))
            go_wp2_with fail
            go_roundw
            case rel => exact ⟨k + 1, l1, by omega, by go_num, by rw [HC.out.2], by rw [HC.out.1]; exact hid ⟨HI6.out, HM6.out⟩⟩
            case measure => simp [nOf]; omega
          | false =>
            have hc : pdC Ls (pdN Ls u k) k = true := by unfold pdC; rw [← HST.out, HZ.out, HMK.out, HZ2.out, HEV.out]; simp only; rw [he]; rfl
            have HC1 := hid (show pdN Ls u (k + 1) = { pdN Ls u k with ms := (pdN Ls u k).ms.set k 3, out := (pdN Ls u k).out ++ [⟨3, (pdN Ls u k).ord, k, 0, 0, false⟩] } from by
              show (if _ then _ else _) = _
              rw [if_pos hc])
            have HC2 := hid (show pdA Ls u (k + 1) = true from by
              show (pdA Ls u k || pdC Ls (pdN Ls u k) k) = _
              rw [hc]; simp)
            have cm : w6.cell? ⟨gm, k, none⟩ = some (.int .i64 m) := HI6.out.i.mark HGM.out HMV.out
            have fm : w6.frozen? ⟨gm, k, none⟩ = false := own_free (by have := HI6.out.i.m; rw [HGM.out] at this; exact this) k
            have i3 : w6.cell? ⟨I, 3, none⟩ = some (.slice (some ⟨gm, 0, none⟩) n l1.mc) := by
              rw [HI6.out.i.b.cell 3, ← HGM.out]
              simp [inC, pdN_ms, HUL.out.1]
            have lI := HI6.out.i.b.lt
            have lgm6 : gm < w6.heap.size := (HI6.out.i.use (.inr (.inl (by rw [HGM.out]; rfl)) : IU I _ l1 gm)).2
            obtain ⟨m1, m2⟩ := HI6.out.i.setMark (X := fun _ => False) HGM.out HKU.out 3
            have U1 := HI6.out.upd m1 m2 (by simp)
            have KT := hid (tell_any (X := fun _ => False) U1.i (by have := HOL.out; have := HUL.out.2; have := HO.out; simp only; omega) 3 k 0 0 false)
            have HU := hid (And.intro U1 (HM6.out.trans (Mw.of m2)))
            clear m1 m2 U1 hc
            go_wp2_with fail
            refine KT.out.mono ?_
            rintro e w7 ⟨rfl, OA', oc', T1, T2⟩
            have HU2 := hid (And.intro (HU.out.1.upd T1 T2 rfl) (HU.out.2.trans (Mw.of T2)))
            clear T1 T2 KT HU
            go_wp2_with fail
            go_roundw
            case rel => exact ⟨k + 1, _, by omega, by go_num, by rw [HC2.out], by rw [HC1.out]; exact HU2⟩
            case measure => simp [nOf]; omega
    · have hk' : k = n := by omega
      subst hk'
      have HMW := hid HJ.out.2
      have HIW := hid HJ.out.1
      clear HJ
      have HOL := hid (pdN_out Ls u k)
      cases hA : pdA Ls u k with
      | true =>
        rw [hA] at HV
        have HV := hid (HV.out.trans (if_pos rfl))
        have KU := hid (goOn_any HIW.out (by have := HO.out; have := HUL.out.2; have := HOL.out; omega))
        go_wp2_with fail
        refine KU.out.mono ?_
        rintro e w5 ⟨rfl, l', q3, q4⟩
        have HF := hid (And.intro q3 (HMW.out.trans q4))
        clear q3 q4 KU
        have KE := hid (effects_any (X := fun _ => False) HF.out.1.i)
        go_wp2_with fail
        refine KE.out.mono ?_
        rintro e w9 ⟨rfl, E1, E2, E3⟩
        have HE := hid (effR_of (v := v) (l := l) (y := y) (w := w0) (ask := ask) HF.out.1 ⟨by omega, by omega⟩ HF.out.2 E1 E2 E3)
        clear E1 E2 E3 KE
        go_wp2_with fail
        go_ret2
        rw [HV.out]
        exact HE.out
      | false =>
        rw [hA] at HV
        have HV := hid (HV.out.trans (if_neg (by decide)))
        have KE := hid (effects_any (X := fun _ => False) HIW.out.i)
        go_wp2_with fail
        refine KE.out.mono ?_
        rintro e w9 ⟨rfl, E1, E2, E3⟩
        have HE := hid (effR_of (v := v) (l := l) (y := y) (w := w0) (ask := ask) HIW.out ⟨by omega, by omega⟩ HMW.out E1 E2 E3)
        clear E1 E2 E3 KE
        go_wp2_with fail
        go_ret2
        rw [HV.out]
        exact HE.out
def cnC (Ls : List Stp) (v : Iv) (s : Nat) : Bool := match Ls[s]? with | some t => t.event.toList.isEmpty && (t.fin && mkA v.ms s != 0) | none => false
def cnA (Ls : List Stp) (v : Iv) : Nat → Bool
  | 0 => false
  | k + 1 => cnA Ls v k || cnC Ls v k
theorem cnA_mono (Ls : List Stp) (v : Iv) (k : Nat) (h : cnA Ls v k = true) : ∀ n, k ≤ n → cnA Ls v n = true
  | 0, hn => by have : k = 0 := by omega
                subst this; exact h
  | n + 1, hn => by
    show (cnA Ls v n || cnC Ls v n) = true
    by_cases e : k = n + 1
    · subst e; exact h
    · rw [cnA_mono Ls v k h n (by omega)]; rfl
/-- What Cancel answers. -/
def CanR (base base2 I P : Nat) (nm : ByteArray) (Ls : List Stp) (Bs : List IRow) (ask : Int) (y : Pw) (v : Iv) (l : Il) (w : World) (e : Ending) (w' : World) : Prop :=
  if (cnA Ls v v.ms.length || v.st != 0) = true then e = .returned (.tuple #[.slice none 0 0, .int .i64 130]) ∧ Below w.heap.size w w'
  else EffR base base2 I P nm Ls Bs ask y v l (turnV Ls Bs v) w e w'
set_option maxRecDepth 100000 in
set_option maxHeartbeats 32000000 in
theorem cancel_any (h : InP base base2 I P nm Ls Bs ask y v l w) (ho : v.out.length ≤ 1000) (ha : 0 ≤ ask ∧ ask ≤ 4611686018427386904) (xv : Value) (o : Int)
    (hat : Calls Tryz.prog 28 #[xv, .int .i64 o] w fun e w' => e = .returned (.tuple #[.pointer (some ⟨I, 0, none⟩), .int .i64 0]) ∧ w' = w) :
    Calls Tryz.prog 13 #[xv, .int .i64 o] w (CanR base base2 I P nm Ls Bs ask y v l w) := by
  have HAT := hid (hat)
  have HO := hid ho
  have HA := hid ha
  have HI := hid h
  have i3 : w.cell? ⟨I, 3, none⟩ = some (.slice l.MA v.ms.length l.mc) := h.i.b.cell 3
  have lI := h.i.b.lt
  have hn := h.i.n
  obtain ⟨n, hnn⟩ : ∃ n, n = v.ms.length := ⟨_, rfl⟩
  rw [← hnn] at i3 hn
  have HN := hid hnn
  have HNL := hid (show n = Ls.length from by rw [hnn]; exact h.mn)
  have HY := hid (show ∀ e w', (cnA Ls v n || v.st != 0) = true → e = .returned (.tuple #[.slice none 0 0, .int .i64 130]) → Below w.heap.size w w' → CanR base base2 I P nm Ls Bs ask y v l w e w' from fun e w' h1 h2 h3 => by unfold CanR; rw [← hnn, if_pos h1]; exact ⟨h2, h3⟩)
  have HZ := hid (show ∀ e w', (cnA Ls v n || v.st != 0) = false → EffR base base2 I P nm Ls Bs ask y v l (turnV Ls Bs v) w e w' → CanR base base2 I P nm Ls Bs ask y v l w e w' from fun e w' h1 h2 => by unfold CanR; rw [← hnn, if_neg (by rw [h1]; decide)]; exact h2)
  clear h hnn ho hat ha
  go_enter Tryz.func13, Tryz.ntmps13
  go_wp2_with fail
  refine HAT.out.mono ?_
  rintro e w0 ⟨rfl, rfl⟩
  clear HAT
  go_wp2_with fail
  go_loopw [8, 9, 10, 26] (fun _a _b _c i wr => ∃ k : Nat, k ≤ n ∧ i = .int .i64 k ∧ Hid (cnA Ls v k = false ∧ Below w0.heap.size w0 wr)) (fun _a _b _c i _ => n - nOf i)
  case atStart => exact ⟨0, Nat.zero_le _, rfl, hid ⟨rfl, Below.refl _ _⟩⟩
  case round =>
    obtain ⟨k, hk, rfl, HJ⟩ := hrel
    clear i3 lI
    have HI1 := hid (HI.out.next HJ.out.2)
    by_cases hlt : k < n
    · have hku : k < v.ms.length := by rw [← HN.out]; exact hlt
      obtain ⟨gm, hgm, lgm⟩ := HI1.out.i.ma hku
      have HML := hid hgm
      obtain ⟨m, hm⟩ : ∃ m, v.ms[k]? = some m := ⟨_, List.getElem?_eq_getElem hku⟩
      have cm : wr.cell? ⟨gm, k, none⟩ = some (.int .i64 m) := HI1.out.i.mark hgm hm
      have hmk : mkA v.ms k = m := by simp [mkA, List.getD, hm]
      have HMK := hid hmk
      have hLs : k < Ls.length := by rw [← HNL.out]; exact hlt
      obtain ⟨t, ht⟩ : ∃ t, Ls[k]? = some t := ⟨_, List.getElem?_eq_getElem hLs⟩
      have HT := hid ht
      have i5 : wr.cell? ⟨I, 5, none⟩ = some (.pointer (some ⟨P, 0, none⟩)) := HI1.out.i.b.cell 5
      have lI := HI1.out.i.b.lt
      have KS := hid (step_in HI1.out.p.p k t ht (HI1.out.p.aft t (List.mem_of_getElem? ht)))
      have HC := hid (show cnC Ls v k = (t.event.toList.isEmpty && (t.fin && m != 0)) from by unfold cnC; rw [ht]; simp only; rw [hmk])
      clear hmk hm hku hgm ht
      rw [HML.out]
      go_wp2_with fail
      refine KS.out.mono ?_
      rintro e w6 ⟨A6, cap6, rfl, _, hb6⟩
      clear KS i5 lI cm lgm
      have HB6 := hid (bthen HJ.out.2 hb6)
      obtain ⟨xn, xv2, xu, xe, xf, xr, xy, xw, xA, xc, xl⟩ := t
      rw [show (enSt (twn ⟨xn, xv2, xu, xe, xf, xr, xy, xw, xA, xc, xl⟩ A6 cap6)).toArray = #[.string xn, .string xv2, .string xu, .string xe, .bool xf, .int .i64 xr, .int .i64 xy, .int .i64 xw, .slice A6 xl.length cap6] from rfl]
      simp only at HC
      go_upto_region 8 with fail
      have hB := Blk.new w6 69 #[.string xn, .string xv2, .string xu, .string xe, .bool xf, .int .i64 xr, .int .i64 xy, .int .i64 xw, .slice A6 xl.length cap6]
      have HBW : Hid (Below w0.heap.size w0 (w6.alloc (.cells #[.string xn, .string xv2, .string xu, .string xe, .bool xf, .int .i64 xr, .int .i64 xy, .int .i64 xw, .slice A6 xl.length cap6] 69))) := hid (bthen HB6.out ((Below.refl _ _).alloc (Nat.le_refl _) _))
      generalize w6.alloc (.cells #[.string xn, .string xv2, .string xu, .string xe, .bool xf, .int .i64 xr, .int .i64 xy, .int .i64 xw, .slice A6 xl.length cap6] 69) = W at hB HBW ⊢
      generalize w6.heap.size = G at hB ⊢
      have b3 : W.cell? ⟨G, 3, none⟩ = some (.string xe) := hB.cell 3
      have b4 : W.cell? ⟨G, 4, none⟩ = some (.bool xf) := hB.cell 4
      have lG := hB.lt
      have HNO := hid (show cnC Ls v k = false → cnA Ls v (k + 1) = false from fun h => by show (cnA Ls v k || cnC Ls v k) = false; rw [HJ.out.1, h]; rfl)
      clear hB hb6
      cases he : xe.toList.isEmpty with
      | false =>
        have HC2 := hid (HNO.out (by rw [HC.out, he]; rfl))
        go_wp2_with fail
        go_roundw
        case rel => exact ⟨k + 1, by omega, by go_num, hid ⟨HC2.out, HBW.out⟩⟩
        case measure => simp [nOf]; omega
      | true =>
        have HEE := hid he
        cases xf with
        | false =>
          have HC2 := hid (HNO.out (by rw [HC.out]; simp))
          go_wp2_with fail
          go_roundw
          case rel => exact ⟨k + 1, by omega, by go_num, hid ⟨HC2.out, HBW.out⟩⟩
          case measure => simp [nOf]; omega
        | true =>
          cases hz : (m != 0) with
          | false =>
            have HC2 := hid (HNO.out (by rw [HC.out, hz]; simp))
            go_wp2_with fail
            go_roundw
            case rel => exact ⟨k + 1, by omega, by go_num, hid ⟨HC2.out, HBW.out⟩⟩
            case measure => simp [nOf]; omega
          | true =>
            have HC2 := hid (cnA_mono Ls v (k + 1) (by show (cnA Ls v k || cnC Ls v k) = true; rw [HC.out, HEE.out, hz]; simp) n (by omega))
            go_wp2_with fail
            go_ret2
            exact HY.out _ _ (by rw [HC2.out]; rfl) rfl HBW.out
    · have hk' : k = n := by omega
      subst hk'
      have i1 : wr.cell? ⟨I, 1, none⟩ = some (.int .i64 v.st) := HI1.out.i.b.cell 1
      have lI := HI1.out.i.b.lt
      have HMW : Hid (Mw I P Ls Bs y v l y v l w0 wr) := hid (Mw.of (HJ.out.2.mv))
      cases hz : (v.st != 0) with
      | true =>
        have HZZ := hid hz
        go_wp2_with fail
        go_ret2
        exact HY.out _ _ (by rw [HZZ.out]; simp) rfl HJ.out.2
      | false =>
        have HZZ := hid hz
        have KU := hid (turn_any HI1.out (by have := HO.out; omega) HA.out)
        go_wp2_with fail
        refine KU.out.mono ?_
        rintro e w5 ⟨rfl, ask', y', l', q1, q2, q3, q4⟩
        have HF := hid (And.intro q3 (HMW.out.trans q4))
        clear q3 q4 KU
        have KE := hid (effects_any (X := fun _ => False) HF.out.1.i)
        go_wp2_with fail
        refine KE.out.mono ?_
        rintro e w9 ⟨rfl, E1, E2, E3⟩
        have HE := hid (effR_of (v := v) (l := l) (y := y) (w := w0) (ask := ask) HF.out.1 ⟨q1, q2⟩ HF.out.2 E1 E2 E3)
        clear E1 E2 E3 KE
        go_wp2_with fail
        go_ret2
        exact HZ.out _ _ (by rw [HJ.out.1, HZZ.out]; rfl) HE.out
end

end Go.Proofs.YtoemmakhbiiknaaGreat

namespace Go.Proofs.YtoemmakhbiiknaaGreat
open Go.RowKit Go.WideShapes Go.ChangeShapes Go.ChangeAt Go.Deep
set_option linter.unusedVariables false

section
variable {base base2 I P : Nat} {nm : ByteArray} {Ls : List Stp} {Bs : List IRow} {ask : Int} {y y1 y2 : Pw} {v v1 v2 : Iv} {l l1 l2 : Il} {w w' w1 w2 : World} {X : Nat → Prop}
def frV (Ls : List Stp) (Bs : List IRow) (v : Iv) (t : Stp) (s : Nat) : Iv :=
  if (mkA v.ms s != 2) = true then v
  else if t.event.toList.isEmpty = true then { v with ms := v.ms.set s 1, ts := v.ts.set s (mkA v.ts s + 1), out := v.out ++ [⟨1, v.ord, s, mkA v.ts s + 1, 0, false⟩] }
  else turnV Ls Bs { v with ms := v.ms.set s 5 }
set_option maxRecDepth 100000 in
set_option maxHeartbeats 32000000 in
theorem fire_any (h : InP base base2 I P nm Ls Bs ask y v l w) (ho : v.out.length ≤ 1000) (ha : 0 ≤ ask ∧ ask ≤ 4611686018427386904) (xv : Value) (o : Int) (s : Nat) (t : Stp) (ht : Ls[s]? = some t) (hq0 : 0 ≤ mkA v.ts s ∧ mkA v.ts s ≤ 4611686018427387904)
    (hat : Calls Tryz.prog 30 #[xv, .int .i64 o, .int .i64 s] w fun e w' => e = .returned (.tuple #[.pointer (some ⟨I, 0, none⟩), .int .i64 0]) ∧ w' = w) :
    Calls Tryz.prog 11 #[xv, .int .i64 o, .int .i64 s] w (EffR base base2 I P nm Ls Bs ask y v l (frV Ls Bs v t s) w) := by
  have HAT := hid (hat)
  have HT := hid ht
  have HA := hid ha
  have HO := hid ho
  have HI := hid h
  have HMW : Hid (Mw I P Ls Bs y v l y v l w w) := hid Mw.refl
  have KS := hid (step_in h.p.p s t ht (h.p.aft t (List.mem_of_getElem? ht)))
  have HHS := hid (show s < v.ms.length from by rw [h.mn]; exact (List.getElem?_eq_some_iff.1 ht).1)
  have i5 : w.cell? ⟨I, 5, none⟩ = some (.pointer (some ⟨P, 0, none⟩)) := h.i.b.cell 5
  have lI := h.i.b.lt
  have hn := h.i.n
  obtain ⟨gm, hgm, lgm⟩ := h.i.ma HHS.out
  obtain ⟨gt, hgt, lgt⟩ := h.i.ta HHS.out
  have HGM := hid hgm
  have HGT := hid hgt
  have i3 : w.cell? ⟨I, 3, none⟩ = some (.slice (some ⟨gm, 0, none⟩) v.ms.length l.mc) := by rw [h.i.b.cell 3, ← hgm]; rfl
  have hsz := HHS.out
  have hst : s < v.ts.length := by rw [h.i.tl]; exact hsz
  have hn2 : v.ts.length ≤ 1000 := by rw [h.i.tl]; exact hn
  obtain ⟨m, hm⟩ : ∃ m, v.ms[s]? = some m := ⟨_, List.getElem?_eq_getElem hsz⟩
  obtain ⟨q, hq⟩ : ∃ q, v.ts[s]? = some q := ⟨_, List.getElem?_eq_getElem hst⟩
  have cm : w.cell? ⟨gm, s, none⟩ = some (.int .i64 m) := h.i.mark hgm hm
  have hmk : mkA v.ms s = m := by simp [mkA, List.getD, hm]
  have hqk : mkA v.ts s = q := by simp [mkA, List.getD, hq]
  have HMK := hid (And.intro hmk hqk)
  rw [hqk] at hq0
  have HQ := hid hq0
  have HQV := hid hq
  clear h ht hat ha ho hgm hgt hm hq hmk hqk
  go_enter Tryz.func11, Tryz.ntmps11
  go_wp2_with fail
  refine HAT.out.mono ?_
  rintro e w0 ⟨rfl, rfl⟩
  clear HAT
  cases hz : (m != 2) with
  | true =>
    have HV := hid (show frV Ls Bs v t s = v from by unfold frV; rw [HMK.out.1, if_pos hz])
    have KE := hid (effects_any (X := fun _ => False) HI.out.i)
    go_wp2_with fail
    refine KE.out.mono ?_
    rintro e w9 ⟨rfl, E1, E2, E3⟩
    have HE := hid (effR_of (v := v) (l := l) (y := y) (w := w0) (ask := ask) HI.out ⟨by omega, by omega⟩ HMW.out E1 E2 E3)
    clear E1 E2 E3 KE
    go_wp2_with fail
    go_ret2
    rw [HV.out]
    exact HE.out
  | false =>
    have HZ := hid hz
    go_wp2_with fail
    refine KS.out.mono ?_
    rintro e w1 ⟨A, cap, rfl, _, hb1⟩
    have HI1 := hid (HI.out.next hb1)
    have HM1 := hid (HMW.out.next hb1)
    clear KS i5 i3 cm lI lgm lgt
    obtain ⟨xn, xv2, xu, xe, xf, xr, xy, xw, xA, xc, xl⟩ := t
    rw [show (enSt (twn ⟨xn, xv2, xu, xe, xf, xr, xy, xw, xA, xc, xl⟩ A cap)).toArray = #[.string xn, .string xv2, .string xu, .string xe, .bool xf, .int .i64 xr, .int .i64 xy, .int .i64 xw, .slice A xl.length cap] from rfl]
    have hfd := fieldE13 (.string xn) (.string xv2) (.string xu) (.string xe) (.bool xf) (.int .i64 xr) (.int .i64 xy) (.int .i64 xw) (.slice A xl.length cap)
    have lI := HI1.out.i.b.lt
    have lgm : gm < w1.heap.size := (HI1.out.i.use (.inr (.inl (by rw [HGM.out]; rfl)) : IU I v l gm)).2
    have lgt : gt < w1.heap.size := (HI1.out.i.use (.inr (.inr (.inl (by rw [HGT.out]; rfl))) : IU I v l gt)).2
    have i3 : w1.cell? ⟨I, 3, none⟩ = some (.slice (some ⟨gm, 0, none⟩) v.ms.length l.mc) := by rw [HI1.out.i.b.cell 3, ← HGM.out]; rfl
    have i4 : w1.cell? ⟨I, 4, none⟩ = some (.slice (some ⟨gt, 0, none⟩) v.ts.length l.tc) := by rw [HI1.out.i.b.cell 4, ← HGT.out]; rfl
    obtain ⟨m0, hm0⟩ : ∃ m, v.ms[s]? = some m := ⟨_, List.getElem?_eq_getElem hsz⟩
    have cm : w1.cell? ⟨gm, s, none⟩ = some (.int .i64 m0) := HI1.out.i.mark HGM.out hm0
    have ct : w1.cell? ⟨gt, s, none⟩ = some (.int .i64 q) := HI1.out.i.try_ HGT.out HQV.out
    have fm : w1.frozen? ⟨gm, s, none⟩ = false := own_free (by have := HI1.out.i.m; rw [HGM.out] at this; exact this) s
    have ft : w1.frozen? ⟨gt, s, none⟩ = false := own_free (by have := HI1.out.i.t; rw [HGT.out] at this; exact this) s
    have hne : gm ≠ gt := fun e => own_ne HI1.out.i.m HI1.out.i.t (by decide) (g := gm) (by rw [HGM.out]; rfl) (by rw [HGT.out, e]; rfl)
    have hgI : gm ≠ I := fun e => own_notBlk HI1.out.i.m HI1.out.i.b (by decide) (by rw [HGM.out, ← e]; rfl)
    have hgI2 : gt ≠ I := fun e => own_notBlk HI1.out.i.t HI1.out.i.b (by decide) (by rw [HGT.out, ← e]; rfl)
    clear hm0
    cases he : xe.toList.isEmpty with
    | false =>
      have HV := hid (show frV Ls Bs v ⟨xn, xv2, xu, xe, xf, xr, xy, xw, xA, xc, xl⟩ s = turnV Ls Bs { v with ms := v.ms.set s 5 } from by unfold frV; rw [HMK.out.1, if_neg (by rw [HZ.out]; decide), if_neg (by simp only; rw [he]; decide)])
      obtain ⟨m1, m2⟩ := HI1.out.i.setMark (X := fun _ => False) HGM.out HHS.out 5
      have HU := hid (And.intro (HI1.out.upd m1 m2 (by simp)) (HM1.out.trans (Mw.of m2)))
      clear m1 m2
      have KU := hid (turn_any HU.out.1 (by have := HO.out; simp only; omega) HA.out)
      go_wp2_with fail
      refine KU.out.mono ?_
      rintro e w5 ⟨rfl, ask', y', l', q1, q2, q3, q4⟩
      have HF := hid (And.intro q3 (HU.out.2.trans q4))
      clear q3 q4 KU HU
      have KE := hid (effects_any (X := fun _ => False) HF.out.1.i)
      go_wp2_with fail
      refine KE.out.mono ?_
      rintro e w9 ⟨rfl, E1, E2, E3⟩
      have HE := hid (effR_of (v := v) (l := l) (y := y) (w := w0) (ask := ask) HF.out.1 ⟨q1, q2⟩ HF.out.2 E1 E2 E3)
      clear E1 E2 E3 KE
      go_wp2_with fail
      go_ret2
      rw [HV.out]
      exact HE.out
    | true =>
      obtain ⟨r, hr⟩ : ∃ r : Iv, r = { v with ms := v.ms.set s 1, ts := v.ts.set s (q + 1), out := v.out ++ [⟨1, v.ord, s, q + 1, 0, false⟩] } := ⟨_, rfl⟩
      have HV := hid (show frV Ls Bs v ⟨xn, xv2, xu, xe, xf, xr, xy, xw, xA, xc, xl⟩ s = r from by unfold frV; rw [HMK.out.1, HMK.out.2, if_neg (by rw [HZ.out]; decide), if_pos he, hr])
      obtain ⟨m1, m2⟩ := HI1.out.i.setMark (X := fun _ => False) HGM.out HHS.out 1
      have U1 := HI1.out.upd m1 m2 (by simp)
      obtain ⟨t1, t2⟩ := U1.i.setTry (X := fun _ => False) (k := s) HGT.out hst (q + 1)
      have U2 := U1.upd t1 t2 rfl
      have KT := hid (tell_any (X := fun _ => False) U2.i (by have := HO.out; simp only; omega) 1 s (q + 1) 0 false)
      have HU := hid (And.intro U2 (HM1.out.trans (Mw.of (m2.trans t2))))
      have HR := hid hr
      have q1 := HQ.out
      clear m1 m2 t1 t2 U1 U2 hr
      go_wp2_with fail
      refine KT.out.mono ?_
      rintro e w7 ⟨rfl, OA', oc', T1, T2⟩
      have HF := hid (And.intro (HU.out.1.upd T1 T2 rfl) (HU.out.2.trans (Mw.of T2)))
      clear T1 T2 KT HU
      rw [← HR.out] at HF
      have KE := hid (effects_any (X := fun _ => False) HF.out.1.i)
      go_wp2_with fail
      refine KE.out.mono ?_
      rintro e w9 ⟨rfl, E1, E2, E3⟩
      have HE := hid (effR_of (v := v) (l := l) (y := y) (w := w0) (ask := ask) HF.out.1 ⟨by omega, by omega⟩ HF.out.2 E1 E2 E3)
      clear E1 E2 E3 KE
      go_wp2_with fail
      go_ret2
      rw [HV.out]
      exact HE.out
end

end Go.Proofs.YtoemmakhbiiknaaGreat

namespace Go.Proofs.YtoemmakhbiiknaaGreat
open Go.RowKit Go.WideShapes Go.ChangeShapes Go.ChangeAt Go.Deep
set_option linter.unusedVariables false

structure IvP (o B : Int) (v : Iv) : Prop where
  ord : v.ord = o
  ts : ∀ t ∈ v.ts, 0 ≤ t ∧ t ≤ B
  out : ∀ f ∈ v.out, f.order = o
section
variable {o B : Int} {v : Iv}
theorem IvP.mono (h : IvP o B v) {B' : Int} (hb : B ≤ B') : IvP o B' v := ⟨h.ord, fun t ht => by have := h.ts t ht; omega, h.out⟩
theorem IvP.ms (h : IvP o B v) (ms : List Int) : IvP o B { v with ms := ms } := ⟨h.ord, h.ts, h.out⟩
theorem IvP.st (h : IvP o B v) (s : Int) : IvP o B { v with st := s } := ⟨h.ord, h.ts, h.out⟩
theorem IvP.paid (h : IvP o B v) (s : Bool) : IvP o B { v with paid := s } := ⟨h.ord, h.ts, h.out⟩
theorem IvP.zero (h : IvP o B v) : IvP o B { v with out := [] } := ⟨h.ord, h.ts, fun f hf => by cases hf⟩
theorem IvP.tell (h : IvP o B v) {f : Eff} (hf : f.order = v.ord) : IvP o B { v with out := v.out ++ [f] } := ⟨h.ord, h.ts, fun g hg => by
  rcases List.mem_append.1 hg with hg | hg
  · exact h.out g hg
  · obtain rfl : g = f := by simpa using hg
    exact hf.trans h.ord⟩
theorem IvP.try_ (h : IvP o B v) (s : Nat) {t : Int} (ht : 0 ≤ t ∧ t ≤ B) : IvP o B { v with ts := v.ts.set s t } := ⟨h.ord, fun x hx => by
  rcases List.mem_or_eq_of_mem_set hx with h1 | h1
  · exact h.ts x h1
  · rw [h1]; exact ht, h.out⟩
theorem IvP.bg (h : IvP o B v) (hB : 1 ≤ B) (s : Nat) (t : Stp) : IvP o B (bgV v s t) := by
  unfold bgV
  split
  · exact ((h.ms _).try_ s (t := 1) (by omega)).tell (f := ⟨1, v.ord, s, 1, 0, false⟩) rfl
  · split
    · exact h.ms _
    · exact (h.ms (v.ms.set s 2)).tell (f := ⟨2, v.ord, s, 0, t.wi, false⟩) rfl
theorem IvP.goN (h : IvP o B v) (hB : 1 ≤ B) (Ls : List Stp) (Bs : List IRow) : ∀ k, IvP o B (goN Ls Bs v k)
  | 0 => h
  | k + 1 => by
    show IvP o B (goS Ls Bs (Go.Proofs.YtoemmakhbiiknaaGreat.goN Ls Bs v k) k)
    unfold goS
    split
    · cases Ls[k]? with
      | none => exact IvP.goN h hB Ls Bs k
      | some t => exact (IvP.goN h hB Ls Bs k).bg hB k t
    · exact IvP.goN h hB Ls Bs k
theorem IvP.go (h : IvP o B v) (hB : 1 ≤ B) (Ls : List Stp) (Bs : List IRow) : IvP o B (goV Ls Bs v) := by
  unfold goV
  split
  · exact h.goN hB Ls Bs _
  · exact (h.goN hB Ls Bs _).st 2
theorem IvP.uwS (h : IvP o B v) (Ls : List Stp) (Bs : List IRow) (s : Nat) : IvP o B (uwS Ls Bs v s) := by
  unfold Go.Proofs.YtoemmakhbiiknaaGreat.uwS
  split
  · cases Ls[s]? with
    | none => exact h
    | some t =>
      show IvP o B (if _ then _ else _)
      split
      · exact (h.ms (v.ms.set s 4)).tell (f := ⟨1, v.ord, s, 0, 0, true⟩) rfl
      · exact h.ms _
  · exact h
theorem IvP.uwN (h : IvP o B v) (Ls : List Stp) (Bs : List IRow) (n : Nat) : ∀ k, IvP o B (uwN Ls Bs n v k)
  | 0 => h
  | k + 1 => (IvP.uwN h Ls Bs n k).uwS Ls Bs _
theorem IvP.uw (h : IvP o B v) (Ls : List Stp) (Bs : List IRow) : IvP o B (uwV Ls Bs v) := by
  unfold uwV
  split
  · exact h.uwN Ls Bs _ _
  · exact (h.uwN Ls Bs _ _).st 3
theorem IvP.tnN (h : IvP o B v) : ∀ k, IvP o B (tnN v k)
  | 0 => h
  | k + 1 => by
    show IvP o B (tnS (Go.Proofs.YtoemmakhbiiknaaGreat.tnN v k) k)
    unfold tnS
    split
    · exact ((IvP.tnN h k).ms ((Go.Proofs.YtoemmakhbiiknaaGreat.tnN v k).ms.set k 5)).tell (f := ⟨3, (Go.Proofs.YtoemmakhbiiknaaGreat.tnN v k).ord, k, 0, 0, false⟩) rfl
    · exact IvP.tnN h k
theorem IvP.turn (h : IvP o B v) (Ls : List Stp) (Bs : List IRow) : IvP o B (turnV Ls Bs v) := ((h.st 1).tnN _).uw Ls Bs
theorem IvP.rp (h : IvP o B v) (hB : 1 ≤ B) (Ls : List Stp) (Bs : List IRow) (t : Stp) (s : Nat) (tr : Int) (un : Bool) (code : Int) : IvP o B (rpV Ls Bs v t s tr un code) := by
  unfold rpV
  split
  · split
    · exact (h.ms _).uw Ls Bs
    · exact h
  · split
    · exact h
    · split
      · exact (h.ms _).go hB Ls Bs
      · split
        · exact (h.ms (v.ms.set s 2)).tell (f := ⟨2, v.ord, s, 0, t.ev, false⟩) rfl
        · exact (h.ms _).turn Ls Bs
theorem mkA_ts (h : IvP o B v) (hB : 0 ≤ B) (s : Nat) : 0 ≤ mkA v.ts s ∧ mkA v.ts s ≤ B := by
  have e : mkA v.ts s = (v.ts[s]?).getD 0 := by simp [mkA, List.getD]
  rw [e]
  cases hs : v.ts[s]? with
  | none => exact ⟨Int.le_refl _, hB⟩
  | some t => exact h.ts t (List.mem_of_getElem? hs)
theorem IvP.fr (h : IvP o B v) (hB : 1 ≤ B) (Ls : List Stp) (Bs : List IRow) (t : Stp) (s : Nat) : IvP o (B + 1) (frV Ls Bs v t s) := by
  have h2 := mkA_ts h (by omega) s
  unfold frV
  split
  · exact h.mono (by omega)
  · split
    · exact (((h.mono (B' := B + 1) (by omega)).ms _).try_ s (t := mkA v.ts s + 1) (by omega)).tell (f := ⟨1, v.ord, s, mkA v.ts s + 1, 0, false⟩) rfl
    · exact ((h.ms _).turn Ls Bs).mono (by omega)
theorem IvP.pdN (h : IvP o B v) (Ls : List Stp) : ∀ k, IvP o B (pdN Ls v k)
  | 0 => h
  | k + 1 => by
    show IvP o B (if _ then _ else _)
    split
    · exact ((IvP.pdN h Ls k).ms ((Go.Proofs.YtoemmakhbiiknaaGreat.pdN Ls v k).ms.set k 3)).tell (f := ⟨3, (Go.Proofs.YtoemmakhbiiknaaGreat.pdN Ls v k).ord, k, 0, 0, false⟩) rfl
    · exact IvP.pdN h Ls k
theorem IvP.pd (h : IvP o B v) (hB : 1 ≤ B) (Ls : List Stp) (Bs : List IRow) : IvP o B (paidV Ls Bs v) := by
  unfold paidV
  split
  · exact ((h.paid true).pdN Ls _).go hB Ls Bs
  · exact (h.paid true).pdN Ls _
theorem IvP.new (o : Int) (n : Nat) {B : Int} (hB : 0 ≤ B) (ts : List Int) (hts : ∀ t ∈ ts, t = 0) : IvP o B ⟨o, 0, false, List.replicate n 0, ts, []⟩ := ⟨rfl, fun t ht => by have := hts t ht; omega, fun f hf => by cases hf⟩
end

end Go.Proofs.YtoemmakhbiiknaaGreat

namespace Go.Proofs.YtoemmakhbiiknaaGreat
open Go.RowKit Go.WideShapes Go.ChangeShapes Go.ChangeAt Go.Deep
set_option linter.unusedVariables false

/-- A row of pointers. -/
def enB13 (b : Nat) : List Value := [pB b]
/-- What Find answers. -/
def dfV (od : Nat → Int) (bs : List Nat) (o : Int) : Value := match bs.find? (fun b => od b == o) with | some b => pB b | none => .pointer none
set_option maxRecDepth 100000 in
set_option maxHeartbeats 8000000 in
theorem dfind_any (R : Nat) (LA : Option Addr) (lc : Nat) (bs : List Nat) (od : Nat → Int) (o : Int) (w : World) (hR : w.cell? ⟨R, 0, none⟩ = some (.slice LA bs.length lc)) (lR : R < w.heap.size) (hL : Rd w LA (bs.flatMap enB13)) (hl : bs.length ≤ 140737488355328) (hI : ∀ b ∈ bs, w.cell? ⟨b, 0, none⟩ = some (.int .i64 (od b)) ∧ b < w.heap.size) :
    Calls Tryz.prog 56 #[.pointer (some ⟨R, 0, none⟩), .int .i64 o] w fun e w' => e = .returned (dfV od bs o) ∧ w' = w := by
  have HI := hid hI
  have HL := hid hL
  clear hI hL
  go_enter Tryz.func56, Tryz.ntmps56
  go_wp2_with fail
  go_loop [5] (fun i => ∃ k : Nat, k ≤ bs.length ∧ i = .int .i64 k ∧ Hid (∀ b ∈ bs.take k, (od b == o) = false)) (fun i => bs.length - nOf i)
  case atStart => exact ⟨0, Nat.zero_le _, rfl, hid (fun b hb => by simp at hb)⟩
  case round =>
    obtain ⟨k, hk, rfl, hP⟩ := hrel
    by_cases hlt : k < bs.length
    · obtain ⟨y, hy⟩ : ∃ y, bs[k]? = some y := ⟨bs[k], List.getElem?_eq_getElem hlt⟩
      obtain ⟨b, off, hAA, _, hcc⟩ := HL.out.at_ 1 (fun _ => rfl) (by omega) hy
      subst hAA
      have q0 : w.cell? ⟨b, off + k * 1, none⟩ = some (.pointer (some ⟨y, 0, none⟩)) := hcc 0 _ rfl
      rw [Nat.mul_one] at q0
      obtain ⟨y0, ly⟩ := HI.out y (List.mem_of_getElem? hy)
      have HTK := hid (take_succ_of hy)
      have HSP := hid (show bs = bs.take k ++ y :: bs.drop (k + 1) from by
        have h1 := List.take_append_drop k bs
        rw [List.drop_eq_getElem_cons hlt] at h1
        have h2 : bs[k] = y := by rw [List.getElem?_eq_getElem hlt] at hy; injection hy
        rw [h2] at h1
        exact h1.symm)
      obtain ⟨oy, hoy⟩ : ∃ oy, oy = od y := ⟨_, rfl⟩
      rw [← hoy] at y0
      have HOY := hid hoy
      clear hcc hy hoy
      cases hs : (oy == o) with
      | true =>
        have HV := hid (show dfV od bs o = pB y from by
          unfold dfV
          rw [HSP.out, List.find?_append, List.find?_eq_none.2 (fun b hb => by rw [hP.out b hb]; decide)]
          simp only [Option.none_or]
          rw [List.find?_cons_of_pos (by rw [← HOY.out, hs])])
        clear hP HSP
        go_wp2_with fail
        go_ret
        exact ⟨by rw [HV.out]; rfl, rfl⟩
      | false =>
        have HS := hid hs
        go_wp2_with fail
        go_round
        case rel => exact ⟨k + 1, by omega, by go_num, hid (fun b hb => by
          rw [HTK.out] at hb
          rcases List.mem_append.1 hb with hb | hb
          · exact hP.out b hb
          · simp at hb; subst hb; rw [← HOY.out]; exact HS.out)⟩
        case measure => simp [nOf]; omega
    · have hk' : k = bs.length := by omega
      have HV := hid (show dfV od bs o = .pointer none from by
        unfold dfV
        rw [List.find?_eq_none.2 (fun b hb => by rw [hP.out b (by rw [hk', List.take_length]; exact hb)]; decide)])
      go_wp2_with fail
      go_ret
      exact ⟨by rw [HV.out]; rfl, rfl⟩

end Go.Proofs.YtoemmakhbiiknaaGreat

namespace Go.Proofs.YtoemmakhbiiknaaGreat
open Go.RowKit Go.WideShapes Go.ChangeShapes Go.ChangeAt Go.Deep
set_option linter.unusedVariables false

def livS (f : Nat → Int) (b : Nat) : Bool := f b == 0 || f b == 1
set_option maxRecDepth 100000 in
set_option maxHeartbeats 8000000 in
theorem dlive_any (R : Nat) (LA : Option Addr) (lc : Nat) (bs : List Nat) (f : Nat → Int) (w : World) (hR : w.cell? ⟨R, 0, none⟩ = some (.slice LA bs.length lc)) (lR : R < w.heap.size) (hL : Rd w LA (bs.flatMap enB13)) (hl : bs.length ≤ 140737488355328) (hI : ∀ b ∈ bs, w.cell? ⟨b, 1, none⟩ = some (.int .i64 (f b)) ∧ b < w.heap.size) :
    Calls Tryz.prog 58 #[.pointer (some ⟨R, 0, none⟩)] w fun e w' => e = .returned (.int .i64 ((bs.countP (livS f) : Nat) : Int)) ∧ w' = w := by
  have HI := hid hI
  have HL := hid hL
  clear hI hL
  go_enter Tryz.func58, Tryz.ntmps58
  go_wp2_with fail
  go_loop [3, 4] (fun n i => ∃ k : Nat, k ≤ bs.length ∧ i = .int .i64 k ∧ n = .int .i64 (((bs.take k).countP (livS f) : Nat) : Int)) (fun n i => bs.length - nOf i)
  case atStart => exact ⟨0, Nat.zero_le _, rfl, rfl⟩
  case round =>
    obtain ⟨k, hk, rfl, rfl⟩ := hrel
    by_cases hlt : k < bs.length
    · obtain ⟨y, hy⟩ : ∃ y, bs[k]? = some y := ⟨bs[k], List.getElem?_eq_getElem hlt⟩
      obtain ⟨b, off, hAA, _, hcc⟩ := HL.out.at_ 1 (fun _ => rfl) (by omega) hy
      subst hAA
      have q0 : w.cell? ⟨b, off + k * 1, none⟩ = some (.pointer (some ⟨y, 0, none⟩)) := hcc 0 _ rfl
      rw [Nat.mul_one] at q0
      obtain ⟨y1, ly⟩ := HI.out y (List.mem_of_getElem? hy)
      have hcl : ((bs.take k).countP (livS f)) ≤ bs.length := Nat.le_trans List.countP_le_length (by simp; omega)
      have HTK := hid (take_succ_of hy)
      have HLV := hid (show ((bs.take (k + 1)).countP (livS f)) = (bs.take k).countP (livS f) + (if livS f y = true then 1 else 0) from by rw [HTK.out, List.countP_append]; simp [List.countP_cons])
      generalize (bs.take k).countP (livS f) = cn at hcl HLV ⊢
      have HZ := hid (show livS f y = (f y == 0 || f y == 1) from rfl)
      generalize f y = st at y1 HZ
      clear hcc hy
      cases h0 : (st == 0) with
      | true =>
        have HS := hid (show livS f y = true from by rw [HZ.out, h0]; rfl)
        go_wp2_with fail
        go_round
        case rel => exact ⟨k + 1, by omega, by go_num, by rw [HLV.out, if_pos HS.out]; go_num⟩
        case measure => simp [nOf]; omega
      | false =>
        cases h1 : (st == 1) with
        | true =>
          have HS := hid (show livS f y = true from by rw [HZ.out, h0, h1]; rfl)
          go_wp2_with fail
          go_round
          case rel => exact ⟨k + 1, by omega, by go_num, by rw [HLV.out, if_pos HS.out]; go_num⟩
          case measure => simp [nOf]; omega
        | false =>
          have HS := hid (show livS f y = false from by rw [HZ.out, h0, h1]; rfl)
          go_wp2_with fail
          go_round
          case rel => exact ⟨k + 1, by omega, by go_num, by rw [HLV.out, if_neg (by rw [HS.out]; decide)]; rfl⟩
          case measure => simp [nOf]; omega
    · have hk' : k = bs.length := by omega
      subst hk'
      have HTA := hid (show bs.take bs.length = bs from List.take_length)
      rw [HTA.out]
      go_wp2_with fail
      go_ret
      exact ⟨rfl, rfl⟩

end Go.Proofs.YtoemmakhbiiknaaGreat

namespace Go.Proofs.YtoemmakhbiiknaaGreat
open Go.RowKit Go.WideShapes Go.ChangeShapes Go.ChangeAt Go.Deep
set_option linter.unusedVariables false

/-- The document's instance. -/
def inD (RP : Nat) (v : Iv) (l : Il) : Array Value := #[.int .i64 v.ord, .int .i64 v.st, .bool v.paid, .slice l.MA v.ms.length l.mc, .slice l.TA v.ts.length l.tc, .pointer (some ⟨RP, 0, none⟩)]
structure IsD (n0 : Nat) (X : Nat → Prop) (R J RP : Nat) (vL : Value) (v : Iv) (l : Il) (w : World) : Prop where
  r : Blk w R 34 #[vL, .slice l.OA v.out.length l.oc]
  b : Blk w J 106 (inD RP v l)
  m : w.ownsRow 0 3 1 (.slice l.MA v.ms.length l.mc) v.ms.length (v.ms.flatMap en1)
  t : w.ownsRow 0 3 1 (.slice l.TA v.ts.length l.tc) v.ts.length (v.ts.flatMap en1)
  o : w.ownsRow n0 163 6 (.slice l.OA v.out.length l.oc) v.out.length (v.out.flatMap enEf)
  mt : ∀ g, (Value.slice l.MA v.ms.length l.mc).ownBlock = some g → (Value.slice l.TA v.ts.length l.tc).ownBlock ≠ some g
  xm : ∀ g, (Value.slice l.MA v.ms.length l.mc).ownBlock = some g → X g
  xt : ∀ g, (Value.slice l.TA v.ts.length l.tc).ownBlock = some g → X g
  lo : X J ∧ n0 ≤ w.heap.size ∧ ∀ g, n0 ≤ g → X g
  n : v.ms.length ≤ 1000
  tl : v.ts.length = v.ms.length
/-- What a call of the document's engine may write: its own cell and what is new. -/
def DU (X : Nat → Prop) (R : Nat) (g : Nat) : Prop := g = R ∨ X g
/-- The document's plan, while an instance is under way. -/
structure RpK (X : Nat → Prop) (R bG base2 RP : Nat) (nm : ByteArray) (SA : Option Addr) (sc : Nat) (Lr : List Stp) (w : World) : Prop where
  r : RpS base2 RP nm SA sc Lr w
  af : ∀ s ∈ Lr, ∀ b, s.A.map (·.block) = some b → b < bG
  x : ∀ g, DU X R g → bG ≤ g ∧ g ≠ RP ∧ (Value.slice SA Lr.length sc).ownBlock ≠ some g
section
variable {n0 R J RP bG base2 sc : Nat} {X : Nat → Prop} {vL : Value} {v : Iv} {l : Il} {w w' : World} {nm : ByteArray} {SA : Option Addr} {Lr : List Stp}
theorem RpK.touch (h : RpK X R bG base2 RP nm SA sc Lr w) (hT : Touch (DU X R) w w') : RpK X R bG base2 RP nm SA sc Lr w' :=
  ⟨h.r.touch h.af hT h.x, h.af, h.x⟩
theorem RpK.next (h : RpK X R bG base2 RP nm SA sc Lr w) (hb : Below w.heap.size w w') : RpK X R bG base2 RP nm SA sc Lr w' := h.touch (Touch.of_below hb)
theorem IsD.next (h : IsD n0 X R J RP vL v l w) (hb : Below w.heap.size w w') : IsD n0 X R J RP vL v l w' :=
  ⟨h.r.next hb, h.b.next hb, own_next h.m hb, own_next h.t hb, own_next h.o hb, h.mt, h.xm, h.xt, ⟨h.lo.1, Nat.le_trans h.lo.2.1 hb.size, h.lo.2.2⟩, h.n, h.tl⟩
theorem setD_size (w : World) (a : Addr) (u : Value) : (w.setCell a u).heap.size = w.heap.size := by simp [World.setCell]
theorem IsD.setSt (h : IsD n0 X R J RP vL v l w) (s : Int) : IsD n0 X R J RP vL { v with st := s } l (w.setCell ⟨J, 1, none⟩ (.int .i64 s)) ∧ Touch (DU X R) w (w.setCell ⟨J, 1, none⟩ (.int .i64 s)) := by
  have hT := Touch.setCell w J 1 (.int .i64 s)
  refine ⟨⟨hT.blk h.r (fun e => h.b.ne_ h.r (by decide) e.symm), h.b.set_ 1 _, own_touch h.m hT (fun g hg e => own_notBlk h.m h.b (by decide) (by rw [hg, e])), own_touch h.t hT (fun g hg e => own_notBlk h.t h.b (by decide) (by rw [hg, e])), own_touch h.o hT (fun g hg e => own_notBlk h.o h.b (by decide) (by rw [hg, e])), h.mt, h.xm, h.xt, ⟨h.lo.1, by rw [setD_size]; exact h.lo.2.1, h.lo.2.2⟩, h.n, h.tl⟩, hT.mono (fun k hk => .inr (by rw [hk]; exact h.lo.1))⟩
theorem IsD.setMark (h : IsD n0 X R J RP vL v l w) {k g : Nat} (hg : l.MA = some ⟨g, 0, none⟩) (hk : k < v.ms.length) (s : Int) : IsD n0 X R J RP vL { v with ms := v.ms.set k s } l (w.setCell ⟨g, k, none⟩ (.int .i64 s)) ∧ Touch (DU X R) w (w.setCell ⟨g, k, none⟩ (.int .i64 s)) := by
  have hT := Touch.setCell w g k (.int .i64 s)
  have hbk : (Value.slice l.MA v.ms.length l.mc).ownBlock = some g := by rw [hg]; rfl
  have hm := h.m
  rw [hg] at hm
  obtain ⟨h3, _⟩ := hm.stored k (.int .i64 s)
  have e1 := set_flat en1 1 (fun _ => rfl) v.ms k 0 v.ms[k] (.int .i64 s) (List.getElem?_eq_getElem hk) (by omega) s rfl
  rw [Nat.mul_one, Nat.add_zero] at e1
  rw [e1] at h3
  have hB : Blk (w.setCell ⟨g, k, none⟩ (.int .i64 s)) J 106 (inD RP v l) := hT.blk h.b (fun e => own_notBlk h.m h.b (by decide) (by rw [hbk, e]))
  refine ⟨⟨hT.blk h.r (fun e => own_notBlk h.m h.r (by decide) (by rw [hbk, e])), by simpa [inD] using hB, by simpa [hg] using h3, own_touch h.t hT (fun g' hg' e => h.mt g hbk (by rw [hg', e])), own_touch h.o hT (fun g' hg' e => own_ne h.m (own_base h.o (Nat.zero_le _)) (by decide) hbk (by rw [hg', e])), by simpa using h.mt, by simpa using h.xm, by simpa using h.xt, ⟨h.lo.1, by rw [setD_size]; exact h.lo.2.1, h.lo.2.2⟩, by simpa using h.n, by simpa using h.tl⟩, hT.mono (fun k hk => .inr (by rw [hk]; exact h.xm g hbk))⟩
theorem IsD.setTry (h : IsD n0 X R J RP vL v l w) {k g : Nat} (hg : l.TA = some ⟨g, 0, none⟩) (hk : k < v.ts.length) (s : Int) : IsD n0 X R J RP vL { v with ts := v.ts.set k s } l (w.setCell ⟨g, k, none⟩ (.int .i64 s)) ∧ Touch (DU X R) w (w.setCell ⟨g, k, none⟩ (.int .i64 s)) := by
  have hT := Touch.setCell w g k (.int .i64 s)
  have hbk : (Value.slice l.TA v.ts.length l.tc).ownBlock = some g := by rw [hg]; rfl
  have hm := h.t
  rw [hg] at hm
  obtain ⟨h3, _⟩ := hm.stored k (.int .i64 s)
  have e1 := set_flat en1 1 (fun _ => rfl) v.ts k 0 v.ts[k] (.int .i64 s) (List.getElem?_eq_getElem hk) (by omega) s rfl
  rw [Nat.mul_one, Nat.add_zero] at e1
  rw [e1] at h3
  have hB : Blk (w.setCell ⟨g, k, none⟩ (.int .i64 s)) J 106 (inD RP v l) := hT.blk h.b (fun e => own_notBlk h.t h.b (by decide) (by rw [hbk, e]))
  refine ⟨⟨hT.blk h.r (fun e => own_notBlk h.t h.r (by decide) (by rw [hbk, e])), by simpa [inD] using hB, own_touch h.m hT (fun g' hg' e => h.mt g' hg' (by rw [hbk, e])), by simpa [hg] using h3, own_touch h.o hT (fun g' hg' e => own_ne h.t (own_base h.o (Nat.zero_le _)) (by decide) hbk (by rw [hg', e])), by simpa using h.mt, h.xm, by simpa using h.xt, ⟨h.lo.1, by rw [setD_size]; exact h.lo.2.1, h.lo.2.2⟩, h.n, by simpa using h.tl⟩, hT.mono (fun k hk => .inr (by rw [hk]; exact h.xt g hbk))⟩
theorem IsD.ma (h : IsD n0 X R J RP vL v l w) {k : Nat} (hk : k < v.ms.length) : ∃ g, l.MA = some ⟨g, 0, none⟩ ∧ g < w.heap.size := by
  obtain ⟨g, c, e, _, h2⟩ := own_form h.m (by omega)
  simp only [Value.slice.injEq] at e
  exact ⟨g, e.1, h2⟩
theorem IsD.ta (h : IsD n0 X R J RP vL v l w) {k : Nat} (hk : k < v.ms.length) : ∃ g, l.TA = some ⟨g, 0, none⟩ ∧ g < w.heap.size := by
  obtain ⟨g, c, e, _, h2⟩ := own_form h.t (by have := h.tl; omega)
  simp only [Value.slice.injEq] at e
  exact ⟨g, e.1, h2⟩
theorem IsD.mark (h : IsD n0 X R J RP vL v l w) {k g : Nat} (hg : l.MA = some ⟨g, 0, none⟩) {s : Int} (hs : v.ms[k]? = some s) : w.cell? ⟨g, k, none⟩ = some (.int .i64 s) := by
  have hm := h.m
  rw [hg] at hm
  have := own_cells (enc := en1) (fun _ => rfl) hm hs (j := 0) (u := .int .i64 s) rfl
  simpa using this
theorem IsD.try_ (h : IsD n0 X R J RP vL v l w) {k g : Nat} (hg : l.TA = some ⟨g, 0, none⟩) {s : Int} (hs : v.ts[k]? = some s) : w.cell? ⟨g, k, none⟩ = some (.int .i64 s) := by
  have hm := h.t
  rw [hg] at hm
  have := own_cells (enc := en1) (fun _ => rfl) hm hs (j := 0) (u := .int .i64 s) rfl
  simpa using this
theorem info_deff : (Tryz.prog.info? 163).map (fun i => (i.zero, i.size, i.bytes)) = some (some (.agg #[.int .i64 0, .int .i64 0, .int .i64 0, .int .i64 0, .int .i64 0, .bool false]), 6, 48) := by kernel_rfl
set_option maxRecDepth 100000 in
set_option maxHeartbeats 8000000 in
theorem dtell_any (h : IsD n0 X R J RP vL v l w) (ho : v.out.length ≤ 1000000) (kd st tr ti : Int) (u : Bool) :
    Calls Tryz.prog 76 #[.pointer (some ⟨R, 0, none⟩), .pointer (some ⟨J, 0, none⟩), .int .i64 kd, .int .i64 st, .int .i64 tr, .int .i64 ti, .bool u] w fun e w' => e = .returned (.tuple #[]) ∧ ∃ OA' oc', IsD n0 X R J RP vL { v with out := v.out ++ [⟨kd, v.ord, st, tr, ti, u⟩] } { l with OA := OA', oc := oc' } w' ∧ Touch (DU X R) w w' := by
  obtain ⟨i0, hi, hz0, hz1, hz2⟩ := info_parts info_deff
  have HI := hid h
  have i0' : w.cell? ⟨J, 0, none⟩ = some (.int .i64 v.ord) := h.b.cell 0
  have i6 : w.cell? ⟨R, 1, none⟩ = some (.slice l.OA v.out.length l.oc) := h.r.cell 1
  have f6 := h.r.free 1
  have lI := h.b.lt
  have lR := h.r.lt
  have hbs : n0 ≤ w.heap.size := h.lo.2.1
  obtain ⟨B, hB⟩ : ∃ B : Obj, B = .cells #[.int .i64 kd, .int .i64 v.ord, .int .i64 st, .int .i64 tr, .int .i64 ti, .bool u] 163 := ⟨_, rfl⟩
  have hbw : Below w.heap.size w (w.drew.alloc B) := (Below.refl _ _).drew.alloc (Nat.le_refl _) _
  have hn := h.next hbw
  have hO := hid hn.o
  have hRb := hid hn.r
  have HW := hid (show some R ≠ (Value.slice l.OA v.out.length l.oc).ownBlock from fun e => own_notBlk h.o h.r (by decide) e.symm)
  have HFIN : ∀ (g cap : Nat) (w7 : World), w7.ownsRow n0 163 6 (.slice (some ⟨g, 0, none⟩) (v.out.length + 1) cap) (v.out.length + 1) (v.out.flatMap enEf ++ [.int .i64 kd, .int .i64 v.ord, .int .i64 st, .int .i64 tr, .int .i64 ti, .bool u]) → (w.drew.alloc B).grownBy w7 (Value.slice l.OA v.out.length l.oc).ownBlock →
      ∃ OA' oc', IsD n0 X R J RP vL { v with out := v.out ++ [⟨kd, v.ord, st, tr, ti, u⟩] } { l with OA := OA', oc := oc' } (w7.setCell ⟨R, 1, none⟩ (.slice (some ⟨g, 0, none⟩) (v.out.length + 1) cap)) ∧ Touch (DU X R) w (w7.setCell ⟨R, 1, none⟩ (.slice (some ⟨g, 0, none⟩) (v.out.length + 1) cap)) := by
    intro g cap w7 hO7 hg7
    have hT7 : Touch (fun b => (Value.slice l.OA v.out.length l.oc).ownBlock = some b) (w.drew.alloc B) w7 := ⟨hg7.os, hg7.tape, hg7.output, hg7.size, fun k hk hn => hg7.block k hk (fun e => hn e.symm)⟩
    have hb7 := hT7.blk hn.b (fun e => own_notBlk hn.o hn.b (by decide) e)
    have hr7 := hT7.blk hn.r (fun e => HW.out e.symm)
    have hm7 := own_touch hn.m hT7 (fun q hq e => own_ne hn.m (own_base hn.o (Nat.zero_le _)) (by decide) hq e)
    have ht7 := own_touch hn.t hT7 (fun q hq e => own_ne hn.t (own_base hn.o (Nat.zero_le _)) (by decide) hq e)
    have hS := Touch.setCell w7 R 1 (.slice (some ⟨g, 0, none⟩) (v.out.length + 1) cap)
    have hb8 := hS.blk hb7 (fun e => hb7.ne_ hr7 (by decide) e)
    have hr8 := hr7.set_ 1 (.slice (some ⟨g, 0, none⟩) (v.out.length + 1) cap)
    have hm8 := own_touch hm7 hS (fun q hq e => own_notBlk hm7 hr7 (by decide) (by rw [hq, e]))
    have ht8 := own_touch ht7 hS (fun q hq e => own_notBlk ht7 hr7 (by decide) (by rw [hq, e]))
    have ho8 := own_touch hO7 hS (fun q hq e => own_notBlk hO7 hr7 (by decide) (by rw [hq, e]))
    refine ⟨some ⟨g, 0, none⟩, cap, ⟨?_, hb8, hm8, ht8, ?_, hn.mt, hn.xm, hn.xt, ⟨hn.lo.1, by rw [setD_size]; exact Nat.le_trans hn.lo.2.1 hT7.size, hn.lo.2.2⟩, hn.n, hn.tl⟩, ?_⟩
    · simpa using hr8
    · simpa [enEf] using ho8
    · exact ((Touch.of_below hbw).then (hT7.mono (fun k hk => .inr (hn.lo.2.2 k (hn.o.lt k hk).1)))).then (hS.mono (fun k hk => .inl hk))
  have HF := hid HFIN
  have HWS := hid (show (w.drew.alloc B).heap.size = w.heap.size + 1 from by simp)
  clear h hn HFIN hbw
  subst hB
  go_enter Tryz.func76, Tryz.ntmps76
  go_region_law ((refine step_append_lies _ (by rfl) _ _ _ (by rfl) n0 163 i0 _ 6 48 Tryz.underlying32 hi hz0 hz1 hz2 rfl (by decide) _ _ _ (by rfl) hO.out ⟨w.heap.size, 0, none⟩ 1 1 [.int .i64 kd, .int .i64 v.ord, .int .i64 st, .int .i64 tr, .int .i64 ti, .bool u] (by rfl) (by rfl) (World.news_of_block (heap_alloc_new _ _)) (enEf_one ⟨kd, v.ord, st, tr, ti, u⟩) (by omega) (by unfold maxLen; omega) (by omega) (by simp; omega) _ rfl ?_; intro g7 cap7 w7 hO7 hg7 hat7 hlt7; have hB7 := hRb.out.grown hg7 HW.out; have c7 : w7.cell? ⟨R, 1, none⟩ = some (.slice l.OA v.out.length l.oc) := hB7.cell 1; have f7 := hB7.free 1))
  all_goals
    have HZ := hid (HF.out _ _ _ hO7 hg7)
    clear hO7 hg7 hat7 HF hO hRb hlt7 hB7 c7 f7 i6 i0' f6
    go_wp2_with fail
    go_end0
    exact ⟨rfl, HZ.out⟩
/-- Have all of these steps one of two marks? -/
def dallB (ms : List Int) (xs : List Int) (a b : Int) : Bool := xs.all fun x => mkA ms x == a || mkA ms x == b
set_option maxRecDepth 100000 in
set_option maxHeartbeats 8000000 in
theorem dall_any (hd : IsD n0 X R J RP vL v l w) (hr : RpS base2 RP nm SA sc Lr w) (hn : v.ms.length = Lr.length) {q : Nat} {s : Stp} (hq : Lr[q]? = some s) (a b : Int) :
    Calls Tryz.prog 86 #[.pointer (some ⟨J, 0, none⟩), .int .i64 q, .bool false, .int .i64 a, .int .i64 b] w fun e w' => e = .returned (.bool (dallB v.ms (pickL (fun t => waitB s t) Lr Lr.length) a b)) ∧ Below w.heap.size w w' := by
  have K := hid (rbefore_any hr hq)
  have HD := hid hd
  have i5 : w.cell? ⟨J, 5, none⟩ = some (.pointer (some ⟨RP, 0, none⟩)) := hd.b.cell 5
  have lJ := hd.b.lt
  have hLr := hr.n
  have HPL := hid (pickL_len (fun t => waitB s t) Lr Lr.length)
  have HPX := hid (show ∀ x ∈ pickL (fun t => waitB s t) Lr Lr.length, ∃ k : Nat, x = (k : Int) ∧ k < v.ms.length from fun x hx => by
    obtain ⟨k, t, h1, h2, _⟩ := pickL_mem.1 hx
    exact ⟨k, h2, by omega⟩)
  generalize pickL (fun t => waitB s t) Lr Lr.length = xs at K HPL HPX ⊢
  clear hd hr hq
  go_enter Tryz.func86, Tryz.ntmps86
  go_wp2_with fail
  refine K.out.mono ?_
  rintro e w1 ⟨A, cap, rfl, hO, hb⟩
  clear K i5 lJ
  have HR := hid (own_rd hO)
  have HD1 := hid (HD.out.next hb)
  have HB := hid hb
  clear hO hb HD
  have hxl := HPL.out
  go_wp2_with fail
  go_loopw [12, 13] (fun i m wr => ∃ k : Nat, k ≤ xs.length ∧ i = .int .i64 k ∧ Hid ((xs.take k).all (fun x => mkA v.ms x == a || mkA v.ms x == b) = true) ∧ Hid (Below w1.heap.size w1 wr)) (fun i m _ => xs.length - nOf i)
  case atStart => exact ⟨0, Nat.zero_le _, rfl, hid rfl, hid (Below.refl _ _)⟩
  case round =>
    obtain ⟨k, hk, rfl, hT, hbr⟩ := hrel
    by_cases hlt : k < xs.length
    · obtain ⟨x, hx⟩ : ∃ x, xs[k]? = some x := ⟨xs[k], List.getElem?_eq_getElem hlt⟩
      obtain ⟨z, rfl, hz⟩ := HPX.out x (List.mem_of_getElem? hx)
      have HDr := hid (HD1.out.next hbr.out)
      have HTK := hid (take_succ_of hx)
      have HX := hid (List.mem_of_getElem? hx)
      obtain ⟨g, off, hAA, _, hcc⟩ := (HR.out.below hbr.out).at_ 1 (fun _ => rfl) (by omega) hx
      have HRr := hid hAA
      have q0 : wr.cell? ⟨g, off + k * 1, none⟩ = some (.int .i64 z) := hcc 0 _ rfl
      rw [Nat.mul_one] at q0
      obtain ⟨gm, hgm, lgm⟩ := HDr.out.ma hz
      have i3 : wr.cell? ⟨J, 3, none⟩ = some (.slice (some ⟨gm, 0, none⟩) v.ms.length l.mc) := by rw [HDr.out.b.cell 3, ← hgm]; rfl
      obtain ⟨m, hm⟩ : ∃ m, v.ms[z]? = some m := ⟨_, List.getElem?_eq_getElem hz⟩
      have cm : wr.cell? ⟨gm, z, none⟩ = some (.int .i64 m) := HDr.out.mark hgm hm
      have HMK := hid (show mkA v.ms z = m from by simp [mkA, List.getD, hm])
      have lJ := HDr.out.b.lt
      clear hgm hm hcc hx
      rw [hAA]
      clear hAA
      have HBR := hid hbr.out
      have HE := hid (show (mkA v.ms z == a || mkA v.ms z == b) = (m == a || m == b) from by rw [HMK.out])
      have HT1 := hid (show (m != a && m != b) = false → (xs.take (k + 1)).all (fun x => mkA v.ms x == a || mkA v.ms x == b) = true from fun h => by rw [HTK.out, List.all_append, hT.out]; simp only [List.all_cons, List.all_nil, Bool.and_true, Bool.true_and]; rw [HE.out]; revert h; simp only [bne]; cases (m == a) <;> cases (m == b) <;> simp)
      have HF1 := hid (show (m != a && m != b) = true → dallB v.ms xs a b = false from fun h => by
        unfold dallB
        rw [List.all_eq_false]
        exact ⟨_, HX.out, by rw [HE.out]; revert h; simp only [bne]; cases (m == a) <;> cases (m == b) <;> simp⟩)
      clear hbr hT HTK HX HE HMK HDr HD1
      cases e1 : (m != a) with
      | false =>
        have HT2 := hid (HT1.out (by rw [e1]; rfl))
        go_upto_region 7 with fail
        go_region
        all_goals
          go_wp2_with fail
          go_roundw
          case rel => exact ⟨k + 1, by omega, by go_num, HT2, hid (below_drewN HBR.out _)⟩
          case measure => simp [nOf]; omega
      | true =>
        cases e2 : (m != b) with
        | false =>
          have HT2 := hid (HT1.out (by rw [e1, e2]; rfl))
          go_upto_region 7 with fail
          go_region
          all_goals
            go_wp2_with fail
            go_roundw
            case rel => exact ⟨k + 1, by omega, by go_num, HT2, hid (below_drewN HBR.out _)⟩
            case measure => simp [nOf]; omega
        | true =>
          have HF2 := hid (HF1.out (by rw [e1, e2]; rfl))
          go_upto_region 7 with fail
          go_region
          all_goals
            go_wp2_with fail
            go_ret
            rw [HF2.out]
            exact ⟨rfl, bthen HB.out (below_drewN HBR.out _)⟩
    · have hk' : k = xs.length := by omega
      subst hk'
      have HV := hid (show dallB v.ms xs a b = true from by have := hT.out; rw [List.take_length] at this; exact this)
      go_wp2_with fail
      go_ret
      rw [HV.out]
      exact ⟨rfl, bthen HB.out hbr.out⟩
end

end Go.Proofs.YtoemmakhbiiknaaGreat

namespace Go.Proofs.YtoemmakhbiiknaaGreat
open Go.RowKit Go.WideShapes Go.ChangeShapes Go.ChangeAt Go.Deep
set_option linter.unusedVariables false

set_option maxRecDepth 100000 in
set_option maxHeartbeats 8000000 in
/-- How many steps have the mark. -/
theorem dcount_any (J : Nat) (MA : Option Addr) (mc : Nat) (ms : List Int) (m : Int) (w : World) (hJ : w.cell? ⟨J, 3, none⟩ = some (.slice MA ms.length mc)) (lJ : J < w.heap.size) (hM : Rd w MA (ms.flatMap en1)) (hl : ms.length ≤ 140737488355328) :
    Calls Tryz.prog 87 #[.pointer (some ⟨J, 0, none⟩), .int .i64 m] w fun e w' => e = .returned (.int .i64 ((ms.countP (fun x => x == m) : Nat) : Int)) ∧ w' = w := by
  have HM := hid hM
  clear hM
  go_enter Tryz.func87, Tryz.ntmps87
  go_wp2_with fail
  go_loop [5, 6] (fun n i => ∃ k : Nat, k ≤ ms.length ∧ i = .int .i64 k ∧ n = .int .i64 (((ms.take k).countP (fun x => x == m) : Nat) : Int)) (fun n i => ms.length - nOf i)
  case atStart => exact ⟨0, Nat.zero_le _, rfl, rfl⟩
  case round =>
    obtain ⟨k, hk, rfl, rfl⟩ := hrel
    by_cases hlt : k < ms.length
    · obtain ⟨x, hx⟩ : ∃ x, ms[k]? = some x := ⟨ms[k], List.getElem?_eq_getElem hlt⟩
      obtain ⟨b, off, hAA, _, hcc⟩ := HM.out.at_ 1 (fun _ => rfl) (by omega) hx
      subst hAA
      have q0 : w.cell? ⟨b, off + k * 1, none⟩ = some (.int .i64 x) := hcc 0 _ rfl
      rw [Nat.mul_one] at q0
      have hcl : ((ms.take k).countP (fun x => x == m)) ≤ ms.length := Nat.le_trans List.countP_le_length (by simp; omega)
      have HTK := hid (take_succ_of hx)
      have HLV := hid (show ((ms.take (k + 1)).countP (fun x => x == m)) = (ms.take k).countP (fun x => x == m) + (if (x == m) = true then 1 else 0) from by rw [HTK.out, List.countP_append]; simp [List.countP_cons])
      generalize (ms.take k).countP (fun x => x == m) = cn at hcl HLV ⊢
      clear hcc hx
      cases hs : (x == m) with
      | true =>
        have HS := hid hs
        go_wp2_with fail
        go_round
        case rel => exact ⟨k + 1, by omega, by go_num, by rw [HLV.out, if_pos HS.out]; go_num⟩
        case measure => simp [nOf]; omega
      | false =>
        have HS := hid hs
        go_wp2_with fail
        go_round
        case rel => exact ⟨k + 1, by omega, by go_num, by rw [HLV.out, if_neg (by rw [HS.out]; decide)]; rfl⟩
        case measure => simp [nOf]; omega
    · have hk' : k = ms.length := by omega
      subst hk'
      have HTA := hid (show ms.take ms.length = ms from List.take_length)
      rw [HTA.out]
      go_wp2_with fail
      go_ret
      exact ⟨rfl, rfl⟩

end Go.Proofs.YtoemmakhbiiknaaGreat
