/-
  The book of money: WriteOff, Memo, Refund, Dun, Open, Get, Balance.
-/
import Derived.Test.YthdmbbfppgenlaaGreatChS
import Derived.Laws.Tables
namespace Go.Proofs.YthdmbbfppgenlaaGreat
open Go.RowKit Go.WideShapes Go.ChangeShapes Go.ChangeAt Go.Deep
set_option linter.unusedVariables false

theorem Blk.setRow {w : World} {g : Nat} {t : TypeId} {cs : Array Value} (h : Blk w g t cs) (vs : Array Value) : Blk (w.setRow g vs) g t vs := by
  unfold Blk World.setRow at *
  simp [Array.getElem?_modify, h]
theorem Touch.setRow (w : World) (g : Nat) (vs : Array Value) : Touch (· = g) w (w.setRow g vs) := by
  refine ⟨rfl, rfl, rfl, ?_, fun k hk hn => ?_⟩
  · unfold World.setRow; simp
  · unfold World.setRow
    simp only [Array.getElem?_modify]
    rw [if_neg (fun e => hn e.symm)]
theorem cfind_none {ac : List (Int × CP)} {o : Int} : cfind ac o = none ↔ mget ac o = none := by
  unfold cfind
  cases mget ac o <;> simp
theorem cfind_some {ac : List (Int × CP)} {o : Int} {a : Ca} : cfind ac o = some a ↔ ∃ g, mget ac o = some ⟨g, a⟩ := by
  unfold cfind
  cases h : mget ac o with
  | none => simp
  | some q =>
    obtain ⟨g, b⟩ := q
    simp
theorem acOf_some {F : Int → Option Ca} {o c : Int} {a : Ca} (h : F o = some a) : acOf F o c = a := by unfold acOf; rw [h]; rfl
theorem addF_move0 (f : Fn) (c ta fr : Int) : addF f c (moveE ta fr 0) = f := by
  funext p
  rw [addF_apply]
  simp [moveE]
theorem addF_moves (f : Fn) (c ta fr a b : Int) : addF (addF f c (moveE ta fr a)) c (moveE ta fr b) = addF f c (moveE ta fr (a + b)) := by
  funext p
  rw [addF_apply, addF_apply, addF_apply]
  simp only [moveE, List.map_cons, List.map_nil, List.sum_cons, List.sum_nil]
  split <;> split <;> omega
section
variable {n0 : Nat} {w w' : World} {X XL BL BA : Nat} {ac : List (Int × CP)} {f f' : Fn} {d d' : Int}

theorem copen_any (h : IsC n0 w X XL BL BA ac d) (o : Int) :
    Calls Tryz.prog 12 #[.pointer (some ⟨X, 0, none⟩), .int .i64 o] w fun e w' => e = .returned (.int .i64 (match cfind ac o with | none => 0 | some a => openC a)) ∧ Below w.heap.size w w' := by
  cases hm : cfind ac o with
  | none =>
    have K := hid (find_none h.bk o (cfind_none.1 hm))
    clear h hm
    go_enter Tryz.func12, Tryz.ntmps12
    go_wp2_with fail
    refine K.out.mono ?_
    rintro e w1 ⟨rfl, rfl⟩
    go_wp2_with fail
    go_ret
    exact ⟨rfl, Below.refl _ _⟩
  | some a =>
    obtain ⟨g, hg⟩ := cfind_some.1 hm
    have K := hid (find_some h.bk o _ hg)
    have hB := h.bk.at_ hg
    simp only at K hB ⊢
    have lg := hB.lt
    have e0 : w.cell? ⟨g, 0, none⟩ = some (.int .i64 a.o) := hB.cell 0
    have e1 : w.cell? ⟨g, 1, none⟩ = some (.int .i64 a.c) := hB.cell 1
    have e2 : w.cell? ⟨g, 2, none⟩ = some (.int .i64 a.st) := hB.cell 2
    have e3 : w.cell? ⟨g, 3, none⟩ = some (.int .i64 a.lv) := hB.cell 3
    have e4 : w.cell? ⟨g, 4, none⟩ = some (.int .i64 a.net) := hB.cell 4
    have e5 : w.cell? ⟨g, 5, none⟩ = some (.int .i64 a.tax) := hB.cell 5
    have e6 : w.cell? ⟨g, 6, none⟩ = some (.int .i64 a.ap) := hB.cell 6
    have e7 : w.cell? ⟨g, 7, none⟩ = some (.int .i64 a.wr) := hB.cell 7
    have e8 : w.cell? ⟨g, 8, none⟩ = some (.int .i64 a.dep) := hB.cell 8
    have KO := hid (open_any a w (h.gd.of o 0 hm).1.small)
    simp only [celC] at KO
    clear h hm hg hB
    go_enter Tryz.func12, Tryz.ntmps12
    go_wp2_with fail
    refine K.out.mono ?_
    rintro e w1 ⟨rfl, rfl⟩
    go_wp2_with fail
    refine KO.out.mono ?_
    rintro e w1 ⟨rfl, hb⟩
    clear e0 e1 e2 e3 e4 e5 e6 e7 e8
    go_wp2_with fail
    go_ret
    exact ⟨rfl, hb⟩

set_option maxRecDepth 100000 in
set_option maxHeartbeats 8000000 in
theorem cwof_any (h : IsC n0 w X XL BL BA ac d) (o : Int) :
    Calls Tryz.prog 10 #[.pointer (some ⟨X, 0, none⟩), .int .i64 o] w fun e w' => e = .returned (.int .i64 (wofR (cfind ac) d o).code) ∧ PostC n0 X XL BL BA ac o (wofR (cfind ac) d o) w w' := by
  unfold wofR
  cases hm : cfind ac o with
  | none =>
    have K := hid (find_none h.bk o (cfind_none.1 hm))
    have H := hid h
    clear h hm
    go_enter Tryz.func10, Tryz.ntmps10
    go_wp2_with fail
    refine K.out.mono ?_
    rintro e w1 ⟨rfl, rfl⟩
    go_wp2_with fail
    go_ret
    exact ⟨rfl, PostC.same H.out (Below.refl _ _)⟩
  | some a =>
    obtain ⟨g, hg⟩ := cfind_some.1 hm
    have K := hid (find_some h.bk o _ hg)
    have hB := h.bk.at_ hg
    have hfit := (h.gd.of o 0 hm).1
    have hao := (h.gd.of o 0 hm).2.1
    have hwt := (h.gd.of o 0 hm).2.2
    simp only at K hB ⊢
    have hz0 := hfit.open0
    have KO := hid (fun w => open_any a w hfit.small)
    simp only [celC] at KO
    have H := hid h
    have HB := hid hB
    have HM := hid (And.intro hm hg)
    have HF := hid (And.intro hfit (And.intro hao hwt))
    obtain ⟨z, hz⟩ : ∃ z, z = openC a := ⟨_, rfl⟩
    rw [← hz] at KO hz0 ⊢
    have HZ := hid hz
    have HZ0 := hid hz0
    have lg := hB.lt
    have e0 : w.cell? ⟨g, 0, none⟩ = some (.int .i64 a.o) := hB.cell 0
    have e1 : w.cell? ⟨g, 1, none⟩ = some (.int .i64 a.c) := hB.cell 1
    have e2 : w.cell? ⟨g, 2, none⟩ = some (.int .i64 a.st) := hB.cell 2
    have e3 : w.cell? ⟨g, 3, none⟩ = some (.int .i64 a.lv) := hB.cell 3
    have e4 : w.cell? ⟨g, 4, none⟩ = some (.int .i64 a.net) := hB.cell 4
    have e5 : w.cell? ⟨g, 5, none⟩ = some (.int .i64 a.tax) := hB.cell 5
    have e6 : w.cell? ⟨g, 6, none⟩ = some (.int .i64 a.ap) := hB.cell 6
    have e7 : w.cell? ⟨g, 7, none⟩ = some (.int .i64 a.wr) := hB.cell 7
    have e8 : w.cell? ⟨g, 8, none⟩ = some (.int .i64 a.dep) := hB.cell 8
    clear h hm hg hB hfit hao hwt hz
    by_cases z0 : z = 0
    · rw [if_pos z0]
      subst z0
      clear hz0
      go_enter Tryz.func10, Tryz.ntmps10
      go_wp2_with fail
      refine K.out.mono ?_
      rintro e w1 ⟨rfl, rfl⟩
      go_wp2_with fail
      refine (KO.out _).mono ?_
      rintro e w1 ⟨rfl, hb⟩
      clear e0 e1 e2 e3 e4 e5 e6 e7 e8
      go_wp2_with fail
      go_ret
      exact ⟨rfl, PostC.same H.out hb⟩
    · rw [if_neg z0]
      have t1 : (z == 0) = false := by simpa using z0
      clear z0 hz0
      have W1 : ∀ w1 : World, Below w.heap.size w w1 → Blk w1 g 35 (celC a) := fun w1 hb => HB.out.next hb
      replace W1 := hid W1
      by_cases z1 : 1000 < z
      · rw [if_pos z1]
        have t2 : decide (1000 < z) = true := decide_eq_true z1
        clear z1
        go_enter Tryz.func10, Tryz.ntmps10
        go_wp2_with fail
        refine K.out.mono ?_
        rintro e w1 ⟨rfl, rfl⟩
        go_wp2_with fail
        refine (KO.out _).mono ?_
        rintro e w1 ⟨rfl, hb⟩
        clear e0 e1 e2 e3 e4 e5 e6 e7 e8
        have hB1 := W1.out w1 hb
        have e0 : w1.cell? ⟨g, 0, none⟩ = some (.int .i64 a.o) := hB1.cell 0
        have e1 : w1.cell? ⟨g, 1, none⟩ = some (.int .i64 a.c) := hB1.cell 1
        have e2 : w1.cell? ⟨g, 2, none⟩ = some (.int .i64 a.st) := hB1.cell 2
        have e3 : w1.cell? ⟨g, 3, none⟩ = some (.int .i64 a.lv) := hB1.cell 3
        have e4 : w1.cell? ⟨g, 4, none⟩ = some (.int .i64 a.net) := hB1.cell 4
        have e5 : w1.cell? ⟨g, 5, none⟩ = some (.int .i64 a.tax) := hB1.cell 5
        have e6 : w1.cell? ⟨g, 6, none⟩ = some (.int .i64 a.ap) := hB1.cell 6
        have e7 : w1.cell? ⟨g, 7, none⟩ = some (.int .i64 a.wr) := hB1.cell 7
        have e8 : w1.cell? ⟨g, 8, none⟩ = some (.int .i64 a.dep) := hB1.cell 8
        have lg1 := hB1.lt
        have HB1 := hid hb
        clear hB1 hb lg
        go_wp2_with fail
        refine (KO.out _).mono ?_
        rintro e w2 ⟨rfl, hb⟩
        clear e0 e1 e2 e3 e4 e5 e6 e7 e8
        go_wp2_with fail
        go_ret
        exact ⟨rfl, PostC.same H.out (bthen HB1.out hb)⟩
      · rw [if_neg z1]
        have t2 : decide (1000 < z) = false := decide_eq_false z1
        have HZ1 := hid z1
        clear z1
        have pre : True := trivial
        by_cases hr : 576460752303423488 - z < d

        · rw [if_pos hr]
          have HR := hid hr
          clear hr
          go_enter Tryz.func10, Tryz.ntmps10
          go_wp2_with fail
          refine K.out.mono ?_
          rintro e w1 ⟨rfl, rfl⟩
          go_wp2_with fail
          refine (KO.out _).mono ?_
          rintro e w1 ⟨rfl, hb⟩
          clear e0 e1 e2 e3 e4 e5 e6 e7 e8
          have hB1 := W1.out w1 hb
          have e0 : w1.cell? ⟨g, 0, none⟩ = some (.int .i64 a.o) := hB1.cell 0
          have e1 : w1.cell? ⟨g, 1, none⟩ = some (.int .i64 a.c) := hB1.cell 1
          have e2 : w1.cell? ⟨g, 2, none⟩ = some (.int .i64 a.st) := hB1.cell 2
          have e3 : w1.cell? ⟨g, 3, none⟩ = some (.int .i64 a.lv) := hB1.cell 3
          have e4 : w1.cell? ⟨g, 4, none⟩ = some (.int .i64 a.net) := hB1.cell 4
          have e5 : w1.cell? ⟨g, 5, none⟩ = some (.int .i64 a.tax) := hB1.cell 5
          have e6 : w1.cell? ⟨g, 6, none⟩ = some (.int .i64 a.ap) := hB1.cell 6
          have e7 : w1.cell? ⟨g, 7, none⟩ = some (.int .i64 a.wr) := hB1.cell 7
          have e8 : w1.cell? ⟨g, 8, none⟩ = some (.int .i64 a.dep) := hB1.cell 8
          have lg1 := hB1.lt
          have HB1 := hid hb
          clear hB1 hb lg
          go_wp2_with fail
          refine (KO.out _).mono ?_
          rintro e w2 ⟨rfl, hb⟩
          clear e0 e1 e2 e3 e4 e5 e6 e7 e8
          replace HB1 := hid (bthen HB1.out hb)
          have hB2 := W1.out w2 HB1.out
          have e0 : w2.cell? ⟨g, 0, none⟩ = some (.int .i64 a.o) := hB2.cell 0
          have e1 : w2.cell? ⟨g, 1, none⟩ = some (.int .i64 a.c) := hB2.cell 1
          have e2 : w2.cell? ⟨g, 2, none⟩ = some (.int .i64 a.st) := hB2.cell 2
          have e3 : w2.cell? ⟨g, 3, none⟩ = some (.int .i64 a.lv) := hB2.cell 3
          have e4 : w2.cell? ⟨g, 4, none⟩ = some (.int .i64 a.net) := hB2.cell 4
          have e5 : w2.cell? ⟨g, 5, none⟩ = some (.int .i64 a.tax) := hB2.cell 5
          have e6 : w2.cell? ⟨g, 6, none⟩ = some (.int .i64 a.ap) := hB2.cell 6
          have e7 : w2.cell? ⟨g, 7, none⟩ = some (.int .i64 a.wr) := hB2.cell 7
          have e8 : w2.cell? ⟨g, 8, none⟩ = some (.int .i64 a.dep) := hB2.cell 8
          have lg2 := hB2.lt
          clear hB2 hb lg1
          go_wp2_with fail
          refine (KO.out _).mono ?_
          rintro e w3 ⟨rfl, hb⟩
          clear e0 e1 e2 e3 e4 e5 e6 e7 e8
          replace HB1 := hid (bthen HB1.out hb)
          have R := room_any (H.out.bk.next HB1.out) z (by have := HZ0.out; omega) (by have := HZ0.out; omega)
          rw [roomR_many HR.out] at R
          replace R := hid R
          clear hb lg2
          go_wp2_with fail
          refine R.out.mono ?_
          rintro e w4 ⟨rfl, hb⟩
          replace HB1 := hid (bthen HB1.out hb)
          clear R hb
          go_wp2_with fail
          go_ret
          exact ⟨rfl, PostC.same H.out HB1.out⟩
        · rw [if_neg hr]
          have HR := hid hr
          clear hr
          have wd : IntKind.i64.wrap (a.wr + z) = a.wr + z := IntWalk.i64_in _ ⟨by have := HF.out.1.w0; have := HZ0.out; omega, by have := HF.out.1.w1; have := HF.out.1.n1; have := HF.out.1.t1; have := HF.out.1.p0; have := HZ0.out; omega⟩
          go_enter Tryz.func10, Tryz.ntmps10
          go_wp2_with fail
          refine K.out.mono ?_
          rintro e w1 ⟨rfl, rfl⟩
          go_wp2_with fail
          refine (KO.out _).mono ?_
          rintro e w1 ⟨rfl, hb⟩
          clear e0 e1 e2 e3 e4 e5 e6 e7 e8
          have hB1 := W1.out w1 hb
          have e0 : w1.cell? ⟨g, 0, none⟩ = some (.int .i64 a.o) := hB1.cell 0
          have e1 : w1.cell? ⟨g, 1, none⟩ = some (.int .i64 a.c) := hB1.cell 1
          have e2 : w1.cell? ⟨g, 2, none⟩ = some (.int .i64 a.st) := hB1.cell 2
          have e3 : w1.cell? ⟨g, 3, none⟩ = some (.int .i64 a.lv) := hB1.cell 3
          have e4 : w1.cell? ⟨g, 4, none⟩ = some (.int .i64 a.net) := hB1.cell 4
          have e5 : w1.cell? ⟨g, 5, none⟩ = some (.int .i64 a.tax) := hB1.cell 5
          have e6 : w1.cell? ⟨g, 6, none⟩ = some (.int .i64 a.ap) := hB1.cell 6
          have e7 : w1.cell? ⟨g, 7, none⟩ = some (.int .i64 a.wr) := hB1.cell 7
          have e8 : w1.cell? ⟨g, 8, none⟩ = some (.int .i64 a.dep) := hB1.cell 8
          have lg1 := hB1.lt
          have HB1 := hid hb
          clear hB1 hb lg
          go_wp2_with fail
          refine (KO.out _).mono ?_
          rintro e w2 ⟨rfl, hb⟩
          clear e0 e1 e2 e3 e4 e5 e6 e7 e8
          replace HB1 := hid (bthen HB1.out hb)
          have hB2 := W1.out w2 HB1.out
          have e0 : w2.cell? ⟨g, 0, none⟩ = some (.int .i64 a.o) := hB2.cell 0
          have e1 : w2.cell? ⟨g, 1, none⟩ = some (.int .i64 a.c) := hB2.cell 1
          have e2 : w2.cell? ⟨g, 2, none⟩ = some (.int .i64 a.st) := hB2.cell 2
          have e3 : w2.cell? ⟨g, 3, none⟩ = some (.int .i64 a.lv) := hB2.cell 3
          have e4 : w2.cell? ⟨g, 4, none⟩ = some (.int .i64 a.net) := hB2.cell 4
          have e5 : w2.cell? ⟨g, 5, none⟩ = some (.int .i64 a.tax) := hB2.cell 5
          have e6 : w2.cell? ⟨g, 6, none⟩ = some (.int .i64 a.ap) := hB2.cell 6
          have e7 : w2.cell? ⟨g, 7, none⟩ = some (.int .i64 a.wr) := hB2.cell 7
          have e8 : w2.cell? ⟨g, 8, none⟩ = some (.int .i64 a.dep) := hB2.cell 8
          have lg2 := hB2.lt
          clear hB2 hb lg1
          go_wp2_with fail
          refine (KO.out _).mono ?_
          rintro e w3 ⟨rfl, hb⟩
          clear e0 e1 e2 e3 e4 e5 e6 e7 e8
          replace HB1 := hid (bthen HB1.out hb)
          have R := room_any (H.out.bk.next HB1.out) z (by have := HZ0.out; omega) (by have := HZ0.out; omega)
          rw [roomR_zero (by have := HR.out; omega)] at R
          replace R := hid R
          clear hb lg2
          go_wp2_with fail
          refine R.out.mono ?_
          rintro e w4 ⟨rfl, hb⟩
          replace HB1 := hid (bthen HB1.out hb)
          clear R hb
          have hB4 := W1.out w4 HB1.out
          have e7 : w4.cell? ⟨g, 7, none⟩ = some (.int .i64 a.wr) := hB4.cell 7
          have f7 := hB4.free 7
          have lg4 := hB4.lt
          have HB4 := hid hB4
          clear hB4
          go_wp2_with fail
          have hN := wof_next (c := a.c) (d := d) HF.out.1 (by have := HZ.out; rw [← this]; simpa using t1)
          rw [← HZ.out] at hN
          have hB5 : Blk (w4.setCell ⟨g, 7, none⟩ (.int .i64 (a.wr + z))) g 35 (celC (wofB a)) := by unfold wofB; rw [← HZ.out]; exact HB4.out.set_ 7 (.int .i64 (a.wr + z))
          have hT5 := Touch.setCell w4 g 7 (.int .i64 (a.wr + z))
          have h5 := (H.out.bk.next HB1.out).put (o := o) (p := ⟨g, a⟩) (a' := wofB a) HM.out.2 hB5 hT5
          have HT5 := hid ((Touch.of_below (S := fun k => Ch.Own XL BL BA ac k ∨ k = g) HB1.out).then (hT5.mono (fun k hk => .inr hk)))
          have H5 := hid (And.intro h5 hB5)
          have HN := hid hN
          clear hB5 hT5 h5 HB4 lg4 e7 f7 wd hN
          generalize w4.setCell ⟨g, 7, none⟩ (.int .i64 (a.wr + z)) = w5 at H5 HT5 ⊢
          refine (loss_any z w5).mono ?_
          rintro e w6 ⟨A', cap, rfl, hR, hlo, hb6⟩
          rw [moveL_eq ⟨HZ0.out.1, by have := HZ0.out; omega⟩] at hR ⊢
          have h6 := H5.out.1.next hb6
          have K := cpost_any h6 g (wofB a) (H5.out.2.next hb6) (moveE 5 1 z) (moveE_ok ⟨HF.out.1.c1, HF.out.1.c2⟩ ⟨HZ0.out.1, by have := HZ0.out; omega⟩ (by omega) (by omega) (by have := HR.out; omega)) A' cap hR (fun b hb => H5.out.1.not_xb (hlo b hb))
          rw [moveE_debs HZ0.out.1, show (wofB a).c = a.c from rfl] at K
          replace K := hid K
          have H6 := hid h6
          have HT6 := hid (HT5.out.then (.of_below hb6))
          clear hR hlo hb6 h6 H5 HT5
          go_wp2_with fail
          refine K.out.mono ?_
          rintro e w7 ⟨rfl, hL, hT7⟩
          have h7 := H6.out.ledger hL hT7
          have HT7 := hid (HT6.out.then (hT7.mono (fun k hk => (.inl (Ch.xb_own hk) : Ch.Own XL BL BA ac k ∨ k = g))))
          have H7 := hid h7
          clear K H6 HT6 hL hT7 h7
          go_wp2_with fail
          go_ret
          have e : acOf (cfind ac) o a.c = a := acOf_some HM.out.1
          exact ⟨rfl, PostC.put H.out (.inr (.inr (.inr ⟨_, mget_mem HM.out.2, rfl⟩)) |> .inl) (by rw [e]) (by rw [e]; exact HF.out.2.1) (by rw [e]; exact HN.out) (by have := HR.out; have := HZ0.out; omega) H7.out HT7.out⟩

set_option maxRecDepth 100000 in
set_option maxHeartbeats 8000000 in
theorem cmem_any (h : IsC n0 w X XL BL BA ac d) (o : Int) :
    Calls Tryz.prog 11 #[.pointer (some ⟨X, 0, none⟩), .int .i64 o] w fun e w' => e = .returned (.int .i64 (memR (cfind ac) d o).code) ∧ PostC n0 X XL BL BA ac o (memR (cfind ac) d o) w w' := by
  unfold memR
  cases hm : cfind ac o with
  | none =>
    have K := hid (find_none h.bk o (cfind_none.1 hm))
    have H := hid h
    clear h hm
    go_enter Tryz.func11, Tryz.ntmps11
    go_wp2_with fail
    refine K.out.mono ?_
    rintro e w1 ⟨rfl, rfl⟩
    go_wp2_with fail
    go_ret
    exact ⟨rfl, PostC.same H.out (Below.refl _ _)⟩
  | some a =>
    obtain ⟨g, hg⟩ := cfind_some.1 hm
    have K := hid (find_some h.bk o _ hg)
    have hB := h.bk.at_ hg
    have hfit := (h.gd.of o 0 hm).1
    have hao := (h.gd.of o 0 hm).2.1
    have hwt := (h.gd.of o 0 hm).2.2
    simp only at K hB ⊢
    have H := hid h
    have HB := hid hB
    have HM := hid (And.intro hm hg)
    have HF := hid (And.intro hfit (And.intro hao (And.intro hwt h.gd.tot)))
    have lg := hB.lt
    by_cases hs : a.st = 1
    · rw [if_neg (fun e => e hs)]
      have c2 : w.cell? ⟨g, 2, none⟩ = some (.int .i64 1) := by have := hB.cell 2; rw [show (celC a)[2]? = some (.int .i64 a.st) from rfl, hs] at this; exact this
      obtain ⟨C, hCd⟩ : ∃ C : World → Prop, ∀ w', C w' ↔ Below w.heap.size w w' := ⟨_, fun _ => Iff.rfl⟩
      have hC : C w.drew := (hCd _).2 ((Below.refl _ _).drew)
      have q4 : ∀ p : In C, p.w.cell? ⟨g, 4, none⟩ = some (.int .i64 a.net) := fun p => (HB.out.next ((hCd _).1 p.h)).cell 4
      have q5 : ∀ p : In C, p.w.cell? ⟨g, 5, none⟩ = some (.int .i64 a.tax) := fun p => (HB.out.next ((hCd _).1 p.h)).cell 5
      have wnt : IntKind.i64.wrap (a.net + a.tax) = a.net + a.tax := IntWalk.i64_in _ ⟨by have := hfit.n0; have := hfit.t0; omega, by have := hfit.n1; have := hfit.t1; omega⟩
      have HR0 : ∀ p : In C, Calls Tryz.prog 24 #[.pointer (some ⟨X, 0, none⟩), .int .i64 (a.net + a.tax)] p.w fun e w' => e = .returned (.int .i64 (roomR d (a.net + a.tax))) ∧ C w' := fun p => (room_any (H.out.bk.next ((hCd _).1 p.h)) (a.net + a.tax) (by have := hfit.n0; have := hfit.t0; omega) (by have := hfit.n1; have := hfit.t1; omega)).mono fun e w' ⟨h1, h2⟩ => ⟨h1, (hCd _).2 (bthen ((hCd _).1 p.h) h2)⟩
      have HCd := hid hCd
      have HS := hid hs
      clear h hm hg hB hfit hao hwt hCd hs
      by_cases hr : 576460752303423488 - (a.net + a.tax) < d

      · rw [if_pos hr]
        rw [roomR_many hr] at HR0
        clear hr
        go_enter Tryz.func11, Tryz.ntmps11
        go_wp2_with fail
        refine K.out.mono ?_
        rintro e w1 ⟨rfl, rfl⟩
        go_wp2_with fail
        refine wp_region_in C (by kernel_rfl) (by kernel_rfl) hC ?_
        intro hne
        clear hC c2
        repeat (first | go_big_quiet_step (fail) | quiet_step (exact Calls.in_of (HR0 _)))
        refine wpQuiet_nil ?_
        intro w4 hq
        have HB1 := hid ((HCd.out _).1 hq)
        clear q4 q5 HR0 hne hq HCd wnt
        go_wp2_with fail
        go_ret
        exact ⟨rfl, PostC.same H.out HB1.out⟩
      · rw [if_neg hr]
        have HR := hid hr
        rw [roomR_zero (by omega)] at HR0
        clear hr
        go_enter Tryz.func11, Tryz.ntmps11
        go_wp2_with fail
        refine K.out.mono ?_
        rintro e w1 ⟨rfl, rfl⟩
        go_wp2_with fail
        refine wp_region_in C (by kernel_rfl) (by kernel_rfl) hC ?_
        intro hne
        clear hC c2
        repeat (first | go_big_quiet_step (fail) | quiet_step (exact Calls.in_of (HR0 _)))
        refine wpQuiet_nil ?_
        intro w4 hq
        have HB1 := hid ((HCd.out _).1 hq)
        clear q4 q5 HR0 hne hq HCd wnt
        have hB4 := HB.out.next HB1.out
        have h4 := H.out.bk.next HB1.out
        have c1 : w4.cell? ⟨g, 4, none⟩ = some (.int .i64 a.net) ∧ w4.cell? ⟨g, 5, none⟩ = some (.int .i64 a.tax) ∧ w4.cell? ⟨g, 6, none⟩ = some (.int .i64 a.ap) ∧ w4.cell? ⟨g, 7, none⟩ = some (.int .i64 a.wr) := ⟨hB4.cell 4, hB4.cell 5, hB4.cell 6, hB4.cell 7⟩
        have lg4 := hB4.lt
        have HT5 := hid (Touch.of_below (S := fun k => Ch.Own XL BL BA ac k ∨ k = g) HB1.out)
        have H5 := hid (And.intro h4 hB4)
        clear hB4 h4 lg HB1
        go_wp2_with fail
        go_region_held3 (fun w' => w'.cell? ⟨g, 4, none⟩ = some (.int .i64 a.net) ∧ w'.cell? ⟨g, 5, none⟩ = some (.int .i64 a.tax) ∧ w'.cell? ⟨g, 6, none⟩ = some (.int .i64 a.ap) ∧ w'.cell? ⟨g, 7, none⟩ = some (.int .i64 a.wr)) (first | exact c1 | exact c6 | exact c7)
          (first
            | (go_at_call 34; refine (memo_any a.net a.tax a.ap a.wr _).mono ?_; rintro e w6 ⟨A', cap, rfl, hR, hlo, hb6⟩
               have b1 := HF.out.1.n0
               have b2 := HF.out.1.n1
               have b3 := HF.out.1.t0
               have b4 := HF.out.1.t1
               have b5 := HF.out.1.p0
               have b6 := HF.out.1.p1
               have b7 := HF.out.1.w0
               have b8 := HF.out.1.w1
               rw [memoL_eq ⟨b1, by omega⟩ ⟨b3, by omega⟩ ⟨b5, by omega⟩ ⟨b7, by omega⟩] at hR
               rw [memoL_eq ⟨b1, by omega⟩ ⟨b3, by omega⟩ ⟨b5, by omega⟩ ⟨b7, by omega⟩]
               have hb46 : Below w4.heap.size w4 w6 := (below_drewN (Below.refl _ _) _).trans (hb6.mono (by simp))
               have h6 := H5.out.1.next hb46
               have hB6 := H5.out.2.next hb46
               have c6 : w6.cell? ⟨g, 4, none⟩ = some (.int .i64 a.net) ∧ w6.cell? ⟨g, 5, none⟩ = some (.int .i64 a.tax) ∧ w6.cell? ⟨g, 6, none⟩ = some (.int .i64 a.ap) ∧ w6.cell? ⟨g, 7, none⟩ = some (.int .i64 a.wr) := ⟨hB6.cell 4, hB6.cell 5, hB6.cell 6, hB6.cell 7⟩
               have K := cpost_any h6 g a hB6 (memE a.net a.tax a.ap a.wr) (memE_ok ⟨HF.out.1.c1, HF.out.1.c2⟩ ⟨b1, b2⟩ ⟨b3, b4⟩ b5 b7 (by omega) (by have := HR.out; omega)) A' cap hR (fun b hb => H5.out.1.not_xb (hlo b hb))
               rw [memE_debs b1 b3 b5 b7 (by omega)] at K
               replace K := hid K
               have H6 := hid (And.intro h6 hB6)
               have HT6 := hid (HT5.out.then (.of_below hb46))
               clear hR hlo hb6 h6 hB6 hb46 b1 b2 b3 b4 b5 b6 b7 b8)
            | (go_at_call 25; refine K.out.mono ?_; rintro e w7 ⟨rfl, hL, hT7⟩
               have hB7 := (H6.out.1.ledger hL hT7).at_ HM.out.2
               simp only at hB7
               have c7 : w7.cell? ⟨g, 4, none⟩ = some (.int .i64 a.net) ∧ w7.cell? ⟨g, 5, none⟩ = some (.int .i64 a.tax) ∧ w7.cell? ⟨g, 6, none⟩ = some (.int .i64 a.ap) ∧ w7.cell? ⟨g, 7, none⟩ = some (.int .i64 a.wr) := ⟨hB7.cell 4, hB7.cell 5, hB7.cell 6, hB7.cell 7⟩
               have HL := hid (And.intro hL hT7)
               clear hB7 hL hT7))
        obtain ⟨hL, hT7⟩ := HL.out
        have h7 := H6.out.1.ledger hL hT7
        have hb7 : Below w7.heap.size w7 w7.drew := below_drewN (Below.refl _ _) 1
        have h7d := h7.next hb7
        have hB7 := h7d.at_ HM.out.2
        simp only at hB7
        have HT7 := hid ((HT6.out.then (hT7.mono (fun k hk => (.inl (Ch.xb_own hk) : Ch.Own XL BL BA ac k ∨ k = g)))).then (.of_below hb7))
        obtain ⟨w8, hw8⟩ : ∃ w8, w8 = w7.drew := ⟨_, rfl⟩
        rw [← hw8] at h7d hB7 HT7
        obtain ⟨C, hCd⟩ : ∃ C : World → Prop, ∀ w', C w' ↔ w' = w8 := ⟨_, fun _ => Iff.rfl⟩
        have hC : C w7.drew := (hCd _).2 hw8.symm
        have q6 : ∀ p : In C, p.w.cell? ⟨g, 6, none⟩ = some (.int .i64 a.ap) := fun p => by rw [(hCd _).1 p.h]; exact hB7.cell 6
        have q8 : ∀ p : In C, p.w.cell? ⟨g, 8, none⟩ = some (.int .i64 a.dep) := fun p => by rw [(hCd _).1 p.h]; exact hB7.cell 8
        have wda : IntKind.i64.wrap (a.dep + a.ap) = a.dep + a.ap := IntWalk.i64_in _ ⟨by have := HF.out.1.d0; have := HF.out.1.p0; omega, by have := HF.out.1.d1; have := HF.out.1.p1; have := HF.out.1.n1; have := HF.out.1.t1; omega⟩
        have HCd := hid hCd
        have H8 := hid (And.intro h7d hB7)
        have f8 := hB7.free 8
        have f2 := hB7.free 2
        have f6 := hB7.free 6
        have f7 := hB7.free 7
        have e8 : w8.cell? ⟨g, 8, none⟩ = some (.int .i64 a.dep) := hB7.cell 8
        have e2 : w8.cell? ⟨g, 2, none⟩ = some (.int .i64 a.st) := hB7.cell 2
        have e6 : w8.cell? ⟨g, 6, none⟩ = some (.int .i64 a.ap) := hB7.cell 6
        have e7 : w8.cell? ⟨g, 7, none⟩ = some (.int .i64 a.wr) := hB7.cell 7
        have lg := hB7.lt
        clear K H6 HT6 hL hT7 h7 h7d hB7 hb7 hw8 hCd HL c1 c6 c7 lg4 H5 HT5
        go_wp2_with fail
        refine wp_region_in_tail C 11 (by kernel_rfl) (by kernel_rfl) hC ?_
        intro hne
        clear hC
        refine wpIn_quiet ?_
        simp only [List.take_succ_cons, List.take_zero, List.drop_succ_cons, List.drop_zero]
        repeat (first | go_big_quiet_step (fail) | quiet_step (fail))
        refine wpQuiet_nil ?_
        intro wp hwp
        obtain rfl := (HCd.out _).1 hwp
        clear q6 q8 hne hwp HCd
        go_wp2_with fail
        have hN := mem_next (c := a.c) (d := d) HF.out.1 HS.out (by have := HF.out.1.n0; have := HF.out.1.t0; have := HF.out.1.w0; have h1 := HF.out.2.2.1; have h2 := HF.out.2.2.2; have := HR.out; unfold wt at h1; rw [if_pos HS.out] at h1; omega)
        have hB9 : Blk ((((wp.setCell ⟨g, 8, none⟩ (.int .i64 (a.dep + a.ap))).setCell ⟨g, 2, none⟩ (.int .i64 2)).setCell ⟨g, 6, none⟩ (.int .i64 0)).setCell ⟨g, 7, none⟩ (.int .i64 0)) g 35 (celC (memB a)) := (((H8.out.2.set_ 8 (.int .i64 (a.dep + a.ap))).set_ 2 (.int .i64 2)).set_ 6 (.int .i64 0)).set_ 7 (.int .i64 0)
        have hT9 := (((Touch.setCell wp g 8 (.int .i64 (a.dep + a.ap))).then (Touch.setCell _ g 2 (.int .i64 2))).then (Touch.setCell _ g 6 (.int .i64 0))).then (Touch.setCell _ g 7 (.int .i64 0))
        have h9 := H8.out.1.put (o := o) (p := ⟨g, a⟩) (a' := memB a) HM.out.2 hB9 hT9
        go_ret
        have e : acOf (cfind ac) o a.c = a := acOf_some HM.out.1
        exact ⟨rfl, PostC.put H.out (.inr (.inr (.inr ⟨_, mget_mem HM.out.2, rfl⟩)) |> .inl) (by rw [e]) (by rw [e]; exact HF.out.2.1) (by rw [e]; exact hN) (by have := HR.out; have := HF.out.1.n0; have := HF.out.1.t0; omega) h9 (HT7.out.then (hT9.mono (fun k hk => .inr hk)))⟩
    · rw [if_pos (fun e => hs e)]
      have c2 : w.cell? ⟨g, 2, none⟩ = some (.int .i64 a.st) := hB.cell 2
      have t1 : (a.st != 1) = true := by simpa using hs
      clear h hm hg hB hfit hao hwt hs
      go_enter Tryz.func11, Tryz.ntmps11
      go_wp2_with fail
      refine K.out.mono ?_
      rintro e w1 ⟨rfl, rfl⟩
      go_wp2_with fail
      go_ret
      exact ⟨rfl, PostC.same H.out (Below.refl _ _)⟩

end

end Go.Proofs.YthdmbbfppgenlaaGreat
