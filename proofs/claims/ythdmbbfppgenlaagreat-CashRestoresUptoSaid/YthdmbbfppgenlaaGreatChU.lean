/-
  The book of money: Refund, Dun, Get, Balance.
-/
import Derived.Test.YthdmbbfppgenlaaGreatChT
import Derived.Test.YthdmbbfppgenlaaGreatLedSums
namespace Go.Proofs.YthdmbbfppgenlaaGreat
open Go.RowKit Go.WideShapes Go.ChangeShapes Go.ChangeAt Go.Deep
set_option linter.unusedVariables false

section
variable {n0 : Nat} {w w' : World} {X XL BL BA : Nat} {ac : List (Int × CP)} {f f' : Fn} {d d' : Int}
def aggC (a : Ca) : Value := .agg (celC a)
def intC (v : Value) : Nat := match v with | .int _ n => n.toNat | _ => 0
set_option maxRecDepth 100000 in
set_option maxHeartbeats 8000000 in
theorem cget_any (h : IsC n0 w X XL BL BA ac d) (o : Int) :
    Calls Tryz.prog 8 #[.pointer (some ⟨X, 0, none⟩), .int .i64 o] w fun e w' => e = .returned (.tuple #[aggC ((cfind ac o).getD ⟨0, 0, 0, 0, 0, 0, 0, 0, 0⟩), .bool (cfind ac o).isSome]) ∧ Below w.heap.size w w' := by
  have hwb : Below w.heap.size w (w.alloc (.cells (celC ⟨0, 0, 0, 0, 0, 0, 0, 0, 0⟩) 35)) := (Below.refl _ _).alloc (Nat.le_refl _) _
  have hGB := Blk.new w 35 (celC ⟨0, 0, 0, 0, 0, 0, 0, 0, 0⟩)
  have h1 := h.next hwb
  obtain ⟨W0, hW0⟩ : ∃ W0, W0 = w.alloc (.cells (celC ⟨0, 0, 0, 0, 0, 0, 0, 0, 0⟩) 35) := ⟨_, rfl⟩
  obtain ⟨G, hG⟩ : ∃ G, G = w.heap.size := ⟨_, rfl⟩
  rw [← hW0] at hwb hGB h1
  rw [← hG] at hGB
  have HLO := hid (Nat.le_of_eq hG.symm)
  have HB := hid hwb
  simp only [celC] at hGB hW0
  have HW0 := hid hW0
  have HGG := hid hG
  have HG := hid hGB
  cases hm : cfind ac o with
  | none =>
    have K := hid (find_none h1.bk o (cfind_none.1 hm))
    clear h h1 hm hwb hGB hW0 hG
    simp only [aggC, celC, Option.getD_none, Option.isSome_none]
    go_enter Tryz.func8, Tryz.ntmps8
    go_wp2_with fail
    rw [← HW0.out, ← HGG.out]
    refine K.out.mono ?_
    rintro e w1 ⟨rfl, rfl⟩
    go_wp2_with (first | (refine wpList_store_row rfl 35 _ _ rfl G #[.int .i64 0, .int .i64 0, .int .i64 0, .int .i64 0, .int .i64 0, .int .i64 0, .int .i64 0, .int .i64 0, .int .i64 0] rfl rfl 35 _ HG.out (by kernel_rfl) (by rfl) (by simp [Value.oneCell']) ?_))
    have hB2 := HG.out.setRow #[.int .i64 0, .int .i64 0, .int .i64 0, .int .i64 0, .int .i64 0, .int .i64 0, .int .i64 0, .int .i64 0, .int .i64 0]
    have hT2 := Touch.setRow W0 G #[.int .i64 0, .int .i64 0, .int .i64 0, .int .i64 0, .int .i64 0, .int .i64 0, .int .i64 0, .int .i64 0, .int .i64 0]
    have HD := hid (HB.out.trans (hT2.below HB.out.size (fun k hk => by rw [hk]; exact HLO.out)))
    generalize W0.setRow G #[.int .i64 0, .int .i64 0, .int .i64 0, .int .i64 0, .int .i64 0, .int .i64 0, .int .i64 0, .int .i64 0, .int .i64 0] = wf at hB2 HD ⊢
    have e0 : wf.cell? ⟨G, 0, none⟩ = some (.int .i64 0) := hB2.cell 0
    have e1 : wf.cell? ⟨G, 1, none⟩ = some (.int .i64 0) := hB2.cell 1
    have e2 : wf.cell? ⟨G, 2, none⟩ = some (.int .i64 0) := hB2.cell 2
    have e3 : wf.cell? ⟨G, 3, none⟩ = some (.int .i64 0) := hB2.cell 3
    have e4 : wf.cell? ⟨G, 4, none⟩ = some (.int .i64 0) := hB2.cell 4
    have e5 : wf.cell? ⟨G, 5, none⟩ = some (.int .i64 0) := hB2.cell 5
    have e6 : wf.cell? ⟨G, 6, none⟩ = some (.int .i64 0) := hB2.cell 6
    have e7 : wf.cell? ⟨G, 7, none⟩ = some (.int .i64 0) := hB2.cell 7
    have e8 : wf.cell? ⟨G, 8, none⟩ = some (.int .i64 0) := hB2.cell 8
    refine bodyPost_ret (v := .tuple #[.agg #[.int .i64 0, .int .i64 0, .int .i64 0, .int .i64 0, .int .i64 0, .int .i64 0, .int .i64 0, .int .i64 0, .int .i64 0], .bool false]) (by simp [results, Tryz.results8, go_sem, e0, e1, e2, e3, e4, e5, e6, e7, e8]) rfl ⟨rfl, HD.out⟩
  | some a =>
    obtain ⟨g, hg⟩ := cfind_some.1 hm
    have K := hid (find_some h1.bk o _ hg)
    have hB := h1.bk.at_ hg
    simp only at K hB ⊢
    have lg := hB.lt
    have e0 : W0.cell? ⟨g, 0, none⟩ = some (.int .i64 a.o) := hB.cell 0
    have e1 : W0.cell? ⟨g, 1, none⟩ = some (.int .i64 a.c) := hB.cell 1
    have e2 : W0.cell? ⟨g, 2, none⟩ = some (.int .i64 a.st) := hB.cell 2
    have e3 : W0.cell? ⟨g, 3, none⟩ = some (.int .i64 a.lv) := hB.cell 3
    have e4 : W0.cell? ⟨g, 4, none⟩ = some (.int .i64 a.net) := hB.cell 4
    have e5 : W0.cell? ⟨g, 5, none⟩ = some (.int .i64 a.tax) := hB.cell 5
    have e6 : W0.cell? ⟨g, 6, none⟩ = some (.int .i64 a.ap) := hB.cell 6
    have e7 : W0.cell? ⟨g, 7, none⟩ = some (.int .i64 a.wr) := hB.cell 7
    have e8 : W0.cell? ⟨g, 8, none⟩ = some (.int .i64 a.dep) := hB.cell 8
    clear h h1 hm hwb hGB hW0 hG hg hB
    simp only [aggC, celC, Option.getD_some, Option.isSome_some]
    go_enter Tryz.func8, Tryz.ntmps8
    go_wp2_with fail
    rw [← HW0.out, ← HGG.out]
    refine K.out.mono ?_
    rintro e w1 ⟨rfl, rfl⟩
    go_wp2_with (first | (refine wpList_store_row rfl 35 _ _ rfl G #[.int .i64 a.o, .int .i64 a.c, .int .i64 a.st, .int .i64 a.lv, .int .i64 a.net, .int .i64 a.tax, .int .i64 a.ap, .int .i64 a.wr, .int .i64 a.dep] rfl rfl 35 _ HG.out (by kernel_rfl) (by rfl) (by simp [Value.oneCell']) ?_))
    clear e0 e1 e2 e3 e4 e5 e6 e7 e8 lg
    have hB2 := HG.out.setRow #[.int .i64 a.o, .int .i64 a.c, .int .i64 a.st, .int .i64 a.lv, .int .i64 a.net, .int .i64 a.tax, .int .i64 a.ap, .int .i64 a.wr, .int .i64 a.dep]
    have hT2 := Touch.setRow W0 G #[.int .i64 a.o, .int .i64 a.c, .int .i64 a.st, .int .i64 a.lv, .int .i64 a.net, .int .i64 a.tax, .int .i64 a.ap, .int .i64 a.wr, .int .i64 a.dep]
    have HD := hid (HB.out.trans (hT2.below HB.out.size (fun k hk => by rw [hk]; exact HLO.out)))
    generalize W0.setRow G #[.int .i64 a.o, .int .i64 a.c, .int .i64 a.st, .int .i64 a.lv, .int .i64 a.net, .int .i64 a.tax, .int .i64 a.ap, .int .i64 a.wr, .int .i64 a.dep] = wf at hB2 HD ⊢
    have e0 : wf.cell? ⟨G, 0, none⟩ = some (.int .i64 a.o) := hB2.cell 0
    have e1 : wf.cell? ⟨G, 1, none⟩ = some (.int .i64 a.c) := hB2.cell 1
    have e2 : wf.cell? ⟨G, 2, none⟩ = some (.int .i64 a.st) := hB2.cell 2
    have e3 : wf.cell? ⟨G, 3, none⟩ = some (.int .i64 a.lv) := hB2.cell 3
    have e4 : wf.cell? ⟨G, 4, none⟩ = some (.int .i64 a.net) := hB2.cell 4
    have e5 : wf.cell? ⟨G, 5, none⟩ = some (.int .i64 a.tax) := hB2.cell 5
    have e6 : wf.cell? ⟨G, 6, none⟩ = some (.int .i64 a.ap) := hB2.cell 6
    have e7 : wf.cell? ⟨G, 7, none⟩ = some (.int .i64 a.wr) := hB2.cell 7
    have e8 : wf.cell? ⟨G, 8, none⟩ = some (.int .i64 a.dep) := hB2.cell 8
    refine bodyPost_ret (v := .tuple #[.agg #[.int .i64 a.o, .int .i64 a.c, .int .i64 a.st, .int .i64 a.lv, .int .i64 a.net, .int .i64 a.tax, .int .i64 a.ap, .int .i64 a.wr, .int .i64 a.dep], .bool true]) (by simp [results, Tryz.results8, go_sem, e0, e1, e2, e3, e4, e5, e6, e7, e8]) rfl ⟨rfl, HD.out⟩

theorem cbal_all (hS : SortsL) (h : IsC n0 w X XL BL BA ac d) (k : Int) :
    Calls Tryz.prog 14 #[.pointer (some ⟨X, 0, none⟩), .int .i64 0, .int .i64 k] w fun e w' => e = .returned (.int .i64 (balF (ledC ac) k)) ∧ Below w.heap.size w w' := by
  have K := hid (lbal_any hS k w h.bk.led)
  have cL := h.bk.cellL
  clear h
  go_enter Tryz.func14, Tryz.ntmps14
  go_wp2_with fail
  refine K.out.mono ?_
  rintro e w1 ⟨rfl, hb⟩
  go_wp2_with fail
  go_ret
  exact ⟨rfl, hb⟩
theorem cbal_of (h : IsC n0 w X XL BL BA ac d) (c k : Int) (hc : c ≠ 0) :
    Calls Tryz.prog 14 #[.pointer (some ⟨X, 0, none⟩), .int .i64 c, .int .i64 k] w fun e w' => e = .returned (.int .i64 (ledC ac (c, k))) ∧ Below w.heap.size w w' := by
  have K := hid (lof_any c k w h.bk.led)
  have cL := h.bk.cellL
  have t1 : (c == 0) = false := by simpa using hc
  clear h hc
  go_enter Tryz.func14, Tryz.ntmps14
  go_wp2_with fail
  refine K.out.mono ?_
  rintro e w1 ⟨rfl, hb⟩
  go_wp2_with fail
  go_ret
  exact ⟨rfl, hb⟩


set_option maxRecDepth 100000 in
set_option maxHeartbeats 8000000 in
theorem cdun_any (h : IsC n0 w X XL BL BA ac d) (o : Int) :
    Calls Tryz.prog 7 #[.pointer (some ⟨X, 0, none⟩), .int .i64 o] w fun e w' => e = .returned (.tuple #[.int .i64 (dunR (cfind ac) o).1, .bool (dunR (cfind ac) o).2.1]) ∧ PostC n0 X XL BL BA ac o ⟨false, 0, (dunR (cfind ac) o).2.2, d⟩ w w' := by
  unfold dunR
  cases hm : cfind ac o with
  | none =>
    have K := hid (find_none h.bk o (cfind_none.1 hm))
    have H := hid h
    clear h hm
    go_enter Tryz.func7, Tryz.ntmps7
    go_wp2_with fail
    refine K.out.mono ?_
    rintro e w1 ⟨rfl, rfl⟩
    go_wp2_with fail
    go_ret2
    exact ⟨rfl, PostC.same (e := 0) H.out (Below.refl _ _)⟩
  | some a =>
    obtain ⟨g, hg⟩ := cfind_some.1 hm
    have K := hid (find_some h.bk o _ hg)
    have hB := h.bk.at_ hg
    have hfit := (h.gd.of o 0 hm).1
    have hao := (h.gd.of o 0 hm).2.1
    have hwt := (h.gd.of o 0 hm).2.2
    simp only at K hB ⊢
    have hz0 := hfit.open0
    have KO := hid (fun w => open_any a w hfit.small)
    simp only [celC] at KO
    have H := hid h
    have HB := hid hB
    have HM := hid (And.intro hm hg)
    have HF := hid (And.intro hfit (And.intro hao hwt))
    obtain ⟨z, hz⟩ : ∃ z, z = openC a := ⟨_, rfl⟩
    rw [← hz] at KO hz0
    have HZ := hid hz
    have lg := hB.lt
    have e0 : w.cell? ⟨g, 0, none⟩ = some (.int .i64 a.o) := hB.cell 0
    have e1 : w.cell? ⟨g, 1, none⟩ = some (.int .i64 a.c) := hB.cell 1
    have e2 : w.cell? ⟨g, 2, none⟩ = some (.int .i64 a.st) := hB.cell 2
    have e3 : w.cell? ⟨g, 3, none⟩ = some (.int .i64 a.lv) := hB.cell 3
    have e4 : w.cell? ⟨g, 4, none⟩ = some (.int .i64 a.net) := hB.cell 4
    have e5 : w.cell? ⟨g, 5, none⟩ = some (.int .i64 a.tax) := hB.cell 5
    have e6 : w.cell? ⟨g, 6, none⟩ = some (.int .i64 a.ap) := hB.cell 6
    have e7 : w.cell? ⟨g, 7, none⟩ = some (.int .i64 a.wr) := hB.cell 7
    have e8 : w.cell? ⟨g, 8, none⟩ = some (.int .i64 a.dep) := hB.cell 8
    clear h hm hg hB hfit hao hwt hz
    rw [← HZ.out]
    by_cases hz1 : 0 < z
    · have t1 : decide (0 < z) = true := decide_eq_true hz1
      by_cases hl : a.lv < 3
      · have t2 : decide (a.lv < 3) = true := decide_eq_true hl
        obtain ⟨b, hb0⟩ : ∃ b : Ca, b = { a with lv := a.lv + 1 } := ⟨_, rfl⟩
        have hdb : dunB a = b := by rw [hb0]; unfold dunB; rw [← HZ.out, if_pos ⟨hz1, hl⟩]
        rw [hdb, t1]
        have KOB : Hid (∀ w : World, Calls Tryz.prog 31 #[.agg #[.int .i64 b.o, .int .i64 b.c, .int .i64 b.st, .int .i64 b.lv, .int .i64 b.net, .int .i64 b.tax, .int .i64 b.ap, .int .i64 b.wr, .int .i64 b.dep]] w fun e w' => e = .returned (.int .i64 z) ∧ Below w.heap.size w w') := hid (fun w => by
          have h1 := open_any b w (by rw [hb0]; exact ⟨HF.out.1.small.n, HF.out.1.small.t, HF.out.1.small.p, HF.out.1.small.w⟩)
          rw [show openC b = z from by rw [hb0, HZ.out]; rfl] at h1
          exact h1)
        have wl : IntKind.i64.wrap (a.lv + 1) = a.lv + 1 := IntWalk.i64_in _ ⟨by have := HF.out.1.l0; omega, by omega⟩
        have W1 : Hid (∀ w1 : World, Below w.heap.size w w1 → Blk w1 g 35 (celC a)) := hid (fun w1 hb => HB.out.next hb)
        have HBB := hid hb0
        have HDB := hid hdb
        clear hz0 hz1 hl hb0 hdb
        go_enter Tryz.func7, Tryz.ntmps7
        go_wp2_with fail
        refine K.out.mono ?_
        rintro e w1 ⟨rfl, rfl⟩
        go_wp2_with fail
        refine (KO.out _).mono ?_
        rintro e w1 ⟨rfl, hb⟩
        clear e0 e1 e2 e3 e4 e5 e6 e7 e8
        have hB1 := W1.out w1 hb
        have e3 : w1.cell? ⟨g, 3, none⟩ = some (.int .i64 a.lv) := hB1.cell 3
        have f3 := hB1.free 3
        have lg1 := hB1.lt
        have HB1 := hid (And.intro hb hB1)
        clear hB1 hb lg
        go_wp2_with fail
        have hB5 : Blk (w1.setCell ⟨g, 3, none⟩ (.int .i64 (a.lv + 1))) g 35 (celC b) := by rw [HBB.out]; exact HB1.out.2.set_ 3 (.int .i64 (a.lv + 1))
        have hT5 := Touch.setCell w1 g 3 (.int .i64 (a.lv + 1))
        have h5 := (H.out.bk.next HB1.out.1).put (o := o) (p := ⟨g, a⟩) (a' := b) HM.out.2 hB5 hT5
        have HT5 := hid ((Touch.of_below (S := fun k => Ch.Own XL BL BA ac k ∨ k = g) HB1.out.1).then (hT5.mono (fun k hk => .inr hk)))
        have H5 := hid h5
        have HB5 := hid hB5
        have lg5 := hB5.lt
        clear hB5 hT5 h5 HB1 lg1 e3 f3 wl
        generalize w1.setCell ⟨g, 3, none⟩ (.int .i64 (a.lv + 1)) = w5 at H5 HB5 HT5 lg5 ⊢
        obtain ⟨C, hCd⟩ : ∃ C : World → Prop, ∀ w', C w' ↔ Below w5.heap.size w5 w' := ⟨_, fun _ => Iff.rfl⟩
        have hC : C w5.drew := (hCd _).2 ((Below.refl _ _).drew)
        have q0 : ∀ p : In C, p.w.cell? ⟨g, 0, none⟩ = some (.int .i64 b.o) := fun p => (HB5.out.next ((hCd _).1 p.h)).cell 0
        have q1 : ∀ p : In C, p.w.cell? ⟨g, 1, none⟩ = some (.int .i64 b.c) := fun p => (HB5.out.next ((hCd _).1 p.h)).cell 1
        have q2 : ∀ p : In C, p.w.cell? ⟨g, 2, none⟩ = some (.int .i64 b.st) := fun p => (HB5.out.next ((hCd _).1 p.h)).cell 2
        have q3 : ∀ p : In C, p.w.cell? ⟨g, 3, none⟩ = some (.int .i64 b.lv) := fun p => (HB5.out.next ((hCd _).1 p.h)).cell 3
        have q4 : ∀ p : In C, p.w.cell? ⟨g, 4, none⟩ = some (.int .i64 b.net) := fun p => (HB5.out.next ((hCd _).1 p.h)).cell 4
        have q5 : ∀ p : In C, p.w.cell? ⟨g, 5, none⟩ = some (.int .i64 b.tax) := fun p => (HB5.out.next ((hCd _).1 p.h)).cell 5
        have q6 : ∀ p : In C, p.w.cell? ⟨g, 6, none⟩ = some (.int .i64 b.ap) := fun p => (HB5.out.next ((hCd _).1 p.h)).cell 6
        have q7 : ∀ p : In C, p.w.cell? ⟨g, 7, none⟩ = some (.int .i64 b.wr) := fun p => (HB5.out.next ((hCd _).1 p.h)).cell 7
        have q8 : ∀ p : In C, p.w.cell? ⟨g, 8, none⟩ = some (.int .i64 b.dep) := fun p => (HB5.out.next ((hCd _).1 p.h)).cell 8
        have KO5 : ∀ p : In C, Calls Tryz.prog 31 #[.agg #[.int .i64 b.o, .int .i64 b.c, .int .i64 b.st, .int .i64 b.lv, .int .i64 b.net, .int .i64 b.tax, .int .i64 b.ap, .int .i64 b.wr, .int .i64 b.dep]] p.w fun e w' => e = .returned (.int .i64 z) ∧ C w' := fun p => (KOB.out p.w).mono fun e w' ⟨h1, h2⟩ => ⟨h1, (hCd _).2 (bthen ((hCd _).1 p.h) h2)⟩
        have HCd := hid hCd
        clear hCd
        clear t2
        by_cases hl2 : b.lv < 3
        · have t3 : decide (b.lv < 3) = true := decide_eq_true hl2
          clear hl2
          go_wp2_with fail
          refine wp_region_in C (by kernel_rfl) (by kernel_rfl) hC ?_
          intro hne
          clear hC
          repeat (first | go_big_quiet_step (fail) | quiet_step (exact Calls.in_of (KO5 _)))
          refine wpQuiet_nil ?_
          intro wq hq
          have hb9 := (HCd.out _).1 hq
          clear q0 q1 q2 q3 q4 q5 q6 q7 q8 KO5 hne hq HCd
          go_wp2_with fail
          go_ret2
          have e : acOf (cfind ac) o a.c = a := acOf_some HM.out.1
          have hN := dun_next (c := a.c) (d := d) HF.out.1
          rw [HDB.out] at hN
          exact ⟨by rw [t3]; rfl, PostC.put (es := []) (c := a.c) H.out (.inr (.inr (.inr ⟨_, mget_mem HM.out.2, rfl⟩)) |> .inl) (by rw [e]) (by rw [e]; exact HF.out.2.1) (by rw [e]; exact hN) H.out.gd.d1 (H5.out.next hb9) (HT5.out.then (.of_below hb9))⟩
        · have t3 : decide (b.lv < 3) = false := decide_eq_false hl2
          clear hl2
          go_wp2_with fail
          refine wp_region_in C (by kernel_rfl) (by kernel_rfl) hC ?_
          intro hne
          clear hC
          repeat (first | go_big_quiet_step (fail) | quiet_step (exact Calls.in_of (KO5 _)))
          refine wpQuiet_nil ?_
          intro wq hq
          have hb9 := (HCd.out _).1 hq
          clear q0 q1 q2 q3 q4 q5 q6 q7 q8 KO5 hne hq HCd
          go_wp2_with fail
          go_ret2
          have e : acOf (cfind ac) o a.c = a := acOf_some HM.out.1
          have hN := dun_next (c := a.c) (d := d) HF.out.1
          rw [HDB.out] at hN
          exact ⟨by rw [t3]; rfl, PostC.put (es := []) (c := a.c) H.out (.inr (.inr (.inr ⟨_, mget_mem HM.out.2, rfl⟩)) |> .inl) (by rw [e]) (by rw [e]; exact HF.out.2.1) (by rw [e]; exact hN) H.out.gd.d1 (H5.out.next hb9) (HT5.out.then (.of_below hb9))⟩
      · have t2 : decide (a.lv < 3) = false := decide_eq_false hl
        have hdb : dunB a = a := by unfold dunB; rw [if_neg (fun e => hl e.2)]
        rw [hdb, t1, t2]
        have HDB := hid hdb
        clear hz0 hz1 hl hdb
        go_enter Tryz.func7, Tryz.ntmps7
        go_wp2_with fail
        refine K.out.mono ?_
        rintro e w1 ⟨rfl, rfl⟩
        go_wp2_with fail
        refine (KO.out _).mono ?_
        rintro e w1 ⟨rfl, hb⟩
        clear e0 e1 e2 e3 e4 e5 e6 e7 e8
        have hB1 := HB.out.next hb
        have e3 : w1.cell? ⟨g, 3, none⟩ = some (.int .i64 a.lv) := hB1.cell 3
        have lg1 := hB1.lt
        have HB5 := hid hB1
        have HB1 := hid hb
        have KOB := KO
        clear hB1 hb lg
        obtain ⟨C, hCd⟩ : ∃ C : World → Prop, ∀ w', C w' ↔ Below w1.heap.size w1 w' := ⟨_, fun _ => Iff.rfl⟩
        have hC : C w1.drew := (hCd _).2 ((Below.refl _ _).drew)
        have q0 : ∀ p : In C, p.w.cell? ⟨g, 0, none⟩ = some (.int .i64 a.o) := fun p => (HB5.out.next ((hCd _).1 p.h)).cell 0
        have q1 : ∀ p : In C, p.w.cell? ⟨g, 1, none⟩ = some (.int .i64 a.c) := fun p => (HB5.out.next ((hCd _).1 p.h)).cell 1
        have q2 : ∀ p : In C, p.w.cell? ⟨g, 2, none⟩ = some (.int .i64 a.st) := fun p => (HB5.out.next ((hCd _).1 p.h)).cell 2
        have q3 : ∀ p : In C, p.w.cell? ⟨g, 3, none⟩ = some (.int .i64 a.lv) := fun p => (HB5.out.next ((hCd _).1 p.h)).cell 3
        have q4 : ∀ p : In C, p.w.cell? ⟨g, 4, none⟩ = some (.int .i64 a.net) := fun p => (HB5.out.next ((hCd _).1 p.h)).cell 4
        have q5 : ∀ p : In C, p.w.cell? ⟨g, 5, none⟩ = some (.int .i64 a.tax) := fun p => (HB5.out.next ((hCd _).1 p.h)).cell 5
        have q6 : ∀ p : In C, p.w.cell? ⟨g, 6, none⟩ = some (.int .i64 a.ap) := fun p => (HB5.out.next ((hCd _).1 p.h)).cell 6
        have q7 : ∀ p : In C, p.w.cell? ⟨g, 7, none⟩ = some (.int .i64 a.wr) := fun p => (HB5.out.next ((hCd _).1 p.h)).cell 7
        have q8 : ∀ p : In C, p.w.cell? ⟨g, 8, none⟩ = some (.int .i64 a.dep) := fun p => (HB5.out.next ((hCd _).1 p.h)).cell 8
        have KO5 : ∀ p : In C, Calls Tryz.prog 31 #[.agg #[.int .i64 a.o, .int .i64 a.c, .int .i64 a.st, .int .i64 a.lv, .int .i64 a.net, .int .i64 a.tax, .int .i64 a.ap, .int .i64 a.wr, .int .i64 a.dep]] p.w fun e w' => e = .returned (.int .i64 z) ∧ C w' := fun p => (KOB.out p.w).mono fun e w' ⟨h1, h2⟩ => ⟨h1, (hCd _).2 (bthen ((hCd _).1 p.h) h2)⟩
        have HCd := hid hCd
        clear hCd
        go_wp2_with fail
        refine wp_region_in C (by kernel_rfl) (by kernel_rfl) hC ?_
        intro hne
        clear hC
        repeat (first | go_big_quiet_step (fail) | quiet_step (exact Calls.in_of (KO5 _)))
        refine wpQuiet_nil ?_
        intro wq hq
        have hb9 := (HCd.out _).1 hq
        clear q0 q1 q2 q3 q4 q5 q6 q7 q8 KO5 hne hq HCd
        go_wp2_with fail
        go_ret2
        have e : acOf (cfind ac) o a.c = a := acOf_some HM.out.1
        have hN := dun_next (c := a.c) (d := d) HF.out.1
        rw [HDB.out] at hN
        have hset : mset ac o ⟨g, a⟩ = ac := by
          have := mset_map_same (fun p : CP => p) HM.out.2 H.out.bk.acs.nodup rfl
          simpa using this
        exact ⟨rfl, PostC.put (w' := wq) H.out (.inr (.inr (.inr ⟨_, mget_mem HM.out.2, rfl⟩)) |> .inl) (by rw [e]) (by rw [e]; exact HF.out.2.1) (by rw [e]; exact hN) H.out.gd.d1 (by rw [hset]; exact H.out.bk.next (bthen HB1.out hb9)) (.of_below (bthen HB1.out hb9))⟩
    · have t1 : decide (0 < z) = false := decide_eq_false hz1
      have hdb : dunB a = a := by unfold dunB; rw [← HZ.out, if_neg (fun e => hz1 e.1)]
      rw [hdb, t1, Bool.false_and]
      have HDB := hid hdb
      clear hz0 hz1 hdb
      go_enter Tryz.func7, Tryz.ntmps7
      go_wp2_with fail
      refine K.out.mono ?_
      rintro e w1 ⟨rfl, rfl⟩
      go_wp2_with fail
      refine (KO.out _).mono ?_
      rintro e w1 ⟨rfl, hb⟩
      clear e0 e1 e2 e3 e4 e5 e6 e7 e8
      have hB1 := HB.out.next hb
      have e3 : w1.cell? ⟨g, 3, none⟩ = some (.int .i64 a.lv) := hB1.cell 3
      have lg1 := hB1.lt
      have HB5 := hid hB1
      have HB1 := hid hb
      have KOB := KO
      clear hB1 hb lg
      obtain ⟨C, hCd⟩ : ∃ C : World → Prop, ∀ w', C w' ↔ Below w1.heap.size w1 w' := ⟨_, fun _ => Iff.rfl⟩
      have hC : C w1.drew := (hCd _).2 ((Below.refl _ _).drew)
      have q0 : ∀ p : In C, p.w.cell? ⟨g, 0, none⟩ = some (.int .i64 a.o) := fun p => (HB5.out.next ((hCd _).1 p.h)).cell 0
      have q1 : ∀ p : In C, p.w.cell? ⟨g, 1, none⟩ = some (.int .i64 a.c) := fun p => (HB5.out.next ((hCd _).1 p.h)).cell 1
      have q2 : ∀ p : In C, p.w.cell? ⟨g, 2, none⟩ = some (.int .i64 a.st) := fun p => (HB5.out.next ((hCd _).1 p.h)).cell 2
      have q3 : ∀ p : In C, p.w.cell? ⟨g, 3, none⟩ = some (.int .i64 a.lv) := fun p => (HB5.out.next ((hCd _).1 p.h)).cell 3
      have q4 : ∀ p : In C, p.w.cell? ⟨g, 4, none⟩ = some (.int .i64 a.net) := fun p => (HB5.out.next ((hCd _).1 p.h)).cell 4
      have q5 : ∀ p : In C, p.w.cell? ⟨g, 5, none⟩ = some (.int .i64 a.tax) := fun p => (HB5.out.next ((hCd _).1 p.h)).cell 5
      have q6 : ∀ p : In C, p.w.cell? ⟨g, 6, none⟩ = some (.int .i64 a.ap) := fun p => (HB5.out.next ((hCd _).1 p.h)).cell 6
      have q7 : ∀ p : In C, p.w.cell? ⟨g, 7, none⟩ = some (.int .i64 a.wr) := fun p => (HB5.out.next ((hCd _).1 p.h)).cell 7
      have q8 : ∀ p : In C, p.w.cell? ⟨g, 8, none⟩ = some (.int .i64 a.dep) := fun p => (HB5.out.next ((hCd _).1 p.h)).cell 8
      have KO5 : ∀ p : In C, Calls Tryz.prog 31 #[.agg #[.int .i64 a.o, .int .i64 a.c, .int .i64 a.st, .int .i64 a.lv, .int .i64 a.net, .int .i64 a.tax, .int .i64 a.ap, .int .i64 a.wr, .int .i64 a.dep]] p.w fun e w' => e = .returned (.int .i64 z) ∧ C w' := fun p => (KOB.out p.w).mono fun e w' ⟨h1, h2⟩ => ⟨h1, (hCd _).2 (bthen ((hCd _).1 p.h) h2)⟩
      have HCd := hid hCd
      clear hCd
      go_wp2_with fail
      refine wp_region_in C (by kernel_rfl) (by kernel_rfl) hC ?_
      intro hne
      clear hC
      repeat (first | go_big_quiet_step (fail) | quiet_step (exact Calls.in_of (KO5 _)))
      refine wpQuiet_nil ?_
      intro wq hq
      have hb9 := (HCd.out _).1 hq
      clear q0 q1 q2 q3 q4 q5 q6 q7 q8 KO5 hne hq HCd
      go_wp2_with fail
      go_ret2
      have e : acOf (cfind ac) o a.c = a := acOf_some HM.out.1
      have hN := dun_next (c := a.c) (d := d) HF.out.1
      rw [HDB.out] at hN
      have hset : mset ac o ⟨g, a⟩ = ac := by
        have := mset_map_same (fun p : CP => p) HM.out.2 H.out.bk.acs.nodup rfl
        simpa using this
      exact ⟨rfl, PostC.put (w' := wq) H.out (.inr (.inr (.inr ⟨_, mget_mem HM.out.2, rfl⟩)) |> .inl) (by rw [e]) (by rw [e]; exact HF.out.2.1) (by rw [e]; exact hN) H.out.gd.d1 (by rw [hset]; exact H.out.bk.next (bthen HB1.out hb9)) (.of_below (bthen HB1.out hb9))⟩


set_option maxRecDepth 100000 in
set_option maxHeartbeats 8000000 in
theorem cref_any (h : IsC n0 w X XL BL BA ac d) (o : Int) :
    Calls Tryz.prog 6 #[.pointer (some ⟨X, 0, none⟩), .int .i64 o] w fun e w' => e = .returned (.tuple #[.int .i64 (refR (cfind ac) d o).1, .int .i64 (refR (cfind ac) d o).2.code]) ∧ PostC n0 X XL BL BA ac o (refR (cfind ac) d o).2 w w' := by
  unfold refR
  cases hm : cfind ac o with
  | none =>
    have K := hid (find_none h.bk o (cfind_none.1 hm))
    have H := hid h
    clear h hm
    go_enter Tryz.func6, Tryz.ntmps6
    go_wp2_with fail
    refine K.out.mono ?_
    rintro e w1 ⟨rfl, rfl⟩
    go_wp2_with fail
    go_ret2
    exact ⟨rfl, PostC.same H.out (Below.refl _ _)⟩
  | some a =>
    obtain ⟨g, hg⟩ := cfind_some.1 hm
    have K := hid (find_some h.bk o _ hg)
    have hB := h.bk.at_ hg
    have hfit := (h.gd.of o 0 hm).1
    have hao := (h.gd.of o 0 hm).2.1
    have hwt := (h.gd.of o 0 hm).2.2
    simp only at K hB ⊢
    have H := hid h
    have HB := hid hB
    have HM := hid (And.intro hm hg)
    have HF := hid (And.intro hfit (And.intro hao hwt))
    have lg := hB.lt
    have e8 : w.cell? ⟨g, 8, none⟩ = some (.int .i64 a.dep) := hB.cell 8
    have R := room_any h.bk a.dep (by have := hfit.d0; omega) (by have := hfit.d1; omega)
    by_cases hr : 576460752303423488 - a.dep < d
    · rw [if_pos hr]
      rw [roomR_many hr] at R
      replace R := hid R
      clear h hm hg hB hfit hao hwt hr
      go_enter Tryz.func6, Tryz.ntmps6
      go_wp2_with fail
      refine K.out.mono ?_
      rintro e w1 ⟨rfl, rfl⟩
      go_wp2_with fail
      refine R.out.mono ?_
      rintro e w2 ⟨rfl, hb⟩
      clear e8
      go_wp2_with fail
      go_ret2
      exact ⟨rfl, PostC.same H.out hb⟩
    · rw [if_neg hr]
      rw [roomR_zero hr] at R
      replace R := hid R
      have HR := hid hr
      clear h hm hg hB hfit hao hwt hr
      go_enter Tryz.func6, Tryz.ntmps6
      go_wp2_with fail
      refine K.out.mono ?_
      rintro e w1 ⟨rfl, rfl⟩
      go_wp2_with fail
      refine R.out.mono ?_
      rintro e w2 ⟨rfl, hb⟩
      have hB2 := HB.out.next hb
      have e8 : w2.cell? ⟨g, 8, none⟩ = some (.int .i64 a.dep) := hB2.cell 8
      have f8 := hB2.free 8
      have lg2 := hB2.lt
      have HB2 := hid (And.intro hb hB2)
      clear hB2 hb lg R K
      go_wp2_with fail
      have hB5 : Blk (w2.setCell ⟨g, 8, none⟩ (.int .i64 0)) g 35 (celC (refB a)) := HB2.out.2.set_ 8 (.int .i64 0)
      have hT5 := Touch.setCell w2 g 8 (.int .i64 0)
      have h5 := (H.out.bk.next HB2.out.1).put (o := o) (p := ⟨g, a⟩) (a' := refB a) HM.out.2 hB5 hT5
      have HT5 := (Touch.of_below (S := fun k => Ch.Own XL BL BA ac k ∨ k = g) HB2.out.1).then (hT5.mono (fun k hk => .inr hk))
      clear hB5 hT5 HB2 lg2 e8 f8
      generalize w2.setCell ⟨g, 8, none⟩ (.int .i64 0) = w5 at h5 HT5 ⊢
      have hn0 : 0 ≤ a.dep := HF.out.1.d0
      have hn1 : a.dep ≤ 576460752303423488 := HF.out.1.d1
      obtain ⟨n, hn⟩ : ∃ n, n = a.dep := ⟨_, rfl⟩
      rw [← hn] at hn0 hn1 ⊢
      have HN := hid hn
      have HRN := HR.out
      rw [← hn] at HRN
      have HRN := hid HRN
      clear hn
      go_loopw [9] (fun v wr => ∃ L : Int, 0 ≤ L ∧ L ≤ n ∧ v = .int .i64 L ∧ IsCash n0 wr X XL BL BA (mset ac o ⟨g, refB a⟩) (addF (ledC ac) a.c (moveE 4 0 (n - L))) (d + (n - L)) ∧ Touch (fun k => Ch.Own XL BL BA ac k ∨ k = g) w wr) (fun v _ => intC v)
      case atStart =>
        refine ⟨n, hn0, Int.le_refl _, rfl, ?_, HT5⟩
        rw [Int.sub_self, addF_move0, Int.add_zero]
        exact h5
      case round =>
        clear h5 HT5
        obtain ⟨L, hL0, hL1, rfl, hI, hT⟩ := hrel
        by_cases hlt : 0 < L
        · have t1 : decide (0 < L) = true := decide_eq_true hlt
          have HI := hid (And.intro hI hT)
          clear hI hT
          go_wp2_with fail
          all_goals
            refine (refund_any _ _).mono ?_
            rintro e w6 ⟨A', cap, rfl, hR, hlo, hb6⟩
            rw [moveL_eq ⟨by omega, by omega⟩] at hR ⊢
            have h6 := HI.out.1.next hb6
            have K := cpost_any h6 g (refB a) (h6.at_ (o := o) (p := ⟨g, refB a⟩) (by rw [mget_mset, if_pos rfl])) _ (moveE_ok ⟨HF.out.1.c1, HF.out.1.c2⟩ ⟨by omega, by omega⟩ (by omega) (by omega) (by have := HRN.out; omega)) A' cap hR (fun b hb => HI.out.1.not_xb (hlo b hb))
            rw [moveE_debs (by omega), show (refB a).c = a.c from rfl, addF_moves] at K
            replace K := hid K
            have H6 := hid (And.intro h6 (HI.out.2.then (.of_below hb6)))
            clear hR hlo hb6 h6 HI
            go_wp2_with fail
            refine K.out.mono ?_
            rintro e w7 ⟨rfl, hL, hT7⟩
            have h7 := hid (And.intro (H6.out.1.ledger hL hT7) (H6.out.2.then (hT7.mono (fun k hk => (.inl (Ch.xb_own hk) : Ch.Own XL BL BA ac k ∨ k = g)))))
            clear K H6 hL hT7
            go_wp2_with fail
            all_goals
              first
                | (exfalso; omega)
                | skip
            go_roundw
            case rel =>
              refine ⟨_, ?_, ?_, rfl, ?_, h7.out.2⟩
              · omega
              · omega
              · rw [show n - (L - min L 1125899906842624) = n - L + min L 1125899906842624 from by omega, show d + (n - L + min L 1125899906842624) = d + (n - L) + min L 1125899906842624 from by omega]
                exact h7.out.1
            case measure => simp [intC]; omega
        · have t1 : decide (0 < L) = false := decide_eq_false hlt
          have hLz : L = 0 := by omega
          subst hLz
          rw [Int.sub_zero] at hI
          have HI := hid (And.intro hI hT)
          clear hI hT hlt
          go_wp2_with fail
          go_ret2
          have e : acOf (cfind ac) o a.c = a := acOf_some HM.out.1
          have hN := ref_next (c := a.c) (d := d) HF.out.1
          rw [← HN.out] at hN
          rw [← HN.out]
          exact ⟨rfl, PostC.put H.out (.inr (.inr (.inr ⟨_, mget_mem HM.out.2, rfl⟩)) |> .inl) (by rw [e]) (by rw [e]; exact HF.out.2.1) (by rw [e]; exact hN) (by have := HRN.out; omega) HI.out.1 HI.out.2⟩

end

end Go.Proofs.YthdmbbfppgenlaaGreat
