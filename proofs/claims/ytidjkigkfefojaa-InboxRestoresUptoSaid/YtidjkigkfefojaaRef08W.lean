/-
  The document's inbox: before, find, Ask, Done.
-/
import Derived.Test.YtidjkigkfefojaaRef08
namespace Go.Proofs.Ytidjkigkfefojaa
open Go.RowKit Go.WideShapes
set_option linter.unusedVariables false

set_option maxHeartbeats 2000000 in
theorem before_any (x y : Ent) (w : World) : Calls Try.prog 26 #[enE x, enE y] w fun e w' => e = .returned (.bool (ltE x y)) ∧ Below w.heap.size w w' := by
  obtain ⟨xo, xs, xt, xc, xb⟩ := x
  obtain ⟨yo, ys, yt, yc, yb⟩ := y
  simp only [enE]
  have hb : Below w.heap.size w ((w.alloc (.cells #[.int .i64 xo, .int .i64 xs, .int .i64 xt, .int .i64 xc, .bool xb] 70)).alloc (.cells #[.int .i64 yo, .int .i64 ys, .int .i64 yt, .int .i64 yc, .bool yb] 70)) := ((Below.refl _ _).alloc (Nat.le_refl _) _).alloc (by simp) _
  have HB := hid hb
  clear hb
  rcases (show xo < yo ∨ (xo = yo ∧ xs < ys) ∨ (xo = yo ∧ ys ≤ xs) ∨ yo < xo from by omega) with h1 | ⟨h1, h2⟩ | ⟨h1, h2⟩ | h1
  · have e : ltE ⟨xo, xs, xt, xc, xb⟩ ⟨yo, ys, yt, yc, yb⟩ = true := (ltE_iff _ _).2 (.inl h1)
    have d1 : decide (xo < yo) = true := decide_eq_true h1
    rw [e]
    clear e
    go_enter Try.func26, Try.ntmps26
    go_wp2_with fail
    go_ret
    exact ⟨by simp, HB.out⟩
  · have e : ltE ⟨xo, xs, xt, xc, xb⟩ ⟨yo, ys, yt, yc, yb⟩ = true := (ltE_iff _ _).2 (.inr ⟨h1, h2⟩)
    subst h1
    have d1 : decide (xs < ys) = true := decide_eq_true h2
    rw [e]
    clear e
    go_enter Try.func26, Try.ntmps26
    go_wp2_with fail
    go_ret
    exact ⟨by simp, HB.out⟩
  · have e : ltE ⟨xo, xs, xt, xc, xb⟩ ⟨yo, ys, yt, yc, yb⟩ = false := by
      cases hh : ltE ⟨xo, xs, xt, xc, xb⟩ ⟨yo, ys, yt, yc, yb⟩ with
      | false => rfl
      | true => have := (ltE_iff _ _).1 hh; simp only at this; omega
    subst h1
    have d1 : decide (xs < ys) = false := decide_eq_false (by omega)
    rw [e]
    clear e
    go_enter Try.func26, Try.ntmps26
    go_wp2_with fail
    go_ret
    exact ⟨by simp, HB.out⟩
  · have e : ltE ⟨xo, xs, xt, xc, xb⟩ ⟨yo, ys, yt, yc, yb⟩ = false := by
      cases hh : ltE ⟨xo, xs, xt, xc, xb⟩ ⟨yo, ys, yt, yc, yb⟩ with
      | false => rfl
      | true => have := (ltE_iff _ _).1 hh; simp only at this; omega
    have d1 : decide (xo < yo) = false := decide_eq_false (by omega)
    have d2 : (xo == yo) = false := by simp; omega
    rw [e]
    clear e
    go_enter Try.func26, Try.ntmps26
    go_wp2_with fail
    go_ret
    exact ⟨by simp, HB.out⟩

/-- The cell of the list in the document's inbox, and an element's cells. -/
theorem IsRef.elem {base R cap : Nat} {A : Option Addr} {r : List Ent} {w : World} (h : IsRef base w R A cap r) {k : Nat} {y : Ent} (hk : r[k]? = some y) : ∃ g, A = some ⟨g, 0, none⟩ ∧ base ≤ g ∧ CellsAt w g (k * 5) (enE5 y) := by
  have hkl := (List.getElem?_eq_some_iff.1 hk).1
  obtain ⟨g, cap', e, hb, hlt⟩ := own_form h.own (by omega)
  injection e with e1 e2 e3
  subst e1 e3
  exact ⟨g, rfl, hb, hlt, fun j u hu => own_cells enE5_len h.own hk hu⟩

set_option maxRecDepth 100000 in
set_option maxHeartbeats 8000000 in
theorem find_any {base R cap : Nat} {A : Option Addr} {r : List Ent} (o s : Int) (w : World) (h : IsRef base w R A cap r) (hl : r.length ≤ 140737488355328) :
    Calls Try.prog 27 #[.pointer (some ⟨R, 0, none⟩), .int .i64 o, .int .i64 s] w fun e w' =>
      e = .returned (.tuple #[.int .i64 (posK keyE ltP r (o, s) : Nat), .bool (hasK r (o, s))]) ∧ Below w.heap.size w w' := by
  have hG := Blk.new w 70 #[.int .i64 o, .int .i64 s, .int .i64 0, .int .i64 0, .bool false]
  have h1 := h.next ((Below.refl _ _).alloc (Nat.le_refl _) (.cells #[.int .i64 o, .int .i64 s, .int .i64 0, .int .i64 0, .bool false] 70))
  have hb1 := (Below.refl w.heap.size w).alloc (Nat.le_refl _) (.cells #[.int .i64 o, .int .i64 s, .int .i64 0, .int .i64 0, .bool false] 70)
  have H := hid (And.intro hG (And.intro h1 hb1))
  clear hG h1 hb1 h
  go_enter Try.func27, Try.ntmps27
  go_wp2_with fail
  obtain ⟨hG, h1, hb1⟩ := H.out
  clear H
  obtain ⟨w1, hw1⟩ : ∃ w1, w1 = w.alloc (.cells #[.int .i64 o, .int .i64 s, .int .i64 0, .int .i64 0, .bool false] 70) := ⟨_, rfl⟩
  rw [← hw1] at hG h1 hb1 ⊢
  obtain ⟨G, hGG⟩ : ∃ G, G = w.heap.size := ⟨_, rfl⟩
  rw [← hGG] at hG ⊢
  clear hw1 hGG
  go_loopw [9] (fun i wr => ∃ k : Nat, k ≤ r.length ∧ i = .int .i64 k ∧ Hid (∀ j y, j < k → r[j]? = some y → ltP (keyE y) (o, s) = true) ∧ Blk wr G 70 #[.int .i64 o, .int .i64 s, .int .i64 0, .int .i64 0, .bool false] ∧ IsRef base wr R A cap r ∧ Below w.heap.size w wr) (fun i _ => r.length - (intOf i).toNat)
  case atStart => exact ⟨0, Nat.zero_le _, rfl, hid (fun j y hj => by omega), hG, h1, hb1⟩
  case round =>
    clear hG h1 hb1
    obtain ⟨k, hk, rfl, hP, hG, h, hb⟩ := hrel
    have hbl : wr.cell? ⟨R, 0, none⟩ = some (.slice A r.length cap) := h.blk.cell 0
    by_cases hlt : k < r.length
    · obtain ⟨y, hy⟩ : ∃ y, r[k]? = some y := ⟨r[k], List.getElem?_eq_getElem hlt⟩
      obtain ⟨g, rfl, hbg, hpr⟩ := h.elem hy
      have HY := hid hy
      clear hy
      obtain ⟨C, hCd⟩ : ∃ C : World → Prop, ∀ w', C w' ↔ (IsRef base w' R (some ⟨g, 0, none⟩) cap r ∧ Blk w' G 70 #[.int .i64 o, .int .i64 s, .int .i64 0, .int .i64 0, .bool false] ∧ CellsAt w' g (k * 5) (enE5 y) ∧ Below w.heap.size w w') := ⟨_, fun _ => Iff.rfl⟩
      have hC : C wr.drew := (hCd _).2 ⟨h.next (below_drewN (Below.refl _ _) 1), hG, hpr, hb.drew⟩
      obtain ⟨yo, ys, yt, yc, yb⟩ := y
      have HL : Hid (ltE ⟨yo, ys, yt, yc, yb⟩ ⟨o, s, 0, 0, false⟩ = ltP (keyE ⟨yo, ys, yt, yc, yb⟩) (o, s)) := hid (ltE_ltP _ _)
      obtain ⟨cv, hcv⟩ : ∃ cv, ltE ⟨yo, ys, yt, yc, yb⟩ ⟨o, s, 0, 0, false⟩ = cv := ⟨_, rfl⟩
      have HCV := hid hcv
      clear hcv
      go_wp2_with fail
      have c0 : ∀ p : In C, p.w.cell? ⟨R, 0, none⟩ = some (.slice (some ⟨g, 0, none⟩) r.length cap) := fun p => ((hCd _).1 p.h).1.blk.cell 0
      have g0 : ∀ p : In C, p.w.cell? ⟨G, 0, none⟩ = some (.int .i64 o) := fun p => ((hCd _).1 p.h).2.1.cell 0
      have g1 : ∀ p : In C, p.w.cell? ⟨G, 1, none⟩ = some (.int .i64 s) := fun p => ((hCd _).1 p.h).2.1.cell 1
      have g2 : ∀ p : In C, p.w.cell? ⟨G, 2, none⟩ = some (.int .i64 0) := fun p => ((hCd _).1 p.h).2.1.cell 2
      have g3 : ∀ p : In C, p.w.cell? ⟨G, 3, none⟩ = some (.int .i64 0) := fun p => ((hCd _).1 p.h).2.1.cell 3
      have g4 : ∀ p : In C, p.w.cell? ⟨G, 4, none⟩ = some (.bool false) := fun p => ((hCd _).1 p.h).2.1.cell 4
      have p0 : ∀ p : In C, p.w.cell? ⟨g, k * 5, none⟩ = some (.int .i64 yo) := fun p => ((hCd _).1 p.h).2.2.1.2 0 _ rfl
      have p1 : ∀ p : In C, p.w.cell? ⟨g, k * 5 + 1, none⟩ = some (.int .i64 ys) := fun p => ((hCd _).1 p.h).2.2.1.2 1 _ rfl
      have p2 : ∀ p : In C, p.w.cell? ⟨g, k * 5 + 2, none⟩ = some (.int .i64 yt) := fun p => ((hCd _).1 p.h).2.2.1.2 2 _ rfl
      have p3 : ∀ p : In C, p.w.cell? ⟨g, k * 5 + 3, none⟩ = some (.int .i64 yc) := fun p => ((hCd _).1 p.h).2.2.1.2 3 _ rfl
      have p4 : ∀ p : In C, p.w.cell? ⟨g, k * 5 + 4, none⟩ = some (.bool yb) := fun p => ((hCd _).1 p.h).2.2.1.2 4 _ rfl
      have O : Hid (∀ p : In C, Calls Try.prog 26 #[.agg #[.int .i64 yo, .int .i64 ys, .int .i64 yt, .int .i64 yc, .bool yb], .agg #[.int .i64 o, .int .i64 s, .int .i64 0, .int .i64 0, .bool false]] p.w fun e w' => e = .returned (.bool cv) ∧ C w') :=
        hid (fun p => by
          have := before_any ⟨yo, ys, yt, yc, yb⟩ ⟨o, s, 0, 0, false⟩ p.w
          rw [HCV.out] at this
          exact this.mono fun _ _ ⟨e1, e2⟩ => ⟨e1, (hCd _).2 (by have := (hCd _).1 p.h; exact ⟨this.1.next e2, this.2.1.next e2, this.2.2.1.next e2, bthen this.2.2.2 e2⟩)⟩)
      have HCd := hid hCd
      clear hCd h hG hb hpr hbl
      refine wp_region_in C (by kernel_rfl) (by kernel_rfl) hC ?_
      intro hne
      clear hC
      repeat (first | go_big_quiet_step ((go_at_call 26; exact Calls.in_of (O.out _))) | quiet_step ((go_at_call 26; exact Calls.in_of (O.out _))))
      refine wpQuiet_nil ?_
      intro wq hq
      obtain ⟨h, hG, hpr, hb⟩ := (HCd.out _).1 hq
      clear c0 g0 g1 g2 g3 g4 p0 p1 p2 p3 p4 O hne hq HCd
      cases cv with
      | true =>
        go_wp2_with fail
        go_roundw
        case rel => exact ⟨k + 1, by omega, by go_num, hid (fun j z hj hz => by
          by_cases e : j = k
          · subst e; rw [HY.out] at hz; injection hz with hz; subst hz; rw [← HL.out]; exact HCV.out
          · exact hP.out j z (by omega) hz), hG, h, hb⟩
        case measure => simp [intOf]; omega
      | false =>
        have hpos : posK keyE ltP r (o, s) = k := posK_eq hk hP.out (fun z hz => by rw [HY.out] at hz; injection hz with hz; subst hz; rw [← HL.out]; exact HCV.out)
        have hhas : hasK r (o, s) = (decide (yo = o) && decide (ys = s)) := by unfold hasK; rw [hpos, HY.out]
        have HP2 := hid hpos
        have HH2 := hid hhas
        clear hpos hhas HCV HL HY hP
        have c0 : wq.cell? ⟨R, 0, none⟩ = some (.slice (some ⟨g, 0, none⟩) r.length cap) := h.blk.cell 0
        have p0 : wq.cell? ⟨g, k * 5, none⟩ = some (.int .i64 yo) := hpr.2 0 _ rfl
        have p1 : wq.cell? ⟨g, k * 5 + 1, none⟩ = some (.int .i64 ys) := hpr.2 1 _ rfl
        have hd1 : decide (k < r.length) = true := decide_eq_true hlt
        by_cases e1 : yo = o
        · by_cases e2 : ys = s
          · subst e1 e2
            go_wp2_with fail
            go_quiet (fail)
            go_wp2_with fail
            go_ret2
            exact ⟨by rw [HP2.out, HH2.out]; simp, below_drewN hb _⟩
          · subst e1
            have b2 : (ys == s) = false := by simpa using e2
            go_wp2_with fail
            go_quiet (fail)
            go_wp2_with fail
            go_ret2
            exact ⟨by rw [HP2.out, HH2.out]; simp [e2], below_drewN hb _⟩
        · have b2 : (yo == o) = false := by simpa using e1
          go_wp2_with fail
          go_quiet (fail)
          go_wp2_with fail
          go_ret2
          exact ⟨by rw [HP2.out, HH2.out]; simp [e1], below_drewN hb _⟩
    · have hk' : k = r.length := by omega
      have hpos : posK keyE ltP r (o, s) = r.length := posK_eq (Nat.le_refl _) (fun j y hj hy => hP.out j y (by omega) hy) (fun z hz => by rw [List.getElem?_eq_none (Nat.le_refl _)] at hz; cases hz)
      have hhas : hasK r (o, s) = false := by unfold hasK; rw [hpos, List.getElem?_eq_none (Nat.le_refl _)]
      subst hk'
      have HP2 := hid hpos
      have HH2 := hid hhas
      clear hpos hhas hP hlt hk
      go_wp2_with fail
      go_quiet (fail)
      go_wp2_with fail
      go_ret2
      exact ⟨by rw [HP2.out, HH2.out]; simp, below_drewN hb _⟩

end Go.Proofs.Ytidjkigkfefojaa
