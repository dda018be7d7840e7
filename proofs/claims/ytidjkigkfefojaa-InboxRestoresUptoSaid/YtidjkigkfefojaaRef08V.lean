/-
  The document's inbox: Ask, Done, Keep.
-/
import Derived.Test.YtidjkigkfefojaaRef08W
namespace Go.Proofs.Ytidjkigkfefojaa
open Go.RowKit Go.WideShapes
set_option linter.unusedVariables false

set_option maxRecDepth 100000 in
set_option maxHeartbeats 8000000 in
theorem rask_any {base R cap : Nat} {A : Option Addr} {r : List Ent} (o s t : Int) (u : Bool) (w : World) (h : IsRef base w R A cap r) (hl : r.length ≤ 140737488355328) :
    Calls Try.prog 21 #[.pointer (some ⟨R, 0, none⟩), .int .i64 o, .int .i64 s, .int .i64 t, .bool u] w fun e w' =>
      e = .returned (.tuple #[.int .i64 (askF (entR r (o, s)) t u).1, .int .i64 (askF (entR r (o, s)) t u).2]) ∧ Below w.heap.size w w' := by
  have F := find_any o s w h hl
  have hpl : posK keyE ltP r (o, s) ≤ r.length := posK_le _ _
  cases hh : hasK r (o, s) with
  | false =>
    have he : entR r (o, s) = noEnt := by unfold entR; rw [hh]; rfl
    rw [hh] at F
    rw [he]
    clear hh he
    generalize posK keyE ltP r (o, s) = ps at F hpl
    have HF := hid F
    clear F
    go_enter Try.func21, Try.ntmps21
    cases u with
    | true =>
      go_wp2_with fail
      refine HF.out.mono ?_
      rintro e w1 ⟨rfl, hb⟩
      have hb2 := hb.alloc hb.size (.cells #[.int .i64 0, .int .i64 0, .int .i64 0, .int .i64 0, .bool false] 70)
      clear h HF hb
      go_wp2_with fail
      go_ret2
      exact ⟨rfl, hb2⟩
    | false =>
      by_cases h1 : t < 1
      · go_wp2_with fail
        refine HF.out.mono ?_
        rintro e w1 ⟨rfl, hb⟩
        have hb2 := hb.alloc hb.size (.cells #[.int .i64 0, .int .i64 0, .int .i64 0, .int .i64 0, .bool false] 70)
        clear h HF hb
        go_wp2_with fail
        go_ret2
        exact ⟨by simp [askF, noEnt, h1], hb2⟩
      · have b1 : decide (t < 1) = false := decide_eq_false h1
        have b2 : decide (t < 0) = false := decide_eq_false (by omega)
        have b3 : (t == 0) = false := by simp; omega
        have HV : Hid (askF noEnt t false = (0, 0)) := hid (ask_fresh (e := noEnt) rfl t (by omega) (by show (0 : Int) < t; omega))
        clear h1
        go_wp2_with fail
        refine HF.out.mono ?_
        rintro e w1 ⟨rfl, hb⟩
        have hb2 := hb.alloc hb.size (.cells #[.int .i64 0, .int .i64 0, .int .i64 0, .int .i64 0, .bool false] 70)
        clear h HF hb
        go_wp2_with fail
        go_ret2
        exact ⟨by rw [HV.out]; rfl, hb2⟩
  | true =>
    obtain ⟨y, hy, hk, he⟩ := hasK_true hh
    rw [hh] at F
    rw [he]
    have hbl : w.cell? ⟨R, 0, none⟩ = some (.slice A r.length cap) := h.blk.cell 0
    obtain ⟨g, rfl, hbg, hpr⟩ := h.elem hy
    have hlt : posK keyE ltP r (o, s) < r.length := (List.getElem?_eq_some_iff.1 hy).1
    clear hh he hk hy hpl
    generalize posK keyE ltP r (o, s) = ps at F hlt hpr
    have HF := hid F
    clear F hbl
    obtain ⟨yo, ys, yt, yc, yb⟩ := y
    go_enter Try.func21, Try.ntmps21
    cases u with
    | true =>
      cases yb
      all_goals
        go_wp2_with fail
        refine HF.out.mono ?_
        rintro e w1 ⟨rfl, hb⟩
        have hp1 := hpr.next hb
        have c0 : w1.cell? ⟨R, 0, none⟩ = some (.slice (some ⟨g, 0, none⟩) r.length cap) := (h.next hb).blk.cell 0
        have lR : R < w1.heap.size := (h.next hb).blk.lt
        have lg : g < w1.heap.size := hp1.1
        have p0 : w1.cell? ⟨g, ps * 5, none⟩ = some (.int .i64 yo) := hp1.2 0 _ rfl
        have p1 : w1.cell? ⟨g, ps * 5 + 1, none⟩ = some (.int .i64 ys) := hp1.2 1 _ rfl
        have p2 : w1.cell? ⟨g, ps * 5 + 2, none⟩ = some (.int .i64 yt) := hp1.2 2 _ rfl
        have p3 : w1.cell? ⟨g, ps * 5 + 3, none⟩ = some (.int .i64 yc) := hp1.2 3 _ rfl
        have p4 := hp1.2 4 _ rfl
        clear h HF hp1 hpr
        go_wp2_with fail
        go_ret2
        exact ⟨rfl, hb.alloc hb.size _⟩
    | false =>
      cases yb with
      | true =>
        go_wp2_with fail
        refine HF.out.mono ?_
        rintro e w1 ⟨rfl, hb⟩
        have hp1 := hpr.next hb
        have c0 : w1.cell? ⟨R, 0, none⟩ = some (.slice (some ⟨g, 0, none⟩) r.length cap) := (h.next hb).blk.cell 0
        have lR : R < w1.heap.size := (h.next hb).blk.lt
        have lg : g < w1.heap.size := hp1.1
        have p0 : w1.cell? ⟨g, ps * 5, none⟩ = some (.int .i64 yo) := hp1.2 0 _ rfl
        have p1 : w1.cell? ⟨g, ps * 5 + 1, none⟩ = some (.int .i64 ys) := hp1.2 1 _ rfl
        have p2 : w1.cell? ⟨g, ps * 5 + 2, none⟩ = some (.int .i64 yt) := hp1.2 2 _ rfl
        have p3 : w1.cell? ⟨g, ps * 5 + 3, none⟩ = some (.int .i64 yc) := hp1.2 3 _ rfl
        have p4 : w1.cell? ⟨g, ps * 5 + 4, none⟩ = some (.bool true) := hp1.2 4 _ rfl
        clear h HF hp1 hpr
        go_wp2_with fail
        go_ret2
        exact ⟨rfl, hb.alloc hb.size _⟩
      | false =>
        rcases (show t < 1 ∨ (1 ≤ t ∧ t < yt) ∨ (1 ≤ t ∧ t = yt) ∨ (1 ≤ t ∧ yt < t) from by omega) with h1 | ⟨h1, h2⟩ | ⟨h1, h2⟩ | ⟨h1, h2⟩
        · have b1 : decide (t < 1) = true := decide_eq_true h1
          have HV : Hid (askF ⟨yo, ys, yt, yc, false⟩ t false = (2, 0)) := hid (by simp [askF, h1])
          clear h1
          go_wp2_with fail
          refine HF.out.mono ?_
          rintro e w1 ⟨rfl, hb⟩
          have hp1 := hpr.next hb
          have c0 : w1.cell? ⟨R, 0, none⟩ = some (.slice (some ⟨g, 0, none⟩) r.length cap) := (h.next hb).blk.cell 0
          have lR : R < w1.heap.size := (h.next hb).blk.lt
          have lg : g < w1.heap.size := hp1.1
          have p0 : w1.cell? ⟨g, ps * 5, none⟩ = some (.int .i64 yo) := hp1.2 0 _ rfl
          have p1 : w1.cell? ⟨g, ps * 5 + 1, none⟩ = some (.int .i64 ys) := hp1.2 1 _ rfl
          have p2 : w1.cell? ⟨g, ps * 5 + 2, none⟩ = some (.int .i64 yt) := hp1.2 2 _ rfl
          have p3 : w1.cell? ⟨g, ps * 5 + 3, none⟩ = some (.int .i64 yc) := hp1.2 3 _ rfl
          have p4 : w1.cell? ⟨g, ps * 5 + 4, none⟩ = some (.bool false) := hp1.2 4 _ rfl
          clear h HF hp1 hpr
          go_wp2_with fail
          go_ret2
          exact ⟨by rw [HV.out]; rfl, hb.alloc hb.size _⟩
        · have b1 : decide (t < 1) = false := decide_eq_false (by omega)
          have b2 : decide (t < yt) = true := decide_eq_true h2
          have HV : Hid (askF ⟨yo, ys, yt, yc, false⟩ t false = (2, 0)) := hid (by simp [askF, h2])
          clear h1 h2
          go_wp2_with fail
          refine HF.out.mono ?_
          rintro e w1 ⟨rfl, hb⟩
          have hp1 := hpr.next hb
          have c0 : w1.cell? ⟨R, 0, none⟩ = some (.slice (some ⟨g, 0, none⟩) r.length cap) := (h.next hb).blk.cell 0
          have lR : R < w1.heap.size := (h.next hb).blk.lt
          have lg : g < w1.heap.size := hp1.1
          have p0 : w1.cell? ⟨g, ps * 5, none⟩ = some (.int .i64 yo) := hp1.2 0 _ rfl
          have p1 : w1.cell? ⟨g, ps * 5 + 1, none⟩ = some (.int .i64 ys) := hp1.2 1 _ rfl
          have p2 : w1.cell? ⟨g, ps * 5 + 2, none⟩ = some (.int .i64 yt) := hp1.2 2 _ rfl
          have p3 : w1.cell? ⟨g, ps * 5 + 3, none⟩ = some (.int .i64 yc) := hp1.2 3 _ rfl
          have p4 : w1.cell? ⟨g, ps * 5 + 4, none⟩ = some (.bool false) := hp1.2 4 _ rfl
          clear h HF hp1 hpr
          go_wp2_with fail
          go_ret2
          exact ⟨by rw [HV.out]; rfl, hb.alloc hb.size _⟩
        · have b1 : decide (t < 1) = false := decide_eq_false (by omega)
          have b2 : decide (t < yt) = false := decide_eq_false (by omega)
          have HV : Hid (askF ⟨yo, ys, yt, yc, false⟩ t false = (1, yc)) := hid (by simp [askF, h2]; omega)
          have b3 : (t == yt) = true := by simpa using h2
          clear h1 h2
          go_wp2_with fail
          refine HF.out.mono ?_
          rintro e w1 ⟨rfl, hb⟩
          have hp1 := hpr.next hb
          have c0 : w1.cell? ⟨R, 0, none⟩ = some (.slice (some ⟨g, 0, none⟩) r.length cap) := (h.next hb).blk.cell 0
          have lR : R < w1.heap.size := (h.next hb).blk.lt
          have lg : g < w1.heap.size := hp1.1
          have p0 : w1.cell? ⟨g, ps * 5, none⟩ = some (.int .i64 yo) := hp1.2 0 _ rfl
          have p1 : w1.cell? ⟨g, ps * 5 + 1, none⟩ = some (.int .i64 ys) := hp1.2 1 _ rfl
          have p2 : w1.cell? ⟨g, ps * 5 + 2, none⟩ = some (.int .i64 yt) := hp1.2 2 _ rfl
          have p3 : w1.cell? ⟨g, ps * 5 + 3, none⟩ = some (.int .i64 yc) := hp1.2 3 _ rfl
          have p4 : w1.cell? ⟨g, ps * 5 + 4, none⟩ = some (.bool false) := hp1.2 4 _ rfl
          clear h HF hp1 hpr
          go_wp2_with fail
          go_quiet (fail)
          go_wp2_with fail
          go_ret2
          exact ⟨by rw [HV.out]; rfl, below_drewN (hb.alloc hb.size _) _⟩
        · have b1 : decide (t < 1) = false := decide_eq_false (by omega)
          have b2 : decide (t < yt) = false := decide_eq_false (by omega)
          have HV : Hid (askF ⟨yo, ys, yt, yc, false⟩ t false = (0, 0)) := hid (by
            simp only [askF, Bool.false_eq_true, if_false]
            rw [if_neg (by omega), if_neg (by omega), if_neg (by omega)])
          have b3 : (t == yt) = false := by simp; omega
          clear h1 h2
          go_wp2_with fail
          refine HF.out.mono ?_
          rintro e w1 ⟨rfl, hb⟩
          have hp1 := hpr.next hb
          have c0 : w1.cell? ⟨R, 0, none⟩ = some (.slice (some ⟨g, 0, none⟩) r.length cap) := (h.next hb).blk.cell 0
          have lR : R < w1.heap.size := (h.next hb).blk.lt
          have lg : g < w1.heap.size := hp1.1
          have p0 : w1.cell? ⟨g, ps * 5, none⟩ = some (.int .i64 yo) := hp1.2 0 _ rfl
          have p1 : w1.cell? ⟨g, ps * 5 + 1, none⟩ = some (.int .i64 ys) := hp1.2 1 _ rfl
          have p2 : w1.cell? ⟨g, ps * 5 + 2, none⟩ = some (.int .i64 yt) := hp1.2 2 _ rfl
          have p3 : w1.cell? ⟨g, ps * 5 + 3, none⟩ = some (.int .i64 yc) := hp1.2 3 _ rfl
          have p4 : w1.cell? ⟨g, ps * 5 + 4, none⟩ = some (.bool false) := hp1.2 4 _ rfl
          clear h HF hp1 hpr
          go_wp2_with fail
          go_ret2
          exact ⟨by rw [HV.out]; rfl, hb.alloc hb.size _⟩

set_option maxRecDepth 100000 in
set_option maxHeartbeats 8000000 in
theorem rdone_any {base R cap : Nat} {A : Option Addr} {r : List Ent} (o s : Int) (w : World) (h : IsRef base w R A cap r) (hl : r.length ≤ 140737488355328) :
    Calls Try.prog 23 #[.pointer (some ⟨R, 0, none⟩), .int .i64 o, .int .i64 s] w fun e w' =>
      e = .returned (.bool (doneF (entR r (o, s)))) ∧ Below w.heap.size w w' := by
  have F := find_any o s w h hl
  cases hh : hasK r (o, s) with
  | false =>
    have he : entR r (o, s) = noEnt := by unfold entR; rw [hh]; rfl
    rw [hh] at F
    rw [he]
    clear hh he
    generalize posK keyE ltP r (o, s) = ps at F
    have HF := hid F
    clear F
    go_enter Try.func23, Try.ntmps23
    go_wp2_with fail
    refine HF.out.mono ?_
    rintro e w1 ⟨rfl, hb⟩
    clear h HF
    go_wp2_with fail
    go_ret
    exact ⟨rfl, hb⟩
  | true =>
    obtain ⟨y, hy, hk, he⟩ := hasK_true hh
    rw [hh] at F
    rw [he]
    obtain ⟨g, rfl, hbg, hpr⟩ := h.elem hy
    have hlt : posK keyE ltP r (o, s) < r.length := (List.getElem?_eq_some_iff.1 hy).1
    clear hh he hk hy
    generalize posK keyE ltP r (o, s) = ps at F hlt hpr
    have HF := hid F
    clear F
    obtain ⟨yo, ys, yt, yc, yb⟩ := y
    go_enter Try.func23, Try.ntmps23
    have hcs : (0 < yt ∧ yc = 0) ∨ (0 < yt ∧ yc ≠ 0) ∨ yt ≤ 0 := by omega
    rcases hcs with ⟨h1, h2⟩ | ⟨h1, h2⟩ | h1
    · subst h2
      have b1 : decide (0 < yt) = true := decide_eq_true h1
      go_wp2_with fail
      refine HF.out.mono ?_
      rintro e w1 ⟨rfl, hb⟩
      have hp1 := hpr.next hb
      have c0 : w1.cell? ⟨R, 0, none⟩ = some (.slice (some ⟨g, 0, none⟩) r.length cap) := (h.next hb).blk.cell 0
      have lR : R < w1.heap.size := (h.next hb).blk.lt
      have lg : g < w1.heap.size := hp1.1
      have p2 : w1.cell? ⟨g, ps * 5 + 2, none⟩ = some (.int .i64 yt) := hp1.2 2 _ rfl
      have p3 : w1.cell? ⟨g, ps * 5 + 3, none⟩ = some (.int .i64 0) := hp1.2 3 _ rfl
      have p4 : w1.cell? ⟨g, ps * 5 + 4, none⟩ = some (.bool yb) := hp1.2 4 _ rfl
      clear h HF hp1 hpr
      have HV : Hid (doneF ⟨yo, ys, yt, 0, yb⟩ = !yb) := hid (by simp [doneF, h1])
      clear h1
      cases yb
      all_goals
        go_wp2_with fail
        go_ret
        exact ⟨by rw [HV.out]; rfl, hb⟩
    · have b1 : decide (0 < yt) = true := decide_eq_true h1
      have b2 : (yc == 0) = false := by simpa using h2
      have HV : Hid (doneF ⟨yo, ys, yt, yc, yb⟩ = false) := hid (by simp [doneF, h2])
      clear h1 h2
      go_wp2_with fail
      refine HF.out.mono ?_
      rintro e w1 ⟨rfl, hb⟩
      have hp1 := hpr.next hb
      have c0 : w1.cell? ⟨R, 0, none⟩ = some (.slice (some ⟨g, 0, none⟩) r.length cap) := (h.next hb).blk.cell 0
      have lR : R < w1.heap.size := (h.next hb).blk.lt
      have lg : g < w1.heap.size := hp1.1
      have p2 : w1.cell? ⟨g, ps * 5 + 2, none⟩ = some (.int .i64 yt) := hp1.2 2 _ rfl
      have p3 : w1.cell? ⟨g, ps * 5 + 3, none⟩ = some (.int .i64 yc) := hp1.2 3 _ rfl
      have p4 : w1.cell? ⟨g, ps * 5 + 4, none⟩ = some (.bool yb) := hp1.2 4 _ rfl
      clear h HF hp1 hpr
      go_wp2_with fail
      go_ret
      exact ⟨by rw [HV.out]; rfl, hb⟩
    · have b1 : decide (0 < yt) = false := decide_eq_false (by omega)
      have HV : Hid (doneF ⟨yo, ys, yt, yc, yb⟩ = false) := hid (by simp [doneF]; omega)
      clear h1
      go_wp2_with fail
      refine HF.out.mono ?_
      rintro e w1 ⟨rfl, hb⟩
      have hp1 := hpr.next hb
      have c0 : w1.cell? ⟨R, 0, none⟩ = some (.slice (some ⟨g, 0, none⟩) r.length cap) := (h.next hb).blk.cell 0
      have lR : R < w1.heap.size := (h.next hb).blk.lt
      have lg : g < w1.heap.size := hp1.1
      have p2 : w1.cell? ⟨g, ps * 5 + 2, none⟩ = some (.int .i64 yt) := hp1.2 2 _ rfl
      have p3 : w1.cell? ⟨g, ps * 5 + 3, none⟩ = some (.int .i64 yc) := hp1.2 3 _ rfl
      have p4 : w1.cell? ⟨g, ps * 5 + 4, none⟩ = some (.bool yb) := hp1.2 4 _ rfl
      clear h HF hp1 hpr
      go_wp2_with fail
      go_ret
      exact ⟨by rw [HV.out]; rfl, hb⟩

end Go.Proofs.Ytidjkigkfefojaa
