/-
  The inbox, continued: New, Done, Keep.
-/
import Derived.Test.YtakaalldbnklcaaInInbox
import Derived.RegionTactic
namespace Go.Proofs.Ytakaalldbnklcaa.In
open Go.RowKit
set_option linter.unusedVariables false

theorem IsBox.alloc {w : World} {X B : Nat} {m : List ((Int × Int) × Ent)} (h : IsBox w X B m) (o : Obj) : IsBox (w.alloc o) X B m := ⟨h.1.alloc o, h.2.alloc o⟩

theorem new_any (w : World) : Calls Try.prog 21 #[] w fun e w' =>
    e = .returned (.pointer (some ⟨w.heap.size + 1, 0, none⟩)) ∧ IsBox w' (w.heap.size + 1) w.heap.size [] ∧ Below w.heap.size w w' := by
  have hmm := @run_makeMap Try.prog
  have hb := Blk.new (w.alloc (.map #[] 0)) 88 #[.map (some w.heap.size)]
  have hM := (IsMap.made w kP enE).alloc (.cells #[.map (some w.heap.size)] 88)
  rw [World.size_alloc] at hb
  have H := hid (And.intro hb hM)
  clear hb hM
  go_enter Try.func21, Try.ntmps21
  go_wp2_with fail
  go_ret
  exact ⟨by simp, H.out, ((Below.refl _ _).alloc (Nat.le_refl _) _).alloc (by simp) _⟩

/-- Done, told. -/
def doneF (e : Ent) : Bool := decide (0 < e.t) && (decide (e.c = 0) && !e.b)

set_option maxHeartbeats 1000000 in
theorem done_any (X B : Nat) (m : List ((Int × Int) × Ent)) (o s : Int) (w : World) (h : IsBox w X B m) :
    Calls Try.prog 14 #[.pointer (some ⟨X, 0, none⟩), .int .i64 o, .int .i64 s] w fun e w' =>
      e = .returned (.bool (doneF (entAt m (o, s)))) ∧ Below w.heap.size w w' := by
  have hl := h.look o s
  have hc := h.1.cell 0
  have hs : (#[.map (some B)] : Array Value)[0]? = some (.map (some B)) := rfl
  rw [hs] at hc
  clear hs
  generalize entAt m (o, s) = e at *
  obtain ⟨eo, es, et, ec, eb⟩ := e
  simp only [enE] at hl
  go_enter Try.func14, Try.ntmps14
  by_cases h1 : 0 < et
  · by_cases h2 : ec = 0
    · subst h2
      cases eb with
      | true =>
        go_wp2_with fail
        go_ret
        exact ⟨by simp [doneF], (Below.refl _ _).alloc (Nat.le_refl _) _⟩
      | false =>
        go_wp2_with fail
        go_ret
        exact ⟨by simp [doneF, h1], (Below.refl _ _).alloc (Nat.le_refl _) _⟩
    · have h3 : (ec == 0) = false := by simpa using h2
      go_wp2_with fail
      go_ret
      exact ⟨by simp [doneF, h2], (Below.refl _ _).alloc (Nat.le_refl _) _⟩
  · go_wp2_with fail
    go_ret
    exact ⟨by simp [doneF, show ¬ 0 < et from by omega], (Below.refl _ _).alloc (Nat.le_refl _) _⟩

/-- Keep, told. -/
def keepE (e : Ent) (o s t : Int) (u : Bool) (c : Int) : Ent := if u = true then ⟨o, s, e.t, e.c, true⟩ else ⟨o, s, t, c, e.b⟩
def keepM (m : List ((Int × Int) × Ent)) (o s t : Int) (u : Bool) (c : Int) : List ((Int × Int) × Ent) :=
  if (askF (entAt m (o, s)) t u).1 = 0 then mset m (o, s) (keepE (entAt m (o, s)) o s t u c) else m
def keepR (m : List ((Int × Int) × Ent)) (o s t : Int) (u : Bool) : Int := if (askF (entAt m (o, s)) t u).1 = 0 then 0 else 130

set_option maxRecDepth 100000 in
set_option maxHeartbeats 1000000 in
theorem keep_any (X B : Nat) (m : List ((Int × Int) × Ent)) (o s t c : Int) (u : Bool) (w : World) (h : IsBox w X B m) :
    Calls Try.prog 16 #[.pointer (some ⟨X, 0, none⟩), .int .i64 o, .int .i64 s, .int .i64 t, .bool u, .int .i64 c] w fun e w' =>
      e = .returned (.int .i64 (keepR m o s t u)) ∧ IsBox w' X B (keepM m o s t u c) ∧ w.grownBy w' (some B) := by
  have hA := ask_any X B m o s t u w h
  by_cases hv : (askF (entAt m (o, s)) t u).1 = 0
  · have hR : keepR m o s t u = 0 := if_pos hv
    have hM : keepM m o s t u c = mset m (o, s) (keepE (entAt m (o, s)) o s t u c) := if_pos hv
    rw [hv] at hA
    rw [hR, hM]
    clear hR hM hv
    generalize (askF (entAt m (o, s)) t u).2 = c0 at hA
    generalize he : entAt m (o, s) = e at hA
    have HE := hid he
    clear he
    replace hA := hid hA
    go_enter Try.func16, Try.ntmps16
    go_wp2_with fail
    refine hA.out.mono ?_
    rintro e1 w1 ⟨rfl, hb⟩
    replace h := h.next hb
    clear hA
    go_wp2_with fail
    obtain ⟨w2, hw2⟩ : ∃ w2, w2 = w1.alloc (.cells #[.int .i64 o, .int .i64 s] 90) := ⟨_, rfl⟩
    rw [← hw2]
    have h2 : IsBox w2 X B m := by rw [hw2]; exact h.next ((Below.refl _ _).alloc (Nat.le_refl _) _)
    have hp : Blk w2 w1.heap.size 90 #[.int .i64 o, .int .i64 s] := by rw [hw2]; exact Blk.new _ _ _
    have hb2 : Below w.heap.size w w2 := by rw [hw2]; exact hb.alloc hb.size _
    have hsz : w2.heap.size = w1.heap.size + 1 := by rw [hw2]; simp
    clear hw2
    generalize w1.heap.size = Bp at *
    have hc : w2.cell? ⟨X, 0, none⟩ = some (.map (some B)) := h2.1.cell 0
    have hp0 : w2.cell? ⟨Bp, 0, none⟩ = some (.int .i64 o) := hp.cell 0
    have hp1 : w2.cell? ⟨Bp, 1, none⟩ = some (.int .i64 s) := hp.cell 1
    have l1 := IsBox.look (w := w2.drew) h2 o s
    have l2 := IsBox.look (w := (w2.alloc (.cells #[.int .i64 0, .int .i64 0, .int .i64 0, .int .i64 0, .bool false] 85)).drew) (h2.alloc (.cells #[.int .i64 0, .int .i64 0, .int .i64 0, .int .i64 0, .bool false] 85)) o s
    have lt1 : X < w2.heap.size := h2.1.lt
    have lt2 : Bp < w2.heap.size := hp.lt
    rw [HE.out] at l1 l2
    obtain ⟨eo, es, et, ec, eb⟩ := e
    simp only [enE] at l1 l2
    have HS := hid hsz
    clear hsz
    cases u with
    | true =>
      go_region
      all_goals
        go_wp2_with fail
        have h3 : IsBox (w2.alloc (.cells #[.int .i64 o, .int .i64 s, .int .i64 et, .int .i64 ec, .bool true] 85)).drew.drew X B m := h2.alloc (.cells #[.int .i64 o, .int .i64 s, .int .i64 et, .int .i64 ec, .bool true] 85)
        clear l1 l2
        refine wp_tail 6 (by kernel_rfl) (by kernel_rfl) ?_
        simp only [List.take_succ_cons, List.take_zero, List.drop_succ_cons, List.drop_zero]
        repeat still_step
        refine wpStill_nil ?_
        at_mapUpdate
        refine wpList_store _ rfl _ _ _ 86 85 rfl keyPl Try.underlying86 B m rfl h3.2 (o, s) ⟨o, s, et, ec, true⟩ rfl rfl ?_
        intro w3 hM3 hg3 hs3
        go_wp2_with fail
        have hx : some X ≠ some B := fun e => h3.2.notBlk h3.1 (by injection e with e; exact e.symm)
        have hk := h3.1.grown hg3 hx
        have hb3 := below_grown ((hb2.alloc hb2.size (.cells #[.int .i64 o, .int .i64 s, .int .i64 et, .int .i64 ec, .bool true] 85)).drew.drew) hg3
        go_ret
        exact ⟨rfl, ⟨hk, hM3⟩, hb3⟩
    | false =>
      go_region
      all_goals
        go_wp2_with fail
        have h3 : IsBox (w2.alloc (.cells #[.int .i64 o, .int .i64 s, .int .i64 t, .int .i64 c, .bool eb] 85)).drew.drew X B m := h2.alloc (.cells #[.int .i64 o, .int .i64 s, .int .i64 t, .int .i64 c, .bool eb] 85)
        clear l1 l2
        refine wp_tail 6 (by kernel_rfl) (by kernel_rfl) ?_
        simp only [List.take_succ_cons, List.take_zero, List.drop_succ_cons, List.drop_zero]
        repeat still_step
        refine wpStill_nil ?_
        at_mapUpdate
        refine wpList_store _ rfl _ _ _ 86 85 rfl keyPl Try.underlying86 B m rfl h3.2 (o, s) ⟨o, s, t, c, eb⟩ rfl rfl ?_
        intro w3 hM3 hg3 hs3
        go_wp2_with fail
        have hx : some X ≠ some B := fun e => h3.2.notBlk h3.1 (by injection e with e; exact e.symm)
        have hk := h3.1.grown hg3 hx
        have hb3 := below_grown ((hb2.alloc hb2.size (.cells #[.int .i64 o, .int .i64 s, .int .i64 t, .int .i64 c, .bool eb] 85)).drew.drew) hg3
        go_ret
        exact ⟨rfl, ⟨hk, hM3⟩, hb3⟩
  · have hR : keepR m o s t u = 130 := if_neg hv
    have hM : keepM m o s t u c = m := if_neg hv
    rw [hR, hM]
    have hv2 : ((askF (entAt m (o, s)) t u).1 != 0) = true := by simpa using hv
    clear hR hM hv
    generalize (askF (entAt m (o, s)) t u).1 = v0 at *
    generalize (askF (entAt m (o, s)) t u).2 = c0 at *
    replace hA := hid hA
    go_enter Try.func16, Try.ntmps16
    go_wp2_with fail
    refine hA.out.mono ?_
    rintro e1 w1 ⟨rfl, hb⟩
    replace h := h.next hb
    clear hA
    go_wp2_with fail
    go_ret
    exact ⟨rfl, h, grown_of_below hb _⟩

end Go.Proofs.Ytakaalldbnklcaa.In
