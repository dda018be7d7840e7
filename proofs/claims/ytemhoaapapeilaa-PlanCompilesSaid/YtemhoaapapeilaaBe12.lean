/-
  (*Plan).Behind and Asked.
-/
import Derived.Test.YtemhoaapapeilaaGa12
namespace Go.Proofs.Ytemhoaapapeilaa
open Go.RowKit Go.WideShapes Go.ChangeShapes Go.ChangeAt Go.Deep
set_option linter.unusedVariables false

/-- What was gathered is right. -/
def HsOk (Bs Hs : List IRow) (n : Nat) : Prop := Hs.length = n ∧ ∀ (k : Nat) (b : IRow), Hs[k]? = some b → b.xs = hitsB Bs k Bs.length
theorem rowsC_map (n : Nat) (f : Nat → IRow) : rowsC ((List.range n).map f) = rngC n fun k => .slice (f k).A (f k).xs.length (f k).cap := by
  unfold rowsC rngC
  apply Array.ext'
  rw [List.flatMap_map]
  simp only [enR, Array.toList_map, Array.toList_range]
  induction n with
  | zero => rfl
  | succ n ih => simp only [List.range_succ, List.flatMap_append, List.map_append, ih]; rfl
theorem rowsC_at {Hs : List IRow} {q : Nat} {b : IRow} (h : Hs[q]? = some b) : (rowsC Hs)[q]? = some (.slice b.A b.xs.length b.cap) := by
  have e : ∀ Hs : List IRow, Hs.flatMap enR = Hs.map fun b => .slice b.A b.xs.length b.cap := fun Hs => by
    induction Hs with
    | nil => rfl
    | cons b Hs ih => rw [List.flatMap_cons, ih]; rfl
  unfold rowsC
  rw [e]
  simp [h]
section
variable {base : Nat} {nm : ByteArray} {P : Nat} {vS vB vH : Value} {Ls : List Stp} {Bs Hs : List IRow} {dn : Bool} {ask : Int} {w w' : World}
/-- What is known of the rows of a plan. -/
structure RowsOk (Ls : List Stp) (Bs : List IRow) : Prop where
  len : Bs.length = Ls.length
  n : Ls.length ≤ 1000
  up : ∀ b ∈ Bs, b.xs.Pairwise (· < ·)
  lt : ∀ b ∈ Bs, ∀ x ∈ b.xs, ∃ q : Nat, x = (q : Int) ∧ q < Ls.length
theorem rise_len : ∀ {xs : List Int} {n : Nat}, xs.Pairwise (· < ·) → (∀ x ∈ xs, ∃ q : Nat, x = (q : Int) ∧ q < n) → xs.length ≤ n := fun {xs n} h hi => by
  have hd : xs.Nodup := h.imp (fun e => by omega)
  have := sub_lenG (b := (List.range n).map fun k : Nat => (k : Int)) hd (fun x hx => by
    obtain ⟨q, rfl, hq⟩ := hi x hx
    exact List.mem_map.2 ⟨q, List.mem_range.2 hq, rfl⟩)
  simpa using this
theorem PlW.touchP {ask' : Int} {vH' : Value} {Hs' : List IRow} {dn' : Bool} (h : PlW base nm P vS vB vH Ls Bs Hs dn ask w) (hT : Touch (· = P) w w') (hp : Blk w' P 75 #[.string nm, vS, vB, onceV dn', .int .i32 0, .int .u32 0, vH', .int .i64 ask'])
    (hh : dn' = true → ∃ H, vH' = .slice (some ⟨H, 0, none⟩) Ls.length Ls.length ∧ Blk w' H 36 (rowsC Hs') ∧ base ≤ H ∧ ∀ b ∈ Hs', OwnR base w' b) (hl : dn' = true → Hs'.length = Ls.length) : PlW base nm P vS vB vH' Ls Bs Hs' dn' ask' w' := by
  have no : ∀ {b0 : Nat} {e : TypeId} {size : Nat} {v : Value} {n : Nat} {xs : List Value}, e ≠ 75 → w.ownsRow b0 e size v n xs → w'.ownsRow b0 e size v n xs := fun hne ho => own_touch ho hT (fun g hg e => own_notBlk ho h.p hne (by rw [hg, e]))
  exact ⟨hp, no (by decide) h.os, no (by decide) h.ob, fun s hs => no (by decide) (h.st s hs), fun b hb => no (by decide) (h.rw b hb), hh, hl, h.lo⟩

set_option maxRecDepth 100000 in
theorem behind_nil (i : Int) (w : World) : Calls Try.prog 14 #[.pointer none, .int .i64 i] w fun e w' => e = .returned (.slice none 0 0) ∧ w' = w := by
  go_enter Try.func14, Try.ntmps14
  go_wp2_with fail
  go_ret
  exact ⟨rfl, rfl⟩
set_option maxRecDepth 100000 in
theorem asked_nil (w : World) : Calls Try.prog 18 #[.pointer none] w fun e w' => e = .returned (.int .i64 0) ∧ w' = w := by
  go_enter Try.func18, Try.ntmps18
  go_wp2_with fail
  go_ret
  exact ⟨rfl, rfl⟩
set_option maxRecDepth 100000 in
theorem asked_some (h : PlW base nm P vS vB vH Ls Bs Hs dn ask w) : Calls Try.prog 18 #[.pointer (some ⟨P, 0, none⟩)] w fun e w' => e = .returned (.int .i64 ask) ∧ w' = w := by
  have KL := hid (load12 P ask w (h.p.cell 7))
  clear h
  go_enter Try.func18, Try.ntmps18
  go_wp2_with fail
  refine KL.out.mono ?_
  rintro e w2 ⟨rfl, rfl⟩
  go_wp2_with fail
  go_ret
  exact ⟨rfl, rfl⟩
theorem gather_enter (args : Array Value) (w : World) : (callFunc 38 args).run Try.prog w = .ok (.enter 38 args) w := by
  have f1 := Try.func38
  have f2 : (Try.f38.name == "runtime.NumGoroutine") = false := by kernel_rfl
  obtain ⟨c, f3⟩ : ∃ c, Try.f38.body = some c := ⟨_, rfl⟩
  have h1 : Try.f38.name ≠ "runtime.NumGoroutine" := by simpa using f2
  simp [callFunc, f1, h1, f3]
/-- once.Do(p.gather). -/
theorem do_any (h : PlW base nm P vS vB vH Ls Bs Hs dn ask w) (hr : RowsOk Ls Bs) (hok : dn = true → HsOk Bs Hs Ls.length) (hnil : dn = false → vH = .slice none 0 0) :
    Calls Try.prog 37 #[.pointer (some ⟨P, 3, none⟩), .func (.func 38) #[.pointer (some ⟨P, 0, none⟩)] #[]] w fun e w' => e = .returned (.tuple #[]) ∧ ∃ vH' Hs', PlW base nm P vS vB vH' Ls Bs Hs' true ask w' ∧ HsOk Bs Hs' Ls.length ∧ Touch (· = P) w w' := by
  cases dn with
  | true =>
    refine (do_done12 P _ w (by have := h.p.cell 3; simpa [onceV] using this)).mono ?_
    rintro e w' ⟨rfl, rfl⟩
    exact ⟨rfl, vH, Hs, h, hok rfl, Touch.refl _ _⟩
  | false =>
    obtain ⟨SA, sc, hvS, _⟩ := own_slice h.os
    have hP0 : Blk w P 75 #[.string nm, vS, vB, .int .u32 0, .int .i32 0, .int .u32 0, vH, .int .i64 ask] := by simpa [onceV] using h.p
    have hvH := hnil rfl
    subst hvH
    have hp4 := hP0.set_ 4 (.int .i32 1)
    have hT4 := Touch.setCell w P 4 (.int .i32 1)
    obtain ⟨w2, hw2⟩ : ∃ w2, w2 = w.setCell ⟨P, 4, none⟩ (.int .i32 1) := ⟨_, rfl⟩
    have no : ∀ {b0 : Nat} {e : TypeId} {size : Nat} {v : Value} {n : Nat} {xs : List Value}, e ≠ 75 → w.ownsRow b0 e size v n xs → w2.ownsRow b0 e size v n xs := fun hne ho => by rw [hw2]; exact own_touch ho hT4 (fun g hg e => own_notBlk ho h.p hne (by rw [hg, e]))
    have hob2 := no (by decide) h.ob
    have hos2 := no (by decide) h.os
    have hst2 : ∀ s ∈ Ls, OwnSt base w2 s := fun s hs => no (by decide) (h.st s hs)
    have hrw2 : ∀ b ∈ Bs, OwnR base w2 b := fun b hb => no (by decide) (h.rw b hb)
    have hp2 : Blk w2 P 75 (planD nm (.slice SA Ls.length sc) vB (.slice none 0 0) ask) := by rw [hw2, ← hvS]; exact hp4
    have hG := gather_any base nm P SA sc vB Ls.length Bs ask w2 hp2 hob2 hrw2 hr.n (by rw [hr.len]; exact hr.n) hr.up hr.lt (fun b hb => Nat.le_trans (rise_len (hr.up b hb) (hr.lt b hb)) hr.n)
    refine do_first12 P _ w (fun w' => ∃ vH' Hs', PlW base nm P vS vB vH' Ls Bs Hs' true ask w' ∧ HsOk Bs Hs' Ls.length ∧ Touch (· = P) w w') (by rw [hP0.cell]; rfl) ?_
    refine (slow12 P 38 (.pointer (some ⟨P, 0, none⟩)) w _ hP0 rfl rfl (fun w' => ∃ H f, GaP w2 nm P (.slice SA Ls.length sc) vB Ls.length Bs ask H f w') ?_ ?_ ?_).mono ?_
    · rintro w' ⟨H, f, g⟩
      exact ⟨_, g.s.p, rfl, rfl⟩
    · intro w
      exact gather_enter _ w
    · rw [← hw2]; exact hG
    · rintro e w' ⟨rfl, w1, ⟨H, f, g⟩, rfl⟩
      refine ⟨rfl, .slice (some ⟨H, 0, none⟩) Ls.length Ls.length, (List.range Ls.length).map f, ?_⟩
      rw [← and_assoc, and_comm (b := HsOk _ _ _), and_assoc]
      refine ⟨⟨by simp, fun k b hb => ?_⟩, ?_⟩
      · rw [List.getElem?_map] at hb
        by_cases hk : k < Ls.length
        · rw [List.getElem?_range hk] at hb
          simp only [Option.map_some, Option.some.injEq] at hb
          rw [← hb]
          exact g.x k hk
        · rw [List.getElem?_eq_none (by simp; omega)] at hb
          simp at hb
      · have hsz1 : w.heap.size ≤ w1.heap.size := by have := g.s.t.size; rw [hw2] at this; simpa [World.setCell] using this
        have hbs : base ≤ w2.heap.size := by have := h.p.lt; have := h.lo; rw [hw2]; simp [World.setCell]; omega
        have hd : Touch (· = P) w1 w1.drew := (Touch.refl _ _).drew
        have hT := (hd.then (Touch.setCell w1.drew P 3 (.int .u32 1))).then (Touch.setCell (w1.drew.setCell ⟨P, 3, none⟩ (.int .u32 1)) P 4 (.int .i32 0))
        have hT0 := ((hT4.then (by rw [hw2] at g; exact g.s.t)).then hT)
        have hpd : Blk w1.drew P 75 _ := g.s.p
        have hp5 := (hpd.set_ 3 (.int .u32 1)).set_ 4 (.int .i32 0)
        have no5 : ∀ {b0 : Nat} {e : TypeId} {size : Nat} {v : Value} {n : Nat} {xs : List Value}, e ≠ 75 → w1.ownsRow b0 e size v n xs → ((w1.drew.setCell ⟨P, 3, none⟩ (.int .u32 1)).setCell ⟨P, 4, none⟩ (.int .i32 0)).ownsRow b0 e size v n xs := fun hne ho => own_touch ho hT (fun g' hg' e => own_notBlk ho g.s.p hne (by rw [hg', e]))
        refine ⟨h.touchP hT0 (by rw [hvS]; exact hp5) (fun _ => ⟨H, rfl, ?_, ?_, ?_⟩) (fun _ => by simp), hT0⟩
        · rw [rowsC_map]
          exact hT.blk g.s.h (fun e => g.s.h.ne_ g.s.p (by decide) e)
        · exact Nat.le_trans hbs g.s.lo
        · intro b hb
          obtain ⟨k, hk, rfl⟩ := List.mem_map.1 hb
          exact no5 (by decide) (own_base (g.s.r k (List.mem_range.1 hk)) hbs)

/-- What stands behind a step. -/
def behL (Bs : List IRow) (n : Nat) (i : Int) : List Int := if hasN n i then hitsB Bs i.toNat Bs.length else []
/-- What Behind leaves. -/
def BehR (xs : List Int) (base : Nat) (nm : ByteArray) (P : Nat) (vS vB : Value) (Ls : List Stp) (Bs : List IRow) (ask : Int) (w : World) (e : Ending) (w' : World) : Prop := ∃ A cap vH' Hs', e = .returned (.slice A xs.length cap) ∧ w'.ownsRow w.heap.size 3 1 (.slice A xs.length cap) xs.length (xs.flatMap en1) ∧ PlW base nm P vS vB vH' Ls Bs Hs' true (ask + 1) w' ∧ HsOk Bs Hs' Ls.length ∧ Touch (· = P) w w'
set_option maxRecDepth 100000 in
set_option maxHeartbeats 8000000 in
theorem behind_any (h : PlW base nm P vS vB vH Ls Bs Hs dn ask w) (hr : RowsOk Ls Bs) (hok : dn = true → HsOk Bs Hs Ls.length) (hnil : dn = false → vH = .slice none 0 0) (i : Int) (ha : 0 ≤ ask ∧ ask ≤ 4611686018427387904) :
    Calls Try.prog 14 #[.pointer (some ⟨P, 0, none⟩), .int .i64 i] w (BehR (behL Bs Ls.length i) base nm P vS vB Ls Bs ask w) := by
  have hT1 := Touch.setCell w P 7 (.int .i64 (ask + 1))
  have h1 := h.touchP (ask' := ask + 1) (vH' := vH) (Hs' := Hs) (dn' := dn) hT1 (h.p.set_ 7 (.int .i64 (ask + 1))) (fun e => by
    obtain ⟨H, a, b, c, d⟩ := h.hs e
    exact ⟨H, a, hT1.blk b (fun e => b.ne_ h.p (by decide) e), c, fun x hx => own_touch (d x hx) hT1 (fun g hg e => own_notBlk (d x hx) h.p (by decide) (by rw [hg, e]))⟩) h.hl
  have KA := hid (add12 P ask w (h.p.cell 7) (h.p.free 7) (by omega))
  obtain ⟨w1, hw1⟩ : ∃ w1, w1 = w.setCell ⟨P, 7, none⟩ (.int .i64 (ask + 1)) := ⟨_, rfl⟩
  rw [← hw1] at h1 KA hT1
  have KD := hid (do_any h1 hr hok hnil)
  have lP1 := h1.p.lt
  have HT1 := hid hT1
  have lP := h.p.lt
  clear hw1 h1 h hT1 hok hnil
  go_enter Try.func14, Try.ntmps14
  go_wp2_with fail
  refine KA.out.mono ?_
  rintro e w2 ⟨rfl, rfl⟩
  go_wp2_with fail
  refine KD.out.mono ?_
  rintro e w3 ⟨rfl, vH3, Hs3, h3, o3, t3⟩
  have hT := HT1.out.then t3
  have KH := hid (has_any (.pointer (some ⟨P, 0, none⟩)) Ls.length i w3 (len_some h3))
  by_cases hi : hasN Ls.length i = true
  · obtain ⟨q, rfl, hq⟩ := hasN_in hi
    rw [hi] at KH
    obtain ⟨H, hvH, bH, hlo, hro⟩ := h3.hs rfl
    have hbq : q < Hs3.length := by rw [o3.1]; exact hq
    have hcell : w3.cell? ⟨H, q, none⟩ = some (.slice Hs3[q].A Hs3[q].xs.length Hs3[q].cap) := by
      rw [bH.cell]
      exact rowsC_at (List.getElem?_eq_getElem hbq)
    have hx := o3.2 q Hs3[q] (List.getElem?_eq_getElem hbq)
    have KC := hid (cloneI_any Hs3[q].xs Hs3[q].A Hs3[q].cap w3 (own_rd (hro _ (List.getElem_mem hbq))) (by rw [hx]; have := hitsB_len hr.up q Bs.length; have := hr.len; have := hr.n; omega))
    have p6 : w3.cell? ⟨P, 6, none⟩ = some (.slice (some ⟨H, 0, none⟩) Ls.length Ls.length) := by rw [h3.p.cell, ← hvH]; rfl
    have lP3 := h3.p.lt
    have lH := bH.lt
    have HF := hid (And.intro h3 (And.intro o3 (And.intro hT hx)))
    have hE : behL Bs Ls.length (q : Int) = Hs3[q].xs := by rw [hx]; simp [behL, hi]
    have HE := hid hE
    clear hE
    obtain ⟨bq, hbq'⟩ : ∃ bq, bq = Hs3[q] := ⟨_, rfl⟩
    rw [← hbq'] at hcell KC HF HE
    clear hbq' hx bH hro h3 o3 hT t3 hlo hvH
    go_wp2_with fail
    refine KH.out.mono ?_
    rintro e w4 ⟨rfl, rfl⟩
    go_wp2_with fail
    refine KC.out.mono ?_
    rintro e w5 ⟨A5, c5, rfl, hO5, hb5⟩
    have HF5 := hid (And.intro hO5 hb5)
    clear hO5 hb5 KC KH p6 lP3 lH hcell
    go_wp2_with fail
    go_ret
    unfold BehR
    rw [HE.out]
    exact ⟨A5, c5, vH3, Hs3, rfl, own_base HF5.out.1 HF.out.2.2.1.size, HF.out.1.next HF5.out.2, HF.out.2.1, HF.out.2.2.1.then (Touch.of_below HF5.out.2)⟩
  · have hi : hasN Ls.length i = false := by simpa using hi
    rw [hi] at KH
    have hE : behL Bs Ls.length i = [] := by simp [behL, hi]
    have HE := hid hE
    clear hE
    have HF := hid (And.intro h3 (And.intro o3 hT))
    have lP3 := h3.p.lt
    clear h3 o3 hT t3 hi
    go_wp2_with fail
    refine KH.out.mono ?_
    rintro e w4 ⟨rfl, rfl⟩
    go_wp2_with fail
    go_ret
    unfold BehR
    rw [HE.out]
    exact ⟨none, 0, vH3, Hs3, rfl, World.ownsRow_nil _ _ _ _, HF.out.1, HF.out.2.1, HF.out.2.2⟩
end

end Go.Proofs.Ytemhoaapapeilaa
