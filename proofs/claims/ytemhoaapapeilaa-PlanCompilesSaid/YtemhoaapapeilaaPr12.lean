/-
  (*Plan).Behind, told with the blocks that the plan uses.
  The program's plan and the document's, of one definition copied twice: plainly.
  Rows that a law writes over; a plan of the program and one of the document, held while it does.
-/
import Derived.Test.YtemhoaapapeilaaAs12
import Derived.Test.YtemhoaapapeilaaRk12
import Derived.Test.YtemhoaapapeilaaSetRow
namespace Go.Proofs.Ytemhoaapapeilaa
open Go.RowKit Go.WideShapes Go.ChangeShapes Go.ChangeAt Go.Deep
set_option linter.unusedVariables false

/-- The blocks of what was gathered. -/
def HsU (vH : Value) (Hs : List IRow) (g : Nat) : Prop := vH.ownBlock = some g ∨ ∃ b ∈ Hs, (Value.slice b.A b.xs.length b.cap).ownBlock = some g
/-- What was gathered lies where it lay, or is new. -/
def NewU (vH' : Value) (Hs' : List IRow) (vH : Value) (Hs : List IRow) (dn : Bool) (w : World) : Prop := ∀ g, HsU vH' Hs' g → (dn = true ∧ HsU vH Hs g) ∨ w.heap.size ≤ g
theorem NewU.same {vH' vH : Value} {Hs' Hs : List IRow} {dn : Bool} {w w' : World} (h : NewU vH' Hs' vH Hs dn w) (e : w'.heap.size = w.heap.size) : NewU vH' Hs' vH Hs dn w' := fun g hg => by
  have := h g hg
  rw [e]
  exact this
/-- What Behind leaves. -/
def BehU (xs : List Int) (base : Nat) (nm : ByteArray) (P : Nat) (vS vB : Value) (Ls : List Stp) (Bs : List IRow) (vH : Value) (Hs : List IRow) (dn : Bool) (ask : Int) (w : World) (e : Ending) (w' : World) : Prop := ∃ w3 A cap vH' Hs', e = .returned (.slice A xs.length cap) ∧ w'.ownsRow w3.heap.size 3 1 (.slice A xs.length cap) xs.length (xs.flatMap en1) ∧ PlW base nm P vS vB vH' Ls Bs Hs' true (ask + 1) w3 ∧ HsOk Bs Hs' Ls.length ∧ Touch (· = P) w w3 ∧ Below w3.heap.size w3 w' ∧ NewU vH' Hs' vH Hs dn w
section
variable {base : Nat} {nm : ByteArray} {P : Nat} {vS vB vH : Value} {Ls : List Stp} {Bs Hs : List IRow} {dn : Bool} {ask : Int} {w w' : World}
/-- once.Do(p.gather). -/
theorem do_any3 (h : PlW base nm P vS vB vH Ls Bs Hs dn ask w) (hr : RowsOk Ls Bs) (hok : dn = true → HsOk Bs Hs Ls.length) (hnil : dn = false → vH = .slice none 0 0) :
    Calls Try.prog 37 #[.pointer (some ⟨P, 3, none⟩), .func (.func 38) #[.pointer (some ⟨P, 0, none⟩)] #[]] w fun e w' => e = .returned (.tuple #[]) ∧ ∃ vH' Hs', PlW base nm P vS vB vH' Ls Bs Hs' true ask w' ∧ HsOk Bs Hs' Ls.length ∧ Touch (· = P) w w' ∧ NewU vH' Hs' vH Hs dn w := by
  cases dn with
  | true =>
    refine (do_done12 P _ w (by have := h.p.cell 3; simpa [onceV] using this)).mono ?_
    rintro e w' ⟨rfl, rfl⟩
    exact ⟨rfl, vH, Hs, h, hok rfl, Touch.refl _ _, fun g hg => .inl ⟨rfl, hg⟩⟩
  | false =>
    obtain ⟨SA, sc, hvS, _⟩ := own_slice h.os
    have hP0 : Blk w P 75 #[.string nm, vS, vB, .int .u32 0, .int .i32 0, .int .u32 0, vH, .int .i64 ask] := by simpa [onceV] using h.p
    have hvH := hnil rfl
    subst hvH
    have hp4 := hP0.set_ 4 (.int .i32 1)
    have hT4 := Touch.setCell w P 4 (.int .i32 1)
    obtain ⟨w2, hw2⟩ : ∃ w2, w2 = w.setCell ⟨P, 4, none⟩ (.int .i32 1) := ⟨_, rfl⟩
    have no : ∀ {b0 : Nat} {e : TypeId} {size : Nat} {v : Value} {n : Nat} {xs : List Value}, e ≠ 75 → w.ownsRow b0 e size v n xs → w2.ownsRow b0 e size v n xs := fun hne ho => by rw [hw2]; exact own_touch ho hT4 (fun g hg e => own_notBlk ho h.p hne (by rw [hg, e]))
    have hob2 := no (by decide) h.ob
    have hos2 := no (by decide) h.os
    have hst2 : ∀ s ∈ Ls, OwnSt base w2 s := fun s hs => no (by decide) (h.st s hs)
    have hrw2 : ∀ b ∈ Bs, OwnR base w2 b := fun b hb => no (by decide) (h.rw b hb)
    have hp2 : Blk w2 P 75 (planD nm (.slice SA Ls.length sc) vB (.slice none 0 0) ask) := by rw [hw2, ← hvS]; exact hp4
    have hG := gather_any base nm P SA sc vB Ls.length Bs ask w2 hp2 hob2 hrw2 hr.n (by rw [hr.len]; exact hr.n) hr.up hr.lt (fun b hb => Nat.le_trans (rise_len (hr.up b hb) (hr.lt b hb)) hr.n)
    refine do_first12 P _ w (fun w' => ∃ vH' Hs', PlW base nm P vS vB vH' Ls Bs Hs' true ask w' ∧ HsOk Bs Hs' Ls.length ∧ Touch (· = P) w w' ∧ NewU vH' Hs' (.slice none 0 0) Hs false w) (by rw [hP0.cell]; rfl) ?_
    refine (slow12 P 38 (.pointer (some ⟨P, 0, none⟩)) w _ hP0 rfl rfl (fun w' => ∃ H f, GaP w2 nm P (.slice SA Ls.length sc) vB Ls.length Bs ask H f w') ?_ ?_ ?_).mono ?_
    · rintro w' ⟨H, f, g⟩
      exact ⟨_, g.s.p, rfl, rfl⟩
    · intro w
      exact gather_enter _ w
    · rw [← hw2]; exact hG
    · rintro e w' ⟨rfl, w1, ⟨H, f, g⟩, rfl⟩
      refine ⟨rfl, .slice (some ⟨H, 0, none⟩) Ls.length Ls.length, (List.range Ls.length).map f, ?_⟩
      rw [← and_assoc, and_comm (b := HsOk _ _ _), and_assoc]
      refine ⟨⟨by simp, fun k b hb => ?_⟩, ?_⟩
      · rw [List.getElem?_map] at hb
        by_cases hk : k < Ls.length
        · rw [List.getElem?_range hk] at hb
          simp only [Option.map_some, Option.some.injEq] at hb
          rw [← hb]
          exact g.x k hk
        · rw [List.getElem?_eq_none (by simp; omega)] at hb
          simp at hb
      · have hsz1 : w.heap.size ≤ w1.heap.size := by have := g.s.t.size; rw [hw2] at this; simpa [World.setCell] using this
        have hbs : base ≤ w2.heap.size := by have := h.p.lt; have := h.lo; rw [hw2]; simp [World.setCell]; omega
        have hd : Touch (· = P) w1 w1.drew := (Touch.refl _ _).drew
        have hT := (hd.then (Touch.setCell w1.drew P 3 (.int .u32 1))).then (Touch.setCell (w1.drew.setCell ⟨P, 3, none⟩ (.int .u32 1)) P 4 (.int .i32 0))
        have hT0 := ((hT4.then (by rw [hw2] at g; exact g.s.t)).then hT)
        have hpd : Blk w1.drew P 75 _ := g.s.p
        have hp5 := (hpd.set_ 3 (.int .u32 1)).set_ 4 (.int .i32 0)
        have no5 : ∀ {b0 : Nat} {e : TypeId} {size : Nat} {v : Value} {n : Nat} {xs : List Value}, e ≠ 75 → w1.ownsRow b0 e size v n xs → ((w1.drew.setCell ⟨P, 3, none⟩ (.int .u32 1)).setCell ⟨P, 4, none⟩ (.int .i32 0)).ownsRow b0 e size v n xs := fun hne ho => own_touch ho hT (fun g' hg' e => own_notBlk ho g.s.p hne (by rw [hg', e]))
        refine ⟨h.touchP hT0 (by rw [hvS]; exact hp5) (fun _ => ⟨H, rfl, ?_, ?_, ?_⟩) (fun _ => by simp), hT0, ?_⟩
        · rw [rowsC_map]
          exact hT.blk g.s.h (fun e => g.s.h.ne_ g.s.p (by decide) e)
        · exact Nat.le_trans hbs g.s.lo
        · intro b hb
          obtain ⟨k, hk, rfl⟩ := List.mem_map.1 hb
          exact no5 (by decide) (own_base (g.s.r k (List.mem_range.1 hk)) hbs)
        · have hsz2 : w.heap.size ≤ w2.heap.size := by rw [hw2]; simp [World.setCell]
          intro g' hg'
          right
          rcases hg' with e | ⟨b, hb, e⟩
          · have e2 : H = g' := by simpa [Value.ownBlock] using e
            rw [← e2]
            exact Nat.le_trans hsz2 g.s.lo
          · obtain ⟨k, hk, rfl⟩ := List.mem_map.1 hb
            exact Nat.le_trans hsz2 ((g.s.r k (List.mem_range.1 hk)).lt g' e).1

set_option maxRecDepth 100000 in
set_option maxHeartbeats 8000000 in
theorem behind_any3 (h : PlW base nm P vS vB vH Ls Bs Hs dn ask w) (hr : RowsOk Ls Bs) (hok : dn = true → HsOk Bs Hs Ls.length) (hnil : dn = false → vH = .slice none 0 0) (i : Int) (ha : 0 ≤ ask ∧ ask ≤ 4611686018427387904) :
    Calls Try.prog 14 #[.pointer (some ⟨P, 0, none⟩), .int .i64 i] w (BehU (behL Bs Ls.length i) base nm P vS vB Ls Bs vH Hs dn ask w) := by
  have hT1 := Touch.setCell w P 7 (.int .i64 (ask + 1))
  have h1 := h.touchP (ask' := ask + 1) (vH' := vH) (Hs' := Hs) (dn' := dn) hT1 (h.p.set_ 7 (.int .i64 (ask + 1))) (fun e => by
    obtain ⟨H, a, b, c, d⟩ := h.hs e
    exact ⟨H, a, hT1.blk b (fun e => b.ne_ h.p (by decide) e), c, fun x hx => own_touch (d x hx) hT1 (fun g hg e => own_notBlk (d x hx) h.p (by decide) (by rw [hg, e]))⟩) h.hl
  have KA := hid (add12 P ask w (h.p.cell 7) (h.p.free 7) (by omega))
  obtain ⟨w1, hw1⟩ : ∃ w1, w1 = w.setCell ⟨P, 7, none⟩ (.int .i64 (ask + 1)) := ⟨_, rfl⟩
  rw [← hw1] at h1 KA hT1
  have KD := hid (do_any3 h1 hr hok hnil)
  have lP1 := h1.p.lt
  have HT1 := hid hT1
  have HSZ := hid (show w1.heap.size = w.heap.size from by rw [hw1]; simp [World.setCell])
  have lP := h.p.lt
  clear hw1 h1 h hT1 hok hnil
  go_enter Try.func14, Try.ntmps14
  go_wp2_with fail
  refine KA.out.mono ?_
  rintro e w2 ⟨rfl, rfl⟩
  go_wp2_with fail
  refine KD.out.mono ?_
  rintro e w3 ⟨rfl, vH3, Hs3, h3, o3, t3, n3⟩
  have HN3 := hid (n3.same (w' := w) (by rw [HSZ.out]))
  clear n3
  have hT := HT1.out.then t3
  have KH := hid (has_any (.pointer (some ⟨P, 0, none⟩)) Ls.length i w3 (len_some h3))
  by_cases hi : hasN Ls.length i = true
  · obtain ⟨q, rfl, hq⟩ := hasN_in hi
    rw [hi] at KH
    obtain ⟨H, hvH, bH, hlo, hro⟩ := h3.hs rfl
    have hbq : q < Hs3.length := by rw [o3.1]; exact hq
    have hcell : w3.cell? ⟨H, q, none⟩ = some (.slice Hs3[q].A Hs3[q].xs.length Hs3[q].cap) := by
      rw [bH.cell]
      exact rowsC_at (List.getElem?_eq_getElem hbq)
    have hx := o3.2 q Hs3[q] (List.getElem?_eq_getElem hbq)
    have KC := hid (cloneI_any Hs3[q].xs Hs3[q].A Hs3[q].cap w3 (own_rd (hro _ (List.getElem_mem hbq))) (by rw [hx]; have := hitsB_len hr.up q Bs.length; have := hr.len; have := hr.n; omega))
    have p6 : w3.cell? ⟨P, 6, none⟩ = some (.slice (some ⟨H, 0, none⟩) Ls.length Ls.length) := by rw [h3.p.cell, ← hvH]; rfl
    have lP3 := h3.p.lt
    have lH := bH.lt
    have HF := hid (And.intro h3 (And.intro o3 (And.intro hT hx)))
    have hE : behL Bs Ls.length (q : Int) = Hs3[q].xs := by rw [hx]; simp [behL, hi]
    have HE := hid hE
    clear hE
    obtain ⟨bq, hbq'⟩ : ∃ bq, bq = Hs3[q] := ⟨_, rfl⟩
    rw [← hbq'] at hcell KC HF HE
    clear hbq' hx bH hro h3 o3 hT t3 hlo hvH
    go_wp2_with fail
    refine KH.out.mono ?_
    rintro e w4 ⟨rfl, rfl⟩
    go_wp2_with fail
    refine KC.out.mono ?_
    rintro e w5 ⟨A5, c5, rfl, hO5, hb5⟩
    have HF5 := hid (And.intro hO5 hb5)
    clear hO5 hb5 KC KH p6 lP3 lH hcell
    go_wp2_with fail
    go_ret
    unfold BehU
    rw [HE.out]
    exact ⟨w4, A5, c5, vH3, Hs3, rfl, HF5.out.1, HF.out.1, HF.out.2.1, HF.out.2.2.1, HF5.out.2, HN3.out⟩
  · have hi : hasN Ls.length i = false := by simpa using hi
    rw [hi] at KH
    have hE : behL Bs Ls.length i = [] := by simp [behL, hi]
    have HE := hid hE
    clear hE
    have HF := hid (And.intro h3 (And.intro o3 hT))
    have lP3 := h3.p.lt
    clear h3 o3 hT t3 hi
    go_wp2_with fail
    refine KH.out.mono ?_
    rintro e w4 ⟨rfl, rfl⟩
    go_wp2_with fail
    go_ret
    unfold BehU
    rw [HE.out]
    exact ⟨w4, none, 0, vH3, Hs3, rfl, World.ownsRow_nil _ _ _ _, HF.out.1, HF.out.2.1, HF.out.2.2, Below.refl _ _, HN3.out⟩
/-- The blocks that a plan uses. -/
def PlU (P : Nat) (vS vB vH : Value) (Ls : List Stp) (Bs Hs : List IRow) (dn : Bool) (g : Nat) : Prop :=
  g = P ∨ vS.ownBlock = some g ∨ vB.ownBlock = some g ∨ (∃ s ∈ Ls, (Value.slice s.A s.after.length s.cap).ownBlock = some g) ∨ (∃ b ∈ Bs, (Value.slice b.A b.xs.length b.cap).ownBlock = some g) ∨ (dn = true ∧ HsU vH Hs g)
theorem PlW.use (h : PlW base nm P vS vB vH Ls Bs Hs dn ask w) {g : Nat} (hu : PlU P vS vB vH Ls Bs Hs dn g) : base ≤ g ∧ g < w.heap.size := by
  rcases hu with rfl | e | e | ⟨s, hs, e⟩ | ⟨b, hb, e⟩ | ⟨hd, e⟩
  · exact ⟨h.lo, h.p.lt⟩
  · exact h.os.lt g e
  · exact h.ob.lt g e
  · exact (h.st s hs).lt g e
  · exact (h.rw b hb).lt g e
  · obtain ⟨H, h1, h2, h3, h4⟩ := h.hs hd
    rcases e with e | ⟨b, hb, e⟩
    · rw [h1] at e
      have e2 : H = g := by simpa [Value.ownBlock] using e
      subst e2
      exact ⟨h3, h2.lt⟩
    · exact (h4 b hb).lt g e
theorem PlW.touchS {S : Nat → Prop} (h : PlW base nm P vS vB vH Ls Bs Hs dn ask w) (hT : Touch S w w') (hS : ∀ g, S g → ¬ PlU P vS vB vH Ls Bs Hs dn g) : PlW base nm P vS vB vH Ls Bs Hs dn ask w' := by
  refine ⟨hT.blk h.p (fun e => hS P e (.inl rfl)), own_touch h.os hT (fun g hg e => hS g e (.inr (.inl hg))), own_touch h.ob hT (fun g hg e => hS g e (.inr (.inr (.inl hg)))), fun s hs => own_touch (h.st s hs) hT (fun g hg e => hS g e (.inr (.inr (.inr (.inl ⟨s, hs, hg⟩))))), fun b hb => own_touch (h.rw b hb) hT (fun g hg e => hS g e (.inr (.inr (.inr (.inr (.inl ⟨b, hb, hg⟩)))))), fun e => ?_, h.hl, h.lo⟩
  obtain ⟨H, h1, h2, h3, h4⟩ := h.hs e
  exact ⟨H, h1, hT.blk h2 (fun e2 => hS H e2 (.inr (.inr (.inr (.inr (.inr ⟨e, .inl (by rw [h1]; rfl)⟩)))))), h3, fun b hb => own_touch (h4 b hb) hT (fun g hg e2 => hS g e2 (.inr (.inr (.inr (.inr (.inr ⟨e, .inr ⟨b, hb, hg⟩⟩))))))⟩
end

end Go.Proofs.Ytemhoaapapeilaa

namespace Go.Proofs.Ytemhoaapapeilaa
open Go.RowKit Go.WideShapes Go.ChangeShapes Go.ChangeAt Go.Deep
set_option linter.unusedVariables false

/-- A step, wherever its names lie. -/
def strip (s : Stp) : Stp := twn s none 0
theorem strip_twn (s : Stp) (A : Option Addr) (c : Nat) : strip (twn s A c) = strip s := rfl
theorem Twins.strip {l l' : List Stp} (h : Twins l l') : l'.map strip = l.map strip := by
  apply List.ext_getElem?
  intro i
  rw [List.getElem?_map, List.getElem?_map]
  by_cases hi : i < l.length
  · obtain ⟨A, c, h1⟩ := h.at_ i _ (List.getElem?_eq_getElem hi)
    rw [h1, List.getElem?_eq_getElem hi]
    rfl
  · rw [List.getElem?_eq_none (by rw [h.len]; omega), List.getElem?_eq_none (by omega)]
theorem grf_strip (l : List Stp) : grf (l.map strip) = grf l := by
  unfold grf
  rw [List.map_map]
  refine List.map_congr_left fun s _ => ?_
  show s.after.map _ = s.after.map _
  refine List.map_congr_left fun a _ => ?_
  rw [List.findIdx_map]
  rfl
theorem names_strip (l : List Stp) : NamesOk (l.map strip) ↔ NamesOk l := by
  have e : (l.map strip).map Stp.name = l.map Stp.name := by rw [List.map_map]; rfl
  unfold NamesOk
  rw [e]
  constructor
  · rintro ⟨h1, h2⟩
    exact ⟨h1, fun s hs a ha => h2 (strip s) (List.mem_map_of_mem hs) a ha⟩
  · rintro ⟨h1, h2⟩
    refine ⟨h1, fun s hs a ha => ?_⟩
    obtain ⟨t, ht, rfl⟩ := List.mem_map.1 hs
    exact h2 t ht a ha
theorem fst_strip : ∀ l : List Stp, fstN (l.map strip) = fstN l
  | [] => rfl
  | s :: l => by
    show (if oneN s = 0 then fstN (l.map strip) else oneN s) = _
    rw [fst_strip l]
    rfl
theorem fin_strip (l : List Stp) : FinBad (l.map strip) ↔ FinBad l := by
  unfold FinBad
  rw [grf_strip]
  have ef : ∀ a, (l.map strip).findIdx (isNm a) = l.findIdx (isNm a) := fun a => by rw [List.findIdx_map]; rfl
  constructor
  · rintro ⟨i, s, hs, hf, x, hx, hxf, hn⟩
    rw [List.getElem?_map] at hs
    obtain ⟨t, ht, rfl⟩ := Option.map_eq_some_iff.1 hs
    obtain ⟨y, hy, rfl⟩ := List.mem_map.1 hx
    rw [ef] at hn
    exact ⟨i, t, ht, hf, y, hy, hxf, hn⟩
  · rintro ⟨i, s, hs, hf, x, hx, hxf, hn⟩
    refine ⟨i, strip s, by rw [List.getElem?_map, hs]; rfl, hf, strip x, List.mem_map_of_mem hx, hxf, ?_⟩
    rw [ef]
    exact hn
theorem check_strip (l : List Stp) : checkN (l.map strip) = checkN l := by
  unfold checkN
  rw [grf_strip, fst_strip]
  by_cases h1 : NamesOk l
  · rw [if_pos ((names_strip l).2 h1), if_pos h1]
    by_cases h2 : FinBad l
    · rw [if_pos ((fin_strip l).2 h2), if_pos h2]
    · rw [if_neg (fun h => h2 ((fin_strip l).1 h)), if_neg h2]
  · rw [if_neg (fun h => h1 ((names_strip l).1 h)), if_neg h1]
theorem check_twins {l l' : List Stp} (h : Twins l l') : checkN l' = checkN l := by rw [← check_strip l', h.strip, check_strip]
theorem grf_twins {l l' : List Stp} (h : Twins l l') : grf l' = grf l := by rw [← grf_strip l', h.strip, grf_strip]

theorem pickL_mem {p : Stp → Bool} {Ls : List Stp} {x : Int} : ∀ {k : Nat}, x ∈ pickL p Ls k ↔ ∃ (q : Nat) (t : Stp), q < k ∧ x = (q : Int) ∧ Ls[q]? = some t ∧ p t = true
  | 0 => ⟨fun h => (by cases h), fun ⟨q, _, h, _⟩ => (by omega)⟩
  | k + 1 => by
    show x ∈ pickL p Ls k ++ _ ↔ _
    rw [List.mem_append, pickL_mem (k := k)]
    constructor
    · rintro (⟨q, t, h1, h2, h3, h4⟩ | h)
      · exact ⟨q, t, by omega, h2, h3, h4⟩
      · split at h
        · rename_i t ht
          split at h
          · rename_i hp
            simp at h
            exact ⟨k, t, by omega, h, ht, hp⟩
          · cases h
        · cases h
    · rintro ⟨q, t, h1, h2, h3, h4⟩
      by_cases e : q = k
      · subst e
        right
        rw [h3]
        simp [h4, h2]
      · left
        exact ⟨q, t, by omega, h2, h3, h4⟩
theorem pickL_rise (p : Stp → Bool) (Ls : List Stp) : ∀ k, (pickL p Ls k).Pairwise (· < ·)
  | 0 => List.Pairwise.nil
  | k + 1 => by
    show (pickL p Ls k ++ _).Pairwise (· < ·)
    refine List.pairwise_append.2 ⟨pickL_rise p Ls k, ?_, fun x hx y hy => ?_⟩
    · split
      · split
        · exact List.pairwise_singleton _ _
        · exact List.Pairwise.nil
      · exact List.Pairwise.nil
    · obtain ⟨q, _, h1, h2, _⟩ := pickL_mem.1 hx
      split at hy
      · split at hy
        · simp at hy; omega
        · cases hy
      · cases hy
theorem waitB_iff (s t : Stp) : waitB s t = true ↔ t.name ∈ s.after := by
  unfold waitB
  rw [List.any_eq_true]
  constructor
  · rintro ⟨a, ha, h⟩
    rw [← bytes_eq_of h]
    exact ha
  · intro h
    exact ⟨_, h, by simp⟩
section
variable {l lg lr : List Stp} {ds : List Nat} {Ls : List Stp} {Bs : List IRow} {Lr : List Stp}
theorem two_steps (hg : PlG lg ds Ls Bs) (hr : OrdL lr ds Lr) (hlg : Twins l lg) (hlr : Twins l lr) {i : Nat} (hi : i < Ls.length) :
    ∃ (s : Stp) (A1 : Option Addr) (c1 : Nat) (A2 : Option Addr) (c2 : Nat), s ∈ l ∧ stepAt Ls (i : Int) = twn s A1 c1 ∧ Lr[i]? = some (twn s A2 c2) ∧ ∃ k, ds[i]? = some k ∧ l[k]? = some s := by
  have hd : ds[i]? = some (ds[i]'(by rw [← hg.ls]; exact hi)) := List.getElem?_eq_getElem _
  obtain ⟨s1, A1, c1, u1, v1⟩ := hg.step _ _ hd
  have hk : ds[i]'(by rw [← hg.ls]; exact hi) < l.length := by rw [← hlg.len]; exact (List.getElem?_eq_some_iff.1 u1).1
  have hs := List.getElem?_eq_getElem hk
  obtain ⟨A3, c3, h3⟩ := hlg.at_ _ _ hs
  obtain ⟨A4, c4, h4⟩ := hlr.at_ _ _ hs
  have h5 := hr.at_ _ _ hd
  rw [u1] at h3
  injection h3 with h3
  rw [h4] at h5
  exact ⟨_, A1, c1, A4, c4, List.getElem_mem hk, by rw [stepAt_in v1, h3]; rfl, h5, _, hd, hs⟩
theorem same_before (hN : NamesOk l) (ho : OrdOk (grf l) ds) (hg : PlG lg ds Ls Bs) (hr : OrdL lr ds Lr) (hlg : Twins l lg) (hlr : Twins l lr) {i : Nat} {s : Stp} (hi : i < Ls.length) (hs : Lr[i]? = some s) :
    rowAt Bs (i : Int) = pickL (fun t => waitB s t) Lr Lr.length := by
  have hd : ds[i]? = some (ds[i]'(by rw [← hg.ls]; exact hi)) := List.getElem?_eq_getElem _
  obtain ⟨b, q1, r1⟩ := hg.row _ _ hd
  rw [grf_twins hlg] at r1
  rw [rowAt_in q1]
  refine rise_ext r1.1 (pickL_rise _ _ _) fun x => ?_
  rw [r1.2, pickL_mem]
  obtain ⟨s', A1, c1, A2, c2, hsl, _, hsr, k0, hk0, hl0⟩ := two_steps hg hr hlg hlr hi
  rw [hs] at hsr
  injection hsr with hsr
  rw [hd] at hk0
  injection hk0 with hk0
  rw [hk0, grf_adj hl0]
  have haf : s.after = s'.after := by rw [hsr]; rfl
  constructor
  · rintro ⟨k, hk, rfl⟩
    obtain ⟨a, ha, rfl⟩ := List.mem_map.1 hk
    obtain ⟨t, ht, htn, _⟩ := hN.idx (hN.2 _ hsl a ha)
    have hkd : l.findIdx (isNm a) ∈ ds := List.mem_of_mem_take (ho.before i _ (by rw [hd, hk0]) _ (by rw [grf_adj hl0]; exact hk))
    have hlt := List.idxOf_lt_length_of_mem hkd
    have hix : ds[ds.idxOf (l.findIdx (isNm a))]? = some (l.findIdx (isNm a)) := by rw [List.getElem?_eq_getElem hlt, List.getElem_idxOf hlt]
    obtain ⟨A4, c4, h4⟩ := hlr.at_ _ _ ht
    have h5 := hr.at_ _ _ hix
    rw [h4] at h5
    refine ⟨_, _, by rw [hr.len]; exact hlt, rfl, h5, ?_⟩
    rw [waitB_iff, haf]
    show t.name ∈ _
    rw [htn]; exact ha
  · rintro ⟨q, t, hq, rfl, ht, hw⟩
    rw [waitB_iff, haf] at hw
    have hdq : ds[q]? = some (ds[q]'(by rw [← hr.len]; exact hq)) := List.getElem?_eq_getElem _
    have h5 := hr.at_ _ _ hdq
    rw [ht] at h5
    have hkl : ds[q]'(by rw [← hr.len]; exact hq) < l.length := by rw [← hlr.len]; exact (List.getElem?_eq_some_iff.1 h5.symm).1
    obtain ⟨A4, c4, h4⟩ := hlr.at_ _ _ (List.getElem?_eq_getElem hkl)
    rw [h4] at h5
    injection h5 with h5
    have hfi := nm_find hN (List.getElem?_eq_getElem hkl)
    have htn : t.name = (l[ds[q]'(by rw [← hr.len]; exact hq)]).name := by rw [h5]; rfl
    refine ⟨ds[q]'(by rw [← hr.len]; exact hq), List.mem_map.2 ⟨t.name, hw, by rw [htn]; exact hfi⟩, ?_⟩
    have hql : q < ds.length := by rw [← hr.len]; exact hq
    have hm : ds[q] ∈ ds := List.getElem_mem hql
    have hlt := List.idxOf_lt_length_of_mem hm
    have h9 : ds[ds.idxOf ds[q]]? = some ds[q] := by rw [List.getElem?_eq_getElem hlt, List.getElem_idxOf hlt]
    have := (List.getElem?_inj (j := q) hlt ho.nodup).1 (h9.trans hdq.symm)
    exact congrArg (fun z : Nat => (z : Int)) this.symm
theorem hitsB_rise {Bs : List IRow} (h : ∀ b ∈ Bs, b.xs.Pairwise (· < ·)) (k : Nat) : ∀ m, (hitsB Bs k m).Pairwise (· < ·) ∧ ∀ x ∈ hitsB Bs k m, x < (m : Int)
  | 0 => ⟨List.Pairwise.nil, fun x hx => by cases hx⟩
  | m + 1 => by
    obtain ⟨h1, h2⟩ := hitsB_rise h k m
    have hm : ∀ y ∈ hitsR k m (((Bs[m]?).map IRow.xs).getD []), y = (m : Int) := fun y hy => by
      unfold hitsR at hy
      obtain ⟨z, _, rfl⟩ := List.mem_map.1 hy
      rfl
    have hl : (hitsR k m (((Bs[m]?).map IRow.xs).getD [])).length ≤ 1 := by
      cases hb : Bs[m]? with
      | none => simp [hitsR]
      | some b => exact hitsR_rise (h b (List.mem_of_getElem? hb))
    show (hitsB Bs k m ++ hitsR k m _).Pairwise (· < ·) ∧ ∀ x ∈ hitsB Bs k m ++ hitsR k m _, x < ((m + 1 : Nat) : Int)
    refine ⟨List.pairwise_append.2 ⟨h1, ?_, fun x hx y hy => by rw [hm y hy]; exact h2 x hx⟩, fun x hx => ?_⟩
    · generalize hitsR k m (((Bs[m]?).map IRow.xs).getD []) = xs at hl
      match xs, hl with
      | [], _ => exact List.Pairwise.nil
      | [x], _ => exact List.pairwise_singleton _ _
      | x :: y :: r, hl => simp at hl
    · rcases List.mem_append.1 hx with hx | hx
      · have := h2 x hx; push_cast; omega
      · have := hm x hx; push_cast; omega
theorem hitsB_mem {Bs : List IRow} {k : Nat} {x : Int} : ∀ {m : Nat}, x ∈ hitsB Bs k m ↔ ∃ i : Nat, i < m ∧ x = (i : Int) ∧ (k : Int) ∈ rowAt Bs (i : Int)
  | 0 => ⟨fun h => (by cases h), fun ⟨i, h, _⟩ => (by omega)⟩
  | m + 1 => by
    have hrow : ∀ i : Nat, rowAt Bs (i : Int) = ((Bs[i]?).map IRow.xs).getD [] := fun i => by
      unfold rowAt
      rw [if_pos (by omega)]
      simp
    show x ∈ hitsB Bs k m ++ hitsR k m _ ↔ _
    rw [List.mem_append, hitsB_mem (m := m)]
    constructor
    · rintro (⟨i, h1, h2, h3⟩ | h)
      · exact ⟨i, by omega, h2, h3⟩
      · unfold hitsR at h
        obtain ⟨y, hy, rfl⟩ := List.mem_map.1 h
        obtain ⟨hy1, hy2⟩ := List.mem_filter.1 hy
        have : y = (k : Int) := by simpa using hy2
        subst this
        exact ⟨m, by omega, rfl, by rw [hrow]; exact hy1⟩
    · rintro ⟨i, h1, h2, h3⟩
      by_cases e : i = m
      · subst e
        right
        unfold hitsR
        rw [hrow] at h3
        exact List.mem_map.2 ⟨(k : Int), List.mem_filter.2 ⟨h3, by simp⟩, h2.symm⟩
      · left
        exact ⟨i, by omega, h2, h3⟩
theorem same_behind (hN : NamesOk l) (ho : OrdOk (grf l) ds) (hrow : RowsOk Ls Bs) (hg : PlG lg ds Ls Bs) (hr : OrdL lr ds Lr) (hlg : Twins l lg) (hlr : Twins l lr) {i : Nat} {s : Stp} (hi : i < Ls.length) (hs : Lr[i]? = some s) :
    behL Bs Ls.length (i : Int) = pickL (fun t => waitB t s) Lr Lr.length := by
  have h1 : behL Bs Ls.length (i : Int) = hitsB Bs i Bs.length := by
    have h2 : hasN Ls.length (i : Int) = true := by simp [hasN]; exact hi
    unfold behL
    rw [if_pos h2]
    simp
  have hLL : Ls.length = Lr.length := by rw [hg.ls, hr.len]
  rw [h1, hrow.len]
  refine rise_ext (hitsB_rise hrow.up i _).1 (pickL_rise _ _ _) fun x => ?_
  rw [hitsB_mem, pickL_mem]
  constructor
  · rintro ⟨p, hp, rfl, hm⟩
    obtain ⟨t, ht⟩ : ∃ t, Lr[p]? = some t := ⟨Lr[p]'(by rw [← hLL]; exact hp), List.getElem?_eq_getElem _⟩
    rw [same_before hN ho hg hr hlg hlr hp ht] at hm
    obtain ⟨q, t', hq, e, ht', hw⟩ := pickL_mem.1 hm
    have : q = i := by omega
    subst this
    rw [hs] at ht'
    injection ht' with ht'
    subst ht'
    exact ⟨p, t, by omega, rfl, ht, hw⟩
  · rintro ⟨p, t, hp, rfl, ht, hw⟩
    refine ⟨p, by omega, rfl, ?_⟩
    rw [same_before hN ho hg hr hlg hlr (by omega) ht]
    exact pickL_mem.2 ⟨i, s, by omega, rfl, hs, hw⟩
end

end Go.Proofs.Ytemhoaapapeilaa

namespace Go.Proofs.Ytemhoaapapeilaa
open Go.RowKit Go.WideShapes Go.ChangeShapes Go.ChangeAt Go.Deep
set_option linter.unusedVariables false

/-- A row of texts of the call's own, whatever stands in it. -/
def StrR (base : Nat) (w : World) (A : Option Addr) (n cap : Nat) : Prop := ∃ xs : List ByteArray, xs.length = n ∧ w.ownsRow base 9 1 (.slice A n cap) n (xs.flatMap enB)
def IntR (base : Nat) (w : World) (A : Option Addr) (n cap : Nat) : Prop := ∃ xs : List Int, xs.length = n ∧ w.ownsRow base 3 1 (.slice A n cap) n (xs.flatMap en1)
section
variable {base n cap : Nat} {w w' : World} {A : Option Addr}
theorem StrR.touch {S : Nat → Prop} (h : StrR base w A n cap) (hT : Touch S w w') (hS : ∀ g, (Value.slice A n cap).ownBlock = some g → ¬ S g) : StrR base w' A n cap := by
  obtain ⟨xs, h1, h2⟩ := h
  exact ⟨xs, h1, own_touch h2 hT hS⟩
theorem IntR.touch {S : Nat → Prop} (h : IntR base w A n cap) (hT : Touch S w w') (hS : ∀ g, (Value.slice A n cap).ownBlock = some g → ¬ S g) : IntR base w' A n cap := by
  obtain ⟨xs, h1, h2⟩ := h
  exact ⟨xs, h1, own_touch h2 hT hS⟩
theorem own_formR {e : TypeId} {size : Nat} {xs : List Value} (h : w.ownsRow base e size (.slice A n cap) n xs) {j : Nat} (hj : j < n) : ∃ g, A = some ⟨g, 0, none⟩ := by
  rcases h.2 with ⟨e, h0⟩ | ⟨g, c', cur, e, _⟩
  · omega
  · simp only [Value.slice.injEq] at e
    exact ⟨g, e.1⟩
theorem StrR.at_ (h : StrR base w A n cap) {j : Nat} (hj : j < n) : ∃ g a, A = some ⟨g, 0, none⟩ ∧ base ≤ g ∧ g < w.heap.size ∧ w.cell? ⟨g, j, none⟩ = some (.string a) ∧ w.frozen? ⟨g, j, none⟩ = false := by
  obtain ⟨xs, h1, h2⟩ := h
  obtain ⟨g, rfl⟩ := own_formR h2 hj
  have hl := h2.lt g rfl
  have hx : xs[j]? = some xs[j] := List.getElem?_eq_getElem (by omega)
  refine ⟨g, xs[j], rfl, hl.1, hl.2, ?_, h2.frozenAt j⟩
  rw [h2.cellAt j (by omega)]
  have := getElem?_flatMap enB 1 enB_len xs j xs[j] hx 0 (by omega)
  simpa [enB] using this
theorem IntR.at_ (h : IntR base w A n cap) {j : Nat} (hj : j < n) : ∃ g a, A = some ⟨g, 0, none⟩ ∧ base ≤ g ∧ g < w.heap.size ∧ w.cell? ⟨g, j, none⟩ = some (.int .i64 a) ∧ w.frozen? ⟨g, j, none⟩ = false := by
  obtain ⟨xs, h1, h2⟩ := h
  obtain ⟨g, rfl⟩ := own_formR h2 hj
  have hl := h2.lt g rfl
  have hx : xs[j]? = some xs[j] := List.getElem?_eq_getElem (by omega)
  refine ⟨g, xs[j], rfl, hl.1, hl.2, ?_, h2.frozenAt j⟩
  rw [h2.cellAt j (by omega)]
  have := getElem?_flatMap en1 1 (fun _ => rfl) xs j xs[j] hx 0 (by omega)
  simpa [en1] using this
theorem StrR.put (h : StrR base w A n cap) (g o : Nat) (b : ByteArray) : StrR base (w.setCell ⟨g, o, none⟩ (.string b)) A n cap := by
  obtain ⟨xs, h1, h2⟩ := h
  by_cases hg : (Value.slice A n cap).ownBlock = some g
  · obtain ⟨g', e⟩ : ∃ g', A = some ⟨g', 0, none⟩ := by
      rcases h2.2 with ⟨e, h0⟩ | ⟨g', c', cur, e, _⟩
      · rw [e] at hg; cases hg
      · simp only [Value.slice.injEq] at e
        exact ⟨g', e.1⟩
    subst e
    have e2 : g' = g := by simpa [Value.ownBlock] using hg
    subst e2
    obtain ⟨h3, _⟩ := h2.stored o (.string b)
    by_cases ho : o < xs.length
    · refine ⟨xs.set o b, by rw [List.length_set]; exact h1, ?_⟩
      have := set_flat enB 1 enB_len xs o 0 xs[o] (.string b) (List.getElem?_eq_getElem ho) (by omega) b rfl
      rw [Nat.mul_one, Nat.add_zero] at this
      rw [← this]
      exact h3
    · refine ⟨xs, h1, ?_⟩
      have e3 : (xs.flatMap enB).set o (.string b) = xs.flatMap enB := List.set_eq_of_length_le (by rw [show (xs.flatMap enB).length = xs.length from by rw [flat_enB_len]; omega]; omega)
      rw [e3] at h3
      exact h3
  · exact ⟨xs, h1, own_touch h2 (Touch.setCell w g o _) (fun g' hg' e => hg (by rw [hg', e]))⟩
theorem IntR.put (h : IntR base w A n cap) (g o : Nat) (b : Int) : IntR base (w.setCell ⟨g, o, none⟩ (.int .i64 b)) A n cap := by
  obtain ⟨xs, h1, h2⟩ := h
  by_cases hg : (Value.slice A n cap).ownBlock = some g
  · obtain ⟨g', e⟩ : ∃ g', A = some ⟨g', 0, none⟩ := by
      rcases h2.2 with ⟨e, h0⟩ | ⟨g', c', cur, e, _⟩
      · rw [e] at hg; cases hg
      · simp only [Value.slice.injEq] at e
        exact ⟨g', e.1⟩
    subst e
    have e2 : g' = g := by simpa [Value.ownBlock] using hg
    subst e2
    obtain ⟨h3, _⟩ := h2.stored o (.int .i64 b)
    by_cases ho : o < xs.length
    · refine ⟨xs.set o b, by rw [List.length_set]; exact h1, ?_⟩
      have := set_flat en1 1 (fun _ => rfl) xs o 0 xs[o] (.int .i64 b) (List.getElem?_eq_getElem ho) (by omega) b rfl
      rw [Nat.mul_one, Nat.add_zero] at this
      rw [← this]
      exact h3
    · refine ⟨xs, h1, ?_⟩
      have e4 : (xs.flatMap en1).length = xs.length := by rw [flat_en1, List.length_map]
      have e3 : (xs.flatMap en1).set o (.int .i64 b) = xs.flatMap en1 := List.set_eq_of_length_le (by omega)
      rw [e3] at h3
      exact h3
  · exact ⟨xs, h1, own_touch h2 (Touch.setCell w g o _) (fun g' hg' e => hg (by rw [hg', e]))⟩
end
/-- Both plans, held. -/
structure PcS (w0 : World) (bG base : Nat) (nm : ByteArray) (P : Nat) (vS vB : Value) (Ls : List Stp) (Bs : List IRow) (base2 R : Nat) (SA : Option Addr) (sc : Nat) (Lr : List Stp) (vH : Value) (Hs : List IRow) (dn : Bool) (ask : Int) (w : World) : Prop where
  p : PlW base nm P vS vB vH Ls Bs Hs dn ask w
  hok : dn = true → HsOk Bs Hs Ls.length
  hnil : dn = false → vH = .slice none 0 0
  rows : RowsOk Ls Bs
  aft : ∀ s ∈ Ls, s.after.length * 16 ≤ 140737488355328
  r : RpS base2 R nm SA sc Lr w
  af : ∀ s ∈ Lr, ∀ b, s.A.map (·.block) = some b → b < bG
  bel : Below w0.heap.size w0 w
  lo : w0.heap.size ≤ bG
  lp : bG ≤ base
  lr : bG ≤ base2 ∧ base2 ≤ R
section
variable {w0 w w' : World} {bG base : Nat} {nm : ByteArray} {P : Nat} {vS vB : Value} {Ls : List Stp} {Bs : List IRow} {base2 R : Nat} {SA : Option Addr} {sc : Nat} {Lr : List Stp} {vH : Value} {Hs : List IRow} {dn : Bool} {ask : Int}
theorem PcS.as (h : PcS w0 bG base nm P vS vB Ls Bs base2 R SA sc Lr vH Hs dn ask w) : AsS w0 base nm P vS vB Ls Bs ask w := ⟨⟨vH, Hs, dn, h.p, h.hok, h.hnil⟩, h.rows, h.aft, h.bel, Nat.le_trans h.lo h.lp⟩
theorem PcS.next (h : PcS w0 bG base nm P vS vB Ls Bs base2 R SA sc Lr vH Hs dn ask w) (hb : Below w.heap.size w w') : PcS w0 bG base nm P vS vB Ls Bs base2 R SA sc Lr vH Hs dn ask w' := ⟨h.p.next hb, h.hok, h.hnil, h.rows, h.aft, h.r.next hb, h.af, bthen h.bel hb, h.lo, h.lp, h.lr⟩
/-- The document's plan, when other blocks are written. -/
theorem RpS.touch {S : Nat → Prop} (h : RpS base2 R nm SA sc Lr w) (haf : ∀ s ∈ Lr, ∀ b, s.A.map (·.block) = some b → b < bG) (hT : Touch S w w') (hS : ∀ g, S g → bG ≤ g ∧ g ≠ R ∧ (Value.slice SA Lr.length sc).ownBlock ≠ some g) : RpS base2 R nm SA sc Lr w' :=
  ⟨hT.blk h.p (fun e => (hS R e).2.1 rfl), own_touch h.os hT (fun g hg e => (hS g e).2.2 hg), fun s hs => ⟨hT.rd (h.ok s hs).row (fun b hb e => by have := haf s hs b hb; have := (hS b e).1; omega), (h.ok s hs).len⟩, h.n⟩
theorem PcS.touch {S : Nat → Prop} (h : PcS w0 bG base nm P vS vB Ls Bs base2 R SA sc Lr vH Hs dn ask w) (hT : Touch S w w') (hS : ∀ g, S g → bG ≤ g ∧ ¬ PlU P vS vB vH Ls Bs Hs dn g ∧ g ≠ R ∧ (Value.slice SA Lr.length sc).ownBlock ≠ some g) : PcS w0 bG base nm P vS vB Ls Bs base2 R SA sc Lr vH Hs dn ask w' :=
  ⟨h.p.touchS hT (fun g hg => (hS g hg).2.1), h.hok, h.hnil, h.rows, h.aft, h.r.touch h.af hT (fun g hg => ⟨(hS g hg).1, (hS g hg).2.2⟩), h.af, h.bel.trans (hT.below h.bel.size (fun k hk => Nat.le_trans h.lo (hS k hk).1)), h.lo, h.lp, h.lr⟩
/-- The blocks of the copied definition may be written. -/
theorem PcS.touchG {bP : Nat} (h : PcS w0 bG base nm P vS vB Ls Bs base2 R SA sc Lr vH Hs dn ask w) (hT : Touch (fun g => bG ≤ g ∧ g < bP) w w') (h1 : bP ≤ base) (h2 : bP ≤ base2) : PcS w0 bG base nm P vS vB Ls Bs base2 R SA sc Lr vH Hs dn ask w' :=
  h.touch hT (fun g hg => ⟨hg.1, fun hu => by have := (h.p.use hu).1; omega, fun e => by have := h.lr.2; omega, fun e => by have := (h.r.os.lt g e).1; omega⟩)
/-- While what was answered is written over. -/
structure PcM (n0 n1 n2 : Nat) (P : Nat) (vS vB : Value) (Ls : List Stp) (Bs : List IRow) (R : Nat) (SA : Option Addr) (sc : Nat) (Lr : List Stp) (vH : Value) (Hs : List IRow) (bG : Nat) : Prop where
  u : ∀ g, PlU P vS vB vH Ls Bs Hs true g → g < n0 ∨ (n1 ≤ g ∧ g < n2)
  r : R < n0
  ro : ∀ g, (Value.slice SA Lr.length sc).ownBlock = some g → g < n0
  b : bG ≤ n0
  le : n0 ≤ n1 ∧ n1 ≤ n2
theorem PcS.mark {n0 n1 n2 : Nat} {S : Nat → Prop} (h : PcS w0 bG base nm P vS vB Ls Bs base2 R SA sc Lr vH Hs true ask w) (hm : PcM n0 n1 n2 P vS vB Ls Bs R SA sc Lr vH Hs bG) (hT : Touch S w w') (hS : ∀ g, S g → (n0 ≤ g ∧ g < n1) ∨ n2 ≤ g) : PcS w0 bG base nm P vS vB Ls Bs base2 R SA sc Lr vH Hs true ask w' :=
  h.touch hT (fun g hg => by
    have h1 := hS g hg
    have h2 := hm.b
    have h3 := hm.le
    refine ⟨by omega, fun hu => ?_, fun e => ?_, fun e => ?_⟩
    · have := hm.u g hu; omega
    · have := hm.r; omega
    · have := hm.ro g e; omega)
theorem PcS.behind (h : PcS w0 bG base nm P vS vB Ls Bs base2 R SA sc Lr vH Hs dn ask w) (i : Int) (ha : 0 ≤ ask ∧ ask ≤ 4611686018427387904) (n0 : Nat) (hu : ∀ g, PlU P vS vB vH Ls Bs Hs dn g → g < n0) (hr : R < n0) (hro : ∀ g, (Value.slice SA Lr.length sc).ownBlock = some g → g < n0) (hb : bG ≤ n0) (hn : n0 ≤ w.heap.size) :
    Calls Try.prog 14 #[.pointer (some ⟨P, 0, none⟩), .int .i64 i] w fun e w' => ∃ (n2 : Nat) (A : Option Addr) (cap : Nat) (vH' : Value) (Hs' : List IRow), e = .returned (.slice A (behL Bs Ls.length i).length cap) ∧ w'.ownsRow n2 3 1 (.slice A (behL Bs Ls.length i).length cap) (behL Bs Ls.length i).length ((behL Bs Ls.length i).flatMap en1) ∧
      PcS w0 bG base nm P vS vB Ls Bs base2 R SA sc Lr vH' Hs' true (ask + 1) w' ∧ PcM n0 w.heap.size n2 P vS vB Ls Bs R SA sc Lr vH' Hs' bG ∧ Touch (· = P) w w' := by
  refine (behind_any3 h.p h.rows h.hok h.hnil i ha).mono ?_
  rintro e w' ⟨w3, A, cap, vH', Hs', rfl, hO, hP, hH, hT, hb3, hN⟩
  have hPle := h.p.lo
  have hr3 := h.r.touch h.af hT (fun g hg => ⟨by rw [hg]; exact Nat.le_trans h.lp hPle, fun e => by
    have e2 : P = R := by rw [← hg, e]
    exact (h.p.p.ne_ h.r.p (by decide)) e2, fun e => own_notBlk h.r.os h.p.p (by decide) (by rw [e, hg])⟩)
  have hbel3 := h.bel.trans (hT.below h.bel.size (fun k hk => by rw [hk]; exact Nat.le_trans h.lo (Nat.le_trans h.lp hPle)))
  refine ⟨w3.heap.size, A, cap, vH', Hs', rfl, hO, ⟨hP.next hb3, (fun _ => hH), (fun e => by cases e), h.rows, h.aft, hr3.next hb3, h.af, bthen hbel3 hb3, h.lo, h.lp, h.lr⟩, ⟨fun g hg => ?_, hr, hro, hb, hn, hT.size⟩, hT.then (Touch.of_below hb3)⟩
  have h2 := (hP.use hg).2
  rcases hg with e | e | e | e | e | ⟨_, e⟩
  · exact .inl (hu g (.inl e))
  · exact .inl (hu g (.inr (.inl e)))
  · exact .inl (hu g (.inr (.inr (.inl e))))
  · exact .inl (hu g (.inr (.inr (.inr (.inl e)))))
  · exact .inl (hu g (.inr (.inr (.inr (.inr (.inl e))))))
  · rcases hN g e with ⟨hd, h3⟩ | h3
    · exact .inl (hu g (.inr (.inr (.inr (.inr (.inr ⟨hd, h3⟩))))))
    · exact .inr ⟨h3, h2⟩
end

end Go.Proofs.Ytemhoaapapeilaa
