/-
  Restore of the stock book: what is good of its lists, and the sums. No walk.
-/
import Derived.Test.YthfaaimmfdidnaaRtw15
namespace Go.Proofs.Ythfaaimmfdidnaa
open Go.RowKit Go.ChangeAt
set_option linter.unusedVariables false

/-- Goods that an argument brings. -/
structure GA where
  o : Int
  st : Int
  A : Option Addr
  cap : Nat
  ls : List Ln
instance : Inhabited GA := ⟨⟨0, 0, none, 0, []⟩⟩
def enGA (x : GA) : List Value := [.int .i64 x.o, .int .i64 x.st, .slice x.A x.ls.length x.cap]
theorem enGA_len (x : GA) : (enGA x).length = 3 := rfl
def oddI (n : Int) : Bool := decide (n < 0) || decide (1125899906842624 < n)

/-- A level that may be. -/
def LevOk (v : Lv) : Prop := (1 ≤ v.i ∧ v.i ≤ 64) ∧ (([v.r, v.h, v.a, v.s, v.t] : List Int).any oddI = false) ∧ v.r = v.h + v.a + v.s - v.t
/-- The first k levels may be. -/
def LevsOk (vs : List Lv) (k : Nat) : Prop := ∀ j v, j < k → vs[j]? = some v → LevOk v ∧ v.i ∉ (vs.take j).map Lv.i
/-- The levels of a book that the first k make. -/
structure LvZ (vs : List Lv) (k : Nat) (lv : List (Int × Lv)) : Prop where
  keys : lv.map (·.1) = (vs.take k).map Lv.i
  zero : ∀ id a, mget lv id = some a → a = newLv a.g id ∧ 1 ≤ id ∧ id ≤ 64
theorem LvZ.nil (vs : List Lv) : LvZ vs 0 [] := ⟨by simp, fun _ _ h => by simp [mget] at h⟩
theorem LvZ.more {vs : List Lv} {k : Nat} {lv : List (Int × Lv)} {v : Lv} (h : LvZ vs k lv) (hv : vs[k]? = some v) (hm : mget lv v.i = none) (hok : 1 ≤ v.i ∧ v.i ≤ 64) (g : Nat) : LvZ vs (k + 1) (mset lv v.i (newLv g v.i)) := by
  refine ⟨?_, fun id a ha => ?_⟩
  · rw [mset_new hm, List.map_append, h.keys, List.take_add_one, hv]
    simp
  · rw [mget_mset] at ha
    split at ha
    · rename_i e
      injection ha with ha
      subst ha e
      exact ⟨rfl, hok⟩
    · exact h.zero id a ha
theorem LevsOk.more {vs : List Lv} {k : Nat} {v : Lv} (h : LevsOk vs k) (hv : vs[k]? = some v) (h1 : LevOk v) (h2 : v.i ∉ (vs.take k).map Lv.i) : LevsOk vs (k + 1) := fun j u hj hu => by
  by_cases e : j = k
  · subst e; rw [hv] at hu; injection hu with hu; subst hu; exact ⟨h1, h2⟩
  · exact h j u (by omega) hu


theorem qOf_append (l r : List Ln) (id : Int) : qOf (l ++ r) id = qOf l id + qOf r id := by
  induction l with
  | nil => simp [qOf]
  | cons x l ih => simp only [List.cons_append, qOf, ih]; omega
theorem sq_append (l r : List (Int × Gd)) (st id : Int) : sq st (l ++ r) id = sq st l id + sq st r id := by
  induction l with
  | nil => simp [sq]
  | cons x l ih => simp only [List.cons_append, sq, ih]; omega
theorem sq_new {gs : List (Int × Gd)} {o : Int} {d : Gd} (h : mget gs o = none) (st id : Int) : sq st (mset gs o d) id = sq st gs id + (if d.st = st then qOf d.ls id else 0) := by
  rw [mset_new h, sq_append]
  simp [sq]
/-- The sums of goods that an argument brings. -/
def sqA (st : Int) : List GA → Int → Int
  | [], _ => 0
  | x :: l, id => (if x.st = st then qOf x.ls id else 0) + sqA st l id
/-- The goods of the book, and those of the argument. -/
def GsI (gl : List GA) (gs : List (Int × Gd)) : Prop := gs.map (fun p => (p.1, p.2.o, p.2.st, p.2.ls)) = gl.map (fun x => (x.o, x.o, x.st, x.ls))
theorem GsI.keys {gl : List GA} {gs : List (Int × Gd)} (h : GsI gl gs) : gs.map (·.1) = gl.map GA.o := by
  have := congrArg (List.map Prod.fst) h
  simpa [List.map_map, Function.comp_def] using this
theorem GsI.sq : ∀ {gl : List GA} {gs : List (Int × Gd)}, GsI gl gs → ∀ st id, sq st gs id = sqA st gl id := by
  intro gl
  induction gl with
  | nil => intro gs h st id; unfold GsI at h; simp at h; subst h; rfl
  | cons x gl ih =>
    intro gs h st id
    cases gs with
    | nil => unfold GsI at h; simp at h
    | cons p gs =>
      unfold GsI at h
      simp only [List.map_cons, List.cons.injEq, Prod.mk.injEq] at h
      simp only [Go.Proofs.Ythfaaimmfdidnaa.sq, sqA, h.1.2.2.1, h.1.2.2.2, ih h.2]
theorem GsI.len {gl : List GA} {gs : List (Int × Gd)} (h : GsI gl gs) : gs.length = gl.length := by
  have := congrArg List.length h
  simpa using this
theorem GsI.more {gl : List GA} {gs : List (Int × Gd)} (h : GsI gl gs) {x : GA} {d : Gd} (hn : mget gs x.o = none) (h1 : d.o = x.o) (h2 : d.st = x.st) (h3 : d.ls = x.ls) : GsI (gl ++ [x]) (mset gs x.o d) := by
  unfold GsI at *
  rw [mset_new hn, List.map_append, List.map_append, h]
  simp [h1, h2, h3]
/-- What a line adds to a sum. -/
def addS (st : Int) (a : Lv) (q : Int) : Lv := ⟨a.g, a.i, a.r, a.h, if st = 1 then a.a + q else a.a, if st = 1 then a.s else a.s + q, if st = 3 then a.t + q else a.t⟩
/-- The sums: of these goods, and of lines of goods in this state. -/
def SumI (sm : List (Int × Lv)) (gs : List (Int × Gd)) (st : Int) (l : List Ln) : Prop := ∀ id a, mget sm id = some a → a.a = sq 1 gs id + (if st = 1 then qOf l id else 0) ∧ a.s = sq 2 gs id + sq 3 gs id + (if st = 1 then 0 else qOf l id) ∧ a.t = sq 3 gs id + (if st = 3 then qOf l id else 0)
section
variable {sm lv : List (Int × Lv)} {gs : List (Int × Gd)} {st : Int} {l : List Ln}
theorem SumI.any (h : SumI sm gs st []) (st' : Int) : SumI sm gs st' [] := fun id a ha => by
  have := h id a ha
  simpa [qOf] using this
theorem SumI.step (h : SumI sm gs st l) {x : Ln} {a : Lv} (ha : mget sm x.i = some a) : SumI (mset sm x.i (addS st a x.q)) gs st (l ++ [x]) := fun id b hb => by
  rw [mget_mset] at hb
  split at hb
  · rename_i e
    injection hb with hb
    subst hb e
    have := h x.i a ha
    simp only [addS, qOf_append, qOf, if_true, Int.add_zero]
    refine ⟨?_, ?_, ?_⟩ <;> split <;> rename_i e <;> simp only [e, if_true, if_false] at this ⊢ <;> omega
  · rename_i e
    have := h id b hb
    rw [qOf_append]
    simp only [qOf, if_neg (fun e' : x.i = id => e e'.symm)]
    simpa using this
theorem SumI.done (h : SumI sm gs st l) {o : Int} {d : Gd} (hn : mget gs o = none) (hd : d.st = st ∧ d.ls = l) (hst : 1 ≤ st ∧ st ≤ 3) : SumI sm (mset gs o d) 1 [] := fun id a ha => by
  have := h id a ha
  obtain ⟨rfl, rfl⟩ := hd
  rw [sq_new hn, sq_new hn, sq_new hn]
  simp only [qOf, if_true]
  rcases (show d.st = 1 ∨ d.st = 2 ∨ d.st = 3 from by omega) with e | e | e <;> simp only [e] at this ⊢ <;> simp at this ⊢ <;> omega
theorem SumI.bd (h : SumI sm gs st l) (hg : ∀ p ∈ gs, ∀ k, LnOk p.2.ls k) (hlen : gs.length ≤ 3000000000000) {id : Int} {a : Lv} (ha : mget sm id = some a) (hl : 0 ≤ qOf l id ∧ qOf l id ≤ 1000000) : (0 ≤ a.a ∧ a.a ≤ 4000000000000000000) ∧ (0 ≤ a.s ∧ a.s ≤ 8000000000000000000) ∧ 0 ≤ a.t ∧ a.t ≤ 4000000000000000000 := by
  have h0 := h id a ha
  have h1 := sq_bd hg 1 id
  have h2 := sq_bd hg 2 id
  have h3 := sq_bd hg 3 id
  refine ⟨?_, ?_, ?_⟩
  · split at h0 <;> omega
  · by_cases e : st = 1
    · simp only [e, if_true] at h0; omega
    · simp only [e, if_false] at h0; omega
  · by_cases e : st = 3
    · simp only [e, if_true] at h0; omega
    · simp only [e, if_false] at h0; omega
end
/-- The first k goods may be. -/
def GlOk (vs : List Lv) (gl : List GA) (k : Nat) : Prop := ∀ j x, j < k → gl[j]? = some x → FitOk x.o x.ls ∧ (1 ≤ x.st ∧ x.st ≤ 3) ∧ (∀ y ∈ x.ls, y.i ∈ vs.map Lv.i) ∧ x.o ∉ (gl.take j).map GA.o
theorem GlOk.more {vs : List Lv} {gl : List GA} {k : Nat} {x : GA} (h : GlOk vs gl k) (hx : gl[k]? = some x) (h1 : FitOk x.o x.ls ∧ (1 ≤ x.st ∧ x.st ≤ 3) ∧ (∀ y ∈ x.ls, y.i ∈ vs.map Lv.i) ∧ x.o ∉ (gl.take k).map GA.o) : GlOk vs gl (k + 1) := fun j u hj hu => by
  by_cases e : j = k
  · subst e; rw [hx] at hu; injection hu with hu; subst hu; exact h1
  · exact h j u (by omega) hu
/-- fit and the state's bounds, against the lists. -/
theorem fit_iff {vs : List Lv} {gl : List GA} {k : Nat} {lv : List (Int × Lv)} {gs : List (Int × Gd)} {x : GA} (hk : lv.map (·.1) = vs.map Lv.i) (hg : GsI (gl.take k) gs) : errF lv gs x.o x.ls = 0 ↔ FitOk x.o x.ls ∧ (∀ y ∈ x.ls, y.i ∈ vs.map Lv.i) ∧ x.o ∉ (gl.take k).map GA.o := by
  have e1 : (knowF lv x.ls = true) ↔ ∀ y ∈ x.ls, y.i ∈ vs.map Lv.i := by
    rw [knowF_iff]
    exact ⟨fun h y hy => by obtain ⟨a, ha⟩ := h y hy; rw [← hk]; exact mget_isSome.1 (by rw [ha]; rfl), fun h y hy => mget_key (hk ▸ h y hy)⟩
  have e2 : mget gs x.o = none ↔ x.o ∉ (gl.take k).map GA.o := by
    rw [← hg.keys]
    cases hm : mget gs x.o with
    | none => exact ⟨fun _ hin => (by obtain ⟨a, ha⟩ := mget_key hin; rw [hm] at ha; cases ha), fun _ => rfl⟩
    | some a => exact ⟨fun h => (by cases h), fun h => absurd (mget_isSome.1 (by rw [hm]; rfl)) h⟩
  rw [← e1, ← e2]
  exact ⟨errF_zero, fun ⟨h1, h2, h3⟩ => errF_ok h1 h2 (by rw [h3]; rfl)⟩
/-- The first k levels of the book are the given. -/
def LvF (vs : List Lv) (k : Nat) (lv : List (Int × Lv)) : Prop := lv.map (·.1) = vs.map Lv.i ∧ ∀ j v, j < k → vs[j]? = some v → ∃ g, mget lv v.i = some ⟨g, v.i, v.r, v.h, v.a, v.s, v.t⟩
theorem LvF.more {vs : List Lv} {k : Nat} {lv : List (Int × Lv)} {v a : Lv} (h : LvF vs k lv) (hok : LevsOk vs vs.length) (hv : vs[k]? = some v) (ha : mget lv v.i = some a) (hd : (lv.map (·.1)).Nodup) : LvF vs (k + 1) (mset lv v.i ⟨a.g, v.i, v.r, v.h, v.a, v.s, v.t⟩) := by
  refine ⟨?_, fun j u hj hu => ?_⟩
  · rw [← h.1]
    rw [mset_keys, if_pos (mget_isSome.1 (by rw [ha]; rfl))]
  · rw [mget_mset]
    by_cases e : j = k
    · subst e; rw [hv] at hu; injection hu with hu; subst hu; exact ⟨a.g, by rw [if_pos rfl]⟩
    · rw [if_neg (fun e' : u.i = v.i => ?_)]
      · exact h.2 j u (by omega) hu
      · have hk := (List.getElem?_eq_some_iff.1 hv).1
        refine (hok k v hk hv).2 (List.mem_map.2 ⟨u, List.mem_of_getElem? (i := j) ?_, e'⟩)
        rw [List.getElem?_take_of_lt (by omega), hu]
/-- Lists that Restore takes. -/
def RGood (vs : List Lv) (gl : List GA) : Prop := LevsOk vs vs.length ∧ GlOk vs gl gl.length ∧ ∀ v ∈ vs, v.a = sqA 1 gl v.i ∧ v.s = sqA 2 gl v.i + sqA 3 gl v.i ∧ v.t = sqA 3 gl v.i
theorem RGood.book {vs : List Lv} {gl : List GA} (h : RGood vs gl) {lv : List (Int × Lv)} {gs : List (Int × Gd)} (hl : LvF vs vs.length lv) (hg : GsI gl gs) (hd : (lv.map (·.1)).Nodup) (hn : (gs.map (·.1)).Nodup) : GoodB lv gs := by
  have hlv : ∀ id a, mget lv id = some a → ∃ (j : Nat) (v : Lv), vs[j]? = some v ∧ v.i = id ∧ a = ⟨a.g, v.i, v.r, v.h, v.a, v.s, v.t⟩ := fun id a ha => by
    have : id ∈ vs.map Lv.i := by rw [← hl.1]; exact mget_isSome.1 (by rw [ha]; rfl)
    obtain ⟨v, hv, rfl⟩ := List.mem_map.1 this
    obtain ⟨j, hj⟩ := List.mem_iff_getElem?.1 hv
    obtain ⟨g, hg⟩ := hl.2 j v (List.getElem?_eq_some_iff.1 hj).1 hj
    rw [hg] at ha
    injection ha with ha
    subst ha
    exact ⟨j, v, hj, rfl, rfl⟩
  have hgd : ∀ o d, mget gs o = some d → ∃ (j : Nat) (x : GA), gl[j]? = some x ∧ o = x.o ∧ d.o = x.o ∧ d.st = x.st ∧ d.ls = x.ls := fun o d hm => by
    obtain ⟨j, hj⟩ := List.mem_iff_getElem?.1 (mget_mem hm)
    have h1 : (gs.map (fun p => (p.1, p.2.o, p.2.st, p.2.ls)))[j]? = some (o, d.o, d.st, d.ls) := by rw [List.getElem?_map, hj]; rfl
    rw [show gs.map (fun p => (p.1, p.2.o, p.2.st, p.2.ls)) = _ from hg, List.getElem?_map] at h1
    cases hx : gl[j]? with
    | none => rw [hx] at h1; cases h1
    | some x =>
      rw [hx] at h1
      simp only [Option.map_some, Option.some.injEq, Prod.mk.injEq] at h1
      exact ⟨j, x, hx, h1.1.symm, h1.2.1.symm, h1.2.2.1.symm, h1.2.2.2.symm⟩
  have hbd : ∀ {v : Lv}, LevOk v → (0 ≤ v.r ∧ v.r ≤ 1125899906842624) ∧ 0 ≤ v.h := fun {v} hv => by
    have := hv.2.1
    simp only [List.any_cons, List.any_nil, oddI, Bool.or_false, Bool.or_eq_false_iff, decide_eq_false_iff_not] at this
    omega
  refine ⟨hd, hn, fun id a ha => ?_, fun o d hm => ?_, fun o d hm => ?_, fun id a ha => ?_⟩
  · obtain ⟨j, v, hj, rfl, e⟩ := hlv id a ha
    have h1 := (h.1 j v (List.getElem?_eq_some_iff.1 hj).1 hj).1
    have h2 := hbd h1
    rw [e]
    exact ⟨rfl, h1.1, h2.1⟩
  · obtain ⟨j, x, hj, rfl, h1, h2, h3⟩ := hgd o d hm
    have h4 := h.2.1 j x (List.getElem?_eq_some_iff.1 hj).1 hj
    exact ⟨h1, h3 ▸ h4.1, h2 ▸ h4.2.1⟩
  · obtain ⟨j, x, hj, rfl, h1, h2, h3⟩ := hgd o d hm
    have h4 := h.2.1 j x (List.getElem?_eq_some_iff.1 hj).1 hj
    rw [h3, knowF_iff]
    exact fun y hy => mget_key (hl.1 ▸ h4.2.2.1 y hy)
  · obtain ⟨j, v, hj, rfl, e⟩ := hlv id a ha
    have h1 := (h.1 j v (List.getElem?_eq_some_iff.1 hj).1 hj).1
    have h2 := hbd h1
    have h3 := h.2.2 v (List.mem_of_getElem? hj)
    have h4 := h1.2.2
    rw [e, hg.sq, hg.sq, hg.sq]
    simp only
    omega
theorem RGood.no1 {vs : List Lv} {gl : List GA} {k : Nat} (h : ¬ LevsOk vs (k + 1)) (hk : k < vs.length) : ¬ RGood vs gl := fun hh => h fun j v hj hv => hh.1 j v (by omega) hv
theorem RGood.no2 {vs : List Lv} {gl : List GA} {k : Nat} (h : ¬ GlOk vs gl (k + 1)) (hk : k < gl.length) : ¬ RGood vs gl := fun hh => h fun j v hj hv => hh.2.1 j v (by omega) hv
theorem LevsOk.fresh {vs : List Lv} {k : Nat} {v : Lv} {sm : List (Int × Lv)} (h : LevsOk vs vs.length) (hz : LvZ vs k sm) (hv : vs[k]? = some v) : mget sm v.i = none ∧ 1 ≤ v.i ∧ v.i ≤ 64 := by
  have h1 := h k v (List.getElem?_eq_some_iff.1 hv).1 hv
  refine ⟨?_, h1.1.1⟩
  cases hm : mget sm v.i with
  | none => rfl
  | some a => exact absurd (hz.keys ▸ mget_isSome.1 (by rw [hm]; rfl)) h1.2
theorem gs_fit {vs : List Lv} {gl : List GA} {k : Nat} {gs : List (Int × Gd)} (h : GlOk vs gl k) (hg : GsI (gl.take k) gs) : ∀ p ∈ gs, ∀ j, LnOk p.2.ls j := fun p hp j => by
  obtain ⟨i, hi⟩ := List.mem_iff_getElem?.1 hp
  have h1 : (gs.map (fun p => (p.1, p.2.o, p.2.st, p.2.ls)))[i]? = some (p.1, p.2.o, p.2.st, p.2.ls) := by rw [List.getElem?_map, hi]; rfl
  rw [show gs.map (fun p => (p.1, p.2.o, p.2.st, p.2.ls)) = _ from hg, List.getElem?_map] at h1
  cases hx : (gl.take k)[i]? with
  | none => rw [hx] at h1; cases h1
  | some x =>
    rw [hx] at h1
    simp only [Option.map_some, Option.some.injEq, Prod.mk.injEq] at h1
    rw [← h1.2.2.2]
    have h2 : i < k := by have := (List.getElem?_eq_some_iff.1 hx).1; simp at this; omega
    rw [List.getElem?_take_of_lt h2] at hx
    exact (h i x h2 hx).1.2 j
theorem gs_few {gl : List GA} {k n : Nat} {gs : List (Int × Gd)} (hg : GsI (gl.take k) gs) (hn : gl.length ≤ n) : gs.length ≤ n := by
  have := hg.len
  simp at this
  omega
theorem qOf_take {l : List Ln} (h : ∀ k, LnOk l k) (j : Nat) (id : Int) : 0 ≤ qOf (l.take j) id ∧ qOf (l.take j) id ≤ 1000000 :=
  qOf_bd (fun x hx => (lines_pw h).1 x (List.mem_of_mem_take hx)) ((lines_pw h).2.sublist (List.take_sublist _ _)) id

end Go.Proofs.Ythfaaimmfdidnaa
