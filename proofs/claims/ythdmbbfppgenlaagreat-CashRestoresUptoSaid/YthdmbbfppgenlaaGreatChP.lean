/-
  Money of orders, told plainly: an account, what is open, what it is in the ledger; books of accounts.
-/
import Derived.Test.YthdmbbfppgenlaaGreatChPost
namespace Go.Proofs.YthdmbbfppgenlaaGreat
open Go.RowKit
set_option linter.unusedVariables false

structure Ca where
  o : Int
  c : Int
  st : Int
  lv : Int
  net : Int
  tax : Int
  ap : Int
  wr : Int
  dep : Int
deriving DecidableEq
instance : Inhabited Ca := ⟨⟨0, 0, 0, 0, 0, 0, 0, 0, 0⟩⟩
/-- An account in the book, and its block. -/
structure CP where
  g : Nat
  a : Ca

def openC (a : Ca) : Int := if a.st = 1 then a.net + a.tax - a.ap - a.wr else 0
def paidC (a : Ca) : Bool := decide (a.st = 1) && decide (openC a = 0)
/-- What the account is in the ledger. -/
def con (a : Ca) (k : Int) : Int :=
  (if k = 0 then a.dep + (if a.st = 1 then a.ap else 0) else 0) + (if k = 1 then openC a else 0) + (if k = 2 then (if a.st = 1 then -a.net else 0) else 0) + (if k = 3 then (if a.st = 1 then -a.tax else 0) else 0) + (if k = 4 then -a.dep else 0) + (if k = 5 then (if a.st = 1 then a.wr else 0) else 0)
/-- What the account takes of the turnover, at least. -/
def wt (a : Ca) : Int := a.dep + if a.st = 1 then a.net + a.tax + a.ap + a.wr else 0
structure FitC (a : Ca) : Prop where
  o1 : 1 ≤ a.o
  c1 : 1 ≤ a.c
  c2 : a.c ≤ 64
  s0 : 0 ≤ a.st
  s2 : a.st ≤ 2
  l0 : 0 ≤ a.lv
  l3 : a.lv ≤ 3
  n0 : 0 ≤ a.net
  n1 : a.net ≤ 281474976710656
  t0 : 0 ≤ a.tax
  t1 : a.tax ≤ 281474976710656
  p0 : 0 ≤ a.ap
  p1 : a.ap ≤ a.net + a.tax
  w0 : 0 ≤ a.wr
  w1 : a.wr ≤ a.net + a.tax - a.ap
  d0 : 0 ≤ a.dep
  d1 : a.dep ≤ 576460752303423488
  z : a.st = 0 → a.net + a.tax = 0
  k : a.st = 2 → a.ap + a.wr = 0
  q : a.st = 1 → a.net + a.tax - a.ap - a.wr = 0 ∨ a.dep = 0

/-! ### Sums over a book -/
def sumM (g : Ca → Int) (ac : List (Int × CP)) : Int := (ac.map fun q => g q.2.a).sum
def cfind (ac : List (Int × CP)) (o : Int) : Option Ca := (mget ac o).map (·.a)
theorem mget_cons {m : List (Int × CP)} {p : Int × CP} {a : Int} : mget (p :: m) a = if p.1 = a then some p.2 else mget m a := by
  unfold mget
  by_cases h : p.1 = a
  · rw [List.find?_cons_of_pos (by simpa using h), if_pos h]; rfl
  · rw [List.find?_cons_of_neg (by simpa using h), if_neg h]
theorem sumM_same (g : Ca → Int) {ac : List (Int × CP)} {o : Int} {p' : CP} (h : o ∉ ac.map (·.1)) : sumM g (ac.map fun p => if p.1 = o then (o, p') else p) = sumM g ac := by
  unfold sumM
  rw [List.map_map]
  congr 1
  refine List.map_congr_left fun p hp => ?_
  have : p.1 ≠ o := fun e => h (by rw [← e]; exact List.mem_map_of_mem hp)
  simp [this]
theorem sumM_map (g : Ca → Int) {o : Int} {p' : CP} : ∀ {ac : List (Int × CP)}, (ac.map (·.1)).Nodup → ∀ {p : CP}, mget ac o = some p → sumM g (ac.map fun q => if q.1 = o then (o, p') else q) = sumM g ac + g p'.a - g p.a
  | [], _, _, h => by simp [mget] at h
  | q :: ac, hd, p, h => by
    simp only [List.map_cons, List.nodup_cons] at hd
    rw [mget_cons] at h
    by_cases e : q.1 = o
    · rw [if_pos e] at h
      injection h with h
      subst h
      have h1 := sumM_same g (p' := p') (e ▸ hd.1)
      unfold sumM at h1 ⊢
      simp only [List.map_cons, if_pos e, List.sum_cons]
      omega
    · rw [if_neg e] at h
      have h1 := sumM_map g (p' := p') hd.2 h
      unfold sumM at h1 ⊢
      simp only [List.map_cons, if_neg e, List.sum_cons]
      omega
/-- The order's account, or a new one. -/
def acOf (F : Int → Option Ca) (o c : Int) : Ca := (F o).getD ⟨o, c, 0, 0, 0, 0, 0, 0, 0⟩
theorem sumM_mset (g : Ca → Int) {ac : List (Int × CP)} (hd : (ac.map (·.1)).Nodup) (o c : Int) (p' : CP) (hg : g ⟨o, c, 0, 0, 0, 0, 0, 0, 0⟩ = 0) : sumM g (mset ac o p') = sumM g ac + g p'.a - g (acOf (cfind ac) o c) := by
  unfold acOf cfind
  cases hm : mget ac o with
  | some p =>
    have hk : o ∈ ac.map (·.1) := mget_isSome.1 (by rw [hm]; rfl)
    unfold mset
    rw [if_pos hk, sumM_map g hd hm]
    simp
  | none =>
    rw [mset_new hm]
    unfold sumM
    rw [List.map_append, List.sum_append]
    simp [hg]
theorem cfind_mset {ac : List (Int × CP)} {o : Int} {p' : CP} (o' : Int) : cfind (mset ac o p') o' = if o' = o then some p'.a else cfind ac o' := by
  unfold cfind
  rw [mget_mset]
  split <;> rfl

/-- The ledger of a book. -/
def ledC (ac : List (Int × CP)) : Fn := fun p => sumM (fun a => if a.c = p.1 then con a p.2 else 0) ac
def wts (ac : List (Int × CP)) : Int := sumM wt ac
theorem con_new (o c k : Int) : con ⟨o, c, 0, 0, 0, 0, 0, 0, 0⟩ k = 0 := by simp [con, openC]
theorem wt_new (o c : Int) : wt ⟨o, c, 0, 0, 0, 0, 0, 0, 0⟩ = 0 := by simp [wt]
def at_ (es : List En) (k : Int) : Int := (es.map fun x => if k = x.a then x.n else 0).sum
/-- A posting that tells what became of an account. -/
theorem ledC_post {ac : List (Int × CP)} (hd : (ac.map (·.1)).Nodup) (o c : Int) (p' : CP) (es : List En) (hc0 : (acOf (cfind ac) o c).c = c) (hc : p'.a.c = c) (hk : ∀ k, con p'.a k = con (acOf (cfind ac) o c) k + at_ es k) : addF (ledC ac) c es = ledC (mset ac o p') := by
  funext p
  rw [addF_apply]
  unfold ledC
  rw [sumM_mset _ hd o c p' (by simp [con_new]), hc0, hc]
  by_cases e : c = p.1
  · subst e
    simp only [↓reduceIte, hk]
    have : (es.map fun x => if p = (p.1, x.a) then x.n else 0) = es.map fun x => if p.2 = x.a then x.n else 0 := by
      refine List.map_congr_left fun x _ => ?_
      by_cases h : p.2 = x.a
      · rw [if_pos h, if_pos (by rw [← h])]
      · rw [if_neg h, if_neg (fun e => h (by rw [e]))]
    rw [this]
    unfold at_
    omega
  · simp only [if_neg e]
    rw [sum_map_zero]
    · omega
    · intro x _
      rw [if_neg (fun e' => e (by rw [e']))]
theorem wts_mset {ac : List (Int × CP)} (hd : (ac.map (·.1)).Nodup) (o c : Int) (p' : CP) : wts (mset ac o p') = wts ac + wt p'.a - wt (acOf (cfind ac) o c) := sumM_mset wt hd o c p' (wt_new o c)
theorem sumM_nonneg {g : Ca → Int} {ac : List (Int × CP)} (h : ∀ q ∈ ac, 0 ≤ g q.2.a) : 0 ≤ sumM g ac := sum_nonneg_sub _ _ h
theorem sumM_one {g : Ca → Int} {ac : List (Int × CP)} (h : ∀ q ∈ ac, 0 ≤ g q.2.a) {q : Int × CP} (hq : q ∈ ac) : g q.2.a ≤ sumM g ac := by
  induction ac with
  | nil => cases hq
  | cons x ac ih =>
    unfold sumM at *
    simp only [List.map_cons, List.sum_cons]
    have h0 := h x (by simp)
    have h1 : 0 ≤ (ac.map fun q => g q.2.a).sum := sumM_nonneg (fun q hq => h q (by simp [hq]))
    cases hq with
    | head => omega
    | tail _ hq => have := ih (fun q hq => h q (by simp [hq])) hq; omega
theorem FitC.wt0 {a : Ca} (h : FitC a) : 0 ≤ wt a ∧ a.dep ≤ wt a := by
  unfold wt
  have := h.n0
  have := h.t0
  have := h.p0
  have := h.w0
  have := h.d0
  split <;> omega

/-- A good book: accounts that fit, each under its order's number; the turnover is at least what they took. -/
structure GoodC (ac : List (Int × CP)) (d : Int) : Prop where
  fit : ∀ q ∈ ac, FitC q.2.a ∧ q.2.a.o = q.1
  tot : wts ac ≤ d
  d1 : d ≤ 1152921504606846976
theorem GoodC.of (o c : Int) {ac : List (Int × CP)} {d : Int} (h : GoodC ac d) {a : Ca} (ha : cfind ac o = some a) : FitC a ∧ a.o = o ∧ wt a ≤ wts ac := by
  unfold cfind at ha
  cases hm : mget ac o with
  | none => rw [hm] at ha; cases ha
  | some p =>
    rw [hm] at ha
    injection ha with ha
    subst ha
    have := h.fit _ (mget_mem hm)
    exact ⟨this.1, this.2, sumM_one (g := wt) (fun q hq => (h.fit q hq).1.wt0.1) (mget_mem hm)⟩
theorem GoodC.d0 {ac : List (Int × CP)} {d : Int} (h : GoodC ac d) : 0 ≤ d := Int.le_trans (sumM_nonneg (fun q hq => (h.fit q hq).1.wt0.1)) h.tot
theorem GoodC.put {ac : List (Int × CP)} {d d' : Int} (h : GoodC ac d) (hd : (ac.map (·.1)).Nodup) (o c : Int) (p' : CP) (hf : FitC p'.a) (ho : p'.a.o = o) (hw : wt p'.a - wt (acOf (cfind ac) o c) ≤ d' - d) (h1 : d' ≤ 1152921504606846976) : GoodC (mset ac o p') d' := by
  refine ⟨fun q hq => ?_, ?_, h1⟩
  · rcases mem_mset hq with rfl | ⟨hq', _⟩
    · exact ⟨hf, ho⟩
    · exact h.fit q hq'
  · rw [wts_mset hd o c]
    have := h.tot
    omega
theorem acOf_fit {ac : List (Int × CP)} {d : Int} (h : GoodC ac d) {o c : Int} (ho : 1 ≤ o) (hc : 1 ≤ c ∧ c ≤ 64) : FitC (acOf (cfind ac) o c) ∧ (acOf (cfind ac) o c).o = o ∧ wt (acOf (cfind ac) o c) ≤ wts ac := by
  unfold acOf
  cases hf : cfind ac o with
  | none =>
    refine ⟨?_, rfl, ?_⟩
    · constructor <;> simp <;> omega
    · simp only [Option.getD_none, wt_new]
      exact sumM_nonneg (fun q hq => (h.fit q hq).1.wt0.1)
  | some a => exact h.of o c hf

/-! ### Postings -/
theorem addF_some0 (f : Fn) (c : Int) (es : List En) : addF f c (some0 es) = addF f c es := by
  funext p
  rw [addF_apply, addF_apply]
  congr 1
  unfold some0
  induction es with
  | nil => rfl
  | cons x es ih =>
    by_cases h : x.n = 0
    · rw [List.filter_cons_of_neg (by simp [h])]
      simp [ih, h]
    · rw [List.filter_cons_of_pos (by simp [h])]
      simp [ih]
theorem sums_some0 (es : List En) : sumE (some0 es) = sumE es ∧ debs (some0 es) = debs es := by
  unfold some0 sumE debs
  induction es with
  | nil => exact ⟨rfl, rfl⟩
  | cons x es ih =>
    by_cases h : x.n = 0
    · rw [List.filter_cons_of_neg (by simp [h])]
      refine ⟨by simp [ih.1, h], ?_⟩
      rw [ih.2]
      simp [h, pos]
    · rw [List.filter_cons_of_pos (by simp [h])]
      simp [ih.1, ih.2]
/-- Entries that may be posted. -/
structure PostOk (c d : Int) (es : List En) : Prop where
  c1 : 1 ≤ c ∧ c ≤ 64
  len : es.length ≤ 8
  ok : ∀ x ∈ es, 0 ≤ x.a ∧ x.a < 6 ∧ x.n ≤ 1125899906842624 ∧ -1125899906842624 ≤ x.n
  sum : sumE es = 0
  room : d + debs es ≤ 1152921504606846976
theorem PostOk.zero {c d : Int} {es : List En} (h : PostOk c d es) (hne : some0 es ≠ []) : postC d c (some0 es) = 0 := by
  unfold postC
  have hl : (some0 es).length ≤ es.length := List.length_filter_le _ _
  have hall : (some0 es).all okE = true := by
    rw [List.all_eq_true]
    intro x hx
    unfold some0 at hx
    obtain ⟨hx1, hx2⟩ := List.mem_filter.1 hx
    obtain ⟨b1, b2, b3, b4⟩ := h.ok x hx1
    exact (okE_iff x).2 ⟨b1, b2, by simpa using hx2, b3, b4⟩
  have hr := h.room
  rw [if_pos ⟨h.c1.1, h.c1.2, hne, Nat.le_trans hl h.len, hall⟩, if_neg (by rw [(sums_some0 es).1, h.sum]; simp), if_neg (by rw [(sums_some0 es).2]; omega)]
theorem addF_nothing (f : Fn) (c : Int) {es : List En} (h : some0 es = []) : addF f c es = f ∧ debs es = 0 := by
  rw [← addF_some0, h]
  exact ⟨rfl, by rw [← (sums_some0 es).2, h]; rfl⟩

end Go.Proofs.YthdmbbfppgenlaaGreat
