/-
  Money of orders, plain: what the six calls make of an account, its place in the ledger and the turnover.
-/
import Derived.Test.YthdmbbfppgenlaaGreatChI
namespace Go.Proofs.YthdmbbfppgenlaaGreat
open Go.RowKit
set_option linter.unusedVariables false

theorem addF_app (f : Fn) (c : Int) (es es' : List En) : addF (addF f c es) c es' = addF f c (es ++ es') := by unfold addF; rw [List.foldl_append]
theorem at_app (es es' : List En) (k : Int) : at_ (es ++ es') k = at_ es k + at_ es' k := by unfold at_; rw [List.map_append, List.sum_append]
theorem at_move (ta fr n k : Int) : at_ (moveE ta fr n) k = (if k = ta then n else 0) + (if k = fr then -n else 0) := by simp [at_, moveE]
theorem at_inv (n t k : Int) : at_ (invE n t) k = (if k = 1 then n + t else 0) + ((if k = 2 then -n else 0) + (if k = 3 then -t else 0)) := by simp [at_, invE]
theorem at_mem (n t a r k : Int) : at_ (memE n t a r) k = (if k = 2 then n else 0) + ((if k = 3 then t else 0) + ((if k = 1 then a + r - n - t else 0) + ((if k = 4 then -a else 0) + (if k = 5 then -r else 0)))) := by simp [at_, memE]

/-- One account turned: how the book goes on. -/
def updC (F : Int → Option Ca) (o : Int) (x : Option Ca) : Int → Option Ca := match x with | none => F | some a => fun o' => if o' = o then some a else F o'
structure ResC where
  paid : Bool
  code : Int
  acc : Option Ca
  d : Int
def noC (e d : Int) : ResC := ⟨false, e, none, d⟩
def AM : Int := 281474976710656
def MO : Int := 576460752303423488
def invB (a : Ca) (net tax : Int) : Ca := { a with st := 1, net := net, tax := tax }
def rcvB (a : Ca) (n : Int) : Ca := { a with dep := a.dep + n }
def okInv (o c net tax : Int) : Prop := (1 ≤ o ∧ 1 ≤ c ∧ c ≤ 64) ∧ (0 ≤ net ∧ net ≤ 281474976710656) ∧ (0 ≤ tax ∧ tax ≤ 281474976710656)
instance (o c net tax : Int) : Decidable (okInv o c net tax) := by unfold okInv; infer_instance
def invR (F : Int → Option Ca) (d o c net tax : Int) : ResC :=
  if okInv o c net tax then
    if (acOf F o c).c ≠ c then noC 130 d else if (acOf F o c).st ≠ 0 then noC 71 d else if 576460752303423488 - (net + tax) < d then noC 72 d
    else ⟨paidC (appA (invB (acOf F o c) net tax)), 0, some (appA (invB (acOf F o c) net tax)), d + (net + tax) + appN (invB (acOf F o c) net tax)⟩
  else noC 2 d
def okRcv (o c n : Int) : Prop := (1 ≤ o ∧ 1 ≤ c ∧ c ≤ 64) ∧ (1 ≤ n ∧ n ≤ 281474976710656)
instance (o c n : Int) : Decidable (okRcv o c n) := by unfold okRcv; infer_instance
def rcvR (F : Int → Option Ca) (d o c n : Int) : ResC :=
  if okRcv o c n then
    if (acOf F o c).c ≠ c then noC 130 d else if 576460752303423488 - n < d then noC 72 d
    else ⟨paidC (appA (rcvB (acOf F o c) n)), 0, some (appA (rcvB (acOf F o c) n)), d + n + appN (rcvB (acOf F o c) n)⟩
  else noC 2 d
def wofB (a : Ca) : Ca := { a with wr := a.wr + openC a }
def wofR (F : Int → Option Ca) (d o : Int) : ResC :=
  match F o with
  | none => noC 70 d
  | some a => if openC a = 0 then noC 170 d else if 1000 < openC a then noC 130 d else if 576460752303423488 - openC a < d then noC 72 d else ⟨false, 0, some (wofB a), d + openC a⟩
def memB (a : Ca) : Ca := { a with dep := a.dep + a.ap, st := 2, ap := 0, wr := 0 }
def memR (F : Int → Option Ca) (d o : Int) : ResC :=
  match F o with
  | none => noC 70 d
  | some a => if a.st ≠ 1 then noC 130 d else if 576460752303423488 - (a.net + a.tax) < d then noC 72 d else ⟨false, 0, some (memB a), d + (a.net + a.tax)⟩
def refB (a : Ca) : Ca := { a with dep := 0 }
/-- Refund: what goes back, beside. -/
def refR (F : Int → Option Ca) (d o : Int) : Int × ResC :=
  match F o with
  | none => (0, noC 70 d)
  | some a => if 576460752303423488 - a.dep < d then (0, noC 72 d) else (a.dep, ⟨false, 0, some (refB a), d + a.dep⟩)
def dunB (a : Ca) : Ca := if 0 < openC a ∧ a.lv < 3 then { a with lv := a.lv + 1 } else a
def dunR (F : Int → Option Ca) (o : Int) : Int × Bool × Option Ca :=
  match F o with
  | none => (0, false, none)
  | some a => ((dunB a).lv, decide (0 < openC a) && decide ((dunB a).lv < 3), some (dunB a))

/-- What must hold of an account that takes the old one's place. -/
structure NextC (a b : Ca) (c d d' : Int) (es : List En) : Prop where
  fit : FitC b
  o : b.o = a.o
  c : b.c = a.c
  wt : wt b - wt a ≤ d' - d
  con : ∀ k, con b k = con a k + at_ es k

theorem FitC.zero {a : Ca} (h : FitC a) (hs : a.st = 0) : a.ap = 0 ∧ a.wr = 0 ∧ a.net = 0 ∧ a.tax = 0 := by
  have := h.z hs; have := h.p0; have := h.p1; have := h.w0; have := h.w1; have := h.n0; have := h.t0
  omega
theorem FitC.open0 {a : Ca} (h : FitC a) : 0 ≤ openC a ∧ openC a ≤ 562949953421312 := by
  have := h.p0; have := h.p1; have := h.w0; have := h.w1; have := h.n0; have := h.t0; have := h.n1; have := h.t1
  unfold openC
  split <;> omega
/-- The deposit is used. -/
theorem app_next {a : Ca} {c d : Int} (ho : 1 ≤ a.o) (hc : 1 ≤ a.c ∧ a.c ≤ 64) (hs : 0 ≤ a.st ∧ a.st ≤ 2) (hl : 0 ≤ a.lv ∧ a.lv ≤ 3) (hn : 0 ≤ a.net ∧ a.net ≤ 281474976710656) (ht : 0 ≤ a.tax ∧ a.tax ≤ 281474976710656) (hp : 0 ≤ a.ap ∧ a.ap ≤ a.net + a.tax) (hw : 0 ≤ a.wr ∧ a.wr ≤ a.net + a.tax - a.ap) (hd : 0 ≤ a.dep ∧ a.dep ≤ 576460752303423488)
    (hz : a.st = 0 → a.net + a.tax = 0) (hk : a.st = 2 → a.ap + a.wr = 0) : NextC a (appA a) c d (d + appN a) (moveE 4 1 (appN a)) ∧ (0 ≤ appN a ∧ appN a ≤ 562949953421312) := by
  obtain ⟨o, c', st, lv, net, tax, ap, wr, dep⟩ := a
  simp only at *
  by_cases h1 : st = 1
  · subst h1
    have e : openC ⟨o, c', 1, lv, net, tax, ap, wr, dep⟩ = net + tax - ap - wr := by simp [openC]
    have hN : appN ⟨o, c', 1, lv, net, tax, ap, wr, dep⟩ = min dep (net + tax - ap - wr) := by unfold appN; rw [e]
    unfold appA
    rw [hN]
    obtain ⟨n, hn'⟩ : ∃ n, n = min dep (net + tax - ap - wr) := ⟨_, rfl⟩
    rw [← hn']
    refine ⟨⟨by constructor <;> simp <;> omega, rfl, rfl, ?_, fun k => ?_⟩, by omega, by omega⟩
    · simp [wt]; omega
    · rw [at_move]
      simp only [con, openC]
      simp only [↓reduceIte]
      split <;> split <;> split <;> split <;> split <;> split <;> omega
  · have e : openC ⟨o, c', st, lv, net, tax, ap, wr, dep⟩ = 0 := by simp [openC, h1]
    have hN : appN ⟨o, c', st, lv, net, tax, ap, wr, dep⟩ = 0 := by unfold appN; rw [e]; simp only; omega
    unfold appA
    rw [hN]
    refine ⟨⟨by constructor <;> simp <;> omega, rfl, rfl, ?_, fun k => ?_⟩, by omega, by omega⟩
    · simp [wt]
    · rw [at_move]
      simp only [con, openC]
      simp [h1]
/-- .. of the account alone. -/
structure StepC (a b : Ca) (d d' : Int) (es : List En) : Prop where
  o : b.o = a.o
  c : b.c = a.c
  wt : wt b - wt a ≤ d' - d
  con : ∀ k, con b k = con a k + at_ es k
theorem StepC.then {a b b' : Ca} {c d d' d'' : Int} {es es' : List En} (h : StepC a b d d' es) (h2 : NextC b b' c d' d'' es') : NextC a b' c d d'' (es ++ es') :=
  ⟨h2.fit, h2.o.trans h.o, h2.c.trans h.c, by have := h.wt; have := h2.wt; omega, fun k => by rw [h2.con, h.con, at_app]; omega⟩
theorem inv_next {a : Ca} {c d net tax : Int} (h : FitC a) (hs : a.st = 0) (hn : 0 ≤ net ∧ net ≤ 281474976710656) (ht : 0 ≤ tax ∧ tax ≤ 281474976710656) :
    StepC a (invB a net tax) d (d + (net + tax)) (invE net tax) ∧ NextC a (appA (invB a net tax)) c d (d + (net + tax) + appN (invB a net tax)) (invE net tax ++ moveE 4 1 (appN (invB a net tax))) ∧ (0 ≤ appN (invB a net tax) ∧ appN (invB a net tax) ≤ 562949953421312) := by
  obtain ⟨z1, z2, z3, z4⟩ := h.zero hs
  have hS : StepC a (invB a net tax) d (d + (net + tax)) (invE net tax) := by
    refine ⟨rfl, rfl, ?_, fun k => ?_⟩
    · simp [wt, invB, hs, z1, z2]; omega
    · rw [at_inv]
      simp only [con, openC, invB, hs, z1, z2, ↓reduceIte]
      split <;> split <;> split <;> split <;> split <;> split <;> simp_all
  have hA := app_next (a := invB a net tax) (c := c) (d := d + (net + tax)) h.o1 ⟨h.c1, h.c2⟩ ⟨by simp [invB], by simp [invB]⟩ ⟨h.l0, h.l3⟩ hn ht ⟨by simp [invB, z1], by simp [invB, z1]; omega⟩ ⟨by simp [invB, z2], by simp [invB, z1, z2]; omega⟩ ⟨h.d0, h.d1⟩ (by simp [invB]) (by simp [invB])
  exact ⟨hS, hS.then hA.1, hA.2⟩
theorem rcv_next {a : Ca} {c d n : Int} (h : FitC a) (hn : 0 ≤ n) (hd : a.dep + n ≤ 576460752303423488) :
    StepC a (rcvB a n) d (d + n) (moveE 0 4 n) ∧ NextC a (appA (rcvB a n)) c d (d + n + appN (rcvB a n)) (moveE 0 4 n ++ moveE 4 1 (appN (rcvB a n))) ∧ (0 ≤ appN (rcvB a n) ∧ appN (rcvB a n) ≤ 562949953421312) := by
  have hS : StepC a (rcvB a n) d (d + n) (moveE 0 4 n) := by
    refine ⟨rfl, rfl, ?_, fun k => ?_⟩
    · simp [wt, rcvB]; omega
    · rw [at_move]
      obtain ⟨o, c', st, lv, net, tax, ap, wr, dep⟩ := a
      simp only [con, openC, rcvB]
      by_cases k0 : k = 0
      · subst k0; simp; omega
      · by_cases k4 : k = 4
        · subst k4; simp; omega
        · by_cases hs : st = 1 <;> simp [k0, k4, hs]
  have hd0 := h.d0
  have hA := app_next (a := rcvB a n) (c := c) (d := d + n) h.o1 ⟨h.c1, h.c2⟩ ⟨h.s0, h.s2⟩ ⟨h.l0, h.l3⟩ ⟨h.n0, h.n1⟩ ⟨h.t0, h.t1⟩ ⟨h.p0, h.p1⟩ ⟨h.w0, h.w1⟩ ⟨by simp only [rcvB]; omega, hd⟩ h.z h.k
  exact ⟨hS, hS.then hA.1, hA.2⟩
theorem wof_next {a : Ca} {c d : Int} (h : FitC a) (h1 : openC a ≠ 0) : NextC a (wofB a) c d (d + openC a) (moveE 5 1 (openC a)) := by
  have hs : a.st = 1 := by
    by_cases e : a.st = 1
    · exact e
    · exact absurd (by simp [openC, e]) h1
  have := h.p0; have := h.p1; have := h.w0; have := h.w1; have := h.n0; have := h.t0; have := h.n1; have := h.t1; have := h.o1; have := h.c1; have := h.c2; have := h.l0; have := h.l3; have := h.d0; have := h.d1
  obtain ⟨o, c', st, lv, net, tax, ap, wr, dep⟩ := a
  simp only at *
  subst hs
  have e : openC ⟨o, c', 1, lv, net, tax, ap, wr, dep⟩ = net + tax - ap - wr := by simp [openC]
  unfold wofB
  rw [e]
  refine ⟨by constructor <;> simp <;> omega, rfl, rfl, ?_, fun k => ?_⟩
  · simp [wt]; omega
  · rw [at_move]
    simp only [con, openC, ↓reduceIte]
    split <;> split <;> split <;> split <;> split <;> split <;> omega
theorem mem_next {a : Ca} {c d : Int} (h : FitC a) (hs : a.st = 1) (hd : a.dep + a.ap ≤ 576460752303423488) : NextC a (memB a) c d (d + (a.net + a.tax)) (memE a.net a.tax a.ap a.wr) := by
  have := h.p0; have := h.p1; have := h.w0; have := h.w1; have := h.n0; have := h.t0; have := h.n1; have := h.t1; have := h.o1; have := h.c1; have := h.c2; have := h.l0; have := h.l3; have := h.d0; have := h.d1
  obtain ⟨o, c', st, lv, net, tax, ap, wr, dep⟩ := a
  simp only at *
  subst hs
  unfold memB
  refine ⟨by constructor <;> simp <;> omega, rfl, rfl, ?_, fun k => ?_⟩
  · simp [wt]; omega
  · rw [at_mem]
    simp only [con, openC, ↓reduceIte]
    simp only [show ¬ ((2 : Int) = 1) from by decide, if_false]
    split <;> split <;> split <;> split <;> split <;> split <;> omega
theorem ref_next {a : Ca} {c d : Int} (h : FitC a) : NextC a (refB a) c d (d + a.dep) (moveE 4 0 a.dep) := by
  have := h.p0; have := h.p1; have := h.w0; have := h.w1; have := h.n0; have := h.t0; have := h.n1; have := h.t1; have := h.o1; have := h.c1; have := h.c2; have := h.l0; have := h.l3; have := h.d0; have := h.d1; have := h.z; have := h.k; have := h.s0; have := h.s2
  obtain ⟨o, c', st, lv, net, tax, ap, wr, dep⟩ := a
  simp only at *
  unfold refB
  refine ⟨by constructor <;> simp <;> first | assumption | omega, rfl, rfl, ?_, fun k => ?_⟩
  · simp [wt]; omega
  · rw [at_move]
    simp only [con, openC]
    by_cases k0 : k = 0
    · subst k0; simp
      omega
    · by_cases k4 : k = 4
      · subst k4; simp; omega
      · simp [k0, k4]
theorem dun_next {a : Ca} {c d : Int} (h : FitC a) : NextC a (dunB a) c d d [] := by
  have hh := h
  unfold dunB
  split
  · rename_i hc
    obtain ⟨a1, a2, a3, a4, a5, a6, a7, a8, a9, a10, a11, a12, a13, a14, a15, a16, a17, a18, a19, a20⟩ := h
    exact ⟨⟨a1, a2, a3, a4, a5, by simp only; omega, by simp only; omega, a8, a9, a10, a11, a12, a13, a14, a15, a16, a17, a18, a19, a20⟩, rfl, rfl, by simp [wt], fun k => by simp [con, openC, at_]⟩
  · exact ⟨hh, rfl, rfl, by omega, fun k => by simp [at_]⟩
/-- The book goes on. -/
theorem GoodC.next {ac : List (Int × CP)} {d d' : Int} (h : GoodC ac d) (hd : (ac.map (·.1)).Nodup) (o c : Int) (g : Nat) {b : Ca} {es : List En} (hc : (acOf (cfind ac) o c).c = c) (ho : (acOf (cfind ac) o c).o = o) (hN : NextC (acOf (cfind ac) o c) b c d d' es) (h1 : d' ≤ 1152921504606846976) :
    GoodC (mset ac o ⟨g, b⟩) d' ∧ addF (ledC ac) c es = ledC (mset ac o ⟨g, b⟩) :=
  ⟨h.put hd o c ⟨g, b⟩ hN.fit (hN.o.trans ho) hN.wt h1, ledC_post hd o c ⟨g, b⟩ es hc (hN.c.trans hc) hN.con⟩
end Go.Proofs.YthdmbbfppgenlaaGreat
