/-
  Money of orders: which accounts may be; what an account is in the ledger; the ledger of a list of accounts (printed by gen_chf.py).
  The ledger: Restore.
  Money of orders: the order in which Restore sorts the ledger's sums; the library's sort by it.
  Money of orders: a map whose keys are sums of the ledger; what Restore gathers in it; which lists of accounts a book is made of.
-/
import Derived.Test.YthdmbbfppgenlaaGreatChSS
import Derived.Test.YthdmbbfppgenlaaGreatInTail
import Derived.Deep.RegionHeld3
import Derived.Deep.AppendLies
import Derived.Test.YthdmbbfppgenlaaGreatLedR
import Derived.Deep.MidRow
import Derived.Test.YthdmbbfppgenlaaGreatLedOrd
import Derived.Test.YthdmbbfppgenlaaGreatSort
import Derived.Test.YthdmbbfppgenlaaGreatSortLay18
import Derived.Shelf.SlSortCmp.NoneTotal
import Derived.Test.YthdmbbfppgenlaaGreatInEntry
namespace Go.Proofs.YthdmbbfppgenlaaGreat
open Go.RowKit Go.WideShapes Go.ChangeShapes Go.ChangeAt Go.Deep
set_option linter.unusedVariables false

def btw (n m : Int) : Bool := decide (0 ≤ n) && decide (n ≤ m)
theorem btw_iff (n m : Int) : btw n m = true ↔ 0 ≤ n ∧ n ≤ m := by unfold btw; rw [Bool.and_eq_true, decide_eq_true_eq, decide_eq_true_eq]
theorem btw_any (n m : Int) (w : World) : Calls Tryz.prog 22 #[.int .i64 n, .int .i64 m] w fun e w' => e = .returned (.bool (btw n m)) ∧ w = w' := between_any n m w
/-- May such an account be? -/
def fitA (a : Ca) : Bool :=
  if cfitB a.o a.c = false then false else if a.st < 0 then false else if 2 < a.st then false else if btw a.lv 3 = false then false
  else if btw a.net 281474976710656 = false then false else if btw a.tax 281474976710656 = false then false
  else if btw a.ap (a.net + a.tax) = false then false else if btw a.wr (a.net + a.tax - a.ap) = false then false else if btw a.dep 576460752303423488 = false then false
  else if a.st = 0 then decide (a.net + a.tax = 0) else if a.st = 2 then decide (a.ap + a.wr = 0) else decide (openC a = 0) || decide (a.dep = 0)
theorem cfitB_iff (o c : Int) : cfitB o c = true ↔ 1 ≤ o ∧ 1 ≤ c ∧ c ≤ 64 := by unfold cfitB; simp
theorem fitA_iff (a : Ca) : fitA a = true ↔ FitC a := by
  unfold fitA
  constructor
  · intro h
    split at h
    · cases h
    split at h
    · cases h
    split at h
    · cases h
    split at h
    · cases h
    split at h
    · cases h
    split at h
    · cases h
    split at h
    · cases h
    split at h
    · cases h
    split at h
    · cases h
    rename_i h1 h2 h3 h4 h5 h6 h7 h8 h9
    rw [Bool.not_eq_false] at h1 h4 h5 h6 h7 h8 h9
    rw [btw_iff] at h4 h5 h6 h7 h8 h9
    rw [cfitB_iff] at h1
    refine ⟨h1.1, h1.2.1, h1.2.2, by omega, by omega, h4.1, h4.2, h5.1, h5.2, h6.1, h6.2, h7.1, h7.2, h8.1, h8.2, h9.1, h9.2, fun e => ?_, fun e => ?_, fun e => ?_⟩
    · rw [if_pos e, decide_eq_true_eq] at h; exact h
    · rw [if_neg (by omega), if_pos e, decide_eq_true_eq] at h; exact h
    · rw [if_neg (by omega), if_neg (by omega), Bool.or_eq_true, decide_eq_true_eq, decide_eq_true_eq] at h
      unfold openC at h
      rw [if_pos e] at h
      exact h
  · intro h
    have h1 := (cfitB_iff a.o a.c).2 ⟨h.o1, h.c1, h.c2⟩
    have h4 := (btw_iff a.lv 3).2 ⟨h.l0, h.l3⟩
    have h5 := (btw_iff a.net 281474976710656).2 ⟨h.n0, h.n1⟩
    have h6 := (btw_iff a.tax 281474976710656).2 ⟨h.t0, h.t1⟩
    have h7 := (btw_iff a.ap (a.net + a.tax)).2 ⟨h.p0, h.p1⟩
    have h8 := (btw_iff a.wr (a.net + a.tax - a.ap)).2 ⟨h.w0, h.w1⟩
    have h9 := (btw_iff a.dep 576460752303423488).2 ⟨h.d0, h.d1⟩
    have s0 := h.s0
    have s2 := h.s2
    rw [h1, h4, h5, h6, h7, h8, h9, if_neg (by simp), if_neg (by omega), if_neg (by omega), if_neg (by simp), if_neg (by simp), if_neg (by simp), if_neg (by simp), if_neg (by simp), if_neg (by simp)]
    by_cases e0 : a.st = 0
    · rw [if_pos e0, decide_eq_true_eq]; exact h.z e0
    · rw [if_neg e0]
      by_cases e2 : a.st = 2
      · rw [if_pos e2, decide_eq_true_eq]; exact h.k e2
      · rw [if_neg e2, Bool.or_eq_true, decide_eq_true_eq, decide_eq_true_eq]
        unfold openC
        rw [if_pos (by omega)]
        exact h.q (by omega)

/-- What the account is in the ledger, as entries. -/
def sumsE (a : Ca) : List En := [⟨0, a.dep⟩, ⟨4, -a.dep⟩] ++ if a.st = 1 then [⟨0, a.ap⟩, ⟨1, openC a⟩, ⟨2, -a.net⟩, ⟨3, -a.tax⟩, ⟨5, a.wr⟩] else []
theorem at_sumsE (a : Ca) (k : Int) : at_ (sumsE a) k = con a k := by
  unfold sumsE con at_
  by_cases h : a.st = 1
  · simp only [h, if_true, List.cons_append, List.nil_append, List.map_cons, List.map_nil, List.sum_cons, List.sum_nil]
    split <;> split <;> split <;> split <;> split <;> split <;> omega
  · have ho : openC a = 0 := by unfold openC; rw [if_neg h]
    simp only [h, if_false, ho, List.append_nil, List.map_cons, List.map_nil, List.sum_cons, List.sum_nil]
    split <;> split <;> split <;> split <;> split <;> split <;> omega
theorem sumsE_len (a : Ca) : (sumsE a).length ≤ 7 := by unfold sumsE; split <;> simp
theorem sumsE_a (a : Ca) : ∀ x ∈ sumsE a, 0 ≤ x.a ∧ x.a < 6 := by
  intro x hx
  unfold sumsE at hx
  split at hx <;> simp at hx
  · rcases hx with rfl | rfl | rfl | rfl | rfl | rfl | rfl <;> simp
  · rcases hx with rfl | rfl <;> simp
theorem sumsE_n {a : Ca} (h : FitC a) : ∀ x ∈ sumsE a, -576460752303423488 ≤ x.n ∧ x.n ≤ 576460752303423488 := by
  intro x hx
  have := h.open0; have := h.d0; have := h.d1; have := h.n0; have := h.n1; have := h.t0; have := h.t1; have := h.p0; have := h.p1; have := h.w0; have := h.w1
  unfold sumsE at hx
  split at hx <;> simp at hx
  · rcases hx with rfl | rfl | rfl | rfl | rfl | rfl | rfl <;> simp only <;> omega
  · rcases hx with rfl | rfl <;> simp only <;> omega
theorem at_take_bd {es : List En} (h : ∀ x ∈ es, -576460752303423488 ≤ x.n ∧ x.n ≤ 576460752303423488) (k : Int) : -(576460752303423488 * (es.length : Int)) ≤ at_ es k ∧ at_ es k ≤ 576460752303423488 * (es.length : Int) := by
  induction es with
  | nil => simp [at_]
  | cons x es ih =>
    have h1 := h x (by simp)
    have h2 := ih (fun y hy => h y (by simp [hy]))
    unfold at_ at *
    simp only [List.map_cons, List.sum_cons, List.length_cons]
    split <;> omega
theorem con_sup (a : Ca) (k : Int) (h : con a k ≠ 0) : 0 ≤ k ∧ k < 6 := by
  by_cases e : 0 ≤ k ∧ k < 6
  · exact e
  · exfalso
    apply h
    unfold con
    rw [if_neg (by omega), if_neg (by omega), if_neg (by omega), if_neg (by omega), if_neg (by omega), if_neg (by omega)]
    rfl
theorem con_zero (a : Ca) : ((List.range 6).map fun j : Nat => con a (j : Int)).sum = 0 := by
  simp only [show List.range 6 = [0, 1, 2, 3, 4, 5] from rfl, List.map_cons, List.map_nil, List.sum_cons, List.sum_nil]
  by_cases h : a.st = 1
  · simp [con, openC, h]; omega
  · simp [con, openC, h]; omega
theorem sumM_neg (g : Ca → Int) (ac : List (Int × CP)) : sumM (fun a => -(g a)) ac = -(sumM g ac) := by
  unfold sumM
  induction ac with
  | nil => rfl
  | cons x ac ih => simp only [List.map_cons, List.sum_cons]; rw [ih]; omega
theorem con_part {a : Ca} (h : FitC a) {S : List (Int × Int)} (hS : S.Nodup) : -(wt a) ≤ (S.map fun p => if a.c = p.1 then con a p.2 else 0).sum ∧ (S.map fun p => if a.c = p.1 then con a p.2 else 0).sum ≤ wt a := by
  have e : (S.map fun p => if a.c = p.1 then con a p.2 else 0).sum = (S.map fun p => (if p = (a.c, 0) then con a 0 else 0) + ((if p = (a.c, 1) then con a 1 else 0) + ((if p = (a.c, 2) then con a 2 else 0) + ((if p = (a.c, 3) then con a 3 else 0) + ((if p = (a.c, 4) then con a 4 else 0) + (if p = (a.c, 5) then con a 5 else 0)))))).sum := by
    refine sum_map_congr fun p _ => ?_
    obtain ⟨p1, p2⟩ := p
    simp only [Prod.mk.injEq]
    by_cases hc : a.c = p1
    · subst hc
      simp only [if_true, true_and]
      by_cases hz : 0 ≤ p2 ∧ p2 < 6
      · have : p2 = 0 ∨ p2 = 1 ∨ p2 = 2 ∨ p2 = 3 ∨ p2 = 4 ∨ p2 = 5 := by omega
        rcases this with rfl | rfl | rfl | rfl | rfl | rfl <;> simp
      · have h0 : con a p2 = 0 := by
          by_cases e : con a p2 = 0
          · exact e
          · exact absurd (con_sup a p2 e) hz
        rw [h0, if_neg (by omega), if_neg (by omega), if_neg (by omega), if_neg (by omega), if_neg (by omega), if_neg (by omega)]
        rfl
    · rw [if_neg hc, if_neg (fun e => hc e.1.symm), if_neg (fun e => hc e.1.symm), if_neg (fun e => hc e.1.symm), if_neg (fun e => hc e.1.symm), if_neg (fun e => hc e.1.symm), if_neg (fun e => hc e.1.symm)]
      rfl
  rw [e, sum_map_add, sum_map_add, sum_map_add, sum_map_add, sum_map_add, sum_ite_nodup _ _ hS, sum_ite_nodup _ _ hS, sum_ite_nodup _ _ hS, sum_ite_nodup _ _ hS, sum_ite_nodup _ _ hS, sum_ite_nodup _ _ hS]
  have := h.p0; have := h.p1; have := h.w0; have := h.w1; have := h.n0; have := h.t0; have := h.d0
  have e0 : con a 0 = a.dep + (if a.st = 1 then a.ap else 0) := by simp [con]
  have e1 : con a 1 = openC a := by simp [con]
  have e2 : con a 2 = if a.st = 1 then -a.net else 0 := by simp [con]
  have e3 : con a 3 = if a.st = 1 then -a.tax else 0 := by simp [con]
  have e4 : con a 4 = -a.dep := by simp [con]
  have e5 : con a 5 = if a.st = 1 then a.wr else 0 := by simp [con]
  rw [e0, e1, e2, e3, e4, e5]
  unfold wt openC
  by_cases hs : a.st = 1
  · simp only [hs, if_true]
    split <;> split <;> split <;> split <;> split <;> split <;> omega
  · simp only [hs, if_false]
    split <;> split <;> split <;> split <;> split <;> split <;> omega
/-- The ledger of fitting accounts is a ledger. -/
theorem ledC_inv {ac : List (Int × CP)} {t : Int} (hf : ∀ q ∈ ac, FitC q.2.a) (hw : wts ac ≤ t) (ht : t ≤ 1152921504606846976) : LInv (ledC ac) t := by
  have h0 : 0 ≤ wts ac := sumM_nonneg (fun q hq => (hf q hq).wt0.1)
  refine ⟨by omega, ht, fun p hp => ?_, fun S hS => ?_, fun c => ?_⟩
  · have : ∃ q ∈ ac, (if q.2.a.c = p.1 then con q.2.a p.2 else 0) ≠ 0 := by
      by_cases e : ∃ q ∈ ac, (if q.2.a.c = p.1 then con q.2.a p.2 else 0) ≠ 0
      · exact e
      · exfalso
        apply hp
        unfold ledC sumM
        exact sum_map_zero _ _ (fun q hq => by
          by_cases e' : (if q.2.a.c = p.1 then con q.2.a p.2 else 0) = 0
          · exact e'
          · exact absurd ⟨q, hq, e'⟩ e)
    obtain ⟨q, hq, hz⟩ := this
    by_cases hc : q.2.a.c = p.1
    · rw [if_pos hc] at hz
      have := con_sup _ _ hz
      have := (hf q hq).c1
      have := (hf q hq).c2
      omega
    · rw [if_neg hc] at hz
      exact absurd rfl hz
  · have e : (S.map (ledC ac)).sum = sumM (fun a => (S.map fun p => if a.c = p.1 then con a p.2 else 0).sum) ac := by
      unfold ledC sumM
      exact sum_swap (fun (p : Int × Int) (q : Int × CP) => if q.2.a.c = p.1 then con q.2.a p.2 else 0) S ac
    rw [e]
    have hup : sumM (fun a => (S.map fun p => if a.c = p.1 then con a p.2 else 0).sum) ac ≤ wts ac := sum_map_le _ _ _ (fun q hq => (con_part (hf q hq) hS).2)
    have hlo : sumM (fun a => -(wt a)) ac ≤ sumM (fun a => (S.map fun p => if a.c = p.1 then con a p.2 else 0).sum) ac := sum_map_le _ _ _ (fun q hq => (con_part (hf q hq) hS).1)
    have hneg : sumM (fun a => -(wt a)) ac = -(wts ac) := by
      exact sumM_neg wt ac
    omega
  · have e : ((List.range 6).map fun j : Nat => ledC ac (c, (j : Int))).sum = sumM (fun a => ((List.range 6).map fun j : Nat => if a.c = c then con a (j : Int) else 0).sum) ac := by
      unfold ledC sumM
      exact sum_swap (fun (j : Nat) (q : Int × CP) => if q.2.a.c = c then con q.2.a (j : Int) else 0) (List.range 6) ac
    rw [e]
    unfold sumM
    refine sum_map_zero _ _ (fun q _ => ?_)
    simp only
    by_cases hc : q.2.a.c = c
    · simp only [hc, if_true]
      exact con_zero q.2.a
    · simp only [hc, if_false]
      rfl

set_option maxRecDepth 100000 in
set_option maxHeartbeats 16000000 in
theorem cfitA_any (a : Ca) (w : World) : Calls Tryz.prog 41 #[.agg (celC a)] w fun e w' => e = .returned (.bool (fitA a)) ∧ Below w.heap.size w w' := by
  obtain ⟨xo, xc, xst, xlv, xnet, xtax, xap, xwr, xdep⟩ := a
  simp only [celC]
  have HG := hid (show Blk (w.alloc (.cells #[.int .i64 xo, .int .i64 xc, .int .i64 xst, .int .i64 xlv, .int .i64 xnet, .int .i64 xtax, .int .i64 xap, .int .i64 xwr, .int .i64 xdep] 35)) w.heap.size 35 #[.int .i64 xo, .int .i64 xc, .int .i64 xst, .int .i64 xlv, .int .i64 xnet, .int .i64 xtax, .int .i64 xap, .int .i64 xwr, .int .i64 xdep] ∧ Below w.heap.size w (w.alloc (.cells #[.int .i64 xo, .int .i64 xc, .int .i64 xst, .int .i64 xlv, .int .i64 xnet, .int .i64 xtax, .int .i64 xap, .int .i64 xwr, .int .i64 xdep] 35)) from ⟨Blk.new _ _ _, (Below.refl _ _).alloc (Nat.le_refl _) _⟩)
  unfold fitA
  simp only
  by_cases h1 : cfitB xo xc = false
  · rw [if_pos h1]
    go_enter Tryz.func41, Tryz.ntmps41
    go_wp2_with fail
    refine (cfit_any _ _ _).mono ?_
    rintro e w' ⟨rfl, rfl⟩
    go_wp2_with fail
    go_ret
    exact ⟨by first | rfl | simp | (congr 1; simp), HG.out.2⟩
  · rw [if_neg h1]
    rw [Bool.not_eq_false] at h1
    by_cases h2 : xst < 0
    · rw [if_pos h2]
      have u2 : decide (xst < 0) = true := decide_eq_true h2
      go_enter Tryz.func41, Tryz.ntmps41
      go_wp2_with fail
      refine (cfit_any _ _ _).mono ?_
      rintro e w' ⟨rfl, rfl⟩
      go_wp2_with fail
      go_ret
      exact ⟨by first | rfl | simp | (congr 1; simp), HG.out.2⟩
    · rw [if_neg h2]
      have u2 : decide (xst < 0) = false := decide_eq_false h2
      by_cases h3 : 2 < xst
      · rw [if_pos h3]
        have u3 : decide (2 < xst) = true := decide_eq_true h3
        go_enter Tryz.func41, Tryz.ntmps41
        go_wp2_with fail
        refine (cfit_any _ _ _).mono ?_
        rintro e w' ⟨rfl, rfl⟩
        go_wp2_with fail
        go_ret
        exact ⟨by first | rfl | simp | (congr 1; simp), HG.out.2⟩
      · rw [if_neg h3]
        have u3 : decide (2 < xst) = false := decide_eq_false h3
        by_cases h4 : btw xlv 3 = false
        · rw [if_pos h4]
          go_enter Tryz.func41, Tryz.ntmps41
          go_wp2_with fail
          refine (cfit_any _ _ _).mono ?_
          rintro e w' ⟨rfl, rfl⟩
          go_wp2_with fail
          refine (btw_any _ _ _).mono ?_
          rintro e w' ⟨rfl, rfl⟩
          go_wp2_with fail
          go_ret
          exact ⟨by first | rfl | simp | (congr 1; simp), HG.out.2⟩
        · rw [if_neg h4]
          rw [Bool.not_eq_false] at h4
          by_cases h5 : btw xnet 281474976710656 = false
          · rw [if_pos h5]
            go_enter Tryz.func41, Tryz.ntmps41
            go_wp2_with fail
            refine (cfit_any _ _ _).mono ?_
            rintro e w' ⟨rfl, rfl⟩
            go_wp2_with fail
            refine (btw_any _ _ _).mono ?_
            rintro e w' ⟨rfl, rfl⟩
            go_wp2_with fail
            refine (btw_any _ _ _).mono ?_
            rintro e w' ⟨rfl, rfl⟩
            go_wp2_with fail
            go_ret
            exact ⟨by first | rfl | simp | (congr 1; simp), HG.out.2⟩
          · rw [if_neg h5]
            rw [Bool.not_eq_false] at h5
            by_cases h6 : btw xtax 281474976710656 = false
            · rw [if_pos h6]
              go_enter Tryz.func41, Tryz.ntmps41
              go_wp2_with fail
              refine (cfit_any _ _ _).mono ?_
              rintro e w' ⟨rfl, rfl⟩
              go_wp2_with fail
              refine (btw_any _ _ _).mono ?_
              rintro e w' ⟨rfl, rfl⟩
              go_wp2_with fail
              refine (btw_any _ _ _).mono ?_
              rintro e w' ⟨rfl, rfl⟩
              go_wp2_with fail
              refine (btw_any _ _ _).mono ?_
              rintro e w' ⟨rfl, rfl⟩
              go_wp2_with fail
              go_ret
              exact ⟨by first | rfl | simp | (congr 1; simp), HG.out.2⟩
            · rw [if_neg h6]
              rw [Bool.not_eq_false] at h6
              have b5 := (btw_iff _ _).1 h5
              have b6 := (btw_iff _ _).1 h6
              by_cases h7 : btw xap (xnet + xtax) = false
              · rw [if_pos h7]
                go_enter Tryz.func41, Tryz.ntmps41
                go_wp2_with fail
                refine (cfit_any _ _ _).mono ?_
                rintro e w' ⟨rfl, rfl⟩
                go_wp2_with fail
                refine (btw_any _ _ _).mono ?_
                rintro e w' ⟨rfl, rfl⟩
                go_wp2_with fail
                refine (btw_any _ _ _).mono ?_
                rintro e w' ⟨rfl, rfl⟩
                go_wp2_with fail
                refine (btw_any _ _ _).mono ?_
                rintro e w' ⟨rfl, rfl⟩
                go_wp2_with fail
                refine (btw_any _ _ _).mono ?_
                rintro e w' ⟨rfl, rfl⟩
                go_wp2_with fail
                go_ret
                exact ⟨by first | rfl | simp | (congr 1; simp), HG.out.2⟩
              · rw [if_neg h7]
                rw [Bool.not_eq_false] at h7
                have b7 := (btw_iff _ _).1 h7
                by_cases h8 : btw xwr (xnet + xtax - xap) = false
                · rw [if_pos h8]
                  go_enter Tryz.func41, Tryz.ntmps41
                  go_wp2_with fail
                  refine (cfit_any _ _ _).mono ?_
                  rintro e w' ⟨rfl, rfl⟩
                  go_wp2_with fail
                  refine (btw_any _ _ _).mono ?_
                  rintro e w' ⟨rfl, rfl⟩
                  go_wp2_with fail
                  refine (btw_any _ _ _).mono ?_
                  rintro e w' ⟨rfl, rfl⟩
                  go_wp2_with fail
                  refine (btw_any _ _ _).mono ?_
                  rintro e w' ⟨rfl, rfl⟩
                  go_wp2_with fail
                  refine (btw_any _ _ _).mono ?_
                  rintro e w' ⟨rfl, rfl⟩
                  go_wp2_with fail
                  refine (btw_any _ _ _).mono ?_
                  rintro e w' ⟨rfl, rfl⟩
                  go_wp2_with fail
                  go_ret
                  exact ⟨by first | rfl | simp | (congr 1; simp), HG.out.2⟩
                · rw [if_neg h8]
                  rw [Bool.not_eq_false] at h8
                  have b8 := (btw_iff _ _).1 h8
                  by_cases h9 : btw xdep 576460752303423488 = false
                  · rw [if_pos h9]
                    go_enter Tryz.func41, Tryz.ntmps41
                    go_wp2_with fail
                    refine (cfit_any _ _ _).mono ?_
                    rintro e w' ⟨rfl, rfl⟩
                    go_wp2_with fail
                    refine (btw_any _ _ _).mono ?_
                    rintro e w' ⟨rfl, rfl⟩
                    go_wp2_with fail
                    refine (btw_any _ _ _).mono ?_
                    rintro e w' ⟨rfl, rfl⟩
                    go_wp2_with fail
                    refine (btw_any _ _ _).mono ?_
                    rintro e w' ⟨rfl, rfl⟩
                    go_wp2_with fail
                    refine (btw_any _ _ _).mono ?_
                    rintro e w' ⟨rfl, rfl⟩
                    go_wp2_with fail
                    refine (btw_any _ _ _).mono ?_
                    rintro e w' ⟨rfl, rfl⟩
                    go_wp2_with fail
                    refine (btw_any _ _ _).mono ?_
                    rintro e w' ⟨rfl, rfl⟩
                    go_wp2_with fail
                    go_ret
                    exact ⟨by first | rfl | simp | (congr 1; simp), HG.out.2⟩
                  · rw [if_neg h9]
                    rw [Bool.not_eq_false] at h9
                    have b9 := (btw_iff _ _).1 h9
                    have hsm : SmallC (⟨xo, xc, xst, xlv, xnet, xtax, xap, xwr, xdep⟩ : Ca) := ⟨⟨by simp only; omega, by simp only; omega⟩, ⟨by simp only; omega, by simp only; omega⟩, ⟨by simp only; omega, by simp only; omega⟩, ⟨by simp only; omega, by simp only; omega⟩⟩
                    by_cases h10 : xst = 0
                    · rw [if_pos h10]
                      subst h10
                      go_enter Tryz.func41, Tryz.ntmps41
                      go_wp2_with fail
                      refine (cfit_any _ _ _).mono ?_
                      rintro e w' ⟨rfl, rfl⟩
                      go_wp2_with fail
                      refine (btw_any _ _ _).mono ?_
                      rintro e w' ⟨rfl, rfl⟩
                      go_wp2_with fail
                      refine (btw_any _ _ _).mono ?_
                      rintro e w' ⟨rfl, rfl⟩
                      go_wp2_with fail
                      refine (btw_any _ _ _).mono ?_
                      rintro e w' ⟨rfl, rfl⟩
                      go_wp2_with fail
                      refine (btw_any _ _ _).mono ?_
                      rintro e w' ⟨rfl, rfl⟩
                      go_wp2_with fail
                      refine (btw_any _ _ _).mono ?_
                      rintro e w' ⟨rfl, rfl⟩
                      go_wp2_with fail
                      refine (btw_any _ _ _).mono ?_
                      rintro e w' ⟨rfl, rfl⟩
                      go_wp2_with fail
                      go_ret
                      exact ⟨by first | rfl | simp | (congr 1; simp), HG.out.2⟩
                    · rw [if_neg h10]
                      have u10 : (xst == 0) = false := by simp [h10]
                      by_cases h11 : xst = 2
                      · rw [if_pos h11]
                        subst h11
                        clear h10
                        go_enter Tryz.func41, Tryz.ntmps41
                        go_wp2_with fail
                        refine (cfit_any _ _ _).mono ?_
                        rintro e w' ⟨rfl, rfl⟩
                        go_wp2_with fail
                        refine (btw_any _ _ _).mono ?_
                        rintro e w' ⟨rfl, rfl⟩
                        go_wp2_with fail
                        refine (btw_any _ _ _).mono ?_
                        rintro e w' ⟨rfl, rfl⟩
                        go_wp2_with fail
                        refine (btw_any _ _ _).mono ?_
                        rintro e w' ⟨rfl, rfl⟩
                        go_wp2_with fail
                        refine (btw_any _ _ _).mono ?_
                        rintro e w' ⟨rfl, rfl⟩
                        go_wp2_with fail
                        refine (btw_any _ _ _).mono ?_
                        rintro e w' ⟨rfl, rfl⟩
                        go_wp2_with fail
                        refine (btw_any _ _ _).mono ?_
                        rintro e w' ⟨rfl, rfl⟩
                        go_wp2_with fail
                        go_ret
                        exact ⟨by first | rfl | simp | (congr 1; simp), HG.out.2⟩
                      · rw [if_neg h11]
                        have u11 : (xst == 2) = false := by simp [h11]
                        obtain rfl : xst = 1 := by omega
                        have KO := hid (fun w => open_any (⟨xo, xc, 1, xlv, xnet, xtax, xap, xwr, xdep⟩ : Ca) w hsm)
                        simp only [celC] at KO
                        obtain ⟨z, hz⟩ : ∃ z, z = openC (⟨xo, xc, 1, xlv, xnet, xtax, xap, xwr, xdep⟩ : Ca) := ⟨_, rfl⟩
                        rw [← hz] at KO ⊢
                        clear h10 h11 hz hsm
                        go_enter Tryz.func41, Tryz.ntmps41
                        go_wp2_with fail
                        refine (cfit_any _ _ _).mono ?_
                        rintro e w' ⟨rfl, rfl⟩
                        go_wp2_with fail
                        refine (btw_any _ _ _).mono ?_
                        rintro e w' ⟨rfl, rfl⟩
                        go_wp2_with fail
                        refine (btw_any _ _ _).mono ?_
                        rintro e w' ⟨rfl, rfl⟩
                        go_wp2_with fail
                        refine (btw_any _ _ _).mono ?_
                        rintro e w' ⟨rfl, rfl⟩
                        go_wp2_with fail
                        refine (btw_any _ _ _).mono ?_
                        rintro e w' ⟨rfl, rfl⟩
                        go_wp2_with fail
                        refine (btw_any _ _ _).mono ?_
                        rintro e w' ⟨rfl, rfl⟩
                        go_wp2_with fail
                        refine (btw_any _ _ _).mono ?_
                        rintro e w' ⟨rfl, rfl⟩
                        go_wp2_with fail
                        refine (KO.out _).mono ?_
                        rintro e w2 ⟨rfl, hb2⟩
                        have g8 : w2.cell? ⟨w.heap.size, 8, none⟩ = some (.int .i64 xdep) := (HG.out.1.next hb2).cell 8
                        have lG := (HG.out.1.next hb2).lt
                        have HB := hid (bthen HG.out.2 hb2)
                        clear hb2 KO
                        by_cases h12 : z = 0
                        · have tz : (z == 0) = true := by simp [h12]
                          have HV := hid (show (decide (z = 0) || decide (xdep = 0)) = true from by simp [h12])
                          clear h12
                          go_wp2_with fail
                          go_ret
                          exact ⟨by rw [HV.out]; rfl, HB.out⟩
                        · have tz : (z == 0) = false := by simp [h12]
                          have HV := hid (show (decide (z = 0) || decide (xdep = 0)) = (xdep == 0) from by simp [h12]; rfl)
                          clear h12
                          go_wp2_with fail
                          go_ret
                          exact ⟨by rw [HV.out]; rfl, HB.out⟩

theorem cells9 {w : World} {G : Nat} {t : TypeId} {xo xc xlv xnet xtax xap xwr xdep : Int} (h : Blk w G t #[.int .i64 xo, .int .i64 xc, .int .i64 1, .int .i64 xlv, .int .i64 xnet, .int .i64 xtax, .int .i64 xap, .int .i64 xwr, .int .i64 xdep]) : w.cell? ⟨G, 0, none⟩ = some (.int .i64 xo) ∧ w.cell? ⟨G, 1, none⟩ = some (.int .i64 xc) ∧ w.cell? ⟨G, 2, none⟩ = some (.int .i64 1) ∧ w.cell? ⟨G, 3, none⟩ = some (.int .i64 xlv) ∧ w.cell? ⟨G, 4, none⟩ = some (.int .i64 xnet) ∧ w.cell? ⟨G, 5, none⟩ = some (.int .i64 xtax) ∧ w.cell? ⟨G, 6, none⟩ = some (.int .i64 xap) ∧ w.cell? ⟨G, 7, none⟩ = some (.int .i64 xwr) ∧ w.cell? ⟨G, 8, none⟩ = some (.int .i64 xdep) := ⟨h.cell 0, h.cell 1, h.cell 2, h.cell 3, h.cell 4, h.cell 5, h.cell 6, h.cell 7, h.cell 8⟩
theorem info_en : (Tryz.prog.info? 84).map (fun i => (i.zero, i.size, i.bytes)) = some (some (.agg #[.int .i64 0, .int .i64 0]), 2, 16) := by kernel_rfl
set_option maxRecDepth 100000 in
set_option maxHeartbeats 16000000 in
theorem csumsA_any (a : Ca) (hf : FitC a) (w : World) : Calls Tryz.prog 42 #[.agg (celC a)] w fun e w' => (∃ A cap, e = .returned (.slice A (sumsE a).length cap) ∧ w'.ownsRow w.heap.size 84 2 (.slice A (sumsE a).length cap) (sumsE a).length ((sumsE a).flatMap enE)) ∧ Below w.heap.size w w' := by
  have hsm := hf.small
  have hd := hf.d0
  have hd1 := hf.d1
  obtain ⟨i0, hi, hz0, hz1, hz2⟩ := info_parts info_en
  obtain ⟨xo, xc, xst, xlv, xnet, xtax, xap, xwr, xdep⟩ := a
  have hn := hsm.n
  have ht := hsm.t
  simp only at hd hd1 hn ht
  obtain ⟨n1, n2⟩ := hn
  obtain ⟨t1, t2⟩ := ht
  simp only [celC]
  unfold sumsE
  simp only
  by_cases hs : xst = 1
  · subst hs
    rw [if_pos rfl]
    have KO := hid (fun w => open_any (⟨xo, xc, 1, xlv, xnet, xtax, xap, xwr, xdep⟩ : Ca) w hsm)
    simp only [celC] at KO
    obtain ⟨z, hz⟩ : ∃ z, z = openC (⟨xo, xc, 1, xlv, xnet, xtax, xap, xwr, xdep⟩ : Ca) := ⟨_, rfl⟩
    rw [← hz] at KO ⊢
    clear hz hsm hf
    have hw1 : Below w.heap.size w (w.alloc (.cells #[.int .i64 xo, .int .i64 xc, .int .i64 1, .int .i64 xlv, .int .i64 xnet, .int .i64 xtax, .int .i64 xap, .int .i64 xwr, .int .i64 xdep] 35)) := (Below.refl _ _).alloc (Nat.le_refl _) _
    have hG := Blk.new w 35 #[.int .i64 xo, .int .i64 xc, .int .i64 1, .int .i64 xlv, .int .i64 xnet, .int .i64 xtax, .int .i64 xap, .int .i64 xwr, .int .i64 xdep]
    have hw2 : Below w.heap.size w ((w.alloc (.cells #[.int .i64 xo, .int .i64 xc, .int .i64 1, .int .i64 xlv, .int .i64 xnet, .int .i64 xtax, .int .i64 xap, .int .i64 xwr, .int .i64 xdep] 35)).alloc (.cells #[.int .i64 0, .int .i64 xdep, .int .i64 4, .int .i64 (-xdep)] 84)) := hw1.alloc hw1.size _
    have hG2 := hG.alloc (.cells #[.int .i64 0, .int .i64 xdep, .int .i64 4, .int .i64 (-xdep)] 84)
    have hO := World.ownsRow_lit (base := w.heap.size) (e := 84) (size := 2) (w.alloc (.cells #[.int .i64 xo, .int .i64 xc, .int .i64 1, .int .i64 xlv, .int .i64 xnet, .int .i64 xtax, .int .i64 xap, .int .i64 xwr, .int .i64 xdep] 35)) #[.int .i64 0, .int .i64 xdep, .int .i64 4, .int .i64 (-xdep)] 2 (by simp) (by unfold maxLen; omega) rfl
    rw [World.size_alloc] at hO
    obtain ⟨wz, hwz⟩ : ∃ wz, wz = ((w.alloc (.cells #[.int .i64 xo, .int .i64 xc, .int .i64 1, .int .i64 xlv, .int .i64 xnet, .int .i64 xtax, .int .i64 xap, .int .i64 xwr, .int .i64 xdep] 35)).alloc (.cells #[.int .i64 0, .int .i64 xdep, .int .i64 4, .int .i64 (-xdep)] 84)) := ⟨_, rfl⟩
    obtain ⟨G, hG0⟩ : ∃ G, G = w.heap.size := ⟨_, rfl⟩
    rw [← hwz] at hw2 hG2 hO
    have HW := hid hwz
    have HG0 := hid hG0
    have HH := hid (And.intro hw2 (And.intro hG2 hO))
    clear hw1 hG hw2 hG2 hO hwz hG0
    go_enter Tryz.func42, Tryz.ntmps42
    go_upto_region 2 with fail
    rw [← HW.out, ← HG0.out]
    obtain ⟨hw2, hG2, hO⟩ := HH.out
    rw [← HG0.out] at hG2
    have g2 : wz.cell? ⟨G, 2, none⟩ = some (.int .i64 1) := hG2.cell 2
    have lG := hG2.lt
    have HO := hid hO
    have HG2 := hid hG2
    have HW2 := hid hw2
    clear HW HH hO hG2 hw2
    go_upto_region 3 with fail
    clear g2 lG hd hd1
    have HD := hid (show ∀ w', Below wz.heap.size wz w' → Blk w' G 35 #[.int .i64 xo, .int .i64 xc, .int .i64 1, .int .i64 xlv, .int .i64 xnet, .int .i64 xtax, .int .i64 xap, .int .i64 xwr, .int .i64 xdep] ∧ w'.ownsRow w.heap.size 84 2 (.slice (some ⟨G + 1, 0, none⟩) 2 2) 2 [.int .i64 0, .int .i64 xdep, .int .i64 4, .int .i64 (-xdep)] ∧ Below w.heap.size w w' from fun w' hb => ⟨HG2.out.next hb, by rw [HG0.out]; exact HO.out.kept (grown_of_below hb none) (by simp [Value.ownBlock]), bthen HW2.out hb⟩)
    have c0 := cells9 (HD.out wz.drew (below_drewN (Below.refl _ _) 1)).1
    have wn : IntKind.i64.wrap (-xnet) = -xnet := IntWalk.i64_in _ ⟨by omega, by omega⟩
    have wt : IntKind.i64.wrap (-xtax) = -xtax := IntWalk.i64_in _ ⟨by omega, by omega⟩
    clear HG2 HO HW2
    go_region_held3 (fun w' => w'.cell? ⟨G, 0, none⟩ = some (.int .i64 xo) ∧ w'.cell? ⟨G, 1, none⟩ = some (.int .i64 xc) ∧ w'.cell? ⟨G, 2, none⟩ = some (.int .i64 1) ∧ w'.cell? ⟨G, 3, none⟩ = some (.int .i64 xlv) ∧ w'.cell? ⟨G, 4, none⟩ = some (.int .i64 xnet) ∧ w'.cell? ⟨G, 5, none⟩ = some (.int .i64 xtax) ∧ w'.cell? ⟨G, 6, none⟩ = some (.int .i64 xap) ∧ w'.cell? ⟨G, 7, none⟩ = some (.int .i64 xwr) ∧ w'.cell? ⟨G, 8, none⟩ = some (.int .i64 xdep)) (first | exact c9 | exact c8 _ | exact c7 | exact c0)
      (first
        | (go_at_call 31; refine (KO.out _).mono ?_; rintro e w7 ⟨rfl, hb7⟩; have hb8 := bthen (below_drewN (Below.refl _ _) 1 : Below wz.heap.size wz wz.drew) hb7; have b7 := (HD.out _ hb8).1; have c7 := cells9 b7; have c8 := fun o => cells9 (b7.alloc o); have hO7 := (HD.out _ hb8).2.1; have hB7 := (HD.out _ hb8).2.2; have hsz7 := hB7.size; clear hb7)
        | (refine step_append_lies _ (by rfl) _ _ _ (by rfl) w.heap.size 84 i0 _ 2 16 Tryz.underlying68 hi hz0 hz1 hz2 rfl (by decide) _ _ _ (by rfl) (hO7.alloc (.cells #[.int .i64 0, .int .i64 xap, .int .i64 1, .int .i64 z, .int .i64 2, .int .i64 (-xnet), .int .i64 3, .int .i64 (-xtax), .int .i64 5, .int .i64 xwr] 84)) ⟨w7.heap.size, 0, none⟩ 5 5 [.int .i64 0, .int .i64 xap, .int .i64 1, .int .i64 z, .int .i64 2, .int .i64 (-xnet), .int .i64 3, .int .i64 (-xtax), .int .i64 5, .int .i64 xwr] (by rfl) (by rfl) (World.news_of_block (heap_alloc_new _ _)) (by simp [Value.oneCell']) (by omega) (by unfold maxLen; omega) (by omega) (by simp; omega) _ rfl ?_; intro g8 cap8 w8 hO8 hg8 hat8 hlt8; have c9 := cells9 ((b7.alloc (.cells #[.int .i64 0, .int .i64 xap, .int .i64 1, .int .i64 z, .int .i64 2, .int .i64 (-xnet), .int .i64 3, .int .i64 (-xtax), .int .i64 5, .int .i64 xwr] 84)).grown hg8 (by simp [Value.ownBlock])); clear hat8 hlt8 b7))
    all_goals
      have HF := hid (And.intro hO8 ((hB7.alloc hB7.size (.cells #[.int .i64 0, .int .i64 xap, .int .i64 1, .int .i64 z, .int .i64 2, .int .i64 (-xnet), .int .i64 3, .int .i64 (-xtax), .int .i64 5, .int .i64 xwr] 84)).grown hg8 (by simp; omega) (fun k hk => ((hO7.alloc (.cells #[.int .i64 0, .int .i64 xap, .int .i64 1, .int .i64 z, .int .i64 2, .int .i64 (-xnet), .int .i64 3, .int .i64 (-xtax), .int .i64 5, .int .i64 xwr] 84)).lt k hk).1)))
      clear hO8 hg8 hB7 hsz7 hO7 c0 c7 c8 c9 HD KO
      go_wp2_with fail
      go_ret
      exact ⟨⟨_, _, rfl, by simpa [enE] using HF.out.1⟩, HF.out.2⟩
  · rw [if_neg hs]
    have ts : (xst == 1) = false := by simp [hs]
    clear hsm hf hs
    have hw1 : Below w.heap.size w (w.alloc (.cells #[.int .i64 xo, .int .i64 xc, .int .i64 xst, .int .i64 xlv, .int .i64 xnet, .int .i64 xtax, .int .i64 xap, .int .i64 xwr, .int .i64 xdep] 35)) := (Below.refl _ _).alloc (Nat.le_refl _) _
    have hG := Blk.new w 35 #[.int .i64 xo, .int .i64 xc, .int .i64 xst, .int .i64 xlv, .int .i64 xnet, .int .i64 xtax, .int .i64 xap, .int .i64 xwr, .int .i64 xdep]
    have hw2 : Below w.heap.size w ((w.alloc (.cells #[.int .i64 xo, .int .i64 xc, .int .i64 xst, .int .i64 xlv, .int .i64 xnet, .int .i64 xtax, .int .i64 xap, .int .i64 xwr, .int .i64 xdep] 35)).alloc (.cells #[.int .i64 0, .int .i64 xdep, .int .i64 4, .int .i64 (-xdep)] 84)) := hw1.alloc hw1.size _
    have hG2 := hG.alloc (.cells #[.int .i64 0, .int .i64 xdep, .int .i64 4, .int .i64 (-xdep)] 84)
    have hO := World.ownsRow_lit (base := w.heap.size) (e := 84) (size := 2) (w.alloc (.cells #[.int .i64 xo, .int .i64 xc, .int .i64 xst, .int .i64 xlv, .int .i64 xnet, .int .i64 xtax, .int .i64 xap, .int .i64 xwr, .int .i64 xdep] 35)) #[.int .i64 0, .int .i64 xdep, .int .i64 4, .int .i64 (-xdep)] 2 (by simp) (by unfold maxLen; omega) rfl
    rw [World.size_alloc] at hO
    obtain ⟨wz, hwz⟩ : ∃ wz, wz = ((w.alloc (.cells #[.int .i64 xo, .int .i64 xc, .int .i64 xst, .int .i64 xlv, .int .i64 xnet, .int .i64 xtax, .int .i64 xap, .int .i64 xwr, .int .i64 xdep] 35)).alloc (.cells #[.int .i64 0, .int .i64 xdep, .int .i64 4, .int .i64 (-xdep)] 84)) := ⟨_, rfl⟩
    obtain ⟨G, hG0⟩ : ∃ G, G = w.heap.size := ⟨_, rfl⟩
    rw [← hwz] at hw2 hG2 hO
    have HW := hid hwz
    have HG0 := hid hG0
    have HH := hid (And.intro hw2 (And.intro hG2 hO))
    clear hw1 hG hw2 hG2 hO hwz hG0
    go_enter Tryz.func42, Tryz.ntmps42
    go_upto_region 2 with fail
    rw [← HW.out, ← HG0.out]
    obtain ⟨hw2, hG2, hO⟩ := HH.out
    rw [← HG0.out] at hG2
    have g2 : wz.cell? ⟨G, 2, none⟩ = some (.int .i64 xst) := hG2.cell 2
    have lG := hG2.lt
    have HO := hid hO
    have HW2 := hid hw2
    clear HW HH hO hG2 hw2
    go_wp2_with fail
    go_ret
    exact ⟨⟨_, _, rfl, by simpa [enE, HG0.out] using HO.out⟩, HW2.out⟩

end Go.Proofs.YthdmbbfppgenlaaGreat

namespace Go.Proofs.YthdmbbfppgenlaaGreat
open Go.RowKit Go.WideShapes Go.ChangeShapes Go.ChangeAt Go.Deep
set_option linter.unusedVariables false

/-- The sums of all customers, as the call keeps them. -/
def wholeC (f : Fn) : Array Value := (Array.range 65).map fun c : Nat => Value.int .i64 (rowF f (c : Int))
theorem wholeC_size (f : Fn) : (wholeC f).size = 65 := by simp [wholeC]
theorem wholeC_at (f : Fn) {c : Nat} (hc : c < 65) : (wholeC f)[c]? = some (.int .i64 (rowF f c)) := by
  unfold wholeC
  rw [Array.getElem?_map, Array.getElem?_range, if_pos hc]; rfl
theorem wholeC_set {f : Fn} {c a : Nat} {v : Int} (hf : f ((c : Int), (a : Int)) = 0) (hc : c < 65) (ha : a < 6) : (wholeC f).setIfInBounds c (.int .i64 (rowF f c + v)) = wholeC (setF f ((c : Int), (a : Int)) v) := by
  apply Array.ext_getElem?
  intro i
  rw [Array.getElem?_setIfInBounds]
  by_cases h : i < 65
  · rw [wholeC_at _ h, wholeC_at _ h, rowF_set hf (by simp only; omega)]
    by_cases hi : c = i
    · subst hi
      rw [if_pos rfl, if_pos (by rw [wholeC_size]; omega), if_pos rfl]
    · rw [if_neg hi, if_neg (by simp only; omega)]
  · rw [if_neg (by omega), Array.getElem?_eq_none (by rw [wholeC_size]; omega), Array.getElem?_eq_none (by rw [wholeC_size]; omega)]
theorem zero_whole (w : World) : (zeroValue 119).run Tryz.prog w = .ok (.agg (wholeC f0)) w := by kernel_rfl

/-- What Restore leaves. -/
def RestL (t : Int) (l : List Sm) (w : World) (e : Ending) (w' : World) : Prop :=
  (RestOk t l → ∃ X B, e = .returned (.tuple #[.pointer (some ⟨X, 0, none⟩), .int .i64 0]) ∧ w.heap.size ≤ B ∧ w.heap.size ≤ X ∧ IsLed w' X B (fromL l) t) ∧ (¬ RestOk t l → e = .returned (.tuple #[.pointer none, .int .i64 2]))
theorem RestL.no {t : Int} {l : List Sm} {w w' : World} (h : ¬ RestOk t l) : RestL t l w (.returned (.tuple #[.pointer none, .int .i64 2])) w' := ⟨fun h' => absurd h' h, fun _ => rfl⟩

/-- One element of an array's value. -/
theorem index_row {P : Program} {t it : TypeId} {n : Nat} (hu : P.underlying t = some (.array n it)) (ha : ∀ w, (isAgg it).run P w = .ok false w) (hs : ∀ w, (sizeOf it).run P w = .ok 1 w) (cs : Array Value) (k : Nat) (hk : k < n) (v : Value) (hv : cs[k]? = some v) (w : World) :
    (Instr.index t (.agg cs) (.int .i64 (k : Int))).run P w = .ok v w := by
  simp [Instr.index, run_underlying hu, asIntOf, part, ha, hs, hv, go_sem]
  omega
/-- A whole block read as one value. -/
theorem wpList_load_blk {P : Program} {ops : Array Oper} {rest : List Oper} {op : Oper} {a : Act} {w : World} {Q : Exit → Act → World → Prop} (hgd : op.guard = none) (ty : TypeId) (x : Operand) (ho : op.op = .load ty x)
    (b : Nat) (hx : a.eval x = .pointer (some ⟨b, 0, none⟩)) (cs : Array Value) {t : TypeId} (hb : Blk w b t cs) (d : TypeDesc) (hu : P.underlying ty = some d) (hd : d.isRow = true) (hi : (P.info? ty).map (·.size) = some cs.size)
    (h : wpList P ops Q rest (a.put op.dst (.agg cs)) w) : wpList P ops Q (op :: rest) a w := by
  refine wpList_load_mid hgd ty x ho b 0 hx cs.toList d (fun j v hv => ?_) hu hd (by rw [Array.length_toList]; exact hi) (by rw [Array.toArray_toList]; exact h)
  rw [Nat.zero_add, hb.cell]
  simpa using hv
/-- A ledger in the making. -/
structure RS (w : World) (X B Wh : Nat) (t : Int) (f : Fn) (wr : World) : Prop where
  blk : Blk wr X 113 #[.map (some B), .int .i64 t, .int .i64 t]
  map : ∃ m : LMap, IsMap wr B kP vI m ∧ Led m f
  whole : Blk wr Wh 119 (wholeC f)
  bel : Below w.heap.size w wr
theorem RS.next {w wr w' : World} {X B Wh : Nat} {t : Int} {f : Fn} (h : RS w X B Wh t f wr) (hb : Below wr.heap.size wr w') : RS w X B Wh t f w' := ⟨h.blk.next hb, by obtain ⟨m, a, b⟩ := h.map; exact ⟨m, a.next hb, b⟩, h.whole.next hb, bthen h.bel hb⟩
/-- The order of the k-th sum and the one ahead of it. -/
def ordB (l : List Sm) (k : Nat) (x : Sm) : Bool := decide (k = 0) || ltS (keyS (l.getD (k - 1) default)) (keyS x)
def goodB (t : Int) (l : List Sm) (k : Nat) (x : Sm) : Bool := okS t x && ordB l k x
theorem goodB_of {t : Int} {l : List Sm} {k : Nat} {x : Sm} (h : goodB t l k x = true) : okS t x = true ∧ ∀ y, 0 < k → l[k - 1]? = some y → ltS (keyS y) (keyS x) = true := by
  unfold goodB ordB at h
  simp only [Bool.and_eq_true, Bool.or_eq_true, decide_eq_true_eq] at h
  refine ⟨h.1, fun y h0 hy => ?_⟩
  have := h.2.resolve_left (by omega)
  rw [List.getD_eq_getElem?_getD, hy] at this
  exact this
theorem goodB_no {t : Int} {l : List Sm} {k : Nat} {x : Sm} (h : goodB t l k x = false) (hg : GoodAt t l k x) (hk : k ≤ l.length) : False := by
  have : goodB t l k x = true := by
    unfold goodB ordB
    rw [hg.ok, Bool.true_and, Bool.or_eq_true, decide_eq_true_eq]
    by_cases h0 : k = 0
    · exact .inl h0
    · right
      obtain ⟨y, hy⟩ : ∃ y, l[k - 1]? = some y := ⟨l[k - 1], List.getElem?_eq_getElem (by omega)⟩
      rw [List.getD_eq_getElem?_getD, hy]
      exact hg.lt y (by omega) hy
  rw [this] at h
  cases h

set_option maxRecDepth 100000 in
set_option maxHeartbeats 16000000 in
theorem lrestore_any (t : Int) (l : List Sm) (A : Option Addr) (cp : Nat) (w : World) (hR : Rd w A (l.flatMap enS)) (hl : l.length ≤ 140737488355328) :
    Calls Tryz.prog 47 #[.int .i64 t, .slice A l.length cp] w fun e w' => RestL t l w e w' ∧ Below w.heap.size w w' := by
  by_cases ht0 : 0 ≤ t
  · by_cases ht1 : t ≤ 1152921504606846976
    · go_enter Tryz.func47, Tryz.ntmps47
      go_wp2_with fail
      refine (lnew_any _).mono ?_
      rintro e w1 ⟨X, B, rfl, hB, hX, h, hb⟩
      have hX0 := hX
      obtain ⟨m0, hM0, hL0⟩ := h.map
      have hXB := h.ne
      have hX1 := h.blk
      have z1 : w1.cell? ⟨X, 1, none⟩ = some (.int .i64 0) := hX1.cell 1
      have z2 : w1.cell? ⟨X, 2, none⟩ = some (.int .i64 0) := hX1.cell 2
      have z3 : w1.frozen? ⟨X, 1, none⟩ = false := hX1.free 1
      have z4 : w1.frozen? ⟨X, 2, none⟩ = false := hX1.free 2
      have hX2 : Blk ((w1.setCell ⟨X, 1, none⟩ (.int .i64 t)).setCell ⟨X, 2, none⟩ (.int .i64 t)) X 113 #[.map (some B), .int .i64 t, .int .i64 t] := (hX1.set_ 1 _).set_ 2 _
      have hM2 := (hM0.setCell ⟨X, 1, none⟩ (.int .i64 t)).setCell ⟨X, 2, none⟩ (.int .i64 t)
      have hT2 : Touch (· = X) w1 ((w1.setCell ⟨X, 1, none⟩ (.int .i64 t)).setCell ⟨X, 2, none⟩ (.int .i64 t)) := (Touch.setCell _ _ _ _).then (Touch.setCell _ _ _ _)
      have hb2 := hb.trans (hT2.below hb.size (fun k hk => by rw [hk]; exact hX))
      have hz := zero_whole
      have HQ := hid (And.intro hX2 (And.intro hM2 (And.intro hb2 hT2.size)))
      have hxl := hX1.lt
      have hml := hM0.lt
      clear h hX1 hX2 hM2 hT2 hb2 hb hM0
      have hW1 : Hid (∀ W : World, W.heap.size = w1.heap.size → Blk (W.alloc (.cells (wholeC f0) 119)) w1.heap.size 119 (wholeC f0)) := hid (fun W hW => by rw [← hW]; exact Blk.new W _ _)
      go_wp2_with fail
      obtain ⟨W2, hW2⟩ : ∃ W2, W2 = (w1.setCell ⟨X, 1, none⟩ (.int .i64 t)).setCell ⟨X, 2, none⟩ (.int .i64 t) := ⟨_, rfl⟩
      have hsz2 : W2.heap.size = w1.heap.size := by rw [hW2]; simp [World.setCell]
      obtain ⟨Wh, hWh⟩ : ∃ Wh, Wh = w1.heap.size := ⟨_, rfl⟩
      rw [← hW2] at HQ ⊢
      rw [← hWh] at hW1 hsz2 hxl hml ⊢
      have hR0 : RS w X B Wh t f0 (W2.alloc (.cells (wholeC f0) 119)) := ⟨HQ.out.1.alloc _, ⟨m0, HQ.out.2.1.alloc _, hL0⟩, hW1.out W2 hsz2, HQ.out.2.2.1.alloc HQ.out.2.2.1.size _⟩
      have hwX : Wh ≠ X := by omega
      have hwB : Wh ≠ B := by omega
      have hww : w.heap.size ≤ Wh := by omega
      clear HQ hW1 hW2 hz z1 z2 z3 z4 hL0 hxl hml hsz2 hWh
      go_loopw [8, 30] (fun dv iv wr => ∃ k : Nat, k ≤ l.length ∧ iv = .int .i64 k ∧ dv = .int .i64 (debS (l.take k)) ∧ debS (l.take k) ≤ t ∧ Hid (GoodTo t l k) ∧ RS w X B Wh t (fromL (l.take k)) wr) (fun _ iv _ => l.length - (intOf iv).toNat)
      case atStart => exact ⟨0, Nat.zero_le _, rfl, rfl, ht0, hid (GoodTo.zero t l), hR0⟩
      case round =>
        clear hR0
        obtain ⟨k, hk, rfl, rfl, hdt, hG, h⟩ := hrel
        have hdn := debS_nonneg (l.take k)
        by_cases hlt : k < l.length
        · obtain ⟨x, hx⟩ : ∃ x, l[k]? = some x := ⟨l[k], List.getElem?_eq_getElem hlt⟩
          have hR1 := hR.below h.bel
          obtain ⟨b, off, rfl, hbs, hcc⟩ := hR1.at_ 3 enS_len (by omega) hx
          have HS : Hid (l.take (k + 1) = l.take k ++ [x]) := hid (by rw [List.take_add_one, hx]; rfl)
          have HX := hid hx
          obtain ⟨xc, xa, xn⟩ := x
          have q0 : wr.cell? ⟨b, off + k * 3, none⟩ = some (.int .i64 xc) := hcc 0 _ rfl
          have q1 : wr.cell? ⟨b, off + k * 3 + 1, none⟩ = some (.int .i64 xa) := hcc 1 _ rfl
          have q2 : wr.cell? ⟨b, off + k * 3 + 2, none⟩ = some (.int .i64 xn) := hcc 2 _ rfl
          have hwb : Below wr.heap.size wr (wr.alloc (.cells #[.int .i64 xc, .int .i64 xa, .int .i64 xn] 86)) := (Below.refl _ _).alloc (Nat.le_refl _) _
          have hBG : Blk (wr.alloc (.cells #[.int .i64 xc, .int .i64 xa, .int .i64 xn] 86)) wr.heap.size 86 #[.int .i64 xc, .int .i64 xa, .int .i64 xn] := Blk.new _ _ _
          obtain ⟨G, hGe⟩ : ∃ G, G = wr.heap.size := ⟨_, rfl⟩
          have hGX : G ≠ X := by have := h.blk.lt; omega
          have hGB : G ≠ B := by have := (h.map.choose_spec.1).lt; omega
          have hGW : G ≠ Wh := by have := h.whole.lt; omega
          have hGw : w.heap.size ≤ G := by have := h.bel.size; omega
          rw [← hGe] at hBG
          obtain ⟨C, hCd⟩ : ∃ C : World → Prop, ∀ w', C w' ↔ (RS w X B Wh t (fromL (l.take k)) w' ∧ Blk w' G 86 #[.int .i64 xc, .int .i64 xa, .int .i64 xn]) := ⟨_, fun _ => Iff.rfl⟩
          have hK : ∀ w1 w2, C w1 → Below w1.heap.size w1 w2 → C w2 := fun w1 w2 h hb => by
            obtain ⟨a1, a2⟩ := (hCd _).1 h
            exact (hCd _).2 ⟨a1.next hb, a2.next hb⟩
          have hC : C (wr.alloc (.cells #[.int .i64 xc, .int .i64 xa, .int .i64 xn] 86)).drew := hK _ _ ((hCd _).2 ⟨h.next hwb, hBG⟩) (below_drewN (Below.refl _ _) 1)
          have HC := hid hC
          have HK := hid hK
          have HCd := hid hCd
          have g0 : ∀ p : In C, p.w.cell? ⟨G, 0, none⟩ = some (.int .i64 xc) := fun p => ((hCd _).1 p.h).2.cell 0
          have g1 : ∀ p : In C, p.w.cell? ⟨G, 1, none⟩ = some (.int .i64 xa) := fun p => ((hCd _).1 p.h).2.cell 1
          have g2 : ∀ p : In C, p.w.cell? ⟨G, 2, none⟩ = some (.int .i64 xn) := fun p => ((hCd _).1 p.h).2.cell 2
          have HY : Hid (∀ (p : In C) (y : Sm), l[k - 1]? = some y → ∀ j u, (enS y)[j]? = some u → p.w.cell? ⟨b, off + (k - 1) * 3 + j, none⟩ = some u) := hid (fun p y hy => by
            obtain ⟨b', off', he, _, hc⟩ := (hR.below ((hCd _).1 p.h).1.bel).at_ 3 enS_len (by omega) hy
            injection he with he
            simp only [Addr.mk.injEq, and_true] at he
            obtain ⟨rfl, rfl⟩ := he
            exact hc)
          clear hCd hK hC hcc hx hR1 hwb hBG h
          go_upto_region 10 with fail
          rw [← hGe]
          go_cut [72] (fun v wx => v = .bool (!goodB t l k ⟨xc, xa, xn⟩) ∧ C wx)
          case first =>
            clear hGe q0 q1 q2 HS HX hG hdt hdn HCd hGX hGB hGW hGw hwX hwB hww
            cases hf : fitB xc xa with
            | false =>
              have HV : Hid ((!goodB t l k ⟨xc, xa, xn⟩) = true) := hid (by
                have h : okS t ⟨xc, xa, xn⟩ = false := Bool.eq_false_iff.2 (fun h => by have := (okS_iff t _).1 h; rw [(fitB_iff xc xa).2 ⟨this.1, this.2.1, this.2.2.1, this.2.2.2.1⟩] at hf; cases hf)
                unfold goodB; rw [h]; rfl)
              have OF : Hid (∀ p : In C, Calls Tryz.prog 64 #[.int .i64 xc, .int .i64 xa] p.w fun e w' => e = .returned (.bool false) ∧ C w') := hid (fun p => (lfit_any xc xa p.w).mono fun _ _ ⟨e1, e2⟩ => ⟨by rw [e1, hf], by rw [← e2]; exact p.h⟩)
              have OO := hid trivial
              clear hf
              refine wp_region_in C (by kernel_rfl) (by kernel_rfl) HC.out ?_
              intro hne
              repeat (first | go_big_quiet_step ((first | (go_at_call 64; exact Calls.in_of (OF.out _)) | (go_at_call 65; exact Calls.in_of (OO.out _)))) | quiet_step ((first | (go_at_call 64; exact Calls.in_of (OF.out _)) | (go_at_call 65; exact Calls.in_of (OO.out _)))))
              refine wpQuiet_nil ?_
              intro wq hq
              go_wp2_with fail
              go_meet
              exact ⟨by rw [HV.out], hq⟩
            | true =>
              have OF : Hid (∀ p : In C, Calls Tryz.prog 64 #[.int .i64 xc, .int .i64 xa] p.w fun e w' => e = .returned (.bool true) ∧ C w') := hid (fun p => (lfit_any xc xa p.w).mono fun _ _ ⟨e1, e2⟩ => ⟨by rw [e1, hf], by rw [← e2]; exact p.h⟩)
              obtain ⟨f1, f2, f3, f4⟩ := (fitB_iff xc xa).1 hf
              clear hf
              by_cases hk0 : k = 0
              · have HOB : Hid (ordB l k ⟨xc, xa, xn⟩ = true) := hid (by unfold ordB; simp [hk0])
                have b0 : decide ((0 : Int) < (k : Int)) = false := by simp; omega
                have OO := hid trivial
                by_cases n0 : xn = 0
                · have e1 : (xn == 0) = true := by simpa using n0
                  have HV : Hid ((!goodB t l k ⟨xc, xa, xn⟩) = true) := hid (by unfold goodB okS; simp [n0])
                  clear n0
                  refine wp_region_in C (by kernel_rfl) (by kernel_rfl) HC.out ?_
                  intro hne
                  repeat (first | go_big_quiet_step ((first | (go_at_call 64; exact Calls.in_of (OF.out _)) | (go_at_call 65; exact Calls.in_of (OO.out _)))) | quiet_step ((first | (go_at_call 64; exact Calls.in_of (OF.out _)) | (go_at_call 65; exact Calls.in_of (OO.out _)))))
                  refine wpQuiet_nil ?_
                  intro wq hq
                  go_wp2_with fail
                  go_meet
                  exact ⟨by rw [HV.out], hq⟩
                · have e1 : (xn == 0) = false := by simpa using n0
                  by_cases n1 : xn ≤ t
                  · have e2 : decide (t < xn) = false := by simp; omega
                    by_cases n2 : -t ≤ xn
                    · have e3 : decide (xn < -t) = false := by simp; omega
                      have HV : Hid ((!goodB t l k ⟨xc, xa, xn⟩) = false) := hid (by unfold goodB; rw [(okS_iff t _).2 ⟨f1, f2, f3, f4, n0, n1, n2⟩, HOB.out]; rfl)
                      clear n0
                      refine wp_region_in C (by kernel_rfl) (by kernel_rfl) HC.out ?_
                      intro hne
                      repeat (first | go_big_quiet_step ((first | (go_at_call 64; exact Calls.in_of (OF.out _)) | (go_at_call 65; exact Calls.in_of (OO.out _)))) | quiet_step ((first | (go_at_call 64; exact Calls.in_of (OF.out _)) | (go_at_call 65; exact Calls.in_of (OO.out _)))))
                      refine wpQuiet_nil ?_
                      intro wq hq
                      go_wp2_with fail
                      go_meet
                      exact ⟨by rw [HV.out], hq⟩
                    · have e3 : decide (xn < -t) = true := by simp; omega
                      have HV : Hid ((!goodB t l k ⟨xc, xa, xn⟩) = true) := hid (by unfold goodB okS; simp [n2])
                      clear n0 n2
                      refine wp_region_in C (by kernel_rfl) (by kernel_rfl) HC.out ?_
                      intro hne
                      repeat (first | go_big_quiet_step ((first | (go_at_call 64; exact Calls.in_of (OF.out _)) | (go_at_call 65; exact Calls.in_of (OO.out _)))) | quiet_step ((first | (go_at_call 64; exact Calls.in_of (OF.out _)) | (go_at_call 65; exact Calls.in_of (OO.out _)))))
                      refine wpQuiet_nil ?_
                      intro wq hq
                      go_wp2_with fail
                      go_meet
                      exact ⟨by rw [HV.out], hq⟩
                  · have e2 : decide (t < xn) = true := by simp; omega
                    have HV : Hid ((!goodB t l k ⟨xc, xa, xn⟩) = true) := hid (by unfold goodB okS; simp [n1])
                    clear n0 n1
                    refine wp_region_in C (by kernel_rfl) (by kernel_rfl) HC.out ?_
                    intro hne
                    repeat (first | go_big_quiet_step ((first | (go_at_call 64; exact Calls.in_of (OF.out _)) | (go_at_call 65; exact Calls.in_of (OO.out _)))) | quiet_step ((first | (go_at_call 64; exact Calls.in_of (OF.out _)) | (go_at_call 65; exact Calls.in_of (OO.out _)))))
                    refine wpQuiet_nil ?_
                    intro wq hq
                    go_wp2_with fail
                    go_meet
                    exact ⟨by rw [HV.out], hq⟩
              · have b0 : (0 : Int) < (k : Int) := by omega
                have b0n : 0 < k := by omega
                have hkw : IntKind.i64.wrap ((k : Int) - 1) = ((k - 1 : Nat) : Int) := by rw [IntWalk.i64_in _ ⟨by omega, by omega⟩]; omega
                have hkl : k - 1 < l.length := by omega
                obtain ⟨y, hy⟩ : ∃ y, l[k - 1]? = some y := ⟨l[k - 1], List.getElem?_eq_getElem hkl⟩
                have HOBe : Hid (ordB l k ⟨xc, xa, xn⟩ = lt2S y ⟨xc, xa, xn⟩) := hid (by unfold ordB; rw [lt2S_eq, List.getD_eq_getElem?_getD, hy]; simp [hk0])
                have g3 := fun p : In C => HY.out p y hy
                obtain ⟨yc, ya, yn⟩ := y
                have g4 : ∀ p : In C, p.w.cell? ⟨b, off + (k - 1) * 3, none⟩ = some (.int .i64 yc) := fun p => g3 p 0 _ rfl
                have g5 : ∀ p : In C, p.w.cell? ⟨b, off + (k - 1) * 3 + 1, none⟩ = some (.int .i64 ya) := fun p => g3 p 1 _ rfl
                have g6 : ∀ p : In C, p.w.cell? ⟨b, off + (k - 1) * 3 + 2, none⟩ = some (.int .i64 yn) := fun p => g3 p 2 _ rfl
                obtain ⟨cf, hcf⟩ : ∃ cf, cf = cfS ⟨yc, ya, yn⟩ ⟨xc, xa, xn⟩ := ⟨_, rfl⟩
                have OO : Hid (∀ p : In C, Calls Tryz.prog 65 #[.agg #[.int .i64 yc, .int .i64 ya, .int .i64 yn], .agg #[.int .i64 xc, .int .i64 xa, .int .i64 xn]] p.w fun e w' => e = .returned (.int .i64 cf) ∧ C w') := hid (fun p => (lorder_any ⟨yc, ya, yn⟩ ⟨xc, xa, xn⟩ p.w).mono fun _ _ ⟨e1, e2⟩ => ⟨by rw [e1, hcf], HK.out _ _ p.h (grew_below e2)⟩)
                clear g3 hy hk0
                by_cases ho : 0 ≤ cf
                · have HV : Hid ((!goodB t l k ⟨xc, xa, xn⟩) = true) := hid (by
                    have h : ordB l k ⟨xc, xa, xn⟩ = false := by rw [HOBe.out]; unfold lt2S; rw [← hcf]; simp; omega
                    unfold goodB; rw [h, Bool.and_false]; rfl)
                  clear hcf
                  refine wp_region_in C (by kernel_rfl) (by kernel_rfl) HC.out ?_
                  intro hne
                  repeat (first | go_big_quiet_step ((first | (go_at_call 64; exact Calls.in_of (OF.out _)) | (go_at_call 65; exact Calls.in_of (OO.out _)))) | quiet_step ((first | (go_at_call 64; exact Calls.in_of (OF.out _)) | (go_at_call 65; exact Calls.in_of (OO.out _)))))
                  refine wpQuiet_nil ?_
                  intro wq hq
                  go_wp2_with fail
                  go_meet
                  exact ⟨by rw [HV.out], hq⟩
                · have HOB : Hid (ordB l k ⟨xc, xa, xn⟩ = true) := hid (by rw [HOBe.out]; unfold lt2S; rw [← hcf]; simp; omega)
                  have b3 : decide (0 ≤ cf) = false := by simp; omega
                  clear hcf ho
                  by_cases n0 : xn = 0
                  · have e1 : (xn == 0) = true := by simpa using n0
                    have HV : Hid ((!goodB t l k ⟨xc, xa, xn⟩) = true) := hid (by unfold goodB okS; simp [n0])
                    clear n0
                    refine wp_region_in C (by kernel_rfl) (by kernel_rfl) HC.out ?_
                    intro hne
                    repeat (first | go_big_quiet_step ((first | (go_at_call 64; exact Calls.in_of (OF.out _)) | (go_at_call 65; exact Calls.in_of (OO.out _)))) | quiet_step ((first | (go_at_call 64; exact Calls.in_of (OF.out _)) | (go_at_call 65; exact Calls.in_of (OO.out _)))))
                    refine wpQuiet_nil ?_
                    intro wq hq
                    go_wp2_with fail
                    go_meet
                    exact ⟨by rw [HV.out], hq⟩
                  · have e1 : (xn == 0) = false := by simpa using n0
                    by_cases n1 : xn ≤ t
                    · have e2 : decide (t < xn) = false := by simp; omega
                      by_cases n2 : -t ≤ xn
                      · have e3 : decide (xn < -t) = false := by simp; omega
                        have HV : Hid ((!goodB t l k ⟨xc, xa, xn⟩) = false) := hid (by unfold goodB; rw [(okS_iff t _).2 ⟨f1, f2, f3, f4, n0, n1, n2⟩, HOB.out]; rfl)
                        clear n0
                        refine wp_region_in C (by kernel_rfl) (by kernel_rfl) HC.out ?_
                        intro hne
                        repeat (first | go_big_quiet_step ((first | (go_at_call 64; exact Calls.in_of (OF.out _)) | (go_at_call 65; exact Calls.in_of (OO.out _)))) | quiet_step ((first | (go_at_call 64; exact Calls.in_of (OF.out _)) | (go_at_call 65; exact Calls.in_of (OO.out _)))))
                        refine wpQuiet_nil ?_
                        intro wq hq
                        go_wp2_with fail
                        go_meet
                        exact ⟨by rw [HV.out], hq⟩
                      · have e3 : decide (xn < -t) = true := by simp; omega
                        have HV : Hid ((!goodB t l k ⟨xc, xa, xn⟩) = true) := hid (by unfold goodB okS; simp [n2])
                        clear n0 n2
                        refine wp_region_in C (by kernel_rfl) (by kernel_rfl) HC.out ?_
                        intro hne
                        repeat (first | go_big_quiet_step ((first | (go_at_call 64; exact Calls.in_of (OF.out _)) | (go_at_call 65; exact Calls.in_of (OO.out _)))) | quiet_step ((first | (go_at_call 64; exact Calls.in_of (OF.out _)) | (go_at_call 65; exact Calls.in_of (OO.out _)))))
                        refine wpQuiet_nil ?_
                        intro wq hq
                        go_wp2_with fail
                        go_meet
                        exact ⟨by rw [HV.out], hq⟩
                    · have e2 : decide (t < xn) = true := by simp; omega
                      have HV : Hid ((!goodB t l k ⟨xc, xa, xn⟩) = true) := hid (by unfold goodB okS; simp [n1])
                      clear n0 n1
                      refine wp_region_in C (by kernel_rfl) (by kernel_rfl) HC.out ?_
                      intro hne
                      repeat (first | go_big_quiet_step ((first | (go_at_call 64; exact Calls.in_of (OF.out _)) | (go_at_call 65; exact Calls.in_of (OO.out _)))) | quiet_step ((first | (go_at_call 64; exact Calls.in_of (OF.out _)) | (go_at_call 65; exact Calls.in_of (OO.out _)))))
                      refine wpQuiet_nil ?_
                      intro wq hq
                      go_wp2_with fail
                      go_meet
                      exact ⟨by rw [HV.out], hq⟩
          case rest =>
            obtain ⟨rfl, hq⟩ := hcut
            obtain ⟨h, hBG⟩ := (HCd.out _).1 hq
            clear g0 g1 g2 HY HC HK HCd hq q0 q1 q2 hGe
            cases hgb : goodB t l k ⟨xc, xa, xn⟩ with
            | false =>
              have hn : ¬ RestOk t l := fun h => goodB_no hgb (h.good k _ hlt HX.out) hk
              have HN := hid (fun w' => RestL.no (w := w) (w' := w') hn)
              have hbw := h.bel
              clear hgb hn h hBG
              go_wp2_with fail
              go_ret2
              exact ⟨HN.out _, hbw⟩
            | true =>
              obtain ⟨hok, hlt2⟩ := goodB_of hgb
              have ho := (okS_iff t _).1 hok
              simp only at ho
              obtain ⟨o1, o2, o3, o4, o5, o6, o7⟩ := ho
              have hnew := hG.out.new HX.out hlt2
              obtain ⟨cn, rfl⟩ : ∃ cn : Nat, xc = (cn : Int) := ⟨xc.toNat, by omega⟩
              obtain ⟨an, rfl⟩ : ∃ an : Nat, xa = (an : Int) := ⟨xa.toNat, by omega⟩
              have hcn : cn < 65 := by omega
              have hcn2 : (cn : Int) < 65 := by omega
              have han : an < 6 := by omega
              have hFn := hid (show fromL (l.take (k + 1)) = setF (fromL (l.take k)) ((cn : Int), (an : Int)) xn from by rw [HS.out, fromL_snoc]; rfl)
              have hDn := hid (show debS (l.take (k + 1)) = debS (l.take k) + pos xn from by rw [HS.out, debS_snoc])
              have hrb := rowF_bd (fun p => hG.out.bd hk ht0 p) (cn : Int)
              have hGd := hid (fun (hd : debS (l.take (k + 1)) ≤ t) => hG.out.succ (fun x' hx' => by rw [HX.out] at hx'; injection hx' with hx'; subst hx'; exact ⟨hok, hlt2, hd⟩))
              have hBad := hid (fun (hd : ¬ debS (l.take (k + 1)) ≤ t) (h : RestOk t l) => hd (h.good k _ hlt HX.out).deb)
              obtain ⟨m, hM, hL⟩ := h.map
              have hX := h.blk
              have hW := h.whole
              have hbw := h.bel
              have hWs := hid (wholeC_set (v := xn) hnew hcn han)
              have hL2 := hid (hL.set ((cn : Int), (an : Int)) xn o5)
              have hwa := wholeC_at (fromL (l.take k)) hcn
              generalize fromL (l.take k) = f at *
              generalize debS (l.take k) = D at *
              have HW := hid hW
              have q0 : World.cell? _ ⟨G, 0, none⟩ = some (.int .i64 (cn : Int)) := hBG.cell 0
              have q1 : World.cell? _ ⟨G, 1, none⟩ = some (.int .i64 (an : Int)) := hBG.cell 1
              have q2 : World.cell? _ ⟨G, 2, none⟩ = some (.int .i64 xn) := hBG.cell 2
              have q3 : World.cell? _ ⟨X, 0, none⟩ = some (.map (some B)) := hX.cell 0
              clear hgb hok hlt2 hnew h hL hW o5 hG HS HX
              go_wp2_with fail
              refine wp_tail 11 (by kernel_rfl) (by kernel_rfl) ?_
              simp only [List.take_succ_cons, List.take_zero, List.drop_succ_cons, List.drop_zero]
              repeat still_step
              refine wpStill_nil ?_
              go_wp2_with (first
                | (at_mapUpdate; refine wpList_store _ rfl _ _ _ 111 2 rfl keyLd Tryz.underlying111 B m rfl (hM.keep rfl) ((cn : Int), (an : Int)) xn rfl rfl ?_; intro w3 hM3 hg3 hs3))
              have hX3 : Blk w3 X 113 #[.map (some B), .int .i64 t, .int .i64 t] := Blk.grown (w := wc.drew) hX hg3 (fun e => hXB (by injection e))
              have hW3 : Blk w3 Wh 119 (wholeC f) := Blk.grown (w := wc.drew) HW.out hg3 (fun e => hwB (by injection e))
              have hG3 : Blk w3 G 86 #[.int .i64 (cn : Int), .int .i64 (an : Int), .int .i64 xn] := Blk.grown (w := wc.drew) hBG hg3 (fun e => hGB (by injection e))
              have hb3 : Below w.heap.size w w3 := (hbw.drew).grown hg3 hbw.size (fun k hk => by injection hk with hk; omega)
              have r0 : w3.cell? ⟨G, 0, none⟩ = some (.int .i64 (cn : Int)) := hG3.cell 0
              have r1 : w3.cell? ⟨G, 2, none⟩ = some (.int .i64 xn) := hG3.cell 2
              have r2 : w3.cell? ⟨Wh, cn, none⟩ = some (.int .i64 (rowF f cn)) := (hW3.cell cn).trans hwa
              have r3 : w3.frozen? ⟨Wh, cn, none⟩ = false := hW3.free cn
              have hR4 : RS w X B Wh t (fromL (l.take (k + 1))) (w3.setCell ⟨Wh, cn, none⟩ (.int .i64 (rowF f cn + xn))).drew := by
                rw [hFn.out]
                refine ⟨Blk.far hX3 (fun e => hwX e.symm) _, ⟨_, IsMap.setCell hM3 _ _, hL2.out⟩, ?_, (hb3.trans ((Touch.setCell w3 Wh cn _).below hb3.size (fun k hk => by rw [hk]; exact hww))).drew⟩
                have := hW3.set_ cn (.int .i64 (rowF f cn + xn))
                rw [hWs.out] at this
                exact this
              have HG4 := hid (Blk.far hG3 hGW (p := ⟨Wh, cn, none⟩) (.int .i64 (rowF f cn + xn)))
              have HR4 := hid hR4
              clear hX3 hW3 hG3 hb3 hM3 hg3 hs3 hX hM hbw hBG HW q0 q1 q2 q3 hR4 hL2 hWs hwa hFn
              generalize rowF f (cn : Int) = rv at *
              go_wp2_with fail
              refine wp_tail 8 (by kernel_rfl) (by kernel_rfl) ?_
              simp only [List.take_succ_cons, List.take_zero, List.drop_succ_cons, List.drop_zero]
              repeat still_step
              refine wpStill_nil ?_
              clear r0 r1
              have r4 : (w3.setCell ⟨Wh, cn, none⟩ (.int .i64 (rv + xn))).cell? ⟨G, 2, none⟩ = some (.int .i64 xn) := HG4.out.cell 2
              by_cases hpx : 0 < xn
              · have HP := hid (show pos xn = xn from if_pos hpx)
                by_cases hd : D + xn ≤ t
                · have hd2 : decide (t < D + xn) = false := by simp; omega
                  have hd3 : decide (t < D + max 0 xn) = false := by simp; omega
                  have HG2 := hid (hGd.out (by rw [hDn.out, HP.out]; omega))
                  clear hGd hBad
                  go_wp2_with fail
                  go_roundw
                  case rel => exact ⟨k + 1, by omega, by go_num, by rw [hDn.out, HP.out]; exact congrArg (Value.int .i64) (by omega), by rw [hDn.out, HP.out]; omega, HG2, HR4.out⟩
                  case measure => simp [intOf]; omega
                · have hd2 : decide (t < D + xn) = true := by simp; omega
                  have hd3 : decide (t < D + max 0 xn) = true := by simp; omega
                  have hd4 : t < D + max 0 xn := by omega
                  have hn := hBad.out (by rw [hDn.out, HP.out]; omega)
                  have HN := hid (fun w' => RestL.no (w := w) (w' := w') hn)
                  have hbw4 := HR4.out.bel
                  clear hGd hBad hn HR4
                  go_wp2_with fail
                  go_ret2
                  exact ⟨HN.out _, hbw4⟩
              · have HP := hid (show pos xn = 0 from if_neg hpx)
                have hd2 : decide (t < D) = false := by simp; omega
                have HG2 := hid (hGd.out (by rw [hDn.out, HP.out]; omega))
                clear hGd hBad
                go_wp2_with fail
                go_roundw
                case rel => exact ⟨k + 1, by omega, by go_num, by rw [hDn.out, HP.out]; go_num, by rw [hDn.out, HP.out]; omega, HG2, HR4.out⟩
                case measure => simp [intOf]; omega
        · have hk' : k = l.length := by omega
          subst hk'
          rw [List.take_length] at *
          have hX := h.blk
          have hW := h.whole
          have hbw := h.bel
          obtain ⟨m, hM, hL⟩ := h.map
          have hsz := wholeC_size (fromL l)
          have HSZ := hid hsz
          clear hlt hk hsz h
          go_wp2_with (first
            | (refine wpList_load_blk rfl 119 (Operand.tmp 7) rfl Wh rfl (wholeC (fromL l)) hW _ Tryz.underlying119 rfl (by rw [HSZ.out]; kernel_rfl) ?_))
          go_loop [102] (fun i => ∃ k : Nat, k ≤ 65 ∧ i = .int .i64 k ∧ Hid (∀ c : Nat, c < k → rowF (fromL l) c = 0)) (fun i => 65 - (intOf i).toNat)
          case atStart => exact ⟨0, by omega, rfl, hid (fun c hc => by omega)⟩
          case round =>
            obtain ⟨k, hk, rfl, hz⟩ := hrel
            by_cases hlt : k < 65
            · have hwa := wholeC_at (fromL l) hlt
              have hlt2 : (k : Int) < 65 := by omega
              have hix := index_row Tryz.underlying119 isAgg_i64 (fun w => by kernel_rfl) (wholeC (fromL l)) k hlt _ hwa wr
              by_cases hr : rowF (fromL l) k = 0
              · have b1 : (rowF (fromL l) k != 0) = false := by simpa using hr
                have HZ2 := hid (show ∀ c : Nat, c < k + 1 → rowF (fromL l) c = 0 from fun c hc => by
                  rcases Nat.lt_succ_iff_lt_or_eq.1 hc with h1 | h1
                  · exact hz.out c h1
                  · subst h1; exact hr)
                generalize rowF (fromL l) k = rv at *
                clear hr hwa
                go_wp2_with fail
                go_round
                case rel => exact ⟨k + 1, by omega, by go_num, HZ2⟩
                case measure => simp [intOf]; omega
              · have b1 : (rowF (fromL l) k != 0) = true := by simpa using hr
                have hn : ¬ RestOk t l := fun h => hr (by
                  rcases Nat.eq_zero_or_pos k with h0 | h0
                  · subst h0
                    exact sum_map_zero _ _ (fun a _ => Classical.byContradiction fun hne => by
                      have := hG.out.sup (Nat.le_refl _) (p := (((0 : Nat) : Int), (a : Int))) (by rw [List.take_length]; exact hne)
                      have := this.1
                      simp at this)
                  · exact h.zero k h0 (by omega))
                have HN := hid (fun w' => RestL.no (w := w) (w' := w') hn)
                generalize rowF (fromL l) k = rv at *
                clear hr hwa hn
                go_wp2_with fail
                go_ret2
                exact ⟨HN.out _, hbw⟩
            · have hk' : k = 65 := by omega
              subst hk'
              have hro : RestOk t l := ⟨ht0, ht1, hG.out, fun c _ h2 => hz.out c (by omega)⟩
              have HE := hid (show RestL t l w (.returned (.tuple #[.pointer (some ⟨X, 0, none⟩), .int .i64 0])) wr from ⟨fun _ => ⟨X, B, rfl, hB, hX0, ⟨hX, ⟨m, hM, hL⟩, hro.inv⟩⟩, fun hn => absurd hro hn⟩)
              clear hro hz hX hM hL hW
              go_wp2_with fail
              go_ret2
              exact ⟨HE.out, hbw⟩
    · have hn : ¬ RestOk t l := fun h => ht1 h.d1
      have HN := hid (RestL.no (w := w) (w' := w) hn)
      clear hn hR
      go_enter Tryz.func47, Tryz.ntmps47
      go_wp2_with fail
      go_ret2
      exact ⟨HN.out, Below.refl _ _⟩
  · have hn : ¬ RestOk t l := fun h => ht0 h.d0
    have HN := hid (RestL.no (w := w) (w' := w) hn)
    clear hn hR
    go_enter Tryz.func47, Tryz.ntmps47
    go_wp2_with fail
    go_ret2
    exact ⟨HN.out, Below.refl _ _⟩

end Go.Proofs.YthdmbbfppgenlaaGreat

namespace Go.Proofs.YthdmbbfppgenlaaGreat
open Go.RowKit Go.Maps Go.Sort Go.ChangeShapes Go.WideShapes Go.ChangeAt Go.Deep
set_option linter.unusedVariables false

set_option maxRecDepth 100000 in
set_option maxHeartbeats 4000000 in
theorem rorder_any (x y : Sm) (w : World) : Calls Tryz.prog 44 #[.agg #[.int .i64 x.c, .int .i64 x.a, .int .i64 x.n], .agg #[.int .i64 y.c, .int .i64 y.a, .int .i64 y.n]] w fun e w' => e = .returned (.int .i64 (cfS x y)) ∧ Grew w w' := by
  obtain ⟨xd, xo, xs⟩ := x
  obtain ⟨yd, yo, ys⟩ := y
  simp only
  have b1 : Blk ((w.alloc (.cells #[.int .i64 xd, .int .i64 xo, .int .i64 xs] 86)).alloc (.cells #[.int .i64 yd, .int .i64 yo, .int .i64 ys] 86)) w.heap.size 86 #[.int .i64 xd, .int .i64 xo, .int .i64 xs] := (Blk.new _ _ _).alloc _
  have b2 : Blk ((w.alloc (.cells #[.int .i64 xd, .int .i64 xo, .int .i64 xs] 86)).alloc (.cells #[.int .i64 yd, .int .i64 yo, .int .i64 ys] 86)) (w.heap.size + 1) 86 #[.int .i64 yd, .int .i64 yo, .int .i64 ys] := by
    have := Blk.new (w.alloc (.cells #[.int .i64 xd, .int .i64 xo, .int .i64 xs] 86)) 86 #[.int .i64 yd, .int .i64 yo, .int .i64 ys]
    rw [World.size_alloc] at this
    exact this
  have hg : Grew w ((w.alloc (.cells #[.int .i64 xd, .int .i64 xo, .int .i64 xs] 86)).alloc (.cells #[.int .i64 yd, .int .i64 yo, .int .i64 ys] 86)) := ((Grew.refl w).alloc _).alloc _
  have B1 := hid b1
  have B2 := hid b2
  clear b1 b2
  go_enter Tryz.func44, Tryz.ntmps44
  go_wp2_with fail
  obtain ⟨W, hW⟩ : ∃ W, W = (w.alloc (.cells #[.int .i64 xd, .int .i64 xo, .int .i64 xs] 86)).alloc (.cells #[.int .i64 yd, .int .i64 yo, .int .i64 ys] 86) := ⟨_, rfl⟩
  replace B1 := B1.out
  replace B2 := B2.out
  rw [← hW] at B1 B2 hg ⊢
  obtain ⟨G, hG⟩ : ∃ G, G = w.heap.size := ⟨_, rfl⟩
  rw [← hG] at B1 B2 ⊢
  clear hW hG
  have p0 : W.cell? ⟨G, 0, none⟩ = some (.int .i64 xd) := B1.cell 0
  have p1 : W.cell? ⟨G, 1, none⟩ = some (.int .i64 xo) := B1.cell 1
  have p3 : W.cell? ⟨G + 1, 0, none⟩ = some (.int .i64 yd) := B2.cell 0
  have p4 : W.cell? ⟨G + 1, 1, none⟩ = some (.int .i64 yo) := B2.cell 1
  have b1 := B1.alloc (.cells #[.int .i64 (cmpI xd yd), .int .i64 (cmpI xo yo)] 3)
  have b2 := B2.alloc (.cells #[.int .i64 (cmpI xd yd), .int .i64 (cmpI xo yo)] 3)
  have Q := hid (And.intro b1 b2)
  have O := hid (show Calls Tryz.prog 45 #[.slice (some ⟨W.heap.size, 0, none⟩) 2 2] (W.alloc (.cells #[.int .i64 (cmpI xd yd), .int .i64 (cmpI xo yo)] 3)).drew fun e w' => e = .returned (.int .i64 (orL [cmpI xd yd, cmpI xo yo])) ∧ (W.alloc (.cells #[.int .i64 (cmpI xd yd), .int .i64 (cmpI xo yo)] 3)).drew = w' from orL_any W.heap.size [cmpI xd yd, cmpI xo yo] (by simp) (W.alloc (.cells #[.int .i64 (cmpI xd yd), .int .i64 (cmpI xo yo)] 3)).drew (Blk.new W _ _))
  clear B1 B2 b1 b2
  go_region_held3 (fun w' => w'.cell? ⟨G, 0, none⟩ = some (.int .i64 xd) ∧ w'.cell? ⟨G, 1, none⟩ = some (.int .i64 xo) ∧ w'.cell? ⟨G + 1, 0, none⟩ = some (.int .i64 yd) ∧ w'.cell? ⟨G + 1, 1, none⟩ = some (.int .i64 yo))
    (first | exact ⟨p0, p1, p3, p4⟩ | exact ⟨Q.out.1.cell 0, Q.out.1.cell 1, Q.out.2.cell 0, Q.out.2.cell 1⟩)
    (first
      | (go_at_call 37; refine (compare_any _ _ _).mono ?_; rintro e w5 ⟨rfl, rfl⟩)
      | (go_at_call 46; refine (compareA_any _ _ _).mono ?_; rintro e w5 ⟨rfl, rfl⟩)
      | (go_at_call 45; refine O.out.mono ?_; rintro e w6 ⟨rfl, rfl⟩))
  all_goals
    go_wp2_with fail
    go_ret
    exact ⟨rfl, (hg.alloc _).drew⟩

def SortsR : Prop := SortsAt Tryz.prog 43 (.func (.func 44) #[] #[]) enS 3 lt2S
theorem sortsR : SortsR := by
  refine ⟨fun blk off cap d w hH hb hsz => ?_, fun p cap w => ?_⟩
  · have eg : ∀ args w, (callFunc 44 args).run Tryz.prog w = .ok (.enter 44 args) w := enters_of Tryz.func44 (by kernel_rfl) rfl
    exact AnyQ.slices_SortFunc Tryz.sortLed 3 Tryz.isAgg86 Tryz.sizeOf86 enS enS_len enS_one cfS swoS 44 #[] blk off cap d w eg (fun _ _ _ _ x y => rorder_any x y _) hH hb hsz
  · exact AnyF.slices_SortFunc_none Tryz.sortLed p cap _ w

end Go.Proofs.YthdmbbfppgenlaaGreat

namespace Go.Proofs.YthdmbbfppgenlaaGreat
open Go.RowKit
set_option linter.unusedVariables false

/-- A place in the ledger as a sum without an amount. -/
def kT (p : Int × Int) : Value := .agg #[.int .i64 p.1, .int .i64 p.2, .int .i64 0]
section
variable {P : Program} {kt i1 i2 i3 : TypeId} {n1 n2 n3 : String}
theorem three_fields (hf : (P.fieldsOf kt).toList.map (fun f => (f.name, f.type, f.offset)) = [(n1, i1, 0), (n2, i2, 1), (n3, i3, 2)]) (h1 : n1 ≠ "_") (h2 : n2 ≠ "_") (h3 : n3 ≠ "_") :
    ∃ f g h : Field, (P.fieldsOf kt).toList = [f, g, h] ∧ (f.name ≠ "_" ∧ f.type = i1 ∧ f.offset = 0) ∧ (g.name ≠ "_" ∧ g.type = i2 ∧ g.offset = 1) ∧ (h.name ≠ "_" ∧ h.type = i3 ∧ h.offset = 2) := by
  generalize (P.fieldsOf kt).toList = l at hf
  rcases l with _ | ⟨f, _ | ⟨g, _ | ⟨h, _ | ⟨x, l⟩⟩⟩⟩
  · simp at hf
  · simp at hf
  · simp at hf
  · simp only [List.map_cons, List.map_nil, List.cons.injEq, Prod.mk.injEq, and_true] at hf
    obtain ⟨⟨a1, a2, a3⟩, ⟨b1, b2, b3⟩, c1, c2, c3⟩ := hf
    exact ⟨f, g, h, rfl, ⟨by rw [a1]; exact h1, a2, a3⟩, ⟨by rw [b1]; exact h2, b2, b3⟩, by rw [c1]; exact h3, c2, c3⟩
  · simp at hf
theorem tripKey (hu : P.underlying kt = some (.struct (P.fieldsOf kt))) (hh : P.stoodInHeld kt = false) (hf : (P.fieldsOf kt).toList.map (fun f => (f.name, f.type, f.offset)) = [(n1, i1, 0), (n2, i2, 1), (n3, i3, 2)]) (h1 : n1 ≠ "_") (h2 : n2 ≠ "_") (h3 : n3 ≠ "_")
    (hi1 : P.underlying i1 = some (.int .i64)) (ha1 : ∀ w, (isAgg i1).run P w = .ok false w) (hi2 : P.underlying i2 = some (.int .i64)) (ha2 : ∀ w, (isAgg i2).run P w = .ok false w) (hi3 : P.underlying i3 = some (.int .i64)) (ha3 : ∀ w, (isAgg i3).run P w = .ok false w) : KeyLaw P kt kT := by
  obtain ⟨f, g, h, hl, ⟨f1, f2, f3⟩, ⟨g1, g2, g3⟩, k1, k2, k3⟩ := three_fields hf h1 h2 h3
  have p0 : ∀ (x y z : Int) (w : World), (part i1 #[.int .i64 x, .int .i64 y, .int .i64 z] 0).run P w = .ok (.int .i64 x) w := fun x y z w => by unfold part; simp [ha1]
  have p1 : ∀ (x y z : Int) (w : World), (part i2 #[.int .i64 x, .int .i64 y, .int .i64 z] 1).run P w = .ok (.int .i64 y) w := fun x y z w => by unfold part; simp [ha2]
  have p2 : ∀ (x y z : Int) (w : World), (part i3 #[.int .i64 x, .int .i64 y, .int .i64 z] 2).run P w = .ok (.int .i64 z) w := fun x y z w => by unfold part; simp [ha3]
  refine keyLaw_of ?_ ?_ ?_ hu (fun _ _ => .inl rfl)
  · rintro e ⟨a1, a2⟩ w
    show (Instr.checkKey e (9999 + 1) kt (.agg _)).run P w = _
    unfold Instr.checkKey
    have e1 : ∀ x : Int, (Instr.checkKey e 9999 i1 (.int .i64 x)).run P w = .ok () w := fun x => by
      show (Instr.checkKey e (9998 + 1) i1 (.int .i64 x)).run P w = .ok () w
      unfold Instr.checkKey
      simp [run_underlying hi1]
    have e2 : ∀ x : Int, (Instr.checkKey e 9999 i2 (.int .i64 x)).run P w = .ok () w := fun x => by
      show (Instr.checkKey e (9998 + 1) i2 (.int .i64 x)).run P w = .ok () w
      unfold Instr.checkKey
      simp [run_underlying hi2]
    have e3 : ∀ x : Int, (Instr.checkKey e 9999 i3 (.int .i64 x)).run P w = .ok () w := fun x => by
      show (Instr.checkKey e (9998 + 1) i3 (.int .i64 x)).run P w = .ok () w
      unfold Instr.checkKey
      simp [run_underlying hi3]
    simp only [Sem.run_bind, run_underlying hu, Result.andThen_ok]
    rw [← Array.forIn_toList, hl]
    simp [f1, g1, k1, f2, g2, k2, f3, g3, k3, p0, p1, p2, e1, e2, e3]
  · rintro ⟨a1, a2⟩ ⟨b1, b2⟩ w
    show (Op.equalIn (9999 + 1) kt (.agg _) (.agg _)).run P w = _
    rw [run_equalIn_struct w 9999 _ _ _ hu hh, hl]
    have e1 : ∀ x y : Int, (Op.equalIn 9999 i1 (.int .i64 x) (.int .i64 y)).run P w = .ok (x == y) w := fun x y => run_equalIn_int w 9998 _ _ _ _ _ hi1
    have e2 : ∀ x y : Int, (Op.equalIn 9999 i2 (.int .i64 x) (.int .i64 y)).run P w = .ok (x == y) w := fun x y => run_equalIn_int w 9998 _ _ _ _ _ hi2
    have e3 : ∀ x y : Int, (Op.equalIn 9999 i3 (.int .i64 x) (.int .i64 y)).run P w = .ok (x == y) w := fun x y => run_equalIn_int w 9998 _ _ _ _ _ hi3
    simp only [Op.eqFields, f1, g1, k1, f2, g2, k2, f3, g3, k3, ne_eq, not_false_eq_true, if_true, Sem.run_bind, p0, Result.andThen_ok, e1]
    by_cases h1 : a1 = b1
    · by_cases h2 : a2 = b2
      · simp [h1, h2, p1, p2, e2, e3]
      · simp [h1, h2, p1, e2]
    · simp [h1]
  · intro a w
    show (Instr.keyThatStays (.agg _) (.agg _)).run P w = _
    unfold Instr.keyThatStays
    simp [Instr.sameBits, kT]
end
theorem keySm : KeyLaw Tryz.prog 86 kT :=
  tripKey (n1 := "Customer") (n2 := "Account") (n3 := "Amount") (i1 := 3) (i2 := 43) (i3 := 2) (by kernel_rfl) (by kernel_rfl) (by kernel_rfl) (by decide) (by decide) (by decide) Tryz.underlying3 isAgg_int Tryz.underlying43 (fun w => by kernel_rfl) Tryz.underlying2 isAgg_i64

/-- What is gathered of a ledger. -/
structure Who (m : LMap) (f : Fn) : Prop where
  get : ∀ p, (mget m p).getD 0 = f p
  key : ∀ p ∈ m.map (·.1), 1 ≤ p.1 ∧ p.1 ≤ 64 ∧ 0 ≤ p.2 ∧ p.2 < 6
theorem Who.nil : Who [] f0 := ⟨fun _ => rfl, fun p hp => (by cases hp)⟩
theorem Who.put {m : LMap} {f : Fn} (h : Who m f) (p : Int × Int) (x : Int) (hp : 1 ≤ p.1 ∧ p.1 ≤ 64 ∧ 0 ≤ p.2 ∧ p.2 < 6) : Who (mset m p (f p + x)) (updF f p x) := by
  refine ⟨fun q => ?_, fun q hq => ?_⟩
  · rw [mget_mset]
    unfold updF
    by_cases e : q = p
    · subst e; simp
    · rw [if_neg e, if_neg e]; exact h.get q
  · obtain ⟨z, hz, rfl⟩ := List.mem_map.1 hq
    rcases mem_mset hz with rfl | ⟨hz', _⟩
    · exact hp
    · exact h.key _ (List.mem_map_of_mem hz')
/-- Those that are not 0. -/
def someL (m : LMap) : LMap := m.filter fun q => decide (q.2 ≠ 0)
theorem someL_snoc (m : LMap) (q : (Int × Int) × Int) : someL (m ++ [q]) = someL m ++ if q.2 = 0 then [] else [q] := by
  unfold someL
  rw [List.filter_append]
  congr 1
  by_cases h : q.2 = 0 <;> simp [h]
theorem someL_nodup {m : LMap} (hn : (m.map (·.1)).Nodup) : ((someL m).map (·.1)).Nodup := by
  unfold someL
  exact List.Sublist.nodup (List.Sublist.map _ (List.filter_sublist)) hn
theorem Who.led {m : LMap} {f : Fn} (h : Who m f) (hn : (m.map (·.1)).Nodup) : Led (someL m) f := by
  intro p
  have hg := h.get p
  cases hm : mget m p with
  | none =>
    rw [hm] at hg
    simp only [Option.getD_none] at hg
    rw [if_pos hg.symm]
    cases hs : mget (someL m) p with
    | none => rfl
    | some v =>
      have := mget_mem hs
      unfold someL at this
      have h2 := mget_of_mem hn (List.mem_filter.1 this).1
      simp only at h2
      rw [hm] at h2
      cases h2
  | some v =>
    rw [hm] at hg
    simp only [Option.getD_some] at hg
    by_cases hz : f p = 0
    · rw [if_pos hz]
      cases hs : mget (someL m) p with
      | none => rfl
      | some u =>
        have := mget_mem hs
        unfold someL at this
        obtain ⟨h3, h4⟩ := List.mem_filter.1 this
        have h2 := mget_of_mem hn h3
        simp only at h2
        rw [hm] at h2
        injection h2 with h2
        simp only [ne_eq, decide_eq_true_eq] at h4
        exact absurd (by rw [← h2, hg, hz]) h4
    · rw [if_neg hz, ← hg]
      have : ((p, v) : (Int × Int) × Int) ∈ someL m := by
        unfold someL
        refine List.mem_filter.2 ⟨mget_mem hm, ?_⟩
        simp only [ne_eq, decide_eq_true_eq]
        rw [hg]; exact hz
      exact mget_of_mem (someL_nodup hn) this
theorem Who.sorted {m : LMap} {f : Fn} {d : Int} (h : Who m f) (hI : LInv f d) (hn : (m.map (·.1)).Nodup) {vs : LMap} (hp : vs.Perm m) {l : List Sm} (hl : l.Perm ((someL vs).map toS)) (hs : l.Pairwise (fun a b => lt2S b a = false)) : l = canon f := by
  refine canon_unique (h.led hn) hI (someL_nodup hn) (hl.trans ?_) (hs.imp (fun {a b} h => by rw [← lt2S_eq]; exact h))
  exact ((hp.filter _).map toS)

theorem some_bd {vs left m : LMap} (hp : (vs ++ left).Perm m) : (someL vs).length ≤ (someL m).length := by
  have h := (hp.filter (fun q => decide (q.2 ≠ 0))).length_eq
  rw [List.filter_append, List.length_append] at h
  unfold someL
  omega

/-! ### Which accounts a book is made of -/
structure RestC (t : Int) (l : List Ca) : Prop where
  t0 : 0 ≤ t
  t1 : t ≤ 1152921504606846976
  fit : ∀ a ∈ l, FitC a
  srt : SortedK Ca.o ltI l
  tot : wtR l ≤ t
/-- As far as k. -/
structure RestT (t : Int) (l : List Ca) (k : Nat) (left last : Int) : Prop where
  tb : 0 < k → 0 ≤ t ∧ t ≤ 1152921504606846976
  fit : ∀ a ∈ l.take k, FitC a
  srt : SortedK Ca.o ltI (l.take k)
  rem : left = t - wtR (l.take k)
  ge : 0 < k → 0 ≤ left
  lst0 : k = 0 → last = 0
  lst : ∀ a ∈ l.take k, a.o ≤ last
  lstk : 0 < k → ∃ y, l[k - 1]? = some y ∧ last = y.o
theorem RestT.zero (t : Int) (l : List Ca) : RestT t l 0 t 0 := ⟨by omega, by simp, List.Pairwise.nil, by simp [wtR], by omega, by simp, by simp, by omega⟩
theorem wtR_snoc (l : List Ca) (a : Ca) : wtR (l ++ [a]) = wtR l + wt a := by unfold wtR; rw [List.map_append, List.sum_append]; simp
theorem wtR_nonneg {l : List Ca} (h : ∀ a ∈ l, FitC a) : 0 ≤ wtR l := sum_nonneg_sub _ _ (fun a ha => (h a ha).wt0.1)
theorem RestT.next {t left last : Int} {l : List Ca} {k : Nat} {a : Ca} (h : RestT t l k left last) (ha : l[k]? = some a) (hf : FitC a) (ho : last < a.o) (ht : 0 ≤ t ∧ t ≤ 1152921504606846976) (hl : 0 ≤ left - wt a) : RestT t l (k + 1) (left - wt a) a.o := by
  have e := takeE_snoc ha
  refine ⟨fun _ => ht, ?_, ?_, ?_, fun _ => hl, by omega, ?_, fun _ => ⟨a, ha, rfl⟩⟩
  · intro b hb
    rw [e] at hb
    rcases List.mem_append.1 hb with hb | hb
    · exact h.fit b hb
    · simp at hb; subst hb; exact hf
  · rw [e]
    refine List.pairwise_append.2 ⟨h.srt, List.pairwise_singleton _ _, fun x hx y hy => ?_⟩
    simp at hy
    subst hy
    have := h.lst x hx
    simp only [ltI, decide_eq_true_eq]
    omega
  · rw [e, wtR_snoc, h.rem]; omega
  · intro b hb
    rw [e] at hb
    rcases List.mem_append.1 hb with hb | hb
    · have := h.lst b hb; omega
    · simp at hb; subst hb; omega
theorem RestT.bad {t left last : Int} {l : List Ca} {k : Nat} {a : Ca} (h : RestT t l k left last) (ha : l[k]? = some a) (hb : (fitA a && decide (last < a.o) && btw t 1152921504606846976) = false) : ¬ RestC t l := by
  intro hc
  have hm := List.mem_of_getElem? ha
  have hfa := hc.fit a hm
  have h1 : fitA a = true := (fitA_iff a).2 hfa
  have h3 : btw t 1152921504606846976 = true := (btw_iff _ _).2 ⟨hc.t0, hc.t1⟩
  have h2 : last < a.o := by
    by_cases h0 : k = 0
    · rw [h.lst0 h0]; have := hfa.o1; omega
    · obtain ⟨y, hy, e⟩ := h.lstk (by omega)
      have hkl := (List.getElem?_eq_some_iff.1 ha).1
      have := (List.pairwise_iff_getElem.1 hc.srt) (k - 1) k (by omega) hkl (by omega)
      obtain ⟨_, e1⟩ := List.getElem?_eq_some_iff.1 hy
      obtain ⟨_, e2⟩ := List.getElem?_eq_some_iff.1 ha
      rw [e1, e2] at this
      simp only [ltI, decide_eq_true_eq] at this
      omega
  rw [h1, h3, decide_eq_true h2] at hb
  cases hb
theorem RestT.poor {t left last : Int} {l : List Ca} {k : Nat} {a : Ca} (h : RestT t l k left last) (ha : l[k]? = some a) (hl : left - wt a < 0) : ¬ RestC t l := by
  intro hc
  have e := takeE_snoc ha
  have h1 := wtR_take hc.fit (k + 1)
  rw [e, wtR_snoc] at h1
  have := h.rem
  have := hc.tot
  omega
theorem RestT.done {t left last : Int} {l : List Ca} {k : Nat} (h : RestT t l k left last) (hk : l.length ≤ k) (ht : 0 ≤ t ∧ t ≤ 1152921504606846976) : RestC t l := by
  have e : l.take k = l := List.take_of_length_le hk
  have hl := h.rem
  rw [e] at hl
  refine ⟨ht.1, ht.2, by have := h.fit; rw [e] at this; exact this, by have := h.srt; rw [e] at this; exact this, ?_⟩
  by_cases h0 : k = 0
  · subst h0
    have : l = [] := List.eq_nil_of_length_eq_zero (by omega)
    subst this
    simp [wtR]; omega
  · have := h.ge (by omega); omega
theorem wt_eq (a : Ca) : wt a = a.dep + if a.st = 1 then a.net + a.tax + a.ap + a.wr else 0 := rfl

/-- The book beside the accounts that it was made of. -/
structure MadeC (l : List Ca) (k : Nat) (ac : List (Int × CP)) : Prop where
  same : ac.map (fun q => (q.1, q.2.a)) = (l.take k).map (fun a => (a.o, a))
theorem MadeC.zero (l : List Ca) : MadeC l 0 [] := ⟨by simp⟩
theorem MadeC.none {l : List Ca} {k : Nat} {ac : List (Int × CP)} (h : MadeC l k ac) {o : Int} (ho : ∀ a ∈ l.take k, a.o ≠ o) : mget ac o = none := by
  cases hm : mget ac o with
  | none => rfl
  | some p =>
    have h1 : (o, p.a) ∈ ac.map (fun q => (q.1, q.2.a)) := List.mem_map.2 ⟨_, mget_mem hm, rfl⟩
    rw [h.same] at h1
    obtain ⟨a, ha, e⟩ := List.mem_map.1 h1
    injection e with e1 e2
    exact absurd e1 (ho a ha)
theorem MadeC.next {l : List Ca} {k : Nat} {ac : List (Int × CP)} {a : Ca} (h : MadeC l k ac) (ha : l[k]? = some a) (hm : mget ac a.o = Option.none) (g : Nat) : MadeC l (k + 1) (mset ac a.o ⟨g, a⟩) := by
  refine ⟨?_⟩
  rw [mset_new hm, takeE_snoc ha, List.map_append, List.map_append, h.same]
  rfl
theorem MadeC.fit {l : List Ca} {k : Nat} {ac : List (Int × CP)} (h : MadeC l k ac) {q : Int × CP} (hq : q ∈ ac) : q.2.a ∈ l.take k ∧ q.2.a.o = q.1 := by
  have h1 : (q.1, q.2.a) ∈ ac.map (fun q => (q.1, q.2.a)) := List.mem_map.2 ⟨_, hq, rfl⟩
  rw [h.same] at h1
  obtain ⟨a, ha, e⟩ := List.mem_map.1 h1
  injection e with e1 e2
  rw [← e2, ← e1]
  exact ⟨ha, rfl⟩
theorem MadeC.wts {l : List Ca} {k : Nat} {ac : List (Int × CP)} (h : MadeC l k ac) : wts ac = wtR (l.take k) := by
  have h1 : (ac.map (fun q => (q.1, q.2.a))).map (fun z => wt z.2) = ((l.take k).map (fun a => (a.o, a))).map (fun z => wt z.2) := by rw [h.same]
  rw [List.map_map, List.map_map] at h1
  unfold Go.Proofs.YthdmbbfppgenlaaGreat.wts sumM wtR
  exact congrArg List.sum h1
theorem MadeC.rel {l : List Ca} {ac : List (Int × CP)} (h : MadeC l l.length ac) (hs : SortedK Ca.o ltI l) (hd : (ac.map (·.1)).Nodup) : RelC (cfind ac) l := by
  have e : l.take l.length = l := List.take_of_length_le (Nat.le_refl _)
  have hsame := h.same
  rw [e] at hsame
  refine ⟨hs, fun o a => ⟨fun hf => ?_, fun ⟨hm, ho⟩ => ?_⟩⟩
  · obtain ⟨g, hm⟩ := cfind_some.1 hf
    have h1 : (o, a) ∈ ac.map (fun q => (q.1, q.2.a)) := List.mem_map.2 ⟨_, mget_mem hm, rfl⟩
    rw [hsame] at h1
    obtain ⟨b, hb, e⟩ := List.mem_map.1 h1
    injection e with e1 e2
    rw [← e2]
    exact ⟨hb, e1⟩
  · have h1 : (a.o, a) ∈ l.map (fun a => (a.o, a)) := List.mem_map.2 ⟨_, hm, rfl⟩
    rw [← hsame] at h1
    obtain ⟨q, hq, e⟩ := List.mem_map.1 h1
    injection e with e1 e2
    have := mget_of_mem hd hq
    unfold cfind
    rw [← ho, ← e1, this]
    simp only [Option.map_some]
    rw [e2]

end Go.Proofs.YthdmbbfppgenlaaGreat
