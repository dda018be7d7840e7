/-
  Money of one order, plain: what its invoice, receipts, memo and refund make of it.
-/
import Derived.Test.YthdmbbfppgenlaaChV
namespace Go.Proofs.Ythdmbbfppgenlaa
open Go.RowKit
set_option linter.unusedVariables false

/-- Ahead of the invoice. -/
def preA (s : Int) : Ca := ⟨1, 1, 0, 0, 0, 0, 0, 0, s⟩
/-- Behind it. -/
def paidA (net tax s : Int) : Ca := ⟨1, 1, 1, 0, net, tax, min s (net + tax), 0, s - min s (net + tax)⟩
def dB (net tax s : Int) : Int := net + tax + s + min s (net + tax)
structure Sml (net tax s : Int) : Prop where
  n : 0 ≤ net ∧ net ≤ 1000000
  t : 0 ≤ tax ∧ tax ≤ 1000000
  s : 0 ≤ s ∧ s ≤ 100000000
variable {net tax s x d : Int}
theorem acOf_F1 (a : Ca) : acOf (F1 a) 1 1 = a := rfl
theorem rcv_paid (h : Sml net tax s) (hx : 1 ≤ x ∧ x ≤ 1000000) : rcvR (F1 (paidA net tax s)) (dB net tax s) 1 1 x = ⟨decide (net + tax ≤ s + x), 0, some (paidA net tax (s + x)), dB net tax (s + x)⟩ := by
  obtain ⟨⟨n0, n1⟩, ⟨t0, t1⟩, ⟨s0, s1⟩⟩ := h
  unfold rcvR
  rw [if_pos ⟨⟨by omega, by omega, by omega⟩, by omega, by omega⟩, acOf_F1]
  rw [if_neg (by simp [paidA]), if_neg (by unfold dB; omega)]
  have eo : openC (rcvB (paidA net tax s) x) = net + tax - min s (net + tax) := by simp [openC, rcvB, paidA]
  have eN : appN (rcvB (paidA net tax s) x) = min (s + x) (net + tax) - min s (net + tax) := by unfold appN; rw [eo]; simp only [rcvB, paidA]; omega
  have eA : appA (rcvB (paidA net tax s) x) = paidA net tax (s + x) := by
    unfold appA
    rw [eN]
    simp only [rcvB, paidA, Ca.mk.injEq, true_and]
    omega
  rw [eN, eA]
  congr 1
  · unfold paidC
    have e2 : openC (paidA net tax (s + x)) = net + tax - min (s + x) (net + tax) := by simp [openC, paidA]
    rw [e2]
    have e1 : decide ((paidA net tax (s + x)).st = 1) = true := rfl
    rw [e1, Bool.true_and]
    by_cases hc : net + tax ≤ s + x
    · rw [decide_eq_true hc, decide_eq_true (by omega)]
    · rw [decide_eq_false hc, decide_eq_false (by omega)]
  · unfold dB; omega
theorem rcv_pre {F : Int → Option Ca} (hF : acOf F 1 1 = preA s) (h : Sml net tax s) (hx : 1 ≤ x ∧ x ≤ 1000000) : rcvR F s 1 1 x = ⟨false, 0, some (preA (s + x)), s + x⟩ := by
  obtain ⟨⟨n0, n1⟩, ⟨t0, t1⟩, ⟨s0, s1⟩⟩ := h
  unfold rcvR
  rw [if_pos ⟨⟨by omega, by omega, by omega⟩, by omega, by omega⟩, hF]
  rw [if_neg (by simp [preA]), if_neg (by omega)]
  have eN : appN (rcvB (preA s) x) = 0 := by simp [appN, openC, rcvB, preA]; omega
  have eA : appA (rcvB (preA s) x) = preA (s + x) := by unfold appA; rw [eN]; simp [rcvB, preA]
  rw [eN, eA]
  congr 1
  omega
theorem inv_pre {F : Int → Option Ca} (hF : acOf F 1 1 = preA s) (h : Sml net tax s) : invR F s 1 1 net tax = ⟨decide (net + tax ≤ s), 0, some (paidA net tax s), dB net tax s⟩ := by
  obtain ⟨⟨n0, n1⟩, ⟨t0, t1⟩, ⟨s0, s1⟩⟩ := h
  unfold invR
  rw [if_pos ⟨⟨by omega, by omega, by omega⟩, ⟨by omega, by omega⟩, by omega, by omega⟩, hF]
  rw [if_neg (by simp [preA]), if_neg (by simp [preA]), if_neg (by omega)]
  have eo : openC (invB (preA s) net tax) = net + tax := by simp [openC, invB, preA]
  have eN : appN (invB (preA s) net tax) = min s (net + tax) := by unfold appN; rw [eo]; simp only [invB, preA]
  have eA : appA (invB (preA s) net tax) = paidA net tax s := by
    unfold appA
    rw [eN]
    simp [invB, paidA, preA]
  rw [eN, eA]
  congr 1
  · unfold paidC
    have e2 : openC (paidA net tax s) = net + tax - min s (net + tax) := by simp [openC, paidA]
    rw [e2]
    have e1 : decide ((paidA net tax s).st = 1) = true := rfl
    rw [e1, Bool.true_and]
    by_cases hc : net + tax ≤ s
    · rw [decide_eq_true hc, decide_eq_true (by omega)]
    · rw [decide_eq_false hc, decide_eq_false (by omega)]
  · unfold dB; omega
theorem acOf_new : acOf (cfind []) 1 1 = preA 0 := rfl
/-- So much written off. -/
def paidW (net tax s u : Int) : Ca := ⟨1, 1, 1, 0, net, tax, min s (net + tax), u, s - min s (net + tax)⟩
theorem wof_paid (h : Sml net tax s) : ∃ (c : Int) (x : Option Ca) (u : Int), wofR (F1 (paidA net tax s)) (dB net tax s) 1 = ⟨false, c, x, dB net tax s + u⟩ ∧ updC (F1 (paidA net tax s)) 1 x = F1 (paidW net tax s u) ∧ 0 ≤ u ∧ u ≤ net + tax - min s (net + tax) := by
  obtain ⟨⟨n0, n1⟩, ⟨t0, t1⟩, ⟨s0, s1⟩⟩ := h
  have e : F1 (paidA net tax s) 1 = some (paidA net tax s) := rfl
  have e2 : openC (paidA net tax s) = net + tax - min s (net + tax) := by simp [openC, paidA]
  unfold wofR
  rw [e]
  simp only [e2]
  split
  · exact ⟨170, none, 0, by unfold noC; rw [Int.add_zero], rfl, by omega, by omega⟩
  · split
    · exact ⟨130, none, 0, by unfold noC; rw [Int.add_zero], rfl, by omega, by omega⟩
    · split
      · exact ⟨72, none, 0, by unfold noC; rw [Int.add_zero], rfl, by omega, by omega⟩
      · refine ⟨0, _, net + tax - min s (net + tax), rfl, ?_, by omega, by omega⟩
        rw [upd_one]
        congr 1
        unfold wofB
        rw [e2]
        simp [paidA, paidW]
def backA (net tax s : Int) : Ca := ⟨1, 1, 2, 0, net, tax, 0, 0, s⟩
theorem mem_paid {u : Int} (h : Sml net tax s) (hu : 0 ≤ u ∧ u ≤ net + tax - min s (net + tax)) : memR (F1 (paidW net tax s u)) (dB net tax s + u) 1 = ⟨false, 0, some (backA net tax s), dB net tax s + u + (net + tax)⟩ := by
  obtain ⟨⟨n0, n1⟩, ⟨t0, t1⟩, ⟨s0, s1⟩⟩ := h
  have e : F1 (paidW net tax s u) 1 = some (paidW net tax s u) := rfl
  unfold memR
  rw [e]
  simp only
  rw [if_neg (by simp [paidW]), if_neg (by unfold dB paidW; simp only; omega)]
  have em : memB (paidW net tax s u) = backA net tax s := by
    unfold memB paidW backA
    simp only [Ca.mk.injEq, true_and]
    omega
  rw [em]
  rfl
theorem ref_back (h : Sml net tax s) (hd : d ≤ 10000000000) : refR (F1 (backA net tax s)) d 1 = (s, ⟨false, 0, some (backA net tax 0), d + s⟩) := by
  obtain ⟨⟨n0, n1⟩, ⟨t0, t1⟩, ⟨s0, s1⟩⟩ := h
  have e : F1 (backA net tax s) 1 = some (backA net tax s) := rfl
  unfold refR
  rw [e]
  simp only
  rw [if_neg (by unfold backA; simp only; omega)]
  rfl
theorem con_back (k : Int) : con (backA net tax 0) k = 0 := by simp [con, openC, backA]

end Go.Proofs.Ythdmbbfppgenlaa
