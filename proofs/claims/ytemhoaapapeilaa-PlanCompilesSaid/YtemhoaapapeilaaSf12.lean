/-
  slices.IndexFunc and slices.ContainsFunc over the steps of a definition and over names, with a closure that tests (its number and what it holds are letters).
-/
import Derived.Test.YtemhoaapapeilaaFd12
namespace Go.Proofs.Ytemhoaapapeilaa
open Go.RowKit Go.WideShapes Go.ChangeShapes Go.ChangeAt Go.Deep
set_option linter.unusedVariables false

theorem has_plcS {α : Type} (p : α → Bool) (l : List α) : l.any p = decide (0 ≤ plc p l) := by
  rcases plc_cases p l with ⟨k, y, hk, hy, hp, he⟩ | ⟨hn, he⟩
  · rw [he, List.any_eq_true.2 ⟨y, List.mem_of_getElem? hy, hp⟩]
    simp
  · rw [he]
    cases h : l.any p with
    | false => rfl
    | true =>
      obtain ⟨y, hy, hp⟩ := List.any_eq_true.1 h
      rw [hn y hy] at hp
      cases hp

/-- What a test tells of each, at every world from w on. -/
def TestsS1 (N : FuncId) (v0 : Value) (p : Stp → Bool) (l : List Stp) (w : World) : Prop := ∀ x ∈ l, ∀ w', Below w.heap.size w w' → Calls Try.prog N #[.agg (enSt x).toArray, v0] w' fun e w'' => e = .returned (.bool (p x)) ∧ Below w'.heap.size w' w''

set_option maxRecDepth 100000 in
set_option maxHeartbeats 8000000 in
theorem indexS1_any (l : List Stp) (A : Option Addr) (cap : Nat) (N : FuncId) (v0 : Value) (p : Stp → Bool) (w : World) (hR : Rd w A (l.flatMap enSt)) (hl : l.length ≤ 140737488355328) (hN : ∀ (args : Array Value) (w : World), (callFunc N args).run Try.prog w = .ok (.enter N args) w) (hT : TestsS1 N v0 p l w) :
    Calls Try.prog 27 #[.slice A l.length cap, .func (.func N) #[] #[v0]] w fun e w' => e = .returned (.int .i64 (plc p l)) ∧ Below w.heap.size w w' := by
  have HT := hid hT
  clear hT
  go_enter Try.func27, Try.ntmps27
  go_wp2_with fail
  go_loopw [8] (fun i wr => ∃ k : Nat, k ≤ l.length ∧ i = .int .i64 k ∧ Hid (∀ j y, j < k → l[j]? = some y → p y = false) ∧ Below w.heap.size w wr) (fun i _ => l.length - nOf i)
  case atStart => exact ⟨0, Nat.zero_le _, rfl, hid (fun j y hj => by omega), Below.refl _ _⟩
  case round =>
    obtain ⟨k, hk, rfl, hP, hb⟩ := hrel
    by_cases hlt : k < l.length
    · obtain ⟨y, hy⟩ : ∃ y, l[k]? = some y := ⟨l[k], List.getElem?_eq_getElem hlt⟩
      obtain ⟨b, off, rfl, hbs, hcc⟩ := (hR.below hb).at_ 9 enSt_len (by omega) hy
      have K := hid (HT.out y (List.mem_of_getElem? hy) wr hb)
      have HY := hid hy
      have HPY := hid (show ∀ b, p y = b → p y = b from fun _ h => h)
      generalize hpy : p y = py at K
      have HPP := hid hpy
      clear hpy HPY
      obtain ⟨xn, xv, xu, xe, xf, xr, xy, xw, xA, xc, xl⟩ := y
      have q0 : wr.cell? ⟨b, off + k * 9, none⟩ = some (.string xn) := hcc 0 _ rfl
      have q1 : wr.cell? ⟨b, off + k * 9 + 1, none⟩ = some (.string xv) := hcc 1 _ rfl
      have q2 : wr.cell? ⟨b, off + k * 9 + 2, none⟩ = some (.string xu) := hcc 2 _ rfl
      have q3 : wr.cell? ⟨b, off + k * 9 + 3, none⟩ = some (.string xe) := hcc 3 _ rfl
      have q4 : wr.cell? ⟨b, off + k * 9 + 4, none⟩ = some (.bool xf) := hcc 4 _ rfl
      have q5 : wr.cell? ⟨b, off + k * 9 + 5, none⟩ = some (.int .i64 xr) := hcc 5 _ rfl
      have q6 : wr.cell? ⟨b, off + k * 9 + 6, none⟩ = some (.int .i64 xy) := hcc 6 _ rfl
      have q7 : wr.cell? ⟨b, off + k * 9 + 7, none⟩ = some (.int .i64 xw) := hcc 7 _ rfl
      have q8 : wr.cell? ⟨b, off + k * 9 + 8, none⟩ = some (.slice xA xl.length xc) := hcc 8 _ rfl
      have K2 : Hid (Calls Try.prog N #[.agg #[.string xn, .string xv, .string xu, .string xe, .bool xf, .int .i64 xr, .int .i64 xy, .int .i64 xw, .slice xA xl.length xc], v0] wr fun e w'' => e = .returned (.bool py) ∧ Below wr.heap.size wr w'') := K
      clear K
      clear hcc hy
      cases py with
      | true =>
        have HV := hid (plc_some (p := p) HY.out HPP.out hP.out)
        go_wp2_with fail
        refine K2.out.mono ?_
        rintro e w5 ⟨rfl, hb5⟩
        go_wp2_with fail
        go_ret
        rw [HV.out]
        exact ⟨rfl, bthen hb hb5⟩
      | false =>
        go_wp2_with fail
        refine K2.out.mono ?_
        rintro e w5 ⟨rfl, hb5⟩
        go_wp2_with fail
        go_roundw
        case rel => exact ⟨k + 1, by omega, by go_num, hid (fun j z hj hz => by
          by_cases e : j = k
          · subst e; rw [HY.out] at hz; injection hz with hz; subst hz; exact HPP.out
          · exact hP.out j z (by omega) hz), bthen hb hb5⟩
        case measure => simp [nOf]; omega
    · have HV := hid (plc_none (p := p) (l := l) (fun y hy => by
        obtain ⟨j, hj⟩ := List.mem_iff_getElem?.1 hy
        exact hP.out j y (by have := (List.getElem?_eq_some_iff.1 hj).1; omega) hj))
      clear hP hk
      go_wp2_with fail
      go_ret
      rw [HV.out]
      exact ⟨rfl, hb⟩

/-- What a test tells of each, at every world from w on. -/
def TestsS3 (N : FuncId) (v0 v1 v2 : Value) (p : Stp → Bool) (l : List Stp) (w : World) : Prop := ∀ x ∈ l, ∀ w', Below w.heap.size w w' → Calls Try.prog N #[.agg (enSt x).toArray, v0, v1, v2] w' fun e w'' => e = .returned (.bool (p x)) ∧ Below w'.heap.size w' w''

set_option maxRecDepth 100000 in
set_option maxHeartbeats 8000000 in
theorem indexS3_any (l : List Stp) (A : Option Addr) (cap : Nat) (N : FuncId) (v0 v1 v2 : Value) (p : Stp → Bool) (w : World) (hR : Rd w A (l.flatMap enSt)) (hl : l.length ≤ 140737488355328) (hN : ∀ (args : Array Value) (w : World), (callFunc N args).run Try.prog w = .ok (.enter N args) w) (hT : TestsS3 N v0 v1 v2 p l w) :
    Calls Try.prog 27 #[.slice A l.length cap, .func (.func N) #[] #[v0, v1, v2]] w fun e w' => e = .returned (.int .i64 (plc p l)) ∧ Below w.heap.size w w' := by
  have HT := hid hT
  clear hT
  go_enter Try.func27, Try.ntmps27
  go_wp2_with fail
  go_loopw [8] (fun i wr => ∃ k : Nat, k ≤ l.length ∧ i = .int .i64 k ∧ Hid (∀ j y, j < k → l[j]? = some y → p y = false) ∧ Below w.heap.size w wr) (fun i _ => l.length - nOf i)
  case atStart => exact ⟨0, Nat.zero_le _, rfl, hid (fun j y hj => by omega), Below.refl _ _⟩
  case round =>
    obtain ⟨k, hk, rfl, hP, hb⟩ := hrel
    by_cases hlt : k < l.length
    · obtain ⟨y, hy⟩ : ∃ y, l[k]? = some y := ⟨l[k], List.getElem?_eq_getElem hlt⟩
      obtain ⟨b, off, rfl, hbs, hcc⟩ := (hR.below hb).at_ 9 enSt_len (by omega) hy
      have K := hid (HT.out y (List.mem_of_getElem? hy) wr hb)
      have HY := hid hy
      have HPY := hid (show ∀ b, p y = b → p y = b from fun _ h => h)
      generalize hpy : p y = py at K
      have HPP := hid hpy
      clear hpy HPY
      obtain ⟨xn, xv, xu, xe, xf, xr, xy, xw, xA, xc, xl⟩ := y
      have q0 : wr.cell? ⟨b, off + k * 9, none⟩ = some (.string xn) := hcc 0 _ rfl
      have q1 : wr.cell? ⟨b, off + k * 9 + 1, none⟩ = some (.string xv) := hcc 1 _ rfl
      have q2 : wr.cell? ⟨b, off + k * 9 + 2, none⟩ = some (.string xu) := hcc 2 _ rfl
      have q3 : wr.cell? ⟨b, off + k * 9 + 3, none⟩ = some (.string xe) := hcc 3 _ rfl
      have q4 : wr.cell? ⟨b, off + k * 9 + 4, none⟩ = some (.bool xf) := hcc 4 _ rfl
      have q5 : wr.cell? ⟨b, off + k * 9 + 5, none⟩ = some (.int .i64 xr) := hcc 5 _ rfl
      have q6 : wr.cell? ⟨b, off + k * 9 + 6, none⟩ = some (.int .i64 xy) := hcc 6 _ rfl
      have q7 : wr.cell? ⟨b, off + k * 9 + 7, none⟩ = some (.int .i64 xw) := hcc 7 _ rfl
      have q8 : wr.cell? ⟨b, off + k * 9 + 8, none⟩ = some (.slice xA xl.length xc) := hcc 8 _ rfl
      have K2 : Hid (Calls Try.prog N #[.agg #[.string xn, .string xv, .string xu, .string xe, .bool xf, .int .i64 xr, .int .i64 xy, .int .i64 xw, .slice xA xl.length xc], v0, v1, v2] wr fun e w'' => e = .returned (.bool py) ∧ Below wr.heap.size wr w'') := K
      clear K
      clear hcc hy
      cases py with
      | true =>
        have HV := hid (plc_some (p := p) HY.out HPP.out hP.out)
        go_wp2_with fail
        refine K2.out.mono ?_
        rintro e w5 ⟨rfl, hb5⟩
        go_wp2_with fail
        go_ret
        rw [HV.out]
        exact ⟨rfl, bthen hb hb5⟩
      | false =>
        go_wp2_with fail
        refine K2.out.mono ?_
        rintro e w5 ⟨rfl, hb5⟩
        go_wp2_with fail
        go_roundw
        case rel => exact ⟨k + 1, by omega, by go_num, hid (fun j z hj hz => by
          by_cases e : j = k
          · subst e; rw [HY.out] at hz; injection hz with hz; subst hz; exact HPP.out
          · exact hP.out j z (by omega) hz), bthen hb hb5⟩
        case measure => simp [nOf]; omega
    · have HV := hid (plc_none (p := p) (l := l) (fun y hy => by
        obtain ⟨j, hj⟩ := List.mem_iff_getElem?.1 hy
        exact hP.out j y (by have := (List.getElem?_eq_some_iff.1 hj).1; omega) hj))
      clear hP hk
      go_wp2_with fail
      go_ret
      rw [HV.out]
      exact ⟨rfl, hb⟩

set_option maxRecDepth 100000 in
set_option maxHeartbeats 4000000 in
theorem containsS3_any (l : List Stp) (A : Option Addr) (cap : Nat) (N : FuncId) (v0 v1 v2 : Value) (p : Stp → Bool) (w : World) (hR : Rd w A (l.flatMap enSt)) (hl : l.length ≤ 140737488355328) (hN : ∀ (args : Array Value) (w : World), (callFunc N args).run Try.prog w = .ok (.enter N args) w) (hT : TestsS3 N v0 v1 v2 p l w) :
    Calls Try.prog 46 #[.slice A l.length cap, .func (.func N) #[] #[v0, v1, v2]] w fun e w' => e = .returned (.bool (l.any p)) ∧ Below w.heap.size w w' := by
  have K := hid (indexS3_any l A cap N v0 v1 v2 p w hR hl hN hT)
  have HH := hid (has_plcS p l)
  clear hT
  go_enter Try.func46, Try.ntmps46
  go_wp2_with fail
  refine K.out.mono ?_
  rintro e w5 ⟨rfl, hb5⟩
  go_wp2_with fail
  go_ret
  rw [HH.out]
  exact ⟨rfl, hb5⟩

/-- What a test tells of each, at every world from w on. -/
def TestsB1 (N : FuncId) (v0 : Value) (p : ByteArray → Bool) (l : List ByteArray) (w : World) : Prop := ∀ x ∈ l, ∀ w', Below w.heap.size w w' → Calls Try.prog N #[.string x, v0] w' fun e w'' => e = .returned (.bool (p x)) ∧ Below w'.heap.size w' w''

set_option maxRecDepth 100000 in
set_option maxHeartbeats 8000000 in
theorem indexB1_any (l : List ByteArray) (A : Option Addr) (cap : Nat) (N : FuncId) (v0 : Value) (p : ByteArray → Bool) (w : World) (hR : Rd w A (l.flatMap enB)) (hl : l.length ≤ 140737488355328) (hN : ∀ (args : Array Value) (w : World), (callFunc N args).run Try.prog w = .ok (.enter N args) w) (hT : TestsB1 N v0 p l w) :
    Calls Try.prog 48 #[.slice A l.length cap, .func (.func N) #[] #[v0]] w fun e w' => e = .returned (.int .i64 (plc p l)) ∧ Below w.heap.size w w' := by
  have HT := hid hT
  clear hT
  go_enter Try.func48, Try.ntmps48
  go_wp2_with fail
  go_loopw [8] (fun i wr => ∃ k : Nat, k ≤ l.length ∧ i = .int .i64 k ∧ Hid (∀ j y, j < k → l[j]? = some y → p y = false) ∧ Below w.heap.size w wr) (fun i _ => l.length - nOf i)
  case atStart => exact ⟨0, Nat.zero_le _, rfl, hid (fun j y hj => by omega), Below.refl _ _⟩
  case round =>
    obtain ⟨k, hk, rfl, hP, hb⟩ := hrel
    by_cases hlt : k < l.length
    · obtain ⟨y, hy⟩ : ∃ y, l[k]? = some y := ⟨l[k], List.getElem?_eq_getElem hlt⟩
      obtain ⟨b, off, rfl, hbs, hcc⟩ := (hR.below hb).at_ 1 enB_len (by omega) hy
      have q0 : wr.cell? ⟨b, off + k * 1, none⟩ = some (.string y) := hcc 0 _ rfl
      rw [Nat.mul_one] at q0
      have K2 := hid (HT.out y (List.mem_of_getElem? hy) wr hb)
      have HY := hid hy
      generalize hpy : p y = py at K2
      have HPP := hid hpy
      clear hpy
      clear hcc hy
      cases py with
      | true =>
        have HV := hid (plc_some (p := p) HY.out HPP.out hP.out)
        go_wp2_with fail
        refine K2.out.mono ?_
        rintro e w5 ⟨rfl, hb5⟩
        go_wp2_with fail
        go_ret
        rw [HV.out]
        exact ⟨rfl, bthen hb hb5⟩
      | false =>
        go_wp2_with fail
        refine K2.out.mono ?_
        rintro e w5 ⟨rfl, hb5⟩
        go_wp2_with fail
        go_roundw
        case rel => exact ⟨k + 1, by omega, by go_num, hid (fun j z hj hz => by
          by_cases e : j = k
          · subst e; rw [HY.out] at hz; injection hz with hz; subst hz; exact HPP.out
          · exact hP.out j z (by omega) hz), bthen hb hb5⟩
        case measure => simp [nOf]; omega
    · have HV := hid (plc_none (p := p) (l := l) (fun y hy => by
        obtain ⟨j, hj⟩ := List.mem_iff_getElem?.1 hy
        exact hP.out j y (by have := (List.getElem?_eq_some_iff.1 hj).1; omega) hj))
      clear hP hk
      go_wp2_with fail
      go_ret
      rw [HV.out]
      exact ⟨rfl, hb⟩

set_option maxRecDepth 100000 in
set_option maxHeartbeats 4000000 in
theorem containsB1_any (l : List ByteArray) (A : Option Addr) (cap : Nat) (N : FuncId) (v0 : Value) (p : ByteArray → Bool) (w : World) (hR : Rd w A (l.flatMap enB)) (hl : l.length ≤ 140737488355328) (hN : ∀ (args : Array Value) (w : World), (callFunc N args).run Try.prog w = .ok (.enter N args) w) (hT : TestsB1 N v0 p l w) :
    Calls Try.prog 29 #[.slice A l.length cap, .func (.func N) #[] #[v0]] w fun e w' => e = .returned (.bool (l.any p)) ∧ Below w.heap.size w w' := by
  have K := hid (indexB1_any l A cap N v0 p w hR hl hN hT)
  have HH := hid (has_plcS p l)
  clear hT
  go_enter Try.func29, Try.ntmps29
  go_wp2_with fail
  refine K.out.mono ?_
  rintro e w5 ⟨rfl, hb5⟩
  go_wp2_with fail
  go_ret
  rw [HH.out]
  exact ⟨rfl, hb5⟩

end Go.Proofs.Ytemhoaapapeilaa
