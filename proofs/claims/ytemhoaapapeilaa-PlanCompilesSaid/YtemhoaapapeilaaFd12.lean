/-
  Definitions of flows, the document's: the number of the step with a name.
-/
import Derived.Test.YtemhoaapapeilaaNm12
namespace Go.Proofs.Ytemhoaapapeilaa
open Go.RowKit Go.WideShapes Go.ChangeShapes Go.ChangeAt Go.Deep
set_option linter.unusedVariables false

def isNm (a : ByteArray) (s : Stp) : Bool := s.name.toList == a.toList
set_option maxRecDepth 100000 in
set_option maxHeartbeats 16000000 in
theorem rfind12 (nm a : ByteArray) (l : List Stp) (A : Option Addr) (cp : Nat) (w : World) (hR : Rd w A (l.flatMap enSt)) (hl : l.length ≤ 140737488355328) :
    Calls Try.prog 56 #[.agg #[.string nm, .slice A l.length cp], .string a] w fun e w' => e = .returned (.int .i64 (plc (isNm a) l)) ∧ Below w.heap.size w w' := by
  have hB0 := Blk.new w 47 #[.string nm, .slice A l.length cp]
  have hwa : Below w.heap.size w (w.alloc (.cells #[.string nm, .slice A l.length cp] 47)) := (Below.refl _ _).alloc (Nat.le_refl _) _
  obtain ⟨W, hW⟩ : ∃ W, W = w.alloc (.cells #[.string nm, .slice A l.length cp] 47) := ⟨_, rfl⟩
  obtain ⟨D, hD⟩ : ∃ D, D = w.heap.size := ⟨_, rfl⟩
  rw [← hW] at hB0 hwa
  rw [← hD] at hB0
  have HW := hid hW
  have HD := hid hD
  have HB := hid hwa
  have hRW := hR.below hwa
  have d1 : W.cell? ⟨D, 1, none⟩ = some (.slice A l.length cp) := hB0.cell 1
  have lD := hB0.lt
  clear hW hD hwa hB0
  go_enter Try.func56, Try.ntmps56
  go_upto_region 1 with fail
  rw [← HW.out, ← HD.out]
  go_wp2_with fail
  go_loop [5] (fun i => ∃ k : Nat, k ≤ l.length ∧ i = .int .i64 k ∧ Hid (∀ j y, j < k → l[j]? = some y → isNm a y = false)) (fun i => l.length - nOf i)
  case atStart => exact ⟨0, Nat.zero_le _, rfl, hid (fun j y hj => by omega)⟩
  case round =>
    obtain ⟨k, hk, rfl, hP⟩ := hrel
    by_cases hlt : k < l.length
    · obtain ⟨y, hy⟩ : ∃ y, l[k]? = some y := ⟨l[k], List.getElem?_eq_getElem hlt⟩
      obtain ⟨b, o, hAA, _, hcc⟩ := hRW.at_ 9 enSt_len (by omega) hy
      subst hAA
      have q0 : W.cell? ⟨b, o + k * 9, none⟩ = some (.string y.name) := hcc 0 _ rfl
      have HY := hid hy
      clear hcc hy
      cases hs : isNm a y with
      | true =>
        have HV := hid (plc_some (p := isNm a) HY.out hs hP.out)
        have ts : (y.name.toList == a.toList) = true := hs
        clear hs hP HY
        go_wp2_with fail
        go_ret
        exact ⟨by rw [HV.out]; rfl, HB.out⟩
      | false =>
        have ts : (y.name.toList == a.toList) = false := hs
        have HS := hid hs
        clear hs
        go_wp2_with fail
        go_round
        case rel => exact ⟨k + 1, by omega, by go_num, hid (fun j z hj hz => by
          by_cases e : j = k
          · subst e; rw [HY.out] at hz; injection hz with hz; subst hz; exact HS.out
          · exact hP.out j z (by omega) hz)⟩
        case measure => simp [nOf]; omega
    · have HV := hid (plc_none (p := isNm a) (l := l) (fun y hy => by
        obtain ⟨j, hj⟩ := List.mem_iff_getElem?.1 hy
        exact hP.out j y (by have := (List.getElem?_eq_some_iff.1 hj).1; omega) hj))
      clear hP
      go_wp2_with fail
      go_ret
      exact ⟨by rw [HV.out]; rfl, HB.out⟩

end Go.Proofs.Ytemhoaapapeilaa
