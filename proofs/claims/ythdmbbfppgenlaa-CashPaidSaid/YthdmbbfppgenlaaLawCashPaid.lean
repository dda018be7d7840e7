/-
  The statement CashPaid: for every input the law returns true. No condition.
-/
import Derived.Test.YthdmbbfppgenlaaCashPaid
import Derived.Test.YthdmbbfppgenlaaSorted18
namespace Go.Proofs.Ythdmbbfppgenlaa.lawCashPaid
open Go.ChangeShapes Go.WideShapes Go.ChangeAt Go.RowKit 
set_option linter.unusedVariables false

theorem own : ownKnob Try.prog.godebug = none := by kernel_rfl
theorem laidOut : laidOutB Try.prog = true := by kernel_rfl
theorem flat0 : Flat Try.prog 22 [.int .i64, .int .i64] := flat_array (it := 2) Try.underlying22 (by kernel_rfl) (by kernel_rfl) (by kernel_rfl) rfl
theorem bytes1 : Try.prog.bytesOf 2 = 8 := by kernel_rfl
theorem flat1 : Flat Try.prog 2 [.int .i64] := flat_scalar (by kernel_rfl) (by kernel_rfl)

set_option maxRecDepth 100000 in
theorem contract (H : Type) (enc : TypeId × Value → H) (W : World) (base : Nat) (args : Array Value) (ds gs : List (DataW H)) (before : List MemPlace)
    (hval : ∀ (j : Nat) t v, Try.f3.params[j]? = some t → args[j]? = some v → Value.okWide Try.prog W .any base t v)
    (hW : DataW.Whole enc Try.prog Try.f3.params.toList Rows.cashPaidSpec.vars false W args.toList ds gs before)
    (hsz : (DataW.weightsEach Try.prog (Try.f3.params.toList ++ Rows.cashPaidSpec.plain.varTypes Try.prog) (ds ++ gs)).all (· ≤ reachBytes) = true) :
    Calls Try.prog 3 args W fun e W' => ∃ v, e = .returned v ∧ Rows.cashPaidSpec.post enc Try.prog Try.f3 false true false false W args v W' := by
  have fin : ∀ e W', Law W e W' → ∃ v, e = .returned v ∧ Rows.cashPaidSpec.post enc Try.prog Try.f3 false true false false W args v W' :=
    fun e W' h => law_post laidOut rfl (fun ds hds => by
      rw [Try.params3] at hds
      match ds, hds with
      | [d0, d1, d2], _ => exact ⟨rfl, rfl, rfl⟩) (by rw [Try.params3]; intro t ht; simp only [List.mem_cons, List.not_mem_nil, or_false] at ht; rcases ht with rfl | rfl | rfl <;> exact ⟨by kernel_rfl, of_decide_eq_true (by kernel_rfl)⟩) (by kernel_rfl) Try.underlying4 hW h
  obtain ⟨p, q, hA0, hV, rfl, hfz, hnd⟩ := hW
  have hA : DataW.TrodAll enc Try.prog W 0 (fun _ => true) true Try.f3.params.toList args.toList ds p := hA0
  rw [Try.params3] at hA hval hsz
  obtain ⟨v0, vs0, d0, ds0, p0, q0, hargs, rfl, rfl, h0, r0⟩ := trodAll_cons hA
  obtain ⟨v1, vs1, d1, ds1, p1, q1, rfl, rfl, rfl, h1, r1⟩ := trodAll_cons r0
  obtain ⟨v2, vs2, d2, ds2, p2, q2, rfl, rfl, rfl, h2, r2⟩ := trodAll_cons r1
  obtain ⟨rfl, rfl, rfl⟩ := trodAll_nil r2
  obtain rfl : args = #[v0, v1, v2] := by cases args; simp_all
  obtain ⟨rfl, rfl⟩ := trodVars_none hV
  obtain ⟨x0, rfl, ok0⟩ := open_agg_arr (en := en2) (ok := Go.Proofs.Ythdmbbfppgenlaa.ok2) Try.underlying22 flat0 (hval 0 22 v0 rfl rfl) h0 dec2
  obtain ⟨A1, len1, cap1, rfl⟩ := okWide_slice Try.underlying23 (hval 1 23 v1 rfl rfl)
  obtain ⟨fuel1, hf1⟩ := h1
  obtain ⟨A1', len1', cap1', xs1, hcs1, hlc1, hcm1, hxl1, hR1, hall1, hd1⟩ := open_flat Try.underlying23 flat1 (by decide) hf1
  simp [Value.cells] at hcs1
  obtain ⟨rfl, rfl, rfl⟩ := hcs1
  obtain ⟨l1, rfl, rfl, ok1⟩ := flat_list (ks := [.int .i64]) (en := en1) (ok := Go.Proofs.Ythdmbbfppgenlaa.ok1) dec1 len1 xs1 hxl1 hall1
  have hr1 : l1.length * 8 ≤ 140737488351232 := by
    rcases hd1 with hd | ⟨elems, sp, hd, hel⟩
    · omega
    · simp only at hd
      subst hd
      have := sized_slice hsz (j := 1) (t := 23) (e := 2) rfl rfl Try.underlying23
      rw [bytes1] at this
      simp only [reachBytes] at this
      omega
  obtain ⟨n2, rfl, rfl, rfl, w2⟩ := open_int Try.underlying3 (hval 2 3 v2 rfl rfl) h2
  exact (cashPaid_walk sortsLed x0 l1 A1 cap1 n2 W ok0 hR1 ok1 hr1 w2).mono fin

set_option maxRecDepth 100000 in
theorem lifted (os : Os) (started : os.Started) (H : Type) (enc : TypeId × Value → H) :
    ReturnsInHanded {} Try.checked os 3 .any (Rows.cashPaidSpec.pre6 enc Try.prog Try.f3 Rows.cashPaidRow.domain false) (Rows.cashPaidSpec.post enc Try.prog Try.f3 false true false false) := by
  refine returnsInHanded_of_change_sized (C := Try.checked) own started (by kernel_rfl) Try.func3
    (ChangeSpec.witness6 (enc := enc) (C := Try.checked) false ⟨#[], #[.agg #[.int .i64 0, .int .i64 0], .slice none 0 0, .int .i64 0], []⟩ 8 (by kernel_rfl) (by kernel_rfl) (by kernel_rfl) (by kernel_rfl)) ?_
  intro W base args ds gs before hval hW _ hsz _
  exact contract H enc W base args ds gs before hval hW hsz

/-- THE STATEMENT. -/
theorem proved : Rows.CashPaidSaid :=
  OpenClaim.holds_of_wide 3 Try.f3 rfl rfl rfl rfl rfl rfl rfl ⟨rfl, rfl, rfl, rfl, rfl⟩ rfl rfl rfl rfl rfl (by kernel_rfl) Try.func3 (by kernel_rfl)
    (of_decide_eq_true (by kernel_rfl)) (by unfold Func.isWrapper; rw [if_neg (of_decide_eq_false (by kernel_rfl))]; exact ⟨rfl, rfl⟩)
    (fun os started H enc _ => lifted os started H enc)
#print axioms proved
end Go.Proofs.Ythdmbbfppgenlaa.lawCashPaid
