/-
  The statement CashBack: for every input the law returns true. No condition.
-/
import Derived.Test.YthdmbbfppgenlaaCashBack
import Derived.Test.YthdmbbfppgenlaaSorted18
namespace Go.Proofs.Ythdmbbfppgenlaa.lawCashBack
open Go.ChangeShapes Go.WideShapes Go.ChangeAt Go.RowKit 
set_option linter.unusedVariables false

theorem own : ownKnob Try.prog.godebug = none := by kernel_rfl
theorem laidOut : laidOutB Try.prog = true := by kernel_rfl
theorem bytes2 : Try.prog.bytesOf 2 = 8 := by kernel_rfl
theorem flat2 : Flat Try.prog 2 [.int .i64] := flat_scalar (by kernel_rfl) (by kernel_rfl)

set_option maxRecDepth 100000 in
theorem contract (H : Type) (enc : TypeId × Value → H) (W : World) (base : Nat) (args : Array Value) (ds gs : List (DataW H)) (before : List MemPlace)
    (hval : ∀ (j : Nat) t v, Try.f5.params[j]? = some t → args[j]? = some v → Value.okWide Try.prog W .any base t v)
    (hW : DataW.Whole enc Try.prog Try.f5.params.toList Rows.cashBackSpec.vars false W args.toList ds gs before)
    (hsz : (DataW.weightsEach Try.prog (Try.f5.params.toList ++ Rows.cashBackSpec.plain.varTypes Try.prog) (ds ++ gs)).all (· ≤ reachBytes) = true) :
    Calls Try.prog 5 args W fun e W' => ∃ v, e = .returned v ∧ Rows.cashBackSpec.post enc Try.prog Try.f5 false true false false W args v W' := by
  have fin : ∀ e W', Law W e W' → ∃ v, e = .returned v ∧ Rows.cashBackSpec.post enc Try.prog Try.f5 false true false false W args v W' :=
    fun e W' h => law_post laidOut rfl (fun ds hds => by
      rw [Try.params5] at hds
      match ds, hds with
      | [d0, d1, d2], _ => exact ⟨rfl, rfl, rfl⟩) (by rw [Try.params5]; intro t ht; simp only [List.mem_cons, List.not_mem_nil, or_false] at ht; rcases ht with rfl | rfl | rfl <;> exact ⟨by kernel_rfl, of_decide_eq_true (by kernel_rfl)⟩) (by kernel_rfl) Try.underlying4 hW h
  obtain ⟨p, q, hA0, hV, rfl, hfz, hnd⟩ := hW
  have hA : DataW.TrodAll enc Try.prog W 0 (fun _ => true) true Try.f5.params.toList args.toList ds p := hA0
  rw [Try.params5] at hA hval hsz
  obtain ⟨v0, vs0, d0, ds0, p0, q0, hargs, rfl, rfl, h0, r0⟩ := trodAll_cons hA
  obtain ⟨v1, vs1, d1, ds1, p1, q1, rfl, rfl, rfl, h1, r1⟩ := trodAll_cons r0
  obtain ⟨v2, vs2, d2, ds2, p2, q2, rfl, rfl, rfl, h2, r2⟩ := trodAll_cons r1
  obtain ⟨rfl, rfl, rfl⟩ := trodAll_nil r2
  obtain rfl : args = #[v0, v1, v2] := by cases args; simp_all
  obtain ⟨rfl, rfl⟩ := trodVars_none hV
  obtain ⟨n0, rfl, rfl, rfl, w0⟩ := open_int Try.underlying2 (hval 0 2 v0 rfl rfl) h0
  obtain ⟨n1, rfl, rfl, rfl, w1⟩ := open_int Try.underlying2 (hval 1 2 v1 rfl rfl) h1
  obtain ⟨A2, len2, cap2, rfl⟩ := okWide_slice Try.underlying23 (hval 2 23 v2 rfl rfl)
  obtain ⟨fuel2, hf2⟩ := h2
  obtain ⟨A2', len2', cap2', xs2, hcs2, hlc2, hcm2, hxl2, hR2, hall2, hd2⟩ := open_flat Try.underlying23 flat2 (by decide) hf2
  simp [Value.cells] at hcs2
  obtain ⟨rfl, rfl, rfl⟩ := hcs2
  obtain ⟨l2, rfl, rfl, ok2⟩ := flat_list (ks := [.int .i64]) (en := en1) (ok := Go.Proofs.Ythdmbbfppgenlaa.ok1) dec1 len2 xs2 hxl2 hall2
  have hr2 : l2.length * 8 ≤ 140737488351232 := by
    rcases hd2 with hd | ⟨elems, sp, hd, hel⟩
    · omega
    · simp only at hd
      subst hd
      have := sized_slice hsz (j := 2) (t := 23) (e := 2) rfl rfl Try.underlying23
      rw [bytes2] at this
      simp only [reachBytes] at this
      omega
  exact (cashBack_walk sortsLed n0 n1 l2 A2 cap2 W w0 w1 hR2 ok2 hr2 hlc2 hcm2).mono fin

set_option maxRecDepth 100000 in
theorem lifted (os : Os) (started : os.Started) (H : Type) (enc : TypeId × Value → H) :
    ReturnsInHanded {} Try.checked os 5 .any (Rows.cashBackSpec.pre6 enc Try.prog Try.f5 Rows.cashBackRow.domain false) (Rows.cashBackSpec.post enc Try.prog Try.f5 false true false false) := by
  refine returnsInHanded_of_change_sized (C := Try.checked) own started (by kernel_rfl) Try.func5
    (ChangeSpec.witness6 (enc := enc) (C := Try.checked) false ⟨#[], #[.int .i64 0, .int .i64 0, .slice none 0 0], []⟩ 8 (by kernel_rfl) (by kernel_rfl) (by kernel_rfl) (by kernel_rfl)) ?_
  intro W base args ds gs before hval hW _ hsz _
  exact contract H enc W base args ds gs before hval hW hsz

/-- THE STATEMENT. -/
theorem proved : Rows.CashBackSaid :=
  OpenClaim.holds_of_wide 5 Try.f5 rfl rfl rfl rfl rfl rfl rfl ⟨rfl, rfl, rfl, rfl, rfl⟩ rfl rfl rfl rfl rfl (by kernel_rfl) Try.func5 (by kernel_rfl)
    (of_decide_eq_true (by kernel_rfl)) (by unfold Func.isWrapper; rw [if_neg (of_decide_eq_false (by kernel_rfl))]; exact ⟨rfl, rfl⟩)
    (fun os started H enc _ => lifted os started H enc)
#print axioms proved
end Go.Proofs.Ythdmbbfppgenlaa.lawCashBack
