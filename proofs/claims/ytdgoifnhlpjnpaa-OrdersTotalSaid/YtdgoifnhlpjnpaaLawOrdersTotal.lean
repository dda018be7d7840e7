/-
  The statement OrdersTotal: for every input the law returns true. No condition.
-/
import Derived.Test.YtdgoifnhlpjnpaaOtot
namespace Go.Proofs.Ytdgoifnhlpjnpaa.lawOrdersTotal
open Go.ChangeShapes Go.WideShapes Go.ChangeAt Go.RowKit 
set_option linter.unusedVariables false

theorem own : ownKnob Try.prog.godebug = none := by kernel_rfl
theorem laidOut : laidOutB Try.prog = true := by kernel_rfl
theorem bytes0 : Try.prog.bytesOf 3 = 8 := by kernel_rfl
theorem flat0 : Flat Try.prog 3 [.int .i64] := flat_scalar (by kernel_rfl) (by kernel_rfl)
theorem bytes1 : Try.prog.bytesOf 47 = 16 := by kernel_rfl
theorem flat1 : Flat Try.prog 47 [.int .i64, .int .i64] := flat_struct Try.underlying47 (by kernel_rfl) (by kernel_rfl) (by kernel_rfl)

set_option maxRecDepth 100000 in
theorem contract (H : Type) (enc : TypeId × Value → H) (W : World) (base : Nat) (args : Array Value) (ds gs : List (DataW H)) (before : List MemPlace)
    (hval : ∀ (j : Nat) t v, Try.f4.params[j]? = some t → args[j]? = some v → Value.okWide Try.prog W .any base t v)
    (hW : DataW.Whole enc Try.prog Try.f4.params.toList Rows.ordersTotalSpec.vars false W args.toList ds gs before)
    (hsz : (DataW.weightsEach Try.prog (Try.f4.params.toList ++ Rows.ordersTotalSpec.plain.varTypes Try.prog) (ds ++ gs)).all (· ≤ reachBytes) = true) :
    Calls Try.prog 4 args W fun e W' => ∃ v, e = .returned v ∧ Rows.ordersTotalSpec.post enc Try.prog Try.f4 false true false false W args v W' := by
  have fin : ∀ e W', Law W e W' → ∃ v, e = .returned v ∧ Rows.ordersTotalSpec.post enc Try.prog Try.f4 false true false false W args v W' :=
    fun e W' h => law_post laidOut rfl (fun ds hds => by
      rw [Try.params4] at hds
      match ds, hds with
      | [d0, d1], _ => exact ⟨rfl, rfl, rfl⟩) (by rw [Try.params4]; intro t ht; simp only [List.mem_cons, List.not_mem_nil, or_false] at ht; rcases ht with rfl | rfl <;> exact ⟨by kernel_rfl, of_decide_eq_true (by kernel_rfl)⟩) (by kernel_rfl) Try.underlying4 hW h
  obtain ⟨p, q, hA0, hV, rfl, hfz, hnd⟩ := hW
  have hA : DataW.TrodAll enc Try.prog W 0 (fun _ => true) true Try.f4.params.toList args.toList ds p := hA0
  rw [Try.params4] at hA hval hsz
  obtain ⟨v0, vs0, d0, ds0, p0, q0, hargs, rfl, rfl, h0, r0⟩ := trodAll_cons hA
  obtain ⟨v1, vs1, d1, ds1, p1, q1, rfl, rfl, rfl, h1, r1⟩ := trodAll_cons r0
  obtain ⟨rfl, rfl, rfl⟩ := trodAll_nil r1
  obtain rfl : args = #[v0, v1] := by cases args; simp_all
  obtain ⟨rfl, rfl⟩ := trodVars_none hV
  obtain ⟨A0, len0, cap0, rfl⟩ := okWide_slice Try.underlying39 (hval 0 39 v0 rfl rfl)
  obtain ⟨fuel0, hf0⟩ := h0
  obtain ⟨A0', len0', cap0', xs0, hcs0, hlc0, hcm0, hxl0, hR0, hall0, hd0⟩ := open_flat Try.underlying39 flat0 (by decide) hf0
  simp [Value.cells] at hcs0
  obtain ⟨rfl, rfl, rfl⟩ := hcs0
  obtain ⟨l0, rfl, rfl, ok0⟩ := flat_list (ks := [.int .i64]) (en := en1) (ok := ok1) dec1 len0 xs0 hxl0 hall0
  have hr0 : l0.length * 8 ≤ 140737488351232 := by
    rcases hd0 with hd | ⟨elems, sp, hd, hel⟩
    · omega
    · simp only at hd
      subst hd
      have := sized_slice hsz (j := 0) (t := 39) (e := 3) rfl rfl Try.underlying39
      rw [bytes0] at this
      simp only [reachBytes] at this
      omega
  obtain ⟨A1, len1, cap1, rfl⟩ := okWide_slice Try.underlying26 (hval 1 26 v1 rfl rfl)
  obtain ⟨fuel1, hf1⟩ := h1
  obtain ⟨A1', len1', cap1', xs1, hcs1, hlc1, hcm1, hxl1, hR1, hall1, hd1⟩ := open_flat Try.underlying26 flat1 (by decide) hf1
  simp [Value.cells] at hcs1
  obtain ⟨rfl, rfl, rfl⟩ := hcs1
  obtain ⟨l1, rfl, rfl, ok1⟩ := flat_list (ks := [.int .i64, .int .i64]) (en := enL) (ok := i64L) decLn len1 xs1 hxl1 hall1
  have hr1 : l1.length * 16 ≤ 140737488351232 := by
    rcases hd1 with hd | ⟨elems, sp, hd, hel⟩
    · omega
    · simp only at hd
      subst hd
      have := sized_slice hsz (j := 1) (t := 26) (e := 47) rfl rfl Try.underlying26
      rw [bytes1] at this
      simp only [reachBytes] at this
      omega
  exact (ordersTotal_walk l0 A0 cap0 l1 A1 cap1 W hR0 (by omega) hlc0 hcm0 hR1 hr1 hlc1 hcm1).mono fin

set_option maxRecDepth 100000 in
theorem lifted (os : Os) (started : os.Started) (H : Type) (enc : TypeId × Value → H) :
    ReturnsInHanded {} Try.checked os 4 .any (Rows.ordersTotalSpec.pre6 enc Try.prog Try.f4 Rows.ordersTotalRow.domain false) (Rows.ordersTotalSpec.post enc Try.prog Try.f4 false true false false) := by
  refine returnsInHanded_of_change_sized (C := Try.checked) own started (by kernel_rfl) Try.func4
    (ChangeSpec.witness6 (enc := enc) (C := Try.checked) false ⟨#[], #[.slice none 0 0, .slice none 0 0], []⟩ 8 (by kernel_rfl) (by kernel_rfl) (by kernel_rfl) (by kernel_rfl)) ?_
  intro W base args ds gs before hval hW _ hsz _
  exact contract H enc W base args ds gs before hval hW hsz

/-- THE STATEMENT. -/
theorem proved : Rows.OrdersTotalSaid :=
  OpenClaim.holds_of_wide 4 Try.f4 rfl rfl rfl rfl rfl rfl rfl ⟨rfl, rfl, rfl, rfl, rfl⟩ rfl rfl rfl rfl rfl (by kernel_rfl) Try.func4 (by kernel_rfl)
    (of_decide_eq_true (by kernel_rfl)) (by unfold Func.isWrapper; rw [if_neg (of_decide_eq_false (by kernel_rfl))]; exact ⟨rfl, rfl⟩)
    (fun os started H enc _ => lifted os started H enc)
#print axioms proved
end Go.Proofs.Ytdgoifnhlpjnpaa.lawOrdersTotal
