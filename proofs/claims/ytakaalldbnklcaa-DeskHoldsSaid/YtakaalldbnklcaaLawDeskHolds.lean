/-
  The statement DeskHolds: for every input the law returns true. No condition.
-/
import Derived.Test.YtakaalldbnklcaaDkHolds
namespace Go.Proofs.Ytakaalldbnklcaa.lawDeskHolds
open Go.ChangeShapes Go.WideShapes Go.ChangeAt Go.RowKit 
set_option linter.unusedVariables false

theorem own : ownKnob Try.prog.godebug = none := by kernel_rfl
theorem laidOut : laidOutB Try.prog = true := by kernel_rfl
theorem bytes1 : Try.prog.bytesOf 3 = 8 := by kernel_rfl
theorem flat1 : Flat Try.prog 3 [.int .i64] := flat_scalar (by kernel_rfl) (by kernel_rfl)
theorem bytes2 : Try.prog.bytesOf 3 = 8 := by kernel_rfl
theorem flat2 : Flat Try.prog 3 [.int .i64] := flat_scalar (by kernel_rfl) (by kernel_rfl)

set_option maxRecDepth 100000 in
theorem contract (H : Type) (enc : TypeId × Value → H) (W : World) (base : Nat) (args : Array Value) (ds gs : List (DataW H)) (before : List MemPlace)
    (hval : ∀ (j : Nat) t v, Try.f4.params[j]? = some t → args[j]? = some v → Value.okWide Try.prog W .any base t v)
    (hW : DataW.Whole enc Try.prog Try.f4.params.toList Rows.deskHoldsSpec.vars false W args.toList ds gs before)
    (hsz : (DataW.weightsEach Try.prog (Try.f4.params.toList ++ Rows.deskHoldsSpec.plain.varTypes Try.prog) (ds ++ gs)).all (· ≤ reachBytes) = true) :
    Calls Try.prog 4 args W fun e W' => ∃ v, e = .returned v ∧ Rows.deskHoldsSpec.post enc Try.prog Try.f4 false true false false W args v W' := by
  have fin : ∀ e W', Law W e W' → ∃ v, e = .returned v ∧ Rows.deskHoldsSpec.post enc Try.prog Try.f4 false true false false W args v W' :=
    fun e W' h => law_post laidOut rfl (fun ds hds => by
      rw [Try.params4] at hds
      match ds, hds with
      | [d0, d1, d2], _ => exact ⟨rfl, rfl, rfl⟩) (by rw [Try.params4]; intro t ht; simp only [List.mem_cons, List.not_mem_nil, or_false] at ht; rcases ht with rfl | rfl | rfl <;> exact ⟨by kernel_rfl, of_decide_eq_true (by kernel_rfl)⟩) (by kernel_rfl) Try.underlying4 hW h
  obtain ⟨p, q, hA0, hV, rfl, hfz, hnd⟩ := hW
  have hA : DataW.TrodAll enc Try.prog W 0 (fun _ => true) true Try.f4.params.toList args.toList ds p := hA0
  rw [Try.params4] at hA hval hsz
  obtain ⟨v0, vs0, d0, ds0, p0, q0, hargs, rfl, rfl, h0, r0⟩ := trodAll_cons hA
  obtain ⟨v1, vs1, d1, ds1, p1, q1, rfl, rfl, rfl, h1, r1⟩ := trodAll_cons r0
  obtain ⟨v2, vs2, d2, ds2, p2, q2, rfl, rfl, rfl, h2, r2⟩ := trodAll_cons r1
  obtain ⟨rfl, rfl, rfl⟩ := trodAll_nil r2
  obtain rfl : args = #[v0, v1, v2] := by cases args; simp_all
  obtain ⟨rfl, rfl⟩ := trodVars_none hV
  obtain ⟨n0, rfl, rfl, rfl, w0⟩ := open_int Try.underlying2 (hval 0 2 v0 rfl rfl) h0
  obtain ⟨A1, len1, cap1, rfl⟩ := okWide_slice Try.underlying38 (hval 1 38 v1 rfl rfl)
  obtain ⟨fuel1, hf1⟩ := h1
  obtain ⟨A1', len1', cap1', xs1, hcs1, hlc1, hcm1, hxl1, hR1, hall1, hd1⟩ := open_flat Try.underlying38 flat1 (by decide) hf1
  simp [Value.cells] at hcs1
  obtain ⟨rfl, rfl, rfl⟩ := hcs1
  obtain ⟨l1, rfl, rfl, ok1⟩ := flat_list (ks := [.int .i64]) (en := en1) (ok := Go.Proofs.Ytakaalldbnklcaa.ok1) dec1 len1 xs1 hxl1 hall1
  have hr1 : l1.length * 8 ≤ 140737488351232 := by
    rcases hd1 with hd | ⟨elems, sp, hd, hel⟩
    · omega
    · simp only at hd
      subst hd
      have := sized_slice hsz (j := 1) (t := 38) (e := 3) rfl rfl Try.underlying38
      rw [bytes1] at this
      simp only [reachBytes] at this
      omega
  obtain ⟨A2, len2, cap2, rfl⟩ := okWide_slice Try.underlying38 (hval 2 38 v2 rfl rfl)
  obtain ⟨fuel2, hf2⟩ := h2
  obtain ⟨A2', len2', cap2', xs2, hcs2, hlc2, hcm2, hxl2, hR2, hall2, hd2⟩ := open_flat Try.underlying38 flat2 (by decide) hf2
  simp [Value.cells] at hcs2
  obtain ⟨rfl, rfl, rfl⟩ := hcs2
  obtain ⟨l2, rfl, rfl, ok2⟩ := flat_list (ks := [.int .i64]) (en := en1) (ok := Go.Proofs.Ytakaalldbnklcaa.ok1) dec1 len2 xs2 hxl2 hall2
  have hr2 : l2.length * 8 ≤ 140737488351232 := by
    rcases hd2 with hd | ⟨elems, sp, hd, hel⟩
    · omega
    · simp only at hd
      subst hd
      have := sized_slice hsz (j := 2) (t := 38) (e := 3) rfl rfl Try.underlying38
      rw [bytes2] at this
      simp only [reachBytes] at this
      omega
  exact (deskHolds_walk n0 l1 A1 cap1 l2 A2 cap2 W w0 hR1 ok1 hr1 hR2 ok2 hr2 hlc1 hcm1).mono fin

set_option maxRecDepth 100000 in
theorem lifted (os : Os) (started : os.Started) (H : Type) (enc : TypeId × Value → H) :
    ReturnsInHanded {} Try.checked os 4 .any (Rows.deskHoldsSpec.pre6 enc Try.prog Try.f4 Rows.deskHoldsRow.domain false) (Rows.deskHoldsSpec.post enc Try.prog Try.f4 false true false false) := by
  refine returnsInHanded_of_change_sized (C := Try.checked) own started (by kernel_rfl) Try.func4
    (ChangeSpec.witness6 (enc := enc) (C := Try.checked) false ⟨#[], #[.int .i64 0, .slice none 0 0, .slice none 0 0], []⟩ 8 (by kernel_rfl) (by kernel_rfl) (by kernel_rfl) (by kernel_rfl)) ?_
  intro W base args ds gs before hval hW _ hsz _
  exact contract H enc W base args ds gs before hval hW hsz

/-- THE STATEMENT. -/
theorem proved : Rows.DeskHoldsSaid :=
  OpenClaim.holds_of_wide 4 Try.f4 rfl rfl rfl rfl rfl rfl rfl ⟨rfl, rfl, rfl, rfl, rfl⟩ rfl rfl rfl rfl rfl (by kernel_rfl) Try.func4 (by kernel_rfl)
    (of_decide_eq_true (by kernel_rfl)) (by unfold Func.isWrapper; rw [if_neg (of_decide_eq_false (by kernel_rfl))]; exact ⟨rfl, rfl⟩)
    (fun os started H enc _ => lifted os started H enc)
#print axioms proved
end Go.Proofs.Ytakaalldbnklcaa.lawDeskHolds
