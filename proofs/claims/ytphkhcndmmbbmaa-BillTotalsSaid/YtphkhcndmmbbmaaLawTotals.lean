/-
  The statement BillTotals: for every list of lines the law returns true. No condition.
-/
import Derived.Test.YtphkhcndmmbbmaaLawSums
namespace Go.Proofs.Ytphkhcndmmbbmaa.lawBillTotals
open Go.ChangeShapes Go.WideShapes Go.ChangeAt Go.RowKit
set_option linter.unusedVariables false

theorem own : ownKnob Try.prog.godebug = none := by kernel_rfl
theorem laidOut : laidOutB Try.prog = true := by kernel_rfl
theorem bytesE : Try.prog.bytesOf 25 = 16 := by kernel_rfl
theorem flatLine : Flat Try.prog 25 [.int .i64, .int .i64] := flat_struct Try.underlying25 (by kernel_rfl) (by kernel_rfl) (by kernel_rfl)

theorem dec2 (vs : List Value) (hl : vs.length = 2) (h : ∀ j, j < 2 → ∃ (u : Value) (k : SK), vs[j]? = some u ∧ ([SK.int .i64, .int .i64] : List SK)[j]? = some k ∧ k.ok u) : ∃ x : Int × Int, vs = en2 x ∧ (Lit.int .i64 x.1).wf = true ∧ (Lit.int .i64 x.2).wf = true := by
  match vs, hl with
  | [a, b], _ =>
    obtain ⟨u, k, h1, h2, h3⟩ := h 0 (by omega)
    obtain ⟨u', k', g1, g2, g3⟩ := h 1 (by omega)
    simp at h1 h2 g1 g2
    subst h1 h2 g1 g2
    obtain ⟨n, rfl, hn⟩ := h3
    obtain ⟨m, rfl, hm⟩ := g3
    exact ⟨(n, m), rfl, hn, hm⟩

set_option maxRecDepth 100000 in
theorem lifted (os : Os) (started : os.Started) (H : Type) (enc : TypeId × Value → H) :
    ReturnsInHanded {} Try.checked os 3 .any (Rows.billTotalsSpec.pre6 enc Try.prog Try.f3 Rows.billTotalsRow.domain false) (Rows.billTotalsSpec.post enc Try.prog Try.f3 false true false false) := by
  refine returnsInHanded_of_change_sized (C := Try.checked) own started (by kernel_rfl) Try.func3
    (ChangeSpec.witness6 (enc := enc) (C := Try.checked) false ⟨#[], #[.slice none 0 0], []⟩ 8 (by kernel_rfl) (by kernel_rfl) (by kernel_rfl) (by kernel_rfl)) ?_
  intro W base args ds gs before hval0 hW hcnd hsz0 _
  have hval : ∀ (j : Nat) t v, Try.f3.params[j]? = some t → args[j]? = some v → Value.okWide Try.prog W .any base t v := hval0
  have hsz : (DataW.weightsEach Try.prog (Try.f3.params.toList ++ Rows.billTotalsSpec.plain.varTypes Try.prog) (ds ++ gs)).all (· ≤ reachBytes) = true := hsz0
  clear hsz0
  have fin : ∀ e W', Law W e W' → ∃ v, e = .returned v ∧ Rows.billTotalsSpec.post enc Try.prog Try.f3 false true false false W args v W' :=
    fun e W' h => law_post laidOut rfl (fun ds hds => by
      rw [Try.params3] at hds
      match ds, hds with
      | [d], _ => exact ⟨rfl, rfl, rfl⟩) (by rw [Try.params3]; intro t ht; simp at ht; subst ht; exact ⟨by kernel_rfl, of_decide_eq_true (by kernel_rfl)⟩) (by kernel_rfl) Try.underlying4 hW h
  obtain ⟨p, q, hA0, hV, rfl, hfz, hnd⟩ := hW
  have hA : DataW.TrodAll enc Try.prog W 0 (fun _ => true) true Try.f3.params.toList args.toList ds p := hA0
  rw [Try.params3] at hA hval hsz
  obtain ⟨v0, vs0, d0, ds0, p0, q0, hargs, rfl, rfl, h0, r0⟩ := trodAll_cons hA
  obtain ⟨rfl, rfl, rfl⟩ := trodAll_nil r0
  obtain rfl : args = #[v0] := by cases args; simp_all
  obtain ⟨rfl, rfl⟩ := trodVars_none hV
  obtain ⟨a0, len, cap, rfl⟩ := okWide_slice Try.underlying22 (hval 0 22 v0 rfl rfl)
  obtain ⟨fuel, hf⟩ := h0
  obtain ⟨A, len', cap', xs, hcs, hlc, hcm, hxl, hR, hall, hd⟩ := open_flat Try.underlying22 flatLine (by decide) hf
  simp [Value.cells] at hcs
  obtain ⟨rfl, rfl, rfl⟩ := hcs
  obtain ⟨l, rfl, rfl, hok⟩ := flat_list (ks := [.int .i64, .int .i64]) (en := en2) (ok := fun x => (Lit.int .i64 x.1).wf = true ∧ (Lit.int .i64 x.2).wf = true) dec2 len xs hxl hall
  refine (billTotals_walk l a0 cap W hR ?_).mono fin
  rcases hd with hd | ⟨elems, sp, hd, hel⟩
  · omega
  · simp only at hd
    subst hd
    have := sized_slice hsz (j := 0) (t := 22) (e := 25) rfl rfl Try.underlying22
    rw [bytesE] at this
    simp only [reachBytes] at this
    omega

/-- THE STATEMENT. -/
theorem proved : Rows.BillTotalsSaid :=
  OpenClaim.holds_of_wide 3 Try.f3 rfl rfl rfl rfl rfl rfl rfl ⟨rfl, rfl, rfl, rfl, rfl⟩ rfl rfl rfl rfl rfl (by kernel_rfl) Try.func3 (by kernel_rfl)
    (of_decide_eq_true (by kernel_rfl)) (by unfold Func.isWrapper; first | (rw [if_pos (by decide +kernel)]; kernel_rfl) | (rw [if_neg (by decide +kernel)]; exact ⟨rfl, rfl⟩))
    (fun os started H enc _ => lifted os started H enc)
#print axioms proved
end Go.Proofs.Ytphkhcndmmbbmaa.lawBillTotals
