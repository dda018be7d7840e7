/-
  The statement StockRestores: for every input the law returns true. Condition: what comes in holds at most 1048576 values and letters.
-/
import Derived.Test.YthfaaimmfdidnaaRests15
import Derived.Test.YthfaaimmfdidnaaBulk
namespace Go.Proofs.Ythfaaimmfdidnaa.lawStockRestores
open Go.ChangeShapes Go.WideShapes Go.ChangeAt Go.RowKit 
set_option linter.unusedVariables false

theorem own : ownKnob Try.prog.godebug = none := by kernel_rfl
theorem laidOut : laidOutB Try.prog = true := by kernel_rfl
theorem bytes0 : Try.prog.bytesOf 38 = 48 := by kernel_rfl
theorem flat0 : Flat Try.prog 38 [.int .i64, .int .i64, .int .i64, .int .i64, .int .i64, .int .i64] := flat_struct Try.underlying38 (by kernel_rfl) (by kernel_rfl) (by kernel_rfl)

set_option maxRecDepth 100000 in
theorem contract (H : Type) (enc : TypeId × Value → H) (W : World) (base : Nat) (args : Array Value) (ds gs : List (DataW H)) (before : List MemPlace)
    (hval : ∀ (j : Nat) t v, Try.f8.params[j]? = some t → args[j]? = some v → Value.okWide Try.prog W .any base t v)
    (hW : DataW.Whole enc Try.prog Try.f8.params.toList Rows.stockRestoresSpec.vars false W args.toList ds gs before)
    (hk : Rows.uptoSmall H (ds ++ gs) = true)
    (hsz : (DataW.weightsEach Try.prog (Try.f8.params.toList ++ Rows.stockRestoresSpec.plain.varTypes Try.prog) (ds ++ gs)).all (· ≤ reachBytes) = true) :
    Calls Try.prog 8 args W fun e W' => ∃ v, e = .returned v ∧ Rows.stockRestoresSpec.post enc Try.prog Try.f8 false true false false W args v W' := by
  have fin : ∀ e W', Law W e W' → ∃ v, e = .returned v ∧ Rows.stockRestoresSpec.post enc Try.prog Try.f8 false true false false W args v W' :=
    fun e W' h => law_post laidOut rfl (fun ds hds => by
      rw [Try.params8] at hds
      match ds, hds with
      | [d0, d1, d2], _ => exact ⟨rfl, rfl, rfl⟩) (by rw [Try.params8]; intro t ht; simp only [List.mem_cons, List.not_mem_nil, or_false] at ht; rcases ht with rfl | rfl | rfl <;> exact ⟨by kernel_rfl, of_decide_eq_true (by kernel_rfl)⟩) (by kernel_rfl) Try.underlying4 hW h
  obtain ⟨p, q, hA0, hV, rfl, hfz, hnd⟩ := hW
  have hA : DataW.TrodAll enc Try.prog W 0 (fun _ => true) true Try.f8.params.toList args.toList ds p := hA0
  rw [Try.params8] at hA hval hsz
  obtain ⟨v0, vs0, d0, ds0, p0, q0, hargs, rfl, rfl, h0, r0⟩ := trodAll_cons hA
  obtain ⟨v1, vs1, d1, ds1, p1, q1, rfl, rfl, rfl, h1, r1⟩ := trodAll_cons r0
  obtain ⟨v2, vs2, d2, ds2, p2, q2, rfl, rfl, rfl, h2, r2⟩ := trodAll_cons r1
  obtain ⟨rfl, rfl, rfl⟩ := trodAll_nil r2
  obtain rfl : args = #[v0, v1, v2] := by cases args; simp_all
  obtain ⟨rfl, rfl⟩ := trodVars_none hV
  have hbulk : Rows.uptoBulkAll ([d0, d1, d2] ++ []) ≤ 1048576 := of_decide_eq_true hk
  simp only [Rows.uptoBulkAll, List.append_nil] at hbulk
  obtain ⟨A0, len0, cap0, rfl⟩ := okWide_slice Try.underlying35 (hval 0 35 v0 rfl rfl)
  obtain ⟨fuel0, hf0⟩ := h0
  obtain ⟨A0', len0', cap0', xs0, hcs0, hlc0, hcm0, hxl0, hR0, hall0, hd0⟩ := open_flat Try.underlying35 flat0 (by decide) hf0
  simp [Value.cells] at hcs0
  obtain ⟨rfl, rfl, rfl⟩ := hcs0
  obtain ⟨l0, rfl, rfl, ok0⟩ := flat_list (ks := [.int .i64, .int .i64, .int .i64, .int .i64, .int .i64, .int .i64]) (en := enV6) (ok := okV6) decV6 len0 xs0 hxl0 hall0
  have hr0 : l0.length * 48 ≤ 140737488351232 := by
    rcases hd0 with hd | ⟨elems, sp, hd, hel⟩
    · omega
    · simp only at hd
      subst hd
      have := sized_slice hsz (j := 0) (t := 35) (e := 38) rfl rfl Try.underlying35
      rw [bytes0] at this
      simp only [reachBytes] at this
      omega
  have hb0 : l0.length ≤ 1048576 := by
    rcases hd0 with hd | ⟨elems, sp, hd, hel⟩
    · omega
    · simp only at hd
      subst hd
      have := bulks.slice_le elems sp
      omega
  obtain ⟨A1, len1, cap1, rfl⟩ := okWide_slice Try.underlying60 (hval 1 60 v1 rfl rfl)
  obtain ⟨fuel1, hf1⟩ := h1
  have hq1 := bulks.trod_le Try.underlying60 (by simpa [Value.cells] using hf1)
  obtain ⟨A1', cap1', l1, hcs1, hR1, ok1, hr1⟩ := open_gas hf1 (fun y hy => by simpa using List.all_eq_true.1 hsz _ (DataW.weights_mem_each (j := 1) rfl rfl y hy))
  simp [Value.cells] at hcs1
  obtain ⟨rfl, rfl, rfl⟩ := hcs1
  have hb1 : l1.length ≤ 1048576 := by simp only at hq1; omega
  obtain ⟨A2, len2, cap2, rfl⟩ := okWide_slice Try.underlying40 (hval 2 40 v2 rfl rfl)
  obtain ⟨fuel2, hf2⟩ := h2
  have hq2 := bulks.trod_le Try.underlying40 (by simpa [Value.cells] using hf2)
  obtain ⟨A2', cap2', l2, hcs2, hR2, ok2, hr2⟩ := open_ops hf2 (fun y hy => by simpa using List.all_eq_true.1 hsz _ (DataW.weights_mem_each (j := 2) rfl rfl y hy))
  simp [Value.cells] at hcs2
  obtain ⟨rfl, rfl, rfl⟩ := hcs2
  have hb2 : l2.length ≤ 1048576 := by simp only at hq2; omega
  exact (stockRestores_walk l0 A0 cap0 l1 A1 cap1 l2 A2 cap2 W hR0 hR1 ok1 hR2 ok2 (by omega) (by omega) (by omega)).mono fin

set_option maxRecDepth 100000 in
theorem lifted (os : Os) (started : os.Started) (H : Type) (enc : TypeId × Value → H) (F : Stop.Interp) :
    ReturnsInHanded {} Try.checked os 8 .any ((Rows.OpenSpec.upto Rows.stockRestoresSpec).pre6 enc Try.prog Try.f8 Rows.stockRestoresUptoRow.domain false) (((Rows.OpenSpec.upto Rows.stockRestoresSpec).at F).post enc Try.prog Try.f8 false true false false) := by
  refine returnsInHanded_of_cond_sized (C := Try.checked) (s := Rows.OpenSpec.upto Rows.stockRestoresSpec) (k := Rows.uptoSmall) rfl own started (by kernel_rfl) Try.func8
    (OpenSpec.witness (enc := enc) (C := Try.checked) (s := Rows.OpenSpec.upto Rows.stockRestoresSpec) (k := Rows.uptoSmall) rfl false ⟨#[], #[.slice none 0 0, .slice none 0 0, .slice none 0 0], []⟩ 8 (by kernel_rfl) (by kernel_rfl) (by kernel_rfl)
      (x := ([.nil, .nil, .nil], [], [])) (by kernel_rfl) rfl (by kernel_rfl)) ?_
  intro W base args ds gs before hval hW _ hk hsz _
  exact contract H enc W base args ds gs before hval hW hk hsz

/-- THE STATEMENT. -/
theorem proved : Rows.StockRestoresUptoSaid :=
  OpenClaim.holds_of_cond 8 Try.f8 rfl rfl rfl rfl rfl rfl rfl ⟨rfl, rfl, rfl, rfl, rfl⟩ rfl rfl rfl rfl rfl (by kernel_rfl) Try.func8 (by kernel_rfl)
    (of_decide_eq_true (by kernel_rfl)) (by unfold Func.isWrapper; rw [if_neg (of_decide_eq_false (by kernel_rfl))]; exact ⟨rfl, rfl⟩)
    (fun os started H enc _ F => lifted os started H enc F)
#print axioms proved
end Go.Proofs.Ythfaaimmfdidnaa.lawStockRestores
