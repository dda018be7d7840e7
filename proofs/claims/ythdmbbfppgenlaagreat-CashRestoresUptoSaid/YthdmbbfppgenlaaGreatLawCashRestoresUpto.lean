/-
  The statement CashRestores: for every input the law returns true. Condition: what comes in holds at most 1048576 values and letters.
-/
import Derived.Test.YthdmbbfppgenlaaGreatChE
import Derived.Test.YthdmbbfppgenlaaGreatSorted18
import Derived.Test.YthdmbbfppgenlaaGreatBulk
namespace Go.Proofs.YthdmbbfppgenlaaGreat.lawCashRestores
open Go.ChangeShapes Go.WideShapes Go.ChangeAt Go.RowKit 
set_option linter.unusedVariables false

theorem own : ownKnob Tryz.prog.godebug = none := by kernel_rfl
theorem laidOut : laidOutB Tryz.prog = true := by kernel_rfl
theorem bytes1 : Tryz.prog.bytesOf 35 = 72 := by kernel_rfl
theorem flat1 : Flat Tryz.prog 35 [.int .i64, .int .i64, .int .i64, .int .i64, .int .i64, .int .i64, .int .i64, .int .i64, .int .i64] := flat_struct Tryz.underlying35 (by kernel_rfl) (by kernel_rfl) (by kernel_rfl)
theorem bytes2 : Tryz.prog.bytesOf 100 = 40 := by kernel_rfl
theorem flat2 : Flat Tryz.prog 100 [.int .i64, .int .i64, .int .i64, .int .i64, .int .i64] := flat_struct Tryz.underlying100 (by kernel_rfl) (by kernel_rfl) (by kernel_rfl)

set_option maxRecDepth 100000 in
theorem contract (H : Type) (enc : TypeId × Value → H) (W : World) (base : Nat) (args : Array Value) (ds gs : List (DataW H)) (before : List MemPlace)
    (hval : ∀ (j : Nat) t v, Tryz.f3.params[j]? = some t → args[j]? = some v → Value.okWide Tryz.prog W .any base t v)
    (hW : DataW.Whole enc Tryz.prog Tryz.f3.params.toList Rows.cashRestoresSpec.vars false W args.toList ds gs before)
    (hk : Rows.uptoSmall H (ds ++ gs) = true)
    (hsz : (DataW.weightsEach Tryz.prog (Tryz.f3.params.toList ++ Rows.cashRestoresSpec.plain.varTypes Tryz.prog) (ds ++ gs)).all (· ≤ reachBytes) = true) :
    Calls Tryz.prog 3 args W fun e W' => ∃ v, e = .returned v ∧ Rows.cashRestoresSpec.post enc Tryz.prog Tryz.f3 false true false false W args v W' := by
  have fin : ∀ e W', Law W e W' → ∃ v, e = .returned v ∧ Rows.cashRestoresSpec.post enc Tryz.prog Tryz.f3 false true false false W args v W' :=
    fun e W' h => law_post laidOut rfl (fun ds hds => by
      rw [Tryz.params3] at hds
      match ds, hds with
      | [d0, d1, d2], _ => exact ⟨rfl, rfl, rfl⟩) (by rw [Tryz.params3]; intro t ht; simp only [List.mem_cons, List.not_mem_nil, or_false] at ht; rcases ht with rfl | rfl | rfl <;> exact ⟨by kernel_rfl, of_decide_eq_true (by kernel_rfl)⟩) (by kernel_rfl) Tryz.underlying4 hW h
  obtain ⟨p, q, hA0, hV, rfl, hfz, hnd⟩ := hW
  have hA : DataW.TrodAll enc Tryz.prog W 0 (fun _ => true) true Tryz.f3.params.toList args.toList ds p := hA0
  rw [Tryz.params3] at hA hval hsz
  obtain ⟨v0, vs0, d0, ds0, p0, q0, hargs, rfl, rfl, h0, r0⟩ := trodAll_cons hA
  obtain ⟨v1, vs1, d1, ds1, p1, q1, rfl, rfl, rfl, h1, r1⟩ := trodAll_cons r0
  obtain ⟨v2, vs2, d2, ds2, p2, q2, rfl, rfl, rfl, h2, r2⟩ := trodAll_cons r1
  obtain ⟨rfl, rfl, rfl⟩ := trodAll_nil r2
  obtain rfl : args = #[v0, v1, v2] := by cases args; simp_all
  obtain ⟨rfl, rfl⟩ := trodVars_none hV
  have hbulk : Rows.uptoBulkAll ([d0, d1, d2] ++ []) ≤ 1048576 := of_decide_eq_true hk
  simp only [Rows.uptoBulkAll, List.append_nil] at hbulk
  obtain ⟨n0, rfl, rfl, rfl, w0⟩ := open_int Tryz.underlying2 (hval 0 2 v0 rfl rfl) h0
  obtain ⟨A1, len1, cap1, rfl⟩ := okWide_slice Tryz.underlying22 (hval 1 22 v1 rfl rfl)
  obtain ⟨fuel1, hf1⟩ := h1
  obtain ⟨A1', len1', cap1', xs1, hcs1, hlc1, hcm1, hxl1, hR1, hall1, hd1⟩ := open_flat Tryz.underlying22 flat1 (by decide) hf1
  simp [Value.cells] at hcs1
  obtain ⟨rfl, rfl, rfl⟩ := hcs1
  obtain ⟨l1, rfl, rfl, ok1⟩ := flat_list (ks := [.int .i64, .int .i64, .int .i64, .int .i64, .int .i64, .int .i64, .int .i64, .int .i64, .int .i64]) (en := enC9) (ok := okC9) dec9C len1 xs1 hxl1 hall1
  have hr1 : l1.length * 72 ≤ 140737488351232 := by
    rcases hd1 with hd | ⟨elems, sp, hd, hel⟩
    · omega
    · simp only at hd
      subst hd
      have := sized_slice hsz (j := 1) (t := 22) (e := 35) rfl rfl Tryz.underlying22
      rw [bytes1] at this
      simp only [reachBytes] at this
      omega
  have hb1 : l1.length ≤ 1048576 := by
    rcases hd1 with hd | ⟨elems, sp, hd, hel⟩
    · omega
    · simp only at hd
      subst hd
      have := bulks.slice_le elems sp
      omega
  obtain ⟨A2, len2, cap2, rfl⟩ := okWide_slice Tryz.underlying23 (hval 2 23 v2 rfl rfl)
  obtain ⟨fuel2, hf2⟩ := h2
  obtain ⟨A2', len2', cap2', xs2, hcs2, hlc2, hcm2, hxl2, hR2, hall2, hd2⟩ := open_flat Tryz.underlying23 flat2 (by decide) hf2
  simp [Value.cells] at hcs2
  obtain ⟨rfl, rfl, rfl⟩ := hcs2
  obtain ⟨l2, rfl, rfl, ok2⟩ := flat_list (ks := [.int .i64, .int .i64, .int .i64, .int .i64, .int .i64]) (en := en18) (ok := ok18) dec18 len2 xs2 hxl2 hall2
  have hr2 : l2.length * 40 ≤ 140737488351232 := by
    rcases hd2 with hd | ⟨elems, sp, hd, hel⟩
    · omega
    · simp only at hd
      subst hd
      have := sized_slice hsz (j := 2) (t := 23) (e := 100) rfl rfl Tryz.underlying23
      rw [bytes2] at this
      simp only [reachBytes] at this
      omega
  have hb2 : l2.length ≤ 1048576 := by
    rcases hd2 with hd | ⟨elems, sp, hd, hel⟩
    · omega
    · simp only at hd
      subst hd
      have := bulks.slice_le elems sp
      omega
  exact (cashRestores_walk sortsLed sortsR n0 l1 A1 cap1 l2 A2 cap2 W hR1 hR2 ok2 (by omega) (by omega)).mono fin

set_option maxRecDepth 100000 in
theorem lifted (os : Os) (started : os.Started) (H : Type) (enc : TypeId × Value → H) (F : Stop.Interp) :
    ReturnsInHanded {} Tryz.checked os 3 .any ((Rows.OpenSpec.upto Rows.cashRestoresSpec).pre6 enc Tryz.prog Tryz.f3 Rows.cashRestoresUptoRow.domain false) (((Rows.OpenSpec.upto Rows.cashRestoresSpec).at F).post enc Tryz.prog Tryz.f3 false true false false) := by
  refine returnsInHanded_of_cond_sized (C := Tryz.checked) (s := Rows.OpenSpec.upto Rows.cashRestoresSpec) (k := Rows.uptoSmall) rfl own started (by kernel_rfl) Tryz.func3
    (OpenSpec.witness (enc := enc) (C := Tryz.checked) (s := Rows.OpenSpec.upto Rows.cashRestoresSpec) (k := Rows.uptoSmall) rfl false ⟨#[], #[.int .i64 0, .slice none 0 0, .slice none 0 0], []⟩ 8 (by kernel_rfl) (by kernel_rfl) (by kernel_rfl)
      (x := ([.lit (.int .i64 0), .nil, .nil], [], [])) (by kernel_rfl) rfl (by kernel_rfl)) ?_
  intro W base args ds gs before hval hW _ hk hsz _
  exact contract H enc W base args ds gs before hval hW hk hsz

/-- THE STATEMENT. -/
theorem proved : Rows.CashRestoresUptoSaid :=
  OpenClaim.holds_of_cond 3 Tryz.f3 rfl rfl rfl rfl rfl rfl rfl ⟨rfl, rfl, rfl, rfl, rfl⟩ rfl rfl rfl rfl rfl (by kernel_rfl) Tryz.func3 (by kernel_rfl)
    (of_decide_eq_true (by kernel_rfl)) (by unfold Func.isWrapper; rw [if_neg (of_decide_eq_false (by kernel_rfl))]; exact ⟨rfl, rfl⟩)
    (fun os started H enc _ F => lifted os started H enc F)
#print axioms proved
end Go.Proofs.YthdmbbfppgenlaaGreat.lawCashRestores
