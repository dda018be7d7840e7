/-
  Timers: the laws' wakes; small words.
-/
import Derived.Test.YthlpcbpilfakmaaTimReady
import Derived.Test.YthlpcbpilfakmaaAggSame
namespace Go.Proofs.Ythlpcbpilfakmaa
open Go.RowKit Go.WideShapes Go.ChangeShapes Go.ChangeAt Go.Deep
set_option linter.unusedVariables false

theorem isAgg_bool (w : World) : (isAgg 4).run Try.prog w = .ok false w := by kernel_rfl
theorem same_tm (x : Tm) (w : World) : (Op.equalIn 10000 30 (.agg #[.int .i64 x.d, .int .i64 x.o, .int .i64 x.s]) (.agg #[.int .i64 x.d, .int .i64 x.o, .int .i64 x.s])).run Try.prog w = .ok true w := by
  refine agg_same (L := [(3, 0), (3, 1), (3, 2)]) (by kernel_rfl) (by kernel_rfl) (by kernel_rfl) ?_ w
  intro q hq
  simp only [List.mem_cons, List.not_mem_nil, or_false] at hq
  rcases hq with rfl | rfl | rfl
  · exact sameAt_int Try.underlying3 isAgg_int rfl
  · exact sameAt_int Try.underlying3 isAgg_int rfl
  · exact sameAt_int Try.underlying3 isAgg_int rfl
theorem guard_tm : Try.prog.eqGuardType Try.prog.depth 30 = false := by kernel_rfl

set_option maxRecDepth 100000 in
set_option maxHeartbeats 4000000 in
theorem wakes_any (hS : SortsT) (w : World) : Calls Try.prog 9 #[] w (Law w) := by
  go_enter Try.func9, Try.ntmps9
  go_wp2_with fail
  refine (tnew_some _).mono ?_
  rintro e w1 ⟨X, B, rfl, hB, hX, h, hb⟩
  go_wp2_with fail
  refine (set_any _ _ _ _ h).mono ?_
  rintro e w2 ⟨rfl, h2, hg⟩
  replace hb := hb.trans (grown_below hg hb.size hB)
  clear h hg
  go_wp2_with fail
  refine (set_any _ _ _ _ h2).mono ?_
  rintro e w3 ⟨rfl, h3, hg⟩
  replace hb := hb.trans (grown_below hg hb.size hB)
  clear h2 hg
  go_wp2_with fail
  refine (set_any _ _ _ _ h3).mono ?_
  rintro e w4 ⟨rfl, h4, hg⟩
  replace hb := hb.trans (grown_below hg hb.size hB)
  clear h3 hg
  have hm : mset (mset (mset ([] : TMap) (2, 0) 5) (1, 3) 5) (2, 0) 4 = [((2, 0), 4), ((1, 3), 5)] := by decide +kernel
  rw [hm] at h4
  clear hm
  go_wp2_with fail
  refine (ready_any hS 5 9 w4 h4 (by decide)).mono ?_
  rintro e w5 ⟨A, cap, l, rfl, hT, hO, hb5⟩
  have hl : l = [⟨4, 2, 0⟩, ⟨5, 1, 3⟩] := hT.unique (TRel.mk hT.nd (by
    refine List.pairwise_cons.2 ⟨fun y hy => ?_, List.pairwise_singleton _ _⟩
    simp only [List.mem_cons, List.not_mem_nil, or_false] at hy
    subst hy
    decide +kernel) (List.Perm.refl _))
  subst hl
  have hr : rdyN [⟨4, 2, 0⟩, ⟨5, 1, 3⟩] 5 9 = 2 := by decide +kernel
  rw [hr]
  obtain ⟨g, cap', e', hbg, hgl⟩ := own_form hO (by decide)
  injection e' with e1 e2 e3
  subst e1 e3
  have q0 : w5.cell? ⟨g, 0, none⟩ = some (.int .i64 4) := own_cells (k := 0) (j := 0) en3_len hO rfl rfl
  have q1 : w5.cell? ⟨g, 1, none⟩ = some (.int .i64 2) := own_cells (k := 0) (j := 1) en3_len hO rfl rfl
  have q2 : w5.cell? ⟨g, 2, none⟩ = some (.int .i64 0) := own_cells (k := 0) (j := 2) en3_len hO rfl rfl
  have h5 := h4.next hb5
  replace hb := bthen hb hb5
  have hse := same_tm ⟨4, 2, 0⟩
  have hgd := guard_tm
  simp only at hse
  clear hT hO hr h4 hb5 hbg hgl e2
  go_wp2_with fail
  refine (cancel_any 1 3 _ h5).mono ?_
  rintro e w6 ⟨rfl, h6, hg⟩
  have hm1 : (mget ([((2, 0), 4), ((1, 3), 5)] : TMap) (1, 3)).isSome = true := by decide +kernel
  have hm2 : mdel ([((2, 0), 4), ((1, 3), 5)] : TMap) (1, 3) = [((2, 0), 4)] := by decide +kernel
  rw [hm2] at h6
  rw [hm1]
  replace hb := hb.trans (grown_below hg hb.size hB)
  clear h5 hg hm1 hm2 q0 q1 q2 hse hgd
  go_wp2_with fail
  refine (cancel_any 1 3 _ h6).mono ?_
  rintro e w7 ⟨rfl, h7, hg⟩
  have hm1 : (mget ([((2, 0), 4)] : TMap) (1, 3)).isSome = false := by decide +kernel
  rw [hm1]
  replace hb := hb.trans (grown_below hg hb.size hB)
  clear h6 hg hm1 h7
  go_wp2_with fail
  go_ret
  exact ⟨by simp, hb⟩

end Go.Proofs.Ythlpcbpilfakmaa
