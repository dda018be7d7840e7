/-
  The ledger's laws: wakes; sums that are compared.
-/
import Derived.Test.YtjlfhfhckomalaaPosting
import Derived.Test.YtjlfhfhckomalaaAggSame
namespace Go.Proofs.Ytjlfhfhckomalaa
open Go.RowKit Go.WideShapes Go.ChangeShapes Go.ChangeAt Go.Deep
set_option linter.unusedVariables false

theorem isAgg_acc (w : World) : (isAgg 33).run Try.prog w = .ok false w := by kernel_rfl
theorem isAgg_i64 (w : World) : (isAgg 2).run Try.prog w = .ok false w := by kernel_rfl
theorem same_sm (x : Sm) (w : World) : (Op.equalIn 10000 35 (.agg #[.int .i64 x.c, .int .i64 x.a, .int .i64 x.n]) (.agg #[.int .i64 x.c, .int .i64 x.a, .int .i64 x.n])).run Try.prog w = .ok true w := by
  refine agg_same (L := [(3, 0), (33, 1), (2, 2)]) (by kernel_rfl) (by kernel_rfl) (by kernel_rfl) ?_ w
  intro q hq
  simp only [List.mem_cons, List.not_mem_nil, or_false] at hq
  rcases hq with rfl | rfl | rfl
  · exact sameAt_int Try.underlying3 isAgg_int rfl
  · exact sameAt_int Try.underlying33 isAgg_acc rfl
  · exact sameAt_int Try.underlying2 isAgg_i64 rfl
theorem guard_sm : Try.prog.eqGuardType Try.prog.depth 35 = false := by kernel_rfl

theorem IsLed.row {w w' : World} {X B : Nat} {f : Fn} {d : Int} {base : Nat} {e : TypeId} {size n : Nat} {v : Value} {xs : List Value} (h : IsLed w X B f d) (ho : w.ownsRow base e size v n xs) (hg : w.grownBy w' v.ownBlock) (hne : e ≠ 61) : IsLed w' X B f d :=
  ⟨h.blk.grown hg (fun e => own_notBlk ho h.blk hne e.symm), by obtain ⟨m, a, b⟩ := h.map; exact ⟨m, a.grown hg (fun e => a.notOwn ho e), b⟩, h.inv⟩
theorem IsLed.sep {w : World} {X B : Nat} {f : Fn} {d : Int} {base : Nat} {e : TypeId} {size n : Nat} {v : Value} {xs : List Value} (h : IsLed w X B f d) (ho : w.ownsRow base e size v n xs) (hne : e ≠ 61) : ∀ g, v.ownBlock = some g → ¬ XB X B g := fun g hg hk =>
  hk.elim (fun e1 => own_notBlk ho h.blk hne (by rw [hg, e1])) (fun e1 => (h.map.choose_spec.1).notOwn ho (by rw [hg, e1]))
theorem touch_below {w w1 w2 : World} {X B : Nat} (hb : Below w.heap.size w w1) (ht : Touch (XB X B) w1 w2) (hX : w.heap.size ≤ X) (hB : w.heap.size ≤ B) : Below w.heap.size w w2 :=
  hb.trans (ht.below hb.size (fun k hk => by rcases hk with h | h <;> omega))
theorem OkPo.far {w : World} {p : Po} (h : OkPo w p) {X B : Nat} (hX : w.heap.size ≤ X) (hB : w.heap.size ≤ B) : p.es ≠ [] → ∀ b, p.A.map (·.block) = some b → ¬ XB X B b := by
  intro hne b hb hk
  have := h.rd.old (by
    intro e
    have hl := length_flatMap_const enE 2 enE_len p.es
    rw [e] at hl
    have : p.es.length ≠ 0 := fun e0 => hne (List.eq_nil_of_length_eq_zero e0)
    simp at hl
    omega) b hb
  rcases hk with h1 | h1 <;> omega

theorem rd_new (w : World) (es : List En) (cs : Array Value) (hcs : cs.toList = es.flatMap enE) : Rd (w.alloc (.cells cs 47)) (some ⟨w.heap.size, 0, none⟩) (es.flatMap enE) := by
  right
  refine ⟨w.heap.size, 0, rfl, by simp, fun j u hu => ?_⟩
  rw [Nat.zero_add, (Blk.new w _ cs).cell]
  rw [← hcs] at hu
  simpa using hu

set_option maxRecDepth 100000 in
set_option maxHeartbeats 4000000 in
theorem wakes_any (hS : SortsL) (w : World) : Calls Try.prog 9 #[] w (Law w) := by
  have k1 : postC 0 1 [⟨1, 120⟩, ⟨2, -100⟩, ⟨3, -20⟩] = 0 := by decide +kernel
  have k2 : balF (addF f0 1 [⟨1, 120⟩, ⟨2, -100⟩, ⟨3, -20⟩]) 1 = 120 := by decide +kernel
  have k3 : addF f0 1 [⟨1, 120⟩, ⟨2, -100⟩, ⟨3, -20⟩] (1, 3) = -20 := by decide +kernel
  have k4 : ∀ d, postC d 1 [⟨0, 5⟩] = 160 := fun d => by
    unfold postC
    rw [if_pos (by decide +kernel), if_pos (by decide +kernel)]
  have K := hid (And.intro k1 (And.intro k2 (And.intro k3 k4)))
  clear k1 k2 k3 k4
  go_enter Try.func9, Try.ntmps9
  go_wp2_with fail
  refine (lnew_any _).mono ?_
  rintro e w1 ⟨X, B, rfl, hB, hX, h, hb⟩
  have P1 := hid (lpost_any 1 [⟨1, 120⟩, ⟨2, -100⟩, ⟨3, -20⟩] (some ⟨w1.heap.size, 0, none⟩) 3 _ (h.next ((Below.refl _ _).alloc (Nat.le_refl _) (.cells #[.int .i64 1, .int .i64 120, .int .i64 2, .int .i64 (-100), .int .i64 3, .int .i64 (-20)] 47))) (rd_new w1 _ _ rfl) (by decide) (fun _ b hb hk => by
    simp at hb
    have h1 := h.blk.lt
    obtain ⟨m, h2, _⟩ := h.map
    have h2 := h2.lt
    rcases hk with h3 | h3 <;> omega))
  have hb1 := hb.alloc hb.size (.cells #[.int .i64 1, .int .i64 120, .int .i64 2, .int .i64 (-100), .int .i64 3, .int .i64 (-20)] 47)
  clear h hb
  go_wp2_with fail
  refine P1.out.mono ?_
  rintro e w2 ⟨rfl, h2, ht⟩
  unfold nextF nextD at h2
  rw [if_pos K.out.1, if_pos K.out.1] at h2
  rw [K.out.1]
  replace hb1 := touch_below hb1 ht hX hB
  have B1 := hid (lbal_any hS 1 w2 h2)
  rw [K.out.2.1] at B1
  clear P1 ht
  go_wp2_with fail
  refine B1.out.mono ?_
  rintro e w3 ⟨rfl, hb3⟩
  replace h2 := h2.next hb3
  replace hb1 := bthen hb1 hb3
  have O1 := hid (lof_any 1 3 w3 h2)
  rw [K.out.2.2.1] at O1
  clear B1 hb3
  go_wp2_with fail
  refine O1.out.mono ?_
  rintro e w4 ⟨rfl, hb4⟩
  replace h2 := h2.next hb4
  replace hb1 := bthen hb1 hb4
  have P2 := hid (lpost_any 1 [⟨0, 5⟩] (some ⟨w4.heap.size, 0, none⟩) 1 _ (h2.next ((Below.refl _ _).alloc (Nat.le_refl _) (.cells #[.int .i64 0, .int .i64 5] 47))) (rd_new w4 _ _ rfl) (by decide) (fun _ b hb hk => by
    simp at hb
    have h1 := h2.blk.lt
    obtain ⟨m, h2, _⟩ := h2.map
    have h2 := h2.lt
    rcases hk with h3 | h3 <;> omega))
  have hb5 := hb1.alloc hb1.size (.cells #[.int .i64 0, .int .i64 5] 47)
  clear O1 h2 hb4 hb1
  go_wp2_with fail
  refine P2.out.mono ?_
  rintro e w5 ⟨rfl, h5, ht⟩
  rw [K.out.2.2.2]
  replace hb5 := touch_below hb5 ht hX hB
  clear P2 ht h5 K
  go_wp2_with fail
  go_ret
  exact ⟨rfl, hb5⟩

end Go.Proofs.Ytjlfhfhckomalaa
