/-
  Contracts of the reference's postings and of 'same'.
-/
import Derived.Test.YtphkhcndmmbbmaaPost2
namespace Go.Proofs.Ytphkhcndmmbbmaa
open Go.RowKit

theorem info_rentry : (Try.prog.info? 55).map (fun i => (i.zero, i.size, i.bytes)) = some (some (.agg #[.int .i64 0, .int .i64 0]), 2, 16) := by kernel_rfl

/-- A slice of the reference's entries that the call owns. -/
def Own (w : World) (base : Nat) (v : Value) (xs : List (Int × Int)) : Prop := w.ownsRow base 55 2 v xs.length (xs.flatMap en2)

set_option maxHeartbeats 400000 in
theorem with_any (base : Nat) (v : Value) (xs : List (Int × Int)) (c m : Int) (w : World) (hO : Own w base v xs) (hbase : base ≤ w.heap.size) (hlen : xs.length ≤ 100) :
    Calls Try.prog 24 #[v, .int .i64 c, .int .i64 m] w fun e w' => ∃ v', e = .returned v' ∧ Own w' base v' (xs ++ some0 [(c, m)]) ∧ Below base w w' := by
  obtain ⟨i0, hi, hz0, hz1, hz2⟩ := info_parts info_rentry
  have hown : w.ownsRow base 55 2 v xs.length (xs.flatMap en2) := hO
  by_cases h0 : m = 0
  · have HK : Hid (xs ++ some0 [(c, m)] = xs) := hid (by simp [some0, h0])
    have hb0 : (m == 0) = true := by simp [h0]
    clear h0
    go_enter Try.func24, Try.ntmps24
    go_wp2
    go_ret
    exact ⟨v, rfl, by rw [HK.out]; exact hO, Below.refl _ _⟩
  · have HK : Hid (some0 [(c, m)] = [(c, m)]) := hid (by simp [some0, h0])
    have hb0 : (m == 0) = false := by simp [h0]
    clear h0
    go_enter Try.func24, Try.ntmps24
    go_wp2_with (first
      | (at_builtin; refine wpList_append_own _ rfl _ _ 47 rfl base 55 i0 _ 2 16 Try.underlying47 hi hz0 hz1 hz2 rfl (by decide) _ _ _ rfl (hown.alloc _) ⟨w.heap.size, 0, none⟩ 1 1 (en2 (c, m)) rfl rfl ?c1 ?c2 ?c3 ?c4 ?c5 ?_))
    case c1 =>
      intro j u hj
      match j, hj with
      | 0, hj => simp [en2] at hj; subst hj; simp [Addr.add]
      | 1, hj => simp [en2] at hj; subst hj; simp [Addr.add]
    case c2 => intro u hu; simp [en2] at hu; rcases hu with rfl | rfl <;> rfl
    case c3 => unfold maxLen; omega
    case c4 => omega
    case c5 => simp; omega
    intro v' w1 hown' hgrow _
    go_wp2
    go_ret
    refine ⟨v', rfl, ?_, ((Below.refl _ _).alloc hbase _).grown hgrow (by simp; omega) (fun g hg => (hown.lt g hg).1)⟩
    rw [HK.out]
    unfold Own
    simpa using hown'

/-- What a posting of the reference leaves. -/
def RPosts (es : List (Int × Int)) (w : World) (e : Ending) (w' : World) : Prop :=
  ∃ A cap, e = .returned (.slice A (some0 es).length cap) ∧ Rd w' A ((some0 es).flatMap en2) ∧ Below w.heap.size w w'

theorem some0_append (a b : List (Int × Int)) : some0 (a ++ b) = some0 a ++ some0 b := by simp [some0]
theorem some0_le (a : List (Int × Int)) : (some0 a).length ≤ a.length := List.length_filter_le _ _

set_option maxHeartbeats 400000 in
theorem rinvoice_any (n t : Int) (w : World) : Calls Try.prog 18 #[.int .i64 n, .int .i64 t] w (RPosts (invoiceL n t) w) := by
  go_enter Try.func18, Try.ntmps18
  go_wp2_with fail
  refine (with_any w.heap.size _ [] _ _ _ (World.ownsRow_nil _ _ _ _) (Nat.le_refl _) (by simp)).mono ?_
  rintro e w1 ⟨v1, rfl, O1, hb1⟩
  go_wp2_with fail
  refine (with_any w.heap.size _ _ _ _ _ O1 hb1.size (by have := some0_le [((1 : Int), wrap64 (n + t))]; simp at this ⊢; omega)).mono ?_
  rintro e w2 ⟨v2, rfl, O2, hb2⟩
  have hb := hb1.trans hb2
  go_wp2_with fail
  refine (with_any w.heap.size _ _ _ _ _ O2 hb.size (by have := some0_le [((1 : Int), wrap64 (n + t))]; have := some0_le [((2 : Int), wrap64 (-n))]; simp at *; omega)).mono ?_
  rintro e w3 ⟨v3, rfl, O3, hb3⟩
  have hb := hb.trans hb3
  go_wp2
  go_ret
  have he : [] ++ some0 [(1, wrap64 (n + t))] ++ some0 [(2, wrap64 (-n))] ++ some0 [(3, wrap64 (-t))] = some0 (invoiceL n t) := by
    rw [List.nil_append, ← some0_append, ← some0_append]; rfl
  rw [he] at O3
  obtain ⟨A, cap, rfl, hR⟩ := Rd.of_own O3
  exact ⟨A, cap, rfl, hR, hb⟩

set_option maxHeartbeats 400000 in
theorem rmove_any (c d n : Int) (w : World) : Calls Try.prog 21 #[.int .i64 c, .int .i64 d, .int .i64 n] w (RPosts (moveL c d n) w) := by
  go_enter Try.func21, Try.ntmps21
  go_wp2_with fail
  refine (with_any w.heap.size _ [] _ _ _ (World.ownsRow_nil _ _ _ _) (Nat.le_refl _) (by simp)).mono ?_
  rintro e w1 ⟨v1, rfl, O1, hb1⟩
  go_wp2_with fail
  refine (with_any w.heap.size _ _ _ _ _ O1 hb1.size (by have := some0_le [(c, n)]; simp at this ⊢; omega)).mono ?_
  rintro e w2 ⟨v2, rfl, O2, hb2⟩
  have hb := hb1.trans hb2
  go_wp2
  go_ret
  have he : [] ++ some0 [(c, n)] ++ some0 [(d, wrap64 (-n))] = some0 (moveL c d n) := by
    rw [List.nil_append, ← some0_append]; rfl
  rw [he] at O2
  obtain ⟨A, cap, rfl, hR⟩ := Rd.of_own O2
  exact ⟨A, cap, rfl, hR, hb⟩

set_option maxHeartbeats 400000 in
theorem rmemo_any (n t a r : Int) (w : World) : Calls Try.prog 20 #[.int .i64 n, .int .i64 t, .int .i64 a, .int .i64 r] w (RPosts (memoL n t a r) w) := by
  have hw : wrap64 (wrap64 (wrap64 (a + r) - n) - t) = wrap64 (-wrap64 (wrap64 (wrap64 (n + t) - a) - r)) := by unfold wrap64; omega
  have HW := hid hw
  clear hw
  go_enter Try.func20, Try.ntmps20
  go_wp2_with fail
  refine (with_any w.heap.size _ [] _ _ _ (World.ownsRow_nil _ _ _ _) (Nat.le_refl _) (by simp)).mono ?_
  rintro e w1 ⟨v1, rfl, O1, hb1⟩
  have l1 := some0_le [((2 : Int), n)]
  have L1 : ([] ++ some0 [((2 : Int), n)]).length ≤ 1 := by simpa using l1
  go_wp2_with fail
  refine (with_any w.heap.size _ _ _ _ _ O1 hb1.size (by omega)).mono ?_
  rintro e w2 ⟨v2, rfl, O2, hb2⟩
  have hb := hb1.trans hb2
  have L2 : ([] ++ some0 [((2 : Int), n)] ++ some0 [(3, t)]).length ≤ 2 := by have := some0_le [((3 : Int), t)]; rw [List.length_append]; simp at *; omega
  go_wp2_with fail
  refine (with_any w.heap.size _ _ _ _ _ O2 hb.size (by omega)).mono ?_
  rintro e w3 ⟨v3, rfl, O3, hb3⟩
  have hb := hb.trans hb3
  rw [← HW.out] at O3
  have L3 : ([] ++ some0 [((2 : Int), n)] ++ some0 [(3, t)] ++ some0 [(1, wrap64 (wrap64 (wrap64 (a + r) - n) - t))]).length ≤ 3 := by
    have := some0_le [((1 : Int), wrap64 (wrap64 (wrap64 (a + r) - n) - t))]; rw [List.length_append]; simp at *; omega
  go_wp2_with fail
  refine (with_any w.heap.size _ _ _ _ _ O3 hb.size (by omega)).mono ?_
  rintro e w4 ⟨v4, rfl, O4, hb4⟩
  have hb := hb.trans hb4
  have L4 : ([] ++ some0 [((2 : Int), n)] ++ some0 [(3, t)] ++ some0 [(1, wrap64 (wrap64 (wrap64 (a + r) - n) - t))] ++ some0 [(4, wrap64 (-a))]).length ≤ 4 := by
    have := some0_le [((4 : Int), wrap64 (-a))]; rw [List.length_append]; simp at *; omega
  go_wp2_with fail
  refine (with_any w.heap.size _ _ _ _ _ O4 hb.size (by omega)).mono ?_
  rintro e w5 ⟨v5, rfl, O5, hb5⟩
  have hb := hb.trans hb5
  go_wp2
  go_ret
  have he : [] ++ some0 [(2, n)] ++ some0 [(3, t)] ++ some0 [(1, wrap64 (wrap64 (wrap64 (a + r) - n) - t))] ++ some0 [(4, wrap64 (-a))] ++ some0 [(5, wrap64 (-r))] = some0 (memoL n t a r) := by
    rw [List.nil_append, ← some0_append, ← some0_append, ← some0_append, ← some0_append]; rfl
  rw [he] at O5
  obtain ⟨A, cap, rfl, hR⟩ := Rd.of_own O5
  exact ⟨A, cap, rfl, hR, hb⟩

set_option maxHeartbeats 400000 in
theorem same_any (xs : List (Int × Int)) (A B : Option Addr) (c d : Nat) (w : World) (hl : xs.length ≤ 1000000) (hA : Rd w A (xs.flatMap en2)) (hB : Rd w B (xs.flatMap en2)) :
    Calls Try.prog 16 #[.slice A xs.length c, .slice B xs.length d] w (Law w) := by
  go_enter Try.func16, Try.ntmps16
  go_wp2
  go_loopw [5, 13] (fun _ i wr => ∃ k : Nat, k ≤ xs.length ∧ i = .int .i64 k ∧ Below w.heap.size w wr) (fun _ i _ => xs.length - (intOf i).toNat)
  case atStart => exact ⟨0, Nat.zero_le _, rfl, Below.refl _ _⟩
  case round =>
    obtain ⟨k, hk, rfl, hb⟩ := hrel
    by_cases hlt : k < xs.length
    · obtain ⟨x, hx⟩ : ∃ x, xs[k]? = some x := ⟨xs[k], List.getElem?_eq_getElem hlt⟩
      obtain ⟨b1, off1, rfl, hbs1, hc1⟩ := hA.at_ 2 en2_len (by omega) hx
      obtain ⟨b2, off2, rfl, hbs2, hc2⟩ := hB.at_ 2 en2_len (by omega) hx
      have hq := hc1 0 _ rfl
      have hp := hc1 1 _ rfl
      have rq := hc2 0 _ rfl
      have rp := hc2 1 _ rfl
      rw [← hb.cell (p := ⟨b1, _, none⟩) hbs1] at hq hp
      rw [← hb.cell (p := ⟨b2, _, none⟩) hbs2] at rq rp
      simp only [Nat.add_zero] at hq rq
      clear hc1 hc2 hA hB
      have i0 : (0 : Int) ≤ k := by omega
      have i1 : (k : Int) < xs.length := by omega
      have e1 : (x.1 != x.1) = false := by simp
      have e2 : (x.2 != x.2) = false := by simp
      go_wp2
      go_quiet (fail)
      go_wp2
      go_roundw
      case rel => exact ⟨k + 1, by omega, by go_num, below_drewN hb _⟩
      case measure => simp [intOf]; omega
    · go_wp2
      go_ret
      exact ⟨rfl, hb⟩
end Go.Proofs.Ytphkhcndmmbbmaa
