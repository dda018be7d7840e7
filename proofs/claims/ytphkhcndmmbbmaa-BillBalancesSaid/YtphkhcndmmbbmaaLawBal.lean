/-
  The walk of the law BillBalances.
-/
import Derived.Test.YtphkhcndmmbbmaaLawPosts
import Derived.Test.YtphkhcndmmbbmaaLawMoves
namespace Go.Proofs.Ytphkhcndmmbbmaa
open Go.RowKit

theorem wrap_l (a b : Int) : wrap64 (wrap64 a + b) = wrap64 (a + b) := by unfold wrap64; omega
theorem wrap_r (a b : Int) : wrap64 (a + wrap64 b) = wrap64 (a + b) := by unfold wrap64; omega
theorem wrap_sub (a b : Int) : wrap64 (wrap64 a - b) = wrap64 (a - b) := by unfold wrap64; omega
theorem wrap_ok (a : Int) : I64 (wrap64 a) := wrap64_wf a

/-- The sum of a posting, as int64 adds; and what it does to Receivable. -/
def sumF (s : Int) (l : List (Int × Int)) : Int := l.foldl (fun s y => wrap64 (s + y.2)) s
def recF (r : Int) (l : List (Int × Int)) : Int := l.foldl (fun r y => if y.1 = 1 then wrap64 (r + y.2) else r) r

theorem sumF_some0 (l : List (Int × Int)) : ∀ s, I64 s → sumF s (some0 l) = sumF s l := by
  induction l with
  | nil => intro s _; rfl
  | cons x l ih =>
    intro s hs
    by_cases h0 : x.2 = 0
    · rw [show some0 (x :: l) = some0 l from by simp [some0, h0], ih s hs]
      show _ = sumF (wrap64 (s + x.2)) l
      rw [h0, Int.add_zero, wrap64_fix s hs]
    · rw [show some0 (x :: l) = x :: some0 l from by simp [some0, h0]]
      exact ih _ (wrap_ok _)
theorem recF_some0 (l : List (Int × Int)) : ∀ s, I64 s → recF s (some0 l) = recF s l := by
  induction l with
  | nil => intro s _; rfl
  | cons x l ih =>
    intro s hs
    have hs' : I64 (if x.1 = 1 then wrap64 (s + x.2) else s) := by split; exact wrap_ok _; exact hs
    by_cases h0 : x.2 = 0
    · rw [show some0 (x :: l) = some0 l from by simp [some0, h0], ih s hs]
      show _ = recF (if x.1 = 1 then wrap64 (s + x.2) else s) l
      rw [h0, Int.add_zero, wrap64_fix s hs, ite_self]
    · rw [show some0 (x :: l) = x :: some0 l from by simp [some0, h0]]
      exact ih _ hs'
theorem recF_ok (l : List (Int × Int)) : ∀ s, I64 s → I64 (recF s l) := by
  induction l with
  | nil => intro s hs; exact hs
  | cons x l ih =>
    intro s hs
    refine ih _ ?_
    show I64 (if x.1 = 1 then wrap64 (s + x.2) else s)
    split
    · exact wrap_ok _
    · exact hs
theorem recF_append (s : Int) (a b : List (Int × Int)) : recF s (a ++ b) = recF (recF s a) b := by simp [recF]
theorem recF_snoc (s : Int) (a : List (Int × Int)) (x : Int × Int) : recF s (a ++ [x]) = if x.1 = 1 then wrap64 (recF s a + x.2) else recF s a := by simp [recF]
theorem sumF_snoc (s : Int) (a : List (Int × Int)) (x : Int × Int) : sumF s (a ++ [x]) = wrap64 (sumF s a + x.2) := by simp [sumF]

def sixL (n t a r : Int) : List (List (Int × Int)) := [some0 (invoiceL n t), some0 (moveL 0 4 a), some0 (moveL 4 1 a), some0 (moveL 5 1 r), some0 (memoL n t a r), some0 (moveL 4 0 a)]

theorem zero_ok : I64 0 := by unfold I64; decide
theorem wrap_zero : wrap64 0 = 0 := by decide +kernel

theorem six_sum (n t a r : Int) : ∀ l ∈ sixL n t a r, sumF 0 l = 0 ∧ (∀ y ∈ l, (y.2 == 0) = false) ∧ l.length ≤ 5 := by
  have hz : ∀ l : List (Int × Int), ∀ y ∈ some0 l, (y.2 == 0) = false := fun l y hy => by
    have := (List.mem_filter.1 hy).2
    simpa using this
  intro l hl
  simp only [sixL, List.mem_cons, List.not_mem_nil, or_false] at hl
  rcases hl with rfl | rfl | rfl | rfl | rfl | rfl
  all_goals refine ⟨?_, hz _, Nat.le_trans (some0_le _) (by simp [invoiceL, moveL, memoL])⟩
  all_goals rw [sumF_some0 _ 0 zero_ok]
  all_goals simp only [sumF, invoiceL, moveL, memoL, List.foldl_cons, List.foldl_nil, wrap_l, wrap_r, wrap_sub, Int.zero_add]
  all_goals rw [← wrap_zero]; congr 1; omega

theorem six_rec (n t a r : Int) : recF 0 (sixL n t a r).flatten = 0 := by
  simp only [sixL, List.flatten_cons, List.flatten_nil, List.append_nil, recF_append]
  have e : ∀ s l, I64 s → recF s (some0 l) = recF s l := fun s l h => recF_some0 l s h
  rw [e 0 _ zero_ok, e _ _ (recF_ok _ _ zero_ok), e _ _ (recF_ok _ _ (recF_ok _ _ zero_ok)), e _ _ (recF_ok _ _ (recF_ok _ _ (recF_ok _ _ zero_ok))),
    e _ _ (recF_ok _ _ (recF_ok _ _ (recF_ok _ _ (recF_ok _ _ zero_ok)))), e _ _ (recF_ok _ _ (recF_ok _ _ (recF_ok _ _ (recF_ok _ _ (recF_ok _ _ zero_ok)))))]
  simp only [recF, invoiceL, moveL, memoL, List.foldl_cons, List.foldl_nil]
  simp [wrap_l, wrap_r, wrap_sub]
  rw [← wrap_zero]; congr 1; omega

theorem Held4.alloc {w w1 : World} {n t a r : Int} (h : Held4 w n t a r w1) (o : Obj) : Held4 w n t a r (w1.alloc o) := ⟨h.1.alloc o, h.2.alloc h.2.size o⟩

set_option maxHeartbeats 4000000 in
theorem billBalances_walk (x : Quad) (w : World) :
    Calls Try.prog 8 #[.agg (en4 x).toArray] w (Law w) := by
  obtain ⟨n, t, a, r⟩ := x
  show Calls Try.prog 8 #[.agg #[.int .i64 n, .int .i64 t, .int .i64 a, .int .i64 r]] w (Law w)
  have B0 : Held4 w n t a r (w.alloc (.cells #[.int .i64 n, .int .i64 t, .int .i64 a, .int .i64 r] 44)) := ⟨Blk.new _ _ _, (Below.refl _ _).alloc (Nat.le_refl _) _⟩
  generalize hW : w.alloc (.cells #[.int .i64 n, .int .i64 t, .int .i64 a, .int .i64 r] 44) = W at B0
  go_enter Try.func8, Try.ntmps8
  go_wp2_with fail
  refine (wakes_any _).mono ?_
  rintro e w0 ⟨rfl, hb⟩
  have B1 := B0.next hb
  obtain ⟨c0, c1, c2, c3⟩ := B1.cells
  have B2 : Held4 w n t a r w0.drew := ⟨B1.1, B1.2.drew⟩
  clear hW hb B0
  go_wp2_with fail
  go_region_held3 (fun w' => w'.cell? ⟨w.heap.size, 0, none⟩ = some (.int .i64 n) ∧ w'.cell? ⟨w.heap.size, 1, none⟩ = some (.int .i64 t) ∧ w'.cell? ⟨w.heap.size, 2, none⟩ = some (.int .i64 a) ∧ w'.cell? ⟨w.heap.size, 3, none⟩ = some (.int .i64 r))
    (first | exact Held4.cells (by assumption) | exact Held4.cells (Held4.alloc (by assumption) _))
    (first
      | (go_at_call 17; refine (invoice_any _ _ _).mono ?_; rintro e v0 ⟨A0, p0, rfl, R0, hb0⟩; have := Held4.next (by assumption) hb0)
      | (go_at_call 12; refine (receipt_any _ _).mono ?_; rintro e v1 ⟨A1, p1, rfl, R1, hb1⟩; have := Held4.next (by assumption) hb1)
      | (go_at_call 14; refine (apply_any _ _).mono ?_; rintro e v2 ⟨A2, p2, rfl, R2, hb2⟩; have := Held4.next (by assumption) hb2)
      | (go_at_call 15; refine (loss_any _ _).mono ?_; rintro e v3 ⟨A3, p3, rfl, R3, hb3⟩; have := Held4.next (by assumption) hb3)
      | (go_at_call 19; refine (memo_any _ _ _ _ _).mono ?_; rintro e v4 ⟨A4, p4, rfl, R4, hb4⟩; have := Held4.next (by assumption) hb4)
      | (go_at_call 13; refine (refund_any _ _).mono ?_; rintro e v5 ⟨A5, p5, rfl, R5, hb5⟩; have := Held4.next (by assumption) hb5))
  have hb := this.2
  have hR : Rows2 v5 #[.slice A0 (some0 (invoiceL n t)).length p0, .slice A1 (some0 (moveL 0 4 a)).length p1, .slice A2 (some0 (moveL 4 1 a)).length p2, .slice A3 (some0 (moveL 5 1 r)).length p3, .slice A4 (some0 (memoL n t a r)).length p4, .slice A5 (some0 (moveL 4 0 a)).length p5] (sixL n t a r) := by
    intro j l hl
    match j, hl with
    | 0, hl => simp [sixL] at hl; subst hl; exact ⟨A0, p0, rfl, ((((R0.below hb1).below hb2).below hb3).below hb4).below hb5⟩
    | 1, hl => simp [sixL] at hl; subst hl; exact ⟨A1, p1, rfl, (((R1.below hb2).below hb3).below hb4).below hb5⟩
    | 2, hl => simp [sixL] at hl; subst hl; exact ⟨A2, p2, rfl, ((R2.below hb3).below hb4).below hb5⟩
    | 3, hl => simp [sixL] at hl; subst hl; exact ⟨A3, p3, rfl, (R3.below hb4).below hb5⟩
    | 4, hl => simp [sixL] at hl; subst hl; exact ⟨A4, p4, rfl, R4.below hb5⟩
    | 5, hl => simp [sixL] at hl; subst hl; exact ⟨A5, p5, rfl, R5⟩
  have hF := six_sum n t a r
  have HR := hid (six_rec n t a r)
  have HF6 := hid (show (sixL n t a r).length = 6 from rfl)
  clear R0 R1 R2 R3 R4 R5 hb0 hb1 hb2 hb3 hb4 hb5
  generalize (some0 (invoiceL n t)).length = L0 at *
  generalize (some0 (moveL 0 4 a)).length = L1 at *
  generalize (some0 (moveL 4 1 a)).length = L2 at *
  generalize (some0 (moveL 5 1 r)).length = L3 at *
  generalize (some0 (memoL n t a r)).length = L4 at *
  generalize (some0 (moveL 4 0 a)).length = L5 at *
  generalize sixL n t a r = F at *
  have hBlk := Blk.new v5 36 #[.slice A0 L0 p0, .slice A1 L1 p1, .slice A2 L2 p2, .slice A3 L3 p3, .slice A4 L4 p4, .slice A5 L5 p5]
  replace hb := hb.alloc hb.size (.cells #[.slice A0 L0 p0, .slice A1 L1 p1, .slice A2 L2 p2, .slice A3 L3 p3, .slice A4 L4 p4, .slice A5 L5 p5] 36)
  replace hR := hR.mono (w' := v5.alloc (.cells #[.slice A0 L0 p0, .slice A1 L1 p1, .slice A2 L2 p2, .slice A3 L3 p3, .slice A4 L4 p4, .slice A5 L5 p5] 36)) fun A xs h => h.alloc _
  go_wp2
  go_loopw [3, 39] (fun s i wr => ∃ k : Nat, k ≤ 6 ∧ i = .int .i64 k ∧ s = .int .i64 (recF 0 (F.take k).flatten) ∧
      Blk wr v5.heap.size 36 #[.slice A0 L0 p0, .slice A1 L1 p1, .slice A2 L2 p2, .slice A3 L3 p3, .slice A4 L4 p4, .slice A5 L5 p5] ∧ Rows2 wr #[.slice A0 L0 p0, .slice A1 L1 p1, .slice A2 L2 p2, .slice A3 L3 p3, .slice A4 L4 p4, .slice A5 L5 p5] F ∧ Below w.heap.size w wr) (fun _ i _ => 6 - (intOf i).toNat)
  case atStart => exact ⟨0, by omega, rfl, rfl, hBlk, hR, hb⟩
  case round =>
    clear hBlk hR hb
    obtain ⟨k, hk, rfl, rfl, hBlk, hR, hb⟩ := hrel
    by_cases hlt6 : k < 6
    · have hk6 : (k : Int) < 6 := by omega
      obtain ⟨l, hl⟩ : ∃ l, F[k]? = some l := ⟨F[k]'(by rw [HF6.out]; exact hlt6), List.getElem?_eq_getElem (by rw [HF6.out]; exact hlt6)⟩
      obtain ⟨A, c, hcs, hRl⟩ := hR k l hl
      have hc := (hBlk.cell k).trans hcs
      have HS := hid (flat_snoc F k l hl)
      obtain ⟨e1, e2, e3⟩ := hF l (List.mem_of_getElem? hl)
      have E1 := hid e1
      have E2 := hid e2
      clear hcs hl e1 e2 hF
      go_wp2
      go_loopw [3, 6, 45] (fun s u i wi => ∃ j : Nat, j ≤ l.length ∧ i = .int .i64 j ∧ s = .int .i64 (recF (recF 0 (F.take k).flatten) (l.take j)) ∧ u = .int .i64 (sumF 0 (l.take j)) ∧
          Blk wi v5.heap.size 36 #[.slice A0 L0 p0, .slice A1 L1 p1, .slice A2 L2 p2, .slice A3 L3 p3, .slice A4 L4 p4, .slice A5 L5 p5] ∧ Rows2 wi #[.slice A0 L0 p0, .slice A1 L1 p1, .slice A2 L2 p2, .slice A3 L3 p3, .slice A4 L4 p4, .slice A5 L5 p5] F ∧ Rd wi A (l.flatMap en2) ∧ Below w.heap.size w wi) (fun _ _ i _ => l.length - (intOf i).toNat)
      case atStart => exact ⟨0, Nat.zero_le _, rfl, rfl, rfl, hBlk, hR, hRl, hb⟩
      case round =>
        clear hBlk hR hb hRl hc
        obtain ⟨j, hj, rfl, rfl, rfl, hBlk, hR, hRl, hb⟩ := hrel
        by_cases hltj : j < l.length
        · obtain ⟨x, hx⟩ : ∃ x, l[j]? = some x := ⟨l[j], List.getElem?_eq_getElem hltj⟩
          obtain ⟨b, off, rfl, hbs, hcc⟩ := hRl.at_ 2 en2_len (by omega) hx
          have hq := hcc 0 _ rfl
          have hp := hcc 1 _ rfl
          simp only [Nat.add_zero] at hq
          clear hcc
          have HX := hid (take_snoc hx)
          have hx0 := E2.out x (List.mem_of_getElem? hx)
          have hB3 := hBlk.alloc (.cells #[.int .i64 x.1, .int .i64 x.2] 41)
          have hL3 := hRl.alloc (.cells #[.int .i64 x.1, .int .i64 x.2] 41)
          have hr3 := hR.mono (w' := wr.alloc (.cells #[.int .i64 x.1, .int .i64 x.2] 41)) fun A xs h => h.alloc _
          have hb3 := hb.alloc hb.size (.cells #[.int .i64 x.1, .int .i64 x.2] 41)
          clear hBlk hR hb hRl
          cases hx1 : x.1 == 1 with
          | true =>
            have HE : Hid (x.1 = 1) := hid (eq_of_beq hx1)
            go_wp2
            go_roundw
            case rel => exact ⟨j + 1, by omega, by go_num, by rw [HX.out, recF_snoc, if_pos HE.out], by rw [HX.out, sumF_snoc], hB3, hr3, hL3, hb3⟩
            case measure => simp [intOf]; omega
          | false =>
            have HE : Hid (¬ x.1 = 1) := hid (by simpa using hx1)
            go_wp2
            go_roundw
            case rel => exact ⟨j + 1, by omega, by go_num, by rw [HX.out, recF_snoc, if_neg HE.out], by rw [HX.out, sumF_snoc], hB3, hr3, hL3, hb3⟩
            case measure => simp [intOf]; omega
        · have hj' : j = l.length := by omega
          subst hj'
          rw [List.take_length, E1.out]
          go_wp2
          go_roundw
          case rel => exact ⟨k + 1, by omega, by go_num, by rw [HS.out, recF_append], hBlk, hR, hb⟩
          case measure => simp [intOf]; omega
    · have hk' : k = 6 := by omega
      subst hk'
      have hFt : F.take 6 = F := by rw [← HF6.out, List.take_length]
      rw [hFt, HR.out]
      clear hFt hF
      go_wp2
      go_ret
      exact ⟨rfl, hb⟩

end Go.Proofs.Ytphkhcndmmbbmaa
