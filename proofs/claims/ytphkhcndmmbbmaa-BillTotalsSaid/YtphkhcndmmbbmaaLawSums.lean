/-
  The walks of the laws BillTotals, BillSums and BillRounds.
-/
import Derived.Test.YtphkhcndmmbbmaaPost2
namespace Go.Proofs.Ytphkhcndmmbbmaa
open Go.RowKit

theorem info_rline : (Try.prog.info? 26).map (fun i => (i.zero, i.size, i.bytes)) = some (some (.agg #[.int .i64 0, .int .i64 0]), 2, 16) := by kernel_rfl

theorem total_n (l : List (Int × Int)) (n : Nat) (A : Option Addr) (cap : Nat) (w : World) (h : l.length = n) (hL : Rd w A (l.flatMap en2)) :
    Calls Try.prog 9 #[.slice A n cap] w fun e w' => e = .returned (.tuple #[.int .i64 (netT l), .int .i64 (taxT l), .int .i64 (errT l)]) ∧ Below w.heap.size w w' := by
  subst h
  exact total_any l A cap w hL

set_option maxHeartbeats 1000000 in
theorem billTotals_walk (l : List (Int × Int)) (A : Option Addr) (cap : Nat) (w : World) (hL : Rd w A (l.flatMap en2)) (hr : l.length * 16 ≤ 140737488351232) :
    Calls Try.prog 3 #[.slice A l.length cap] w (Law w) := by
  obtain ⟨i0, hi, hz0, hz1, hz2⟩ := info_parts info_rline
  go_enter Try.func3, Try.ntmps3
  go_wp2
  go_loopw [3, 14] (fun v i wr => ∃ k : Nat, k ≤ l.length ∧ i = .int .i64 k ∧ wr.ownsRow w.heap.size 26 2 v k ((l.take k).flatMap en2) ∧ Below w.heap.size w wr) (fun _ i _ => l.length - (intOf i).toNat)
  case atStart => exact ⟨0, Nat.zero_le _, rfl, World.ownsRow_nil _ _ _ _, Below.refl _ _⟩
  case round =>
    obtain ⟨k, hk, rfl, hown, hb⟩ := hrel
    by_cases hlt : k < l.length
    · obtain ⟨x, hx⟩ : ∃ x, l[k]? = some x := ⟨l[k], List.getElem?_eq_getElem hlt⟩
      obtain ⟨b, off, rfl, hbs, hc⟩ := hL.at_ 2 en2_len (by omega) hx
      have hq := hc 0 _ rfl
      have hp := hc 1 _ rfl
      rw [← hb.cell (p := ⟨b, _, none⟩) hbs] at hq hp
      simp only [Nat.add_zero] at hq
      clear hc hL
      have HS := hid (take_snoc hx)
      go_wp2_with (first
        | (at_builtin; refine wpList_append_own _ rfl _ _ 23 rfl w.heap.size 26 i0 _ 2 16 Try.underlying23 hi hz0 hz1 hz2 rfl (by decide) _ _ _ rfl ((hown.alloc _).alloc _) ⟨wr.heap.size + 1, 0, none⟩ 1 1 (en2 x) rfl rfl ?c1 ?c2 ?c3 ?c4 ?c5 ?_))
      case c1 =>
        intro j u hj
        match j, hj with
        | 0, hj => simp [en2] at hj; subst hj; simp [Addr.add]
        | 1, hj => simp [en2] at hj; subst hj; simp [Addr.add]
      case c2 => intro u hu; simp [en2] at hu; rcases hu with rfl | rfl <;> rfl
      case c3 => unfold maxLen; omega
      case c4 => omega
      case c5 => have := hb.size; simp; omega
      intro v' w1 hown' hgrow _
      go_wp2
      go_roundw
      case rel =>
        refine ⟨k + 1, by omega, by go_num, ?_, ?_⟩
        · rw [HS.out]; simpa using hown'
        · exact ((hb.alloc hb.size _).alloc (by have := hb.size; simp; omega) _).grown hgrow (by have := hb.size; simp; omega) (fun g hg => (hown.lt g hg).1)
      case measure => simp [intOf]; omega
    · have hk' : k = l.length := by omega
      subst hk'
      rw [List.take_length] at hown
      obtain ⟨A', cap', rfl, hR⟩ := Rd.of_own hown
      go_wp2_with fail
      refine (total_any l A cap wr (hL.below hb)).mono ?_
      rintro e w1 ⟨rfl, hb1⟩
      go_wp2_with fail
      refine (rtotal_any l A' cap' w1 (hR.below hb1)).mono ?_
      rintro e w2 ⟨rfl, hb2⟩
      go_wp2_with fail
      refine (wakes_any w2).mono ?_
      rintro e w3 ⟨rfl, hb3⟩
      go_wp2
      go_ret
      exact ⟨rfl, hb.trans ((hb1.mono hb.size).trans ((hb2.mono (Nat.le_trans hb.size hb1.size)).trans (hb3.mono (Nat.le_trans hb.size (Nat.le_trans hb1.size hb2.size)))))⟩

theorem fits_one (x : Int × Int) : fits [x] = lok x := by simp [fits]
theorem tot_one {x : Int × Int} (h : lok x = true) : netT [x] = net1 x ∧ taxT [x] = tax1 x ∧ errT [x] = 0 := by
  simp [netT, taxT, errT, fits_one, h, netOf, taxOf]
theorem tot_none {x : Int × Int} (h : lok x = false) : netT [x] = 0 ∧ taxT [x] = 0 ∧ errT [x] = 2 := by
  simp [netT, taxT, errT, fits_one, h]

set_option maxHeartbeats 1000000 in
theorem billSums_walk (l : List (Int × Int)) (A : Option Addr) (cap : Nat) (w : World) (hL : Rd w A (l.flatMap en2)) (hr : l.length * 16 ≤ 140737488351232) :
    Calls Try.prog 4 #[.slice A l.length cap] w (Law w) := by
  go_enter Try.func4, Try.ntmps4
  go_wp2_with fail
  refine (total_any l A cap w hL).mono ?_
  rintro e w1 ⟨rfl, hb1⟩
  go_wp2_with fail
  refine (wakes_any w1).mono ?_
  rintro e w2 ⟨rfl, hb2⟩
  have hb := bthen hb1 hb2
  cases hf : fits l with
  | false =>
    rw [show netT l = 0 from by simp [netT, hf], show taxT l = 0 from by simp [taxT, hf], show errT l = 2 from by simp [errT, hf]]
    go_wp2_with fail
    refine (wakes_any w2).mono ?_
    rintro e w3 ⟨rfl, hb3⟩
    go_wp2
    go_ret
    exact ⟨rfl, bthen hb hb3⟩
  | true =>
    have hall : ∀ x ∈ l, lok x = true := by simp only [fits, Bool.and_eq_true, List.all_eq_true] at hf; exact hf.2
    have HN := hid (show netT l = netOf l from by simp [netT, hf])
    have HT := hid (show taxT l = taxOf l from by simp [taxT, hf])
    have hlen4 : l.length ≤ 4 := by simp only [fits, Bool.and_eq_true, decide_eq_true_eq] at hf; exact hf.1.2
    rw [show errT l = 0 from by simp [errT, hf]]
    clear hf
    go_wp2_with fail
    go_loopw [6, 7, 36] (fun n t i wr => ∃ k : Nat, k ≤ l.length ∧ i = .int .i64 k ∧ n = .int .i64 (netOf (l.take k)) ∧ t = .int .i64 (taxOf (l.take k)) ∧ Below w.heap.size w wr) (fun _ _ i _ => l.length - (intOf i).toNat)
    case atStart => exact ⟨0, Nat.zero_le _, rfl, rfl, rfl, hb⟩
    case round =>
      clear hb hb1 hb2
      obtain ⟨k, hk, rfl, rfl, rfl, hb⟩ := hrel
      have hbd := sums_bd (l.take k) (List.all_eq_true.2 fun x hx => hall x (List.mem_of_mem_take hx))
      have hlen : (l.take k).length ≤ 4 := by simp; omega
      by_cases hlt : k < l.length
      · obtain ⟨x, hx⟩ : ∃ x, l[k]? = some x := ⟨l[k], List.getElem?_eq_getElem hlt⟩
        have hx1 : lok x = true := hall x (List.mem_of_getElem? hx)
        obtain ⟨b, off, rfl, hbs, hc⟩ := hL.at_ 2 en2_len (by omega) hx
        have hq := hc 0 _ rfl
        have hp := hc 1 _ rfl
        rw [← hb.cell (p := ⟨b, _, none⟩) hbs] at hq hp
        simp only [Nat.add_zero] at hq
        clear hc hL hall
        have HS := hid (take_snoc hx)
        have m0 := net1_bd hx1
        go_wp2_with fail
        refine (total_n [x] 1 _ _ _ rfl (by exact Rd.new' _ _ _ _ (by simp))).mono ?_
        rintro e w3 ⟨rfl, hb3⟩
        rw [(tot_one hx1).1, (tot_one hx1).2.1, (tot_one hx1).2.2]
        have hb4 := bthen ((hb.alloc hb.size (.cells #[.int .i64 x.1, .int .i64 x.2] 25)).alloc (by have := hb.size; simp; omega) (.cells #[.int .i64 x.1, .int .i64 x.2] 25)) hb3
        clear hb3 hb
        unfold net1 tax1
        go_wp2
        go_roundw
        case rel =>
          refine ⟨k + 1, by omega, by go_num, ?_, ?_, hb4⟩
          · rw [HS.out, netOf_snoc]
          · rw [HS.out, taxOf_snoc]
        case measure => simp [intOf]; omega
      · have hk' : k = l.length := by omega
        subst hk'
        rw [List.take_length, ← HN.out, ← HT.out]
        go_wp2
        go_ret
        exact ⟨rfl, hb⟩

set_option maxHeartbeats 1000000 in
theorem billRounds_walk (x : Int × Int) (w : World) :
    Calls Try.prog 5 #[.agg (en2 x).toArray] w (Law w) := by
  show Calls Try.prog 5 #[.agg #[.int .i64 x.1, .int .i64 x.2]] w (Law w)
  go_enter Try.func5, Try.ntmps5
  go_wp2_with fail
  refine (total_n [x] 1 _ _ _ rfl (by exact Rd.new' _ _ _ _ (by simp))).mono ?_
  rintro e w1 ⟨rfl, hb1⟩
  have hb0 : Below w.heap.size w w1 := bthen (((Below.refl _ _).alloc (Nat.le_refl _) _).alloc (by simp) _) hb1
  have B1 := ((Blk.new w 25 #[.int .i64 x.1, .int .i64 x.2]).alloc (.cells #[.int .i64 x.1, .int .i64 x.2] 25)).next hb1
  clear hb1
  cases hx : lok x with
  | true =>
    obtain ⟨g1, g2, g3, g4⟩ := lok_iff.1 hx
    have m0 := net1_bd hx
    rw [(tot_one hx).1, (tot_one hx).2.1, (tot_one hx).2.2]
    clear hx
    unfold net1 tax1
    go_wp2_with fail
    refine (wakes_any w1).mono ?_
    rintro e w2 ⟨rfl, hb2⟩
    have B2 := B1.next hb2
    have hb := bthen hb0 hb2
    clear hb0 hb2 B1
    have c0 := B2.cell 0
    have c1 := B2.cell 1
    simp at c0 c1
    have t1 : 100 * ((x.1 * x.2 * 20 + 50) / 100) - 20 * (x.1 * x.2) ≤ 50 := by omega
    have t2 : -50 < 100 * ((x.1 * x.2 * 20 + 50) / 100) - 20 * (x.1 * x.2) := by omega
    go_wp2
    go_ret
    exact ⟨rfl, hb⟩
  | false =>
    rw [(tot_none hx).1, (tot_none hx).2.1, (tot_none hx).2.2]
    have hbad : ¬ (1 ≤ x.1 ∧ x.1 ≤ 1000000 ∧ 0 ≤ x.2 ∧ x.2 ≤ 1000000) := fun h => by rw [lok_iff.2 h] at hx; cases hx
    clear hx
    go_wp2_with fail
    refine (wakes_any w1).mono ?_
    rintro e w2 ⟨rfl, hb2⟩
    have B2 := B1.next hb2
    have hb := bthen hb0 hb2
    clear hb0 hb2 B1
    go_wp2_with fail
    refine (wakes_any w2).mono ?_
    rintro e w3 ⟨rfl, hb3⟩
    have B3 := B2.next hb3
    have hb := bthen hb hb3
    clear hb3 B2
    have c0 := B3.cell 0
    have c1 := B3.cell 1
    simp at c0 c1
    go_wp2
    all_goals
      go_ret
      refine ⟨?_, hb⟩
      first
        | rfl
        | (rw [show decide ((1000000 : Int) < x.2) = true from decide_eq_true (by omega)]; simp)

end Go.Proofs.Ytphkhcndmmbbmaa
