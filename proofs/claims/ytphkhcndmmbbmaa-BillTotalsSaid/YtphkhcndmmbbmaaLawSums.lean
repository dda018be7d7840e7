/-
  The walks of the laws BillTotals, BillSums and BillRounds.
-/
import Derived.Test.YtphkhcndmmbbmaaPost2
namespace Go.Proofs.Ytphkhcndmmbbmaa
open Go.RowKit

theorem info_rline : (Try.prog.info? 26).map (fun i => (i.zero, i.size, i.bytes)) = some (some (.agg #[.int .i64 0, .int .i64 0]), 2, 16) := by kernel_rfl

theorem total_n (l : List (Int × Int)) (n : Nat) (A : Option Addr) (cap : Nat) (w : World) (h : l.length = n) (hL : Rd w A (l.flatMap en2)) :
    Calls Try.prog 9 #[.slice A n cap] w fun e w' => e = .returned (.tuple #[.int .i64 (netT l), .int .i64 (taxT l), .int .i64 (errT l)]) ∧ Below w.heap.size w w' := by
  subst h
  exact total_any l A cap w hL

set_option maxHeartbeats 1000000 in
theorem billTotals_walk (l : List (Int × Int)) (A : Option Addr) (cap : Nat) (w : World) (hL : Rd w A (l.flatMap en2)) (hr : l.length * 16 ≤ 140737488351232) :
    Calls Try.prog 3 #[.slice A l.length cap] w (Law w) := by
  obtain ⟨i0, hi, hz0, hz1, hz2⟩ := info_parts info_rline
  go_enter Try.func3, Try.ntmps3
  go_wp2
  go_loopw [3, 14] (fun v i wr => ∃ k : Nat, k ≤ l.length ∧ i = .int .i64 k ∧ wr.ownsRow w.heap.size 26 2 v k ((l.take k).flatMap en2) ∧ Below w.heap.size w wr) (fun _ i _ => l.length - (intOf i).toNat)
  case atStart => exact ⟨0, Nat.zero_le _, rfl, World.ownsRow_nil _ _ _ _, Below.refl _ _⟩
  case round =>
    obtain ⟨k, hk, rfl, hown, hb⟩ := hrel
    by_cases hlt : k < l.length
    · obtain ⟨x, hx⟩ : ∃ x, l[k]? = some x := ⟨l[k], List.getElem?_eq_getElem hlt⟩
      obtain ⟨b, off, rfl, hbs, hc⟩ := hL.at_ 2 en2_len (by omega) hx
      have hq := hc 0 _ rfl
      have hp := hc 1 _ rfl
      rw [← hb.cell (p := ⟨b, _, none⟩) hbs] at hq hp
      simp only [Nat.add_zero] at hq
      clear hc hL
      have HS := hid (take_snoc hx)
      go_wp2_with (first
        | (at_builtin; refine wpList_append_own _ rfl _ _ 23 rfl w.heap.size 26 i0 _ 2 16 Try.underlying23 hi hz0 hz1 hz2 rfl (by decide) _ _ _ rfl ((hown.alloc _).alloc _) ⟨wr.heap.size + 1, 0, none⟩ 1 1 (en2 x) rfl rfl ?c1 ?c2 ?c3 ?c4 ?c5 ?_))
      case c1 =>
        intro j u hj
        match j, hj with
        | 0, hj => simp [en2] at hj; subst hj; simp [Addr.add]
        | 1, hj => simp [en2] at hj; subst hj; simp [Addr.add]
      case c2 => intro u hu; simp [en2] at hu; rcases hu with rfl | rfl <;> rfl
      case c3 => unfold maxLen; omega
      case c4 => omega
      case c5 => have := hb.size; simp; omega
      intro v' w1 hown' hgrow _
      go_wp2
      go_roundw
      case rel =>
        refine ⟨k + 1, by omega, by go_num, ?_, ?_⟩
        · rw [HS.out]; simpa using hown'
        · exact ((hb.alloc hb.size _).alloc (by have := hb.size; simp; omega) _).grown hgrow (by have := hb.size; simp; omega) (fun g hg => (hown.lt g hg).1)
      case measure => simp [intOf]; omega
    · have hk' : k = l.length := by omega
      subst hk'
      rw [List.take_length] at hown
      obtain ⟨A', cap', rfl, hR⟩ := Rd.of_own hown
      go_wp2_with fail
      refine (total_any l A cap wr (hL.below hb)).mono ?_
      rintro e w1 ⟨rfl, hb1⟩
      go_wp2_with fail
      refine (rtotal_any l A' cap' w1 (hR.below hb1)).mono ?_
      rintro e w2 ⟨rfl, hb2⟩
      go_wp2_with fail
      refine (wakes_any w2).mono ?_
      rintro e w3 ⟨rfl, hb3⟩
      go_wp2
      go_ret
      exact ⟨rfl, hb.trans ((hb1.mono hb.size).trans ((hb2.mono (Nat.le_trans hb.size hb1.size)).trans (hb3.mono (Nat.le_trans hb.size (Nat.le_trans hb1.size hb2.size)))))⟩

end Go.Proofs.Ytphkhcndmmbbmaa
