/-
  The document's ledger: Balance, List, Post.
-/
import Derived.Test.YtjlfhfhckomalaaRef16
import Derived.Test.YtjlfhfhckomalaaLedRefused
namespace Go.Proofs.Ytjlfhfhckomalaa
open Go.RowKit Go.WideShapes Go.ChangeShapes Go.ChangeAt Go.Deep
set_option linter.unusedVariables false

theorem colF_out {f : Fn} {d a : Int} (hI : LInv f d) (ha : ¬ (0 ≤ a ∧ a < 6)) (k : Nat) : colF f a k = 0 := by
  unfold colF
  refine sum_map_zero _ _ (fun c _ => ?_)
  refine Classical.byContradiction fun h => ha ?_
  have := hI.sup _ h
  exact ⟨this.2.2.1, this.2.2.2⟩

set_option maxHeartbeats 4000000 in
theorem rbal_any {R : Nat} {f : Fn} {d : Int} (a : Int) (w : World) (h : IsRef w R f d) (hI : LInv f d) :
    Calls Try.prog 27 #[.pointer (some ⟨R, 0, none⟩), .int .i64 a] w fun e w' => e = .returned (.int .i64 (balF f a)) ∧ w = w' := by
  by_cases ha : 0 ≤ a ∧ a < 6
  · obtain ⟨an, rfl⟩ : ∃ an : Nat, a = (an : Int) := ⟨a.toNat, by omega⟩
    have h6 : (an : Int) < 6 := ha.2
    have h6' : an < 6 := by omega
    have HB := hid (fun k => colF_bd hI (an : Int) k)
    have hd1 := hI.d1
    have HC := hid (fun c (hc : c ≤ 64) => h.at_ hc h6')
    clear ha hI h
    go_enter Try.func27, Try.ntmps27
    go_wp2_with fail
    go_loop [5, 6] (fun n c => ∃ k : Nat, k ≤ 64 ∧ c = .int .i64 ((k + 1 : Nat) : Int) ∧ n = .int .i64 (colF f an k)) (fun _ c => 65 - (intOf c).toNat)
    case atStart => exact ⟨0, by omega, rfl, rfl⟩
    case round =>
      obtain ⟨k, hk, rfl, rfl⟩ := hrel
      by_cases hlt : k < 64
      · have b1 : ((k + 1 : Nat) : Int) ≤ 64 := by omega
        have b2 : ((k + 1 : Nat) : Int) < 65 := by omega
        have q0 := HC.out (k + 1) (by omega)
        have e1 := HB.out k
        have e2 := HB.out (k + 1)
        have HS := hid (colF_succ f (an : Int) k)
        rw [HS.out] at e2
        rw [show ((k + 1 : Nat) : Int) = (k : Int) + 1 from by omega] at q0
        generalize f ((k : Int) + 1, (an : Int)) = v at *
        generalize colF f (an : Int) k = s at *
        go_wp2_with fail
        go_round
        case rel => exact ⟨k + 1, by omega, by go_num, by rw [HS.out]⟩
        case measure => simp [intOf]; omega
      · have hk' : k = 64 := by omega
        subst hk'
        go_wp2_with fail
        go_ret
        exact ⟨rfl, rfl⟩
  · have HZ : Hid (balF f a = 0) := hid (colF_out hI ha 64)
    have hcs : decide (0 ≤ a) = false ∨ (0 ≤ a ∧ decide (a < 6) = false) := by
      by_cases h0 : 0 ≤ a
      · right; exact ⟨h0, by simp; omega⟩
      · left; simpa using h0
    clear ha h
    go_enter Try.func27, Try.ntmps27
    go_wp2_with fail
    go_loop [5, 6] (fun n c => n = .int .i64 0 ∧ c = .int .i64 1) (fun _ c => 0)
    case atStart => exact ⟨rfl, rfl⟩
    case round =>
      obtain ⟨rfl, rfl⟩ := hrel
      rcases hcs with b1 | ⟨b1, b2⟩
      · go_wp2_with fail
        go_ret
        exact ⟨by rw [HZ.out]; rfl, rfl⟩
      · go_wp2_with fail
        go_ret
        exact ⟨by rw [HZ.out]; rfl, rfl⟩

theorem info_rsm : (Try.prog.info? 72).map (fun i => (i.zero, i.size, i.bytes)) = some (some (.agg #[.int .i64 0, .int .i64 0, .int .i64 0]), 3, 24) := by kernel_rfl

set_option maxRecDepth 100000 in
set_option maxHeartbeats 8000000 in
theorem rlist_any {R : Nat} {f : Fn} {d : Int} (w : World) (h : IsRef w R f d) :
    Calls Try.prog 26 #[.pointer (some ⟨R, 0, none⟩)] w (NewRowOf enS 72 3 (canon f) w) := by
  obtain ⟨i0, hi, hz0, hz1, hz2⟩ := info_parts info_rsm
  go_enter Try.func26, Try.ntmps26
  go_wp2_with fail
  go_loopw [3, 4] (fun v c wr => ∃ k : Nat, k ≤ 64 ∧ c = .int .i64 ((k + 1 : Nat) : Int) ∧ wr.ownsRow w.heap.size 72 3 v (canonTo f k).length ((canonTo f k).flatMap enS) ∧ Below w.heap.size w wr) (fun _ c _ => 65 - (intOf c).toNat)
  case atStart => exact ⟨0, by omega, rfl, World.ownsRow_nil _ _ _ _, Below.refl _ _⟩
  case round =>
    obtain ⟨k, hk, rfl, hO, hb⟩ := hrel
    by_cases hlt : k < 64
    · have b1 : ((k + 1 : Nat) : Int) ≤ 64 := by omega
      have b2 : ((k + 1 : Nat) : Int) < 65 := by omega
      have hcl := canonTo_le f k
      have HS := hid (canonTo_succ f k)
      go_wp2_with fail
      go_loopw [3, 5] (fun v a wr => ∃ j : Nat, j ≤ 6 ∧ a = .int .i64 j ∧ wr.ownsRow w.heap.size 72 3 v (canonTo f k ++ rowC f ((k : Int) + 1) j).length ((canonTo f k ++ rowC f ((k : Int) + 1) j).flatMap enS) ∧ Below w.heap.size w wr) (fun _ a _ => 6 - (intOf a).toNat)
      case atStart => exact ⟨0, by omega, rfl, by rw [show rowC f ((k : Int) + 1) 0 = [] from rfl, List.append_nil]; exact hO, hb⟩
      case round =>
        clear hO hb
        obtain ⟨j, hj, rfl, hO, hb⟩ := hrel
        by_cases hlj : j < 6
        · have q0 := (h.next hb).at_ (c := k + 1) (a := j) (by omega) hlj
          rw [show ((k + 1 : Nat) : Int) = (k : Int) + 1 from by omega] at q0
          have b3 : (j : Int) < 6 := by omega
          have hrl := rowC_le f ((k : Int) + 1) j
          have hll : (canonTo f k ++ rowC f ((k : Int) + 1) j).length ≤ 390 := by rw [List.length_append]; omega
          have HR := hid (rowC_succ f ((k : Int) + 1) j)
          have HL : Hid (canonTo f k ++ rowC f ((k : Int) + 1) (j + 1) = (canonTo f k ++ rowC f ((k : Int) + 1) j) ++ (if f ((k : Int) + 1, (j : Int)) = 0 then [] else [⟨(k : Int) + 1, j, f ((k : Int) + 1, (j : Int))⟩])) := hid (by rw [HR.out, List.append_assoc])
          generalize canonTo f k ++ rowC f ((k : Int) + 1) j = L at *
          generalize f ((k : Int) + 1, (j : Int)) = v0 at *
          by_cases hv : v0 = 0
          · rw [if_pos hv, List.append_nil] at HL
            subst hv
            go_wp2_with fail
            go_roundw
            case rel => exact ⟨j + 1, by omega, by go_num, by rw [HL.out]; exact hO, hb⟩
            case measure => simp [intOf]; omega
          · rw [if_neg hv] at HL
            have b4 : (v0 != 0) = true := by simpa using hv
            have hO3 := hid hO
            have hb3 := hid (hb.alloc hb.size (.cells #[.int .i64 ((k : Int) + 1), .int .i64 j, .int .i64 v0] 72))
            have hwz := hb.size
            clear hO hb hv
            go_wp2_with (first
              | (at_builtin; refine wpList_push _ rfl _ _ 56 rfl w.heap.size 72 i0 _ 3 24 Try.underlying56 hi hz0 hz1 hz2 rfl (by decide) _ _ _ (by rfl) hO3.out #[.int .i64 ((k : Int) + 1), .int .i64 j, .int .i64 v0] wr.heap.size rfl (by rfl) (by rfl) (by rfl) (by unfold maxLen; omega) (by omega) (by omega) ?_; intro v' w3 hO4 hg4))
            have hb4 := hb3.out.grown hg4 (by simp; omega) (fun k hk => (hO3.out.lt k hk).1)
            have hO5 : w3.ownsRow w.heap.size 72 3 v' (L ++ [(⟨(k : Int) + 1, j, v0⟩ : Sm)]).length ((L ++ [(⟨(k : Int) + 1, j, v0⟩ : Sm)]).flatMap enS) := by simpa [enS] using hO4
            rw [← HL.out] at hO5
            clear hO3 hb3 hO4 hg4
            go_roundw
            case rel => exact ⟨j + 1, by omega, by go_num, by first | exact hO5 | simpa only [List.length_append, List.flatMap_append] using hO5, hb4⟩
            case measure => simp [intOf]; omega
        · have hj6 : j = 6 := by omega
          subst hj6
          rw [← HS.out] at hO
          clear hlj hj
          go_wp2_with fail
          go_roundw
          case rel => exact ⟨k + 1, by omega, by go_num, hO, hb⟩
          case measure => simp [intOf]; omega
    · have hk' : k = 64 := by omega
      subst hk'
      obtain ⟨A1, c1, rfl, _⟩ := own_slice hO
      have hO2 : wr.ownsRow w.heap.size 72 3 (.slice A1 (canon f).length c1) (canon f).length ((canon f).flatMap enS) := hO
      go_wp2_with fail
      go_ret
      exact ⟨A1, c1, rfl, hO2, hb⟩

end Go.Proofs.Ytjlfhfhckomalaa
