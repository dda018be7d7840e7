/-
  The walk of TimersShuffled.
-/
import Derived.Test.YthlpcbpilfakmaaTimRest
namespace Go.Proofs.Ythlpcbpilfakmaa
open Go.RowKit Go.WideShapes Go.ChangeShapes Go.ChangeAt Go.Deep
set_option linter.unusedVariables false

theorem setAll_rev {l : List Tm} (h : (l.map keyT).Nodup) : (setAll l.reverse).Perm (setAll l) := by
  have h2 : (l.reverse.map keyT).Nodup := by rw [List.map_reverse]; exact (List.reverse_perm _).nodup_iff.2 h
  rw [setAll_map h, setAll_map h2, List.map_reverse]
  exact List.reverse_perm _

set_option maxRecDepth 100000 in
set_option maxHeartbeats 16000000 in
theorem timersShuffled_walk (hS : SortsT) (l : List Tm) (A : Option Addr) (cp : Nat) (w : World) (hR : Rd w A (l.flatMap en3)) (hl : l.length * 24 ≤ 140737488351232) :
    Calls Try.prog 8 #[.slice A l.length cp] w (Law w) := by
  go_enter Try.func8, Try.ntmps8
  go_wp2_with fail
  refine (wakes_any hS _).mono ?_
  rintro e w1 ⟨rfl, hb⟩
  have hR1 := hR.below hb
  have hw1 : w.heap.size ≤ w1.heap.size := hb.size
  go_wp2_with fail
  refine (trestore_any l A cp _ hR1 (by omega)).mono ?_
  rintro e w2 ⟨hP, hb2⟩
  replace hb := bthen hb hb2
  clear hR1
  by_cases hn : (l.map keyT).Nodup
  · obtain ⟨X, B, rfl, hB, hX, h⟩ := hP.1 hn
    have HN := hid hn
    have hwB : w.heap.size ≤ B := by omega
    clear hP hn hb2 hB hX
    go_wp2_with fail
    refine (tnew_some _).mono ?_
    rintro e w3 ⟨Y, D, rfl, hD, hY, h2, hb3⟩
    have hBl := h.map.lt
    have hXl := h.blk.lt
    have hne : B ≠ Y ∧ B ≠ D ∧ X ≠ D := ⟨by omega, by omega, by omega⟩
    replace h := h.next hb3
    have hwD : w.heap.size ≤ D := Nat.le_trans hb.size hD
    replace hb := bthen hb hb3
    clear hb3 hD hY hBl hXl
    go_wp2_with fail
    go_loopw [6] (fun i wr => ∃ k : Nat, k ≤ l.length ∧ i = .int .i64 (((l.length - k : Nat) : Int) - 1) ∧ IsTim wr X B (setAll l) ∧ IsTim wr Y D (setAll (l.reverse.take k)) ∧ Below w.heap.size w wr) (fun i _ => (intOf i + 1).toNat)
    case atStart => exact ⟨0, Nat.zero_le _, by simp, h, h2, hb⟩
    case round =>
      clear h h2 hb
      obtain ⟨k, hk, rfl, h, h2, hb⟩ := hrel
      by_cases hlt : k < l.length
      · obtain ⟨j, hj⟩ : ∃ j, j = l.length - k - 1 := ⟨_, rfl⟩
        have hjl : j < l.length := by omega
        have ej : ((l.length - k : Nat) : Int) - 1 = (j : Int) := by omega
        obtain ⟨x, hx⟩ : ∃ x, l[j]? = some x := ⟨l[j], List.getElem?_eq_getElem hjl⟩
        have hxr : l.reverse[k]? = some x := by
          rw [List.getElem?_reverse (by omega), show l.length - 1 - k = j from by omega]; exact hx
        have HS : Hid (setAll (l.reverse.take (k + 1)) = mset (setAll (l.reverse.take k)) (x.o, x.s) x.d) := hid (by rw [List.take_add_one, hxr]; exact setAll_snoc _ _)
        have hR1 := hR.below hb
        obtain ⟨b, off, rfl, hbs, hcc⟩ := hR1.at_ 3 en3_len (by omega) hx
        obtain ⟨xd, xo, xs⟩ := x
        have q0 : wr.cell? ⟨b, off + j * 3, none⟩ = some (.int .i64 xd) := hcc 0 _ rfl
        have q1 : wr.cell? ⟨b, off + j * 3 + 1, none⟩ = some (.int .i64 xo) := hcc 1 _ rfl
        have q2 : wr.cell? ⟨b, off + j * 3 + 2, none⟩ = some (.int .i64 xs) := hcc 2 _ rfl
        have K := hid (set_any xo xs xd wr.drew (h2.next (below_drewN (Below.refl _ _) 1)))
        have EJ := hid (And.intro hj ej)
        rw [ej]
        clear hcc hx hxr hR1 hj ej
        go_wp2_with fail
        refine wp_tail 16 (by kernel_rfl) (by kernel_rfl) ?_
        simp only [List.take_succ_cons, List.take_zero, List.drop_succ_cons, List.drop_zero]
        repeat still_step
        refine wpStill_nil ?_
        go_wp2_with fail
        refine K.out.mono ?_
        rintro e4 w4 ⟨rfl, h4, hg⟩
        have hg' : wr.grownBy w4 (some D) := grown_trans (grown_of_below (below_drewN (Below.refl wr.heap.size wr) 1) _) hg
        have hh := h.touch (Touch.of_grown hg') hne.2.2 hne.2.1
        have hb4 := hb.trans (grown_below hg' hb.size hwD)
        clear h h2 hb hg hg' K q0 q1 q2
        go_wp2_with fail
        go_roundw
        case rel => exact ⟨k + 1, by omega, by have := EJ.out.1; congr 1 <;> omega, hh, by rw [HS.out]; exact h4, hb4⟩
        case measure => simp [intOf]
      · have hk' : k = l.length := by omega
        subst hk'
        rw [show l.length = l.reverse.length from (List.length_reverse).symm, List.take_length] at h2
        have hz : (((l.length - l.length : Nat) : Int) - 1) = -1 := by omega
        rw [hz]
        have L1 := hid (fun w h => tlist_any hS (X := X) (B := B) (m := setAll l) w h (by have := setAll_length l; omega))
        have L2 := hid (fun w h => tlist_any hS (X := Y) (B := D) (m := setAll l.reverse) w h (by have := setAll_length l.reverse; rw [List.length_reverse] at this; omega))
        have HLL := hid (setAll_nodup.2 HN.out)
        have HPM := hid (setAll_rev HN.out)
        clear hlt hk hz hR hwB hwD hne
        go_wp2_with fail
        refine (L1.out _ h).mono ?_
        rintro e5 w5 ⟨A5, c5, La, rfl, hTa, hOa, hb5⟩
        replace h2 := h2.next hb5
        replace hb := bthen hb hb5
        obtain ⟨A5', c5', e5', hRa⟩ := own_slice hOa
        injection e5' with e51 _ _
        subst e51
        clear hOa hb5 h L1
        go_wp2_with fail
        refine (L2.out _ h2).mono ?_
        rintro e6 w6 ⟨A6, c6, Lb, rfl, hTb, hOb, hb6⟩
        replace hRa := hRa.below hb6
        replace hb := bthen hb hb6
        obtain ⟨A6', c6', e6', hRb⟩ := own_slice hOb
        injection e6' with e61 _ _
        subst e61
        obtain rfl := hTb.unique (hTa.same HPM.out)
        have hlen : Lb.length = l.length := by rw [hTa.len]; exact HLL.out
        have b1 : (Lb.length != l.length) = false := by simpa using hlen
        have b2 : ((Lb.length : Int) != (l.length : Int)) = false := by simp [hlen]
        have HLEN := hid hlen
        clear hOb hb6 h2 L2 hTa hTb hlen
        go_wp2_with fail
        clear b1 b2
        have HW := hid (And.intro hb (And.intro hRa hRb))
        clear hb hRa hRb
        go_loopw [64] (fun i wr => ∃ i1 q : Nat, i1 ≤ Lb.length ∧ i = .int .i64 i1 ∧ wr = w6.drewN q) (fun i _ => Lb.length - (intOf i).toNat)
        case atStart => exact ⟨0, 0, Nat.zero_le _, rfl, by simp [World.drewN]⟩
        case round =>
          obtain ⟨i1, q1, hi1, rfl, rfl⟩ := hrel
          obtain ⟨hb, hR1, hR4⟩ := HW.out
          by_cases hlt : i1 < Lb.length
          · obtain ⟨x, hx⟩ : ∃ x, Lb[i1]? = some x := ⟨Lb[i1], List.getElem?_eq_getElem hlt⟩
            obtain ⟨c1, off3, rfl, hbs1, hc1⟩ := hR1.at_ 3 en3_len (by omega) hx
            obtain ⟨c2, off4, rfl, hbs2, hc2⟩ := hR4.at_ 3 en3_len (by omega) hx
            have hse := same_tm x
            obtain ⟨yd, yo, ys⟩ := x
            simp only at hse
            have q0 : w6.cell? ⟨c1, off3 + i1 * 3, none⟩ = some (.int .i64 yd) := hc1 0 _ rfl
            have q1 : w6.cell? ⟨c1, off3 + i1 * 3 + 1, none⟩ = some (.int .i64 yo) := hc1 1 _ rfl
            have q2 : w6.cell? ⟨c1, off3 + i1 * 3 + 2, none⟩ = some (.int .i64 ys) := hc1 2 _ rfl
            have p0 : w6.cell? ⟨c2, off4 + i1 * 3, none⟩ = some (.int .i64 yd) := hc2 0 _ rfl
            have p1 : w6.cell? ⟨c2, off4 + i1 * 3 + 1, none⟩ = some (.int .i64 yo) := hc2 1 _ rfl
            have p2 : w6.cell? ⟨c2, off4 + i1 * 3 + 2, none⟩ = some (.int .i64 ys) := hc2 2 _ rfl
            have hgd := guard_tm
            have hlen := HLEN.out
            have hll : Lb.length ≤ 140737488351232 := by omega
            clear hc1 hc2 hx hR1 hR4 hb hlen
            go_wp2_with fail
            refine wp_region_quiet_lit (by kernel_rfl) (by kernel_rfl) ?_
            repeat (first | go_big_quiet_step (fail) | quiet_step (fail))
            refine wpQuiet_nil ?_
            rintro _ ⟨nq, rfl⟩
            clear q0 q1 q2 p0 p1 p2 hse hgd
            go_wp2_with fail
            go_roundw
            case rel => exact ⟨i1 + 1, _, by omega, by go_num, rfl⟩
            case measure => simp [intOf]; omega
          · clear hR1 hR4
            go_wp2_with fail
            go_ret
            exact ⟨rfl, below_drewN hb _⟩
  · obtain rfl := hP.2 hn
    clear hP hn hb2
    go_wp2_with fail
    go_ret
    exact ⟨by simp, hb⟩

end Go.Proofs.Ythlpcbpilfakmaa
