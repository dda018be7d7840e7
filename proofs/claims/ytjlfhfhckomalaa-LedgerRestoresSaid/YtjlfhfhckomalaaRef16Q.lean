/-
  The document's ledger: Post.
-/
import Derived.Test.YtjlfhfhckomalaaRef16P
namespace Go.Proofs.Ytjlfhfhckomalaa
open Go.RowKit Go.WideShapes Go.ChangeShapes Go.ChangeAt Go.Deep
set_option linter.unusedVariables false

/-- What the document's Post leaves. -/
def PostR (w : World) (R : Nat) (f : Fn) (d c : Int) (es : List En) (e : Ending) (w' : World) : Prop :=
  e = .returned (.int .i64 (postC d c es)) ∧ IsRef w' R (nextF f d c es) (nextD d c es) ∧ Touch (· = R) w w'
theorem PostR.no {w w' : World} {R : Nat} {f : Fn} {d c r : Int} {es : List En} (h : IsRef w' R f d) (ht : Touch (· = R) w w') (hr : postC d c es = r) (h0 : r ≠ 0) : PostR w R f d c es (.returned (.int .i64 r)) w' := by
  subst hr
  refine ⟨rfl, ?_, ht⟩
  unfold nextF nextD
  rw [if_neg h0, if_neg h0]
  exact h
theorem updF_put (f : Fn) (p : Int × Int) (x : Int) : updF f p x = putF f p (f p + x) := by
  funext q
  unfold updF putF
  split
  · rename_i h; rw [h]
  · rfl

set_option maxRecDepth 100000 in
set_option maxHeartbeats 16000000 in
theorem rpost_any {R : Nat} {f : Fn} {d : Int} (c : Int) (es : List En) (A : Option Addr) (cap : Nat) (w : World) (h : IsRef w R f d) (hI : LInv f d) (hR : Rd w A (es.flatMap enE)) (hl : es.length ≤ 140737488355328) (hA : ∀ b, A.map (·.block) = some b → b ≠ R) :
    Calls Try.prog 24 #[.pointer (some ⟨R, 0, none⟩), .int .i64 c, .slice A es.length cap] w (PostR w R f d c es) := by
  have hT0 := Touch.refl (· = R) w
  by_cases hc : headB c es.length = true
  · have hc2 : 1 ≤ c ∧ c ≤ 64 ∧ 1 ≤ es.length ∧ es.length ≤ 8 := by
      unfold headB at hc
      simp only [Bool.and_eq_true, decide_eq_true_eq] at hc
      omega
    obtain ⟨c1, c2, c3, c4⟩ := hc2
    have b1 : decide (c < 1) = false := by simp; omega
    have b2 : decide (64 < c) = false := by simp; omega
    have b3 : decide ((es.length : Int) < 1) = false := by simp; omega
    have b4 : decide ((8 : Int) < (es.length : Int)) = false := by simp; omega
    have HI := hid hI
    have H0 := hid h
    have hd1 := hI.d1
    have hd0 := hI.d0
    clear hc h hI
    go_enter Try.func24, Try.ntmps24
    go_wp2_with fail
    go_loopw [7, 8, 9] (fun s t i wr => ∃ k : Nat, k ≤ es.length ∧ i = .int .i64 k ∧ s = .int .i64 (sumE (es.take k)) ∧ t = .int .i64 (debs (es.take k)) ∧ Hid (∀ x ∈ es.take k, okE x = true) ∧ Below w.heap.size w wr) (fun _ _ i _ => es.length - (intOf i).toNat)
    case atStart => exact ⟨0, Nat.zero_le _, rfl, rfl, rfl, hid (by simp), Below.refl _ _⟩
    case round =>
      obtain ⟨k, hk, rfl, rfl, rfl, hok, hb⟩ := hrel
      have hbd := sumE_bd hok.out
      have hnn := debs_nonneg (es.take k)
      rw [List.length_take, Nat.min_eq_left hk] at hbd
      by_cases hlt : k < es.length
      · obtain ⟨x, hx⟩ : ∃ x, es[k]? = some x := ⟨es[k], List.getElem?_eq_getElem hlt⟩
        have hR1 := hR.below hb
        obtain ⟨b, off, rfl, hbs, hcc⟩ := hR1.at_ 2 enE_len (by omega) hx
        have HS : Hid (es.take (k + 1) = es.take k ++ [x]) := hid (by rw [List.take_add_one, hx]; rfl)
        have HM := hid (List.mem_of_getElem? hx)
        obtain ⟨xa, xn⟩ := x
        have q0 : wr.cell? ⟨b, off + k * 2, none⟩ = some (.int .i64 xa) := hcc 0 _ rfl
        have q1 : wr.cell? ⟨b, off + k * 2 + 1, none⟩ = some (.int .i64 xn) := hcc 1 _ rfl
        have hb' := hid (hb.alloc hb.size (.cells #[.int .i64 xa, .int .i64 xn] 82))
        clear hcc hx hR1 hb
        have HSum := hid (show sumE (es.take (k + 1)) = sumE (es.take k) + xn from by rw [HS.out, sumE_snoc])
        have HDeb := hid (show debs (es.take (k + 1)) = debs (es.take k) + pos xn from by rw [HS.out, debs_snoc])
        have HOk : Hid (okE ⟨xa, xn⟩ = true → ∀ x ∈ es.take (k + 1), okE x = true) := hid (by
          intro hox y hy
          rw [HS.out] at hy
          rcases List.mem_append.1 hy with hy | hy
          · exact hok.out y hy
          · simp at hy; subst hy; exact hox)
        generalize sumE (es.take k) = S at *
        generalize debs (es.take k) = D at *
        clear hok HS
        go_upto_region 9 with fail
        go_cut [60] (fun v wx => v = .bool (!okE ⟨xa, xn⟩) ∧ wx = wr.alloc (.cells #[.int .i64 xa, .int .i64 xn] 82))
        case first =>
          clear HSum HDeb HOk hbd hnn hb' HI H0 hd1 hd0 q0 q1 HM
          by_cases o1 : 0 ≤ xa
          · have e1 : decide (xa < 0) = false := by simp; omega
            by_cases o2 : xa < 6
            · have e2 : decide (6 ≤ xa) = false := by simp; omega
              by_cases o3 : xn = 0
              · have e3 : (xn == 0) = true := by simpa using o3
                have HV : Hid ((!okE ⟨xa, xn⟩) = true) := hid (by unfold okE; simp [o3])
                clear o3
                go_wp2_with fail
                go_meet
                exact ⟨by rw [HV.out], rfl⟩
              · have e3 : (xn == 0) = false := by simpa using o3
                by_cases o4 : xn ≤ 1125899906842624
                · have e4 : decide (1125899906842624 < xn) = false := by simp; omega
                  by_cases o5 : -1125899906842624 ≤ xn
                  · have e5 : decide (xn < -1125899906842624) = false := by simp; omega
                    have HV : Hid ((!okE ⟨xa, xn⟩) = false) := hid (by rw [(okE_iff _).2 ⟨o1, o2, o3, o4, o5⟩]; rfl)
                    clear o3
                    go_wp2_with fail
                    go_meet
                    exact ⟨by rw [HV.out], rfl⟩
                  · have e5 : decide (xn < -1125899906842624) = true := by simp; omega
                    have b5 : decide (-1125899906842624 ≤ xn) = false := by simpa using o5
                    have HV : Hid ((!okE ⟨xa, xn⟩) = true) := hid (by unfold okE; simp only [b5, Bool.and_false, Bool.not_false])
                    clear o3 o5 b5
                    go_wp2_with fail
                    go_meet
                    exact ⟨by rw [HV.out], rfl⟩
                · have e4 : decide (1125899906842624 < xn) = true := by simp; omega
                  have b5 : decide (xn ≤ 1125899906842624) = false := by simpa using o4
                  have HV : Hid ((!okE ⟨xa, xn⟩) = true) := hid (by unfold okE; simp only [b5, Bool.and_false, Bool.false_and, Bool.not_false])
                  clear o3 o4 b5
                  go_wp2_with fail
                  go_meet
                  exact ⟨by rw [HV.out], rfl⟩
            · have e2 : decide (6 ≤ xa) = true := by simp; omega
              have b5 : decide (xa < 6) = false := by simpa using o2
              have HV : Hid ((!okE ⟨xa, xn⟩) = true) := hid (by unfold okE; simp only [b5, Bool.and_false, Bool.false_and, Bool.not_false])
              clear o2 b5
              go_wp2_with fail
              go_meet
              exact ⟨by rw [HV.out], rfl⟩
          · have e1 : decide (xa < 0) = true := by simp; omega
            have b5 : decide (0 ≤ xa) = false := by simpa using o1
            have HV : Hid ((!okE ⟨xa, xn⟩) = true) := hid (by unfold okE; simp only [b5, Bool.false_and, Bool.not_false])
            clear o1 b5
            go_wp2_with fail
            go_meet
            exact ⟨by rw [HV.out], rfl⟩
        case rest =>
          obtain ⟨rfl, rfl⟩ := hcut
          cases hox : okE ⟨xa, xn⟩ with
          | false =>
            have hP := hid (PostR.no (H0.out.next hb'.out) (Touch.of_below hb'.out) (c := c) (es := es) (r := 2) (by unfold postC; rw [if_neg (fun e => by have := List.all_eq_true.1 e.2.2.2.2 _ HM.out; rw [hox] at this; cases this)]) (by omega))
            clear hox HSum HDeb HOk q0 q1
            go_wp2_with fail
            go_ret
            exact hP.out
          | true =>
            have HOk2 := hid (HOk.out hox)
            have ho := (okE_iff _).1 hox
            obtain ⟨o1, o2, o3, o4, o5⟩ := ho
            simp only at o1 o2 o3 o4 o5
            clear hox o3 HOk
            by_cases hpx : 0 < xn
            · have HPx : Hid (pos xn = xn) := hid (if_pos hpx)
              go_wp2_with fail
              go_roundw
              case rel => exact ⟨k + 1, by omega, by go_num, by rw [HSum.out], by rw [HDeb.out, HPx.out], HOk2, hb'.out⟩
              case measure => simp [intOf]; omega
            · have HPx : Hid (pos xn = 0) := hid (if_neg hpx)
              go_wp2_with fail
              go_roundw
              case rel => exact ⟨k + 1, by omega, by go_num, by rw [HSum.out], by rw [HDeb.out, HPx.out]; go_num, HOk2, hb'.out⟩
              case measure => simp [intOf]; omega
      · have hk' : k = es.length := by omega
        subst hk'
        rw [List.take_length] at *
        have hall : es.all okE = true := List.all_eq_true.2 hok.out
        have hok1 : 1 ≤ c ∧ c ≤ 64 ∧ es ≠ [] ∧ es.length ≤ 8 ∧ es.all okE = true := ⟨c1, c2, List.length_pos_iff.1 (by omega), c4, hall⟩
        have hXr := H0.out.next hb
        have z1 := hXr.turn
        have z2 : wr.frozen? ⟨R, 390, none⟩ = false := Blk.free hXr 390
        by_cases hs : sumE es = 0
        · by_cases hm : d ≤ 1152921504606846976 - debs es
          · have hp0 : postC d c es = 0 := by
              unfold postC
              rw [if_pos hok1, if_neg (fun e => e hs), if_neg (by omega)]
            have hP := hid (fun w' (hb' : IsRef w' R (addF f c es) (d + debs es)) (ht : Touch (· = R) w w') => show PostR w R f d c es (.returned (.int .i64 0)) w' from ⟨by rw [hp0], by unfold nextF nextD; rw [if_pos hp0, if_pos hp0]; exact hb', ht⟩)
            have b5 : (sumE es != 0) = false := by simpa using hs
            have hokh := hid hok.out
            have h0' := hid hXr
            have hR1 := hR.below hb
            have hT1 : Touch (· = R) w wr := Touch.of_below hb
            generalize sumE es = S at *
            generalize hD : debs es = D at *
            have HD := hid hD
            have b6 : decide (1152921504606846976 < d + D) = false := by simp; omega
            clear hs hall hok1 hok hp0 hD hXr z2 hb hR
            obtain ⟨cn, rfl⟩ : ∃ cn : Nat, c = (cn : Int) := ⟨c.toNat, by omega⟩
            have hcn : cn ≤ 64 := by omega
            have hcn2 : (cn : Int) < 65 := by omega
            go_wp2_with fail
            go_loopw [11] (fun i wr => ∃ k : Nat, k ≤ es.length ∧ i = .int .i64 k ∧ Hid (IsRef wr R (addF f cn (es.take k)) d) ∧ Touch (· = R) w wr ∧ Rd wr A (es.flatMap enE)) (fun i _ => es.length - (intOf i).toNat)
            case atStart => exact ⟨0, Nat.zero_le _, rfl, h0', hT1, hR1⟩
            case round =>
              clear h0' hT1 hR1 z1
              obtain ⟨k, hk, rfl, hX, hT, hF⟩ := hrel
              by_cases hlt : k < es.length
              · obtain ⟨x, hx⟩ : ∃ x, es[k]? = some x := ⟨es[k], List.getElem?_eq_getElem hlt⟩
                obtain ⟨b, off, rfl, hbs, hcc⟩ := hF.at_ 2 enE_len (by omega) hx
                have HS : Hid (es.take (k + 1) = es.take k ++ [x]) := hid (by rw [List.take_add_one, hx]; rfl)
                have hox := (okE_iff x).1 (hokh.out x (List.mem_of_getElem? hx))
                obtain ⟨xa, xn⟩ := x
                simp only at hox
                obtain ⟨an, rfl⟩ : ∃ an : Nat, xa = (an : Int) := ⟨xa.toNat, by omega⟩
                have han : an < 6 := by omega
                have hxn1 := hox.2.2.2.1
                have hxn2 := hox.2.2.2.2
                have han2 : (an : Int) < 6 := by omega
                have HS2 := hid (show addF f cn (es.take (k + 1)) = updF (addF f cn (es.take k)) (cn, an) xn from by rw [HS.out]; exact addF_snoc f cn _ _)
                have hbd2 := HI.out.one (cn, an)
                have hv1 : -1161928703861587968 ≤ addF f cn (es.take k) (cn, an) ∧ addF f cn (es.take k) (cn, an) ≤ 1161928703861587968 := by
                  rw [addF_apply]
                  have := sumE_bd2 (es.take k) (fun y => ((cn : Int), (an : Int)) = ((cn : Int), y.a)) (fun x hx => hokh.out x (List.mem_of_mem_take hx))
                  rw [List.length_take, Nat.min_eq_left hk] at this
                  omega
                have q0 : wr.cell? ⟨b, off + k * 2, none⟩ = some (.int .i64 (an : Int)) := hcc 0 _ rfl
                have q1 : wr.cell? ⟨b, off + k * 2 + 1, none⟩ = some (.int .i64 xn) := hcc 1 _ rfl
                have q2 := hX.out.at_ hcn han
                have q3 : wr.frozen? ⟨R, cn * 6 + an, none⟩ = false := Blk.free hX.out _
                have hX2 := IsRef.put hX.out hcn han (addF f cn (es.take k) (cn, an) + xn)
                have hT2 := hid ((hT.then (Touch.setCell wr R (cn * 6 + an) (.int .i64 (addF f cn (es.take k) (cn, an) + xn)))).drew)
                have hF2 : Hid (Rd (wr.setCell ⟨R, cn * 6 + an, none⟩ (.int .i64 (addF f cn (es.take k) (cn, an) + xn))).drew (some ⟨b, off, none⟩) (es.flatMap enE)) := hid (((Touch.setCell wr R (cn * 6 + an) (.int .i64 (addF f cn (es.take k) (cn, an) + xn))).rd hF hA).below (below_drewN (Below.refl _ _) 1))
                have hX3 : Hid (IsRef (wr.setCell ⟨R, cn * 6 + an, none⟩ (.int .i64 (addF f cn (es.take k) (cn, an) + xn))).drew R (addF f cn (es.take (k + 1))) d) := hid (by
                  rw [HS2.out, updF_put]
                  exact hX2)
                clear hX2 hcc hx hox hX hT hF hbd2 HS HS2
                generalize addF f cn (es.take k) (cn, an) = v0 at *
                go_wp2_with fail
                refine wp_tail 29 (by kernel_rfl) (by kernel_rfl) ?_
                simp only [List.take_succ_cons, List.take_zero, List.drop_succ_cons, List.drop_zero]
                repeat still_step
                refine wpStill_nil ?_
                go_wp2_with fail
                go_roundw
                case rel => exact ⟨k + 1, by omega, by go_num, hX3, hT2.out, hF2.out⟩
                case measure => simp [intOf]; omega
              · have hk' : k = es.length := by omega
                subst hk'
                have hX2 := hX.out
                rw [List.take_length] at hX2
                have z1 := hX2.turn
                have z2 : wr.frozen? ⟨R, 390, none⟩ = false := Blk.free hX2 390
                have HE := hid (hX2.putT (d + D))
                have HT := hid (hT.then (Touch.setCell wr R 390 (.int .i64 (d + D))))
                clear hX2 hX hT hF hlt hk
                go_wp2_with fail
                go_ret
                exact hP.out _ HE.out HT.out
          · have hP := hid (PostR.no hXr (Touch.of_below hb) (c := c) (es := es) (r := 72) (by unfold postC; rw [if_pos hok1, if_neg (fun e => e hs), if_pos (by omega)]) (by omega))
            have b5 : (sumE es != 0) = false := by simpa using hs
            generalize sumE es = S at *
            generalize debs es = D at *
            have b6 : decide (1152921504606846976 < d + D) = true := by simp; omega
            clear hs hall hok1 hok hXr z2
            go_wp2_with fail
            go_ret
            exact hP.out
        · have hP := hid (PostR.no hXr (Touch.of_below hb) (c := c) (es := es) (r := 160) (by unfold postC; rw [if_pos hok1, if_pos hs]) (by omega))
          have b5 : (sumE es != 0) = true := by simpa using hs
          generalize sumE es = S at *
          generalize debs es = D at *
          clear hs hall hok1 hok hXr z1 z2
          go_wp2_with fail
          go_ret
          exact hP.out
  · have hP := hid (PostR.no (d := d) h hT0 (c := c) (es := es) (r := 2) (by
      unfold postC
      rw [if_neg]
      intro e
      refine hc ?_
      have := List.length_pos_iff.2 e.2.2.1
      unfold headB
      simp only [Bool.and_eq_true, decide_eq_true_eq]
      omega) (by omega))
    have hcs : c < 1 ∨ (1 ≤ c ∧ 64 < c) ∨ (1 ≤ c ∧ c ≤ 64 ∧ es.length < 1) ∨ (1 ≤ c ∧ c ≤ 64 ∧ 1 ≤ es.length ∧ 8 < es.length) := by
      unfold headB at hc
      simp only [Bool.and_eq_true, decide_eq_true_eq] at hc
      omega
    clear hc h hI hR hT0
    rcases hcs with c1 | ⟨c1, c2⟩ | ⟨c1, c2, c3⟩ | ⟨c1, c2, c3, c4⟩
    · go_enter Try.func24, Try.ntmps24
      go_wp2_with fail
      go_ret
      exact hP.out
    · go_enter Try.func24, Try.ntmps24
      go_wp2_with fail
      go_ret
      exact hP.out
    · have b3 : decide ((es.length : Int) < 1) = true := by simp; omega
      have c3' : (es.length : Int) < 1 := by omega
      go_enter Try.func24, Try.ntmps24
      go_wp2_with fail
      go_ret
      exact hP.out
    · have b3 : decide ((es.length : Int) < 1) = false := by simp; omega
      have c4' : (8 : Int) < (es.length : Int) := by omega
      go_enter Try.func24, Try.ntmps24
      go_wp2_with fail
      go_ret
      exact hP.out

end Go.Proofs.Ytjlfhfhckomalaa
