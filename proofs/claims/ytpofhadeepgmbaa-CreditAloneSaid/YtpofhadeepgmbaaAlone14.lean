/-
  The walk of CreditAlone.
-/
import Derived.Test.YtpofhadeepgmbaaExact
namespace Go.Proofs.Ytpofhadeepgmbaa
open Go.RowKit
set_option linter.unusedVariables false

theorem zeroI (w : World) : (zeroValue 3).run Try.prog w = .ok (.int .i64 0) w := by kernel_rfl
theorem looked_kI (m : List (Int × Int)) (a : Int) : looked (.int .i64 0) kI m a = .int .i64 ((mget m a).getD 0) := by
  unfold looked kI
  cases mget m a <;> rfl
theorem expF_mset {ac : List (Int × Acc)} {c C : Int} {a : Acc} (h : C ≠ c) : expF (mset ac c a) C = expF ac C := by
  unfold expF; rw [mget_mset, if_neg h]
/-- What is held for an order was asked for by its owner. -/
def Owned (hs : List (Int × Hd)) (own : List (Int × Int)) : Prop := ∀ o d, mget hs o = some d → mget own o = some d.c

theorem hold_of {ac : List (Int × Acc)} {hs : List (Int × Hd)} {o c n : Int} (hok : 1 ≤ o ∧ 0 ≤ n ∧ n ≤ 1125899906842624) (hr : holdR ac hs o c n = 0) : ∃ a, mget ac c = some a ∧ mget hs o = none ∧ n ≤ wrap64 (a.l - a.e) := by
  unfold holdR at hr
  rw [if_pos hok] at hr
  cases hm : mget ac c with
  | none => rw [hm] at hr; simp at hr
  | some a =>
    rw [hm] at hr
    simp only at hr
    cases hn : mget hs o with
    | some d => rw [hn] at hr; simp at hr
    | none =>
      rw [hn, if_neg (by decide)] at hr
      refine ⟨a, rfl, rfl, ?_⟩
      split at hr
      · exact absurd hr (by decide)
      · omega
theorem owned_set {hs : List (Int × Hd)} {own : List (Int × Int)} {o c n : Int} (h : Owned hs own) : Owned (mset hs o ⟨o, c, n⟩) (mset own o c) := by
  intro p d hd
  rw [mget_mset] at hd ⊢
  split at hd
  · injection hd with hd
    subst hd
    rename_i e
    rw [if_pos e]
  · rename_i e
    rw [if_neg e]
    exact h p d hd
theorem owned_del {hs : List (Int × Hd)} {own : List (Int × Int)} {o : Int} (h : Owned hs own) : Owned (mdel hs o) own := by
  intro p d hd
  rw [mget_mdel] at hd
  split at hd
  · cases hd
  · exact h p d hd

set_option maxRecDepth 100000 in
set_option maxHeartbeats 40000000 in
theorem creditAlone_walk (l : List Quad) (A : Option Addr) (cp : Nat) (C : Int) (w : World) (hR : Rd w A (l.flatMap en4)) (hl : l.length ≤ 140737488351232) :
    Calls Try.prog 4 #[.slice A l.length cp, .int .i64 C] w (Law w) := by
  have hmm := @run_makeMap Try.prog
  go_enter Try.func4, Try.ntmps4
  go_wp2_with fail
  refine (wakes_any _).mono ?_
  rintro e w1 ⟨rfl, hb⟩
  go_wp2_with fail
  refine (new_any _).mono ?_
  rintro e w2 ⟨X, BA, BH, rfl, h, hb1, hla, hlh, hlx⟩
  have hsz := hb.size
  replace hb := bthen hb hb1
  have hM := IsMap.made w2 kI kI
  replace h := h.alloc (.map #[] 0)
  have hMA : w2.heap.size ≠ BA := by omega
  have hMH : w2.heap.size ≠ BH := by omega
  have hMX : w2.heap.size ≠ X := by omega
  have hMw : w.heap.size ≤ w2.heap.size := hb.size
  have hM1 : w1.heap.size ≤ w2.heap.size := hb1.size
  replace hb := hb.alloc hb.size (.map #[] 0)
  clear hb1 hla hlh hlx
  go_wp2_with fail
  obtain ⟨w3, hw3⟩ : ∃ w3, w3 = w2.alloc (.map #[] 0) := ⟨_, rfl⟩
  rw [← hw3] at h hM hb ⊢
  have hn3 : w1.heap.size ≤ w3.heap.size := by rw [hw3]; simp; omega
  obtain ⟨M, hMM⟩ : ∃ M, M = w2.heap.size := ⟨_, rfl⟩
  rw [← hMM] at hM hMA hMH hMX hMw hM1 ⊢
  clear hw3 hMM hmm
  go_loopw [22] (fun i wr => ∃ (k : Nat) (ac : List (Int × Acc)) (hs : List (Int × Hd)) (own : List (Int × Int)), k ≤ l.length ∧ i = .int .i64 k ∧ Hid (Owned hs own) ∧
      IsBook w1.heap.size wr X BA BH ac hs ∧ IsMap wr M kI kI own ∧ Below w.heap.size w wr ∧ w1.heap.size ≤ wr.heap.size) (fun i _ => l.length - (intOf i).toNat)
  case atStart => exact ⟨0, [], [], [], Nat.zero_le _, rfl, hid (fun _ _ h => by cases h), h, hM, hb, hn3⟩
  case round =>
    clear h hM hb hn3
    obtain ⟨k, ac, hs, own, hk, rfl, hO, h, hM, hb, hn⟩ := hrel
    by_cases hlt : k < l.length
    · obtain ⟨x, hx⟩ : ∃ x, l[k]? = some x := ⟨l[k], List.getElem?_eq_getElem hlt⟩
      have hR1 := hR.below hb
      obtain ⟨b, off, rfl, hbs, hcc⟩ := hR1.at_ 4 en4_len (by omega) hx
      obtain ⟨xa, xo, xc, xm⟩ := x
      have q0 : wr.cell? ⟨b, off + k * 4, none⟩ = some (.int .i64 xa) := hcc 0 _ rfl
      have q1 : wr.cell? ⟨b, off + k * 4 + 1, none⟩ = some (.int .i64 xo) := hcc 1 _ rfl
      have q2 : wr.cell? ⟨b, off + k * 4 + 2, none⟩ = some (.int .i64 xc) := hcc 2 _ rfl
      have q3 : wr.cell? ⟨b, off + k * 4 + 3, none⟩ = some (.int .i64 xm) := hcc 3 _ rfl
      clear hcc hx
      obtain ⟨v1, v2, v3, hv⟩ : ∃ v1 v2 v3, expF ac C = (v1, v2, v3) := ⟨_, _, _, rfl⟩
      have HV := hid hv
      clear hv
      have hG : Blk (wr.alloc (.cells #[.int .i64 xa, .int .i64 xo, .int .i64 xc, .int .i64 xm] 35)) wr.heap.size 35 #[.int .i64 xa, .int .i64 xo, .int .i64 xc, .int .i64 xm] := Blk.new _ _ _
      replace h := h.alloc (.cells #[.int .i64 xa, .int .i64 xo, .int .i64 xc, .int .i64 xm] 35)
      replace hM := hM.alloc (.cells #[.int .i64 xa, .int .i64 xo, .int .i64 xc, .int .i64 xm] 35)
      replace hb := hb.alloc hb.size (.cells #[.int .i64 xa, .int .i64 xo, .int .i64 xc, .int .i64 xm] 35)
      have E := exposure_any h C
      rw [HV.out] at E
      replace E := hid E
      go_wp2_with fail
      refine E.out.mono ?_
      rintro e5 w5 ⟨rfl, hb5⟩
      replace h := h.next hb5
      replace hM := hM.next hb5
      replace hG := hG.next hb5
      replace hb := bthen hb hb5
      have hn5 : w1.heap.size ≤ w5.heap.size := by have := hb5.size; simp at this; omega
      clear hb5 E hR1 hbs q0 q1 q2 q3 hn
      have q0 : w5.cell? ⟨wr.heap.size, 0, none⟩ = some (.int .i64 xa) := hG.cell 0
      have q1 : w5.cell? ⟨wr.heap.size, 1, none⟩ = some (.int .i64 xo) := hG.cell 1
      have q2 : w5.cell? ⟨wr.heap.size, 2, none⟩ = some (.int .i64 xc) := hG.cell 2
      have q3 : w5.cell? ⟨wr.heap.size, 3, none⟩ = some (.int .i64 xm) := hG.cell 3
      have nX := hG
      obtain ⟨G, hGG⟩ : ∃ G, G = wr.heap.size := ⟨_, rfl⟩
      rw [← hGG] at hG q0 q1 q2 q3 ⊢
      clear hGG nX
      have hwo : ∀ k', Own BA BH ac k' → ¬ G = k' := fun k' hk' e => by
        subst e
        rcases hk' with rfl | rfl | ⟨p, hp, e⟩
        · exact h.acs.notBlk hG rfl
        · exact h.hds.notBlk hG rfl
        · exact (h.cells p hp).ne_ hG (by decide) e
      have hMo : ∀ k', Own BA BH ac k' → ¬ M = k' := fun k' hk' e => by
        subst e
        rcases hk' with rfl | rfl | ⟨p, hp, e⟩
        · exact hMA rfl
        · exact hMH rfl
        · exact hM.notBlk (h.cells p hp) e.symm
      have HWO := hid hwo
      have HMO := hid hMo
      clear hwo hMo
      by_cases k1 : xa = 1
      · subst k1
        cases hz : (xc == C) with
        | true =>
          by_cases hok : custOk xc xm
          · have K := hid (customer_yes h hn5 xc xm hok)
            clear hok
            go_wp2_with fail
            refine K.out.mono ?_
            rintro e6 w6 ⟨g, rfl, hg, h6, hT⟩
            replace hM := hT.isMap hM (fun hk => HMO.out _ hk rfl)
            replace hG := hT.blk hG (fun hk => HWO.out _ hk rfl)
            replace hb := hb.trans (hT.below hb.size (fun k' hk' => Nat.le_trans hsz (h.own_low hk')))
            replace hn5 := Nat.le_trans hn5 hT.size
            clear hT h q0 q1 q2 q3
            have h := h6
            clear h6
            clear K hg
            obtain ⟨u1, u2, u3, hu⟩ : ∃ u1 u2 u3, expF (custAc ac xc xm g) C = (u1, u2, u3) := ⟨_, _, _, rfl⟩
            have E := exposure_any h C
            rw [hu] at E
            replace E := hid E
            clear hu
            go_wp2_with fail
            refine E.out.mono ?_
            rintro e7 w7 ⟨rfl, hb7⟩
            replace h := h.next hb7
            replace hM := hM.next hb7
            replace hb := bthen hb hb7
            have hn7 := Nat.le_trans hn5 hb7.size
            clear hb7 E hn5
            go_wp2_with fail
            go_roundw
            case rel => exact ⟨k + 1, _, hs, own, by omega, by go_num, hO, h, hM, hb, hn7⟩
            case measure => simp [intOf]; omega
          · have K := hid (customer_no h xc xm hok)
            clear hok
            go_wp2_with fail
            refine K.out.mono ?_
            rintro e6 w6 ⟨rfl, rfl⟩
            obtain ⟨u1, u2, u3, hu⟩ : ∃ u1 u2 u3, expF ac C = (u1, u2, u3) := ⟨_, _, _, rfl⟩
            have E := exposure_any h C
            rw [hu] at E
            replace E := hid E
            clear hu
            go_wp2_with fail
            refine E.out.mono ?_
            rintro e7 w7 ⟨rfl, hb7⟩
            replace h := h.next hb7
            replace hM := hM.next hb7
            replace hb := bthen hb hb7
            have hn7 := Nat.le_trans hn5 hb7.size
            clear hb7 E hn5
            go_wp2_with fail
            go_roundw
            case rel => exact ⟨k + 1, ac, hs, own, by omega, by go_num, hO, h, hM, hb, hn7⟩
            case measure => simp [intOf]; omega
        | false =>
          have hne : C ≠ xc := by rintro rfl; simp at hz
          have HNE := hid hne
          clear hne
          by_cases hok : custOk xc xm
          · have K := hid (customer_yes h hn5 xc xm hok)
            clear hok
            go_wp2_with fail
            refine K.out.mono ?_
            rintro e6 w6 ⟨g, rfl, hg, h6, hT⟩
            replace hM := hT.isMap hM (fun hk => HMO.out _ hk rfl)
            replace hG := hT.blk hG (fun hk => HWO.out _ hk rfl)
            replace hb := hb.trans (hT.below hb.size (fun k' hk' => Nat.le_trans hsz (h.own_low hk')))
            replace hn5 := Nat.le_trans hn5 hT.size
            clear hT h q0 q1 q2 q3
            have h := h6
            clear h6
            clear K hg
            have hu : expF (custAc ac xc xm g) C = (v1, v2, v3) := by unfold custAc; rw [expF_mset HNE.out]; exact HV.out
            have E := exposure_any h C
            rw [hu] at E
            replace E := hid E
            clear hu
            go_wp2_with fail
            refine E.out.mono ?_
            rintro e7 w7 ⟨rfl, hb7⟩
            replace h := h.next hb7
            replace hM := hM.next hb7
            replace hb := bthen hb hb7
            have hn7 := Nat.le_trans hn5 hb7.size
            clear hb7 E hn5
            go_wp2_with fail
            go_roundw
            case rel => exact ⟨k + 1, _, hs, own, by omega, by go_num, hO, h, hM, hb, hn7⟩
            case measure => simp [intOf]; omega
          · have K := hid (customer_no h xc xm hok)
            clear hok
            go_wp2_with fail
            refine K.out.mono ?_
            rintro e6 w6 ⟨rfl, rfl⟩
            have hu : expF ac C = (v1, v2, v3) := by exact HV.out
            have E := exposure_any h C
            rw [hu] at E
            replace E := hid E
            clear hu
            go_wp2_with fail
            refine E.out.mono ?_
            rintro e7 w7 ⟨rfl, hb7⟩
            replace h := h.next hb7
            replace hM := hM.next hb7
            replace hb := bthen hb hb7
            have hn7 := Nat.le_trans hn5 hb7.size
            clear hb7 E hn5
            go_wp2_with fail
            go_roundw
            case rel => exact ⟨k + 1, ac, hs, own, by omega, by go_num, hO, h, hM, hb, hn7⟩
            case measure => simp [intOf]; omega
      · have k1' : (xa == 1) = false := by simpa using k1
        clear k1
        by_cases k2 : xa = 2
        · subst k2
          cases hz : (xc == C) with
          | true =>
            by_cases hok : 1 ≤ xo ∧ 0 ≤ xm ∧ xm ≤ 1125899906842624
            · by_cases hr : holdR ac hs xo xc xm = 0
              · obtain ⟨a, ha, hno, hle⟩ : ∃ a, mget ac xc = some a ∧ mget hs xo = none ∧ xm ≤ wrap64 (a.l - a.e) := hold_of hok hr
                have K := hid (hold_ok h xo xc xm hok a ha hno hle)
                clear hok hr ha hno hle
                go_wp2_with fail
                refine K.out.mono ?_
                rintro e6 w6 ⟨rfl, h6, hT⟩
                replace hM := hT.isMap hM (fun hk => HMO.out _ hk rfl)
                replace hG := hT.blk hG (fun hk => HWO.out _ hk rfl)
                replace hb := hb.trans (hT.below hb.size (fun k' hk' => Nat.le_trans hsz (h.own_low hk')))
                replace hn5 := Nat.le_trans hn5 hT.size
                clear hT h q0 q1 q2 q3
                have h := h6
                clear h6
                clear K
                have q1 : w6.cell? ⟨G, 1, none⟩ = some (.int .i64 xo) := hG.cell 1
                have q2 : w6.cell? ⟨G, 2, none⟩ = some (.int .i64 xc) := hG.cell 2
                go_wp2_with (first | (at_mapUpdate; refine wpList_store _ rfl _ _ _ 33 3 rfl keyL Try.underlying33 M own rfl hM xo xc rfl rfl ?_; intro w8 hM8 hg8 hs8; replace h := h.touch (Touch.of_grown hg8) (fun e => hMX e.symm) (fun k' hk' e => by subst e; rcases hk' with e | e | ⟨p, hp, e⟩; exact hMA e; exact hMH e; exact hM.notBlk (h.cells p hp) e.symm); replace hb := hb.trans (grown_below hg8 hb.size hMw); replace hn5 := Nat.le_trans hn5 hg8.size; clear hs8 hg8 hM; have hM := hM8; clear hM8))
                all_goals try (clear q1 q2)
                have hO2 : Hid (Owned (mset hs xo ⟨xo, xc, xm⟩) (mset own xo xc)) := hid (owned_set hO.out)
                obtain ⟨u1, u2, u3, hu⟩ : ∃ u1 u2 u3, expF (mset ac xc ⟨a.g, a.l, wrap64 (a.e + xm)⟩) C = (u1, u2, u3) := ⟨_, _, _, rfl⟩
                have E := exposure_any h C
                rw [hu] at E
                replace E := hid E
                clear hu
                refine E.out.mono ?_
                rintro e7 w7 ⟨rfl, hb7⟩
                replace h := h.next hb7
                replace hM := hM.next hb7
                replace hb := bthen hb hb7
                have hn7 := Nat.le_trans hn5 hb7.size
                clear hb7 E hn5
                go_wp2_with fail
                go_roundw
                case rel => exact ⟨k + 1, _, _, _, by omega, by go_num, hO2, h, hM, hb, hn7⟩
                case measure => simp [intOf]; omega
              · have K := hid (hold_no h xo xc xm hok hr)
                have hr2 : (holdR ac hs xo xc xm == 0) = false := by simpa using hr
                clear hok hr
                generalize holdR ac hs xo xc xm = r at K hr2
                go_wp2_with fail
                refine K.out.mono ?_
                rintro e6 w6 ⟨rfl, hb6⟩
                replace h := h.next hb6
                replace hM := hM.next hb6
                replace hG := hG.next hb6
                replace hb := bthen hb hb6
                replace hn5 := Nat.le_trans hn5 hb6.size
                clear hb6 q0 q1 q2 q3
                clear K
                obtain ⟨u1, u2, u3, hu⟩ : ∃ u1 u2 u3, expF ac C = (u1, u2, u3) := ⟨_, _, _, rfl⟩
                have E := exposure_any h C
                rw [hu] at E
                replace E := hid E
                clear hu
                go_wp2_with fail
                refine E.out.mono ?_
                rintro e7 w7 ⟨rfl, hb7⟩
                replace h := h.next hb7
                replace hM := hM.next hb7
                replace hb := bthen hb hb7
                have hn7 := Nat.le_trans hn5 hb7.size
                clear hb7 E hn5
                go_wp2_with fail
                go_roundw
                case rel => exact ⟨k + 1, ac, hs, own, by omega, by go_num, hO, h, hM, hb, hn7⟩
                case measure => simp [intOf]; omega
            · have K := hid (hold_arg h xo xc xm hok)
              clear hok
              go_wp2_with fail
              refine K.out.mono ?_
              rintro e6 w6 ⟨rfl, rfl⟩
              obtain ⟨u1, u2, u3, hu⟩ : ∃ u1 u2 u3, expF ac C = (u1, u2, u3) := ⟨_, _, _, rfl⟩
              have E := exposure_any h C
              rw [hu] at E
              replace E := hid E
              clear hu
              go_wp2_with fail
              refine E.out.mono ?_
              rintro e7 w7 ⟨rfl, hb7⟩
              replace h := h.next hb7
              replace hM := hM.next hb7
              replace hb := bthen hb hb7
              have hn7 := Nat.le_trans hn5 hb7.size
              clear hb7 E hn5
              go_wp2_with fail
              go_roundw
              case rel => exact ⟨k + 1, ac, hs, own, by omega, by go_num, hO, h, hM, hb, hn7⟩
              case measure => simp [intOf]; omega
          | false =>
            have hne : C ≠ xc := by rintro rfl; simp at hz
            have HNE := hid hne
            clear hne
            by_cases hok : 1 ≤ xo ∧ 0 ≤ xm ∧ xm ≤ 1125899906842624
            · by_cases hr : holdR ac hs xo xc xm = 0
              · obtain ⟨a, ha, hno, hle⟩ : ∃ a, mget ac xc = some a ∧ mget hs xo = none ∧ xm ≤ wrap64 (a.l - a.e) := hold_of hok hr
                have K := hid (hold_ok h xo xc xm hok a ha hno hle)
                clear hok hr ha hno hle
                go_wp2_with fail
                refine K.out.mono ?_
                rintro e6 w6 ⟨rfl, h6, hT⟩
                replace hM := hT.isMap hM (fun hk => HMO.out _ hk rfl)
                replace hG := hT.blk hG (fun hk => HWO.out _ hk rfl)
                replace hb := hb.trans (hT.below hb.size (fun k' hk' => Nat.le_trans hsz (h.own_low hk')))
                replace hn5 := Nat.le_trans hn5 hT.size
                clear hT h q0 q1 q2 q3
                have h := h6
                clear h6
                clear K
                have q1 : w6.cell? ⟨G, 1, none⟩ = some (.int .i64 xo) := hG.cell 1
                have q2 : w6.cell? ⟨G, 2, none⟩ = some (.int .i64 xc) := hG.cell 2
                go_wp2_with (first | (at_mapUpdate; refine wpList_store _ rfl _ _ _ 33 3 rfl keyL Try.underlying33 M own rfl hM xo xc rfl rfl ?_; intro w8 hM8 hg8 hs8; replace h := h.touch (Touch.of_grown hg8) (fun e => hMX e.symm) (fun k' hk' e => by subst e; rcases hk' with e | e | ⟨p, hp, e⟩; exact hMA e; exact hMH e; exact hM.notBlk (h.cells p hp) e.symm); replace hb := hb.trans (grown_below hg8 hb.size hMw); replace hn5 := Nat.le_trans hn5 hg8.size; clear hs8 hg8 hM; have hM := hM8; clear hM8))
                all_goals try (clear q1 q2)
                have hO2 : Hid (Owned (mset hs xo ⟨xo, xc, xm⟩) (mset own xo xc)) := hid (owned_set hO.out)
                have hu : expF (mset ac xc ⟨a.g, a.l, wrap64 (a.e + xm)⟩) C = (v1, v2, v3) := by rw [expF_mset HNE.out]; exact HV.out
                have E := exposure_any h C
                rw [hu] at E
                replace E := hid E
                clear hu
                refine E.out.mono ?_
                rintro e7 w7 ⟨rfl, hb7⟩
                replace h := h.next hb7
                replace hM := hM.next hb7
                replace hb := bthen hb hb7
                have hn7 := Nat.le_trans hn5 hb7.size
                clear hb7 E hn5
                go_wp2_with fail
                go_roundw
                case rel => exact ⟨k + 1, _, _, _, by omega, by go_num, hO2, h, hM, hb, hn7⟩
                case measure => simp [intOf]; omega
              · have K := hid (hold_no h xo xc xm hok hr)
                have hr2 : (holdR ac hs xo xc xm == 0) = false := by simpa using hr
                clear hok hr
                generalize holdR ac hs xo xc xm = r at K hr2
                go_wp2_with fail
                refine K.out.mono ?_
                rintro e6 w6 ⟨rfl, hb6⟩
                replace h := h.next hb6
                replace hM := hM.next hb6
                replace hG := hG.next hb6
                replace hb := bthen hb hb6
                replace hn5 := Nat.le_trans hn5 hb6.size
                clear hb6 q0 q1 q2 q3
                clear K
                have hu : expF ac C = (v1, v2, v3) := by exact HV.out
                have E := exposure_any h C
                rw [hu] at E
                replace E := hid E
                clear hu
                go_wp2_with fail
                refine E.out.mono ?_
                rintro e7 w7 ⟨rfl, hb7⟩
                replace h := h.next hb7
                replace hM := hM.next hb7
                replace hb := bthen hb hb7
                have hn7 := Nat.le_trans hn5 hb7.size
                clear hb7 E hn5
                go_wp2_with fail
                go_roundw
                case rel => exact ⟨k + 1, ac, hs, own, by omega, by go_num, hO, h, hM, hb, hn7⟩
                case measure => simp [intOf]; omega
            · have K := hid (hold_arg h xo xc xm hok)
              clear hok
              go_wp2_with fail
              refine K.out.mono ?_
              rintro e6 w6 ⟨rfl, rfl⟩
              have hu : expF ac C = (v1, v2, v3) := by exact HV.out
              have E := exposure_any h C
              rw [hu] at E
              replace E := hid E
              clear hu
              go_wp2_with fail
              refine E.out.mono ?_
              rintro e7 w7 ⟨rfl, hb7⟩
              replace h := h.next hb7
              replace hM := hM.next hb7
              replace hb := bthen hb hb7
              have hn7 := Nat.le_trans hn5 hb7.size
              clear hb7 E hn5
              go_wp2_with fail
              go_roundw
              case rel => exact ⟨k + 1, ac, hs, own, by omega, by go_num, hO, h, hM, hb, hn7⟩
              case measure => simp [intOf]; omega
        · have k2' : (xa == 2) = false := by simpa using k2
          clear k2
          by_cases k3 : xa = 3
          · subst k3
            have hlk := hM.look keyL Try.underlying33 (zeroI _) xo
            rw [looked_kI] at hlk
            cases hm : mget hs xo with
            | none =>
              have K := hid (release_no h xo hm)
              clear hm
              generalize (mget own xo).getD 0 = oc at hlk
              have hlk2 : (Instr.lookup 33 (.map (some M)) (.int .i64 xo) false).run Try.prog w5 = .ok (.int .i64 oc) w5 := hlk
              clear hlk
              cases hz : (oc == C) with
              | true =>
                go_wp2_with fail
                refine K.out.mono ?_
                rintro e6 w6 ⟨rfl, hb6⟩
                replace h := h.next hb6
                replace hM := hM.next hb6
                replace hG := hG.next hb6
                replace hb := bthen hb hb6
                replace hn5 := Nat.le_trans hn5 hb6.size
                clear hb6 q0 q1 q2 q3
                clear K hlk2
                obtain ⟨u1, u2, u3, hu⟩ : ∃ u1 u2 u3, expF ac C = (u1, u2, u3) := ⟨_, _, _, rfl⟩
                have E := exposure_any h C
                rw [hu] at E
                replace E := hid E
                clear hu
                go_wp2_with fail
                refine E.out.mono ?_
                rintro e7 w7 ⟨rfl, hb7⟩
                replace h := h.next hb7
                replace hM := hM.next hb7
                replace hb := bthen hb hb7
                have hn7 := Nat.le_trans hn5 hb7.size
                clear hb7 E hn5
                go_wp2_with fail
                go_roundw
                case rel => exact ⟨k + 1, ac, hs, own, by omega, by go_num, hO, h, hM, hb, hn7⟩
                case measure => simp [intOf]; omega
              | false =>
                go_wp2_with fail
                refine K.out.mono ?_
                rintro e6 w6 ⟨rfl, hb6⟩
                replace h := h.next hb6
                replace hM := hM.next hb6
                replace hG := hG.next hb6
                replace hb := bthen hb hb6
                replace hn5 := Nat.le_trans hn5 hb6.size
                clear hb6 q0 q1 q2 q3
                clear K hlk2
                have hu : expF ac C = (v1, v2, v3) := by exact HV.out
                have E := exposure_any h C
                rw [hu] at E
                replace E := hid E
                clear hu
                go_wp2_with fail
                refine E.out.mono ?_
                rintro e7 w7 ⟨rfl, hb7⟩
                replace h := h.next hb7
                replace hM := hM.next hb7
                replace hb := bthen hb hb7
                have hn7 := Nat.le_trans hn5 hb7.size
                clear hb7 E hn5
                go_wp2_with fail
                go_roundw
                case rel => exact ⟨k + 1, ac, hs, own, by omega, by go_num, hO, h, hM, hb, hn7⟩
                case measure => simp [intOf]; omega
            | some d =>
              obtain ⟨a, ha⟩ := h.has (xo, d) (mget_mem hm)
              have hoc := hO.out xo d hm
              have K := hid (release_yes h xo d hm a ha)
              have hO2 : Hid (Owned (mdel hs xo) own) := hid (owned_del hO.out)
              rw [hoc] at hlk
              have hlk2 : (Instr.lookup 33 (.map (some M)) (.int .i64 xo) false).run Try.prog w5 = .ok (.int .i64 d.c) w5 := hlk
              clear hlk hm ha hoc
              cases hz : (d.c == C) with
              | true =>
                go_wp2_with fail
                refine K.out.mono ?_
                rintro e6 w6 ⟨rfl, h6, hT⟩
                replace hM := hT.isMap hM (fun hk => HMO.out _ hk rfl)
                replace hG := hT.blk hG (fun hk => HWO.out _ hk rfl)
                replace hb := hb.trans (hT.below hb.size (fun k' hk' => Nat.le_trans hsz (h.own_low hk')))
                replace hn5 := Nat.le_trans hn5 hT.size
                clear hT h q0 q1 q2 q3
                have h := h6
                clear h6
                clear K hlk2
                obtain ⟨u1, u2, u3, hu⟩ : ∃ u1 u2 u3, expF (mset ac d.c ⟨a.g, a.l, wrap64 (a.e - d.a)⟩) C = (u1, u2, u3) := ⟨_, _, _, rfl⟩
                have E := exposure_any h C
                rw [hu] at E
                replace E := hid E
                clear hu
                go_wp2_with fail
                refine E.out.mono ?_
                rintro e7 w7 ⟨rfl, hb7⟩
                replace h := h.next hb7
                replace hM := hM.next hb7
                replace hb := bthen hb hb7
                have hn7 := Nat.le_trans hn5 hb7.size
                clear hb7 E hn5
                go_wp2_with fail
                go_roundw
                case rel => exact ⟨k + 1, _, _, own, by omega, by go_num, hO2, h, hM, hb, hn7⟩
                case measure => simp [intOf]; omega
              | false =>
                have HNE := hid (show C ≠ d.c from fun e => by rw [← e] at hz; simp at hz)
                go_wp2_with fail
                refine K.out.mono ?_
                rintro e6 w6 ⟨rfl, h6, hT⟩
                replace hM := hT.isMap hM (fun hk => HMO.out _ hk rfl)
                replace hG := hT.blk hG (fun hk => HWO.out _ hk rfl)
                replace hb := hb.trans (hT.below hb.size (fun k' hk' => Nat.le_trans hsz (h.own_low hk')))
                replace hn5 := Nat.le_trans hn5 hT.size
                clear hT h q0 q1 q2 q3
                have h := h6
                clear h6
                clear K hlk2
                have hu : expF (mset ac d.c ⟨a.g, a.l, wrap64 (a.e - d.a)⟩) C = (v1, v2, v3) := by rw [expF_mset HNE.out]; exact HV.out
                have E := exposure_any h C
                rw [hu] at E
                replace E := hid E
                clear hu
                go_wp2_with fail
                refine E.out.mono ?_
                rintro e7 w7 ⟨rfl, hb7⟩
                replace h := h.next hb7
                replace hM := hM.next hb7
                replace hb := bthen hb hb7
                have hn7 := Nat.le_trans hn5 hb7.size
                clear hb7 E hn5
                go_wp2_with fail
                go_roundw
                case rel => exact ⟨k + 1, _, _, own, by omega, by go_num, hO2, h, hM, hb, hn7⟩
                case measure => simp [intOf]; omega
          · have k3' : (xa == 3) = false := by simpa using k3
            clear k3
            cases hz : (xc == C) with
            | true =>
              obtain ⟨u1, u2, u3, hu⟩ : ∃ u1 u2 u3, expF ac C = (u1, u2, u3) := ⟨_, _, _, rfl⟩
              have E := exposure_any h C
              rw [hu] at E
              replace E := hid E
              clear hu
              go_wp2_with fail
              refine E.out.mono ?_
              rintro e7 w7 ⟨rfl, hb7⟩
              replace h := h.next hb7
              replace hM := hM.next hb7
              replace hb := bthen hb hb7
              have hn7 := Nat.le_trans hn5 hb7.size
              clear hb7 E hn5
              go_wp2_with fail
              go_roundw
              case rel => exact ⟨k + 1, ac, hs, own, by omega, by go_num, hO, h, hM, hb, hn7⟩
              case measure => simp [intOf]; omega
            | false =>
              have hne : C ≠ xc := by rintro rfl; simp at hz
              have HNE := hid hne
              clear hne
              have hu : expF ac C = (v1, v2, v3) := by exact HV.out
              have E := exposure_any h C
              rw [hu] at E
              replace E := hid E
              clear hu
              go_wp2_with fail
              refine E.out.mono ?_
              rintro e7 w7 ⟨rfl, hb7⟩
              replace h := h.next hb7
              replace hM := hM.next hb7
              replace hb := bthen hb hb7
              have hn7 := Nat.le_trans hn5 hb7.size
              clear hb7 E hn5
              go_wp2_with fail
              go_roundw
              case rel => exact ⟨k + 1, ac, hs, own, by omega, by go_num, hO, h, hM, hb, hn7⟩
              case measure => simp [intOf]; omega
    · go_wp2_with fail
      go_ret
      exact ⟨rfl, hb⟩

end Go.Proofs.Ytpofhadeepgmbaa
