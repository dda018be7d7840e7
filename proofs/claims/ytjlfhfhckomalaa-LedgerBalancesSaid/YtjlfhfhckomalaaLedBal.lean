/-
  The walk of LedgerBalances.
-/
import Derived.Test.YtjlfhfhckomalaaLedRest
import Derived.Test.YtjlfhfhckomalaaLedRefused
namespace Go.Proofs.Ytjlfhfhckomalaa
open Go.RowKit Go.WideShapes Go.ChangeShapes Go.ChangeAt Go.Deep
set_option linter.unusedVariables false

set_option maxRecDepth 100000 in
set_option maxHeartbeats 16000000 in
theorem ledgerBalances_walk (hS : SortsL) (l : List Po) (A : Option Addr) (cp : Nat) (w : World) (hR : Rd w A (l.flatMap enPo)) (hok : ∀ p ∈ l, OkPo w p) (hl : l.length * 32 ≤ 140737488351232) :
    Calls Try.prog 8 #[.slice A l.length cp] w (Law w) := by
  have HOK := hid hok
  clear hok
  go_enter Try.func8, Try.ntmps8
  go_wp2_with fail
  refine (wakes_any hS _).mono ?_
  rintro e w1 ⟨rfl, hb⟩
  go_wp2_with fail
  refine (lnew_any _).mono ?_
  rintro e w2 ⟨X, B, rfl, hB, hX, h, hb1⟩
  have hb2 := bthen hb hb1
  have HX1 : w.heap.size ≤ X := by have := hb.size; omega
  have HB1 : w.heap.size ≤ B := by have := hb.size; omega
  clear hb hb1 hB hX
  go_wp2_with fail
  go_loopw [21] (fun i wr => ∃ k : Nat, k ≤ l.length ∧ i = .int .i64 k ∧ IsLed wr X B (fdL (l.take k)).1 (fdL (l.take k)).2 ∧ Below w.heap.size w wr) (fun i _ => l.length - (intOf i).toNat)
  case atStart => exact ⟨0, Nat.zero_le _, rfl, h, hb2⟩
  case round =>
    clear h hb2
    obtain ⟨k, hk, rfl, h, hb⟩ := hrel
    by_cases hlt : k < l.length
    · obtain ⟨y, hy⟩ : ∃ y, l[k]? = some y := ⟨l[k], List.getElem?_eq_getElem hlt⟩
      have hR1 := hR.below hb
      obtain ⟨b, off, rfl, hbs, hcc⟩ := hR1.at_ 2 enPo_len (by omega) hy
      have hOK0 := HOK.out y (List.mem_of_getElem? hy)
      have HS : Hid (fdL (l.take (k + 1)) = (nextF (fdL (l.take k)).1 (fdL (l.take k)).2 y.c y.es, nextD (fdL (l.take k)).2 y.c y.es)) := hid (by rw [List.take_add_one, hy]; exact fdL_snoc _ _)
      have q0 : wr.cell? ⟨b, off + k * 2, none⟩ = some (.int .i64 y.c) := hcc 0 _ rfl
      have q1 : wr.cell? ⟨b, off + k * 2 + 1, none⟩ = some (.slice y.A y.es.length y.cap) := hcc 1 _ rfl
      have hwb : Below wr.heap.size wr (wr.alloc (.cells #[.int .i64 y.c, .slice y.A y.es.length y.cap] 28)) := (Below.refl _ _).alloc (Nat.le_refl _) _
      have P1 := hid (lpost_any y.c y.es y.A y.cap _ (h.next hwb) ((hOK0.next hb).next hwb).rd (by have := hOK0.len; omega) (hOK0.far HX1 HB1))
      have hb' := hid (hb.alloc hb.size (.cells #[.int .i64 y.c, .slice y.A y.es.length y.cap] 28))
      clear hcc hy hR1 h hb hwb hOK0
      go_wp2_with fail
      refine P1.out.mono ?_
      rintro e w5 ⟨rfl, h5, ht⟩
      have hb5 := touch_below hb'.out ht HX1 HB1
      have h6 : IsLed w5 X B (fdL (l.take (k + 1))).1 (fdL (l.take (k + 1))).2 := by rw [HS.out]; exact h5
      clear P1 ht hb' q0 q1 h5 HS
      have hd1 := h6.inv.d1
      have HI := hid h6.inv
      generalize hf : (fdL (l.take (k + 1))).1 = f at *
      generalize hd : (fdL (l.take (k + 1))).2 = d at *
      have HF := hid hf
      have HD := hid hd
      clear hf hd
      go_wp2_with fail
      go_loopw [6, 31] (fun s a wr => ∃ j : Nat, j ≤ 6 ∧ a = .int .i64 j ∧ s = .int .i64 (allF f j) ∧ IsLed wr X B f d ∧ Below w.heap.size w wr) (fun _ a _ => 6 - (intOf a).toNat)
      case atStart => exact ⟨0, by omega, rfl, rfl, h6, hb5⟩
      case round =>
        clear h6 hb5
        obtain ⟨j, hj, rfl, rfl, h, hb⟩ := hrel
        have hab := allF_bd HI.out hj
        by_cases hlj : j < 6
        · have hj2 : (j : Int) < 6 := by omega
          have hab2 := allF_bd HI.out (show j + 1 ≤ 6 from hlj)
          have HA := hid (allF_succ f j)
          rw [HA.out] at hab2
          generalize allF f j = s0 at *
          go_wp2_with fail
          go_loopw [8, 9] (fun n c wr => ∃ i : Nat, i ≤ 64 ∧ c = .int .i64 ((i + 1 : Nat) : Int) ∧ n = .int .i64 (colF f j i) ∧ IsLed wr X B f d ∧ Below w.heap.size w wr) (fun _ c _ => 65 - (intOf c).toNat)
          case atStart => exact ⟨0, by omega, rfl, rfl, h, hb⟩
          case round =>
            clear h hb
            obtain ⟨i, hi, rfl, rfl, h, hb⟩ := hrel
            by_cases hli : i < 64
            · have b1 : ((i + 1 : Nat) : Int) ≤ 64 := by omega
              have e1 := colF_bd HI.out (j : Int) i
              have e2 := colF_bd HI.out (j : Int) (i + 1)
              have HC := hid (colF_succ f (j : Int) i)
              rw [HC.out] at e2
              have O1 := hid (lof_any ((i + 1 : Nat) : Int) (j : Int) wr h)
              rw [show f (((i + 1 : Nat) : Int), (j : Int)) = f ((i : Int) + 1, (j : Int)) from by rw [show ((i + 1 : Nat) : Int) = (i : Int) + 1 from by omega]] at O1
              generalize f ((i : Int) + 1, (j : Int)) = v at *
              generalize colF f (j : Int) i = s1 at *
              rw [show ((i + 1 : Nat) : Int) = (i : Int) + 1 from by omega] at O1
              go_wp2_with fail
              refine O1.out.mono ?_
              rintro e w6 ⟨rfl, hb6⟩
              have h7 := h.next hb6
              have hb7 := bthen hb hb6
              clear O1 h hb hb6
              go_wp2_with fail
              go_roundw
              case rel => exact ⟨i + 1, by omega, by go_num, by rw [HC.out], h7, hb7⟩
              case measure => simp [intOf]; omega
            · have hi' : i = 64 := by omega
              subst hi'
              have B1 := hid (lbal_any hS (j : Int) wr h)
              have e1 := colF_bd HI.out (j : Int) 64
              have hself : (balF f (j : Int) != balF f (j : Int)) = false := by simp
              rw [show colF f (j : Int) 64 = balF f (j : Int) from rfl] at e1 ⊢
              generalize balF f (j : Int) = v at *
              go_wp2_with fail
              refine B1.out.mono ?_
              rintro e w6 ⟨rfl, hb6⟩
              have h7 := h.next hb6
              have hb7 := bthen hb hb6
              clear B1 h hb hb6
              go_wp2_with fail
              go_roundw
              case rel => exact ⟨j + 1, by omega, by go_num, by rw [HA.out], h7, hb7⟩
              case measure => simp [intOf]; omega
        · have hj' : j = 6 := by omega
          subst hj'
          rw [allF_zero HI.out] at *
          have T1 := hid (lturn_any wr h)
          have hself : (d != d) = false := by simp
          clear hlj hj hab
          go_wp2_with fail
          refine T1.out.mono ?_
          rintro e w6 ⟨rfl, hb6⟩
          have h7 := h.next hb6
          have hb7 := bthen hb hb6
          clear T1 h hb hb6
          go_wp2_with fail
          rw [← HF.out, ← HD.out] at h7
          go_roundw
          case rel => exact ⟨k + 1, by omega, by go_num, h7, hb7⟩
          case measure => simp [intOf]; omega
    · have hk' : k = l.length := by omega
      subst hk'
      rw [List.take_length] at h
      generalize (fdL l).1 = f at *
      generalize (fdL l).2 = d at *
      have HI := hid h.inv
      have T1 := hid (lturn_any wr h)
      clear hlt hk HOK hR hl
      go_wp2_with fail
      refine T1.out.mono ?_
      rintro e w5 ⟨rfl, hb5⟩
      replace h := h.next hb5
      replace hb := bthen hb hb5
      have S1 := hid (lsums_any hS w5 h)
      clear T1 hb5
      go_wp2_with fail
      refine S1.out.mono ?_
      rintro e w6 ⟨A6, c6, rfl, hO6, hb6⟩
      replace h := h.next hb6
      replace hb := bthen hb hb6
      have hR6 := own_rd hO6
      have R1 := hid (lrestore_any d (canon f) A6 c6 w6 hR6 (by have := canon_le f; omega))
      clear S1 hb6 hO6 hR6
      go_wp2_with fail
      refine R1.out.mono ?_
      rintro e w7 ⟨⟨hP, _⟩, hb7⟩
      obtain ⟨X2, B2, rfl, _, _, h2⟩ := hP (RestOk.canon HI.out)
      rw [fromL_canon HI.out] at h2
      replace h := h.next hb7
      replace hb := bthen hb hb7
      have S2 := hid (lsums_any hS w7 h2)
      clear R1 hb7 hP
      go_wp2_with fail
      refine S2.out.mono ?_
      rintro e w8 ⟨A8, c8, rfl, hO8, hb8⟩
      replace h := h.next hb8
      replace hb := bthen hb hb8
      have S3 := hid (lsums_any hS w8 h)
      have hself : ((canon f).length == (canon f).length) = true := by simp
      clear S2 hO8 hb8 h2

      go_wp2_with fail
      refine S3.out.mono ?_
      rintro e w9 ⟨A9, c9, rfl, hO9, hb9⟩
      replace hb := bthen hb hb9
      clear S3 hb9 h
      go_wp2_with fail
      go_ret
      exact ⟨by simp, hb⟩

end Go.Proofs.Ytjlfhfhckomalaa
