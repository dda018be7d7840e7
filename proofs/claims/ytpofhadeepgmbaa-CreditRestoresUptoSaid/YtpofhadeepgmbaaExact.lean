/-
  The walk of CreditExact.
-/
import Derived.Test.YtpofhadeepgmbaaWakes14
import Derived.Deep.DeepCutAuto
import Derived.Deep.CutRange
namespace Go.Proofs.Ytpofhadeepgmbaa
open Go.RowKit
set_option linter.unusedVariables false

/-- A number brought into the range of amounts. -/
def clamp (n : Int) : Int := max 0 (min n 1125899906842624)
theorem clamp_bd (n : Int) : 0 ≤ clamp n ∧ clamp n ≤ 1125899906842624 := by unfold clamp; omega

set_option maxRecDepth 100000 in
set_option maxHeartbeats 4000000 in
theorem creditExact_walk (n : Int) (l : List Int) (A : Option Addr) (cp : Nat) (w : World) (hn : I64 n) (hR : Rd w A (l.flatMap en1)) (hl : l.length ≤ 140737488351232) (ok : ∀ x ∈ l, I64 x) :
    Calls Try.prog 3 #[.int .i64 n, .slice A l.length cp] w (Law w) := by
  have hbn := hn.bd
  go_enter Try.func3, Try.ntmps3
  go_wp2_with fail
  refine (wakes_any _).mono ?_
  rintro e w1 ⟨rfl, hb⟩
  go_wp2_with fail
  refine (new_any _).mono ?_
  rintro e w2 ⟨X, BA, BH, rfl, h, hb1, _, _, _⟩
  have hsz := hb.size
  replace hb := bthen hb hb1
  go_upto_region 4 with fail
  go_cut [0] (fun v wx => v = .int .i64 (clamp n) ∧ wx = w2)
  case first =>
    go_wp2_with fail
    all_goals (go_meet; exact ⟨by congr 1; unfold clamp; (split at * <;> omega), rfl⟩)
  case rest =>
    obtain ⟨rfl, rfl⟩ := hcut
    have hL := clamp_bd n
    generalize clamp n = L at hL ⊢
    go_wp2_with fail
    refine (customer_yes h hb1.size 3 L ⟨by omega, by omega, hL.1, hL.2⟩).mono ?_
    rintro e w3 ⟨g, rfl, hg, h3, hT⟩
    replace hb := hb.trans (hT.below hb.size (fun k hk => Nat.le_trans hsz (h.own_low hk)))
    have e3 : mget (custAc [] 3 L g) 3 = some ⟨g, L, 0⟩ := by unfold custAc; rw [mget_mset]; rfl
    generalize custAc [] 3 L g = a3 at h3 e3
    have E3 := hid e3
    clear h hT hg e3
    go_wp2_with fail
    go_loopw [6, 24] (fun u i wr => ∃ (k : Nat) (sum : Int) (ac : List (Int × Acc)) (hs : List (Int × Hd)), k ≤ l.length ∧ u = .int .i64 sum ∧ i = .int .i64 k ∧ 0 ≤ sum ∧ sum ≤ L ∧ Hid (mget ac 3 = some ⟨g, L, sum⟩) ∧ Hid (∀ j : Int, (k : Int) < j → mget hs j = none) ∧
        IsBook w1.heap.size wr X BA BH ac hs ∧ Below w.heap.size w wr) (fun _ i _ => l.length - (intOf i).toNat)
    case atStart => exact ⟨0, 0, a3, [], Nat.zero_le _, rfl, rfl, by omega, hL.1, E3, hid (fun _ _ => rfl), h3, hb⟩
    case round =>
      clear h3 hb E3
      obtain ⟨k, sum, ac, hs, hk, rfl, rfl, hs0, hsL, hE, hN, h, hb⟩ := hrel
      by_cases hlt : k < l.length
      · obtain ⟨x, hx⟩ : ∃ x, l[k]? = some x := ⟨l[k], List.getElem?_eq_getElem hlt⟩
        have hbx := I64.bd (ok x (List.mem_of_getElem? hx))
        have hR1 := hR.below hb
        obtain ⟨b, off, rfl, hbs, hcc⟩ := hR1.at_ 1 en1_len (by omega) hx
        have hq := hcc 0 _ rfl
        simp only [Nat.add_zero, Nat.mul_one] at hq
        clear hcc hx
        obtain ⟨wo, rfl⟩ : ∃ wo : World, wo = wr := ⟨_, rfl⟩
        go_upto_region 10 with fail
        go_cut [8, 24] (fun v i wx => v = .int .i64 (clamp x) ∧ i = .int .i64 k ∧ wx = wo)
        case first =>
          go_wp2_with fail
          all_goals (go_meet; exact ⟨by congr 1; unfold clamp; (split at * <;> omega), rfl, rfl⟩)
        case rest =>
          obtain ⟨rfl, rfl, rfl⟩ := hcut
          have hc := clamp_bd x
          generalize clamp x = c at hc ⊢
          clear hbx hq
          by_cases hle : c ≤ L - sum
          · have K := hid (hold_ok h (k + 1) 3 c ⟨by omega, hc.1, hc.2⟩ _ hE.out (hN.out _ (by omega)) (by show c ≤ wrap64 (L - sum); unfold wrap64; omega))
            go_wp2_with fail
            refine K.out.mono ?_
            rintro e1 w4 ⟨rfl, h4, hT⟩
            replace hb := hb.trans (hT.below hb.size (fun k hk => Nat.le_trans hsz (h.own_low hk)))
            have hE4 := hid (show mget (mset ac 3 ⟨g, L, wrap64 (sum + c)⟩) 3 = some ⟨g, L, sum + c⟩ from by rw [mget_mset, if_pos rfl, wr_lim _ ⟨by omega, by omega⟩])
            have hN4 := hid (show ∀ j : Int, ((k + 1 : Nat) : Int) < j → mget (mset hs (k + 1) ⟨k + 1, 3, c⟩) j = none from fun j hj => by rw [mget_mset, if_neg (by omega)]; exact hN.out j (by omega))
            clear h hT K hE hN
            generalize mset ac 3 ⟨g, L, wrap64 (sum + c)⟩ = ac4 at h4 hE4
            generalize mset hs (k + 1) ⟨k + 1, 3, c⟩ = hs4 at h4 hN4
            have h := h4
            clear h4
            have E := fun w h => exposure_any (n0 := w1.heap.size) (w := w) (X := X) (BA := BA) (BH := BH) (ac := ac4) (hs := hs4) h 3
            rw [show expF ac4 3 = (L, sum + c, true) from by unfold expF; rw [hE4.out]] at E
            replace E := hid E
            go_wp2_with fail
            refine (E.out _ h).mono ?_
            rintro e1 w5 ⟨rfl, hb5⟩
            replace h := h.next hb5
            replace hb := bthen hb hb5
            clear hb5 E
            go_wp2_with fail
            go_roundw
            case rel => exact ⟨k + 1, sum + c, ac4, hs4, by omega, rfl, by go_num, by omega, by omega, hE4, hN4, h, hb⟩
            case measure => simp [intOf]; omega
          · have r4 : holdR ac hs (k + 1) 3 c = 140 := by
              unfold holdR
              rw [if_pos ⟨by omega, hc.1, hc.2⟩, hE.out, hN.out _ (by omega)]
              show (if (none : Option Hd).isSome = true then 71 else if wrap64 (L - sum) < c then (140 : Int) else 0) = 140
              rw [if_neg (by decide), if_pos (by unfold wrap64; omega)]
            have K := hold_no h (k + 1) 3 c ⟨by omega, hc.1, hc.2⟩ (by rw [r4]; decide)
            rw [r4] at K
            replace K := hid K
            have E := fun w h => exposure_any (n0 := w1.heap.size) (w := w) (X := X) (BA := BA) (BH := BH) (ac := ac) (hs := hs) h 3
            rw [show expF ac 3 = (L, sum, true) from by unfold expF; rw [hE.out]] at E
            replace E := hid E
            have hN4 := hid (show ∀ j : Int, ((k + 1 : Nat) : Int) < j → mget hs j = none from fun j hj => hN.out j (by omega))
            have hd : decide (c ≤ L - sum) = false := decide_eq_false hle
            clear r4
            go_wp2_with fail
            refine K.out.mono ?_
            rintro e1 w4 ⟨rfl, hb5⟩
            replace h := h.next hb5
            replace hb := bthen hb hb5
            clear hb5 K
            go_wp2_with fail
            refine (E.out _ h).mono ?_
            rintro e1 w5 ⟨rfl, hb5⟩
            replace h := h.next hb5
            replace hb := bthen hb hb5
            clear hb5 E
            go_wp2_with fail
            go_roundw
            case rel => exact ⟨k + 1, sum, ac, hs, by omega, rfl, by go_num, by omega, by omega, hE, hN4, h, hb⟩
            case measure => simp [intOf]; omega
      · go_wp2_with fail
        go_ret
        exact ⟨rfl, hb⟩

end Go.Proofs.Ytpofhadeepgmbaa
