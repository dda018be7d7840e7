/-
  The walk of CashDuns.
-/
import Derived.Test.YthdmbbfppgenlaaChV
namespace Go.Proofs.Ythdmbbfppgenlaa
open Go.RowKit Go.WideShapes Go.ChangeShapes Go.ChangeAt Go.Deep
set_option linter.unusedVariables false

/-- The order behind its invoice, dunned so often. -/
def dunA (p lv : Int) : Ca := ⟨4, 1, 1, lv, p, 0, 0, 0, 0⟩
def F4 (a : Ca) : Int → Option Ca := fun o' => if o' = 4 then some a else none
theorem upd_none4 (a : Ca) : updC (cfind []) 4 (some a) = F4 a := rfl
theorem upd_four (a b : Ca) : updC (F4 a) 4 (some b) = F4 b := by
  funext o
  unfold updC F4
  simp only
  split <;> rfl
theorem duns_inv {p : Int} (h0 : 0 ≤ p) (h1 : p ≤ 5000) : ∃ b, invR (cfind []) 0 4 1 p 0 = ⟨b, 0, some (dunA p 0), p⟩ := by
  unfold invR
  rw [if_pos ⟨⟨by omega, by omega, by omega⟩, ⟨by omega, by omega⟩, by omega, by omega⟩]
  have e : acOf (cfind []) 4 1 = ⟨4, 1, 0, 0, 0, 0, 0, 0, 0⟩ := rfl
  rw [e]
  simp only
  rw [if_neg (by simp), if_neg (by simp), if_neg (by omega)]
  have hN : appN (invB ⟨4, 1, 0, 0, 0, 0, 0, 0, 0⟩ p 0) = 0 := by simp [appN, invB, openC]; omega
  have hA : appA (invB ⟨4, 1, 0, 0, 0, 0, 0, 0, 0⟩ p 0) = dunA p 0 := by unfold appA; rw [hN]; simp [invB, dunA]
  rw [hA, hN]
  refine ⟨paidC (dunA p 0), ?_⟩
  congr 1
  omega
theorem duns_open (p lv : Int) : openC (dunA p lv) = p := by simp [openC, dunA]
theorem duns_next {p lv : Int} : dunR (F4 (dunA p lv)) 4 = ((if 0 < p ∧ lv < 3 then lv + 1 else lv), decide (0 < p) && decide ((if 0 < p ∧ lv < 3 then lv + 1 else lv) < 3), some (dunA p (if 0 < p ∧ lv < 3 then lv + 1 else lv))) := by
  have e : F4 (dunA p lv) 4 = some (dunA p lv) := rfl
  unfold dunR
  rw [e]
  simp only
  have hb : dunB (dunA p lv) = dunA p (if 0 < p ∧ lv < 3 then lv + 1 else lv) := by
    unfold dunB
    rw [duns_open]
    show (if 0 < p ∧ lv < 3 then _ else _) = _
    split
    · rfl
    · rfl
  rw [hb, duns_open]
  rfl
theorem duns_five (p lv : Int) : dunR (F4 (dunA p lv)) 5 = (0, false, none) := rfl
theorem duns_off {p lv d : Int} (hd : d ≤ 5000) (hp : p ≤ 5000) : (wofR (F4 (dunA p lv)) d 4).code = if p = 0 then 170 else if 1000 < p then 130 else 0 := by
  have e : F4 (dunA p lv) 4 = some (dunA p lv) := rfl
  unfold wofR
  rw [e]
  simp only [duns_open]
  split
  · rfl
  · split
    · rfl
    · rw [if_neg (by omega)]
def nOfD (v : Value) : Nat := match v with | .int _ n => n.toNat | _ => 0
/-- The level behind k dunnings. -/
def lvAt (p k : Int) : Int := if p = 0 then 0 else min k 3

set_option maxRecDepth 100000 in
set_option maxHeartbeats 16000000 in
theorem cashDuns_walk (hS : SortsL) (op tm : Int) (w : World) (ho : I64 op) (ht : I64 tm) : Calls Try.prog 4 #[.int .i64 op, .int .i64 tm] w (Law w) := by
  have hbo := I64.bd ho
  have hbt := I64.bd ht
  go_enter Try.func4, Try.ntmps4
  go_wp2_with fail
  refine (wakes_any hS _).mono ?_
  rintro e w1 ⟨rfl, hb1⟩
  go_wp2_with fail
  refine (WC.new w w1 hb1).mono ?_
  rintro e w2 ⟨X, XL, BL, BA, rfl, h⟩
  obtain ⟨n0, hn0⟩ : ∃ n0, n0 = w1.heap.size := ⟨_, rfl⟩
  rw [← hn0] at h
  clear hn0 hb1
  have H := hid h
  clear h
  go_upto_region 4 with fail
  go_cut [0] (fun v wx => ∃ p : Int, 0 ≤ p ∧ p ≤ 5000 ∧ v = .int .i64 p ∧ wx = w2)
  case first =>
    go_wp2_with fail
    all_goals (go_meet; exact ⟨_, by omega, by omega, rfl, rfl⟩)
  case rest =>
    obtain ⟨p, hp0, hp1, rfl, hwx⟩ := hcut
    rw [hwx]
    clear hwx hbo ho
    obtain ⟨b, hb⟩ := duns_inv hp0 hp1
    have K := hid (H.out.invoice (F := cfind []) rfl 4 1 p 0 hb)
    clear hb H
    go_wp2_with fail
    refine K.out.mono ?_
    rintro e w3 ⟨rfl, ac, h, hF⟩
    rw [upd_none4] at hF
    simp only at h
    clear K
    have H := hid (And.intro h hF)
    clear h hF
    go_upto_region 6 with fail
    go_cut [24, 25] (fun v i wx => ∃ N : Nat, N ≤ 9 ∧ v = .int .i64 N ∧ i = .int .i64 0 ∧ wx = w3)
    case first =>
      clear hp0 hp1
      go_wp2_with fail
      all_goals
        go_meet
        refine ⟨(max 0 tm % 9).toNat, by omega, ?_, rfl, rfl⟩
        congr 1
        omega
    case rest =>
      obtain ⟨N, hN, rfl, rfl, hwx⟩ := hcut
      rw [hwx]
      clear hwx hbt ht
      go_wp2_with fail
      go_loopw [25] (fun i wr => ∃ (k : Nat) (ac : List (Int × CP)), k ≤ N ∧ i = .int .i64 k ∧ WC w n0 X XL BL BA ac p wr ∧ cfind ac = F4 (dunA p (lvAt p k))) (fun i _ => N - nOfD i)
      case atStart => exact ⟨0, ac, Nat.zero_le _, rfl, H.out.1, by rw [H.out.2]; unfold lvAt; congr 2; split <;> omega⟩
      case round =>
        clear H
        obtain ⟨k, ac, hk, rfl, h, hF⟩ := hrel
        by_cases hlt : k < N
        · have K := hid (h.dun hF 4 (by rw [duns_next]))
          clear h hF
          have kk : IntKind.i64.wrap ((k : Int) + 1) = (k : Int) + 1 := IntWalk.i64_in _ ⟨by omega, by omega⟩
          obtain ⟨L, hL⟩ : ∃ L, L = (if 0 < p ∧ lvAt p k < 3 then lvAt p k + 1 else lvAt p k) := ⟨_, rfl⟩
          rw [← hL] at K
          have hLn : L = lvAt p ((k + 1 : Nat) : Int) := by
            rw [hL]; unfold lvAt
            by_cases e : p = 0
            · simp [e]
            · rw [if_neg e, if_neg e]; split <;> omega
          have HLN := hid hLn
          by_cases hp : p = 0
          · have hL0 : L = 0 := by rw [hLn]; unfold lvAt; rw [if_pos hp]
            subst hL0
            subst hp
            clear hL hLn
            have t2 : decide ((0 : Int) < 0) = false := by decide
            rw [t2] at K
            go_wp2_with fail
            refine K.out.mono ?_
            rintro e w5 ⟨rfl, ac5, h, hF⟩
            clear K
            go_wp2_with fail
            all_goals
              go_roundw
              case rel => exact ⟨k + 1, ac5, by omega, by go_num, h, by rw [hF, upd_four]; rfl⟩
              case measure => simp [nOfD]; omega
          · have hLm : L = min ((k : Int) + 1) 3 := by rw [hLn]; unfold lvAt; rw [if_neg hp]; omega
            have tp : (p == 0) = false := by simpa using hp
            have t2 : decide (0 < p) = true := decide_eq_true (by omega)
            rw [t2] at K
            clear hL hLn
            go_wp2_with fail
            refine K.out.mono ?_
            rintro e w5 ⟨rfl, ac5, h, hF⟩
            clear K
            rw [hLm]
            go_wp2_with fail
            all_goals
              go_roundw
              case rel => exact ⟨k + 1, ac5, by omega, by go_num, h, by rw [hF, upd_four, HLN.out]⟩
              case measure => simp [nOfD]; omega
        · have K := hid (h.dun hF 5 (by rw [duns_five]))
          have HF := hid hF
          clear h hF hk
          go_wp2_with fail
          refine K.out.mono ?_
          rintro e w5 ⟨rfl, ac5, h, hF⟩
          have K2 := h.writeOff (F := F4 (dunA p (lvAt p k))) hF 4 rfl
          rw [duns_off (by simpa using hp1) hp1] at K2
          replace K2 := hid K2
          clear K h hF HF
          go_wp2_with fail
          refine K2.out.mono ?_
          rintro e w6 ⟨rfl, ac6, h, _⟩
          have HB := hid h.bel
          clear K2 h
          by_cases e0 : p = 0
          · subst e0
            rw [if_pos rfl]
            go_wp2_with fail
            go_ret
            exact ⟨by simp, HB.out⟩
          · rw [if_neg e0]
            have t0 : (p == 0) = false := by simpa using e0
            by_cases e1 : 1000 < p
            · rw [if_pos e1]
              have t1 : decide (1000 < p) = true := decide_eq_true e1
              have t2 : decide (0 < p) = true := decide_eq_true (by omega)
              have t3 : decide (p ≤ 1000) = false := decide_eq_false (by omega)
              go_wp2_with fail
              go_ret
              exact ⟨by simp, HB.out⟩
            · rw [if_neg e1]
              have t1 : decide (1000 < p) = false := decide_eq_false e1
              have t2 : decide (0 < p) = true := decide_eq_true (by omega)
              have t3 : decide (p ≤ 1000) = true := decide_eq_true (by omega)
              go_wp2_with fail
              go_ret
              exact ⟨by simp, HB.out⟩

end Go.Proofs.Ythdmbbfppgenlaa
