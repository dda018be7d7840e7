/-
  The walk of CashPaid.
-/
import Derived.Test.YthdmbbfppgenlaaChW
import Derived.Test.YthdmbbfppgenlaaArrV
namespace Go.Proofs.Ythdmbbfppgenlaa
open Go.RowKit Go.WideShapes Go.ChangeShapes Go.ChangeAt Go.Deep
set_option linter.unusedVariables false

def nOfP (v : Value) : Nat := match v with | .int _ n => n.toNat | _ => 0
/-- The order's account: ahead of the invoice, or behind it. -/
def AccP (net tax : Int) (ah k : Nat) (sm d : Int) (F : Int → Option Ca) : Prop :=
  (k ≤ ah ∧ acOf F 1 1 = preA sm ∧ (∀ b, updC F 1 (some b) = F1 b) ∧ d = sm) ∨ (ah < k ∧ F = F1 (paidA net tax sm) ∧ d = dB net tax sm)
/-- Ahead of a receipt in the round k. -/
def AccQ (net tax : Int) (ah k : Nat) (sm d : Int) (F : Int → Option Ca) : Prop :=
  (k < ah ∧ acOf F 1 1 = preA sm ∧ (∀ b, updC F 1 (some b) = F1 b) ∧ d = sm) ∨ (ah ≤ k ∧ F = F1 (paidA net tax sm) ∧ d = dB net tax sm)
theorem accQ_rcv {net tax : Int} {ah k : Nat} {sm d x : Int} {F : Int → Option Ca} (h : AccQ net tax ah k sm d F) (hs : Sml net tax sm) (hx : 1 ≤ x ∧ x ≤ 1000000) : ∃ a d', rcvR F d 1 1 x = ⟨decide (ah ≤ k) && decide (net + tax ≤ sm + x), 0, some a, d'⟩ ∧ AccQ net tax ah k (sm + x) d' (updC F 1 (some a)) := by
  rcases h with ⟨h1, h2, h3, rfl⟩ | ⟨h1, rfl, rfl⟩
  · refine ⟨preA (d + x), d + x, ?_, .inl ⟨h1, ?_, fun b => ?_, rfl⟩⟩
    · rw [rcv_pre h2 hs hx, decide_eq_false (show ¬ ah ≤ k from by omega), Bool.false_and]
    · rw [h3]; rfl
    · rw [h3, upd_one]
  · refine ⟨paidA net tax (sm + x), dB net tax (sm + x), ?_, .inr ⟨h1, ?_, rfl⟩⟩
    · rw [rcv_paid hs hx, decide_eq_true h1, Bool.true_and]
    · rw [upd_one]

theorem accP_of {net tax : Int} {ah k : Nat} {sm d : Int} {F : Int → Option Ca} (h : AccQ net tax ah k sm d F) : AccP net tax ah (k + 1) sm d F := by
  rcases h with ⟨b1, b2, b3, b4⟩ | ⟨b1, b2, b3⟩
  · exact .inl ⟨by omega, b2, b3, b4⟩
  · exact .inr ⟨by omega, b2, b3⟩

set_option maxRecDepth 100000 in
set_option maxHeartbeats 40000000 in
theorem cashPaid_walk (hS : SortsL) (iv : Int × Int) (l : List Int) (A : Option Addr) (cp : Nat) (ahd : Int) (w : World) (okI : ok2 iv) (hR : Rd w A (l.flatMap en1)) (okL : ∀ x ∈ l, I64 x) (hl : l.length * 8 ≤ 140737488351232) (ha : I64 ahd) :
    Calls Try.prog 3 #[.agg (en2 iv).toArray, .slice A l.length cp, .int .i64 ahd] w (Law w) := by
  have hba := I64.bd ha
  obtain ⟨i0, i1⟩ := iv
  have hb0 := I64.bd okI.1
  have hb1' := I64.bd okI.2
  simp only [en2] at *
  go_enter Try.func3, Try.ntmps3
  go_wp2_with fail
  refine (wakes_any hS _).mono ?_
  rintro e w1 ⟨rfl, hb1⟩
  go_wp2_with fail
  refine (WC.new (w.alloc (.cells #[.int .i64 i0, .int .i64 i1] 22)) w1 hb1).mono ?_
  rintro e w2 ⟨X, XL, BL, BA, rfl, h⟩
  obtain ⟨n0, hn0⟩ : ∃ n0, n0 = w1.heap.size := ⟨_, rfl⟩
  rw [← hn0] at h
  clear hn0 hb1
  have hG0 := Blk.new w 22 #[.int .i64 i0, .int .i64 i1]
  have hwb : Below w.heap.size w (w.alloc (.cells #[.int .i64 i0, .int .i64 i1] 22)) := (Below.refl _ _).alloc (Nat.le_refl _) _
  obtain ⟨W0, hW0⟩ : ∃ W0, W0 = w.alloc (.cells #[.int .i64 i0, .int .i64 i1] 22) := ⟨_, rfl⟩
  obtain ⟨G, hG⟩ : ∃ G, G = w.heap.size := ⟨_, rfl⟩
  rw [← hW0] at h hG0 hwb
  rw [← hG] at hG0 ⊢
  have HWB := hid hwb
  have hRW := hR.below hwb
  have H := hid h
  have HG := hid (hG0.next h.bel)
  clear h hG0 hwb hW0 hG hR
  go_upto_region 4 with fail
  go_cut [8, 9] (fun v u wx => ∃ net tax : Int, Hid ((0 ≤ net ∧ net ≤ 1000000) ∧ (0 ≤ tax ∧ tax ≤ 1000000)) ∧ v = .int .i64 net ∧ u = .int .i64 tax ∧ Below w2.heap.size w2 wx)
  case first =>
    obtain ⟨C, hCd⟩ : ∃ C : World → Prop, ∀ w', C w' ↔ Below w2.heap.size w2 w' := ⟨_, fun _ => Iff.rfl⟩
    have hC : C w2.drew := (hCd _).2 ((Below.refl _ _).drew)
    have g0 : ∀ p : In C, p.w.cell? ⟨G, 0, none⟩ = some (.int .i64 i0) := fun p => (HG.out.next ((hCd _).1 p.h)).cell 0
    have g1 : ∀ p : In C, p.w.cell? ⟨G, 1, none⟩ = some (.int .i64 i1) := fun p => (HG.out.next ((hCd _).1 p.h)).cell 1
    have HCd := hid hCd
    clear hCd hRW okL hl hba ha okI
    go_wp2_with fail
    refine wp_region_in C (by kernel_rfl) (by kernel_rfl) hC ?_
    intro hne
    clear hC
    repeat (first | go_big_quiet_step (fail) | quiet_step (fail))
    refine wpQuiet_nil ?_
    intro wq hq
    have hb := (HCd.out _).1 hq
    clear g0 g1 hne hq HCd
    go_wp2_with fail
    go_meet
    refine ⟨_, _, hid ⟨⟨?_, ?_⟩, ⟨?_, ?_⟩⟩, rfl, rfl, hb⟩ <;> omega
  case rest =>
    obtain ⟨net, tax, HB, rfl, rfl, hb3⟩ := hcut
    have h := H.out.next hb3
    clear H hb3 hb0 hb1' HG okI
    obtain ⟨wA, hwA⟩ : ∃ wA, wA = wc := ⟨_, rfl⟩
    rw [← hwA] at h ⊢
    clear hwA
    have H := hid h
    clear h
    go_upto_region 6 with fail
    go_cut [11] (fun v wx => ∃ N : Nat, N ≤ l.length ∧ N ≤ 50 ∧ v = .int .i64 N ∧ wx = wA)
    case first =>
      by_cases h5 : l.length ≤ 50
      · have hmin : min (l.length : Int) 50 = (l.length : Int) := by omega
        go_wp2_with fail
        all_goals (go_meet; exact ⟨l.length, Nat.le_refl _, h5, rfl, rfl⟩)
      · have hmin : min (l.length : Int) 50 = 50 := by omega
        go_wp2_with fail
        all_goals (go_meet; exact ⟨50, by omega, by omega, rfl, rfl⟩)
    case rest =>
      obtain ⟨N, hN, hN50, rfl, hwx⟩ := hcut
      rw [hwx]
      clear hwx
      have wN : IntKind.i64.wrap ((N : Int) + 1) = (N : Int) + 1 := IntWalk.i64_in _ ⟨by omega, by omega⟩
      go_upto_region 7 with fail
      go_cut [2] (fun v wx => ∃ ah : Nat, ah ≤ N ∧ v = .int .i64 ah ∧ wx = wA)
      case first =>
        clear hRW okL hl
        go_wp2_with fail
        all_goals
          go_meet
          have hp : (0 : Int) < (N : Int) + 1 := by omega
          have e1 := Int.emod_nonneg (max 0 ahd) (show ((N : Int) + 1) ≠ 0 by omega)
          have e2 := Int.emod_lt_of_pos (max 0 ahd) hp
          generalize max 0 ahd % ((N : Int) + 1) = z at e1 e2 ⊢
          exact ⟨z.toNat, by omega, by congr 1; omega, rfl⟩
      case rest =>
        obtain ⟨ah, hah, rfl, hwx⟩ := hcut
        rw [hwx]
        clear hwx hba ha
        go_wp2_with fail
        go_loopw [10, 41] (fun s i wr => ∃ (k : Nat) (sm d : Int) (ac : List (Int × CP)), k ≤ N + 1 ∧ i = .int .i64 k ∧ s = .int .i64 sm ∧ Hid (0 ≤ sm ∧ sm ≤ 1000000 * (k : Int)) ∧ WC W0 n0 X XL BL BA ac d wr ∧ Hid (AccP net tax ah k sm d (cfind ac))) (fun _ i _ => N + 1 - nOfP i)
        case atStart => exact ⟨0, 0, 0, [], by omega, rfl, rfl, hid ⟨by omega, by omega⟩, H.out, hid (.inl ⟨by omega, acOf_new, fun b => upd_none b, rfl⟩)⟩
        case round =>
          clear H
          obtain ⟨k, sm, d, ac, hk, rfl, rfl, HSM, h, HA⟩ := hrel
          have H := hid h
          clear h
          by_cases hlt : k < N + 1
          · have t41 : decide ((k : Int) < (N : Int) + 1) = true := decide_eq_true (by omega)
            go_upto_if 46 with fail
            go_cut [] (fun wx => ∃ (d : Int) (ac : List (Int × CP)), WC W0 n0 X XL BL BA ac d wx ∧ Hid (AccQ net tax ah k sm d (cfind ac)))
            case first =>
              have hs : Sml net tax sm := ⟨HB.out.1, HB.out.2, HSM.out.1, by have := HSM.out.2; omega⟩
              clear hRW okL hl hN HSM
              by_cases hke : k = ah
              · have t46 : ((k : Int) == (ah : Int)) = true := by simp [hke]
                obtain ⟨a1, a2, a3⟩ : acOf (cfind ac) 1 1 = preA sm ∧ (∀ b, updC (cfind ac) 1 (some b) = F1 b) ∧ d = sm := by
                  rcases HA.out with ⟨_, a1, a2, a3⟩ | ⟨c, _⟩
                  · exact ⟨a1, a2, a3⟩
                  · omega
                subst a3
                have K := H.out.invoice rfl 1 1 net tax (inv_pre a1 hs)
                have HA2 := hid (And.intro a2 (show ah ≤ k by omega))
                have wT : IntKind.i64.wrap (net + tax) = net + tax := IntWalk.i64_in _ ⟨by have := HB.out; omega, by have := HB.out; omega⟩
                clear a1 a2 hke HA
                by_cases hT : net + tax ≤ d
                · have tT : decide (net + tax ≤ d) = true := decide_eq_true hT
                  rw [tT] at K
                  replace K := hid K
                  clear hT hs
                  go_wp2_with fail
                  refine K.out.mono ?_
                  rintro e w5 ⟨rfl, ac5, h5, hF5⟩
                  simp only at h5 hF5
                  rw [HA2.out.1] at hF5
                  have HF := hid (show AccQ net tax ah k d (dB net tax d) (cfind ac5) from .inr ⟨HA2.out.2, hF5, rfl⟩)
                  clear K hF5
                  go_wp2_with fail
                  go_meet
                  exact ⟨_, _, h5, HF⟩
                · have tT : decide (net + tax ≤ d) = false := decide_eq_false hT
                  rw [tT] at K
                  replace K := hid K
                  clear hT hs
                  go_wp2_with fail
                  refine K.out.mono ?_
                  rintro e w5 ⟨rfl, ac5, h5, hF5⟩
                  simp only at h5 hF5
                  rw [HA2.out.1] at hF5
                  have HF := hid (show AccQ net tax ah k d (dB net tax d) (cfind ac5) from .inr ⟨HA2.out.2, hF5, rfl⟩)
                  clear K hF5
                  go_wp2_with fail
                  go_meet
                  exact ⟨_, _, h5, HF⟩
              · have t46 : ((k : Int) == (ah : Int)) = false := by simp; omega
                have HF := hid (show AccQ net tax ah k sm d (cfind ac) from by
                  rcases HA.out with ⟨b1, b2, b3, b4⟩ | ⟨b1, b2, b3⟩
                  · exact .inl ⟨by omega, b2, b3, b4⟩
                  · exact .inr ⟨by omega, b2, b3⟩)
                clear hke hs
                go_wp2_with fail
                go_meet
                exact ⟨_, _, H.out, HF⟩
            case rest =>
              obtain ⟨d2, ac2, h2, HQ⟩ := hcut
              clear H HA
              have H := hid h2
              clear h2
              obtain ⟨wB, hwB⟩ : ∃ wB, wB = wc := ⟨_, rfl⟩
              rw [← hwB] at H ⊢
              clear hwB
              go_upto_if 67 with fail
              go_cut [10] (fun s wx => ∃ (sm' d : Int) (ac : List (Int × CP)), s = .int .i64 sm' ∧ Hid (0 ≤ sm' ∧ sm' ≤ 1000000 * ((k : Int) + 1)) ∧ WC W0 n0 X XL BL BA ac d wx ∧ Hid (AccP net tax ah (k + 1) sm' d (cfind ac)))
              case first =>
                by_cases hkn : k < N
                · have t67 : decide ((k : Int) < (N : Int)) = true := decide_eq_true (by omega)
                  obtain ⟨x, hx⟩ : ∃ x, l[k]? = some x := ⟨l[k], List.getElem?_eq_getElem (by omega)⟩
                  have hbx := I64.bd (okL x (List.mem_of_getElem? hx))
                  obtain ⟨b, off, rfl, hbs, hcc⟩ := (hRW.below H.out.bel).at_ 1 en1_len (by omega) hx
                  have q0 := hcc 0 _ rfl
                  simp only [Nat.add_zero, Nat.mul_one] at q0
                  have hkl : k < l.length := by omega
                  clear hcc hx okL hRW
                  go_upto_region 16 with fail
                  go_cut [15] (fun v wx => ∃ y : Int, 1 ≤ y ∧ y ≤ 1000000 ∧ v = .int .i64 y ∧ wx = wB)
                  case first =>
                    go_wp2_with fail
                    all_goals (go_meet; exact ⟨_, by omega, by omega, rfl, rfl⟩)
                  case rest =>
                    obtain ⟨y, hy0, hy1, rfl, hwx⟩ := hcut
                    rw [hwx]
                    clear hwx hbx q0 hbs hkl hl
                    obtain ⟨a, d', hr, HQ2⟩ := accQ_rcv HQ.out (show Sml net tax sm from ⟨HB.out.1, HB.out.2, HSM.out.1, by have := HSM.out.2; omega⟩) ⟨hy0, hy1⟩
                    have wT : IntKind.i64.wrap (net + tax) = net + tax := IntWalk.i64_in _ ⟨by have := HB.out; omega, by have := HB.out; omega⟩
                    have wsm : IntKind.i64.wrap (sm + y) = sm + y := IntWalk.i64_in _ ⟨by have := HSM.out.1; omega, by have := HSM.out.2; omega⟩
                    have HQ2 := hid HQ2
                    by_cases hak : ah ≤ k
                    · by_cases hT : net + tax ≤ sm + y
                      · skip
                        have t90 : decide ((ah : Int) ≤ (k : Int)) = true := decide_eq_true (by omega)
                        have t91 : decide (ah ≤ k) = true := decide_eq_true hak
                        have t96 : decide (net + tax ≤ sm + y) = true := decide_eq_true hT
                        rw [decide_eq_true hak, t96] at hr
                        simp only [Bool.true_and] at hr
                        have K := hid (H.out.receive rfl 1 1 y (by unfold I64; simp [Lit.wf, IntKind.min, IntKind.max, IntKind.signed, IntKind.bits]; omega) hr)
                        clear hr
                        go_wp2_with fail
                        refine K.out.mono ?_
                        rintro e w5 ⟨rfl, ac5, h5, hF5⟩
                        simp only at h5 hF5
                        have HQ2 := HQ2.out
                        rw [← hF5] at HQ2
                        have HF := hid (And.intro h5 (accP_of HQ2))
                        clear K h5 hF5 HQ2
                        go_wp2_with fail
                        go_meet
                        exact ⟨sm + y, d', ac5, rfl, hid ⟨by have := HSM.out.1; omega, by have := HSM.out.2; omega⟩, HF.out.1, hid HF.out.2⟩
                      · skip
                        have t90 : decide ((ah : Int) ≤ (k : Int)) = true := decide_eq_true (by omega)
                        have t91 : decide (ah ≤ k) = true := decide_eq_true hak
                        have t96 : decide (net + tax ≤ sm + y) = false := decide_eq_false hT
                        rw [decide_eq_true hak, t96] at hr
                        simp only [Bool.true_and] at hr
                        have K := hid (H.out.receive rfl 1 1 y (by unfold I64; simp [Lit.wf, IntKind.min, IntKind.max, IntKind.signed, IntKind.bits]; omega) hr)
                        clear hr
                        go_wp2_with fail
                        refine K.out.mono ?_
                        rintro e w5 ⟨rfl, ac5, h5, hF5⟩
                        simp only at h5 hF5
                        have HQ2 := HQ2.out
                        rw [← hF5] at HQ2
                        have HF := hid (And.intro h5 (accP_of HQ2))
                        clear K h5 hF5 HQ2
                        go_wp2_with fail
                        go_meet
                        exact ⟨sm + y, d', ac5, rfl, hid ⟨by have := HSM.out.1; omega, by have := HSM.out.2; omega⟩, HF.out.1, hid HF.out.2⟩
                    · by_cases hT : net + tax ≤ sm + y
                      · skip
                        have t90 : decide ((ah : Int) ≤ (k : Int)) = false := decide_eq_false (by omega)
                        have t91 : decide (ah ≤ k) = false := decide_eq_false hak
                        have t96 : decide (net + tax ≤ sm + y) = true := decide_eq_true hT
                        rw [decide_eq_false hak, t96] at hr
                        simp only [Bool.false_and] at hr
                        have K := hid (H.out.receive rfl 1 1 y (by unfold I64; simp [Lit.wf, IntKind.min, IntKind.max, IntKind.signed, IntKind.bits]; omega) hr)
                        clear hr
                        go_wp2_with fail
                        refine K.out.mono ?_
                        rintro e w5 ⟨rfl, ac5, h5, hF5⟩
                        simp only at h5 hF5
                        have HQ2 := HQ2.out
                        rw [← hF5] at HQ2
                        have HF := hid (And.intro h5 (accP_of HQ2))
                        clear K h5 hF5 HQ2
                        go_wp2_with fail
                        go_meet
                        exact ⟨sm + y, d', ac5, rfl, hid ⟨by have := HSM.out.1; omega, by have := HSM.out.2; omega⟩, HF.out.1, hid HF.out.2⟩
                      · skip
                        have t90 : decide ((ah : Int) ≤ (k : Int)) = false := decide_eq_false (by omega)
                        have t91 : decide (ah ≤ k) = false := decide_eq_false hak
                        have t96 : decide (net + tax ≤ sm + y) = false := decide_eq_false hT
                        rw [decide_eq_false hak, t96] at hr
                        simp only [Bool.false_and] at hr
                        have K := hid (H.out.receive rfl 1 1 y (by unfold I64; simp [Lit.wf, IntKind.min, IntKind.max, IntKind.signed, IntKind.bits]; omega) hr)
                        clear hr
                        go_wp2_with fail
                        refine K.out.mono ?_
                        rintro e w5 ⟨rfl, ac5, h5, hF5⟩
                        simp only at h5 hF5
                        have HQ2 := HQ2.out
                        rw [← hF5] at HQ2
                        have HF := hid (And.intro h5 (accP_of HQ2))
                        clear K h5 hF5 HQ2
                        go_wp2_with fail
                        go_meet
                        exact ⟨sm + y, d', ac5, rfl, hid ⟨by have := HSM.out.1; omega, by have := HSM.out.2; omega⟩, HF.out.1, hid HF.out.2⟩
                · have t67 : decide ((k : Int) < (N : Int)) = false := decide_eq_false (by omega)
                  have HF := hid (accP_of HQ.out)
                  have t68 : decide (k < N) = false := decide_eq_false hkn
                  clear hRW okL hl
                  go_wp2_with fail
                  go_meet
                  exact ⟨sm, d2, ac2, rfl, hid ⟨HSM.out.1, by have := HSM.out.2; omega⟩, H.out, HF⟩
              case rest =>
                obtain ⟨sm', d3, ac3, rfl, HSM2, h3, HP⟩ := hcut
                clear H HQ HSM hRW okL hl
                obtain ⟨wC, hwC⟩ : ∃ wC, wC = wc := ⟨_, rfl⟩
                have KG := cget_any h3.c 1
                have H := hid h3
                clear h3
                by_cases hak : ah ≤ k
                · have t107 : decide ((ah : Int) ≤ (k : Int)) = true := decide_eq_true (by omega)
                  obtain ⟨hF, hd⟩ : cfind ac3 = F1 (paidA net tax sm') ∧ d3 = dB net tax sm' := by
                    rcases HP.out with ⟨c, _⟩ | ⟨_, c1, c2⟩
                    · omega
                    · exact ⟨c1, c2⟩
                  rw [hF] at KG
                  have e9 : (F1 (paidA net tax sm') 1).getD ⟨0, 0, 0, 0, 0, 0, 0, 0, 0⟩ = paidA net tax sm' := rfl
                  have e10 : (F1 (paidA net tax sm') 1).isSome = true := rfl
                  rw [e9, e10] at KG
                  obtain ⟨P, hP⟩ : ∃ P, P = paidA net tax sm' := ⟨_, rfl⟩
                  rw [← hP] at KG
                  have HPP := hid hP
                  have HF := hid hF
                  simp only [aggC, celC] at KG
                  replace KG := hid KG
                  clear hF hP e9 e10 hd
                  go_wp2_with fail
                  refine KG.out.mono ?_
                  rintro e w5 ⟨rfl, hb5⟩
                  have hb6 : Below w5.heap.size w5 (w5.alloc (.cells #[.int .i64 P.o, .int .i64 P.c, .int .i64 P.st, .int .i64 P.lv, .int .i64 P.net, .int .i64 P.tax, .int .i64 P.ap, .int .i64 P.wr, .int .i64 P.dep] 33)) := (Below.refl _ _).alloc (Nat.le_refl _) _
                  have hPB := Blk.new w5 33 #[.int .i64 P.o, .int .i64 P.c, .int .i64 P.st, .int .i64 P.lv, .int .i64 P.net, .int .i64 P.tax, .int .i64 P.ap, .int .i64 P.wr, .int .i64 P.dep]
                  have h6 := (H.out.next hb5).next hb6
                  have KO := h6.open_ HF.out 1 (n := net + tax - min sm' (net + tax)) (by simp [openF, F1, openC, paidA])
                  obtain ⟨W6, hW6⟩ : ∃ W6, W6 = w5.alloc (.cells #[.int .i64 P.o, .int .i64 P.c, .int .i64 P.st, .int .i64 P.lv, .int .i64 P.net, .int .i64 P.tax, .int .i64 P.ap, .int .i64 P.wr, .int .i64 P.dep] 33) := ⟨_, rfl⟩
                  obtain ⟨GP, hGP⟩ : ∃ g, g = w5.heap.size := ⟨_, rfl⟩
                  rw [← hW6] at hPB h6 KO
                  rw [← hGP] at hPB
                  have HW6 := hid hW6
                  have HGP := hid hGP
                  have H6 := hid (And.intro h6 hPB)
                  replace KO := hid KO
                  have wT : IntKind.i64.wrap (net + tax) = net + tax := IntWalk.i64_in _ ⟨by have := HB.out; omega, by have := HB.out; omega⟩
                  have wD : IntKind.i64.wrap (net + tax - sm') = net + tax - sm' := IntWalk.i64_in _ ⟨by have := HB.out; have := HSM2.out; omega, by have := HB.out; have := HSM2.out; omega⟩
                  have hPap := hid (show P.ap = min sm' (net + tax) from by rw [HPP.out]; rfl)
                  have hPdep := hid (show P.dep = sm' - min sm' (net + tax) from by rw [HPP.out]; rfl)
                  have tO : (net + tax - min sm' (net + tax) != max 0 (net + tax - sm')) = false := by simp; omega
                  have wE : IntKind.i64.wrap (sm' - min sm' (net + tax)) = sm' - min sm' (net + tax) := IntWalk.i64_in _ ⟨by have := HB.out; have := HSM2.out; omega, by have := HB.out; have := HSM2.out; omega⟩
                  clear KG H hb5 hb6 hPB h6 hW6 hGP
                  go_wp2_with fail
                  rw [← HW6.out, ← HGP.out]
                  refine KO.out.mono ?_
                  rintro e w7 ⟨rfl, hb7⟩
                  have hP7 := H6.out.2.next hb7
                  have p6 : w7.cell? ⟨GP, 6, none⟩ = some (.int .i64 (min sm' (net + tax))) := by have := hP7.cell 6; rw [← hPap.out]; exact this
                  have p8 : w7.cell? ⟨GP, 8, none⟩ = some (.int .i64 (sm' - min sm' (net + tax))) := by have := hP7.cell 8; rw [← hPdep.out]; exact this
                  have lP := hP7.lt
                  have H7 := hid (H6.out.1.next hb7)
                  clear KO H6 hb7 hP7 hPap hPdep
                  go_wp2_with fail
                  all_goals
                    go_roundw
                    case rel => exact ⟨k + 1, sm', d3, ac3, by omega, by go_num, rfl, hid ⟨HSM2.out.1, by have := HSM2.out.2; omega⟩, H7.out, HP⟩
                    case measure => simp [nOfP]; omega
                · have t107 : decide ((ah : Int) ≤ (k : Int)) = false := decide_eq_false (by omega)
                  obtain ⟨P, hP⟩ : ∃ P, P = (cfind ac3 1).getD ⟨0, 0, 0, 0, 0, 0, 0, 0, 0⟩ := ⟨_, rfl⟩
                  obtain ⟨ok, hok⟩ : ∃ ok, ok = (cfind ac3 1).isSome := ⟨_, rfl⟩
                  rw [← hP, ← hok] at KG
                  simp only [aggC, celC] at KG
                  replace KG := hid KG
                  clear hP hok
                  go_wp2_with fail
                  refine KG.out.mono ?_
                  rintro e w5 ⟨rfl, hb5⟩
                  have hb6 : Below w5.heap.size w5 (w5.alloc (.cells #[.int .i64 P.o, .int .i64 P.c, .int .i64 P.st, .int .i64 P.lv, .int .i64 P.net, .int .i64 P.tax, .int .i64 P.ap, .int .i64 P.wr, .int .i64 P.dep] 33)) := (Below.refl _ _).alloc (Nat.le_refl _) _
                  have h6 := hid ((H.out.next hb5).next hb6)
                  clear KG H hb5 hb6
                  go_wp2_with fail
                  all_goals
                    go_roundw
                    case rel => exact ⟨k + 1, sm', d3, ac3, by omega, by go_num, rfl, hid ⟨HSM2.out.1, by have := HSM2.out.2; omega⟩, h6.out, HP⟩
                    case measure => simp [nOfP]; omega
          · have t41 : decide ((k : Int) < (N : Int) + 1) = false := decide_eq_false (by omega)
            have HB := hid H.out.bel
            clear H
            go_wp2_with fail
            go_ret
            exact ⟨rfl, HWB.out.trans (HB.out.mono HWB.out.size)⟩

end Go.Proofs.Ythdmbbfppgenlaa
