/-
  The ledger's laws: state.
-/
import Derived.Test.YtjlfhfhckomalaaRef16Q
namespace Go.Proofs.Ytjlfhfhckomalaa
open Go.RowKit Go.WideShapes Go.ChangeShapes Go.ChangeAt Go.Deep
set_option linter.unusedVariables false

theorem same_rsm (x : Sm) (w : World) : (Op.equalIn 10000 72 (.agg #[.int .i64 x.c, .int .i64 x.a, .int .i64 x.n]) (.agg #[.int .i64 x.c, .int .i64 x.a, .int .i64 x.n])).run Try.prog w = .ok true w := by
  refine agg_same (L := [(3, 0), (3, 1), (2, 2)]) (by kernel_rfl) (by kernel_rfl) (by kernel_rfl) ?_ w
  intro q hq
  simp only [List.mem_cons, List.not_mem_nil, or_false] at hq
  rcases hq with rfl | rfl | rfl
  · exact sameAt_int Try.underlying3 isAgg_int rfl
  · exact sameAt_int Try.underlying3 isAgg_int rfl
  · exact sameAt_int Try.underlying2 isAgg_i64 rfl
theorem guard_rsm : Try.prog.eqGuardType Try.prog.depth 72 = false := by kernel_rfl

set_option maxRecDepth 100000 in
set_option maxHeartbeats 16000000 in
theorem lstate_any (hS : SortsL) {X B R : Nat} {f : Fn} {d : Int} (w : World) (h : IsLed w X B f d) (hr : IsRef w R f d) :
    Calls Try.prog 15 #[.pointer (some ⟨X, 0, none⟩), .pointer (some ⟨R, 0, none⟩)] w (Law w) := by
  have S1 := hid (lsums_any hS w h)
  go_enter Try.func15, Try.ntmps15
  go_wp2_with fail
  refine S1.out.mono ?_
  rintro e w1 ⟨A1, c1, rfl, hO1, hb1⟩
  have hR1 := own_rd hO1
  have hcl := canon_le f
  replace h := h.next hb1
  replace hr := hr.next hb1
  have S2 := hid (lsumsr_any (canon f) A1 c1 w1 hR1 (by omega))
  clear S1 hO1 hR1
  go_wp2_with fail
  refine S2.out.mono ?_
  rintro e w2 ⟨A2, c2, rfl, hO2, hb2⟩
  have hR2 := own_rd hO2
  replace h := h.next hb2
  replace hr := hr.next hb2
  have hb := bthen hb1 hb2
  have S3 := hid (rlist_any (d := d) w2 hr)
  clear S2 hO2 hb1 hb2
  go_wp2_with fail
  refine S3.out.mono ?_
  rintro e w3 ⟨A3, c3, rfl, hO3, hb3⟩
  have hR3 := own_rd hO3
  replace h := h.next hb3
  replace hr := hr.next hb3
  replace hR2 := hR2.below hb3
  replace hb := bthen hb hb3
  have hself : ((canon f).length != (canon f).length) = false := by simp
  have HF := hid (fun (s : Sm) (hs : s ∈ canon f) => (mem_canonTo.1 hs).2.2.2.1)
  generalize canon f = L at *
  clear S3 hO3 hb3
  go_wp2_with fail
  go_loopw [23] (fun i wr => ∃ k : Nat, k ≤ L.length ∧ i = .int .i64 k ∧ IsLed wr X B f d ∧ IsRef wr R f d ∧ Rd wr A2 (L.flatMap enS) ∧ Rd wr A3 (L.flatMap enS) ∧ Below w.heap.size w wr) (fun i _ => L.length - (intOf i).toNat)
  case atStart => exact ⟨0, Nat.zero_le _, rfl, h, hr, hR2, hR3, hb⟩
  case round =>
    clear h hr hR2 hR3 hb hself
    obtain ⟨k, hk, rfl, h, hr, hR2, hR3, hb⟩ := hrel
    by_cases hlt : k < L.length
    · obtain ⟨x, hx⟩ : ∃ x, L[k]? = some x := ⟨L[k], List.getElem?_eq_getElem hlt⟩
      obtain ⟨b2, off2, rfl, hbs2, hc2⟩ := hR2.at_ 3 enS_len (by omega) hx
      obtain ⟨b3, off3, rfl, hbs3, hc3⟩ := hR3.at_ 3 enS_len (by omega) hx
      have hfx := HF.out x (List.mem_of_getElem? hx)
      have hse := same_rsm x
      have hgd := guard_rsm
      obtain ⟨xc, xa, xn⟩ := x
      simp only at hfx hse
      have hcell2 : CellsAt wr b2 (off2 + k * 3) (enS ⟨xc, xa, xn⟩) := ⟨hbs2, hc2⟩
      have hcell3 : CellsAt wr b3 (off3 + k * 3) (enS ⟨xc, xa, xn⟩) := ⟨hbs3, hc3⟩
      obtain ⟨C, hCd⟩ : ∃ C : World → Prop, ∀ w', C w' ↔ (CellsAt w' b2 (off2 + k * 3) (enS ⟨xc, xa, xn⟩) ∧ CellsAt w' b3 (off3 + k * 3) (enS ⟨xc, xa, xn⟩) ∧ IsLed w' X B f d ∧ Below wr.heap.size wr w') := ⟨_, fun _ => Iff.rfl⟩
      have hK : ∀ w1 w2, C w1 → Below w1.heap.size w1 w2 → C w2 := fun w1 w2 h hb => by
        obtain ⟨a1, a2, a3, a4⟩ := (hCd _).1 h
        exact (hCd _).2 ⟨a1.next hb, a2.next hb, a3.next hb, bthen a4 hb⟩
      have hC : C wr.drew := hK _ _ ((hCd _).2 ⟨hcell2, hcell3, h, Below.refl _ _⟩) (below_drewN (Below.refl _ _) 1)
      have g0 : ∀ p : In C, p.w.cell? ⟨b2, off2 + k * 3, none⟩ = some (.int .i64 xc) := fun p => ((hCd _).1 p.h).1.2 0 _ rfl
      have g1 : ∀ p : In C, p.w.cell? ⟨b2, off2 + k * 3 + 1, none⟩ = some (.int .i64 xa) := fun p => ((hCd _).1 p.h).1.2 1 _ rfl
      have g2 : ∀ p : In C, p.w.cell? ⟨b2, off2 + k * 3 + 2, none⟩ = some (.int .i64 xn) := fun p => ((hCd _).1 p.h).1.2 2 _ rfl
      have g3 : ∀ p : In C, p.w.cell? ⟨b3, off3 + k * 3, none⟩ = some (.int .i64 xc) := fun p => ((hCd _).1 p.h).2.1.2 0 _ rfl
      have g4 : ∀ p : In C, p.w.cell? ⟨b3, off3 + k * 3 + 1, none⟩ = some (.int .i64 xa) := fun p => ((hCd _).1 p.h).2.1.2 1 _ rfl
      have g5 : ∀ p : In C, p.w.cell? ⟨b3, off3 + k * 3 + 2, none⟩ = some (.int .i64 xn) := fun p => ((hCd _).1 p.h).2.1.2 2 _ rfl
      have O : Hid (∀ p : In C, Calls Try.prog 17 #[.pointer (some ⟨X, 0, none⟩), .int .i64 xc, .int .i64 xa] p.w fun e w' => e = .returned (.int .i64 xn) ∧ C w') := hid (fun p => by
        have := lof_any xc xa p.w ((hCd _).1 p.h).2.2.1
        rw [hfx] at this
        exact this.mono fun _ _ ⟨e1, e2⟩ => ⟨e1, hK _ _ p.h e2⟩)
      have HCd := hid hCd
      clear hCd hK hc2 hc3 hx hcell2 hcell3 hfx
      have HW := hid (And.intro hr (And.intro hR2 (And.intro hR3 hb)))
      clear hr hR2 hR3 hb h
      go_wp2_with fail
      refine wp_region_in C (by kernel_rfl) (by kernel_rfl) hC ?_
      intro hne
      clear hC
      repeat (first | go_big_quiet_step ((go_at_call 17; exact Calls.in_of (O.out _))) | quiet_step ((go_at_call 17; exact Calls.in_of (O.out _))))
      refine wpQuiet_nil ?_
      intro wq hq
      obtain ⟨_, _, hL, hbq⟩ := (HCd.out _).1 hq
      obtain ⟨hr, hR2, hR3, hb⟩ := HW.out
      clear g0 g1 g2 g3 g4 g5 O hne hq HCd hse hgd
      go_wp2_with fail
      go_roundw
      case rel => exact ⟨k + 1, by omega, by go_num, hL, hr.next hbq, hR2.below hbq, hR3.below hbq, bthen hb hbq⟩
      case measure => simp [intOf]; omega
    · clear hR2 hR3 HF hcl
      go_wp2_with fail
      go_loopw [8] (fun i wr => ∃ k : Nat, k ≤ 8 ∧ i = .int .i64 ((k : Int) - 1) ∧ IsLed wr X B f d ∧ IsRef wr R f d ∧ Below w.heap.size w wr) (fun i _ => (8 - (intOf i + 1)).toNat)
      case atStart => exact ⟨0, by omega, rfl, h, hr, hb⟩
      case round =>
        clear h hr hb
        obtain ⟨k, hk, rfl, h, hr, hb⟩ := hrel
        by_cases hlt : k < 8
        · have e1 : (k : Int) - 1 ≤ 6 := by omega
          have e2 : -1 ≤ (k : Int) - 1 := by omega
          obtain ⟨q, hq⟩ : ∃ q : Int, q = (k : Int) - 1 := ⟨_, rfl⟩
          rw [← hq] at e1 e2 ⊢
          have HQ := hid hq
          have B1 := hid (lbal_any hS q wr h)
          clear hq
          go_wp2_with fail
          refine B1.out.mono ?_
          rintro e w5 ⟨rfl, hb5⟩
          replace h := h.next hb5
          replace hr := hr.next hb5
          replace hb := bthen hb hb5
          have B2 := hid (rbal_any q w5 hr h.inv)
          have hself : (balF f q != balF f q) = false := by simp
          clear B1 hb5
          go_wp2_with fail
          refine B2.out.mono ?_
          rintro e w6 ⟨rfl, rfl⟩
          clear B2
          go_wp2_with fail
          go_roundw
          case rel => exact ⟨k + 1, by omega, by rw [HQ.out]; go_num, h, hr, hb⟩
          case measure => rw [HQ.out]; simp [intOf]; omega
        · have hk8 : k = 8 := by omega
          subst hk8
          have e0 : (((8 : Nat) : Int) - 1) = 7 := by omega
          rw [e0]
          have T1 := hid (lturn_any wr h)
          clear e0
          go_wp2_with fail
          refine T1.out.mono ?_
          rintro e w5 ⟨rfl, hb5⟩
          have z1 := (hr.next hb5).turn
          have hself : (d == d) = true := by simp
          have hb6 := bthen hb hb5
          clear T1 h hr hb hb5
          go_wp2_with fail
          go_ret
          exact ⟨by simp, hb6⟩

end Go.Proofs.Ytjlfhfhckomalaa
