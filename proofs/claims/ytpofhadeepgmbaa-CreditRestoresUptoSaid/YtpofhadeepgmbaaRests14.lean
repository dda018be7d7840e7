/-
  The walk of CreditRestores.
-/
import Derived.Test.YtpofhadeepgmbaaRstR14
import Derived.Test.YtpofhadeepgmbaaPlays14
namespace Go.Proofs.Ytpofhadeepgmbaa
open Go.RowKit Go.WideShapes Go.ChangeShapes Go.ChangeAt Go.Deep
set_option linter.unusedVariables false

theorem nil_exposure (id : Int) (w : World) : Calls Try.prog 13 #[.pointer none, .int .i64 id] w fun e w' => e = .returned (.tuple #[.int .i64 0, .int .i64 0, .bool false]) ∧ w = w' := by
  go_enter Try.func13, Try.ntmps13
  go_wp2_with fail
  go_ret3
  exact ⟨rfl, rfl⟩
set_option maxRecDepth 100000 in
theorem nil_customer (id l : Int) (w : World) : Calls Try.prog 11 #[.pointer none, .int .i64 id, .int .i64 l] w fun e w' => e = .returned (.int .i64 1) ∧ w = w' := by
  go_enter Try.func11, Try.ntmps11
  go_wp2_with fail
  go_ret
  exact ⟨rfl, rfl⟩
set_option maxRecDepth 100000 in
theorem nil_hold (o c n : Int) (w : World) : Calls Try.prog 12 #[.pointer none, .int .i64 o, .int .i64 c, .int .i64 n] w fun e w' => e = .returned (.int .i64 1) ∧ w = w' := by
  go_enter Try.func12, Try.ntmps12
  go_wp2_with fail
  go_ret
  exact ⟨rfl, rfl⟩
theorem nil_release (o : Int) (w : World) : Calls Try.prog 14 #[.pointer none, .int .i64 o] w fun e w' => e = .returned (.int .i64 1) ∧ w = w' := by
  go_enter Try.func14, Try.ntmps14
  go_wp2_with fail
  go_ret
  exact ⟨rfl, rfl⟩
theorem nil_parties (w : World) : Calls Try.prog 18 #[.pointer none] w fun e w' => e = .returned (.slice none 0 0) ∧ w = w' := by
  go_enter Try.func18, Try.ntmps18
  go_wp2_with fail
  go_ret
  exact ⟨rfl, rfl⟩
theorem nil_holds (w : World) : Calls Try.prog 15 #[.pointer none] w fun e w' => e = .returned (.slice none 0 0) ∧ w = w' := by
  go_enter Try.func15, Try.ntmps15
  go_wp2_with fail
  go_ret
  exact ⟨rfl, rfl⟩

set_option maxRecDepth 100000 in
set_option maxHeartbeats 16000000 in
theorem creditRestores_walk (pl : List Pa) (A1 : Option Addr) (cp1 : Nat) (hl : List Hd) (A2 : Option Addr) (cp2 : Nat) (l : List Quad) (A3 : Option Addr) (cp3 : Nat) (w : World) (hR1 : Rd w A1 (pl.flatMap enP)) (hR2 : Rd w A2 (hl.flatMap enH3)) (hR3 : Rd w A3 (l.flatMap en4))
    (hb1 : pl.length ≤ 1048576) (hb2 : hl.length ≤ 1048576) (hb3 : l.length ≤ 1048576) :
    Calls Try.prog 8 #[.slice A1 pl.length cp1, .slice A2 hl.length cp2, .slice A3 l.length cp3] w (Law w) := by
  obtain ⟨i0, hi, hz0, hz1, hz2⟩ := info_parts info_pa
  obtain ⟨i1, hj, hy0, hy1, hy2⟩ := info_parts info_rh
  go_enter Try.func8, Try.ntmps8
  go_wp2_with (first
    | (go_at_call 13; refine (nil_exposure _ _).mono ?_; rintro e w1 ⟨rfl, rfl⟩)
    | (go_at_call 9; refine (wakes_any _).mono ?_; rintro e w1 ⟨rfl, hb⟩)
    | (go_at_call 11; refine (nil_customer _ _ _).mono ?_; rintro e w2 ⟨rfl, rfl⟩)
    | (go_at_call 12; refine (nil_hold _ _ _ _).mono ?_; rintro e w2 ⟨rfl, rfl⟩)
    | (go_at_call 14; refine (nil_release _ _).mono ?_; rintro e w2 ⟨rfl, rfl⟩)
    | (go_at_call 18; refine (nil_parties _).mono ?_; rintro e w2 ⟨rfl, rfl⟩)
    | (go_at_call 15; refine (nil_holds _).mono ?_; rintro e w2 ⟨rfl, rfl⟩))
  go_loopw [11, 59] (fun v i wr => ∃ k : Nat, k ≤ pl.length ∧ i = .int .i64 k ∧ wr.ownsRow w.heap.size 58 2 v k ((pl.take k).flatMap enP) ∧ Below w.heap.size w wr) (fun _ i _ => pl.length - nOf i)
  case atStart => exact ⟨0, Nat.zero_le _, rfl, World.ownsRow_nil _ _ _ _, hb⟩
  case round =>
    clear hb
    obtain ⟨k, hk, rfl, hO, hb⟩ := hrel
    have hwz : w.heap.size ≤ wr.heap.size := hb.size
    by_cases hlt : k < pl.length
    · obtain ⟨x, hx⟩ : ∃ x, pl[k]? = some x := ⟨pl[k], List.getElem?_eq_getElem hlt⟩
      obtain ⟨b, off, hAA, hbs, hcc⟩ := (hR1.below hb).at_ 2 enP_len (by omega) hx
      have HS : Hid (pl.take (k + 1) = pl.take k ++ [x]) := hid (by rw [List.take_add_one, hx]; rfl)
      obtain ⟨xi, xl⟩ := x
      have q0 : wr.cell? ⟨b, off + k * 2, none⟩ = some (.int .i64 xi) := hcc 0 _ rfl
      have q1 : wr.cell? ⟨b, off + k * 2 + 1, none⟩ = some (.int .i64 xl) := hcc 1 _ rfl
      have hO3 := hid (hO.alloc (.cells #[.int .i64 xi, .int .i64 xl] 57))
      have hb3' := hid ((hb.alloc hb.size (.cells #[.int .i64 xi, .int .i64 xl] 57)).alloc (by have := hb.size; simp; omega) (.cells #[.int .i64 xi, .int .i64 xl] 58))
      clear hcc hx hO hb
      subst hAA
      go_wp2_with (first
        | (at_builtin; refine wpList_push _ rfl _ _ 47 rfl w.heap.size 58 i0 _ 2 16 Try.underlying47 hi hz0 hz1 hz2 rfl (by decide) _ _ _ (by rfl) hO3.out #[.int .i64 xi, .int .i64 xl] (wr.heap.size + 1) (by simp) (by rfl) (by rfl) (by rfl) (by unfold maxLen; omega) (by omega) (by simp; omega) ?_; intro v' w3 hO4 hg4))
      have hb4 := hb3'.out.grown hg4 (by simp; omega) (fun k hk => (hO3.out.lt k hk).1)
      have hO5 : w3.ownsRow w.heap.size 58 2 v' (k + 1) ((pl.take (k + 1)).flatMap enP) := by
        rw [HS.out, List.flatMap_append]
        simpa [enP] using hO4
      clear hO4 hg4 hO3 hb3'
      go_roundw
      case rel => exact ⟨k + 1, by omega, by go_num, hO5, hb4⟩
      case measure => simp [nOf]; omega
    · have hk' : k = pl.length := by omega
      subst hk'
      rw [List.take_length] at hO
      obtain ⟨A4, cp4, rfl, hR4⟩ := own_slice hO
      clear hk hlt hO
      go_wp2_with fail
      generalize wr = wA at *
      go_loopw [14, 74] (fun v i wr' => ∃ k : Nat, k ≤ hl.length ∧ i = .int .i64 k ∧ wr'.ownsRow wA.heap.size 59 3 v k ((hl.take k).flatMap enH3) ∧ Below wA.heap.size wA wr') (fun _ i _ => hl.length - nOf i)
      case atStart => exact ⟨0, Nat.zero_le _, rfl, World.ownsRow_nil _ _ _ _, Below.refl _ _⟩
      case round =>
        obtain ⟨k, hk, rfl, hO, hb'⟩ := hrel
        have hwz2 : wA.heap.size ≤ wr.heap.size := hb'.size
        by_cases hlt : k < hl.length
        · obtain ⟨x, hx⟩ : ∃ x, hl[k]? = some x := ⟨hl[k], List.getElem?_eq_getElem hlt⟩
          obtain ⟨b, off, hAA, hbs, hcc⟩ := (hR2.below (bthen hb hb')).at_ 3 enH3_len (by omega) hx
          have HS : Hid (hl.take (k + 1) = hl.take k ++ [x]) := hid (by rw [List.take_add_one, hx]; rfl)
          obtain ⟨xo, xc, xa⟩ := x
          have q0 : wr.cell? ⟨b, off + k * 3, none⟩ = some (.int .i64 xo) := hcc 0 _ rfl
          have q1 : wr.cell? ⟨b, off + k * 3 + 1, none⟩ = some (.int .i64 xc) := hcc 1 _ rfl
          have q2 : wr.cell? ⟨b, off + k * 3 + 2, none⟩ = some (.int .i64 xa) := hcc 2 _ rfl
          have hO3 := hid (hO.alloc (.cells #[.int .i64 xo, .int .i64 xc, .int .i64 xa] 40))
          have hb3' := hid ((hb'.alloc hb'.size (.cells #[.int .i64 xo, .int .i64 xc, .int .i64 xa] 40)).alloc (by have := hb'.size; simp; omega) (.cells #[.int .i64 xo, .int .i64 xc, .int .i64 xa] 59))
          clear hcc hx hO hb'
          subst hAA
          go_wp2_with (first
            | (at_builtin; refine wpList_push _ rfl _ _ 48 rfl wA.heap.size 59 i1 _ 3 24 Try.underlying48 hj hy0 hy1 hy2 rfl (by decide) _ _ _ (by rfl) hO3.out #[.int .i64 xo, .int .i64 xc, .int .i64 xa] (wr.heap.size + 1) (by simp) (by rfl) (by rfl) (by rfl) (by unfold maxLen; omega) (by omega) (by simp; omega) ?_; intro v' w3 hO4 hg4))
          have hb4 := hb3'.out.grown hg4 (by simp; omega) (fun k hk => (hO3.out.lt k hk).1)
          have hO5 : w3.ownsRow wA.heap.size 59 3 v' (k + 1) ((hl.take (k + 1)).flatMap enH3) := by
            rw [HS.out, List.flatMap_append]
            simpa [enH3] using hO4
          clear hO4 hg4 hO3 hb3'
          go_roundw
          case rel => exact ⟨k + 1, by omega, by go_num, hO5, hb4⟩
          case measure => simp [nOf]; omega
        · have hk' : k = hl.length := by omega
          subst hk'
          rw [List.take_length] at hO
          obtain ⟨A5, cp5, rfl, hR5⟩ := own_slice hO
          have hBB := hid (bthen hb hb')
          have hR4' := hid (hR4.below hb')
          have hR5' := hid hR5
          have K1 := hid (restore_any pl A1 cp1 hl A2 cp2 wr (hR1.below hBB.out) (hR2.below hBB.out) (by omega) (by omega))
          have K2 := hid (fun w5 (hb5 : Below wr.heap.size wr w5) => rrestore_any pl A4 cp4 hl A5 cp5 w5 (hR4'.out.below hb5) (hR5'.out.below hb5) (by omega) (by omega))
          have hR3' := hid (fun w5 (hb5 : Below w.heap.size w w5) => hR3.below hb5)
          clear hk hlt hO hR5 hb hb' hR4 hR1 hR2 hR3 hi hz0 hz1 hz2 hj hy0 hy1 hy2
          go_wp2_with fail
          refine K1.out.mono ?_
          rintro e w5 ⟨hP1, hb5⟩
          by_cases hgood : Good pl hl
          · obtain ⟨X, BA, BH, ac, hs, rfl, hB, hM, hln⟩ := hP1.1 hgood
            have HGd := hid hgood
            clear hP1 hgood K1
            go_wp2_with fail
            refine (K2.out _ hb5).mono ?_
            rintro e w6 ⟨hP2, hb6⟩
            obtain ⟨R, A6, c6, A7, c7, rfl, hRl, hF⟩ := hP2.1 HGd.out
            clear hP2 K2 HGd
            have hB6 := hB.next hb6
            have hbw := bthen (bthen hBB.out hb5) hb6
            have h56 := hb5.size
            have h67 := hb6.size
            have hww := hBB.out.size
            have hS := hid (state_any hB6 hF hM (by omega))
            have hPl := hid (fun w7 (h7 : Below w6.heap.size w6 w7) => play_any w l A3 cp3 (hR3'.out w (Below.refl _ _)) w7 (hB6.next h7) (hF.next h7) hM (bthen hbw h7) (by
              have h1 := hF.blk.lt
              have h2 := h7.size
              omega) ⟨by omega, by omega, by omega⟩ (by omega))
            clear hB hB6 hF hM hb5 hb6 hR3' hR4' hR5'
            go_wp2_with fail
            refine hS.out.mono ?_
            rintro e w7 ⟨rfl, hb7⟩
            go_wp2_with fail
            refine (hPl.out _ hb7).mono ?_
            rintro e w8 ⟨rfl, _, _, _, _, _, _, _, _, _, _, _, _, hb8, _⟩
            clear hPl hS hb7
            go_wp2_with fail
            go_ret
            exact ⟨by simp, hb8⟩
          · obtain rfl := hP1.2 hgood
            have HGd := hid hgood
            have hbw := bthen hBB.out hb5
            clear hP1 hgood K1
            go_wp2_with fail
            refine (K2.out _ hb5).mono ?_
            rintro e w6 ⟨hP2, hb6⟩
            obtain rfl := hP2.2 HGd.out
            have hbw := hid (bthen hbw hb6)
            clear hP2 K2 HGd hb5 hb6 hR3' hR4' hR5'
            go_wp2_with fail
            go_ret
            exact ⟨by simp, hbw.out⟩

end Go.Proofs.Ytpofhadeepgmbaa
