/-
  The walk of DeskHolds.
-/
import Derived.Test.YtakaalldbnklcaaDkW
namespace Go.Proofs.Ytakaalldbnklcaa
open Go.RowKit Go.WideShapes Go.ChangeShapes Go.ChangeAt Go.Deep
set_option linter.unusedVariables false

set_option maxRecDepth 100000 in
set_option maxHeartbeats 40000000 in
theorem deskHolds_walk (lm : Int) (lp : List Int) (AP : Option Addr) (cP : Nat) (lt : List Int) (AT : Option Addr) (cT : Nat) (w : World) (wl : I64 lm)
    (hRP : Rd w AP (lp.flatMap en1)) (okP : ∀ x ∈ lp, I64 x) (hlP : lp.length * 8 ≤ 140737488351232) (hRT : Rd w AT (lt.flatMap en1)) (okT : ∀ x ∈ lt, I64 x) (hlT : lt.length * 8 ≤ 140737488351232) (hcP : lp.length ≤ cP) (hmP : cP ≤ maxLen) :
    Calls Try.prog 4 #[.int .i64 lm, .slice AP lp.length cP, .slice AT lt.length cT] w (Law w) := by
  have hbl := I64.bd wl
  unfold maxLen at hmP
  go_enter Try.func4, Try.ntmps4
  go_wp2_with fail
  refine (wakes_any _).mono ?_
  rintro e w1 ⟨rfl, hb1⟩
  go_wp2_with fail
  refine (dnew_any _).mono ?_
  rintro e w2 ⟨D, XC, BA, BH, XO, BP, BO, XI, BI, XS, XM, rfl, h⟩
  have H0 := hid h
  have HB1 := hid hb1
  clear h hb1
  go_upto_region 4 with fail
  go_cut [0] (fun v wx => ∃ L : Int, 0 ≤ L ∧ L ≤ 100000 ∧ v = .int .i64 L ∧ wx = w2)
  case first =>
    clear hRP okP hlP hRT okT hlT hcP hmP
    go_wp2_with fail
    all_goals (go_meet; exact ⟨_, by omega, by omega, rfl, rfl⟩)
  case rest =>
    obtain ⟨L, hL0, hL1, rfl, hwx⟩ := hcut
    rw [hwx]
    clear hwx hbl wl
    have c0 : w2.cell? ⟨D, 0, none⟩ = some (.pointer (some ⟨XC, 0, none⟩)) := H0.out.blk.cell 0
    have K := hid (hl_customer H0.out L hL0 hL1)
    clear H0
    go_wp2_with fail
    refine K.out.mono ?_
    rintro e w3 ⟨ac, rfl, h⟩
    clear K c0
    have H3 := hid h
    clear h
    go_upto_region 7 with fail
    go_cut [34, 35, 36] (fun s n i wx => ∃ N : Nat, N ≤ lp.length ∧ N ≤ 30 ∧ s = .slice AP N cP ∧ n = .int .i64 N ∧ i = .int .i64 0 ∧ wx = w3)
    case first =>
      by_cases h5 : lp.length ≤ 30
      · have hmin : min (lp.length : Int) 30 = (lp.length : Int) := by omega
        go_wp2_with fail
        all_goals (go_meet; exact ⟨lp.length, Nat.le_refl _, h5, rfl, rfl, rfl, rfl⟩)
      · have hmin : min (lp.length : Int) 30 = 30 := by omega
        go_wp2_with fail
        all_goals (go_meet; exact ⟨30, by omega, by omega, rfl, rfl, rfl, rfl⟩)
    case rest =>
      obtain ⟨N, hN, hN30, rfl, rfl, rfl, hwx⟩ := hcut
      rw [hwx]
      clear hwx hcP hmP
      go_wp2_with fail
      go_loopw [8, 36] (fun s i wr => ∃ (k : Nat) (sum : Int) (ac : List (Int × Cr.Acc)) (hs : List (Int × Cr.Hd)) (pr : List (Int × Int)) (os : List (Int × Or.Od)) (m : List ((Int × Int) × In.Ent)), k ≤ N ∧ i = .int .i64 k ∧ s = .int .i64 sum ∧ HL w1 wr D XC BA BH XO BP BO XI BI XS XM ac hs pr os m L sum k k) (fun _ i _ => N - nOf i)
      case atStart => exact ⟨0, 0, ac, [], [], [], [], Nat.zero_le _, rfl, rfl, H3.out⟩
      case round =>
        clear H3
        obtain ⟨k, sum, ac, hs, pr, os, m, hk, rfl, rfl, h⟩ := hrel
        have HW := hid (bthen HB1.out h.ds.bel)
        by_cases hlt : k < N
        · obtain ⟨x, hx⟩ : ∃ x, lp[k]? = some x := ⟨lp[k], List.getElem?_eq_getElem (by omega)⟩
          have hbx := I64.bd (okP x (List.mem_of_getElem? hx))
          obtain ⟨b, off, rfl, hbs, hcc⟩ := (hRP.below HW.out).at_ 1 en1_len (by omega) hx
          have q0 := hcc 0 _ rfl
          simp only [Nat.add_zero, Nat.mul_one] at q0
          clear hcc hx
          have H := hid h
          clear h
          go_upto_region 10 with fail
          clear q0 hbs
          go_cut [] (fun wx => ∃ (p : Int) (pr' : List (Int × Int)), 0 ≤ p ∧ p ≤ 5000 ∧ mget pr' 1 = some p ∧ HL w1 wx D XC BA BH XO BP BO XI BI XS XM ac hs pr' os m L sum k k)
          case first =>
            have c3 : wr.cell? ⟨D, 3, none⟩ = some (.pointer (some ⟨XO, 0, none⟩)) := H.out.ds.blk.cell 3
            have K : Hid (∀ p : Int, 0 ≤ p → p ≤ 5000 → Calls Try.prog 9 #[.pointer (some ⟨XO, 0, none⟩), .int .i64 1, .int .i64 p] wr fun e w' => e = .returned (.int .i64 0) ∧ HL w1 w' D XC BA BH XO BP BO XI BI XS XM ac hs (mset pr 1 p) os m L sum k k) := hid (fun p h0 h1 => hl_item H.out p h0 (by omega))
            clear HW H hRP okP hlP hRT okT hlT HB1 hL0 hL1
            go_wp2_with fail
            all_goals
              refine (K.out _ (by omega) (by omega)).mono ?_
              rintro e w5 ⟨rfl, h⟩
              go_wp2_with fail
              go_meet
              refine ⟨_, _, ?_, ?_, by rw [mget_mset, if_pos rfl], h⟩ <;> omega
          case rest =>
            obtain ⟨p, pr', hp0, hp5, hp1, h⟩ := hcut
            clear H HW
            have kk : IntKind.i64.wrap ((k : Int) + 1) = (k : Int) + 1 := IntWalk.i64_in _ ⟨by omega, by omega⟩
            have c3 : wc.cell? ⟨D, 3, none⟩ = some (.pointer (some ⟨XO, 0, none⟩)) := h.ds.blk.cell 3
            have lD : D < wc.heap.size := h.ds.blk.lt
            have K := hid (hl_add (h.next ((Below.refl _ _).alloc (Nat.le_refl _) (.cells #[.int .i64 1, .int .i64 1] 45))) (some ⟨wc.heap.size, 0, none⟩) (one_rd wc ⟨1, 1⟩) ((k : Int) + 1) (by omega) (by omega) p hp1)
            clear h
            go_wp2_with fail
            refine K.out.mono ?_
            rintro e w4 ⟨o, rfl, h, o1, o2, o3, o4⟩
            have hto := tot_one hp0 (show p ≤ 1000000 by omega)
            rw [← o3, ← o4] at hto
            have HO := hid (show mget (mset os ((k : Int) + 1) o) ((k : Int) + 1) = some o from by rw [mget_mset, if_pos rfl])
            generalize mset os ((k : Int) + 1) o = os4 at h HO
            obtain ⟨oi, oc, of, ob, ocp, ols, on, ot⟩ := o
            simp only at hto o1 o2
            have c3 : w4.cell? ⟨D, 3, none⟩ = some (.pointer (some ⟨XO, 0, none⟩)) := h.ds.blk.cell 3
            have G := hid (hl_get h _ _ HO.out)
            have H4 := hid (And.intro h (And.intro o1 (And.intro o2 hto)))
            clear K h o1 o2 o3 o4 hto hp0 hp5 hp1 lD
            simp only at G
            go_wp2_with fail
            refine G.out.mono ?_
            rintro e w5 ⟨⟨b5, cp5, rfl⟩, hb5⟩
            have hb6 : Below w5.heap.size w5 (w5.alloc (.cells #[.int .i64 oi, .int .i64 oc, .string of, .slice (some ⟨b5, 0, none⟩) ols.length cp5, .int .i64 on, .int .i64 ot] 47)) := (Below.refl _ _).alloc (Nat.le_refl _) _
            have hGB := Blk.new w5 47 #[.int .i64 oi, .int .i64 oc, .string of, .slice (some ⟨b5, 0, none⟩) ols.length cp5, .int .i64 on, .int .i64 ot]
            have h := (H4.out.1.next hb5).next hb6
            obtain ⟨W6, hW6⟩ : ∃ W, W = w5.alloc (.cells #[.int .i64 oi, .int .i64 oc, .string of, .slice (some ⟨b5, 0, none⟩) ols.length cp5, .int .i64 on, .int .i64 ot] 47) := ⟨_, rfl⟩
            obtain ⟨GO, hGO⟩ : ∃ g, g = w5.heap.size := ⟨_, rfl⟩
            rw [← hW6] at h hGB
            rw [← hGO] at hGB
            have HW6 := hid hW6
            have HGO := hid hGO
            have HGB := hid hGB
            have K := hid (hl_do h ((k : Int) + 1) (by omega) (by omega) _ HO.out H4.out.2.1 H4.out.2.2.1 H4.out.2.2.2.1 H4.out.2.2.2.2.1)
            simp only at K
            clear G c3 hb5 hb6 hGB h hW6 hGO
            go_wp2_with fail
            rw [← HW6.out, ← HGO.out]
            refine K.out.mono ?_
            rintro e w6 ⟨c, sum', ac6, hs6, m6, rfl, h, ha, hcs, hBl⟩
            have hGB := hBl _ _ _ HGB.out (by decide)
            have hb7 : Below w6.heap.size w6 (w6.alloc (.cells #[.bool true, .int .i64 c, .bool false, .bool false] 35)) := (Below.refl _ _).alloc (Nat.le_refl _) _
            have hAB := Blk.new w6 35 #[.bool true, .int .i64 c, .bool false, .bool false]
            replace h := h.next hb7
            replace hGB := hGB.next hb7
            simp only [vAns]
            obtain ⟨W7, hW7⟩ : ∃ W, W = w6.alloc (.cells #[.bool true, .int .i64 c, .bool false, .bool false] 35) := ⟨_, rfl⟩
            obtain ⟨GA, hGA⟩ : ∃ g, g = w6.heap.size := ⟨_, rfl⟩
            rw [← hW7] at h hGB hAB
            rw [← hGA] at hAB
            have HW7 := hid hW7
            have HGA := hid hGA
            have H7 := hid (And.intro h (And.intro hGB hAB))
            have HA := hid ha
            have HCS := hid hcs
            have HTO := hid H4.out.2.2.2
            clear K HGB HGO HW6 H4 HO h hBl hb7 hGB hAB ha hcs hW7 hGA
            go_upto_region 16 with fail
            rw [← HW7.out, ← HGA.out]
            clear HW7 HGA
            go_cut [93] (fun v wx => v = .bool false ∧ Below W7.heap.size W7 wx)
            case first =>
              have hRT7 := hRT.below (bthen HB1.out H7.out.1.ds.bel)
              clear HCS HTO hRP okP hlP hRT okT HB1 hL0 hL1
              obtain ⟨C, hC⟩ : ∃ C : World → Prop, ∀ w', C w' ↔ Below W7.heap.size W7 w' := ⟨_, fun _ => Iff.rfl⟩
              have hc0 : C W7.drew := (hC _).2 ((Below.refl _ _).drew)
              have g0 : ∀ p : In C, p.w.cell? ⟨GA, 0, none⟩ = some (.bool true) := fun p => (H7.out.2.2.next ((hC _).1 p.h)).cell 0
              have g1 : ∀ p : In C, p.w.cell? ⟨GA, 1, none⟩ = some (.int .i64 c) := fun p => (H7.out.2.2.next ((hC _).1 p.h)).cell 1
              have g2 : ∀ p : In C, p.w.cell? ⟨GA, 2, none⟩ = some (.bool false) := fun p => (H7.out.2.2.next ((hC _).1 p.h)).cell 2
              have g3 : ∀ p : In C, p.w.cell? ⟨GA, 3, none⟩ = some (.bool false) := fun p => (H7.out.2.2.next ((hC _).1 p.h)).cell 3
              have f0 : ∀ p : In C, Calls Try.prog 6 #[.pointer (some ⟨D, 0, none⟩), .int .i64 ((k : Int) + 1), .int .i64 0, .int .i64 1, .string vb0, .bool false] p.w fun e w' => e = .returned (.agg #[.bool true, .int .i64 c, .bool false, .bool false]) ∧ C w' := fun p => (hl_again (H7.out.1.next ((hC _).1 p.h)) _ c HA.out).mono fun e w' ⟨h1, h2⟩ => ⟨h1, (hC _).2 (bthen ((hC _).1 p.h) h2)⟩
              have HC := hid hC
              by_cases hkt : k < lt.length
              · obtain ⟨y, hy⟩ : ∃ y, lt[k]? = some y := ⟨lt[k], List.getElem?_eq_getElem hkt⟩
                obtain ⟨bt, ot', rfl, hbt, hct⟩ := hRT7.at_ 1 en1_len (by omega) hy
                have q0 := hct 0 _ rfl
                simp only [Nat.add_zero, Nat.mul_one] at q0
                have r0 : ∀ p : In C, p.w.cell? ⟨bt, ot' + k, none⟩ = some (.int .i64 y) := fun p => (((HC.out _).1 p.h).cell (p := ⟨bt, ot' + k, none⟩) hbt).trans q0
                clear hct hy q0 hRT7 hC hlT
                have t0 : decide ((k : Int) < (lt.length : Int)) = true := decide_eq_true (by omega)
                by_cases h2 : y.tmod 2 = 0
                · have t1 : (y.tmod 2 == 0) = true := by simpa using h2
                  go_wp2_with fail
                  refine wp_region_in C (by kernel_rfl) (by kernel_rfl) hc0 ?_
                  intro hne
                  clear hc0
                  repeat (first | go_big_quiet_step (fail) | quiet_step (first | exact Calls.in_of (f0 _)))
                  refine wpQuiet_nil ?_
                  intro wq hq
                  clear g0 g1 g2 g3 f0 r0 hne
                  go_wp2_with fail
                  go_meet
                  exact ⟨rfl, (HC.out _).1 hq⟩
                · have t1 : (y.tmod 2 == 0) = false := by simpa using h2
                  go_wp2_with fail
                  refine wp_region_in C (by kernel_rfl) (by kernel_rfl) hc0 ?_
                  intro hne
                  clear hc0
                  repeat (first | go_big_quiet_step (fail) | quiet_step (first | exact Calls.in_of (f0 _)))
                  refine wpQuiet_nil ?_
                  intro wq hq
                  clear g0 g1 g2 g3 f0 r0 hne
                  go_wp2_with fail
                  go_meet
                  exact ⟨rfl, (HC.out _).1 hq⟩
              · have t0 : decide ((k : Int) < (lt.length : Int)) = false := decide_eq_false (by omega)
                have t1 : decide (k < lt.length) = false := decide_eq_false hkt
                clear hRT7 hC hlT
                go_wp2_with fail
                refine wp_region_in C (by kernel_rfl) (by kernel_rfl) hc0 ?_
                intro hne
                clear hc0
                repeat (first | go_big_quiet_step (fail) | quiet_step (first | exact Calls.in_of (f0 _)))
                refine wpQuiet_nil ?_
                intro wq hq
                clear g0 g1 g2 g3 f0 hne
                go_wp2_with fail
                go_meet
                exact ⟨rfl, (HC.out _).1 hq⟩
            case rest =>
              obtain ⟨rfl, hb8⟩ := hcut
              have h := H7.out.1.next hb8
              have hGB := H7.out.2.1.next hb8
              have hAB := H7.out.2.2.next hb8
              obtain ⟨g1, g2, g3, g4⟩ := HTO.out
              obtain ⟨s1, s2, s3⟩ := h.rng
              have a0 : wc.cell? ⟨GA, 0, none⟩ = some (.bool true) := hAB.cell 0
              have a1 : wc.cell? ⟨GA, 1, none⟩ = some (.int .i64 c) := hAB.cell 1
              have o4 : wc.cell? ⟨GO, 4, none⟩ = some (.int .i64 on) := hGB.cell 4
              have o5 : wc.cell? ⟨GO, 5, none⟩ = some (.int .i64 ot) := hGB.cell 5
              have c0 : wc.cell? ⟨D, 0, none⟩ = some (.pointer (some ⟨XC, 0, none⟩)) := h.ds.blk.cell 0
              have lD : D < wc.heap.size := h.ds.blk.lt
              have lA : GA < wc.heap.size := hAB.lt
              have lO : GO < wc.heap.size := hGB.lt
              have K := hid (hl_exposure h)
              have H := hid h
              have hcs := HCS.out
              clear H7 HA HTO HCS hb8 hAB hGB h hRP okP hlP hRT okT hlT HB1
              have HK := hid (show ((k : Int) + 1) = ((k + 1 : Nat) : Int) from by omega)
              rcases hcs with ⟨rfl, rfl, hle⟩ | ⟨rfl, rfl, hle⟩
              · have t1 : decide (sum + on + ot ≤ L) = true := decide_eq_true (by omega)
                have t2 : IntKind.i64.wrap (sum + (on + ot)) = sum + (on + ot) := IntWalk.i64_in _ ⟨by omega, by omega⟩
                go_wp2_with fail
                refine K.out.mono ?_
                rintro e w9 ⟨rfl, hb9⟩
                have h9 := hid (H.out.next hb9)
                clear K a0 a1 o4 o5 c0 lD lA lO H hb9
                go_wp2_with fail
                go_roundw
                case rel => exact ⟨k + 1, sum + (on + ot), ac6, hs6, pr', os4, m6, by omega, by go_num, by go_num, by rw [← HK.out]; exact h9.out⟩
                case measure => simp [nOf]; omega
              · have t1 : decide (sum' + on + ot ≤ L) = false := decide_eq_false (by omega)
                go_wp2_with fail
                refine K.out.mono ?_
                rintro e w9 ⟨rfl, hb9⟩
                have h9 := hid (H.out.next hb9)
                clear K a0 a1 o4 o5 c0 lD lA lO H hb9
                go_wp2_with fail
                go_roundw
                case rel => exact ⟨k + 1, sum', ac6, hs6, pr', os4, m6, by omega, by go_num, rfl, by rw [← HK.out]; exact h9.out⟩
                case measure => simp [nOf]; omega
        · go_wp2_with fail
          go_ret
          exact ⟨rfl, HW.out⟩

end Go.Proofs.Ytakaalldbnklcaa
