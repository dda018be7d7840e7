/-
  Layer 19: the laws' word 'play'.
-/
import Derived.Test.YtdgoifnhlpjnpaaPlA19
import Derived.Test.YtdgoifnhlpjnpaaAppend
import Derived.Deep.CutBlock
import Derived.Deep.RegionHeld3
namespace Go.Proofs.Ytdgoifnhlpjnpaa
open Go.RowKit Go.WideShapes Go.ChangeShapes Go.ChangeAt Go.Deep
set_option linter.unusedVariables false

theorem enL_all (l : List Ln) : ∀ u ∈ l.flatMap enL, u.oneCell' = true := fun u hu => by
  obtain ⟨y, _, hy⟩ := List.mem_flatMap.1 hu
  exact enL_one y u hy
theorem enL_flat (l : List Ln) : (l.flatMap enL).length = l.length * 2 := by
  have := length_flatMap_const enL 2 enL_len l
  omega

set_option maxRecDepth 100000 in
set_option maxHeartbeats 16000000 in
theorem play_any {n0 base X BP BO R c1 c2 : Nat} {A1 A2 : Option Addr} {pr is : List (Int × Int)} {os : List (Int × Od)} {rs : List Od}
    (w0 : World) (l : List Opn) (A : Option Addr) (cp : Nat) (hR0 : Rd w0 A (l.flatMap enOp)) (hok : ∀ x ∈ l, OkOp w0 x) (w : World) (h : St w0 n0 X BP BO pr os w) (hF : IsRef base w R A1 c1 is A2 c2 rs) (hM : RelO pr os is rs) (hbw : base ≤ w.heap.size) (hlow : w0.heap.size ≤ R) (hl : l.length * 72 ≤ 140737488351232) :
    Calls Try.prog 18 #[.pointer (some ⟨X, 0, none⟩), .pointer (some ⟨R, 0, none⟩), .slice A l.length cp] w fun e w' => e = .returned (.bool true) ∧ Below w0.heap.size w0 w' := by
  have HI := hid (And.intro h (And.intro hF (And.intro hM hbw)))
  have HOK := hid hok
  obtain ⟨i0, hi, hz0, hz1, hz2⟩ := info_parts info_ln
  clear h hF hM hbw hok
  go_enter Try.func18, Try.ntmps18
  go_wp2_with fail
  go_loopw [17] (fun i wr => ∃ (k : Nat) (pr : List (Int × Int)) (os : List (Int × Od)) (A1 : Option Addr) (c1 : Nat) (is : List (Int × Int)) (A2 : Option Addr) (c2 : Nat) (rs : List Od), k ≤ l.length ∧ i = .int .i64 k ∧ Hid (RelO pr os is rs) ∧ St w0 n0 X BP BO pr os wr ∧ IsRef base wr R A1 c1 is A2 c2 rs ∧ base ≤ wr.heap.size) (fun i _ => l.length - nOf i)
  case atStart =>
    obtain ⟨h, hF, hM, hbw⟩ := HI.out
    exact ⟨0, _, _, _, _, _, _, _, _, Nat.zero_le _, rfl, hid hM, h, hF, hbw⟩
  case round =>
    clear HI
    obtain ⟨k, pr, os, A1, c1, is, A2, c2, rs, hk, rfl, hM, h, hF, hbw⟩ := hrel
    by_cases hlt : k < l.length
    · obtain ⟨x, hx⟩ : ∃ x, l[k]? = some x := ⟨l[k], List.getElem?_eq_getElem hlt⟩
      have HX := hid (HOK.out x (List.mem_of_getElem? hx))
      obtain ⟨b, off, hAA, hbs, hcc⟩ := (hR0.below h.bel).at_ 6 enOp_len (by omega) hx
      have q0 : wr.cell? ⟨b, off + k * 6, none⟩ = some (.bool x.o) := hcc 0 _ rfl
      have q1 : wr.cell? ⟨b, off + k * 6 + 1, none⟩ = some (.int .i64 x.i) := hcc 1 _ rfl
      have q2 : wr.cell? ⟨b, off + k * 6 + 2, none⟩ = some (.int .i64 x.c) := hcc 2 _ rfl
      have q3 : wr.cell? ⟨b, off + k * 6 + 3, none⟩ = some (.int .i64 x.p) := hcc 3 _ rfl
      have q4 : wr.cell? ⟨b, off + k * 6 + 4, none⟩ = some (.string x.f) := hcc 4 _ rfl
      have q5 : wr.cell? ⟨b, off + k * 6 + 5, none⟩ = some (.slice x.A x.ls.length x.cap) := hcc 5 _ rfl
      have hwb : Below wr.heap.size wr (wr.alloc (.cells #[.bool x.o, .int .i64 x.i, .int .i64 x.c, .int .i64 x.p, .string x.f, .slice x.A x.ls.length x.cap] 28)) := (Below.refl _ _).alloc (Nat.le_refl _) _
      have hPl : PlR w0 n0 base X BP BO R wr.heap.size x pr os A1 c1 is A2 c2 rs (wr.alloc (.cells #[.bool x.o, .int .i64 x.i, .int .i64 x.c, .int .i64 x.p, .string x.f, .slice x.A x.ls.length x.cap] 28)) :=
        ⟨h.next hwb, hF.next hwb, Blk.new _ _ _, Nat.le_trans hbw hwb.size, hlow⟩
      replace hPl := hid hPl
      clear h hF hbw hwb hcc hx hbs
      subst hAA
      have p00 : (wr.alloc (.cells #[.bool x.o, .int .i64 x.i, .int .i64 x.c, .int .i64 x.p, .string x.f, .slice x.A x.ls.length x.cap] 28)).cell? ⟨wr.heap.size, 0, none⟩ = some (.bool x.o) := hPl.out.blk.cell 0
      go_upto_if 23 with fail
      clear p00
      obtain ⟨W0, hW0⟩ : ∃ W0, W0 = wr.alloc (.cells #[.bool x.o, .int .i64 x.i, .int .i64 x.c, .int .i64 x.p, .string x.f, .slice x.A x.ls.length x.cap] 28) := ⟨_, rfl⟩
      obtain ⟨G, hGe⟩ : ∃ G, G = wr.heap.size := ⟨_, rfl⟩
      have hP := hPl.out
      rw [← hW0, ← hGe] at hP ⊢
      clear q0 q1 q2 q3 q4 q5 hW0 hGe hPl
      have hl2 := hP.lens hM.out
      go_cut [] (fun wx => PC w0 n0 base X BP BO R G x wx)
      case first =>
        clear hR0 hl HOK
        obtain ⟨hl1, hl2⟩ := hl2
        cases ho : x.o with
        | false =>
          by_cases hok : itemOk x.i x.p
          · have K1 : Hid (∀ w, PlR w0 n0 base X BP BO R G x pr os A1 c1 is A2 c2 rs w → Calls Try.prog 11 #[.pointer (some ⟨X, 0, none⟩), .int .i64 x.i, .int .i64 x.p] w fun e w' => e = .returned (.int .i64 0) ∧ PlR w0 n0 base X BP BO R G x (mset pr x.i x.p) os A1 c1 is A2 c2 rs w') := hid (fun w h => h.itemYes x.i x.p hok)
            have K2 : Hid (∀ pr' w, PlR w0 n0 base X BP BO R G x pr' os A1 c1 is A2 c2 rs w → Calls Try.prog 30 #[.pointer (some ⟨R, 0, none⟩), .int .i64 x.i, .int .i64 x.p] w fun e w' => e = .returned (.int .i64 0) ∧ ∃ A' c', PlR w0 n0 base X BP BO R G x pr' os A' c' (isC is x.i x.p) A2 c2 rs w') := hid (fun pr' w h => h.setYes hM.out.sortI hl1 x.i x.p hok)
            have hM2 := hid (hM.out.item x.i x.p)
            clear hok
            go_wp2_with fail
            replace hP : PlR w0 n0 base X BP BO R G x pr os A1 c1 is A2 c2 rs W0.drew := hP.next (below_drewN (Below.refl _ _) 1)
            go_region_held3 (fun w' => w'.cell? ⟨G, 1, none⟩ = some (.int .i64 x.i) ∧ w'.cell? ⟨G, 3, none⟩ = some (.int .i64 x.p)) (exact ⟨(PlR.cells (by assumption)).2.1, (PlR.cells (by assumption)).2.2.2.1⟩)
              (first
                | (go_at_call 11; refine (K1.out _ hP).mono ?_; rintro e w7 ⟨rfl, hP7⟩; clear hP)
                | (go_at_call 30; refine (K2.out _ _ hP7).mono ?_; rintro e w8 ⟨rfl, A8, c8, hP8⟩; clear hP7))
            all_goals
              clear K1 K2
              go_wp2_with fail
              go_meet
              exact ⟨_, _, _, _, _, _, _, _, hM2.out, hP8⟩
          · have K1 := hid (fun w (h : PlR w0 n0 base X BP BO R G x pr os A1 c1 is A2 c2 rs w) => item_no h.st.book x.i x.p hok)
            have K2 := hid (fun w => rset_no (w := w) x.i x.p hok (.pointer (some ⟨R, 0, none⟩)))
            clear hok
            go_wp2_with fail
            replace hP : PlR w0 n0 base X BP BO R G x pr os A1 c1 is A2 c2 rs W0.drew := hP.next (below_drewN (Below.refl _ _) 1)
            go_region_held3 (fun w' => w'.cell? ⟨G, 1, none⟩ = some (.int .i64 x.i) ∧ w'.cell? ⟨G, 3, none⟩ = some (.int .i64 x.p)) (exact ⟨(PlR.cells (by assumption)).2.1, (PlR.cells (by assumption)).2.2.2.1⟩)
              (first
                | (go_at_call 11; refine (K1.out _ hP).mono ?_; rintro e w7 ⟨rfl, rfl⟩)
                | (go_at_call 30; refine (K2.out _).mono ?_; rintro e w8 ⟨rfl, rfl⟩))
            all_goals
              clear K1 K2
              go_wp2_with fail
              go_meet
              exact ⟨_, _, _, _, _, _, _, _, hM.out, hP⟩
        | true =>
          have hx := HX.out
          have d5 := hP.cells.2.2.2.2.2.1
          have hRx := hid (hx.rd.below hP.st.bel)
          have hlx := hx.len
          have hsz := hid (And.intro hP.st.bel.size (fun (p : Int × Od) (hp : p ∈ os) => (show p.2.b < W0.heap.size from by
            obtain ⟨_, _, cs, hb⟩ := hP.st.book.lns p hp
            exact hb.lt)))
          have hP0 := hid hP
          clear hx hP
          go_wp2_with (first
            | (at_builtin; refine wpList_append_any _ rfl _ _ 26 rfl 47 i0 _ 2 16 Try.underlying26 hi hz0 hz1 hz2 rfl (by decide) (by rfl) x.A x.ls.length x.cap (x.ls.flatMap enL) (by rfl) (enL_flat x.ls) hRx.out (enL_all x.ls) (by unfold maxLen; omega) (by omega) ?_; intro v' w1 hO1 hb1
               obtain ⟨Ag, cg, rfl, _⟩ := own_slice hO1
               have hG : PlG w0 n0 base X BP BO R G x pr os A1 c1 is A2 c2 rs Ag cg w1 := ⟨hP0.out.next hb1, ownsRow_low hO1 hsz.out.1, fun p hp e => by
                 have h1 := (own_blk hO1 p.2.b e).1
                 have h2 := hsz.out.2 p hp
                 omega⟩
               have d1 := hG.pl.cells.2.1
               have d2 := hG.pl.cells.2.2.1
               have d4 := hG.pl.cells.2.2.2.2.1
               replace hG := hid hG
               clear hO1 hb1 d5 hRx hsz hP0))
          refine (hG.out.may HX.out.flow).mono ?_
          rintro e w2 ⟨rfl, hb2⟩
          replace hG := hid (hG.out.next hb2)
          clear hb2 d1 d2 d4
          obtain ⟨z, hz⟩ : ∃ z, z = errL pr os x.i x.c x.f x.ls := ⟨_, rfl⟩
          have HZ := hid hz
          rw [← hz]
          clear hz
          go_wp2_with fail
          refine (hG.out.pl.state hM.out).mono ?_
          rintro e w3 ⟨rfl, hb3⟩
          replace hG := hG.out.next hb3
          have d1 := hG.pl.cells.2.1
          have d2 := hG.pl.cells.2.2.1
          have d4 := hG.pl.cells.2.2.2.2.1
          replace hG := hid hG
          clear hb3
          go_wp2_with fail
          refine (hG.out.add HX.out.flow).mono ?_
          rintro e w4 ⟨rfl, os', hA, hG4⟩
          rw [← HZ.out]
          have HA := hid hA
          have K1 : Hid (∀ w, PlG w0 n0 base X BP BO R G x pr os' A1 c1 is A2 c2 rs Ag cg w → Calls Try.prog 21 #[.slice x.A x.ls.length x.cap] w fun e w' => ∃ A5 c5, e = .returned (.slice A5 x.ls.length c5) ∧ Rd w' A5 (x.ls.flatMap enL) ∧ PlG w0 n0 base X BP BO R G x pr os' A1 c1 is A2 c2 rs Ag cg w') := hid (fun w h => (h.pl.lines HX.out).mono fun _ _ ⟨A5, c5, h1, h2, h3⟩ => ⟨A5, c5, h1, h2, h.next h3⟩)
          have K2 : Hid (∀ A5 c5 w, PlG w0 n0 base X BP BO R G x pr os' A1 c1 is A2 c2 rs Ag cg w → Rd w A5 (x.ls.flatMap enL) → Calls Try.prog 31 #[.pointer (some ⟨R, 0, none⟩), .int .i64 x.i, .int .i64 x.c, .string x.f, .slice A5 x.ls.length c5] w fun e w' => e = .returned (.int .i64 z) ∧ ∃ A2' c2' rs', RelO pr os' is rs' ∧ PlG w0 n0 base X BP BO R G x pr os' A1 c1 is A2' c2' rs' Ag cg w') := hid (fun A5 c5 w h hr => by
            rw [HZ.out]
            exact h.radd hM.out HA.out HX.out.flow hl1 hl2 hr)
          have s1 : (z != z) = false := by simp
          clear hG hA d1 d2 d4 hi hz0 hz1 hz2
          go_wp2_with fail
          replace hG4 : PlG w0 n0 base X BP BO R G x pr os' A1 c1 is A2 c2 rs Ag cg w4.drew := hG4.next (below_drewN (Below.refl _ _) 1)
          go_region_held3 (fun w' => w'.cell? ⟨G, 1, none⟩ = some (.int .i64 x.i) ∧ w'.cell? ⟨G, 2, none⟩ = some (.int .i64 x.c) ∧ w'.cell? ⟨G, 4, none⟩ = some (.string x.f) ∧ w'.cell? ⟨G, 5, none⟩ = some (.slice x.A x.ls.length x.cap)) (exact ⟨(PlR.cells (PlG.pl (by assumption))).2.1, (PlR.cells (PlG.pl (by assumption))).2.2.1, (PlR.cells (PlG.pl (by assumption))).2.2.2.2.1, (PlR.cells (PlG.pl (by assumption))).2.2.2.2.2.1⟩)
            (first
              | (go_at_call 21; refine (K1.out _ hG4).mono ?_; rintro e w7 ⟨A5, c5, rfl, hR7, hG7⟩; clear hG4)
              | (go_at_call 31; refine (K2.out _ _ _ hG7 hR7).mono ?_; rintro e w8 ⟨rfl, A8, c8, rs8, hM8, hG8⟩; clear hG7 hR7))
          all_goals
            clear K1 K2
            have HM8 := hid hM8
            have HSEP := hid (And.intro hG8.sep hG8.giv)
            have hPW := hid hG8.pl
            clear hM8 hG8
            go_wp2_with fail
            go_loopw [82] (fun i wl => ∃ m : Nat, m ≤ x.ls.length ∧ i = .int .i64 m ∧ PlR w0 n0 base X BP BO R G x pr os' A1 c1 is A8 c8 rs8 wl ∧ Hid (∃ l' : List Ln, l'.length = x.ls.length ∧ wl.ownsRow w0.heap.size 47 2 (.slice Ag x.ls.length cg) x.ls.length (l'.flatMap enL))) (fun i _ => x.ls.length - nOf i)
            case atStart => exact ⟨0, Nat.zero_le _, rfl, hPW.out, hid ⟨x.ls, rfl, HSEP.out.2⟩⟩
            case round =>
              clear hPW
              obtain ⟨m, hm, rfl, hP, hO⟩ := hrel
              by_cases hml : m < x.ls.length
              · obtain ⟨l', hl', hO'⟩ := hO.out
                obtain ⟨y, hy⟩ : ∃ y, l'[m]? = some y := ⟨l'[m]'(by omega), List.getElem?_eq_getElem (by omega)⟩
                rw [← hl'] at hO'
                obtain ⟨gb, cg', e, hgb, lgb⟩ := own_form hO' (by omega)
                injection e with e1 e2 e3
                subst e1 e3
                have f1 := own_free hO' (m * 2)
                have x1 : wr.cell? ⟨gb, m * 2, none⟩ = some (.int .i64 y.i) := own_cells enL_len hO' hy (j := 0) rfl
                obtain ⟨a1, a2⟩ := own_field enL_len hO' hy (j := 0) (by omega) (.int .i64 (-1)) ⟨-1, y.q⟩ rfl
                obtain ⟨cs, hbg⟩ := rowBlk hO' (b := gb) rfl
                have hP2 := hid (hP.givSet (Touch.of_grown a2) hbg hgb (fun p hp e => HSEP.out.1 p hp (by rw [e]; rfl)))
                have hl2 : (l'.set m ⟨-1, y.q⟩).length = x.ls.length := by rw [List.length_set]; exact hl'
                rw [hl2] at a1
                have hA2 := hid a1
                clear hO' hy a1 a2 hbg hP hO
                go_wp2_with fail
                go_roundw
                case rel => exact ⟨m + 1, by omega, by go_num, hP2.out, hid ⟨_, hl2, hA2.out⟩⟩
                case measure => simp [nOf]; omega
              · have hPW := hid hP
                clear hm hP hO
                go_wp2_with fail
                go_meet
                exact ⟨_, _, _, _, _, _, _, _, HM8.out, hPW.out⟩
      case rest =>
        clear hP hM hl2
        obtain ⟨pr', os', A1', c1', is', A2', c2', rs', hM, hP⟩ := hcut
        have S := hid (fun w (h : PlR w0 n0 base X BP BO R G x pr' os' A1' c1' is' A2' c2' rs' w) => h.state hM)
        have F := hid (fun w (h : PlR w0 n0 base X BP BO R G x pr' os' A1' c1' is' A2' c2' rs' w) => rfindO_any h.ref x.i (by have := (h.lens hM).2; omega))
        have HM2 := hid hM
        rcases hM.find x.i with ⟨j, o, o', hj, hy, hio, hm, _, he⟩ | ⟨hm, hn, he⟩
        · rw [he] at F
          have E := hid (hP.getSome x.i hm)
          have hd : decide ((0 : Int) ≤ (j : Int)) = true := decide_eq_true (by omega)
          have d2 := hP.cells.2.1
          clear hM hm hy he hj hio
          go_wp2_with fail
          refine E.out.mono ?_
          rintro e w5 ⟨pb, pcp, rfl, hb5⟩
          replace hP := hid ((hP.next hb5).next ((Below.refl _ _).alloc (Nat.le_refl _) (.cells #[.int .i64 o'.i, .int .i64 o'.c, .string o'.f, .slice (some ⟨pb, 0, none⟩) o'.ls.length pcp, .int .i64 o'.n, .int .i64 o'.t] 35)))
          clear hb5 d2 E
          go_wp2_with fail
          refine (S.out _ hP.out).mono ?_
          rintro e w6 ⟨rfl, hb6⟩
          replace hP := hid (hP.out.next hb6)
          clear hb6
          go_wp2_with fail
          refine (S.out _ hP.out).mono ?_
          rintro e w7 ⟨rfl, hb7⟩
          replace hP := hP.out.next hb7
          have d2 := hP.cells.2.1
          clear hb7 S
          go_wp2_with fail
          refine (F.out _ hP).mono ?_
          rintro e w8 ⟨rfl, rfl⟩
          replace hP := hid hP
          clear d2 F
          go_wp2_with fail
          go_roundw
          case rel => exact ⟨k + 1, _, _, _, _, _, _, _, _, by omega, by go_num, HM2, hP.out.st, hP.out.ref, hP.out.bw⟩
          case measure => simp [nOf]; omega
        · rw [he] at F
          have E := hid (hP.getNone x.i hm)
          have d2 := hP.cells.2.1
          clear hM hm he hn
          go_wp2_with fail
          refine E.out.mono ?_
          rintro e w5 ⟨rfl, hb5⟩
          replace hP := hid ((hP.next hb5).next ((Below.refl _ _).alloc (Nat.le_refl _) (.cells #[.int .i64 0, .int .i64 0, .string ByteArray.empty, .slice none 0 0, .int .i64 0, .int .i64 0] 35)))
          clear hb5 d2 E
          go_wp2_with fail
          refine (S.out _ hP.out).mono ?_
          rintro e w6 ⟨rfl, hb6⟩
          replace hP := hid (hP.out.next hb6)
          clear hb6
          go_wp2_with fail
          refine (S.out _ hP.out).mono ?_
          rintro e w7 ⟨rfl, hb7⟩
          replace hP := hP.out.next hb7
          have d2 := hP.cells.2.1
          clear hb7 S
          go_wp2_with fail
          refine (F.out _ hP).mono ?_
          rintro e w8 ⟨rfl, rfl⟩
          replace hP := hid hP
          clear d2 F
          go_wp2_with fail
          go_roundw
          case rel => exact ⟨k + 1, _, _, _, _, _, _, _, _, by omega, by go_num, HM2, hP.out.st, hP.out.ref, hP.out.bw⟩
          case measure => simp [nOf]; omega
    · have HH := hid h
      clear hk h hF hbw
      go_wp2_with fail
      go_ret
      exact ⟨rfl, HH.out.bel⟩

end Go.Proofs.Ytdgoifnhlpjnpaa
