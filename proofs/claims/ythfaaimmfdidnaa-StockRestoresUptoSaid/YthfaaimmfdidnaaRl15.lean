/-
  The document's stock book: LevelOf.
-/
import Derived.Test.YthfaaimmfdidnaaRf15
import Derived.Test.YthfaaimmfdidnaaInTurn
import Derived.BigRegion
import Derived.BigQuiet
namespace Go.Proofs.Ythfaaimmfdidnaa
open Go.RowKit Go.WideShapes Go.ChangeShapes Go.ChangeAt Go.Deep
set_option linter.unusedVariables false

theorem qOf_snocR (l : List Ln) (x : Ln) (id : Int) : qOf (l ++ [x]) id = qOf l id + (if x.i = id then x.q else 0) := by
  induction l with
  | nil => simp [qOf]
  | cons y l ih => simp only [List.cons_append, qOf, ih]; omega
/-- What is known of an item, out of three sums. -/
def lvC (id q s1 s2 s3 : Int) : Array Value := #[.int .i64 id, .int .i64 q, .int .i64 (q - s1 - s2), .int .i64 s1, .int .i64 (s2 + s3), .int .i64 s3]
section
variable {base R c1 c2 : Nat} {A1 A2 : Option Addr} {is : List (Int × Int)} {rs : List Gd} {w w' : World}
set_option maxRecDepth 100000 in
set_option maxHeartbeats 16000000 in
theorem rlevelOf_any (h : IsRef base w R A1 c1 is A2 c2 rs) (at_ : Nat) (id q : Int) (hat : is[at_]? = some (id, q)) (hq : 0 ≤ q ∧ q ≤ 1125899906842624) (hok : ∀ d ∈ rs, d.ls.length ≤ 4 ∧ (∀ k, LnOk d.ls k) ∧ 1 ≤ d.st ∧ d.st ≤ 3) (hl1 : is.length ≤ 140737488355328) (hl : rs.length ≤ 3000000000000) :
    Calls Try.prog 45 #[.pointer (some ⟨R, 0, none⟩), .int .i64 at_] w fun e w' => e = .returned (.agg (lvC id q (sqL 1 rs id) (sqL 2 rs id) (sqL 3 rs id))) ∧ Below w.heap.size w w' := by
  have hwb : Below w.heap.size w (w.alloc (.cells #[.int .i64 0, .int .i64 0, .int .i64 0, .int .i64 0, .int .i64 0, .int .i64 0] 63)) := (Below.refl _ _).alloc (Nat.le_refl _) _
  have hB4 := Blk.new w 63 #[.int .i64 0, .int .i64 0, .int .i64 0, .int .i64 0, .int .i64 0, .int .i64 0]
  have h0 := h.next hwb
  obtain ⟨w0, hw0⟩ : ∃ w0, w0 = w.alloc (.cells #[.int .i64 0, .int .i64 0, .int .i64 0, .int .i64 0, .int .i64 0, .int .i64 0] 63) := ⟨_, rfl⟩
  obtain ⟨R4, hR4⟩ : ∃ R4, R4 = w.heap.size := ⟨_, rfl⟩
  rw [← hw0] at hB4 h0 hwb
  rw [← hR4] at hB4
  have HW := hid hw0
  have HR4 := hid hR4
  have H0 := hid (And.intro h0 (And.intro hB4 hwb))
  have HOK := hid hok
  have HAT := hid hat
  have hlt : at_ < is.length := (List.getElem?_eq_some_iff.1 hat).1
  clear h hw0 hR4 hB4 h0 hwb hok hat
  go_enter Try.func45, Try.ntmps45
  go_upto_region 1 with fail
  rw [← HW.out, ← HR4.out]
  go_cut [5] (fun v wx => v = .pointer (some ⟨w0.heap.size, 0, none⟩) ∧ Below w0.heap.size w0 wx ∧ Blk wx w0.heap.size 63 #[.int .i64 id, .int .i64 q, .int .i64 q, .int .i64 0, .int .i64 0, .int .i64 0])
  case first =>
    obtain ⟨hI, hB4, hwb⟩ := H0.out
    obtain ⟨CB, hC0, hC1⟩ : ∃ CB : Bool → World → Prop, (∀ w', CB false w' ↔ ∃ n, w' = w0.drewN n) ∧ (∀ w', CB true w' ↔ ∃ n, w' = (w0.alloc (.cells #[.int .i64 0, .int .i64 0, .int .i64 0, .int .i64 0, .int .i64 0, .int .i64 0] 63)).drewN n) :=
      ⟨fun b w' => match b with | false => (∃ n, w' = w0.drewN n) | true => (∃ n, w' = (w0.alloc (.cells #[.int .i64 0, .int .i64 0, .int .i64 0, .int .i64 0, .int .i64 0, .int .i64 0] 63)).drewN n), fun _ => Iff.rfl, fun _ => Iff.rfl⟩
    obtain ⟨C, hCd⟩ : ∃ C : World → Prop, ∀ w', C w' ↔ Below w0.heap.size w0 w' := ⟨_, fun _ => Iff.rfl⟩
    have HCC := hid (fun b w' (hc : CB b w') => (hCd w').2 (by
      cases b with
      | false => obtain ⟨n, rfl⟩ := (hC0 _).1 hc; exact below_drewN (Below.refl _ _) n
      | true => obtain ⟨n, rfl⟩ := (hC1 _).1 hc; exact below_drewN ((Below.refl _ _).alloc (Nat.le_refl _) _) n))
    have hC : CB false w0.drew := (hC0 _).2 ⟨1, rfl⟩
    have hne : Nonempty (In C) := ⟨⟨w0.drew, HCC.out _ _ hC⟩⟩
    have hI' := fun (p : In C) => hI.next ((hCd _).1 p.h)
    obtain ⟨g, rfl, _, hg⟩ := hI.elem1 HAT.out
    have c0 : ∀ p : In C, p.w.cell? ⟨R, 0, none⟩ = some (.slice (some ⟨g, 0, none⟩) is.length c1) := fun p => (hI' p).cell0
    have p0 : ∀ p : In C, p.w.cell? ⟨g, at_ * 2, none⟩ = some (.int .i64 id) := fun p => by
      obtain ⟨g', e, _, hg'⟩ := (hI' p).elem1 HAT.out
      injection e with e; injection e with e; subst e
      exact hg'.2 0 _ rfl
    have p1 : ∀ p : In C, p.w.cell? ⟨g, at_ * 2 + 1, none⟩ = some (.int .i64 q) := fun p => by
      obtain ⟨g', e, _, hg'⟩ := (hI' p).elem1 HAT.out
      injection e with e; injection e with e; subst e
      exact hg'.2 1 _ rfl
    have HC0 := hid hC0
    have HC1 := hid hC1
    clear hI hI' hg hC0 hC1 hCd hB4 hwb
    refine wp_region_turn CB 25 26 (by decide) (by kernel_rfl) (by kernel_rfl) hC ?_
    clear hC
    refine wpT_part C HCC.out 1 1 (by kernel_rfl) (by kernel_rfl) (by decide) ?_
    simp only [List.take_succ_cons, List.take_zero, List.drop_succ_cons, List.drop_zero]
    repeat (first | go_big_quiet_step (fail) | quiet_step (fail))
    refine wpQuiet_nil ?_
    refine wpT_call (by rfl) (.pointer (some ⟨R, 0, none⟩)) (by kernel_rfl) (fun bb wp hwp => ?_) ?_
    · first | exact ⟨hwp, rfl⟩ | (go_simp; first | exact hwp | exact ⟨hwp, rfl⟩)
    refine wpT_part C HCC.out 7 9 (by kernel_rfl) (by kernel_rfl) (by decide) ?_
    simp only [List.take_succ_cons, List.take_zero, List.drop_succ_cons, List.drop_zero]
    repeat (first | go_big_quiet_step (fail) | quiet_step (fail))
    refine wpQuiet_nil ?_
    refine wpT_call (by rfl) (.pointer (some ⟨R, 0, none⟩)) (by kernel_rfl) (fun bb wp hwp => ?_) ?_
    · first | exact ⟨hwp, rfl⟩ | (go_simp; first | exact hwp | exact ⟨hwp, rfl⟩)
    refine wpT_part C HCC.out 7 17 (by kernel_rfl) (by kernel_rfl) (by decide) ?_
    simp only [List.take_succ_cons, List.take_zero, List.drop_succ_cons, List.drop_zero]
    repeat (first | go_big_quiet_step (fail) | quiet_step (fail))
    refine wpQuiet_nil ?_
    refine wpT_call (by rfl) (.pointer (some ⟨R, 0, none⟩)) (by kernel_rfl) (fun bb wp hwp => ?_) ?_
    · first | exact ⟨hwp, rfl⟩ | (go_simp; first | exact hwp | exact ⟨hwp, rfl⟩)
    refine wpT_part C HCC.out 7 25 (by kernel_rfl) (by kernel_rfl) (by decide) ?_
    simp only [List.take_succ_cons, List.take_zero, List.drop_succ_cons, List.drop_zero]
    repeat (first | go_big_quiet_step (fail) | quiet_step (fail))
    refine wpQuiet_nil ?_
    refine wpT_turn (.pointer (some ⟨w0.heap.size, 0, none⟩)) (by kernel_rfl) (fun wp hwp => ?_) ?_
    · obtain ⟨n, rfl⟩ := (HC0.out _).1 hwp
      go_simp
      exact ⟨(HC1.out _).2 ⟨n, rfl⟩, rfl⟩
    refine wpT_nil ?_
    intro w9 hw9
    obtain ⟨n, rfl⟩ := (HC1.out _).1 hw9
    have hB := (Blk.new w0 63 #[.int .i64 0, .int .i64 0, .int .i64 0, .int .i64 0, .int .i64 0, .int .i64 0]).next (below_drewN (Below.refl _ _) n)
    have hbw := below_drewN ((Below.refl w0.heap.size w0).alloc (Nat.le_refl _) (.cells #[.int .i64 0, .int .i64 0, .int .i64 0, .int .i64 0, .int .i64 0, .int .i64 0] 63)) n
    obtain ⟨wv, hwv⟩ : ∃ wv, wv = (w0.alloc (.cells #[.int .i64 0, .int .i64 0, .int .i64 0, .int .i64 0, .int .i64 0, .int .i64 0] 63)).drewN n := ⟨_, rfl⟩
    obtain ⟨L, hL⟩ : ∃ L, L = w0.heap.size := ⟨_, rfl⟩
    rw [← hwv] at hB hbw ⊢
    rw [← hL] at hB ⊢
    have k0 := hB.free 0
    have k1 := hB.free 1
    have k2 := hB.free 2
    have k3 := hB.free 3
    have k4 := hB.free 4
    have k5 := hB.free 5
    have d0 : wv.cell? ⟨L, 0, none⟩ = some (.int .i64 0) := hB.cell 0
    have d1 : wv.cell? ⟨L, 1, none⟩ = some (.int .i64 0) := hB.cell 1
    have d2 : wv.cell? ⟨L, 2, none⟩ = some (.int .i64 0) := hB.cell 2
    have d3 : wv.cell? ⟨L, 3, none⟩ = some (.int .i64 0) := hB.cell 3
    have d4 : wv.cell? ⟨L, 4, none⟩ = some (.int .i64 0) := hB.cell 4
    have d5 : wv.cell? ⟨L, 5, none⟩ = some (.int .i64 0) := hB.cell 5
    have hB6 := (((((hB.set_ 0 (.int .i64 id)).set_ 1 (.int .i64 q)).set_ 2 (.int .i64 q)).set_ 3 (.int .i64 0)).set_ 4 (.int .i64 0)).set_ 5 (.int .i64 0)
    have hT6 := ((((((Touch.refl (· = L) wv).set (g := L) rfl 0 (.int .i64 id)).set (g := L) rfl 1 (.int .i64 q)).set (g := L) rfl 2 (.int .i64 q)).set (g := L) rfl 3 (.int .i64 0)).set (g := L) rfl 4 (.int .i64 0)).set (g := L) rfl 5 (.int .i64 0)
    have HF := hid (And.intro (hbw.trans (hT6.below hbw.size (fun k hk => by omega))) hB6)
    have HL := hid hL
    clear hB hbw hB6 hT6 hwv hL HC0 HC1 hw9 c0 p0 p1 hne HCC
    go_wp2_with fail
    go_meet
    have h1 := HF.out.1
    have h2 := HF.out.2
    rw [HL.out] at h1 h2
    exact ⟨by rw [HL.out], by rw [HL.out]; exact h1, by rw [HL.out]; exact h2⟩
  case rest =>
    obtain ⟨rfl, hbw, hBL⟩ := hcut
    obtain ⟨hI, hB4, hwb⟩ := H0.out
    obtain ⟨L, hL⟩ : ∃ L, L = w0.heap.size := ⟨_, rfl⟩
    have HLO := hid (show w0.heap.size ≤ L from by omega)
    have hL4 : R4 ≠ L := fun e => by have := hB4.lt; omega
    have hRL : R ≠ L := fun e => by have := hI.blk.lt; omega
    rw [← hL] at hBL ⊢
    have H1 := hid (And.intro hI (And.intro hB4 (And.intro hwb hL)))
    have hLw : wc.heap.size ≠ L := fun e => by have := hBL.lt; omega
    clear H0 hI hB4 hwb hL
    go_wp2_with fail
    go_loopw [6] (fun i wr => ∃ k : Nat, k ≤ rs.length ∧ i = .int .i64 k ∧ Below w0.heap.size w0 wr ∧ Blk wr L 63 (lvC id q (sqL 1 (rs.take k) id) (sqL 2 (rs.take k) id) (sqL 3 (rs.take k) id))) (fun i _ => rs.length - nOf i)
    case atStart => exact ⟨0, Nat.zero_le _, rfl, hbw, by simpa [lvC, sqL] using hBL⟩
    case round =>
      clear hbw hBL hLw
      obtain ⟨k, hk, rfl, hbw, hBL⟩ := hrel
      have hIr := H1.out.1.next hbw
      have cc1 := hIr.cell1
      by_cases hkl : k < rs.length
      · obtain ⟨d, hd⟩ : ∃ d, rs[k]? = some d := ⟨rs[k], List.getElem?_eq_getElem hkl⟩
        obtain ⟨g, rfl, _, hg⟩ := hIr.elem2 hd
        have hdm := List.mem_of_getElem? hd
        obtain ⟨h4, hln, hst⟩ := HOK.out d hdm
        have HLN := hid hln
        have hbd : ∀ st, 0 ≤ sqL st (rs.take k) id ∧ sqL st (rs.take k) id ≤ 3000000000000000000 := fun st => by
          have := sqL_bd (l := rs.take k) (fun d hd => (HOK.out d (List.mem_of_mem_take hd)).2.1) st id
          have := List.length_take_le k rs
          omega
        have HS := hid (fun st => (show sqL st (rs.take (k + 1)) id = sqL st (rs.take k) id + (if d.st = st then qOf d.ls id else 0) from by
          rw [List.take_add_one, hd]
          show sqL st (rs.take k ++ [d]) id = _
          rw [sqL_append]
          simp [sqL]))
        have HL0 := hid (fun w' (hb : Below w0.heap.size w0 w') => (H1.out.1.next hb).lns d hdm)
        obtain ⟨dg, do', dst, db, dcap, dls⟩ := d
        simp only at h4 hst HS HLN HL0
        have p0 : wr.cell? ⟨g, k * 3, none⟩ = some (.int .i64 do') := hg.2 0 _ rfl
        have p1 : wr.cell? ⟨g, k * 3 + 1, none⟩ = some (.int .i64 dst) := hg.2 1 _ rfl
        have p2 : wr.cell? ⟨g, k * 3 + 2, none⟩ = some (.slice (some ⟨db, 0, none⟩) dls.length dcap) := hg.2 2 _ rfl
        have hwb : Below wr.heap.size wr (wr.alloc (.cells #[.int .i64 do', .int .i64 dst, .slice (some ⟨db, 0, none⟩) dls.length dcap] 67)) := (Below.refl _ _).alloc (Nat.le_refl _) _
        have hBG := Blk.new wr 67 #[.int .i64 do', .int .i64 dst, .slice (some ⟨db, 0, none⟩) dls.length dcap]
        have hGL : wr.heap.size ≠ L := fun e => by have := hBL.lt; omega
        have hbz := hbw.trans (hwb.mono hbw.size)
        have hBLz := hBL.next hwb
        obtain ⟨G, hG⟩ : ∃ G, G = wr.heap.size := ⟨_, rfl⟩
        obtain ⟨wz, hwz⟩ : ∃ wz, wz = wr.alloc (.cells #[.int .i64 do', .int .i64 dst, .slice (some ⟨db, 0, none⟩) dls.length dcap] 67) := ⟨_, rfl⟩
        rw [← hwz] at hBG hbz hBLz
        rw [← hG] at hBG hGL
        have HW := hid hwz
        have HG := hid hG
        have HZ := hid (And.intro hBG (And.intro hbz hBLz))
        have g2' : wz.cell? ⟨G, 2, none⟩ = some (.slice (some ⟨db, 0, none⟩) dls.length dcap) := hBG.cell 2
        clear hIr hg hd hdm hln hBL hbw hwb hBG hbz hBLz hwz hG
        go_wp2_with fail
        rw [← HW.out, ← HG.out]
        clear cc1 p0 p1 p2 g2' HW HG
        go_loopw [8] (fun j wr => ∃ m : Nat, m ≤ dls.length ∧ j = .int .i64 m ∧ Below w0.heap.size w0 wr ∧ Blk wr G 67 #[.int .i64 do', .int .i64 dst, .slice (some ⟨db, 0, none⟩) dls.length dcap] ∧ Blk wr L 63 (lvC id q (sqL 1 (rs.take k) id + (if dst = 1 then qOf (dls.take m) id else 0)) (sqL 2 (rs.take k) id + (if dst = 2 then qOf (dls.take m) id else 0)) (sqL 3 (rs.take k) id + (if dst = 3 then qOf (dls.take m) id else 0)))) (fun j _ => dls.length - nOf j)
        case atStart => exact ⟨0, Nat.zero_le _, rfl, HZ.out.2.1, HZ.out.1, by simpa [qOf] using HZ.out.2.2⟩
        case round =>
          clear HZ
          obtain ⟨m, hm, rfl, hbw, hBG, hBL⟩ := hrel
          have e2 : wr.cell? ⟨G, 2, none⟩ = some (.slice (some ⟨db, 0, none⟩) dls.length dcap) := hBG.cell 2
          by_cases hml : m < dls.length
          · obtain ⟨y, hy⟩ : ∃ y, dls[m]? = some y := ⟨dls[m], List.getElem?_eq_getElem hml⟩
            obtain ⟨b', off', e, hbs, hcc⟩ := (HL0.out _ hbw).1.at_ 2 enL_len (by omega) hy
            simp only [Option.some.injEq, Addr.mk.injEq, and_true] at e
            obtain ⟨rfl, rfl⟩ := e
            have hyq := HLN.out m y hy
            have hpw := lines_pw HLN.out
            have hqb := qOf_bd (ls := dls.take m) (fun x hx => hpw.1 x (List.mem_of_mem_take hx)) (hpw.2.sublist (List.take_sublist _ _)) id
            have HQ := hid (show qOf (dls.take (m + 1)) id = qOf (dls.take m) id + (if y.i = id then y.q else 0) from by rw [List.take_add_one, hy]; exact qOf_snocR _ _ _)
            have hb1 := hbd 1
            have hb2 := hbd 2
            have hb3 := hbd 3
            obtain ⟨yi, yq⟩ := y
            simp only at hyq HQ
            have q0 : wr.cell? ⟨db, m * 2, none⟩ = some (.int .i64 yi) := by have := hcc 0 _ rfl; simpa using this
            have q1 : wr.cell? ⟨db, m * 2 + 1, none⟩ = some (.int .i64 yq) := by have := hcc 1 _ rfl; simpa using this
            have e1 : wr.cell? ⟨G, 1, none⟩ = some (.int .i64 dst) := hBG.cell 1
            have l0 : wr.cell? ⟨L, 0, none⟩ = some (.int .i64 id) := hBL.cell 0
            clear hcc hy hbs hpw
            by_cases hyi : yi = id
            · have t1 : (yi != id) = false := by simpa using hyi
              rw [if_pos hyi] at HQ
              rw [hyi] at q0
              have HH := hid (And.intro hbw (And.intro hBG hBL))
              clear hbw hBG hBL hyi
              go_wp2_with fail
              go_quiet (fail)
              obtain ⟨hbw, hBG, hBL⟩ := HH.out
              replace hbw := below_drewN hbw nq
              replace hBG := hBG.next (below_drewN (Below.refl _ _) nq)
              replace hBL := hBL.next (below_drewN (Below.refl _ _) nq)
              obtain ⟨wd, hwd⟩ : ∃ wd, wd = wr.drewN nq := ⟨_, rfl⟩
              have r1 : wd.cell? ⟨db, m * 2 + 1, none⟩ = some (.int .i64 yq) := by rw [hwd]; exact q1
              rw [← hwd] at hbw hBG hBL ⊢
              clear HH hwd e2 q0 q1 e1 l0
              have e2 : wd.cell? ⟨G, 2, none⟩ = some (.slice (some ⟨db, 0, none⟩) dls.length dcap) := hBG.cell 2
              have e1 : wd.cell? ⟨G, 1, none⟩ = some (.int .i64 dst) := hBG.cell 1
              rcases (show dst = 1 ∨ dst = 2 ∨ dst = 3 from by omega) with rfl | rfl | rfl
              · simp only [Int.reduceEq, if_true, if_false] at hBL ⊢
                generalize hs1 : sqL 1 (rs.take k) id + qOf (dls.take m) id = s1 at hBL
                generalize hs2 : sqL 2 (rs.take k) id + 0 = s2 at hBL
                generalize hs3 : sqL 3 (rs.take k) id + 0 = s3 at hBL
                have l2 : wd.cell? ⟨L, 2, none⟩ = some (.int .i64 (q - s1 - s2)) := hBL.cell 2
                have f2 := hBL.free 2
                have l3 : wd.cell? ⟨L, 3, none⟩ = some (.int .i64 s1) := hBL.cell 3
                have f3 := hBL.free 3
                have hB9 := (hBL.set_ 3 (.int .i64 (s1 + yq))).set_ 2 (.int .i64 (q - s1 - s2 - yq))
                have hT9 := ((Touch.refl (· = L) wd).set (g := L) rfl 3 (.int .i64 (s1 + yq))).set (g := L) rfl 2 (.int .i64 (q - s1 - s2 - yq))
                have hBL9 : Blk ((wd.setCell ⟨L, 3, none⟩ (.int .i64 (s1 + yq))).setCell ⟨L, 2, none⟩ (.int .i64 (q - s1 - s2 - yq))) L 63 (lvC id q (s1 + yq) (s2) (s3)) := by
                  unfold lvC
                  rw [show q - (s1 + yq) - s2 = q - s1 - s2 - yq from by omega]
                  exact hB9
                have HF := hid (And.intro (hbw.trans (hT9.below hbw.size (fun k hk => by have := HLO.out; omega))) (And.intro (hT9.blk hBG hGL) hBL9))
                have HV := hid (show sqL 1 (rs.take k) id + qOf (dls.take (m + 1)) id = s1 + yq from by rw [HQ.out]; omega)
                have HVs := hid (And.intro hs1 (And.intro hs2 hs3))
                have w1 : IntKind.i64.wrap (s1 + yq) = (s1 + yq) := IntWalk.i64_in _ ⟨by omega, by omega⟩
                have w2 : IntKind.i64.wrap (q - s1 - s2 - yq) = (q - s1 - s2 - yq) := IntWalk.i64_in _ ⟨by omega, by omega⟩
                clear hB9 hT9 hBL9 hbw hBG hBL hb1 hb2 hb3 hyq hq hqb hs1 hs2 hs3
                go_wp2_with fail
                go_roundw
                case rel =>
                  refine ⟨m + 1, by omega, by go_num, HF.out.1, HF.out.2.1, ?_⟩
                  simp only [Int.reduceEq, if_false]
                  rw [HV.out, HVs.out.2.1, HVs.out.2.2]
                  exact HF.out.2.2
                case measure => simp [nOf]; omega
              · simp only [Int.reduceEq, if_true, if_false] at hBL ⊢
                generalize hs1 : sqL 1 (rs.take k) id + 0 = s1 at hBL
                generalize hs2 : sqL 2 (rs.take k) id + qOf (dls.take m) id = s2 at hBL
                generalize hs3 : sqL 3 (rs.take k) id + 0 = s3 at hBL
                have l2 : wd.cell? ⟨L, 2, none⟩ = some (.int .i64 (q - s1 - s2)) := hBL.cell 2
                have f2 := hBL.free 2
                have l4 : wd.cell? ⟨L, 4, none⟩ = some (.int .i64 (s2 + s3)) := hBL.cell 4
                have f4 := hBL.free 4
                have hB9 := (hBL.set_ 4 (.int .i64 (s2 + s3 + yq))).set_ 2 (.int .i64 (q - s1 - s2 - yq))
                have hT9 := ((Touch.refl (· = L) wd).set (g := L) rfl 4 (.int .i64 (s2 + s3 + yq))).set (g := L) rfl 2 (.int .i64 (q - s1 - s2 - yq))
                have hBL9 : Blk ((wd.setCell ⟨L, 4, none⟩ (.int .i64 (s2 + s3 + yq))).setCell ⟨L, 2, none⟩ (.int .i64 (q - s1 - s2 - yq))) L 63 (lvC id q (s1) (s2 + yq) (s3)) := by
                  unfold lvC
                  rw [show q - s1 - (s2 + yq) = q - s1 - s2 - yq from by omega, show s2 + yq + s3 = s2 + s3 + yq from by omega]
                  exact hB9
                have HF := hid (And.intro (hbw.trans (hT9.below hbw.size (fun k hk => by have := HLO.out; omega))) (And.intro (hT9.blk hBG hGL) hBL9))
                have HV := hid (show sqL 2 (rs.take k) id + qOf (dls.take (m + 1)) id = s2 + yq from by rw [HQ.out]; omega)
                have HVs := hid (And.intro hs1 (And.intro hs2 hs3))
                have w1 : IntKind.i64.wrap (s2 + s3 + yq) = (s2 + s3 + yq) := IntWalk.i64_in _ ⟨by omega, by omega⟩
                have w2 : IntKind.i64.wrap (q - s1 - s2 - yq) = (q - s1 - s2 - yq) := IntWalk.i64_in _ ⟨by omega, by omega⟩
                clear hB9 hT9 hBL9 hbw hBG hBL hb1 hb2 hb3 hyq hq hqb hs1 hs2 hs3
                go_wp2_with fail
                go_roundw
                case rel =>
                  refine ⟨m + 1, by omega, by go_num, HF.out.1, HF.out.2.1, ?_⟩
                  simp only [Int.reduceEq, if_false]
                  rw [HV.out, HVs.out.1, HVs.out.2.2]
                  exact HF.out.2.2
                case measure => simp [nOf]; omega
              · simp only [Int.reduceEq, if_true, if_false] at hBL ⊢
                generalize hs1 : sqL 1 (rs.take k) id + 0 = s1 at hBL
                generalize hs2 : sqL 2 (rs.take k) id + 0 = s2 at hBL
                generalize hs3 : sqL 3 (rs.take k) id + qOf (dls.take m) id = s3 at hBL
                have l4 : wd.cell? ⟨L, 4, none⟩ = some (.int .i64 (s2 + s3)) := hBL.cell 4
                have f4 := hBL.free 4
                have l5 : wd.cell? ⟨L, 5, none⟩ = some (.int .i64 s3) := hBL.cell 5
                have f5 := hBL.free 5
                have hB9 := (hBL.set_ 4 (.int .i64 (s2 + s3 + yq))).set_ 5 (.int .i64 (s3 + yq))
                have hT9 := ((Touch.refl (· = L) wd).set (g := L) rfl 4 (.int .i64 (s2 + s3 + yq))).set (g := L) rfl 5 (.int .i64 (s3 + yq))
                have hBL9 : Blk ((wd.setCell ⟨L, 4, none⟩ (.int .i64 (s2 + s3 + yq))).setCell ⟨L, 5, none⟩ (.int .i64 (s3 + yq))) L 63 (lvC id q (s1) (s2) (s3 + yq)) := by
                  unfold lvC
                  rw [show s2 + (s3 + yq) = s2 + s3 + yq from by omega]
                  exact hB9
                have HF := hid (And.intro (hbw.trans (hT9.below hbw.size (fun k hk => by have := HLO.out; omega))) (And.intro (hT9.blk hBG hGL) hBL9))
                have HV := hid (show sqL 3 (rs.take k) id + qOf (dls.take (m + 1)) id = s3 + yq from by rw [HQ.out]; omega)
                have HVs := hid (And.intro hs1 (And.intro hs2 hs3))
                have w1 : IntKind.i64.wrap (s2 + s3 + yq) = (s2 + s3 + yq) := IntWalk.i64_in _ ⟨by omega, by omega⟩
                have w2 : IntKind.i64.wrap (s3 + yq) = (s3 + yq) := IntWalk.i64_in _ ⟨by omega, by omega⟩
                clear hB9 hT9 hBL9 hbw hBG hBL hb1 hb2 hb3 hyq hq hqb hs1 hs2 hs3
                go_wp2_with fail
                go_roundw
                case rel =>
                  refine ⟨m + 1, by omega, by go_num, HF.out.1, HF.out.2.1, ?_⟩
                  simp only [Int.reduceEq, if_false]
                  rw [HV.out, HVs.out.1, HVs.out.2.1]
                  exact HF.out.2.2
                case measure => simp [nOf]; omega
            · have t1 : (yi != id) = true := by simpa using hyi
              rw [if_neg hyi, Int.add_zero] at HQ
              clear hyi
              go_wp2_with fail
              go_quiet (fail)
              have HF := hid (And.intro (below_drewN hbw nq) (And.intro (hBG.next (below_drewN (Below.refl _ _) nq)) (hBL.next (below_drewN (Below.refl _ _) nq))))
              clear hbw hBG hBL e2 q0 q1 e1 l0 hb1 hb2 hb3 hqb
              go_wp2_with fail
              go_roundw
              case rel => exact ⟨m + 1, by omega, by go_num, HF.out.1, HF.out.2.1, by rw [HQ.out]; exact HF.out.2.2⟩
              case measure => simp [nOf]; omega
          · have hmm : m = dls.length := by omega
            subst hmm
            rw [List.take_length] at hBL
            have HF := hid (And.intro hbw hBL)
            clear hm hml hbw hBL hBG
            go_wp2_with fail
            go_roundw
            case rel => exact ⟨k + 1, by omega, by go_num, HF.out.1, by rw [HS.out, HS.out, HS.out]; exact HF.out.2⟩
            case measure => simp [nOf]; omega
      · have hkk : k = rs.length := by omega
        subst hkk
        rw [List.take_length] at hBL
        have hB4 := H1.out.2.1.next hbw
        have hbw4 := bthen H1.out.2.2.1 hbw
        generalize hs1 : sqL 1 rs id = s1 at hBL
        generalize hs2 : sqL 2 rs id = s2 at hBL
        generalize hs3 : sqL 3 rs id = s3 at hBL
        have HV := hid (And.intro hs1 (And.intro hs2 hs3))
        have l0 : wr.cell? ⟨L, 0, none⟩ = some (.int .i64 id) := hBL.cell 0
        have l1 : wr.cell? ⟨L, 1, none⟩ = some (.int .i64 q) := hBL.cell 1
        have l2 : wr.cell? ⟨L, 2, none⟩ = some (.int .i64 (q - s1 - s2)) := hBL.cell 2
        have l3 : wr.cell? ⟨L, 3, none⟩ = some (.int .i64 s1) := hBL.cell 3
        have l4 : wr.cell? ⟨L, 4, none⟩ = some (.int .i64 (s2 + s3)) := hBL.cell 4
        have l5 : wr.cell? ⟨L, 5, none⟩ = some (.int .i64 s3) := hBL.cell 5
        have k0 := hB4.free 0
        have d0 : wr.cell? ⟨R4, 0, none⟩ = some (.int .i64 0) := hB4.cell 0
        have k1 := hB4.free 1
        have d1 : wr.cell? ⟨R4, 1, none⟩ = some (.int .i64 0) := hB4.cell 1
        have k2 := hB4.free 2
        have d2 : wr.cell? ⟨R4, 2, none⟩ = some (.int .i64 0) := hB4.cell 2
        have k3 := hB4.free 3
        have d3 : wr.cell? ⟨R4, 3, none⟩ = some (.int .i64 0) := hB4.cell 3
        have k4 := hB4.free 4
        have d4 : wr.cell? ⟨R4, 4, none⟩ = some (.int .i64 0) := hB4.cell 4
        have k5 := hB4.free 5
        have d5 : wr.cell? ⟨R4, 5, none⟩ = some (.int .i64 0) := hB4.cell 5
        have hB9 := ((((((hB4.set_ 0 (.int .i64 id)).set_ 1 (.int .i64 q)).set_ 2 (.int .i64 (q - s1 - s2))).set_ 3 (.int .i64 s1)).set_ 4 (.int .i64 (s2 + s3))).set_ 5 (.int .i64 s3))
        have hT9 := (((((((Touch.refl (· = R4) wr).set (g := R4) rfl 0 (.int .i64 id)).set (g := R4) rfl 1 (.int .i64 q)).set (g := R4) rfl 2 (.int .i64 (q - s1 - s2))).set (g := R4) rfl 3 (.int .i64 s1)).set (g := R4) rfl 4 (.int .i64 (s2 + s3))).set (g := R4) rfl 5 (.int .i64 s3))
        have hbw9 : Below w.heap.size w ((((((wr.setCell ⟨R4, 0, none⟩ (.int .i64 id)).setCell ⟨R4, 1, none⟩ (.int .i64 q)).setCell ⟨R4, 2, none⟩ (.int .i64 (q - s1 - s2))).setCell ⟨R4, 3, none⟩ (.int .i64 s1)).setCell ⟨R4, 4, none⟩ (.int .i64 (s2 + s3))).setCell ⟨R4, 5, none⟩ (.int .i64 s3)) := hbw4.trans (hT9.below hbw4.size (fun k hk => by have := HR4.out; omega))
        have HF := hid (And.intro hB9 hbw9)
        clear hB9 hT9 hbw9 hbw4 hbw hB4 hk hkl hIr hBL hs1 hs2 hs3 hq
        go_wp2_with fail
        obtain ⟨hB9, hbw9⟩ := HF.out
        obtain ⟨W9, hW9⟩ : ∃ W9, W9 = ((((((wr.setCell ⟨R4, 0, none⟩ (.int .i64 id)).setCell ⟨R4, 1, none⟩ (.int .i64 q)).setCell ⟨R4, 2, none⟩ (.int .i64 (q - s1 - s2))).setCell ⟨R4, 3, none⟩ (.int .i64 s1)).setCell ⟨R4, 4, none⟩ (.int .i64 (s2 + s3))).setCell ⟨R4, 5, none⟩ (.int .i64 s3)) := ⟨_, rfl⟩
        rw [← hW9] at hB9 hbw9 ⊢
        clear hW9 HF l0 l1 l2 l3 l4 l5 k0 k1 k2 k3 k4 k5 d0 d1 d2 d3 d4 d5
        have c0 : W9.cell? ⟨R4, 0, none⟩ = some (.int .i64 id) := hB9.cell 0
        have c1 : W9.cell? ⟨R4, 1, none⟩ = some (.int .i64 q) := hB9.cell 1
        have c2 : W9.cell? ⟨R4, 2, none⟩ = some (.int .i64 (q - s1 - s2)) := hB9.cell 2
        have c3 : W9.cell? ⟨R4, 3, none⟩ = some (.int .i64 s1) := hB9.cell 3
        have c4 : W9.cell? ⟨R4, 4, none⟩ = some (.int .i64 (s2 + s3)) := hB9.cell 4
        have c5 : W9.cell? ⟨R4, 5, none⟩ = some (.int .i64 s3) := hB9.cell 5
        refine bodyPost_ret (v := .agg #[.int .i64 id, .int .i64 q, .int .i64 (q - s1 - s2), .int .i64 s1, .int .i64 (s2 + s3), .int .i64 s3]) (by simp [results, Try.results45, go_sem, c0, c1, c2, c3, c4, c5]) rfl ⟨?_, hbw9⟩
        rw [HV.out.1, HV.out.2.1, HV.out.2.2]
        rfl
end

end Go.Proofs.Ythfaaimmfdidnaa
