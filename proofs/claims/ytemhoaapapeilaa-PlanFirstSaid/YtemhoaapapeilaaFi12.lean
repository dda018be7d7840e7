/-
  PlanFirst: the walk.
-/
import Derived.Test.YtemhoaapapeilaaFp12
namespace Go.Proofs.Ytemhoaapapeilaa
open Go.RowKit Go.WideShapes Go.ChangeShapes Go.ChangeAt Go.Deep
set_option linter.unusedVariables false

/-- While a law asks a plan. -/
structure LawS (w0 : World) (nm : ByteArray) (l : List Stp) (A : Option Addr) (cp G : Nat) (base P : Nat) (vS vB vH : Value) (Ls : List Stp) (Bs Hs : List IRow) (dn : Bool) (ask : Int) (w : World) : Prop where
  p : PlW base nm P vS vB vH Ls Bs Hs dn ask w
  d : Blk w G 24 #[.string nm, .slice A l.length cp]
  b : Below w0.heap.size w0 w
  lo : w0.heap.size ≤ base
theorem LawS.next {w0 : World} {nm : ByteArray} {l : List Stp} {A : Option Addr} {cp G base P : Nat} {vS vB vH : Value} {Ls : List Stp} {Bs Hs : List IRow} {dn : Bool} {ask : Int} {w w' : World} (h : LawS w0 nm l A cp G base P vS vB vH Ls Bs Hs dn ask w) (hb : Below w.heap.size w w') : LawS w0 nm l A cp G base P vS vB vH Ls Bs Hs dn ask w' := ⟨h.p.next hb, h.d.next hb, bthen h.b hb, h.lo⟩


set_option maxRecDepth 100000 in
set_option maxHeartbeats 64000000 in
theorem planFirst_walk (nm : ByteArray) (l : List Stp) (A : Option Addr) (cp : Nat) (w : World) (hR : Rd w A (l.flatMap enSt)) (hok : ∀ s ∈ l, OkSt w s) :
    Calls Try.prog 6 #[.agg #[.string nm, .slice A l.length cp]] w (Law w) := by
  have HOK := hid hok
  have HR := hid hR
  clear hok hR
  have hB0 := Blk.new w 24 #[.string nm, .slice A l.length cp]
  have hwa : Below w.heap.size w (w.alloc (.cells #[.string nm, .slice A l.length cp] 24)) := (Below.refl _ _).alloc (Nat.le_refl _) _
  obtain ⟨W, hW⟩ : ∃ W, W = w.alloc (.cells #[.string nm, .slice A l.length cp] 24) := ⟨_, rfl⟩
  obtain ⟨G, hG⟩ : ∃ G, G = w.heap.size := ⟨_, rfl⟩
  rw [← hW] at hB0 hwa
  rw [← hG] at hB0
  have HWG := hid (And.intro hW hG)
  have HB0 := hid (And.intro hB0 hwa)
  have d0 : W.cell? ⟨G, 0, none⟩ = some (.string nm) := hB0.cell 0
  have d1 : W.cell? ⟨G, 1, none⟩ = some (.slice A l.length cp) := hB0.cell 1
  have lG := hB0.lt
  clear hB0 hwa hW hG
  go_enter Try.func6, Try.ntmps6
  go_upto_region 1 with fail
  rw [← HWG.out.1, ← HWG.out.2]
  by_cases h60 : (60 : Int) < l.length
  · go_wp2_with fail
    refine (wakes12 W).mono ?_
    rintro e w2 ⟨rfl, hb⟩
    have HF := hid (bthen HB0.out.2 hb)
    clear hb d0 d1
    go_wp2_with fail
    go_ret
    exact ⟨rfl, HF.out⟩
  have hl : l.length ≤ 60 := by omega
  have KC := hid (compile_any nm l A cp W (HR.out.below HB0.out.2) (fun s hs => (HOK.out s hs).next HB0.out.2) (by omega))
  go_wp2_with fail
  refine KC.out.mono ?_
  rintro e w1 ⟨hb1, ⟨hc, rfl⟩ | ⟨hc, P, vS, vB, Ls, Bs, rfl, hp, hg⟩⟩
  · have tc : (checkN l != 0) = true := by simpa using hc
    have HF := hid (bthen HB0.out.2 hb1)
    clear hc hb1 d0 d1 lG KC
    generalize checkN l = c at tc ⊢
    go_wp2_with fail
    refine (wakes12 w1).mono ?_
    rintro e w2 ⟨rfl, hb2⟩
    have HF := hid (bthen HF.out hb2)
    clear hb2
    go_wp2_with fail
    refine (wakes12 w2).mono ?_
    rintro e w3 ⟨rfl, hb3⟩
    have HF := hid (bthen HF.out hb3)
    clear hb3
    go_wp2_with fail
    go_ret
    exact ⟨rfl, HF.out⟩
  have hS : LawS w nm l A cp G W.heap.size P vS vB (.slice none 0 0) Ls Bs [] false 0 w1 := ⟨hp.plw, HB0.out.1.next hb1, bthen HB0.out.2 hb1, HB0.out.2.size⟩
  have HS := hid hS
  have HG := hid hg
  clear hS hg hp hc hb1 d0 d1 lG KC h60
  go_wp2_with fail
  refine (wakes12 w1).mono ?_
  rintro e w2 ⟨rfl, hb2⟩
  have hS := HS.out.next hb2
  have HS2 := hid hS
  have d1 : w2.cell? ⟨G, 1, none⟩ = some (.slice A l.length cp) := hS.d.cell 1
  have lG := hS.d.lt
  clear hb2 HS hS
  go_wp2_with fail
  go_loopw [32] (fun i wr => ∃ k : Nat, k ≤ l.length ∧ i = .int .i64 k ∧ Hid (LawS w nm l A cp G W.heap.size P vS vB (.slice none 0 0) Ls Bs [] false 0 wr) ∧ Hid (∀ j y, j < k → l[j]? = some y → y.after ≠ [])) (fun i _ => l.length - nOf i)
  case atStart => exact ⟨0, Nat.zero_le _, rfl, HS2, hid (fun j y hj => by omega)⟩
  case round =>
    clear HS2 d1 lG
    obtain ⟨k, hk, rfl, HS, HN⟩ := hrel
    have lG := HS.out.d.lt
    by_cases hlt : k < l.length
    · obtain ⟨s, hs⟩ : ∃ s, l[k]? = some s := ⟨l[k], List.getElem?_eq_getElem hlt⟩
      obtain ⟨b, o, hAA, hbs, hcc⟩ := (HR.out.below HS.out.b).at_ 9 enSt_len (by omega) hs
      have HK := hid hs
      have HSM := hid (HOK.out s (List.mem_of_getElem? hs)).len
      obtain ⟨xn, xv, xu, xe, xf, xr, xy, xw, xA, xc, xl⟩ := s
      have q0 : wr.cell? ⟨b, o + k * 9, none⟩ = some (.string xn) := hcc 0 _ rfl
      have q1 : wr.cell? ⟨b, o + k * 9 + 1, none⟩ = some (.string xv) := hcc 1 _ rfl
      have q2 : wr.cell? ⟨b, o + k * 9 + 2, none⟩ = some (.string xu) := hcc 2 _ rfl
      have q3 : wr.cell? ⟨b, o + k * 9 + 3, none⟩ = some (.string xe) := hcc 3 _ rfl
      have q4 : wr.cell? ⟨b, o + k * 9 + 4, none⟩ = some (.bool xf) := hcc 4 _ rfl
      have q5 : wr.cell? ⟨b, o + k * 9 + 5, none⟩ = some (.int .i64 xr) := hcc 5 _ rfl
      have q6 : wr.cell? ⟨b, o + k * 9 + 6, none⟩ = some (.int .i64 xy) := hcc 6 _ rfl
      have q7 : wr.cell? ⟨b, o + k * 9 + 7, none⟩ = some (.int .i64 xw) := hcc 7 _ rfl
      have q8 : wr.cell? ⟨b, o + k * 9 + 8, none⟩ = some (.slice xA xl.length xc) := hcc 8 _ rfl
      have hvb := Blk.new wr 34 #[.string xn, .string xv, .string xu, .string xe, .bool xf, .int .i64 xr, .int .i64 xy, .int .i64 xw, .slice xA xl.length xc]
      have hS3 := HS.out.next ((Below.refl _ _).alloc (Nat.le_refl _) (.cells #[.string xn, .string xv, .string xu, .string xe, .bool xf, .int .i64 xr, .int .i64 xy, .int .i64 xw, .slice xA xl.length xc] 34))
      obtain ⟨w3, hw3⟩ : ∃ w3, w3 = wr.alloc (.cells #[.string xn, .string xv, .string xu, .string xe, .bool xf, .int .i64 xr, .int .i64 xy, .int .i64 xw, .slice xA xl.length xc] 34) := ⟨_, rfl⟩
      obtain ⟨V, hV⟩ : ∃ V, V = wr.heap.size := ⟨_, rfl⟩
      rw [← hw3] at hvb hS3
      rw [← hV] at hvb
      have HW3 := hid (And.intro hw3 hV)
      have v8 : w3.cell? ⟨V, 8, none⟩ = some (.slice xA xl.length xc) := hvb.cell 8
      have lV := hvb.lt
      have HVB := hid hvb
      have HS3 := hid hS3
      clear hvb hS3 hw3 hV hcc hs
      subst hAA
      by_cases hx : xl = []
      · have tx : ((xl.length : Int) == 0) = true := by simp [hx]
        have HX := hid hx
        clear hx
        go_upto_region 9 with fail
        rw [← HW3.out.1, ← HW3.out.2]
        clear q0 q1 q2 q3 q4 q5 q6 q7 q8
        go_upto_region 10 with fail
        obtain ⟨A0, c0, hq0⟩ : ∃ A0 c0, Ls[0]? = some (twn ⟨xn, xv, xu, xe, xf, xr, xy, xw, xA, xc, xl⟩ A0 c0) := by
          have h1 := ord_first HK.out HX.out HN.out (l.length - 1)
          rw [show l.length - 1 + 1 = l.length from by omega] at h1
          obtain ⟨s, A0, c0, h2, h3⟩ := HG.out.step 0 k h1
          rw [HK.out] at h2
          injection h2 with h2
          subst h2
          exact ⟨A0, c0, h3⟩
        have KS := hid (fun (w' : World) (hb : Below w3.heap.size w3 w') => step_nm (HS3.out.next hb).p 0 _ A0 c0 hq0 HSM.out)
        have hfd := fieldN12
        have v0 : w3.cell? ⟨V, 0, none⟩ = some (.string xn) := HVB.out.cell 0
        clear hq0 v8
        go_region_with (first
          | (go_at_call 12; refine (KS.out _ (by first | exact Below.refl _ _ | exact (Below.refl _ _).drew)).mono ?_; rintro e w5 ⟨v1, v2, v3, v4, v5, v6, v7, v8, rfl, hb5⟩; have v05 : w5.cell? ⟨V, 0, none⟩ = some (.string xn) := (Blk.next (w := w3.drew) HVB.out hb5).cell 0; have lV5 : V < w5.heap.size := (Blk.next (w := w3.drew) HVB.out hb5).lt))
        all_goals
          have HX5 := hid (HS3.out.next (bthen (Below.refl _ _).drew hb5))
          clear hb5 KS v0 v05 lV lV5 lG hfd HVB HS3 HS
          go_upto_region 13 with fail
          obtain ⟨wx, hwx⟩ : ∃ wx, wx = w5 := ⟨_, rfl⟩
          rw [← hwx] at HX5 ⊢
          clear hwx HW3 HSM HN HX HK hbs hlt hk tx
          generalize (some (⟨b, o, none⟩ : Addr)) = A at HR HWG HB0 HX5 ⊢
          have d1 : wx.cell? ⟨G, 1, none⟩ = some (.slice A l.length cp) := HX5.out.d.cell 1
          have lG := HX5.out.d.lt
          go_wp2_with fail
          go_loopw [7, 50] (fun f i wr => ∃ (k : Nat) (fb : Bool), k ≤ l.length ∧ f = .bool fb ∧ i = .int .i64 k ∧ Hid (LawS w nm l A cp G W.heap.size P vS vB (.slice none 0 0) Ls Bs [] false 0 wr) ∧ Hid (fb = (l.take k).all fun s => s.after.isEmpty)) (fun _ i _ => l.length - nOf i)
          case atStart => exact ⟨0, true, Nat.zero_le _, rfl, rfl, HX5, hid (by simp)⟩
          case round =>
            clear HX5 d1 lG
            obtain ⟨k, fb, hk, rfl, rfl, HS, HN⟩ := hrel
            have lG := HS.out.d.lt
            by_cases hlt : k < l.length
            · obtain ⟨s, hs⟩ : ∃ s, l[k]? = some s := ⟨l[k], List.getElem?_eq_getElem hlt⟩
              obtain ⟨b, o, hAA, hbs, hcc⟩ := (HR.out.below HS.out.b).at_ 9 enSt_len (by omega) hs
              have HK := hid hs
              have HSM := hid (HOK.out s (List.mem_of_getElem? hs)).len
              obtain ⟨xn, xv, xu, xe, xf, xr, xy, xw, xA, xc, xl⟩ := s
              have q0 : wr.cell? ⟨b, o + k * 9, none⟩ = some (.string xn) := hcc 0 _ rfl
              have q1 : wr.cell? ⟨b, o + k * 9 + 1, none⟩ = some (.string xv) := hcc 1 _ rfl
              have q2 : wr.cell? ⟨b, o + k * 9 + 2, none⟩ = some (.string xu) := hcc 2 _ rfl
              have q3 : wr.cell? ⟨b, o + k * 9 + 3, none⟩ = some (.string xe) := hcc 3 _ rfl
              have q4 : wr.cell? ⟨b, o + k * 9 + 4, none⟩ = some (.bool xf) := hcc 4 _ rfl
              have q5 : wr.cell? ⟨b, o + k * 9 + 5, none⟩ = some (.int .i64 xr) := hcc 5 _ rfl
              have q6 : wr.cell? ⟨b, o + k * 9 + 6, none⟩ = some (.int .i64 xy) := hcc 6 _ rfl
              have q7 : wr.cell? ⟨b, o + k * 9 + 7, none⟩ = some (.int .i64 xw) := hcc 7 _ rfl
              have q8 : wr.cell? ⟨b, o + k * 9 + 8, none⟩ = some (.slice xA xl.length xc) := hcc 8 _ rfl
              have hvb := Blk.new wr 34 #[.string xn, .string xv, .string xu, .string xe, .bool xf, .int .i64 xr, .int .i64 xy, .int .i64 xw, .slice xA xl.length xc]
              have hS3 := HS.out.next ((Below.refl _ _).alloc (Nat.le_refl _) (.cells #[.string xn, .string xv, .string xu, .string xe, .bool xf, .int .i64 xr, .int .i64 xy, .int .i64 xw, .slice xA xl.length xc] 34))
              obtain ⟨w3, hw3⟩ : ∃ w3, w3 = wr.alloc (.cells #[.string xn, .string xv, .string xu, .string xe, .bool xf, .int .i64 xr, .int .i64 xy, .int .i64 xw, .slice xA xl.length xc] 34) := ⟨_, rfl⟩
              obtain ⟨V, hV⟩ : ∃ V, V = wr.heap.size := ⟨_, rfl⟩
              rw [← hw3] at hvb hS3
              rw [← hV] at hvb
              have HW3 := hid (And.intro hw3 hV)
              have v8 : w3.cell? ⟨V, 8, none⟩ = some (.slice xA xl.length xc) := hvb.cell 8
              have lV := hvb.lt
              have HVB := hid hvb
              have HS3 := hid hS3
              clear hvb hS3 hw3 hV hcc hs
              subst hAA
              have HE := hid (show (l.take (k + 1)).all (fun s => s.after.isEmpty) = (fb && xl.isEmpty) from by
                rw [List.take_add_one, List.all_append, HK.out, ← HN.out]
                simp)
              have tx : ((xl.length : Int) == 0) = xl.isEmpty := by
                cases xl with
                | nil => rfl
                | cons a r => simp; omega
              go_upto_region 17 with fail
              rw [← HW3.out.1, ← HW3.out.2]
              clear q0 q1 q2 q3 q4 q5 q6 q7 q8
              cases fb with
              | true =>
                go_wp2_with fail
                go_roundw
                case rel => exact ⟨k + 1, xl.isEmpty, by omega, by rfl, by go_num, HS3, hid (by rw [HE.out]; rfl)⟩
                case measure => simp [nOf]; omega
              | false =>
                go_wp2_with fail
                go_roundw
                case rel => exact ⟨k + 1, false, by omega, rfl, by go_num, HS3, hid (by rw [HE.out]; rfl)⟩
                case measure => simp [nOf]; omega
            · have hk' : k = l.length := by omega
              subst hk'
              obtain ⟨wu, hwu⟩ : ∃ wu, wu = wr := ⟨_, rfl⟩
              rw [← hwu] at HS lG ⊢
              have HSu := HS
              have d1 : wu.cell? ⟨G, 1, none⟩ = some (.slice A l.length cp) := HSu.out.d.cell 1
              have hfin : ∀ s ∈ l, fb = true → s.after = [] := fun s hs hf => by
                have h1 := HN.out
                rw [List.take_length, hf] at h1
                exact List.isEmpty_iff.1 (List.all_eq_true.1 h1.symm s hs)
              have HFI := hid hfin
              clear hwu HS hlt HN hfin hk
              cases fb with
              | true =>
                go_wp2_with fail
                go_loopw [65] (fun i wr => ∃ k : Nat, k ≤ l.length ∧ i = .int .i64 k ∧ Hid (LawS w nm l A cp G W.heap.size P vS vB (.slice none 0 0) Ls Bs [] false 0 wr)) (fun i _ => l.length - nOf i)
                case atStart => exact ⟨0, Nat.zero_le _, rfl, HSu⟩
                case round =>
                  clear HSu d1 lG
                  obtain ⟨k, hk, rfl, HS⟩ := hrel
                  have lG := HS.out.d.lt
                  by_cases hlt : k < l.length
                  · obtain ⟨s, hs⟩ : ∃ s, l[k]? = some s := ⟨l[k], List.getElem?_eq_getElem hlt⟩
                    obtain ⟨b, o, hAA, hbs, hcc⟩ := (HR.out.below HS.out.b).at_ 9 enSt_len (by omega) hs
                    have HK := hid hs
                    have HSM := hid (HOK.out s (List.mem_of_getElem? hs)).len
                    obtain ⟨xn, xv, xu, xe, xf, xr, xy, xw, xA, xc, xl⟩ := s
                    have q0 : wr.cell? ⟨b, o + k * 9, none⟩ = some (.string xn) := hcc 0 _ rfl
                    have q1 : wr.cell? ⟨b, o + k * 9 + 1, none⟩ = some (.string xv) := hcc 1 _ rfl
                    have q2 : wr.cell? ⟨b, o + k * 9 + 2, none⟩ = some (.string xu) := hcc 2 _ rfl
                    have q3 : wr.cell? ⟨b, o + k * 9 + 3, none⟩ = some (.string xe) := hcc 3 _ rfl
                    have q4 : wr.cell? ⟨b, o + k * 9 + 4, none⟩ = some (.bool xf) := hcc 4 _ rfl
                    have q5 : wr.cell? ⟨b, o + k * 9 + 5, none⟩ = some (.int .i64 xr) := hcc 5 _ rfl
                    have q6 : wr.cell? ⟨b, o + k * 9 + 6, none⟩ = some (.int .i64 xy) := hcc 6 _ rfl
                    have q7 : wr.cell? ⟨b, o + k * 9 + 7, none⟩ = some (.int .i64 xw) := hcc 7 _ rfl
                    have q8 : wr.cell? ⟨b, o + k * 9 + 8, none⟩ = some (.slice xA xl.length xc) := hcc 8 _ rfl
                    have hvb := Blk.new wr 34 #[.string xn, .string xv, .string xu, .string xe, .bool xf, .int .i64 xr, .int .i64 xy, .int .i64 xw, .slice xA xl.length xc]
                    have hS3 := HS.out.next ((Below.refl _ _).alloc (Nat.le_refl _) (.cells #[.string xn, .string xv, .string xu, .string xe, .bool xf, .int .i64 xr, .int .i64 xy, .int .i64 xw, .slice xA xl.length xc] 34))
                    obtain ⟨w3, hw3⟩ : ∃ w3, w3 = wr.alloc (.cells #[.string xn, .string xv, .string xu, .string xe, .bool xf, .int .i64 xr, .int .i64 xy, .int .i64 xw, .slice xA xl.length xc] 34) := ⟨_, rfl⟩
                    obtain ⟨V, hV⟩ : ∃ V, V = wr.heap.size := ⟨_, rfl⟩
                    rw [← hw3] at hvb hS3
                    rw [← hV] at hvb
                    have HW3 := hid (And.intro hw3 hV)
                    have v8 : w3.cell? ⟨V, 8, none⟩ = some (.slice xA xl.length xc) := hvb.cell 8
                    have lV := hvb.lt
                    have HVB := hid hvb
                    have HS3 := hid hS3
                    clear hvb hS3 hw3 hV hcc hs
                    subst hAA
                    go_upto_region 22 with fail
                    rw [← HW3.out.1, ← HW3.out.2]
                    clear q0 q1 q2 q3 q4 q5 q6 q7 q8
                    obtain ⟨A0, c0, hq0⟩ : ∃ A0 c0, Ls[k]? = some (twn ⟨xn, xv, xu, xe, xf, xr, xy, xw, xA, xc, xl⟩ A0 c0) := by
                      have h1 : (ordN (grf l) l.length)[k]? = some k := by
                        rw [ord_free (fun s hs => HFI.out s hs (by first | rfl | trivial)) _ (Nat.le_refl _)]
                        simp [hlt]
                      obtain ⟨s, A0, c0, h2, h3⟩ := HG.out.step k k h1
                      rw [HK.out] at h2
                      injection h2 with h2
                      subst h2
                      exact ⟨A0, c0, h3⟩
                    have KS := hid (fun (w' : World) (hb : Below w3.heap.size w3 w') => step_nm (HS3.out.next hb).p k _ A0 c0 hq0 HSM.out)
                    have hfd := fieldN12
                    have v0 : w3.cell? ⟨V, 0, none⟩ = some (.string xn) := HVB.out.cell 0
                    clear hq0 v8
                    go_region_with (first
                      | (go_at_call 12; refine (KS.out _ (by first | exact Below.refl _ _ | exact (Below.refl _ _).drew)).mono ?_; rintro e w5 ⟨v1, v2, v3, v4, v5, v6, v7, v8, rfl, hb5⟩; have v05 : w5.cell? ⟨V, 0, none⟩ = some (.string xn) := (Blk.next (w := w3.drew) HVB.out hb5).cell 0; have lV5 : V < w5.heap.size := (Blk.next (w := w3.drew) HVB.out hb5).lt))
                    all_goals
                      have HX5 := hid (HS3.out.next (bthen (Below.refl _ _).drew hb5))
                      clear hb5 KS v0 v05 lV lV5 lG hfd HVB HS3 HS
                      go_wp2_with fail
                      go_roundw
                      case rel => exact ⟨k + 1, by omega, by go_num, HX5⟩
                      case measure => simp [nOf]; omega
                  · go_wp2_with fail
                    go_ret
                    exact ⟨rfl, HS.out.b⟩
              | false =>
                go_wp2_with fail
                go_loopw [65] (fun i wr => ∃ k : Nat, k ≤ l.length ∧ i = .int .i64 k ∧ Hid (LawS w nm l A cp G W.heap.size P vS vB (.slice none 0 0) Ls Bs [] false 0 wr)) (fun i _ => l.length - nOf i)
                case atStart => exact ⟨0, Nat.zero_le _, rfl, HSu⟩
                case round =>
                  clear HSu d1 lG
                  obtain ⟨k, hk, rfl, HS⟩ := hrel
                  have lG := HS.out.d.lt
                  by_cases hlt : k < l.length
                  · obtain ⟨s, hs⟩ : ∃ s, l[k]? = some s := ⟨l[k], List.getElem?_eq_getElem hlt⟩
                    obtain ⟨b, o, hAA, hbs, hcc⟩ := (HR.out.below HS.out.b).at_ 9 enSt_len (by omega) hs
                    have HK := hid hs
                    have HSM := hid (HOK.out s (List.mem_of_getElem? hs)).len
                    obtain ⟨xn, xv, xu, xe, xf, xr, xy, xw, xA, xc, xl⟩ := s
                    have q0 : wr.cell? ⟨b, o + k * 9, none⟩ = some (.string xn) := hcc 0 _ rfl
                    have q1 : wr.cell? ⟨b, o + k * 9 + 1, none⟩ = some (.string xv) := hcc 1 _ rfl
                    have q2 : wr.cell? ⟨b, o + k * 9 + 2, none⟩ = some (.string xu) := hcc 2 _ rfl
                    have q3 : wr.cell? ⟨b, o + k * 9 + 3, none⟩ = some (.string xe) := hcc 3 _ rfl
                    have q4 : wr.cell? ⟨b, o + k * 9 + 4, none⟩ = some (.bool xf) := hcc 4 _ rfl
                    have q5 : wr.cell? ⟨b, o + k * 9 + 5, none⟩ = some (.int .i64 xr) := hcc 5 _ rfl
                    have q6 : wr.cell? ⟨b, o + k * 9 + 6, none⟩ = some (.int .i64 xy) := hcc 6 _ rfl
                    have q7 : wr.cell? ⟨b, o + k * 9 + 7, none⟩ = some (.int .i64 xw) := hcc 7 _ rfl
                    have q8 : wr.cell? ⟨b, o + k * 9 + 8, none⟩ = some (.slice xA xl.length xc) := hcc 8 _ rfl
                    have hvb := Blk.new wr 34 #[.string xn, .string xv, .string xu, .string xe, .bool xf, .int .i64 xr, .int .i64 xy, .int .i64 xw, .slice xA xl.length xc]
                    have hS3 := HS.out.next ((Below.refl _ _).alloc (Nat.le_refl _) (.cells #[.string xn, .string xv, .string xu, .string xe, .bool xf, .int .i64 xr, .int .i64 xy, .int .i64 xw, .slice xA xl.length xc] 34))
                    obtain ⟨w3, hw3⟩ : ∃ w3, w3 = wr.alloc (.cells #[.string xn, .string xv, .string xu, .string xe, .bool xf, .int .i64 xr, .int .i64 xy, .int .i64 xw, .slice xA xl.length xc] 34) := ⟨_, rfl⟩
                    obtain ⟨V, hV⟩ : ∃ V, V = wr.heap.size := ⟨_, rfl⟩
                    rw [← hw3] at hvb hS3
                    rw [← hV] at hvb
                    have HW3 := hid (And.intro hw3 hV)
                    have v8 : w3.cell? ⟨V, 8, none⟩ = some (.slice xA xl.length xc) := hvb.cell 8
                    have lV := hvb.lt
                    have HVB := hid hvb
                    have HS3 := hid hS3
                    clear hvb hS3 hw3 hV hcc hs
                    subst hAA
                    go_upto_region 22 with fail
                    rw [← HW3.out.1, ← HW3.out.2]
                    clear q0 q1 q2 q3 q4 q5 q6 q7 q8
                    have HX5 := hid (HS3.out.next (belowN w3 1))
                    go_quiet (fail)
                    go_wp2_with fail
                    go_roundw
                    case rel => exact ⟨k + 1, by omega, by go_num, hid (HS3.out.next (belowN w3 _))⟩
                    case measure => simp [nOf]; omega
                  · go_wp2_with fail
                    go_ret
                    exact ⟨rfl, HS.out.b⟩
      · have tx : ((xl.length : Int) == 0) = false := by
          cases xl with
          | nil => exact absurd rfl hx
          | cons a r => simp; omega
        have HX := hid hx
        clear hx
        go_upto_region 9 with fail
        rw [← HW3.out.1, ← HW3.out.2]
        clear q0 q1 q2 q3 q4 q5 q6 q7 q8
        go_wp2_with fail
        go_roundw
        case rel => exact ⟨k + 1, by omega, by go_num, HS3, hid (fun j z hj hz => by
          by_cases e : j = k
          · subst e; rw [HK.out] at hz; injection hz with hz; subst hz; exact HX.out
          · exact HN.out j z (by omega) hz)⟩
        case measure => simp [nOf]; omega
    · go_upto_region 13 with fail
      obtain ⟨wx, hwx⟩ : ∃ wx, wx = wr := ⟨_, rfl⟩
      rw [← hwx] at HS lG ⊢
      have HX5 := HS
      clear hwx HS lG hlt HN hk
      have d1 : wx.cell? ⟨G, 1, none⟩ = some (.slice A l.length cp) := HX5.out.d.cell 1
      have lG := HX5.out.d.lt
      go_wp2_with fail
      go_loopw [7, 50] (fun f i wr => ∃ (k : Nat) (fb : Bool), k ≤ l.length ∧ f = .bool fb ∧ i = .int .i64 k ∧ Hid (LawS w nm l A cp G W.heap.size P vS vB (.slice none 0 0) Ls Bs [] false 0 wr) ∧ Hid (fb = (l.take k).all fun s => s.after.isEmpty)) (fun _ i _ => l.length - nOf i)
      case atStart => exact ⟨0, true, Nat.zero_le _, rfl, rfl, HX5, hid (by simp)⟩
      case round =>
        clear HX5 d1 lG
        obtain ⟨k, fb, hk, rfl, rfl, HS, HN⟩ := hrel
        have lG := HS.out.d.lt
        by_cases hlt : k < l.length
        · obtain ⟨s, hs⟩ : ∃ s, l[k]? = some s := ⟨l[k], List.getElem?_eq_getElem hlt⟩
          obtain ⟨b, o, hAA, hbs, hcc⟩ := (HR.out.below HS.out.b).at_ 9 enSt_len (by omega) hs
          have HK := hid hs
          have HSM := hid (HOK.out s (List.mem_of_getElem? hs)).len
          obtain ⟨xn, xv, xu, xe, xf, xr, xy, xw, xA, xc, xl⟩ := s
          have q0 : wr.cell? ⟨b, o + k * 9, none⟩ = some (.string xn) := hcc 0 _ rfl
          have q1 : wr.cell? ⟨b, o + k * 9 + 1, none⟩ = some (.string xv) := hcc 1 _ rfl
          have q2 : wr.cell? ⟨b, o + k * 9 + 2, none⟩ = some (.string xu) := hcc 2 _ rfl
          have q3 : wr.cell? ⟨b, o + k * 9 + 3, none⟩ = some (.string xe) := hcc 3 _ rfl
          have q4 : wr.cell? ⟨b, o + k * 9 + 4, none⟩ = some (.bool xf) := hcc 4 _ rfl
          have q5 : wr.cell? ⟨b, o + k * 9 + 5, none⟩ = some (.int .i64 xr) := hcc 5 _ rfl
          have q6 : wr.cell? ⟨b, o + k * 9 + 6, none⟩ = some (.int .i64 xy) := hcc 6 _ rfl
          have q7 : wr.cell? ⟨b, o + k * 9 + 7, none⟩ = some (.int .i64 xw) := hcc 7 _ rfl
          have q8 : wr.cell? ⟨b, o + k * 9 + 8, none⟩ = some (.slice xA xl.length xc) := hcc 8 _ rfl
          have hvb := Blk.new wr 34 #[.string xn, .string xv, .string xu, .string xe, .bool xf, .int .i64 xr, .int .i64 xy, .int .i64 xw, .slice xA xl.length xc]
          have hS3 := HS.out.next ((Below.refl _ _).alloc (Nat.le_refl _) (.cells #[.string xn, .string xv, .string xu, .string xe, .bool xf, .int .i64 xr, .int .i64 xy, .int .i64 xw, .slice xA xl.length xc] 34))
          obtain ⟨w3, hw3⟩ : ∃ w3, w3 = wr.alloc (.cells #[.string xn, .string xv, .string xu, .string xe, .bool xf, .int .i64 xr, .int .i64 xy, .int .i64 xw, .slice xA xl.length xc] 34) := ⟨_, rfl⟩
          obtain ⟨V, hV⟩ : ∃ V, V = wr.heap.size := ⟨_, rfl⟩
          rw [← hw3] at hvb hS3
          rw [← hV] at hvb
          have HW3 := hid (And.intro hw3 hV)
          have v8 : w3.cell? ⟨V, 8, none⟩ = some (.slice xA xl.length xc) := hvb.cell 8
          have lV := hvb.lt
          have HVB := hid hvb
          have HS3 := hid hS3
          clear hvb hS3 hw3 hV hcc hs
          subst hAA
          have HE := hid (show (l.take (k + 1)).all (fun s => s.after.isEmpty) = (fb && xl.isEmpty) from by
            rw [List.take_add_one, List.all_append, HK.out, ← HN.out]
            simp)
          have tx : ((xl.length : Int) == 0) = xl.isEmpty := by
            cases xl with
            | nil => rfl
            | cons a r => simp; omega
          go_upto_region 17 with fail
          rw [← HW3.out.1, ← HW3.out.2]
          clear q0 q1 q2 q3 q4 q5 q6 q7 q8
          cases fb with
          | true =>
            go_wp2_with fail
            go_roundw
            case rel => exact ⟨k + 1, xl.isEmpty, by omega, by rfl, by go_num, HS3, hid (by rw [HE.out]; rfl)⟩
            case measure => simp [nOf]; omega
          | false =>
            go_wp2_with fail
            go_roundw
            case rel => exact ⟨k + 1, false, by omega, rfl, by go_num, HS3, hid (by rw [HE.out]; rfl)⟩
            case measure => simp [nOf]; omega
        · have hk' : k = l.length := by omega
          subst hk'
          obtain ⟨wu, hwu⟩ : ∃ wu, wu = wr := ⟨_, rfl⟩
          rw [← hwu] at HS lG ⊢
          have HSu := HS
          have d1 : wu.cell? ⟨G, 1, none⟩ = some (.slice A l.length cp) := HSu.out.d.cell 1
          have hfin : ∀ s ∈ l, fb = true → s.after = [] := fun s hs hf => by
            have h1 := HN.out
            rw [List.take_length, hf] at h1
            exact List.isEmpty_iff.1 (List.all_eq_true.1 h1.symm s hs)
          have HFI := hid hfin
          clear hwu HS hlt HN hfin hk
          cases fb with
          | true =>
            go_wp2_with fail
            go_loopw [65] (fun i wr => ∃ k : Nat, k ≤ l.length ∧ i = .int .i64 k ∧ Hid (LawS w nm l A cp G W.heap.size P vS vB (.slice none 0 0) Ls Bs [] false 0 wr)) (fun i _ => l.length - nOf i)
            case atStart => exact ⟨0, Nat.zero_le _, rfl, HSu⟩
            case round =>
              clear HSu d1 lG
              obtain ⟨k, hk, rfl, HS⟩ := hrel
              have lG := HS.out.d.lt
              by_cases hlt : k < l.length
              · obtain ⟨s, hs⟩ : ∃ s, l[k]? = some s := ⟨l[k], List.getElem?_eq_getElem hlt⟩
                obtain ⟨b, o, hAA, hbs, hcc⟩ := (HR.out.below HS.out.b).at_ 9 enSt_len (by omega) hs
                have HK := hid hs
                have HSM := hid (HOK.out s (List.mem_of_getElem? hs)).len
                obtain ⟨xn, xv, xu, xe, xf, xr, xy, xw, xA, xc, xl⟩ := s
                have q0 : wr.cell? ⟨b, o + k * 9, none⟩ = some (.string xn) := hcc 0 _ rfl
                have q1 : wr.cell? ⟨b, o + k * 9 + 1, none⟩ = some (.string xv) := hcc 1 _ rfl
                have q2 : wr.cell? ⟨b, o + k * 9 + 2, none⟩ = some (.string xu) := hcc 2 _ rfl
                have q3 : wr.cell? ⟨b, o + k * 9 + 3, none⟩ = some (.string xe) := hcc 3 _ rfl
                have q4 : wr.cell? ⟨b, o + k * 9 + 4, none⟩ = some (.bool xf) := hcc 4 _ rfl
                have q5 : wr.cell? ⟨b, o + k * 9 + 5, none⟩ = some (.int .i64 xr) := hcc 5 _ rfl
                have q6 : wr.cell? ⟨b, o + k * 9 + 6, none⟩ = some (.int .i64 xy) := hcc 6 _ rfl
                have q7 : wr.cell? ⟨b, o + k * 9 + 7, none⟩ = some (.int .i64 xw) := hcc 7 _ rfl
                have q8 : wr.cell? ⟨b, o + k * 9 + 8, none⟩ = some (.slice xA xl.length xc) := hcc 8 _ rfl
                have hvb := Blk.new wr 34 #[.string xn, .string xv, .string xu, .string xe, .bool xf, .int .i64 xr, .int .i64 xy, .int .i64 xw, .slice xA xl.length xc]
                have hS3 := HS.out.next ((Below.refl _ _).alloc (Nat.le_refl _) (.cells #[.string xn, .string xv, .string xu, .string xe, .bool xf, .int .i64 xr, .int .i64 xy, .int .i64 xw, .slice xA xl.length xc] 34))
                obtain ⟨w3, hw3⟩ : ∃ w3, w3 = wr.alloc (.cells #[.string xn, .string xv, .string xu, .string xe, .bool xf, .int .i64 xr, .int .i64 xy, .int .i64 xw, .slice xA xl.length xc] 34) := ⟨_, rfl⟩
                obtain ⟨V, hV⟩ : ∃ V, V = wr.heap.size := ⟨_, rfl⟩
                rw [← hw3] at hvb hS3
                rw [← hV] at hvb
                have HW3 := hid (And.intro hw3 hV)
                have v8 : w3.cell? ⟨V, 8, none⟩ = some (.slice xA xl.length xc) := hvb.cell 8
                have lV := hvb.lt
                have HVB := hid hvb
                have HS3 := hid hS3
                clear hvb hS3 hw3 hV hcc hs
                subst hAA
                go_upto_region 22 with fail
                rw [← HW3.out.1, ← HW3.out.2]
                clear q0 q1 q2 q3 q4 q5 q6 q7 q8
                obtain ⟨A0, c0, hq0⟩ : ∃ A0 c0, Ls[k]? = some (twn ⟨xn, xv, xu, xe, xf, xr, xy, xw, xA, xc, xl⟩ A0 c0) := by
                  have h1 : (ordN (grf l) l.length)[k]? = some k := by
                    rw [ord_free (fun s hs => HFI.out s hs (by first | rfl | trivial)) _ (Nat.le_refl _)]
                    simp [hlt]
                  obtain ⟨s, A0, c0, h2, h3⟩ := HG.out.step k k h1
                  rw [HK.out] at h2
                  injection h2 with h2
                  subst h2
                  exact ⟨A0, c0, h3⟩
                have KS := hid (fun (w' : World) (hb : Below w3.heap.size w3 w') => step_nm (HS3.out.next hb).p k _ A0 c0 hq0 HSM.out)
                have hfd := fieldN12
                have v0 : w3.cell? ⟨V, 0, none⟩ = some (.string xn) := HVB.out.cell 0
                clear hq0 v8
                go_region_with (first
                  | (go_at_call 12; refine (KS.out _ (by first | exact Below.refl _ _ | exact (Below.refl _ _).drew)).mono ?_; rintro e w5 ⟨v1, v2, v3, v4, v5, v6, v7, v8, rfl, hb5⟩; have v05 : w5.cell? ⟨V, 0, none⟩ = some (.string xn) := (Blk.next (w := w3.drew) HVB.out hb5).cell 0; have lV5 : V < w5.heap.size := (Blk.next (w := w3.drew) HVB.out hb5).lt))
                all_goals
                  have HX5 := hid (HS3.out.next (bthen (Below.refl _ _).drew hb5))
                  clear hb5 KS v0 v05 lV lV5 lG hfd HVB HS3 HS
                  go_wp2_with fail
                  go_roundw
                  case rel => exact ⟨k + 1, by omega, by go_num, HX5⟩
                  case measure => simp [nOf]; omega
              · go_wp2_with fail
                go_ret
                exact ⟨rfl, HS.out.b⟩
          | false =>
            go_wp2_with fail
            go_loopw [65] (fun i wr => ∃ k : Nat, k ≤ l.length ∧ i = .int .i64 k ∧ Hid (LawS w nm l A cp G W.heap.size P vS vB (.slice none 0 0) Ls Bs [] false 0 wr)) (fun i _ => l.length - nOf i)
            case atStart => exact ⟨0, Nat.zero_le _, rfl, HSu⟩
            case round =>
              clear HSu d1 lG
              obtain ⟨k, hk, rfl, HS⟩ := hrel
              have lG := HS.out.d.lt
              by_cases hlt : k < l.length
              · obtain ⟨s, hs⟩ : ∃ s, l[k]? = some s := ⟨l[k], List.getElem?_eq_getElem hlt⟩
                obtain ⟨b, o, hAA, hbs, hcc⟩ := (HR.out.below HS.out.b).at_ 9 enSt_len (by omega) hs
                have HK := hid hs
                have HSM := hid (HOK.out s (List.mem_of_getElem? hs)).len
                obtain ⟨xn, xv, xu, xe, xf, xr, xy, xw, xA, xc, xl⟩ := s
                have q0 : wr.cell? ⟨b, o + k * 9, none⟩ = some (.string xn) := hcc 0 _ rfl
                have q1 : wr.cell? ⟨b, o + k * 9 + 1, none⟩ = some (.string xv) := hcc 1 _ rfl
                have q2 : wr.cell? ⟨b, o + k * 9 + 2, none⟩ = some (.string xu) := hcc 2 _ rfl
                have q3 : wr.cell? ⟨b, o + k * 9 + 3, none⟩ = some (.string xe) := hcc 3 _ rfl
                have q4 : wr.cell? ⟨b, o + k * 9 + 4, none⟩ = some (.bool xf) := hcc 4 _ rfl
                have q5 : wr.cell? ⟨b, o + k * 9 + 5, none⟩ = some (.int .i64 xr) := hcc 5 _ rfl
                have q6 : wr.cell? ⟨b, o + k * 9 + 6, none⟩ = some (.int .i64 xy) := hcc 6 _ rfl
                have q7 : wr.cell? ⟨b, o + k * 9 + 7, none⟩ = some (.int .i64 xw) := hcc 7 _ rfl
                have q8 : wr.cell? ⟨b, o + k * 9 + 8, none⟩ = some (.slice xA xl.length xc) := hcc 8 _ rfl
                have hvb := Blk.new wr 34 #[.string xn, .string xv, .string xu, .string xe, .bool xf, .int .i64 xr, .int .i64 xy, .int .i64 xw, .slice xA xl.length xc]
                have hS3 := HS.out.next ((Below.refl _ _).alloc (Nat.le_refl _) (.cells #[.string xn, .string xv, .string xu, .string xe, .bool xf, .int .i64 xr, .int .i64 xy, .int .i64 xw, .slice xA xl.length xc] 34))
                obtain ⟨w3, hw3⟩ : ∃ w3, w3 = wr.alloc (.cells #[.string xn, .string xv, .string xu, .string xe, .bool xf, .int .i64 xr, .int .i64 xy, .int .i64 xw, .slice xA xl.length xc] 34) := ⟨_, rfl⟩
                obtain ⟨V, hV⟩ : ∃ V, V = wr.heap.size := ⟨_, rfl⟩
                rw [← hw3] at hvb hS3
                rw [← hV] at hvb
                have HW3 := hid (And.intro hw3 hV)
                have v8 : w3.cell? ⟨V, 8, none⟩ = some (.slice xA xl.length xc) := hvb.cell 8
                have lV := hvb.lt
                have HVB := hid hvb
                have HS3 := hid hS3
                clear hvb hS3 hw3 hV hcc hs
                subst hAA
                go_upto_region 22 with fail
                rw [← HW3.out.1, ← HW3.out.2]
                clear q0 q1 q2 q3 q4 q5 q6 q7 q8
                have HX5 := hid (HS3.out.next (belowN w3 1))
                go_quiet (fail)
                go_wp2_with fail
                go_roundw
                case rel => exact ⟨k + 1, by omega, by go_num, hid (HS3.out.next (belowN w3 _))⟩
                case measure => simp [nOf]; omega
              · go_wp2_with fail
                go_ret
                exact ⟨rfl, HS.out.b⟩

end Go.Proofs.Ytemhoaapapeilaa
