/-
  The statement EngineEnds: for every input the law returns true. No condition.
  The statement EngineEnds: the walk.
-/
import Derived.Test.YtoemmakhbiiknaaGreatQe18
import Derived.Deep.CutBlock
import Derived.Deep.QuietTactic
import Derived.BigQuiet
import Derived.Deep.RegionLaw
namespace Go.Proofs.YtoemmakhbiiknaaGreat
open Go.RowKit Go.WideShapes Go.ChangeShapes Go.ChangeAt Go.Deep
set_option linter.unusedVariables false

theorem two_new (w : World) (t1 t2 : TypeId) (c1 c2 : Array Value) : Blk ((w.alloc (.cells c1 t1)).alloc (.cells c2 t2)) w.heap.size t1 c1 ∧ Blk ((w.alloc (.cells c1 t1)).alloc (.cells c2 t2)) (w.heap.size + 1) t2 c2 ∧ Below w.heap.size w ((w.alloc (.cells c1 t1)).alloc (.cells c2 t2)) := by
  have h1 := Blk.new w t1 c1
  have hb1 : Below w.heap.size w (w.alloc (.cells c1 t1)) := (Below.refl _ _).alloc (Nat.le_refl _) _
  have hb2 : Below (w.alloc (.cells c1 t1)).heap.size (w.alloc (.cells c1 t1)) ((w.alloc (.cells c1 t1)).alloc (.cells c2 t2)) := (Below.refl _ _).alloc (Nat.le_refl _) _
  have h2 := Blk.new (w.alloc (.cells c1 t1)) t2 c2
  have e : (w.alloc (.cells c1 t1)).heap.size = w.heap.size + 1 := by simp only [World.alloc, Array.size_push]
  rw [e] at h2
  exact ⟨h1.next hb2, h2, bthen hb1 hb2⟩
theorem rd_blk {w : World} {g : Nat} {t : TypeId} {cs : Array Value} (h : Blk w g t cs) : Rd w (some ⟨g, 0, none⟩) cs.toList := .inr ⟨g, 0, rfl, h.lt, fun j u hu => by
  rw [Nat.zero_add]
  rw [h.cell]
  simpa using hu⟩

theorem mk_bools {n : Nat} (hn : n ≤ 40) : ∀ w : World, (Instr.makeSlice 64 (.int .i64 (n : Int)) (.int .i64 (n : Int))).run Tryz.prog w = .ok (.slice (some ⟨w.heap.size, 0, none⟩) n n) (w.alloc (.cells (rngC n fun _ => Value.bool false) 4)) := fun w => by
  obtain ⟨i0, hi, hz0, hz1, hz2⟩ := info_parts info_bool
  have := run_makeSlice (P := Tryz.prog) (w := w) 64 4 i0 (.bool false) Tryz.underlying64 hi hz0 .i64 .i64 (n : Int) (n : Int) (by omega) (Int.le_refl _) (by rw [hz1]; simp; omega) (by rw [hz2]; omega) (by omega)
  rw [hz1] at this
  simp only [Int.toNat_natCast, Nat.mul_one] at this
  rw [made_false] at this
  exact this

set_option maxRecDepth 100000 in
set_option maxHeartbeats 64000000 in
theorem engineEnds_walk (x : FDef) (an : AnsE) (cn : Int) (w : World) (hx : OkFD w x) (ha : OkAns w an) :
    Calls Tryz.prog 4 #[.agg #[.string x.nm, .slice x.A x.l.length x.cap], .agg #[.slice an.CA an.cs.length an.cc, .slice an.PA an.ps.length an.pc], .int .i64 cn] w (Law w) := by
  have HX := hid hx
  have HA := hid ha
  have KN := hid enew_any
  have KW := hid wakes13
  clear hx ha
  go_enter Tryz.func4, Tryz.ntmps4
  go_upto_region 1 with fail
  obtain ⟨hB1, hB2, hbW⟩ := two_new w 60 62 #[.string x.nm, .slice x.A x.l.length x.cap] #[.slice an.CA an.cs.length an.cc, .slice an.PA an.ps.length an.pc]
  obtain ⟨W, hW⟩ : ∃ W, W = (w.alloc (.cells #[.string x.nm, .slice x.A x.l.length x.cap] 60)).alloc (.cells #[.slice an.CA an.cs.length an.cc, .slice an.PA an.ps.length an.pc] 62) := ⟨_, rfl⟩
  obtain ⟨G, hG⟩ : ∃ G, G = w.heap.size := ⟨_, rfl⟩
  obtain ⟨G2, hG2⟩ : ∃ G2, G2 = w.heap.size + 1 := ⟨_, rfl⟩
  rw [← hW, ← hG2] at hB2
  rw [← hW, ← hG] at hB1
  rw [← hW] at hbW
  rw [← hW, ← hG2, ← hG]
  have d0 : W.cell? ⟨G, 0, none⟩ = some (.string x.nm) := hB1.cell 0
  have d1 : W.cell? ⟨G, 1, none⟩ = some (.slice x.A x.l.length x.cap) := hB1.cell 1
  have lG := hB1.lt
  have hbV : Below W.heap.size W (W.alloc (.cells #[.string x.nm, .slice x.A x.l.length x.cap] 60)) := (Below.refl _ _).alloc (Nat.le_refl _) _
  have hV := Blk.new W 60 #[.string x.nm, .slice x.A x.l.length x.cap]
  have KP := hid (plans13 [x] (some ⟨W.heap.size, 0, none⟩) 1 (W.alloc (.cells #[.string x.nm, .slice x.A x.l.length x.cap] 60)) (by simpa [enFD] using rd_blk hV) (fun d hd => by
    obtain rfl : d = x := by simpa using hd
    exact ⟨(HX.out.rd.below hbW).below hbV, fun s hs => ((HX.out.ok s hs).next hbW).next hbV, HX.out.len, HX.out.nms⟩) (by simp))
  have HB2 := hid hB2
  have HBW := hid (bthen hbW hbV)
  have HBV := hid hbV
  have HBw := hid hbW
  clear hB1 hB2 hbW hbV hV hW hG hG2
  go_wp2_with fail
  refine KP.out.mono ?_
  rintro e wp ⟨ds, pA, pc, rA, rc, rfl, hdl, hP⟩
  have HP := hid hP
  clear KP hP d0 d1 lG
  go_wp2_with fail
  refine (KW.out wp).mono ?_
  rintro e w2 ⟨rfl, hb2⟩
  have HP2 := hid (HP.out.next hb2)
  have HB2w := hid hb2
  clear hb2
  cases ds with
  | nil =>
    go_wp2_with fail
    refine (KW.out w2).mono ?_
    rintro e w3 ⟨rfl, hb3⟩
    have HF := hid (bthen (bthen HBW.out HP2.out.bel) hb3)
    clear hb3
    go_wp2_with fail
    go_ret
    exact ⟨rfl, HF.out⟩
  | cons d ds =>
    obtain rfl : ds = [] := by
      cases ds with
      | nil => rfl
      | cons a b => simp at hdl
    obtain ⟨b, off, hAA, _, hcc⟩ := (own_rd HP2.out.po).at_ (enc := fun d : PlD => enB13 d.P) 1 (fun _ => rfl) (by omega) (show [d][0]? = some d from rfl)
    have q0 : w2.cell? ⟨b, off + 0 * 1, none⟩ = some (.pointer (some ⟨d.P, 0, none⟩)) := hcc 0 _ rfl
    rw [Nat.zero_mul, Nat.add_zero] at q0
    have HAA := hid hAA
    rw [hAA]
    clear hcc hAA
    go_wp2_with fail
    refine (KN.out w2).mono ?_
    rintro e w3 ⟨X, M, rfl, hE, hb3⟩
    have HE := hid hE
    have HB3 := hid hb3
    obtain ⟨y, hpo, hin⟩ := ((HP2.out.ok d (by simp)).ok)
    have HIN := hid hin
    have KS := hid (start_any (hpo.next hb3).p hE 1 rfl)
    have HF := hid (HP2.out.ok d (by simp)).f
    have HLO := hid (HP2.out.lo d (by simp))
    clear hE hb3 hpo hin q0
    go_wp2_with fail
    refine KS.out.mono ?_
    rintro e w4 ⟨I, PA, pc0, l1, rfl, hI, hE2, hT, hO, hl⟩
    clear KS
    obtain ⟨V, hV⟩ : ∃ V, V = goV d.Ls d.Bs (newV 1 d.Ls.length) := ⟨_, rfl⟩
    obtain ⟨n, hn⟩ : ∃ n, n = d.Ls.length := ⟨_, rfl⟩
    have hn40 : n ≤ 40 := by rw [hn]; exact HF.out.n40
    have KL := hid (show ∀ w', Below w4.heap.size w4 w' → Calls Tryz.prog 17 #[.pointer (some ⟨d.P, 0, none⟩)] w' fun e w'' => e = .returned (.int .i64 (n : Int)) ∧ w'' = w' from fun w' hb => by
      rw [hn]
      exact len_some (hI.p.next hb).p)
    have KS0 := hid (show ∀ (w' : World) (U S : Nat), Below w4.heap.size w4 w' → Blk w' U 4 (rngC n fun _ => .bool false) → Blk w' S 4 (rngC n fun _ => .bool false) → U ≠ S → EnX d X M w2.heap.size w3.heap.size I U S (3 * n + 2 * an.cs.length) an.cs.length 0 V.out PA pc0 (fun _ => false) (fun _ => false) w' from fun w' U S hb hU hS hne => by
      rw [hV, hn]
      rw [hn] at hU hS
      exact EnX.start HF.out (hI.next hb) (hE2.next hb) (own_next hO hb) hl hU hS hne (Nat.le_refl _))
    obtain ⟨Wv, hWv⟩ : ∃ Wv, Wv = W.alloc (.cells #[.string x.nm, .slice x.A x.l.length x.cap] 60) := ⟨_, rfl⟩
    have HBv4 := hid (show Below Wv.heap.size Wv w4 from by
      rw [hWv]
      have h1 := bthen HP2.out.bel HB3.out
      refine h1.trans (hT.below (by have := h1.size; omega) (fun g hg => ?_))
      rcases hg with hg | hg
      · have := HE.out.low.2
        have := HP2.out.bel.size
        omega
      · have h5 := (HIN.out d.P (.inl rfl)).1
        have h6 := HLO.out
        omega)
    have HB4 := hid (show Below w.heap.size w w4 from by
      have h := HBv4.out
      rw [hWv] at h
      exact bthen HBW.out h)
    have HBW4 := hid (show Below W.heap.size W w4 from by
      have h := HBv4.out
      rw [hWv] at h
      exact bthen HBV.out h)
    have HG4 := hid (show Blk w4 G2 62 #[.slice an.CA an.cs.length an.cc, .slice an.PA an.ps.length an.pc] from by
      have h := HBv4.out
      rw [hWv] at h
      exact (HB2.out.next HBV.out).next h)
    clear hWv
    rw [← hV]
    have hmk : ∀ w : World, (Instr.makeSlice 64 (.int .i64 (n : Int)) (.int .i64 (n : Int))).run Tryz.prog w = .ok (.slice (some ⟨w.heap.size, 0, none⟩) n n) (w.alloc (.cells (rngC n fun _ => Value.bool false) 4)) := mk_bools hn40
    obtain ⟨CN, hCN⟩ : ∃ CN, CN = rngC n fun _ => Value.bool false := ⟨_, rfl⟩
    rw [← hCN] at hmk KS0
    clear hI hE2 hT hO hl hCN
    have HV := hid (And.intro hV hn)
    clear hV hn
    go_wp2_with fail
    refine (KL.out w4 (Below.refl _ _)).mono ?_
    rintro e w5 ⟨rfl, rfl⟩
    have hb6 : Below w5.heap.size w5 (w5.alloc (.cells CN 4)) := (Below.refl _ _).alloc (Nat.le_refl _) _
    have HB6 := hid hb6
    have HU := hid (Blk.new w5 4 CN)
    clear hb6
    go_wp2_with fail
    refine (KL.out _ HB6.out).mono ?_
    rintro e w6 ⟨rfl, rfl⟩
    obtain ⟨W6, hW6⟩ : ∃ W6, W6 = w5.alloc (.cells CN 4) := ⟨_, rfl⟩
    rw [← hW6]
    rw [← hW6] at HB6 HU
    have hb7 : Below W6.heap.size W6 (W6.alloc (.cells CN 4)) := (Below.refl _ _).alloc (Nat.le_refl _) _
    have hb47 := bthen HB6.out hb7
    have HX0 := hid (KS0 _ w5.heap.size W6.heap.size hb47 (HU.out.next hb7) (Blk.new W6 4 CN) (by have := HU.out.lt; omega))
    have HB7 := hid (bthen HBW4.out hb47)
    have hG2 := HG4.out.next hb47
    clear hb47
    clear hW6 hb7
    have HCN := hid (rfl : CN = CN)
    obtain ⟨W7, hW7⟩ : ∃ W7, W7 = W6.alloc (.cells CN 4) := ⟨_, rfl⟩
    rw [← hW7] at HX0 HB7 hG2
    have HG2 := hid hG2
    rw [hW7] at hG2
    have g0 : (W6.alloc (.cells CN 4)).cell? ⟨G2, 0, none⟩ = some (.slice an.CA an.cs.length an.cc) := hG2.cell 0
    have lG2 := hG2.lt
    clear hG2
    have HW7 := hid hW7
    clear hW7
    go_wp2_with fail
    rw [← HW7.out]
    have HUS := hid (show W.heap.size ≤ w5.heap.size ∧ W.heap.size ≤ W6.heap.size from ⟨HBW4.out.size, Nat.le_trans HBW4.out.size HB6.out.size⟩)
    generalize W6.heap.size = S at HX0 HUS ⊢
    generalize w5.heap.size = U at HX0 HUS ⊢
    have HQ := hid (show W.heap.size ≤ w3.heap.size ∧ W.heap.size ≤ d.P from ⟨by
      have h1 := HBV.out.size
      have h2 := HP2.out.bel.size
      have h3 := HB3.out.size
      omega, by
      have h1 := HBV.out.size
      have h2 := HP2.out.bel.size
      have h5 := (HIN.out d.P (.inl rfl)).1
      have h6 := HLO.out
      omega⟩)
    clear g0 lG2
    go_loopw [11, 15, 16] (fun p c i wr => ∃ (k : Nat) (pd : List Eff) (PA : Option Addr) (pc : Nat) (cs : List Int) (CA : Option Addr) (cc : Nat) (un se : Nat → Bool), i = .int .i64 k ∧ p = .slice PA pd.length pc ∧ c = .slice CA cs.length cc ∧ Hid (Rd w CA (cs.flatMap en1) ∧ cs.length ≤ cc) ∧ Hid (EnX d X M w2.heap.size w3.heap.size I U S (3 * n + 2 * an.cs.length) cs.length k pd PA pc un se wr) ∧ Hid (Below W.heap.size W wr)) (fun p c i _ => 3 * n + 2 * an.cs.length + 1 - nOf i)
    case atStart => exact ⟨0, V.out, PA, pc0, an.cs, an.CA, an.cc, _, _, rfl, rfl, rfl, hid ⟨HA.out.rc, HA.out.cl⟩, HX0, HB7⟩
    case round =>
      obtain ⟨k, pd, PA2, pc2, cs, CA, cc, un, se, rfl, rfl, rfl, HCS, HX, HB⟩ := hrel
      obtain ⟨wu, hwu⟩ : ∃ wu, wu = wr := ⟨wr, rfl⟩
      subst hwu
      by_cases hpd : 0 < pd.length
      · obtain ⟨gp, hgp, hgb, hgl, hpc, hpm⟩ := HX.out.pd.some hpd
        subst hgp
        have hlc := HA.out.lc
        have hkB : k ≤ 3 * n + 2 * an.cs.length := by
          obtain ⟨ask, y, v, l, B, _, _, _, h, _⟩ := HX.out
          omega
        have g0 : wu.cell? ⟨G2, 0, none⟩ = some (.slice an.CA an.cs.length an.cc) := (HB2.out.next HB.out).cell 0
        have lG2 := (HB2.out.next HB.out).lt
        go_upto_region 13 with fail
        have e1 : IntKind.i64.wrap (10 * (an.cs.length : Int)) = 10 * (an.cs.length : Int) := IntWalk.i64_in _ ⟨by omega, by omega⟩
        have e2 : IntKind.i64.wrap ((n : Int) + 1) = (n : Int) + 1 := IntWalk.i64_in _ ⟨by omega, by omega⟩
        have e3 : IntKind.i64.wrap (100 * ((n : Int) + 1)) = 100 * ((n : Int) + 1) := IntWalk.i64_in _ ⟨by omega, by omega⟩
        have e4 : IntKind.i64.wrap (100 * ((n : Int) + 1) * 7) = 100 * ((n : Int) + 1) * 7 := IntWalk.i64_in _ ⟨by omega, by omega⟩
        have e5 : IntKind.i64.wrap (10 * (an.cs.length : Int) + 100 * ((n : Int) + 1) * 7) = 10 * (an.cs.length : Int) + 100 * ((n : Int) + 1) * 7 := IntWalk.i64_in _ ⟨by omega, by omega⟩
        have e6 : decide (10 * (an.cs.length : Int) + 100 * ((n : Int) + 1) * 7 < (k : Int)) = false := by simp; omega
        have KL2 := hid (show ∀ m, Calls Tryz.prog 17 #[.pointer (some ⟨d.P, 0, none⟩)] (wu.drewN m) fun e w'' => e = .returned (.int .i64 (n : Int)) ∧ w'' = wu.drewN m from fun m => by
          obtain ⟨ask, y, v, l, B, h, _⟩ := HX.out
          rw [HV.out.2]
          exact len_some (h.inp.p.p.next (below_drewN (Below.refl _ _) m)))
        go_quiet ((go_at_call 17; exact Calls.quiet_of_same (KL2.out _)))
        go_upto_region 16 with fail
        generalize hw1 : World.drewN wu _ = W1
        have hb1 : Below wu.heap.size wu W1 := by rw [← hw1]; exact below_drewN (Below.refl _ _) _
        have HX1 := hid (HX.out.next hb1)
        have HB1 := hid (bthen HB.out hb1)
        have g1 : W1.cell? ⟨G2, 1, none⟩ = some (.slice an.PA an.ps.length an.pc) := (HB2.out.next HB1.out).cell 1
        have lG3 := (HB2.out.next HB1.out).lt
        clear hw1 hb1 g0 lG2 HX HB e1 e2 e3 e4 e5 e6 KL2
        go_upto_if 84 with fail
        go_cut [17] (fun v wx => ∃ q : Nat, v = .int .i64 q ∧ q < pd.length ∧ wx = W1)
        case first =>
          --@1
          skip
          by_cases hkp : k < an.ps.length
          · obtain ⟨b7, o7, hA7, _, hc7⟩ := (HA.out.rp.below (bthen HBw.out HB1.out)).at_ 1 en1_len (by omega) (List.getElem?_eq_getElem hkp)
            have q7 : W1.cell? ⟨b7, o7 + k * 1, none⟩ = some (.int .i64 an.ps[k]) := hc7 0 _ rfl
            rw [Nat.mul_one] at q7
            rw [hA7] at g1
            have hlp := HA.out.lp
            have hlen0 : (pd.length : Int) ≠ 0 := by omega
            clear hc7 hA7
            generalize an.ps[k] = pk at q7
            go_wp2_with fail
            have r0 : 0 ≤ max 0 pk % (pd.length : Int) := Int.emod_nonneg _ (by omega)
            have r1 : max 0 pk % (pd.length : Int) < (pd.length : Int) := Int.emod_lt_of_pos _ (by omega)
            generalize max 0 pk % (pd.length : Int) = r at r0 r1 ⊢
            obtain ⟨q, rfl⟩ : ∃ q : Nat, r = (q : Int) := ⟨r.toNat, by omega⟩
            go_meet
            exact ⟨q, rfl, by omega, rfl⟩
          · go_wp2_with fail
            go_meet
            exact ⟨0, rfl, hpd, rfl⟩
          --@1e
        case rest =>
          obtain ⟨q, rfl, hq, hwc⟩ := hcut
          subst hwc
          obtain ⟨a, f, b, hpe, hal⟩ : ∃ a f b, pd = a ++ f :: b ∧ a.length = q := ⟨pd.take q, pd[q], pd.drop (q + 1), by rw [List.getElem_cons_drop, List.take_append_drop], by rw [List.length_take]; omega⟩
          have hfq : pd[q]? = some f := by rw [hpe, List.getElem?_append_right (by omega), hal]; simp
          obtain ⟨b6, o6, hA6, hgF, hc6⟩ := (HX1.out.pd.rd).at_ 6 enEf_len (by omega) hfq
          injection hA6 with hA6
          injection hA6 with e6 e7
          subst e6 e7
          obtain ⟨fk, fo, fs, ft, fc, fu⟩ := f
          simp only [Nat.zero_add] at hc6
          have c0 : wc.cell? ⟨gp, q * 6, none⟩ = some (.int .i64 fk) := hc6 0 _ rfl
          have c1 : wc.cell? ⟨gp, q * 6 + 1, none⟩ = some (.int .i64 fo) := hc6 1 _ rfl
          have c2 : wc.cell? ⟨gp, q * 6 + 2, none⟩ = some (.int .i64 fs) := hc6 2 _ rfl
          have c3 : wc.cell? ⟨gp, q * 6 + 3, none⟩ = some (.int .i64 ft) := hc6 3 _ rfl
          have c4 : wc.cell? ⟨gp, q * 6 + 4, none⟩ = some (.int .i64 fc) := hc6 4 _ rfl
          have c5 : wc.cell? ⟨gp, q * 6 + 5, none⟩ = some (.bool fu) := hc6 5 _ rfl
          have HPE := hid (And.intro hpe hal)
          clear hc6 hpe hal hfq
          go_upto_region 19 with fail
          obtain ⟨i0, hi0, hz0, hz1, hz2⟩ := info_parts info_eff
          have hbF : Below wc.heap.size wc (wc.alloc (.cells #[.int .i64 fk, .int .i64 fo, .int .i64 fs, .int .i64 ft, .int .i64 fc, .bool fu] 55)) := (Below.refl _ _).alloc (Nat.le_refl _) _
          have hFb := Blk.new wc 55 #[.int .i64 fk, .int .i64 fo, .int .i64 fs, .int .i64 ft, .int .i64 fc, .bool fu]
          have HXf := hid (HX1.out.next hbF)
          have HBf := hid (bthen HB1.out hbF)
          clear c0 c1 c2 c3 c4 c5 hbF g1 lG3 HX1 HB1
          generalize wc.alloc (.cells #[.int .i64 fk, .int .i64 fo, .int .i64 fs, .int .i64 ft, .int .i64 fc, .bool fu] 55) = wf at hFb HXf HBf ⊢
          generalize wc.heap.size = Fb at hFb hgF ⊢
          have HFb := hid hFb
          clear hFb
          go_cut [11] (fun v wx => ∃ (PA7 : Option Addr) (mn cap7 : Nat), v = .slice PA7 mn cap7 ∧ Hid (mn = (a ++ b).length) ∧ Hid (EnM 0 d X M w2.heap.size w3.heap.size I U S (3 * n + 2 * an.cs.length) cs.length k a ⟨fk, fo, fs, ft, fc, fu⟩ b PA7 cap7 un se un se wx) ∧ Hid (Blk wx Fb 55 #[.int .i64 fk, .int .i64 fo, .int .i64 fs, .int .i64 ft, .int .i64 fc, .bool fu]) ∧ Hid (Below W.heap.size W wx))
          case first =>
            --@2
            skip
            have hd : Below wf.heap.size wf wf.drew := (Below.refl _ _).drew
            have hsz : wf.drew.heap.size = wf.heap.size := rfl
            have hlo := HXf.out.lo
            have hrow := CutR.take (HXf.out.pd.next hd) (k := q) (by omega) (by simp)
            have hab : pd.flatMap enEf = a.flatMap enEf ++ (enEf ⟨fk, fo, fs, ft, fc, fu⟩ ++ b.flatMap enEf) := by rw [HPE.out.1, List.flatMap_append, List.flatMap_cons]
            have hla : (a.flatMap enEf).length = q * 6 := by rw [← HPE.out.2]; exact length_flatMap_const enEf 6 enEf_len a
            have hpl : pd.length = q + (b.length + 1) := by rw [HPE.out.1, List.length_append, List.length_cons, HPE.out.2]
            have hlb : (b.flatMap enEf).length = (pd.length - (q + 1)) * 6 := by
              rw [length_flatMap_const enEf 6 enEf_len b, hpl]
              congr 1
              omega
            have hal : (a ++ b).length = q + (pd.length - (q + 1)) := by rw [List.length_append, HPE.out.2, hpl]; omega
            have h80 := HXf.out.dl HF.out
            rw [hab, List.take_append_of_le_length (by omega), List.take_of_length_le (by omega)] at hrow
            have HROW := hid hrow
            have hRb : Rd wf.drew (some ⟨gp, (q + 1) * 6, none⟩) (b.flatMap enEf) := by
              rcases (HXf.out.pd.next hd).rd with h0 | ⟨b9, o9, h9, h8, h7⟩
              · rw [hab] at h0
                simp [enEf] at h0
              · injection h9 with h9
                injection h9 with e8 e9
                subst e8 e9
                refine .inr ⟨gp, _, rfl, h8, fun j u hu => ?_⟩
                have := h7 (q * 6 + (6 + j)) u (by
                  rw [hab, List.getElem?_append_right (by omega), hla, List.getElem?_append_right (by simp [enEf])]
                  simp only [enEf, List.length_cons, List.length_nil]
                  rw [← hu]
                  congr 1
                  omega)
                rw [← this]
                congr 1
                simp only [Addr.mk.injEq, and_true, true_and]
                omega
            have h1b : ∀ u ∈ b.flatMap enEf, u.oneCell' = true := fun u hu => by
              obtain ⟨z, _, hz⟩ := List.mem_flatMap.1 hu
              exact enEf_one z u hz
            have hRb0 : pc2 = q + 1 → Rd wf.drew (some ⟨gp, 0, none⟩) (b.flatMap enEf) := fun h => .inl (List.eq_nil_of_length_eq_zero (by rw [hlb]; omega))
            have e1 : IntKind.i64.wrap ((q : Int) + 1) = (((q + 1 : Nat)) : Int) := IntWalk.i64_in _ ⟨by omega, by omega⟩
            have hqp : q ≤ pc2 := by omega
            have hqp1 : q + 1 ≤ pc2 := by omega
            have hqp2 : q + 1 ≤ pd.length := by omega
            have hA1 : (q : Int) ≤ (q : Int) + 1 := by omega
            have hA2 : 0 ≤ (q : Int) + 1 := by omega
            have hA3 : (q : Int) + 1 ≤ (pd.length : Int) := by omega
            have HFI := hid (show ∀ (A7 : Option Addr) (cap7 : Nat) (w7 : World), CutR w7 w3.heap.size 55 6 A7 (q + (pd.length - (q + 1))) cap7 (a.flatMap enEf ++ b.flatMap enEf) → wf.drew.grownBy w7 (some gp) → Hid (EnM 0 d X M w2.heap.size w3.heap.size I U S (3 * n + 2 * an.cs.length) cs.length k a ⟨fk, fo, fs, ft, fc, fu⟩ b A7 cap7 un se un se w7) ∧ Hid (Blk w7 Fb 55 #[.int .i64 fk, .int .i64 fo, .int .i64 fs, .int .i64 ft, .int .i64 fc, .bool fu]) ∧ Hid (Below W.heap.size W w7) from fun A7 cap7 w7 h1 h2 => by
              have hX := HXf.out.next hd
              rw [HPE.out.1] at hX
              refine ⟨hid (hX.take h2 (by rw [hal, List.flatMap_append]; exact h1)), hid ((HFb.out.next hd).grown h2 (fun e => ?_)), hid ((bthen HBf.out hd).grown h2 ?_ ?_)⟩
              · injection e with e
                omega
              · have := HBf.out.size; rw [hsz]; exact this
              · intro k hk
                injection hk with hk
                have := HQ.out.1
                omega)
            have HAL := hid hal
            clear hd hab hla hal hpl
            by_cases hpq : pc2 = q + 1
            · have hRb1 := hRb0 hpq
              subst hpq
              have hq9 : (pd.length - (q + 1)) = 0 := by omega
              rw [hq9] at hlb HFI
              have HP9 := hid hq9
              have hb0 : b = [] := List.eq_nil_of_length_eq_zero (by
                have := HAL.out
                have h2 := HPE.out.2
                rw [List.length_append, hq9] at this
                omega)
              have HZ := hid (HFI.out (some ⟨gp, 0, none⟩) q wf.drew (by rw [hb0, List.flatMap_nil, List.append_nil]; exact HROW.out) (grown_self _ _))
              clear hRb0 hRb hRb1 hb0 hlb
              go_region_law (fail)
              all_goals
                clear HFI HROW
                go_wp2_with fail
                go_meet
                exact ⟨some ⟨gp, 0, none⟩, _, q, rfl, hid (by rw [HAL.out, HP9.out]; rfl), HZ.out⟩
            · obtain ⟨C, hCd⟩ : ∃ C : World → Prop, ∀ w', C w' ↔ w' = wf.drew := ⟨_, fun _ => Iff.rfl⟩
              have HCd := hid hCd
              have hC : C wf.drew := (hCd _).2 rfl
              clear hCd
              obtain ⟨A7, cap7, w7, hrun, hO7, hg7, _⟩ := run_append_cut (P := Tryz.prog) wf.drew w3.heap.size 46 46 55 i0 _ 6 48 Tryz.underlying46 hi0 hz0 hz1 hz2 rfl (by decide) (c2 := pc2 - (q + 1)) HROW.out hlb hRb h1b (by unfold maxLen; omega) (by omega) (by omega)
              have HZ := hid (HFI.out A7 cap7 w7 hO7 hg7)
              have HRUN := hid hrun
              clear hO7 hg7 hRb hRb0 HFI HROW hlb hrun
              refine wp_region_in_tail C 8 (by kernel_rfl) (by kernel_rfl) hC ?_
              intro hne
              clear hC
              refine wpIn_quiet ?_
              simp only [List.take_succ_cons, List.take_zero, List.drop_succ_cons, List.drop_zero]
              repeat (first | go_big_quiet_step (fail) | quiet_step (fail))
              refine wpQuiet_nil ?_
              intro wq hwq
              obtain rfl := (HCd.out _).1 hwq
              clear hne hwq
              have hrun := HRUN.out
              go_wp2_with ((at_builtin; refine wpList_append_run _ (by rfl) _ _ 46 (by rfl) hrun (by rfl) (by rfl) ?_))
              go_meet
              exact ⟨A7, _, cap7, rfl, hid HAL.out.symm, HZ.out⟩
            --@2e
          case rest =>
            obtain ⟨PA7, mn, cap7, rfl, HMN, HM, HF7, HB7'⟩ := hcut
            clear HXf HBf HFb hgF
            have lF := HF7.out.lt
            have f0 : wc.cell? ⟨Fb, 0, none⟩ = some (.int .i64 fk) := HF7.out.cell 0
            go_upto_block 2 with fail
            have hB0 : 3 * n + 2 * an.cs.length ≤ 100000000000000 := by omega
            obtain ⟨⟨q1, hfs, hq1⟩, hkd⟩ := HM.out.rng
            simp only at hfs hkd
            subst hfs
            clear f0
            go_cut [19, 15] (fun v cv wx => ∃ (OA : Option Addr) (fn oc : Nat) (fz : List Eff) (CA' : Option Addr) (cc' : Nat) (cs' : List Int) (un' se' : Nat → Bool), v = .slice OA fn oc ∧ cv = .slice CA' cs'.length cc' ∧ Hid (fn = fz.length) ∧ Hid (Rd w CA' (cs'.flatMap en1) ∧ cs'.length ≤ cc') ∧ Hid (EnA 2000 d X M w2.heap.size w3.heap.size I U S (3 * n + 2 * an.cs.length) cs'.length (k + 1) (a ++ b) fz OA PA7 oc cap7 un' se' wx) ∧ Hid (Below W.heap.size W wx))
            case first =>
              have f0 : wc.cell? ⟨Fb, 0, none⟩ = some (.int .i64 fk) := HF7.out.cell 0
              have f2 : wc.cell? ⟨Fb, 2, none⟩ = some (.int .i64 q1) := HF7.out.cell 2
              cases t2 : (fk == 2) with
              | true =>
                have hk2 : fk = 2 := by simpa using t2
                have KFI := hid (HM.out.fire (by omega) HF.out hB0 hk2)
                clear hk2 hkd
                go_wp2_with fail
                refine KFI.out.mono ?_
                rintro e w8 ⟨OA, oc, fz, co, rfl, hA8, hbl⟩
                have HZ := hid (And.intro hA8 (hbl _ _ HQ.out.1 HQ.out.2 HB7'.out))
                clear KFI hA8 hbl f0 f2
                obtain ⟨fn, hfn⟩ : ∃ fn, fn = fz.length := ⟨_, rfl⟩
                rw [← hfn]
                have HFN := hid hfn
                clear hfn
                go_wp2_with fail
                go_meet
                exact ⟨OA, fn, oc, fz, CA, cc, cs, un, se, rfl, rfl, HFN, HCS, hid HZ.out.1, hid HZ.out.2⟩
              | false =>
                cases t1 : (fk == 1) with
                | false =>
                  have hk3 : fk = 3 := by
                    have h1 : fk ≠ 1 := by simpa using t1
                    have h2 : fk ≠ 2 := by simpa using t2
                    omega
                  have HZ := hid (HM.out.drop (by omega) hk3)
                  clear hk3 hkd
                  go_wp2_with fail
                  go_meet
                  exact ⟨none, 0, 0, [], CA, cc, cs, un, se, rfl, rfl, hid rfl, HCS, hid HZ.out, HB7'⟩
                | true =>
                  have hk1 : fk = 1 := by simpa using t1
                  have HK1 := hid hk1
                  have f3 : wc.cell? ⟨Fb, 3, none⟩ = some (.int .i64 ft) := HF7.out.cell 3
                  have f5 : wc.cell? ⟨Fb, 5, none⟩ = some (.bool fu) := HF7.out.cell 5
                  clear hk1 hkd
                  cases fu with
                  | false =>
                    --@3
                    skip
                    go_upto_region 26 with fail
                    go_upto_if 127 with fail
                    go_cut [20, 15] (fun v cv wx => ∃ (code : Int) (CA' : Option Addr) (cc' : Nat) (cs' : List Int), v = .int .i64 code ∧ cv = .slice CA' cs'.length cc' ∧ Hid (Rd w CA' (cs'.flatMap en1) ∧ cs'.length ≤ cc') ∧ Hid (cs'.length ≤ cs.length ∧ (code ≠ 0 → cs'.length + 1 ≤ cs.length)) ∧ Hid (Below wc.heap.size wc wx))
                    case first =>
                      cases cs with
                      | nil =>
                        go_wp2_with fail
                        go_meet
                        exact ⟨0, CA, cc, [], rfl, rfl, HCS, hid ⟨Nat.le_refl _, fun h => absurd rfl h⟩, hid (Below.refl _ _)⟩
                      | cons c0 cs0 =>
                        have hRc := HCS.out.1.below (bthen HBw.out HB7'.out)
                        obtain ⟨b8, o8, hA8, hl8, hc8⟩ := hRc.at_ 1 en1_len (by omega) (show (c0 :: cs0)[0]? = some c0 from rfl)
                        have r0 : wc.cell? ⟨b8, o8, none⟩ = some (.int .i64 c0) := by
                          have := hc8 0 _ rfl
                          rwa [Nat.zero_mul, Nat.add_zero] at this
                        subst hA8
                        have HNX := hid (show ∀ (A9 : Option Addr), (cs0.length = 0 ∨ A9 = some ⟨b8, o8 + 1, none⟩) → Rd w A9 (cs0.flatMap en1) from fun A9 h9 => by
                          rcases h9 with h9 | h9
                          · rw [List.eq_nil_of_length_eq_zero h9]
                            exact .inl rfl
                          · subst h9
                            rcases HCS.out.1 with h0 | ⟨b', o', h3, h4, h5⟩
                            · simp [en1] at h0
                            · injection h3 with h3
                              injection h3 with h6 h7
                              subst h6 h7
                              refine .inr ⟨b8, _, rfl, h4, fun j u hu => ?_⟩
                              have := h5 (1 + j) u (by
                                rw [List.flatMap_cons, List.getElem?_append_right (by simp [en1])]
                                simpa [en1] using hu)
                              rw [← this]
                              congr 1
                              simp only [Addr.mk.injEq, and_true, true_and]
                              omega)
                        rw [List.length_cons]
                        obtain ⟨cl, hcl⟩ : ∃ cl, cl = cs0.length := ⟨_, rfl⟩
                        rw [← hcl]
                        have HCL := hid hcl
                        have hz1 : (1 : Nat) ≤ cl + 1 := by omega
                        have HLE := hid (show cs0.length ≤ (c0 :: cs0).length ∧ (c0 ≠ 0 → cs0.length + 1 ≤ (c0 :: cs0).length) from ⟨by simp, fun _ => by simp⟩)
                        clear hc8 hl8 hRc hcl
                        have hlc : cl + 1 ≤ cc := by rw [HCL.out]; exact HCS.out.2
                        have hcz : cl ≤ cc - 1 := by omega
                        have HCZ := hid (show cs0.length ≤ cc - 1 from by rw [← HCL.out]; exact hcz)
                        by_cases hcc : cc = 1
                        · have HC0 := hid (show cs0.length = 0 from by rw [← HCL.out]; omega)
                          go_upto_region 27 with fail
                          go_quiet (fail)
                          generalize hwd : World.drewN wc _ = wd
                          have HBD := hid (show Below wc.heap.size wc wd from by rw [← hwd]; exact below_drewN (Below.refl _ _) _)
                          clear hwd
                          go_wp2_with fail
                          go_meet
                          exact ⟨c0, _, _, cs0, rfl, by rw [← HCL.out], hid ⟨HNX.out _ (.inl HC0.out), by rw [HC0.out]; exact Nat.zero_le _⟩, HLE, HBD⟩
                        · go_upto_region 27 with fail
                          go_quiet (fail)
                          generalize hwd : World.drewN wc _ = wd
                          have HBD := hid (show Below wc.heap.size wc wd from by rw [← hwd]; exact below_drewN (Below.refl _ _) _)
                          clear hwd
                          go_wp2_with fail
                          go_meet
                          exact ⟨c0, _, _, cs0, rfl, by rw [← HCL.out], hid ⟨HNX.out _ (.inr rfl), HCZ.out⟩, HLE, HBD⟩
                    case rest =>
                      obtain ⟨code, CA', cc', cs', rfl, rfl, HCS', HLC, HBC⟩ := hcut
                      have HM1 := hid (HM.out.next HBC.out)
                      have HF1 := hid (HF7.out.next HBC.out)
                      have HB1c := hid (bthen HB7'.out HBC.out)
                      have f2 : wc.cell? ⟨Fb, 2, none⟩ = some (.int .i64 q1) := HF1.out.cell 2
                      have f3 : wc.cell? ⟨Fb, 3, none⟩ = some (.int .i64 ft) := HF1.out.cell 3
                      have f5 : wc.cell? ⟨Fb, 5, none⟩ = some (.bool false) := HF1.out.cell 5
                      have lF := HF1.out.lt
                      obtain ⟨s0, s1, s2⟩ := HM1.out.cs hq1
                      have hqn : q1 < n := by rw [HV.out.2]; exact hq1
                      have HM2 := hid (HM1.out.setS hq1)
                      have HF2 := hid (HF1.out.far (p := ⟨S, q1, none⟩) (HM1.out.ne HF1.out).2 (.bool true))
                      have HB2c := hid (HB1c.out.setCell (p := ⟨S, q1, none⟩) HUS.out.2 (.bool true))
                      clear HM HF7 HB7' HM1 HF1 HB1c HBC
                      go_upto_region 41 with fail
                      generalize wc.setCell ⟨S, q1, none⟩ (.bool true) = ws at HM2 HF2 HB2c ⊢
                      clear f2 f3 f5 lF s0 s1 s2
                      have f2 : ws.cell? ⟨Fb, 2, none⟩ = some (.int .i64 q1) := HF2.out.cell 2
                      have f3 : ws.cell? ⟨Fb, 3, none⟩ = some (.int .i64 ft) := HF2.out.cell 3
                      have f5 : ws.cell? ⟨Fb, 5, none⟩ = some (.bool false) := HF2.out.cell 5
                      have lF := HF2.out.lt
                      have KR := hid (HM2.out.reply (by omega) HF.out hB0 HK1.out rfl rfl rfl code HLC.out.1 HLC.out.2)
                      go_wp2_with fail
                      refine KR.out.mono ?_
                      rintro e w8 ⟨OA, oc, fz, co, rfl, hA8, hbl⟩
                      have HZ := hid (And.intro hA8 (hbl _ _ HQ.out.1 HQ.out.2 HB2c.out))
                      clear KR hA8 hbl f2 f3 f5 lF
                      obtain ⟨fn, hfn⟩ : ∃ fn, fn = fz.length := ⟨_, rfl⟩
                      rw [← hfn]
                      have HFN := hid hfn
                      clear hfn
                      go_wp2_with fail
                      go_meet
                      exact ⟨OA, fn, oc, fz, CA', cc', cs', un, _, rfl, rfl, HFN, HCS', hid HZ.out.1, hid HZ.out.2⟩
                    --@3e
                  | true =>
                    --@4
                    as_aux_lemma =>
                      have KB := hid (HM.out.behind (by omega) hB0 (q1 : Int))
                      go_upto_region 29 with fail
                      go_wp2_with fail
                      refine KB.out.mono ?_
                      rintro e wb ⟨BA, bc, rfl, hBR, hM2, hbk, hbl⟩
                      have HBR := hid hBR
                      have HM2 := hid hM2
                      have HF2 := hid (hbk _ _ HF7.out)
                      have HB2b := hid (hbl _ _ HQ.out.1 HQ.out.2 HB7'.out)
                      clear KB hBR hM2 hbk hbl HM HF7 HB7' f0 f2 f3 f5 lF
                      obtain ⟨xs, hxs⟩ : ∃ xs, xs = behL d.Bs d.Ls.length (q1 : Int) := ⟨_, rfl⟩
                      rw [← hxs] at HBR ⊢
                      have HXS := hid hxs
                      have hxl : xs.length ≤ 40 := by rw [hxs]; exact HM2.out.bl HF.out hq1
                      clear hxs
                      go_wp2_with fail
                      go_loopw [140] (fun i wr => ∃ j : Nat, j ≤ xs.length ∧ i = .int .i64 j ∧ Hid (Below wb.heap.size wb wr)) (fun i _ => xs.length - nOf i)
                      case atStart => exact ⟨0, Nat.zero_le _, rfl, hid (Below.refl _ _)⟩
                      case round =>
                        obtain ⟨j, hj, rfl, HBr⟩ := hrel
                        by_cases hjl : j < xs.length
                        · obtain ⟨x5, hx5⟩ : ∃ x5, xs[j]? = some x5 := ⟨xs[j], List.getElem?_eq_getElem hjl⟩
                          obtain ⟨q5, rfl, hq5, hq5l⟩ := beh_gt (topo_plf HF.out) (by rw [← HXS.out]; exact List.mem_of_getElem? hx5)
                          obtain ⟨b5, o5, hA5, _, hc5⟩ := (HBR.out.below HBr.out).at_ 1 en1_len (by omega) hx5
                          have r0 : wr.cell? ⟨b5, o5 + j * 1, none⟩ = some (.int .i64 q5) := hc5 0 _ rfl
                          rw [Nat.mul_one] at r0
                          have HM3 := hid (HM2.out.next HBr.out)
                          have HMEM := hid (show (q5 : Int) ∈ behL d.Bs d.Ls.length (q1 : Int) from by rw [← HXS.out]; exact List.mem_of_getElem? hx5)
                          obtain ⟨s0, _, s2⟩ := HM3.out.cs hq5l
                          obtain ⟨v0, _, v2⟩ := HM3.out.cu hq5l
                          have hqn : q5 < n := by rw [HV.out.2]; exact hq5l
                          obtain ⟨t, ht⟩ : ∃ t, d.Ls[q5]? = some t := ⟨_, List.getElem?_eq_getElem hq5l⟩
                          have KST := hid (HM3.out.step ht)
                          have KG := hid (fun w' (hb : Below wr.heap.size wr w') => (HM3.out.next hb).get HK1.out rfl rfl)
                          rw [hA5]
                          clear hc5 hA5 hx5 ht
                          cases hse : se q5 with
                          | false =>
                            rw [hse] at s0
                            go_wp2_with fail
                            go_roundw
                            case rel => exact ⟨j + 1, by omega, by go_num, HBr⟩
                            case measure => simp [nOf]; omega
                          | true =>
                            rw [hse] at s0
                            have HSE := hid hse
                            clear hse
                            go_wp2_with fail
                            refine KST.out.mono ?_
                            rintro e ws ⟨A6, c6, rfl, _, hb6⟩
                            obtain ⟨xn, xv, xu, xe, xf, xr, xy, xw, xA, xc, xl⟩ := t
                            rw [show (enSt (twn ⟨xn, xv, xu, xe, xf, xr, xy, xw, xA, xc, xl⟩ A6 c6)).toArray = #[.string xn, .string xv, .string xu, .string xe, .bool xf, .int .i64 xr, .int .i64 xy, .int .i64 xw, .slice A6 xl.length c6] from rfl]
                            have hfd := fieldE13 (.string xn) (.string xv) (.string xu) (.string xe) (.bool xf) (.int .i64 xr) (.int .i64 xy) (.int .i64 xw) (.slice A6 xl.length c6)
                            have HB6 := hid hb6
                            obtain ⟨v0, _, v2⟩ := (HM3.out.next hb6).cu hq5l
                            clear KST hb6 r0 s0 s2
                            cases hem : xe.toList.isEmpty with
                            | false =>
                              go_wp2_with fail
                              go_roundw
                              case rel => exact ⟨j + 1, by omega, by go_num, hid (bthen HBr.out HB6.out)⟩
                              case measure => simp [nOf]; omega
                            | true =>
                              cases hun : un q5 with
                              | true =>
                                rw [hun] at v0
                                go_wp2_with fail
                                go_roundw
                                case rel => exact ⟨j + 1, by omega, by go_num, hid (bthen HBr.out HB6.out)⟩
                                case measure => simp [nOf]; omega
                              | false =>
                                rw [hun] at v0
                                have KG2 := hid (KG.out ws HB6.out)
                                clear KG
                                go_wp2_with fail
                                refine KG2.out.mono ?_
                                rintro e w6 ⟨MA, mc, TA, tc, ov, sv, pv, ms, tn, gv, rfl, hRm, hml, hm5, hb7⟩
                                obtain ⟨b7, o7, hA7, _, hc7⟩ := hRm.at_ 1 en1_len (by omega) (hm5 q5 HMEM.out HSE.out)
                                have m0 : w6.cell? ⟨b7, o7 + q5 * 1, none⟩ = some (.int .i64 5) := hc7 0 _ rfl
                                rw [Nat.mul_one] at m0
                                subst hA7
                                have hqm : q5 < ms.length := by omega
                                have HB7s := hid hb7
                                have HB8s := hid (show Below w6.heap.size w6 (w6.alloc (.cells #[.int .i64 ov, .int .i64 sv, .bool pv, .slice (some ⟨b7, o7, none⟩) ms.length mc, .slice TA tn tc] 40)) from (Below.refl _ _).alloc (Nat.le_refl _) _)
                                clear KG2 hc7 hRm hml hm5 hb7 v0 v2
                                go_wp2_with fail
                                go_roundw
                                case rel => exact ⟨j + 1, by omega, by go_num, hid (bthen (bthen (bthen HBr.out HB6.out) HB7s.out) HB8s.out)⟩
                                case measure => simp [nOf]; omega
                        · have HM3 := hid (HM2.out.next HBr.out)
                          have HF3 := hid (HF2.out.next HBr.out)
                          have HB3r := hid (bthen HB2b.out HBr.out)
                          have f2 : wr.cell? ⟨Fb, 2, none⟩ = some (.int .i64 q1) := HF3.out.cell 2
                          have lF := HF3.out.lt
                          obtain ⟨v0, v1, v2⟩ := HM3.out.cu hq1
                          have hun := HM3.out.und HK1.out rfl rfl
                          rw [hun] at v0
                          have hqn : q1 < n := by rw [HV.out.2]; exact hq1
                          clear hun HM2 HF2 HB2b HBr
                          go_upto_region 40 with fail
                          have HM4 := hid (HM3.out.setU hq1)
                          have HF4 := hid (HF3.out.far (p := ⟨U, q1, none⟩) (HM3.out.ne HF3.out).1 (.bool true))
                          have HB4r := hid (HB3r.out.setCell (p := ⟨U, q1, none⟩) HUS.out.1 (.bool true))
                          clear f2 lF v0 v1 v2 HM3 HF3 HB3r
                          generalize wr.setCell ⟨U, q1, none⟩ (.bool true) = wv at HM4 HF4 HB4r ⊢
                          have f2 : wv.cell? ⟨Fb, 2, none⟩ = some (.int .i64 q1) := HF4.out.cell 2
                          have lF := HF4.out.lt
                          obtain ⟨s0, s1, s2⟩ := HM4.out.cs hq1
                          go_upto_region 41 with fail
                          have HM5 := hid (HM4.out.setS hq1)
                          have HF5 := hid (HF4.out.far (p := ⟨S, q1, none⟩) (HM4.out.ne HF4.out).2 (.bool true))
                          have HB5r := hid (HB4r.out.setCell (p := ⟨S, q1, none⟩) HUS.out.2 (.bool true))
                          clear f2 lF s0 s1 s2 HM4 HF4 HB4r
                          generalize wv.setCell ⟨S, q1, none⟩ (.bool true) = ws at HM5 HF5 HB5r ⊢
                          have f2 : ws.cell? ⟨Fb, 2, none⟩ = some (.int .i64 q1) := HF5.out.cell 2
                          have f3 : ws.cell? ⟨Fb, 3, none⟩ = some (.int .i64 ft) := HF5.out.cell 3
                          have f5 : ws.cell? ⟨Fb, 5, none⟩ = some (.bool true) := HF5.out.cell 5
                          have lF := HF5.out.lt
                          have KR := hid (HM5.out.undo (by omega) HF.out hB0 HK1.out rfl rfl rfl rfl 0)
                          go_wp2_with fail
                          refine KR.out.mono ?_
                          rintro e w8 ⟨OA, oc, fz, co, rfl, hA8, hbl⟩
                          have HZ := hid (And.intro hA8 (hbl _ _ HQ.out.1 HQ.out.2 HB5r.out))
                          clear KR hA8 hbl f2 f3 f5 lF
                          obtain ⟨fn, hfn⟩ : ∃ fn, fn = fz.length := ⟨_, rfl⟩
                          rw [← hfn]
                          have HFN := hid hfn
                          clear hfn
                          go_wp2_with fail
                          go_meet
                          exact ⟨OA, fn, oc, fz, CA, cc, cs, _, _, rfl, rfl, HFN, HCS, hid HZ.out.1, hid HZ.out.2⟩
                    --@4e
            case rest =>
              --@5
              as_aux_lemma =>
                obtain ⟨OA, fn, oc, fz, CA', cc', cs', un', se', rfl, rfl, HFN, HCS', HA8, HB8⟩ := hcut
                obtain ⟨i0, hi0, hz0, hz1, hz2⟩ := info_parts info_eff
                have h80 := HA8.out.dl HF.out
                have hmn := HMN.out
                have hfn := HFN.out
                have hlo := HA8.out.lo
                have hpd8 := HA8.out.pd
                rw [← hmn] at hpd8 h80
                rw [← hfn] at h80
                have h1b : ∀ u ∈ fz.flatMap enEf, u.oneCell' = true := fun u hu => by
                  obtain ⟨z, _, hz⟩ := List.mem_flatMap.1 hu
                  exact enEf_one z u hz
                obtain ⟨PA8, cap8, w8, hrun, hO8, hg8, _⟩ := run_append_cut (P := Tryz.prog) wc w3.heap.size 46 46 55 i0 _ 6 48 Tryz.underlying46 hi0 hz0 hz1 hz2 rfl (by decide) (m := fn) (c2 := oc) hpd8 (by rw [hfn]; exact length_flatMap_const enEf 6 enEf_len fz) HA8.out.rd h1b (by unfold maxLen; omega) (by omega) hlo
                have HJ := hid (HA8.out.join hg8 (PA' := PA8) (pc' := cap8) (by rw [List.length_append, ← hmn, ← hfn, List.flatMap_append]; exact hO8))
                have HBj := hid (show Below W.heap.size W w8 from HB8.out.grown hg8 HB8.out.size (fun g hg => by
                  have h1 := HQ.out.1
                  obtain ⟨c9, _, h9⟩ := hpd8
                  have := (h9.lt g (by cases hPA : PA7 with | none => rw [hPA] at hg; cases hg | some z => rw [hPA] at hg; exact hg)).1
                  omega))
                obtain ⟨pd8, hpd9⟩ : ∃ pd8, pd8 = a ++ b ++ fz := ⟨_, rfl⟩
                obtain ⟨m8, hm8⟩ : ∃ m8, m8 = mn + fn := ⟨_, rfl⟩
                have HM8 := hid (show pd8.length = m8 from by rw [hpd9, hm8, List.length_append, ← hmn, ← hfn])
                rw [← hpd9] at HJ
                rw [← hm8] at hrun
                clear h80 hmn hfn hlo hpd8 h1b hO8 hg8 hpd9 hm8 hi0 hz0 hz1 hz2
                go_upto_region 43 with ((at_builtin; refine wpList_append_run _ (by rfl) _ _ 46 (by rfl) hrun (by rfl) (by rfl) ?_))
                clear hrun HA8 HB8
                cases hkc : ((k : Int) == cn) with
                | false =>
                  go_wp2_with fail
                  go_roundw
                  case rel => exact ⟨k + 1, pd8, PA8, cap8, cs', CA', cc', un', se', by go_num, by rw [HM8.out], rfl, HCS', hid (HJ.out.x (by omega)), HBj⟩
                  case measure => simp [nOf]; omega
                | true =>
                  have KC := hid (HJ.out.cancel HF.out hB0)
                  go_wp2_with fail
                  refine KC.out.mono ?_
                  rintro e w9 ⟨OA2, oc2, fz2, co2, rfl, hA9, hbl9⟩
                  have HA9 := hid hA9
                  have HB9 := hid (hbl9 _ _ HQ.out.1 HQ.out.2 HBj.out)
                  clear KC hA9 hbl9 HJ HBj
                  obtain ⟨i0, hi0, hz0, hz1, hz2⟩ := info_parts info_eff
                  have h80 := HA9.out.dl HF.out
                  have hmn := HM8.out
                  obtain ⟨fn2, hfn2⟩ : ∃ fn2, fn2 = fz2.length := ⟨_, rfl⟩
                  rw [← hfn2]
                  have hlo := HA9.out.lo
                  have hpd8 := HA9.out.pd
                  rw [hmn] at hpd8 h80
                  rw [← hfn2] at h80
                  have h1b : ∀ u ∈ fz2.flatMap enEf, u.oneCell' = true := fun u hu => by
                    obtain ⟨z, _, hz⟩ := List.mem_flatMap.1 hu
                    exact enEf_one z u hz
                  obtain ⟨PA9, cap9, w10, hrun, hO9, hg9, _⟩ := run_append_cut (P := Tryz.prog) w9 w3.heap.size 46 46 55 i0 _ 6 48 Tryz.underlying46 hi0 hz0 hz1 hz2 rfl (by decide) (m := fn2) (c2 := oc2) hpd8 (by rw [hfn2]; exact length_flatMap_const enEf 6 enEf_len fz2) HA9.out.rd h1b (by unfold maxLen; omega) (by omega) hlo
                  have HJ9 := hid (HA9.out.join hg9 (PA' := PA9) (pc' := cap9) (by rw [List.length_append, hmn, ← hfn2, List.flatMap_append]; exact hO9))
                  have HBj9 := hid (show Below W.heap.size W w10 from HB9.out.grown hg9 HB9.out.size (fun g hg => by
                    have h1 := HQ.out.1
                    obtain ⟨c9, _, h9⟩ := hpd8
                    have := (h9.lt g (by cases hPA : PA8 with | none => rw [hPA] at hg; cases hg | some z => rw [hPA] at hg; exact hg)).1
                    omega))
                  obtain ⟨pd9, hpd9⟩ : ∃ pd9, pd9 = pd8 ++ fz2 := ⟨_, rfl⟩
                  obtain ⟨m9, hm9⟩ : ∃ m9, m9 = m8 + fn2 := ⟨_, rfl⟩
                  have HM9 := hid (show pd9.length = m9 from by rw [hpd9, hm9, List.length_append, hmn, ← hfn2])
                  rw [← hpd9] at HJ9
                  rw [← hm9] at hrun
                  clear h80 hmn hfn2 hlo hpd8 h1b hO9 hg9 hpd9 hm9 hi0 hz0 hz1 hz2
                  go_upto_region 45 with fail
                  go_wp2_with ((at_builtin; refine wpList_append_run _ (by rfl) _ _ 46 (by rfl) hrun (by rfl) (by rfl) ?_))
                  go_roundw
                  case rel => exact ⟨k + 1, pd9, PA9, cap9, cs', CA', cc', un', se', by go_num, by rw [HM9.out], rfl, HCS', hid (HJ9.out.x (by omega)), HBj9⟩
                  case measure => simp [nOf]; omega
              --@5e
      · --@6
        as_aux_lemma =>
          obtain rfl : pd = [] := List.eq_nil_of_length_eq_zero (by omega)
          have KG := hid (HX.out.fin HF.out)
          have KL := hid (fun w' (hb : Below wu.heap.size wu w') => (HX.out.next hb).live HF.out)
          have HCU := hid (fun w' (hb : Below wu.heap.size wu w') q (hq : q < d.Ls.length) => (HX.out.next hb).cu hq)
          go_wp2_with fail
          refine KG.out.mono ?_
          rintro e w6 ⟨MA, mc, TA, tc, sv, ms, tn, gv, rfl, hR, hl, hor, hb⟩
          have HR6 := hid hR
          have HL6 := hid hl
          have HOR := hid hor
          have HB6' := hid hb
          obtain ⟨Z, hZ⟩ : ∃ Z, Z = (#[.int .i64 1, .int .i64 sv, .bool false, .slice MA ms.length mc, .slice TA tn tc] : Array Value) := ⟨_, rfl⟩
          have hG6 := Blk.new w6 40 #[.int .i64 1, .int .i64 sv, .bool false, .slice MA ms.length mc, .slice TA tn tc]
          have HB7s := hid (show Below w6.heap.size w6 (w6.alloc (.cells #[.int .i64 1, .int .i64 sv, .bool false, .slice MA ms.length mc, .slice TA tn tc] 40)) from (Below.refl _ _).alloc (Nat.le_refl _) _)
          have HG6 := hid hG6
          clear hG6 hR hl hor hb KG hZ Z
          go_upto_region 47 with fail
          generalize w6.alloc (.cells #[.int .i64 1, .int .i64 sv, .bool false, .slice MA ms.length mc, .slice TA tn tc] 40) = w7 at HB7s HG6 ⊢
          have hG7 := HG6.out
          generalize w6.heap.size = G7 at hG7 ⊢
          have HG7 := hid hG7
          have HB7 := hid (bthen HB6'.out HB7s.out)
          have HR7 := hid (HR6.out.below HB7s.out)
          have HBf := hid (bthen HBw.out (bthen HB.out HB7.out))
          have x3 : w7.cell? ⟨G7, 3, none⟩ = some (.slice MA ms.length mc) := hG7.cell 3
          have lG7 := hG7.lt
          have hms : ms.length ≤ 40 := by
            have h1 := HL6.out
            have h2 := HF.out.n40
            omega
          clear hG7 HG6 HR6 HB7s HB6'
          go_wp2_with fail
          clear x3 lG7
          go_loopw [223] (fun i wr => ∃ j : Nat, j ≤ ms.length ∧ i = .int .i64 j ∧ Hid (Below w7.heap.size w7 wr)) (fun i _ => ms.length - nOf i)
          case atStart => exact ⟨0, Nat.zero_le _, rfl, hid (Below.refl _ _)⟩
          case round =>
            obtain ⟨j, hj, rfl, HBr⟩ := hrel
            have x1 : wr.cell? ⟨G7, 1, none⟩ = some (.int .i64 sv) := (HG7.out.next HBr.out).cell 1
            have lG7 := (HG7.out.next HBr.out).lt
            by_cases hjl : j < ms.length
            · obtain ⟨m, hm⟩ : ∃ m, ms[j]? = some m := ⟨ms[j], List.getElem?_eq_getElem hjl⟩
              obtain ⟨b5, o5, hA5, _, hc5⟩ := (HR7.out.below HBr.out).at_ 1 en1_len (by omega) hm
              have r0 : wr.cell? ⟨b5, o5 + j * 1, none⟩ = some (.int .i64 m) := hc5 0 _ rfl
              rw [Nat.mul_one] at r0
              have hjL : j < d.Ls.length := by rw [← HL6.out]; exact hjl
              obtain ⟨u0, u1⟩ := HCU.out wr (bthen HB7.out HBr.out) j hjL
              have hjn : j < n := by rw [HV.out.2]; exact hjL
              have HHH := HOR.out
              rw [hA5]
              clear hc5 hA5
              rcases HHH with ⟨e1, e2, e3⟩ | ⟨e1, e2⟩
              · have e4 := e2 j m hm
                rw [e3 j] at u0
                subst e4
                rw [e1] at x1
                clear e1 e2 e3 hm
                go_wp2_with fail
                go_roundw
                case rel => exact ⟨j + 1, by omega, by go_num, HBr⟩
                case measure => simp [nOf]; omega
              · rcases e2 j m hm with e4 | e4
                · subst e4
                  rw [e1] at x1
                  clear e1 e2 hm
                  go_wp2_with fail
                  go_roundw
                  case rel => exact ⟨j + 1, by omega, by go_num, HBr⟩
                  case measure => simp [nOf]; omega
                · subst e4
                  rw [e1] at x1
                  clear e1 e2 hm
                  go_wp2_with fail
                  go_roundw
                  case rel => exact ⟨j + 1, by omega, by go_num, HBr⟩
                  case measure => simp [nOf]; omega
            · have KL2 := hid (KL.out wr (bthen HB7.out HBr.out))
              clear KL
              go_wp2_with fail
              refine KL2.out.mono ?_
              rintro e w9 ⟨rfl, hb9⟩
              have HF9 := hid (bthen (bthen HBf.out HBr.out) hb9)
              have x1 : w9.cell? ⟨G7, 1, none⟩ = some (.int .i64 sv) := (HG7.out.next (bthen HBr.out hb9)).cell 1
              have lG7 := (HG7.out.next (bthen HBr.out hb9)).lt
              clear KL2 hb9
              rcases HOR.out with ⟨e1, _, _⟩ | ⟨e1, _⟩
              · rw [e1] at x1
                clear e1
                go_wp2_with fail
                go_ret
                exact ⟨rfl, HF9.out⟩
              · rw [e1] at x1
                clear e1
                go_wp2_with fail
                go_ret
                exact ⟨rfl, HF9.out⟩
        --@6e

end Go.Proofs.YtoemmakhbiiknaaGreat

namespace Go.Proofs.YtoemmakhbiiknaaGreat.lawEngineEnds
open Go.ChangeShapes Go.WideShapes Go.ChangeAt Go.RowKit 
set_option linter.unusedVariables false

theorem own : ownKnob Tryz.prog.godebug = none := by kernel_rfl
theorem laidOut : laidOutB Tryz.prog = true := by kernel_rfl

set_option maxRecDepth 100000 in
theorem contract (H : Type) (enc : TypeId × Value → H) (W : World) (base : Nat) (args : Array Value) (ds gs : List (DataW H)) (before : List MemPlace)
    (hval : ∀ (j : Nat) t v, Tryz.f4.params[j]? = some t → args[j]? = some v → Value.okWide Tryz.prog W .any base t v)
    (hW : DataW.Whole enc Tryz.prog Tryz.f4.params.toList Rows.engineEndsSpec.vars false W args.toList ds gs before)
    (hsz : (DataW.weightsEach Tryz.prog (Tryz.f4.params.toList ++ Rows.engineEndsSpec.plain.varTypes Tryz.prog) (ds ++ gs)).all (· ≤ reachBytes) = true) :
    Calls Tryz.prog 4 args W fun e W' => ∃ v, e = .returned v ∧ Rows.engineEndsSpec.post enc Tryz.prog Tryz.f4 false true false false W args v W' := by
  have fin : ∀ e W', Law W e W' → ∃ v, e = .returned v ∧ Rows.engineEndsSpec.post enc Tryz.prog Tryz.f4 false true false false W args v W' :=
    fun e W' h => law_post laidOut rfl (fun ds hds => by
      rw [Tryz.params4] at hds
      match ds, hds with
      | [d0, d1, d2], _ => exact ⟨rfl, rfl, rfl⟩) (by rw [Tryz.params4]; intro t ht; simp only [List.mem_cons, List.not_mem_nil, or_false] at ht; rcases ht with rfl | rfl | rfl <;> exact ⟨by kernel_rfl, of_decide_eq_true (by kernel_rfl)⟩) (by kernel_rfl) Tryz.underlying4 hW h
  obtain ⟨p, q, hA0, hV, rfl, hfz, hnd⟩ := hW
  have hA : DataW.TrodAll enc Tryz.prog W 0 (fun _ => true) true Tryz.f4.params.toList args.toList ds p := hA0
  rw [Tryz.params4] at hA hval hsz
  obtain ⟨v0, vs0, d0, ds0, p0, q0, hargs, rfl, rfl, h0, r0⟩ := trodAll_cons hA
  obtain ⟨v1, vs1, d1, ds1, p1, q1, rfl, rfl, rfl, h1, r1⟩ := trodAll_cons r0
  obtain ⟨v2, vs2, d2, ds2, p2, q2, rfl, rfl, rfl, h2, r2⟩ := trodAll_cons r1
  obtain ⟨rfl, rfl, rfl⟩ := trodAll_nil r2
  obtain rfl : args = #[v0, v1, v2] := by cases args; simp_all
  obtain ⟨rfl, rfl⟩ := trodVars_none hV
  obtain ⟨cs0, rfl, hcz0⟩ := okWide_struct Tryz.underlying60 (hval 0 60 v0 rfl rfl)
  obtain ⟨fuel0, hf0⟩ := h0
  obtain ⟨x0, hx0, ok0⟩ := open_def12 fuel0 cs0.toList _ (Array.length_toList.trans (hcz0.trans (by kernel_rfl))) hf0 (fun y hy => by simpa using List.all_eq_true.1 hsz _ (DataW.weights_mem_each (j := 0) rfl rfl y hy))
  obtain rfl : cs0 = (enFD x0).toArray := by rw [← hx0]
  obtain ⟨cs1, rfl, hcz1⟩ := okWide_struct Tryz.underlying62 (hval 1 62 v1 rfl rfl)
  obtain ⟨fuel1, hf1⟩ := h1
  obtain ⟨x1, hx1, ok1⟩ := open_ans13 fuel1 cs1.toList _ (Array.length_toList.trans (hcz1.trans (by kernel_rfl))) hf1 (fun y hy => by simpa using List.all_eq_true.1 hsz _ (DataW.weights_mem_each (j := 1) rfl rfl y hy))
  obtain rfl : cs1 = (enAns x1).toArray := by rw [← hx1]
  obtain ⟨n2, rfl, rfl, rfl, w2⟩ := open_int Tryz.underlying3 (hval 2 3 v2 rfl rfl) h2
  exact (engineEnds_walk x0 x1 n2 W ok0 ok1).mono fin

set_option maxRecDepth 100000 in
theorem lifted (os : Os) (started : os.Started) (H : Type) (enc : TypeId × Value → H) :
    ReturnsInHanded {} Tryz.checked os 4 .any (Rows.engineEndsSpec.pre6 enc Tryz.prog Tryz.f4 Rows.engineEndsRow.domain false) (Rows.engineEndsSpec.post enc Tryz.prog Tryz.f4 false true false false) := by
  refine returnsInHanded_of_change_sized (C := Tryz.checked) own started (by kernel_rfl) Tryz.func4
    (ChangeSpec.witness6 (enc := enc) (C := Tryz.checked) false ⟨#[], #[.agg #[.string ByteArray.empty, .slice none 0 0], .agg #[.slice none 0 0, .slice none 0 0], .int .i64 0], []⟩ 8 (by kernel_rfl) (by kernel_rfl) (by kernel_rfl) (by kernel_rfl)) ?_
  intro W base args ds gs before hval hW _ hsz _
  exact contract H enc W base args ds gs before hval hW hsz

/-- THE STATEMENT. -/
theorem proved : Rows.EngineEndsSaid :=
  OpenClaim.holds_of_wide 4 Tryz.f4 rfl rfl rfl rfl rfl rfl rfl ⟨rfl, rfl, rfl, rfl, rfl⟩ rfl rfl rfl rfl rfl (by kernel_rfl) Tryz.func4 (by kernel_rfl)
    (of_decide_eq_true (by kernel_rfl)) (by unfold Func.isWrapper; rw [if_neg (of_decide_eq_false (by kernel_rfl))]; exact ⟨rfl, rfl⟩)
    (fun os started H enc _ => lifted os started H enc)
#print axioms proved
end Go.Proofs.YtoemmakhbiiknaaGreat.lawEngineEnds
