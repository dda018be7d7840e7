/-
  May a definition run: check.Check of the program answers checkN.
-/
import Derived.Test.YtemhoaapapeilaaCk12
import Derived.Test.YtemhoaapapeilaaInMany
import Derived.Laws.MakeOwn
namespace Go.Proofs.Ytemhoaapapeilaa
open Go.RowKit Go.WideShapes Go.ChangeShapes Go.ChangeAt Go.Deep
set_option linter.unusedVariables false

theorem info_bool : (Try.prog.info? 4).map (fun i => (i.zero, i.size, i.bytes)) = some (some (.bool false), 1, 1) := by kernel_rfl
theorem info_mapII : (Try.prog.info? 99).map (fun i => (i.zero, i.size, i.bytes)) = some (some (.map none), 1, 8) := by kernel_rfl
theorem made_false (N : Nat) : madeCells (Value.bool false).cells N = (Array.range N).map fun _ => Value.bool false := by
  unfold madeCells
  simp [Value.cells]
  intro a _
  rw [Nat.mod_one]
  rfl
theorem made_nomap (N : Nat) : madeCells (Value.map none).cells N = (Array.range N).map fun _ => Value.map none := by
  unfold madeCells
  simp [Value.cells]
  intro a _
  rw [Nat.mod_one]
  rfl
/-- Between the parts: the definition, the map of the numbers. -/
structure CeS (w0 : World) (nm : ByteArray) (l : List Stp) (A : Option Addr) (cp D0 V3 M : Nat) (w : World) : Prop where
  d : Blk w D0 24 #[.string nm, .slice A l.length cp]
  v : Blk w V3 30 #[.map (some M)]
  m : IsMap w M kS vN (mkN (l.map Stp.name) l.length)
  bel : Below w0.heap.size w0 w
theorem CeS.next {w0 w w' : World} {nm : ByteArray} {l : List Stp} {A : Option Addr} {cp D0 V3 M : Nat} (h : CeS w0 nm l A cp D0 V3 M w) (hb : Below w.heap.size w w') : CeS w0 nm l A cp D0 V3 M w' := ⟨h.d.next hb, h.v.next hb, h.m.next hb, bthen h.bel hb⟩

structure CkS (K : OfK) (D0 V3 V8 : Nat) (S : Sets) (w : World) : Prop where
  s : OfS K S (fun _ => false) w
  d : Blk w D0 24 #[.string K.nm, .slice K.A K.l.length K.cp]
  v : Blk w V3 30 #[.map (some K.M)]
  p : Blk w V8 94 #[.pointer (some ⟨K.D, 0, none⟩)]
theorem CkS.next {K : OfK} {D0 V3 V8 : Nat} {S : Sets} {w w' : World} (h : CkS K D0 V3 V8 S w) (hb : Below w.heap.size w w') : CkS K D0 V3 V8 S w' := ⟨h.s.next hb, h.d.next hb, h.v.next hb, h.p.next hb⟩
theorem CkS.asked {K : OfK} {D0 V3 V8 : Nat} {S S' : Sets} {w w' : World} (h : CkS K D0 V3 V8 S w) (hT : Touch (SD K) w w') (hS : OfS K S' (fun _ => false) w') : CkS K D0 V3 V8 S' w' :=
  ⟨hS, hT.blk h.d (fun e => e.elim (h.d.ne_ h.s.s (by decide)) (h.d.ne_ h.s.o (by decide))), hT.blk h.v (fun e => e.elim (h.v.ne_ h.s.s (by decide)) (h.v.ne_ h.s.o (by decide))), hT.blk h.p (fun e => e.elim (h.p.ne_ h.s.s (by decide)) (h.p.ne_ h.s.o (by decide)))⟩

set_option maxRecDepth 100000 in
set_option maxHeartbeats 32000000 in
theorem check_any (nm : ByteArray) (l : List Stp) (A : Option Addr) (cp : Nat) (w : World) (hR : Rd w A (l.flatMap enSt)) (hok : ∀ s ∈ l, OkSt w s) (hl : l.length ≤ 1000) :
    Calls Try.prog 26 #[.agg #[.string nm, .slice A l.length cp]] w fun e w' => e = .returned (.int .i64 (checkN l)) ∧ Below w.heap.size w w' := by
  have HOK := hid hok
  have HR := hid hR
  clear hok hR
  have hB0 := Blk.new w 24 #[.string nm, .slice A l.length cp]
  have hwa : Below w.heap.size w (w.alloc (.cells #[.string nm, .slice A l.length cp] 24)) := (Below.refl _ _).alloc (Nat.le_refl _) _
  have HB0 := hid (And.intro hB0 hwa)
  have KN := hid (names_any nm l A cp (w.alloc (.cells #[.string nm, .slice A l.length cp] 24)) (HR.out.below hwa) (fun s hs => (HOK.out s hs).next hwa) (by omega))
  clear hB0 hwa
  go_enter Try.func26, Try.ntmps26
  go_wp2_with fail
  refine KN.out.mono ?_
  rintro e w1 ⟨hb1, hh⟩
  rcases hh with ⟨hN, M, rfl, hM, hMlo⟩ | ⟨hN, rfl⟩
  · have hd1 := HB0.out.1.next hb1
    have hb01 := bthen HB0.out.2 hb1
    obtain ⟨D0, hD0⟩ : ∃ D0, D0 = w.heap.size := ⟨_, rfl⟩
    rw [← hD0] at hd1
    have HD0 := hid hD0
    clear hD0
    have hwb : Below w1.heap.size w1 (w1.alloc (.cells #[.map (some M)] 30)) := (Below.refl _ _).alloc (Nat.le_refl _) _
    have hS : CeS w nm l A cp D0 w1.heap.size M (w1.alloc (.cells #[.map (some M)] 30)) := ⟨hd1.next hwb, Blk.new _ _ _, hM.next hwb, bthen hb01 hwb⟩
    have HS := hid hS
    have HN := hid hN
    clear hd1 hwb hS hN hM hMlo hb01 KN HB0
    go_upto_region 2 with fail
    obtain ⟨W, hW⟩ : ∃ W, W = w1.alloc (.cells #[.map (some M)] 30) := ⟨_, rfl⟩
    obtain ⟨V3, hV3⟩ : ∃ V3, V3 = w1.heap.size := ⟨_, rfl⟩
    rw [← hW, ← hV3] at HS
    rw [← hW, ← hV3, ← HD0.out]
    clear hW hV3 hb1
    have d1 : W.cell? ⟨D0, 1, none⟩ = some (.slice A l.length cp) := HS.out.d.cell 1
    have lD := HS.out.d.lt
    go_wp2_with fail
    clear d1 lD
    go_loopw [24] (fun v wr => ∃ k : Nat, k ≤ l.length ∧ v = .int .i64 k ∧ Hid (∀ j y, j < k → l[j]? = some y → oneN y = 0) ∧ Hid (CeS w nm l A cp D0 V3 M wr)) (fun v _ => l.length - nOf v)
    case atStart => exact ⟨0, Nat.zero_le _, rfl, hid (fun j y hj => by omega), HS⟩
    case round =>
      clear HS
      obtain ⟨k, hk, rfl, HP, HS⟩ := hrel
      by_cases hlt : k < l.length
      · obtain ⟨x, hx⟩ : ∃ x, l[k]? = some x := ⟨l[k], List.getElem?_eq_getElem hlt⟩
        obtain ⟨b, o, hAA, _, hcc⟩ := (HR.out.below HS.out.bel).at_ 9 enSt_len (by omega) hx
        have HX := hid hx
        have HF := hid (fun (h : oneN x ≠ 0) => fstN_some hx h HP.out)
        obtain ⟨c, hc⟩ : ∃ c, c = oneN x := ⟨_, rfl⟩
        have HC := hid hc
        have KO := fun w' => hid (step_one x w')
        rw [← hc] at KO
        clear hx hc
        obtain ⟨xn, xv, xu, xe, xf, xr, xy, xw, xA, xc, xl⟩ := x
        have KO2 : ∀ w', Hid (Calls Try.prog 44 #[.agg #[.string xn, .string xv, .string xu, .string xe, .bool xf, .int .i64 xr, .int .i64 xy, .int .i64 xw, .slice xA xl.length xc]] w' fun e w'' => e = .returned (.int .i64 c) ∧ Below w'.heap.size w' w'') := KO
        subst hAA
        have q0 : wr.cell? ⟨b, o + k * 9, none⟩ = some (.string xn) := hcc 0 _ rfl
        have q1 : wr.cell? ⟨b, o + k * 9 + 1, none⟩ = some (.string xv) := hcc 1 _ rfl
        have q2 : wr.cell? ⟨b, o + k * 9 + 2, none⟩ = some (.string xu) := hcc 2 _ rfl
        have q3 : wr.cell? ⟨b, o + k * 9 + 3, none⟩ = some (.string xe) := hcc 3 _ rfl
        have q4 : wr.cell? ⟨b, o + k * 9 + 4, none⟩ = some (.bool xf) := hcc 4 _ rfl
        have q5 : wr.cell? ⟨b, o + k * 9 + 5, none⟩ = some (.int .i64 xr) := hcc 5 _ rfl
        have q6 : wr.cell? ⟨b, o + k * 9 + 6, none⟩ = some (.int .i64 xy) := hcc 6 _ rfl
        have q7 : wr.cell? ⟨b, o + k * 9 + 7, none⟩ = some (.int .i64 xw) := hcc 7 _ rfl
        have q8 : wr.cell? ⟨b, o + k * 9 + 8, none⟩ = some (.slice xA xl.length xc) := hcc 8 _ rfl
        clear KO hcc
        have hwb : Below wr.heap.size wr (wr.alloc (.cells #[.string xn, .string xv, .string xu, .string xe, .bool xf, .int .i64 xr, .int .i64 xy, .int .i64 xw, .slice xA xl.length xc] 34)) := (Below.refl _ _).alloc (Nat.le_refl _) _
        have HS1 := hid (And.intro (HS.out.next hwb) (Blk.new wr 34 #[.string xn, .string xv, .string xu, .string xe, .bool xf, .int .i64 xr, .int .i64 xy, .int .i64 xw, .slice xA xl.length xc]))
        clear hwb HS
        go_upto_region 7 with fail
        clear q0 q1 q2 q3 q4 q5 q6 q7 q8
        obtain ⟨wz, hwz⟩ : ∃ wz, wz = wr.alloc (.cells #[.string xn, .string xv, .string xu, .string xe, .bool xf, .int .i64 xr, .int .i64 xy, .int .i64 xw, .slice xA xl.length xc] 34) := ⟨_, rfl⟩
        obtain ⟨G, hG⟩ : ∃ G, G = wr.heap.size := ⟨_, rfl⟩
        rw [← hwz, ← hG] at HS1
        rw [← hwz, ← hG]
        clear hwz hG
        have g0 : wz.cell? ⟨G, 0, none⟩ = some (.string xn) := HS1.out.2.cell 0
        have g1 : wz.cell? ⟨G, 1, none⟩ = some (.string xv) := HS1.out.2.cell 1
        have g2 : wz.cell? ⟨G, 2, none⟩ = some (.string xu) := HS1.out.2.cell 2
        have g3 : wz.cell? ⟨G, 3, none⟩ = some (.string xe) := HS1.out.2.cell 3
        have g4 : wz.cell? ⟨G, 4, none⟩ = some (.bool xf) := HS1.out.2.cell 4
        have g5 : wz.cell? ⟨G, 5, none⟩ = some (.int .i64 xr) := HS1.out.2.cell 5
        have g6 : wz.cell? ⟨G, 6, none⟩ = some (.int .i64 xy) := HS1.out.2.cell 6
        have g7 : wz.cell? ⟨G, 7, none⟩ = some (.int .i64 xw) := HS1.out.2.cell 7
        have g8 : wz.cell? ⟨G, 8, none⟩ = some (.slice xA xl.length xc) := HS1.out.2.cell 8
        have lG := HS1.out.2.lt
        go_wp2_with fail
        refine (KO2 wz).out.mono ?_
        rintro e w3 ⟨rfl, hb3⟩
        have HS3 := hid (HS1.out.1.next hb3)
        clear g0 g1 g2 g3 g4 g5 g6 g7 g8 lG HS1 hb3 KO2
        by_cases hc0 : c = 0
        · have HP2 := hid (show ∀ j y, j < k + 1 → l[j]? = some y → oneN y = 0 from fun j y hj hy => by
            by_cases e : j = k
            · subst e; rw [HX.out] at hy; injection hy with hy; subst hy; rw [← HC.out]; exact hc0
            · exact HP.out j y (by omega) hy)
          have tc : (c != 0) = false := by simp [hc0]
          clear hc0 HF HC HX HP
          go_wp2_with fail
          go_roundw
          case rel => exact ⟨k + 1, by omega, by go_num, HP2, HS3⟩
          case measure => simp [nOf]; omega
        · have HV := hid (show checkN l = c from by
            have h1 := HF.out (by rw [← HC.out]; exact hc0)
            rw [checkN_one HN.out (by rw [h1, ← HC.out]; exact hc0), h1, HC.out])
          have tc : (c != 0) = true := by simp [hc0]
          clear hc0 HF HC HX HP
          go_wp2_with fail
          go_ret
          exact ⟨by rw [HV.out]; rfl, HS3.out.bel⟩
      · have hk' : k = l.length := by omega
        have HONE := hid (show fstN l = 0 from fstN_none (fun y hy => by
          obtain ⟨j, hj⟩ := List.mem_iff_getElem?.1 hy
          exact HP.out j y (by have := (List.getElem?_eq_some_iff.1 hj).1; omega) hj))
        subst hk'
        clear hk hlt HP
        obtain ⟨i0, hi, hz0, hz1, hz2⟩ := info_parts info_bool
        obtain ⟨i1, hj, hy0, hy1, hy2⟩ := info_parts info_mapII
        have hmkB : ∀ w : World, (Instr.makeSlice 96 (.int .i64 (l.length : Int)) (.int .i64 (l.length : Int))).run Try.prog w = .ok (.slice (some ⟨w.heap.size, 0, none⟩) l.length l.length) (w.alloc (.cells ((Array.range l.length).map fun _ => Value.bool false) 4)) := fun w => by
          have := run_makeSlice (P := Try.prog) (w := w) 96 4 i0 (.bool false) Try.underlying96 hi hz0 .i64 .i64 (l.length : Int) (l.length : Int) (by omega) (Int.le_refl _) (by rw [hz1]; simp; omega) (by rw [hz2]; omega) (by omega)
          rw [hz1] at this
          simp only [Int.toNat_natCast, Nat.mul_one] at this
          rw [made_false] at this
          exact this
        have hmkM : ∀ w : World, (Instr.makeSlice 95 (.int .i64 (l.length : Int)) (.int .i64 (l.length : Int))).run Try.prog w = .ok (.slice (some ⟨w.heap.size, 0, none⟩) l.length l.length) (w.alloc (.cells ((Array.range l.length).map fun _ => Value.map none) 99)) := fun w => by
          have := run_makeSlice (P := Try.prog) (w := w) 95 99 i1 (.map none) Try.underlying95 hj hy0 .i64 .i64 (l.length : Int) (l.length : Int) (by omega) (Int.le_refl _) (by rw [hy1]; simp; omega) (by rw [hy2]; omega) (by omega)
          rw [hy1] at this
          simp only [Int.toNat_natCast, Nat.mul_one] at this
          rw [made_nomap] at this
          exact this
        clear hi hz0 hz1 hz2 hj hy0 hy1 hy2
        obtain ⟨CM, hCM⟩ : ∃ CM, CM = (Array.range l.length).map fun _ => Value.map none := ⟨_, rfl⟩
        obtain ⟨CB, hCB⟩ : ∃ CB, CB = (Array.range l.length).map fun _ => Value.bool false := ⟨_, rfl⟩
        rw [← hCM] at hmkM
        rw [← hCB] at hmkB
        have HCM := hid hCM
        have HCB := hid hCB
        clear hCM hCB
        obtain ⟨C, hCd⟩ : ∃ C : World → Prop, ∀ w', C w' ↔ Below wr.heap.size wr w' := ⟨_, fun _ => Iff.rfl⟩
        have hC : C wr.drew := (hCd _).2 (Below.refl _ _).drew
        have d0 : ∀ p : In C, p.w.cell? ⟨D0, 0, none⟩ = some (.string nm) := fun p => (HS.out.d.next ((hCd _).1 p.h)).cell 0
        have d1 : ∀ p : In C, p.w.cell? ⟨D0, 1, none⟩ = some (.slice A l.length cp) := fun p => (HS.out.d.next ((hCd _).1 p.h)).cell 1
        have lD : ∀ p : In C, D0 < p.w.heap.size := fun p => (HS.out.d.next ((hCd _).1 p.h)).lt
        have c3 : ∀ p : In C, p.w.cell? ⟨V3, 0, none⟩ = some (.map (some M)) := fun p => (HS.out.v.next ((hCd _).1 p.h)).cell 0
        have l3 : ∀ p : In C, V3 < p.w.heap.size := fun p => (HS.out.v.next ((hCd _).1 p.h)).lt
        have HC0 := hid hC
        have HCd := hid hCd
        clear hC hCd
        go_upto_region 11 with fail
        have hne : Nonempty (In C) := ⟨⟨_, HC0.out⟩⟩
        refine wp_region_many C (fun _ => none) 13 (by kernel_rfl) (by kernel_rfl) HC0.out ?_
        simp only [List.take_succ_cons, List.take_zero, List.drop_succ_cons, List.drop_zero]
        refine wpM_part (fun a D D' hd h w' hC hD' => h w' hC (hd w' hD')) ⟨_, HC0.out⟩ 4 4 (by kernel_rfl) (by kernel_rfl) (by kernel_rfl) ?_
        simp only [List.take_succ_cons, List.take_zero, List.drop_succ_cons, List.drop_zero]
        repeat (first | go_big_quiet_step (fail) | quiet_step (fail))
        refine wpQuiet_nil ?_
        refine wpM_one (fun a D D' hd h w' hC hD' => h w' hC (hd w' hD')) rfl (by kernel_rfl) (.int .i64 (l.length : Int)) (fun w' hw' => by go_simp) ?_
        refine wpM_many (fun a D D' hd h w' hC hD' => h w' hC (hd w' hD')) rfl (by kernel_rfl) (fun u w' => ∃ Ds, u = .slice (some ⟨Ds, 0, none⟩) l.length l.length ∧ Blk w' Ds 99 CM ∧ wr.heap.size ≤ Ds) (fun u w1 w2 ⟨Ds, h1, h2, h3⟩ hb => ⟨Ds, h1, h2.next hb, h3⟩) (fun w' hw' => ⟨_, _, by go_simp, (HCd.out _).2 (((HCd.out _).1 hw').alloc ((HCd.out _).1 hw').size _), (Below.refl _ _).alloc (Nat.le_refl _) _, ⟨w'.heap.size, rfl, Blk.new _ _ _, ((HCd.out _).1 hw').size⟩⟩) ?_
        rintro u ⟨wu, Ds, rfl, _, _⟩
        refine wpM_part (fun a D D' hd h w' hC hD' => h w' hC (hd w' hD')) ⟨_, HC0.out⟩ 2 8 (by kernel_rfl) (by kernel_rfl) (by kernel_rfl) ?_
        simp only [List.take_succ_cons, List.take_zero, List.drop_succ_cons, List.drop_zero]
        repeat (first | go_big_quiet_step (fail) | quiet_step (fail))
        refine wpQuiet_nil ?_
        refine wpM_one (fun a D D' hd h w' hC hD' => h w' hC (hd w' hD')) rfl (by kernel_rfl) (.int .i64 (l.length : Int)) (fun w' hw' => by go_simp) ?_
        refine wpM_many (fun a D D' hd h w' hC hD' => h w' hC (hd w' hD')) rfl (by kernel_rfl) (fun u w' => ∃ Do, u = .slice (some ⟨Do, 0, none⟩) l.length l.length ∧ Blk w' Do 4 CB ∧ wr.heap.size ≤ Do) (fun u w1 w2 ⟨Ds, h1, h2, h3⟩ hb => ⟨Ds, h1, h2.next hb, h3⟩) (fun w' hw' => ⟨_, _, by go_simp, (HCd.out _).2 (((HCd.out _).1 hw').alloc ((HCd.out _).1 hw').size _), (Below.refl _ _).alloc (Nat.le_refl _) _, ⟨w'.heap.size, rfl, Blk.new _ _ _, ((HCd.out _).1 hw').size⟩⟩) ?_
        rintro u ⟨wu, Do, rfl, _, _⟩
        refine wpM_part (fun a D D' hd h w' hC hD' => h w' hC (hd w' hD')) ⟨_, HC0.out⟩ 1 11 (by kernel_rfl) (by kernel_rfl) (by kernel_rfl) ?_
        simp only [List.take_succ_cons, List.take_zero, List.drop_succ_cons, List.drop_zero]
        repeat (first | go_big_quiet_step (fail) | quiet_step (fail))
        refine wpQuiet_nil ?_
        refine wpM_many (fun a D D' hd h w' hC hD' => h w' hC (hd w' hD')) rfl (by kernel_rfl) (fun u w' => ∃ D, u = .pointer (some ⟨D, 0, none⟩) ∧ Blk w' D 98 #[.string nm, .slice A l.length cp, .map (some M), .slice (some ⟨Ds, 0, none⟩) l.length l.length, .slice (some ⟨Do, 0, none⟩) l.length l.length] ∧ wr.heap.size ≤ D) (fun u w1 w2 ⟨Ds, h1, h2, h3⟩ hb => ⟨Ds, h1, h2.next hb, h3⟩) (fun w' hw' => ⟨_, _, by go_simp, (HCd.out _).2 (((HCd.out _).1 hw').alloc ((HCd.out _).1 hw').size _), (Below.refl _ _).alloc (Nat.le_refl _) _, ⟨w'.heap.size, rfl, Blk.new _ _ _, ((HCd.out _).1 hw').size⟩⟩) ?_
        rintro u ⟨wu, D, rfl, _, _⟩
        refine wpM_many (fun a D D' hd h w' hC hD' => h w' hC (hd w' hD')) rfl (by kernel_rfl) (fun u w' => ∃ V8, u = .pointer (some ⟨V8, 0, none⟩) ∧ Blk w' V8 94 #[.pointer none] ∧ wr.heap.size ≤ V8) (fun u w1 w2 ⟨Ds, h1, h2, h3⟩ hb => ⟨Ds, h1, h2.next hb, h3⟩) (fun w' hw' => ⟨_, _, by go_simp, (HCd.out _).2 (((HCd.out _).1 hw').alloc ((HCd.out _).1 hw').size _), (Below.refl _ _).alloc (Nat.le_refl _) _, ⟨w'.heap.size, rfl, Blk.new _ _ _, ((HCd.out _).1 hw').size⟩⟩) ?_
        rintro u ⟨wu, V8, rfl, _, _⟩
        refine wpM_nil ?_
        intro wf hC hD
        obtain ⟨⟨⟨⟨_, Ds', e1, bS, lS⟩, Do', e2, bO, lO⟩, D', e3, bD, lB⟩, V8', e4, bV, lV⟩ := hD
        simp only [Value.slice.injEq, Value.pointer.injEq, Option.some.injEq, Addr.mk.injEq, and_true] at e1 e2 e3 e4
        subst e1 e2 e3 e4
        obtain ⟨K, hK⟩ : ∃ K : OfK, K = ⟨w, D, Ds, Do, M, nm, l, A, cp⟩ := ⟨_, rfl⟩
        have hbf := (HCd.out _).1 hC
        have hS0 := HS.out.next hbf
        have hwl := HS.out.bel.size
        rw [HCM.out] at bS
        rw [HCB.out] at bO
        have hO0 : OfS K (fun _ => none) (fun _ => false) wf := by
          rw [hK]
          exact ⟨bD, bS, bO, hS0.m, fun i g mm _ h => (by cases h), hS0.bel, ⟨by show w.heap.size ≤ Ds; omega, by show w.heap.size ≤ Do; omega⟩⟩
        have hTs := Touch.setCell wf V8 0 (.pointer (some ⟨D, 0, none⟩))
        have hKD : K.D = D := by rw [hK]
        have hK1 : CkS K D0 V3 V8 (fun _ => none) (wf.setCell ⟨V8, 0, none⟩ (.pointer (some ⟨D, 0, none⟩))) := by
          refine ⟨hO0.far hTs (fun e => hO0.d.ne_ bV (by decide) e) (fun e => hO0.s.ne_ bV (by decide) e) (fun e => hO0.o.ne_ bV (by decide) e) (fun e => hO0.m.notBlk bV e) (fun i g mm _ h => (by cases h)) (fun k hk => by rw [hk, hK]; show w.heap.size ≤ V8; omega), ?_, ?_, ?_⟩
          · rw [hK]; exact hTs.blk hS0.d (fun e => hS0.d.ne_ bV (by decide) e)
          · rw [hK]; exact hTs.blk hS0.v (fun e => hS0.v.ne_ bV (by decide) e)
          · rw [hKD]; exact bV.set_ 0 _
        have d1' : wf.cell? ⟨D0, 1, none⟩ = some (.slice A l.length cp) := hS0.d.cell 1
        have nD : D0 ≠ V8 := hS0.d.ne_ bV (by decide)
        have nD' : V8 ≠ D0 := fun e => nD e.symm
        have lD' := hS0.d.lt
        have v0 : wf.cell? ⟨V8, 0, none⟩ = some (.pointer none) := bV.cell 0
        have vf := bV.free 0
        have vl := bV.lt
        have HKE := hid hK
        have HK1 := hid hK1
        clear hK hKD hTs hO0 hS0 hwl bS bO bD bV lS lO lB lV hC hbf d0 d1 lD c3 l3 hmkB hmkM HS HC0 HCd hne HCM HCB
        go_wp2_with fail
        obtain ⟨W2, hW2⟩ : ∃ W2, W2 = wf.setCell ⟨V8, 0, none⟩ (.pointer (some ⟨D, 0, none⟩)) := ⟨_, rfl⟩
        rw [← hW2] at HK1
        rw [← hW2]
        clear hW2 v0 vf vl d1' nD nD' lD'
        go_loopw [49] (fun v wr => ∃ (k : Nat) (S : Sets), k ≤ l.length ∧ v = .int .i64 k ∧ Hid (∀ j, j < k → ∃ q, S j = some q) ∧ Hid (CkS K D0 V3 V8 S wr)) (fun v _ => l.length - nOf v)
        case atStart => exact ⟨0, _, Nat.zero_le _, rfl, hid (fun j hj => by omega), HK1⟩
        case round =>
          clear HK1
          obtain ⟨k, S, hk, rfl, HP, HS⟩ := hrel
          by_cases hlt : k < l.length
          · have v0 : wr.cell? ⟨V8, 0, none⟩ = some (.pointer (some ⟨D, 0, none⟩)) := by have := HS.out.p.cell 0; rw [HKE.out] at this; exact this
            have vl := HS.out.p.lt
            have KO := hid (of_any K (by rw [HKE.out]; exact HR.out) (by rw [HKE.out]; exact HOK.out) (by rw [HKE.out]; exact HN.out) (by rw [HKE.out]; exact hl) (shutN K.l.length fun _ => false) k wr S (fun _ => false) (by rw [HKE.out]; exact hlt) HS.out.s (fun j _ h => by cases h) (Nat.le_refl _))
            have KO2 : Hid (Calls Try.prog 45 #[.pointer (some ⟨D, 0, none⟩), .int .i64 (k : Int)] wr (OfR K S (fun _ => false) k wr)) := hid (by have := KO.out; rw [HKE.out] at this ⊢; exact this)
            clear KO
            go_wp2_with fail
            refine KO2.out.mono ?_
            rintro e w3 ⟨hT3, h3⟩
            rcases h3 with ⟨hcy, rfl⟩ | ⟨g, mm, S', rfl, hS', hk', hx', _⟩
            · have HV := hid (show checkN l = 113 from checkN_cyc HN.out HONE.out (fun ha => by
                obtain ⟨j, hj⟩ := hcy
                rw [HKE.out] at hj
                exact ha j hj))
              have HB := hid (show Below w.heap.size w w3 from by
                have h1 := HS.out.s.bel
                have h2 := HS.out.s.lo
                rw [HKE.out] at h1 h2 hT3
                exact h1.trans (hT3.below h1.size (fun k hk => hk.elim (fun e => by rw [e]; exact h2.1) (fun e => by rw [e]; exact h2.2))))
              clear hT3 hcy v0 vl KO2
              go_wp2_with fail
              go_ret
              exact ⟨by rw [HV.out]; rfl, HB.out⟩
            · have HS3 := hid (HS.out.asked hT3 hS')
              have HP3 := hid (show ∀ j, j < k + 1 → ∃ q, S' j = some q from fun j hj => by
                by_cases e : j = k
                · subst e; exact ⟨_, hk'⟩
                · obtain ⟨q, hq⟩ := HP.out j (by omega); exact ⟨q, hx' j q hq⟩)
              clear hT3 hS' hk' hx' v0 vl KO2
              go_wp2_with fail
              go_roundw
              case rel => exact ⟨k + 1, S', by omega, by go_num, HP3, HS3⟩
              case measure => simp [nOf]; omega
          · have hk' : k = l.length := by omega
            have HSO := hid (show ∀ j, j < l.length → ∃ g mm, S j = some (g, mm) ∧ SetOk (grf l) j mm from fun j hj => by
              obtain ⟨⟨g, mm⟩, hq⟩ := HP.out j (by omega)
              have := (HS.out.s.sets j g mm (by rw [HKE.out]; exact hj) hq).2.1
              rw [HKE.out] at this
              exact ⟨g, mm, hq, this⟩)
            have HACY := hid (show Acy (grf l) from acy_of (grf_shut HN.out) (fun j hj => by
              rw [grf_len] at hj
              obtain ⟨g, mm, _, h⟩ := HSO.out j hj
              exact h.clean))
            subst hk'
            clear hk hlt HP
            have d1 : wr.cell? ⟨D0, 1, none⟩ = some (.slice A l.length cp) := by have := HS.out.d.cell 1; rw [HKE.out] at this; exact this
            have lD := HS.out.d.lt
            go_wp2_with fail
            clear d1 lD
            go_loopw [64] (fun v wr => ∃ k : Nat, k ≤ l.length ∧ v = .int .i64 k ∧ Hid (∀ j y, j < k → l[j]? = some y → isFin y = true → ¬ ∃ x ∈ l, isFin x = false ∧ ¬ Rch (grf l) j (l.findIdx (isNm x.name))) ∧ Hid (CkS K D0 V3 V8 S wr)) (fun v _ => l.length - nOf v)
            case atStart => exact ⟨0, Nat.zero_le _, rfl, hid (fun j y hj => by omega), HS⟩
            case round =>
              clear HS
              obtain ⟨k, hk, rfl, HP, HS⟩ := hrel
              by_cases hlt : k < l.length
              · obtain ⟨x, hx⟩ : ∃ x, l[k]? = some x := ⟨l[k], List.getElem?_eq_getElem hlt⟩
                obtain ⟨b, o, hAA, _, hcc⟩ := (HR.out.below (show Below w.heap.size w wr from by have := HS.out.s.bel; rw [HKE.out] at this; exact this)).at_ 9 enSt_len (by omega) hx
                obtain ⟨g, mm, hsk, hso⟩ := HSO.out k hlt
                have HX := hid hx
                obtain ⟨f, hf⟩ : ∃ f, f = isFin x := ⟨_, rfl⟩
                have HF := hid hf
                clear hx hf
                obtain ⟨xn, xv, xu, xe, xf, xr, xy, xw, xA, xc, xl⟩ := x
                subst hAA
                have q0 : wr.cell? ⟨b, o + k * 9, none⟩ = some (.string xn) := hcc 0 _ rfl
                have q1 : wr.cell? ⟨b, o + k * 9 + 1, none⟩ = some (.string xv) := hcc 1 _ rfl
                have q2 : wr.cell? ⟨b, o + k * 9 + 2, none⟩ = some (.string xu) := hcc 2 _ rfl
                have q3 : wr.cell? ⟨b, o + k * 9 + 3, none⟩ = some (.string xe) := hcc 3 _ rfl
                have q4 : wr.cell? ⟨b, o + k * 9 + 4, none⟩ = some (.bool xf) := hcc 4 _ rfl
                have q5 : wr.cell? ⟨b, o + k * 9 + 5, none⟩ = some (.int .i64 xr) := hcc 5 _ rfl
                have q6 : wr.cell? ⟨b, o + k * 9 + 6, none⟩ = some (.int .i64 xy) := hcc 6 _ rfl
                have q7 : wr.cell? ⟨b, o + k * 9 + 7, none⟩ = some (.int .i64 xw) := hcc 7 _ rfl
                have q8 : wr.cell? ⟨b, o + k * 9 + 8, none⟩ = some (.slice xA xl.length xc) := hcc 8 _ rfl
                have hwb : Below wr.heap.size wr ((wr.alloc (.cells #[.int .i64 (k : Int)] 3)).alloc (.cells #[.string xn, .string xv, .string xu, .string xe, .bool xf, .int .i64 xr, .int .i64 xy, .int .i64 xw, .slice xA xl.length xc] 34)) := ((Below.refl _ _).alloc (Nat.le_refl _) _).alloc (by simp) _
                have hG := Blk.new (wr.alloc (.cells #[.int .i64 (k : Int)] 3)) 34 #[.string xn, .string xv, .string xu, .string xe, .bool xf, .int .i64 xr, .int .i64 xy, .int .i64 xw, .slice xA xl.length xc]
                rw [World.size_alloc] at hG
                have HS1 := hid (And.intro (HS.out.next hwb) (And.intro ((Blk.new wr 3 #[.int .i64 (k : Int)]).alloc (.cells #[.string xn, .string xv, .string xu, .string xe, .bool xf, .int .i64 xr, .int .i64 xy, .int .i64 xw, .slice xA xl.length xc] 34)) hG))
                clear hcc hwb HS hG
                go_upto_region 22 with fail
                clear q0 q1 q2 q3 q4 q5 q6 q7 q8
                obtain ⟨wz, hwz⟩ : ∃ wz, wz = (wr.alloc (.cells #[.int .i64 (k : Int)] 3)).alloc (.cells #[.string xn, .string xv, .string xu, .string xe, .bool xf, .int .i64 xr, .int .i64 xy, .int .i64 xw, .slice xA xl.length xc] 34) := ⟨_, rfl⟩
                obtain ⟨G, hG⟩ : ∃ G, G = wr.heap.size + 1 := ⟨_, rfl⟩
                obtain ⟨V12, hV12⟩ : ∃ V12, V12 = wr.heap.size := ⟨_, rfl⟩
                rw [← hwz, ← hG, ← hV12] at HS1
                rw [← hwz, ← hG, ← hV12]
                clear hwz hG hV12
                have g3 : wz.cell? ⟨G, 3, none⟩ = some (.string xe) := HS1.out.2.2.cell 3
                have g4 : wz.cell? ⟨G, 4, none⟩ = some (.bool xf) := HS1.out.2.2.cell 4
                have lG := HS1.out.2.2.lt
                have d1 : wz.cell? ⟨D0, 1, none⟩ = some (.slice (some ⟨b, o, none⟩) l.length cp) := by have := HS1.out.1.d.cell 1; rw [HKE.out] at this; exact this
                have lD := HS1.out.1.d.lt
                have HNX : f = false → Hid (∀ j y, j < k + 1 → l[j]? = some y → isFin y = true → ¬ ∃ x ∈ l, isFin x = false ∧ ¬ Rch (grf l) j (l.findIdx (isNm x.name))) := fun hf0 => hid (fun j y hj hy hfy => by
                  by_cases e : j = k
                  · subst e
                    rw [HX.out] at hy
                    injection hy with hy
                    subst hy
                    rw [← HF.out, hf0] at hfy
                    cases hfy
                  · exact HP.out j y (by omega) hy hfy)
                have HNX := hid HNX
                cases he : xe.toList.isEmpty with
                | false =>
                  have HP2 := hid (HNX.out (by rw [HF.out]; simp [isFin, he]))
                  clear HNX HP HF HX
                  go_wp2_with fail
                  go_roundw
                  case rel => exact ⟨k + 1, by omega, by go_num, HP2.out, hid HS1.out.1⟩
                  case measure => simp [nOf]; omega
                | true =>
                  cases xf with
                  | false =>
                    have HP2 := hid (HNX.out (by rw [HF.out]; simp [isFin]))
                    clear HNX HP HF HX
                    go_wp2_with fail
                    go_roundw
                    case rel => exact ⟨k + 1, by omega, by go_num, HP2.out, hid HS1.out.1⟩
                    case measure => simp [nOf]; omega
                  | true =>
                    have HFT := hid (show f = true from by rw [HF.out]; simp [isFin, he])
                    have hwb2 : Below w.heap.size w wz := by have := HS1.out.1.s.bel; rw [HKE.out] at this; exact this
                    have KC := hid (containsS3_any l (some ⟨b, o, none⟩) cp 47 (.pointer (some ⟨V8, 0, none⟩)) (.pointer (some ⟨V12, 0, none⟩)) (.pointer (some ⟨V3, 0, none⟩)) (finP l mm) wz (HR.out.below hwb2) (by omega) (fun _ _ => by go_simp) (fun y hy w' hb' => by
                      have h1 := HS1.out.1.next hb'
                      have := chk1_any K S (fun _ => false) k g V8 V12 V3 mm w' (by rw [HKE.out]; exact hlt) h1.s hsk (by rw [HKE.out]; exact HN.out) y (by rw [HKE.out]; exact hy) h1.p (HS1.out.2.1.next hb') h1.v
                      rw [HKE.out] at this
                      exact this))
                    have HFA := hid (finP_any hso)
                    clear hwb2 hsk hso HNX
                    generalize hfa : l.any (finP l mm) = fa at KC HFA
                    clear hfa
                    cases fa with
                    | false =>
                      have HP2 := hid (show ∀ j y, j < k + 1 → l[j]? = some y → isFin y = true → ¬ ∃ x ∈ l, isFin x = false ∧ ¬ Rch (grf l) j (l.findIdx (isNm x.name)) from fun j y hj hy hfy => by
                        by_cases e : j = k
                        · subst e
                          intro hh
                          have := HFA.out.2 hh
                          cases this
                        · exact HP.out j y (by omega) hy hfy)
                      clear HFA HP HF HX HFT
                      go_wp2_with fail
                      refine KC.out.mono ?_
                      rintro e w5 ⟨rfl, hb5⟩
                      have HS5 := hid (HS1.out.1.next hb5)
                      clear HS1 hb5 KC g3 g4 lG d1 lD
                      go_wp2_with fail
                      go_roundw
                      case rel => exact ⟨k + 1, by omega, by go_num, HP2, HS5⟩
                      case measure => simp [nOf]; omega
                    | true =>
                      have HV := hid (show checkN l = 114 from checkN_fin HN.out HONE.out HACY.out ⟨k, _, HX.out, by rw [← HF.out]; exact HFT.out, HFA.out.1 rfl⟩)
                      clear HFA HP HF HX HFT
                      go_wp2_with fail
                      refine KC.out.mono ?_
                      rintro e w5 ⟨rfl, hb5⟩
                      have HB5 := hid (HS1.out.1.next hb5).s.bel
                      clear HS1 hb5 KC g3 g4 lG d1 lD
                      go_wp2_with fail
                      go_ret
                      exact ⟨by rw [HV.out]; rfl, by have := HB5.out; rw [HKE.out] at this; exact this⟩
              · have hk' : k = l.length := by omega
                have HV := hid (show checkN l = 0 from checkN_ok HN.out HONE.out HACY.out (fun ⟨i, s, hs, hf, hx⟩ => HP.out i s (by have := (List.getElem?_eq_some_iff.1 hs).1; omega) hs hf hx))
                have HB5 := hid HS.out.s.bel
                subst hk'
                clear hk hlt HP
                go_wp2_with fail
                go_ret
                exact ⟨by rw [HV.out]; rfl, by have := HB5.out; rw [HKE.out] at this; exact this⟩
  · have HV := hid (checkN_name hN)
    have HB := hid (bthen HB0.out.2 hb1)
    clear hN KN HB0
    go_wp2_with fail
    go_ret
    exact ⟨by rw [HV.out]; rfl, HB.out.alloc HB.out.size _⟩

end Go.Proofs.Ytemhoaapapeilaa
