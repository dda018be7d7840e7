/-
  May a definition run: check.Check of the program answers checkN.
  A row with one more at its end, swapped down to its place: the facts of the loop. No program.
  A plan while it is made: what lies where; what each change keeps.
-/
import Derived.Test.YtoemmakhbiiknaaGreatQe5
import Derived.Laws.MakeOwn
namespace Go.Proofs.YtoemmakhbiiknaaGreat
open Go.RowKit Go.WideShapes Go.ChangeShapes Go.ChangeAt Go.Deep
set_option linter.unusedVariables false

theorem info_bool : (Tryz.prog.info? 4).map (fun i => (i.zero, i.size, i.bytes)) = some (some (.bool false), 1, 1) := by kernel_rfl
theorem info_mapII : (Tryz.prog.info? 180).map (fun i => (i.zero, i.size, i.bytes)) = some (some (.map none), 1, 8) := by kernel_rfl
theorem made_false (N : Nat) : madeCells (Value.bool false).cells N = (Array.range N).map fun _ => Value.bool false := by
  unfold madeCells
  simp [Value.cells]
  intro a _
  rw [Nat.mod_one]
  rfl
theorem made_nomap (N : Nat) : madeCells (Value.map none).cells N = (Array.range N).map fun _ => Value.map none := by
  unfold madeCells
  simp [Value.cells]
  intro a _
  rw [Nat.mod_one]
  rfl
/-- Between the parts: the definition, the map of the numbers. -/
structure CeS (w0 : World) (nm : ByteArray) (l : List Stp) (A : Option Addr) (cp D0 V3 M : Nat) (w : World) : Prop where
  d : Blk w D0 60 #[.string nm, .slice A l.length cp]
  v : Blk w V3 147 #[.map (some M)]
  m : IsMap w M kS vN (mkN (l.map Stp.name) l.length)
  bel : Below w0.heap.size w0 w
theorem CeS.next {w0 w w' : World} {nm : ByteArray} {l : List Stp} {A : Option Addr} {cp D0 V3 M : Nat} (h : CeS w0 nm l A cp D0 V3 M w) (hb : Below w.heap.size w w') : CeS w0 nm l A cp D0 V3 M w' := ⟨h.d.next hb, h.v.next hb, h.m.next hb, bthen h.bel hb⟩

structure CkS (K : OfK) (D0 V3 V8 : Nat) (S : Sets) (w : World) : Prop where
  s : OfS K S (fun _ => false) w
  d : Blk w D0 60 #[.string K.nm, .slice K.A K.l.length K.cp]
  v : Blk w V3 147 #[.map (some K.M)]
  p : Blk w V8 176 #[.pointer (some ⟨K.D, 0, none⟩)]
theorem CkS.next {K : OfK} {D0 V3 V8 : Nat} {S : Sets} {w w' : World} (h : CkS K D0 V3 V8 S w) (hb : Below w.heap.size w w') : CkS K D0 V3 V8 S w' := ⟨h.s.next hb, h.d.next hb, h.v.next hb, h.p.next hb⟩
theorem CkS.asked {K : OfK} {D0 V3 V8 : Nat} {S S' : Sets} {w w' : World} (h : CkS K D0 V3 V8 S w) (hT : Touch (SD K) w w') (hS : OfS K S' (fun _ => false) w') : CkS K D0 V3 V8 S' w' :=
  ⟨hS, hT.blk h.d (fun e => e.elim (h.d.ne_ h.s.s (by decide)) (h.d.ne_ h.s.o (by decide))), hT.blk h.v (fun e => e.elim (h.v.ne_ h.s.s (by decide)) (h.v.ne_ h.s.o (by decide))), hT.blk h.p (fun e => e.elim (h.p.ne_ h.s.s (by decide)) (h.p.ne_ h.s.o (by decide)))⟩

set_option maxRecDepth 100000 in
set_option maxHeartbeats 32000000 in
theorem check_any (nm : ByteArray) (l : List Stp) (A : Option Addr) (cp : Nat) (w : World) (hR : Rd w A (l.flatMap enSt)) (hok : ∀ s ∈ l, OkSt w s) (hl : l.length ≤ 1000) :
    Calls Tryz.prog 61 #[.agg #[.string nm, .slice A l.length cp]] w fun e w' => e = .returned (.int .i64 (checkN l)) ∧ Below w.heap.size w w' := by
  have HOK := hid hok
  have HR := hid hR
  clear hok hR
  have hB0 := Blk.new w 60 #[.string nm, .slice A l.length cp]
  have hwa : Below w.heap.size w (w.alloc (.cells #[.string nm, .slice A l.length cp] 60)) := (Below.refl _ _).alloc (Nat.le_refl _) _
  have HB0 := hid (And.intro hB0 hwa)
  have KN := hid (names_any nm l A cp (w.alloc (.cells #[.string nm, .slice A l.length cp] 60)) (HR.out.below hwa) (fun s hs => (HOK.out s hs).next hwa) (by omega))
  clear hB0 hwa
  go_enter Tryz.func61, Tryz.ntmps61
  go_wp2_with fail
  refine KN.out.mono ?_
  rintro e w1 ⟨hb1, hh⟩
  rcases hh with ⟨hN, M, rfl, hM, hMlo⟩ | ⟨hN, rfl⟩
  · have hd1 := HB0.out.1.next hb1
    have hb01 := bthen HB0.out.2 hb1
    obtain ⟨D0, hD0⟩ : ∃ D0, D0 = w.heap.size := ⟨_, rfl⟩
    rw [← hD0] at hd1
    have HD0 := hid hD0
    clear hD0
    have hwb : Below w1.heap.size w1 (w1.alloc (.cells #[.map (some M)] 147)) := (Below.refl _ _).alloc (Nat.le_refl _) _
    have hS : CeS w nm l A cp D0 w1.heap.size M (w1.alloc (.cells #[.map (some M)] 147)) := ⟨hd1.next hwb, Blk.new _ _ _, hM.next hwb, bthen hb01 hwb⟩
    have HS := hid hS
    have HN := hid hN
    clear hd1 hwb hS hN hM hMlo hb01 KN HB0
    go_upto_region 2 with fail
    obtain ⟨W, hW⟩ : ∃ W, W = w1.alloc (.cells #[.map (some M)] 147) := ⟨_, rfl⟩
    obtain ⟨V3, hV3⟩ : ∃ V3, V3 = w1.heap.size := ⟨_, rfl⟩
    rw [← hW, ← hV3] at HS
    rw [← hW, ← hV3, ← HD0.out]
    clear hW hV3 hb1
    have d1 : W.cell? ⟨D0, 1, none⟩ = some (.slice A l.length cp) := HS.out.d.cell 1
    have lD := HS.out.d.lt
    go_wp2_with fail
    clear d1 lD
    go_loopw [24] (fun v wr => ∃ k : Nat, k ≤ l.length ∧ v = .int .i64 k ∧ Hid (∀ j y, j < k → l[j]? = some y → oneN y = 0) ∧ Hid (CeS w nm l A cp D0 V3 M wr)) (fun v _ => l.length - nOf v)
    case atStart => exact ⟨0, Nat.zero_le _, rfl, hid (fun j y hj => by omega), HS⟩
    case round =>
      clear HS
      obtain ⟨k, hk, rfl, HP, HS⟩ := hrel
      by_cases hlt : k < l.length
      · obtain ⟨x, hx⟩ : ∃ x, l[k]? = some x := ⟨l[k], List.getElem?_eq_getElem hlt⟩
        obtain ⟨b, o, hAA, _, hcc⟩ := (HR.out.below HS.out.bel).at_ 9 enSt_len (by omega) hx
        have HX := hid hx
        have HF := hid (fun (h : oneN x ≠ 0) => fstN_some hx h HP.out)
        obtain ⟨c, hc⟩ : ∃ c, c = oneN x := ⟨_, rfl⟩
        have HC := hid hc
        have KO := fun w' => hid (step_one x w')
        rw [← hc] at KO
        clear hx hc
        obtain ⟨xn, xv, xu, xe, xf, xr, xy, xw, xA, xc, xl⟩ := x
        have KO2 : ∀ w', Hid (Calls Tryz.prog 89 #[.agg #[.string xn, .string xv, .string xu, .string xe, .bool xf, .int .i64 xr, .int .i64 xy, .int .i64 xw, .slice xA xl.length xc]] w' fun e w'' => e = .returned (.int .i64 c) ∧ Below w'.heap.size w' w'') := KO
        subst hAA
        have q0 : wr.cell? ⟨b, o + k * 9, none⟩ = some (.string xn) := hcc 0 _ rfl
        have q1 : wr.cell? ⟨b, o + k * 9 + 1, none⟩ = some (.string xv) := hcc 1 _ rfl
        have q2 : wr.cell? ⟨b, o + k * 9 + 2, none⟩ = some (.string xu) := hcc 2 _ rfl
        have q3 : wr.cell? ⟨b, o + k * 9 + 3, none⟩ = some (.string xe) := hcc 3 _ rfl
        have q4 : wr.cell? ⟨b, o + k * 9 + 4, none⟩ = some (.bool xf) := hcc 4 _ rfl
        have q5 : wr.cell? ⟨b, o + k * 9 + 5, none⟩ = some (.int .i64 xr) := hcc 5 _ rfl
        have q6 : wr.cell? ⟨b, o + k * 9 + 6, none⟩ = some (.int .i64 xy) := hcc 6 _ rfl
        have q7 : wr.cell? ⟨b, o + k * 9 + 7, none⟩ = some (.int .i64 xw) := hcc 7 _ rfl
        have q8 : wr.cell? ⟨b, o + k * 9 + 8, none⟩ = some (.slice xA xl.length xc) := hcc 8 _ rfl
        clear KO hcc
        have hwb : Below wr.heap.size wr (wr.alloc (.cells #[.string xn, .string xv, .string xu, .string xe, .bool xf, .int .i64 xr, .int .i64 xy, .int .i64 xw, .slice xA xl.length xc] 69)) := (Below.refl _ _).alloc (Nat.le_refl _) _
        have HS1 := hid (And.intro (HS.out.next hwb) (Blk.new wr 69 #[.string xn, .string xv, .string xu, .string xe, .bool xf, .int .i64 xr, .int .i64 xy, .int .i64 xw, .slice xA xl.length xc]))
        clear hwb HS
        go_upto_region 7 with fail
        clear q0 q1 q2 q3 q4 q5 q6 q7 q8
        obtain ⟨wz, hwz⟩ : ∃ wz, wz = wr.alloc (.cells #[.string xn, .string xv, .string xu, .string xe, .bool xf, .int .i64 xr, .int .i64 xy, .int .i64 xw, .slice xA xl.length xc] 69) := ⟨_, rfl⟩
        obtain ⟨G, hG⟩ : ∃ G, G = wr.heap.size := ⟨_, rfl⟩
        rw [← hwz, ← hG] at HS1
        rw [← hwz, ← hG]
        clear hwz hG
        have g0 : wz.cell? ⟨G, 0, none⟩ = some (.string xn) := HS1.out.2.cell 0
        have g1 : wz.cell? ⟨G, 1, none⟩ = some (.string xv) := HS1.out.2.cell 1
        have g2 : wz.cell? ⟨G, 2, none⟩ = some (.string xu) := HS1.out.2.cell 2
        have g3 : wz.cell? ⟨G, 3, none⟩ = some (.string xe) := HS1.out.2.cell 3
        have g4 : wz.cell? ⟨G, 4, none⟩ = some (.bool xf) := HS1.out.2.cell 4
        have g5 : wz.cell? ⟨G, 5, none⟩ = some (.int .i64 xr) := HS1.out.2.cell 5
        have g6 : wz.cell? ⟨G, 6, none⟩ = some (.int .i64 xy) := HS1.out.2.cell 6
        have g7 : wz.cell? ⟨G, 7, none⟩ = some (.int .i64 xw) := HS1.out.2.cell 7
        have g8 : wz.cell? ⟨G, 8, none⟩ = some (.slice xA xl.length xc) := HS1.out.2.cell 8
        have lG := HS1.out.2.lt
        go_wp2_with fail
        refine (KO2 wz).out.mono ?_
        rintro e w3 ⟨rfl, hb3⟩
        have HS3 := hid (HS1.out.1.next hb3)
        clear g0 g1 g2 g3 g4 g5 g6 g7 g8 lG HS1 hb3 KO2
        by_cases hc0 : c = 0
        · have HP2 := hid (show ∀ j y, j < k + 1 → l[j]? = some y → oneN y = 0 from fun j y hj hy => by
            by_cases e : j = k
            · subst e; rw [HX.out] at hy; injection hy with hy; subst hy; rw [← HC.out]; exact hc0
            · exact HP.out j y (by omega) hy)
          have tc : (c != 0) = false := by simp [hc0]
          clear hc0 HF HC HX HP
          go_wp2_with fail
          go_roundw
          case rel => exact ⟨k + 1, by omega, by go_num, HP2, HS3⟩
          case measure => simp [nOf]; omega
        · have HV := hid (show checkN l = c from by
            have h1 := HF.out (by rw [← HC.out]; exact hc0)
            rw [checkN_one HN.out (by rw [h1, ← HC.out]; exact hc0), h1, HC.out])
          have tc : (c != 0) = true := by simp [hc0]
          clear hc0 HF HC HX HP
          go_wp2_with fail
          go_ret
          exact ⟨by rw [HV.out]; rfl, HS3.out.bel⟩
      · have hk' : k = l.length := by omega
        have HONE := hid (show fstN l = 0 from fstN_none (fun y hy => by
          obtain ⟨j, hj⟩ := List.mem_iff_getElem?.1 hy
          exact HP.out j y (by have := (List.getElem?_eq_some_iff.1 hj).1; omega) hj))
        subst hk'
        clear hk hlt HP
        obtain ⟨i0, hi, hz0, hz1, hz2⟩ := info_parts info_bool
        obtain ⟨i1, hj, hy0, hy1, hy2⟩ := info_parts info_mapII
        have hmkB : ∀ w : World, (Instr.makeSlice 64 (.int .i64 (l.length : Int)) (.int .i64 (l.length : Int))).run Tryz.prog w = .ok (.slice (some ⟨w.heap.size, 0, none⟩) l.length l.length) (w.alloc (.cells ((Array.range l.length).map fun _ => Value.bool false) 4)) := fun w => by
          have := run_makeSlice (P := Tryz.prog) (w := w) 64 4 i0 (.bool false) Tryz.underlying64 hi hz0 .i64 .i64 (l.length : Int) (l.length : Int) (by omega) (Int.le_refl _) (by rw [hz1]; simp; omega) (by rw [hz2]; omega) (by omega)
          rw [hz1] at this
          simp only [Int.toNat_natCast, Nat.mul_one] at this
          rw [made_false] at this
          exact this
        have hmkM : ∀ w : World, (Instr.makeSlice 177 (.int .i64 (l.length : Int)) (.int .i64 (l.length : Int))).run Tryz.prog w = .ok (.slice (some ⟨w.heap.size, 0, none⟩) l.length l.length) (w.alloc (.cells ((Array.range l.length).map fun _ => Value.map none) 180)) := fun w => by
          have := run_makeSlice (P := Tryz.prog) (w := w) 177 180 i1 (.map none) Tryz.underlying177 hj hy0 .i64 .i64 (l.length : Int) (l.length : Int) (by omega) (Int.le_refl _) (by rw [hy1]; simp; omega) (by rw [hy2]; omega) (by omega)
          rw [hy1] at this
          simp only [Int.toNat_natCast, Nat.mul_one] at this
          rw [made_nomap] at this
          exact this
        clear hi hz0 hz1 hz2 hj hy0 hy1 hy2
        obtain ⟨CM, hCM⟩ : ∃ CM, CM = (Array.range l.length).map fun _ => Value.map none := ⟨_, rfl⟩
        obtain ⟨CB, hCB⟩ : ∃ CB, CB = (Array.range l.length).map fun _ => Value.bool false := ⟨_, rfl⟩
        rw [← hCM] at hmkM
        rw [← hCB] at hmkB
        have HCM := hid hCM
        have HCB := hid hCB
        clear hCM hCB
        obtain ⟨C, hCd⟩ : ∃ C : World → Prop, ∀ w', C w' ↔ Below wr.heap.size wr w' := ⟨_, fun _ => Iff.rfl⟩
        have hC : C wr.drew := (hCd _).2 (Below.refl _ _).drew
        have d0 : ∀ p : In C, p.w.cell? ⟨D0, 0, none⟩ = some (.string nm) := fun p => (HS.out.d.next ((hCd _).1 p.h)).cell 0
        have d1 : ∀ p : In C, p.w.cell? ⟨D0, 1, none⟩ = some (.slice A l.length cp) := fun p => (HS.out.d.next ((hCd _).1 p.h)).cell 1
        have lD : ∀ p : In C, D0 < p.w.heap.size := fun p => (HS.out.d.next ((hCd _).1 p.h)).lt
        have c3 : ∀ p : In C, p.w.cell? ⟨V3, 0, none⟩ = some (.map (some M)) := fun p => (HS.out.v.next ((hCd _).1 p.h)).cell 0
        have l3 : ∀ p : In C, V3 < p.w.heap.size := fun p => (HS.out.v.next ((hCd _).1 p.h)).lt
        have HC0 := hid hC
        have HCd := hid hCd
        clear hC hCd
        go_upto_region 11 with fail
        have hne : Nonempty (In C) := ⟨⟨_, HC0.out⟩⟩
        refine wp_region_many C (fun _ => none) 13 (by kernel_rfl) (by kernel_rfl) HC0.out ?_
        simp only [List.take_succ_cons, List.take_zero, List.drop_succ_cons, List.drop_zero]
        refine wpM_part (fun a D D' hd h w' hC hD' => h w' hC (hd w' hD')) ⟨_, HC0.out⟩ 4 4 (by kernel_rfl) (by kernel_rfl) (by kernel_rfl) ?_
        simp only [List.take_succ_cons, List.take_zero, List.drop_succ_cons, List.drop_zero]
        repeat (first | go_big_quiet_step (fail) | quiet_step (fail))
        refine wpQuiet_nil ?_
        refine wpM_one (fun a D D' hd h w' hC hD' => h w' hC (hd w' hD')) rfl (by kernel_rfl) (.int .i64 (l.length : Int)) (fun w' hw' => by go_simp) ?_
        refine wpM_many (fun a D D' hd h w' hC hD' => h w' hC (hd w' hD')) rfl (by kernel_rfl) (fun u w' => ∃ Ds, u = .slice (some ⟨Ds, 0, none⟩) l.length l.length ∧ Blk w' Ds 180 CM ∧ wr.heap.size ≤ Ds) (fun u w1 w2 ⟨Ds, h1, h2, h3⟩ hb => ⟨Ds, h1, h2.next hb, h3⟩) (fun w' hw' => ⟨_, _, by go_simp, (HCd.out _).2 (((HCd.out _).1 hw').alloc ((HCd.out _).1 hw').size _), (Below.refl _ _).alloc (Nat.le_refl _) _, ⟨w'.heap.size, rfl, Blk.new _ _ _, ((HCd.out _).1 hw').size⟩⟩) ?_
        rintro u ⟨wu, Ds, rfl, _, _⟩
        refine wpM_part (fun a D D' hd h w' hC hD' => h w' hC (hd w' hD')) ⟨_, HC0.out⟩ 2 8 (by kernel_rfl) (by kernel_rfl) (by kernel_rfl) ?_
        simp only [List.take_succ_cons, List.take_zero, List.drop_succ_cons, List.drop_zero]
        repeat (first | go_big_quiet_step (fail) | quiet_step (fail))
        refine wpQuiet_nil ?_
        refine wpM_one (fun a D D' hd h w' hC hD' => h w' hC (hd w' hD')) rfl (by kernel_rfl) (.int .i64 (l.length : Int)) (fun w' hw' => by go_simp) ?_
        refine wpM_many (fun a D D' hd h w' hC hD' => h w' hC (hd w' hD')) rfl (by kernel_rfl) (fun u w' => ∃ Do, u = .slice (some ⟨Do, 0, none⟩) l.length l.length ∧ Blk w' Do 4 CB ∧ wr.heap.size ≤ Do) (fun u w1 w2 ⟨Ds, h1, h2, h3⟩ hb => ⟨Ds, h1, h2.next hb, h3⟩) (fun w' hw' => ⟨_, _, by go_simp, (HCd.out _).2 (((HCd.out _).1 hw').alloc ((HCd.out _).1 hw').size _), (Below.refl _ _).alloc (Nat.le_refl _) _, ⟨w'.heap.size, rfl, Blk.new _ _ _, ((HCd.out _).1 hw').size⟩⟩) ?_
        rintro u ⟨wu, Do, rfl, _, _⟩
        refine wpM_part (fun a D D' hd h w' hC hD' => h w' hC (hd w' hD')) ⟨_, HC0.out⟩ 1 11 (by kernel_rfl) (by kernel_rfl) (by kernel_rfl) ?_
        simp only [List.take_succ_cons, List.take_zero, List.drop_succ_cons, List.drop_zero]
        repeat (first | go_big_quiet_step (fail) | quiet_step (fail))
        refine wpQuiet_nil ?_
        refine wpM_many (fun a D D' hd h w' hC hD' => h w' hC (hd w' hD')) rfl (by kernel_rfl) (fun u w' => ∃ D, u = .pointer (some ⟨D, 0, none⟩) ∧ Blk w' D 179 #[.string nm, .slice A l.length cp, .map (some M), .slice (some ⟨Ds, 0, none⟩) l.length l.length, .slice (some ⟨Do, 0, none⟩) l.length l.length] ∧ wr.heap.size ≤ D) (fun u w1 w2 ⟨Ds, h1, h2, h3⟩ hb => ⟨Ds, h1, h2.next hb, h3⟩) (fun w' hw' => ⟨_, _, by go_simp, (HCd.out _).2 (((HCd.out _).1 hw').alloc ((HCd.out _).1 hw').size _), (Below.refl _ _).alloc (Nat.le_refl _) _, ⟨w'.heap.size, rfl, Blk.new _ _ _, ((HCd.out _).1 hw').size⟩⟩) ?_
        rintro u ⟨wu, D, rfl, _, _⟩
        refine wpM_many (fun a D D' hd h w' hC hD' => h w' hC (hd w' hD')) rfl (by kernel_rfl) (fun u w' => ∃ V8, u = .pointer (some ⟨V8, 0, none⟩) ∧ Blk w' V8 176 #[.pointer none] ∧ wr.heap.size ≤ V8) (fun u w1 w2 ⟨Ds, h1, h2, h3⟩ hb => ⟨Ds, h1, h2.next hb, h3⟩) (fun w' hw' => ⟨_, _, by go_simp, (HCd.out _).2 (((HCd.out _).1 hw').alloc ((HCd.out _).1 hw').size _), (Below.refl _ _).alloc (Nat.le_refl _) _, ⟨w'.heap.size, rfl, Blk.new _ _ _, ((HCd.out _).1 hw').size⟩⟩) ?_
        rintro u ⟨wu, V8, rfl, _, _⟩
        refine wpM_nil ?_
        intro wf hC hD
        obtain ⟨⟨⟨⟨_, Ds', e1, bS, lS⟩, Do', e2, bO, lO⟩, D', e3, bD, lB⟩, V8', e4, bV, lV⟩ := hD
        simp only [Value.slice.injEq, Value.pointer.injEq, Option.some.injEq, Addr.mk.injEq, and_true] at e1 e2 e3 e4
        subst e1 e2 e3 e4
        obtain ⟨K, hK⟩ : ∃ K : OfK, K = ⟨w, D, Ds, Do, M, nm, l, A, cp⟩ := ⟨_, rfl⟩
        have hbf := (HCd.out _).1 hC
        have hS0 := HS.out.next hbf
        have hwl := HS.out.bel.size
        rw [HCM.out] at bS
        rw [HCB.out] at bO
        have hO0 : OfS K (fun _ => none) (fun _ => false) wf := by
          rw [hK]
          exact ⟨bD, bS, bO, hS0.m, fun i g mm _ h => (by cases h), hS0.bel, ⟨by show w.heap.size ≤ Ds; omega, by show w.heap.size ≤ Do; omega⟩⟩
        have hTs := Touch.setCell wf V8 0 (.pointer (some ⟨D, 0, none⟩))
        have hKD : K.D = D := by rw [hK]
        have hK1 : CkS K D0 V3 V8 (fun _ => none) (wf.setCell ⟨V8, 0, none⟩ (.pointer (some ⟨D, 0, none⟩))) := by
          refine ⟨hO0.far hTs (fun e => hO0.d.ne_ bV (by decide) e) (fun e => hO0.s.ne_ bV (by decide) e) (fun e => hO0.o.ne_ bV (by decide) e) (fun e => hO0.m.notBlk bV e) (fun i g mm _ h => (by cases h)) (fun k hk => by rw [hk, hK]; show w.heap.size ≤ V8; omega), ?_, ?_, ?_⟩
          · rw [hK]; exact hTs.blk hS0.d (fun e => hS0.d.ne_ bV (by decide) e)
          · rw [hK]; exact hTs.blk hS0.v (fun e => hS0.v.ne_ bV (by decide) e)
          · rw [hKD]; exact bV.set_ 0 _
        have d1' : wf.cell? ⟨D0, 1, none⟩ = some (.slice A l.length cp) := hS0.d.cell 1
        have nD : D0 ≠ V8 := hS0.d.ne_ bV (by decide)
        have nD' : V8 ≠ D0 := fun e => nD e.symm
        have lD' := hS0.d.lt
        have v0 : wf.cell? ⟨V8, 0, none⟩ = some (.pointer none) := bV.cell 0
        have vf := bV.free 0
        have vl := bV.lt
        have HKE := hid hK
        have HK1 := hid hK1
        clear hK hKD hTs hO0 hS0 hwl bS bO bD bV lS lO lB lV hC hbf d0 d1 lD c3 l3 hmkB hmkM HS HC0 HCd hne HCM HCB
        go_wp2_with fail
        obtain ⟨W2, hW2⟩ : ∃ W2, W2 = wf.setCell ⟨V8, 0, none⟩ (.pointer (some ⟨D, 0, none⟩)) := ⟨_, rfl⟩
        rw [← hW2] at HK1
        rw [← hW2]
        clear hW2 v0 vf vl d1' nD nD' lD'
        go_loopw [49] (fun v wr => ∃ (k : Nat) (S : Sets), k ≤ l.length ∧ v = .int .i64 k ∧ Hid (∀ j, j < k → ∃ q, S j = some q) ∧ Hid (CkS K D0 V3 V8 S wr)) (fun v _ => l.length - nOf v)
        case atStart => exact ⟨0, _, Nat.zero_le _, rfl, hid (fun j hj => by omega), HK1⟩
        case round =>
          clear HK1
          obtain ⟨k, S, hk, rfl, HP, HS⟩ := hrel
          by_cases hlt : k < l.length
          · have v0 : wr.cell? ⟨V8, 0, none⟩ = some (.pointer (some ⟨D, 0, none⟩)) := by have := HS.out.p.cell 0; rw [HKE.out] at this; exact this
            have vl := HS.out.p.lt
            have KO := hid (of_any K (by rw [HKE.out]; exact HR.out) (by rw [HKE.out]; exact HOK.out) (by rw [HKE.out]; exact HN.out) (by rw [HKE.out]; exact hl) (shutN K.l.length fun _ => false) k wr S (fun _ => false) (by rw [HKE.out]; exact hlt) HS.out.s (fun j _ h => by cases h) (Nat.le_refl _))
            have KO2 : Hid (Calls Tryz.prog 90 #[.pointer (some ⟨D, 0, none⟩), .int .i64 (k : Int)] wr (OfR K S (fun _ => false) k wr)) := hid (by have := KO.out; rw [HKE.out] at this ⊢; exact this)
            clear KO
            go_wp2_with fail
            refine KO2.out.mono ?_
            rintro e w3 ⟨hT3, h3⟩
            rcases h3 with ⟨hcy, rfl⟩ | ⟨g, mm, S', rfl, hS', hk', hx', _⟩
            · have HV := hid (show checkN l = 113 from checkN_cyc HN.out HONE.out (fun ha => by
                obtain ⟨j, hj⟩ := hcy
                rw [HKE.out] at hj
                exact ha j hj))
              have HB := hid (show Below w.heap.size w w3 from by
                have h1 := HS.out.s.bel
                have h2 := HS.out.s.lo
                rw [HKE.out] at h1 h2 hT3
                exact h1.trans (hT3.below h1.size (fun k hk => hk.elim (fun e => by rw [e]; exact h2.1) (fun e => by rw [e]; exact h2.2))))
              clear hT3 hcy v0 vl KO2
              go_wp2_with fail
              go_ret
              exact ⟨by rw [HV.out]; rfl, HB.out⟩
            · have HS3 := hid (HS.out.asked hT3 hS')
              have HP3 := hid (show ∀ j, j < k + 1 → ∃ q, S' j = some q from fun j hj => by
                by_cases e : j = k
                · subst e; exact ⟨_, hk'⟩
                · obtain ⟨q, hq⟩ := HP.out j (by omega); exact ⟨q, hx' j q hq⟩)
              clear hT3 hS' hk' hx' v0 vl KO2
              go_wp2_with fail
              go_roundw
              case rel => exact ⟨k + 1, S', by omega, by go_num, HP3, HS3⟩
              case measure => simp [nOf]; omega
          · have hk' : k = l.length := by omega
            have HSO := hid (show ∀ j, j < l.length → ∃ g mm, S j = some (g, mm) ∧ SetOk (grf l) j mm from fun j hj => by
              obtain ⟨⟨g, mm⟩, hq⟩ := HP.out j (by omega)
              have := (HS.out.s.sets j g mm (by rw [HKE.out]; exact hj) hq).2.1
              rw [HKE.out] at this
              exact ⟨g, mm, hq, this⟩)
            have HACY := hid (show Acy (grf l) from acy_of (grf_shut HN.out) (fun j hj => by
              rw [grf_len] at hj
              obtain ⟨g, mm, _, h⟩ := HSO.out j hj
              exact h.clean))
            subst hk'
            clear hk hlt HP
            have d1 : wr.cell? ⟨D0, 1, none⟩ = some (.slice A l.length cp) := by have := HS.out.d.cell 1; rw [HKE.out] at this; exact this
            have lD := HS.out.d.lt
            go_wp2_with fail
            clear d1 lD
            go_loopw [64] (fun v wr => ∃ k : Nat, k ≤ l.length ∧ v = .int .i64 k ∧ Hid (∀ j y, j < k → l[j]? = some y → isFin y = true → ¬ ∃ x ∈ l, isFin x = false ∧ ¬ Rch (grf l) j (l.findIdx (isNm x.name))) ∧ Hid (CkS K D0 V3 V8 S wr)) (fun v _ => l.length - nOf v)
            case atStart => exact ⟨0, Nat.zero_le _, rfl, hid (fun j y hj => by omega), HS⟩
            case round =>
              clear HS
              obtain ⟨k, hk, rfl, HP, HS⟩ := hrel
              by_cases hlt : k < l.length
              · obtain ⟨x, hx⟩ : ∃ x, l[k]? = some x := ⟨l[k], List.getElem?_eq_getElem hlt⟩
                obtain ⟨b, o, hAA, _, hcc⟩ := (HR.out.below (show Below w.heap.size w wr from by have := HS.out.s.bel; rw [HKE.out] at this; exact this)).at_ 9 enSt_len (by omega) hx
                obtain ⟨g, mm, hsk, hso⟩ := HSO.out k hlt
                have HX := hid hx
                obtain ⟨f, hf⟩ : ∃ f, f = isFin x := ⟨_, rfl⟩
                have HF := hid hf
                clear hx hf
                obtain ⟨xn, xv, xu, xe, xf, xr, xy, xw, xA, xc, xl⟩ := x
                subst hAA
                have q0 : wr.cell? ⟨b, o + k * 9, none⟩ = some (.string xn) := hcc 0 _ rfl
                have q1 : wr.cell? ⟨b, o + k * 9 + 1, none⟩ = some (.string xv) := hcc 1 _ rfl
                have q2 : wr.cell? ⟨b, o + k * 9 + 2, none⟩ = some (.string xu) := hcc 2 _ rfl
                have q3 : wr.cell? ⟨b, o + k * 9 + 3, none⟩ = some (.string xe) := hcc 3 _ rfl
                have q4 : wr.cell? ⟨b, o + k * 9 + 4, none⟩ = some (.bool xf) := hcc 4 _ rfl
                have q5 : wr.cell? ⟨b, o + k * 9 + 5, none⟩ = some (.int .i64 xr) := hcc 5 _ rfl
                have q6 : wr.cell? ⟨b, o + k * 9 + 6, none⟩ = some (.int .i64 xy) := hcc 6 _ rfl
                have q7 : wr.cell? ⟨b, o + k * 9 + 7, none⟩ = some (.int .i64 xw) := hcc 7 _ rfl
                have q8 : wr.cell? ⟨b, o + k * 9 + 8, none⟩ = some (.slice xA xl.length xc) := hcc 8 _ rfl
                have hwb : Below wr.heap.size wr ((wr.alloc (.cells #[.int .i64 (k : Int)] 3)).alloc (.cells #[.string xn, .string xv, .string xu, .string xe, .bool xf, .int .i64 xr, .int .i64 xy, .int .i64 xw, .slice xA xl.length xc] 69)) := ((Below.refl _ _).alloc (Nat.le_refl _) _).alloc (by simp) _
                have hG := Blk.new (wr.alloc (.cells #[.int .i64 (k : Int)] 3)) 69 #[.string xn, .string xv, .string xu, .string xe, .bool xf, .int .i64 xr, .int .i64 xy, .int .i64 xw, .slice xA xl.length xc]
                rw [World.size_alloc] at hG
                have HS1 := hid (And.intro (HS.out.next hwb) (And.intro ((Blk.new wr 3 #[.int .i64 (k : Int)]).alloc (.cells #[.string xn, .string xv, .string xu, .string xe, .bool xf, .int .i64 xr, .int .i64 xy, .int .i64 xw, .slice xA xl.length xc] 69)) hG))
                clear hcc hwb HS hG
                go_upto_region 22 with fail
                clear q0 q1 q2 q3 q4 q5 q6 q7 q8
                obtain ⟨wz, hwz⟩ : ∃ wz, wz = (wr.alloc (.cells #[.int .i64 (k : Int)] 3)).alloc (.cells #[.string xn, .string xv, .string xu, .string xe, .bool xf, .int .i64 xr, .int .i64 xy, .int .i64 xw, .slice xA xl.length xc] 69) := ⟨_, rfl⟩
                obtain ⟨G, hG⟩ : ∃ G, G = wr.heap.size + 1 := ⟨_, rfl⟩
                obtain ⟨V12, hV12⟩ : ∃ V12, V12 = wr.heap.size := ⟨_, rfl⟩
                rw [← hwz, ← hG, ← hV12] at HS1
                rw [← hwz, ← hG, ← hV12]
                clear hwz hG hV12
                have g3 : wz.cell? ⟨G, 3, none⟩ = some (.string xe) := HS1.out.2.2.cell 3
                have g4 : wz.cell? ⟨G, 4, none⟩ = some (.bool xf) := HS1.out.2.2.cell 4
                have lG := HS1.out.2.2.lt
                have d1 : wz.cell? ⟨D0, 1, none⟩ = some (.slice (some ⟨b, o, none⟩) l.length cp) := by have := HS1.out.1.d.cell 1; rw [HKE.out] at this; exact this
                have lD := HS1.out.1.d.lt
                have HNX : f = false → Hid (∀ j y, j < k + 1 → l[j]? = some y → isFin y = true → ¬ ∃ x ∈ l, isFin x = false ∧ ¬ Rch (grf l) j (l.findIdx (isNm x.name))) := fun hf0 => hid (fun j y hj hy hfy => by
                  by_cases e : j = k
                  · subst e
                    rw [HX.out] at hy
                    injection hy with hy
                    subst hy
                    rw [← HF.out, hf0] at hfy
                    cases hfy
                  · exact HP.out j y (by omega) hy hfy)
                have HNX := hid HNX
                cases he : xe.toList.isEmpty with
                | false =>
                  have HP2 := hid (HNX.out (by rw [HF.out]; simp [isFin, he]))
                  clear HNX HP HF HX
                  go_wp2_with fail
                  go_roundw
                  case rel => exact ⟨k + 1, by omega, by go_num, HP2.out, hid HS1.out.1⟩
                  case measure => simp [nOf]; omega
                | true =>
                  cases xf with
                  | false =>
                    have HP2 := hid (HNX.out (by rw [HF.out]; simp [isFin]))
                    clear HNX HP HF HX
                    go_wp2_with fail
                    go_roundw
                    case rel => exact ⟨k + 1, by omega, by go_num, HP2.out, hid HS1.out.1⟩
                    case measure => simp [nOf]; omega
                  | true =>
                    have HFT := hid (show f = true from by rw [HF.out]; simp [isFin, he])
                    have hwb2 : Below w.heap.size w wz := by have := HS1.out.1.s.bel; rw [HKE.out] at this; exact this
                    have KC := hid (containsS3_any l (some ⟨b, o, none⟩) cp 92 (.pointer (some ⟨V8, 0, none⟩)) (.pointer (some ⟨V12, 0, none⟩)) (.pointer (some ⟨V3, 0, none⟩)) (finP l mm) wz (HR.out.below hwb2) (by omega) (fun _ _ => by go_simp) (fun y hy w' hb' => by
                      have h1 := HS1.out.1.next hb'
                      have := chk1_any K S (fun _ => false) k g V8 V12 V3 mm w' (by rw [HKE.out]; exact hlt) h1.s hsk (by rw [HKE.out]; exact HN.out) y (by rw [HKE.out]; exact hy) h1.p (HS1.out.2.1.next hb') h1.v
                      rw [HKE.out] at this
                      exact this))
                    have HFA := hid (finP_any hso)
                    clear hwb2 hsk hso HNX
                    generalize hfa : l.any (finP l mm) = fa at KC HFA
                    clear hfa
                    cases fa with
                    | false =>
                      have HP2 := hid (show ∀ j y, j < k + 1 → l[j]? = some y → isFin y = true → ¬ ∃ x ∈ l, isFin x = false ∧ ¬ Rch (grf l) j (l.findIdx (isNm x.name)) from fun j y hj hy hfy => by
                        by_cases e : j = k
                        · subst e
                          intro hh
                          have := HFA.out.2 hh
                          cases this
                        · exact HP.out j y (by omega) hy hfy)
                      clear HFA HP HF HX HFT
                      go_wp2_with fail
                      refine KC.out.mono ?_
                      rintro e w5 ⟨rfl, hb5⟩
                      have HS5 := hid (HS1.out.1.next hb5)
                      clear HS1 hb5 KC g3 g4 lG d1 lD
                      go_wp2_with fail
                      go_roundw
                      case rel => exact ⟨k + 1, by omega, by go_num, HP2, HS5⟩
                      case measure => simp [nOf]; omega
                    | true =>
                      have HV := hid (show checkN l = 114 from checkN_fin HN.out HONE.out HACY.out ⟨k, _, HX.out, by rw [← HF.out]; exact HFT.out, HFA.out.1 rfl⟩)
                      clear HFA HP HF HX HFT
                      go_wp2_with fail
                      refine KC.out.mono ?_
                      rintro e w5 ⟨rfl, hb5⟩
                      have HB5 := hid (HS1.out.1.next hb5).s.bel
                      clear HS1 hb5 KC g3 g4 lG d1 lD
                      go_wp2_with fail
                      go_ret
                      exact ⟨by rw [HV.out]; rfl, by have := HB5.out; rw [HKE.out] at this; exact this⟩
              · have hk' : k = l.length := by omega
                have HV := hid (show checkN l = 0 from checkN_ok HN.out HONE.out HACY.out (fun ⟨i, s, hs, hf, hx⟩ => HP.out i s (by have := (List.getElem?_eq_some_iff.1 hs).1; omega) hs hf hx))
                have HB5 := hid HS.out.s.bel
                subst hk'
                clear hk hlt HP
                go_wp2_with fail
                go_ret
                exact ⟨by rw [HV.out]; rfl, by have := HB5.out; rw [HKE.out] at this; exact this⟩
  · have HV := hid (checkN_name hN)
    have HB := hid (bthen HB0.out.2 hb1)
    clear hN KN HB0
    go_wp2_with fail
    go_ret
    exact ⟨by rw [HV.out]; rfl, HB.out.alloc HB.out.size _⟩

end Go.Proofs.YtoemmakhbiiknaaGreat

namespace Go.Proofs.YtoemmakhbiiknaaGreat
open Go.RowKit Go.WideShapes Go.ChangeShapes Go.ChangeAt Go.Deep
set_option linter.unusedVariables false

section
variable {α κ : Type} {key : α → κ} {lt : κ → κ → Bool} {r : List α} {z y : α} {k : Nat}

/-- The list with z standing ahead of place k. -/
def midK (r : List α) (z : α) (k : Nat) : List α := r.take k ++ z :: r.drop k
theorem midK_len (hkl : k ≤ r.length) : (midK r z k).length = r.length + 1 := by unfold midK; simp; omega
theorem midK_here (hkl : k ≤ r.length) : (midK r z k)[k]? = some z := by
  unfold midK
  have hl : (r.take k).length = k := by simp; omega
  rw [List.getElem?_append_right (by omega), hl, Nat.sub_self]; rfl
theorem midK_at (hk : 0 < k) (hkl : k ≤ r.length) : (midK r z k)[k - 1]? = r[k - 1]? := by
  unfold midK
  rw [List.getElem?_append_left (by simp; omega), List.getElem?_take_of_lt (by omega)]
theorem midK_end : midK r z r.length = r ++ [z] := by unfold midK; simp
theorem midK_step (hk : 0 < k) (hkl : k ≤ r.length) (hy : r[k - 1]? = some y) : ((midK r z k).set k y).set (k - 1) z = midK r z (k - 1) := by
  unfold midK
  have hk1 : k - 1 < r.length := by omega
  have hl : (r.take k).length = k := by simp; omega
  have e2 : r.take k = r.take (k - 1) ++ [y] := by
    have := List.take_succ_eq_append_getElem (l := r) (i := k - 1) hk1
    rw [show k - 1 + 1 = k from by omega, (List.getElem?_eq_some_iff.1 hy).2] at this
    exact this
  have e3 : r.drop (k - 1) = y :: r.drop k := by
    rw [List.drop_eq_getElem_cons hk1, (List.getElem?_eq_some_iff.1 hy).2, show k - 1 + 1 = k from by omega]
  have hl1 : (r.take (k - 1)).length = k - 1 := by simp; omega
  rw [List.set_append_right _ _ (by omega), hl, Nat.sub_self, List.set_cons_zero, e2, e3, List.append_assoc, List.set_append_right _ _ (by omega), hl1, Nat.sub_self]
  rfl
/-- What stands behind place k has greater keys. -/
def Behind (key : α → κ) (lt : κ → κ → Bool) (r : List α) (z : α) (k : Nat) : Prop := ∀ j y, k ≤ j → r[j]? = some y → lt (key z) (key y) = true
theorem behind_end : Behind key lt r z r.length := fun j y hj hy => by rw [List.getElem?_eq_none hj] at hy; cases hy
theorem behind_step (h : Behind key lt r z k) (hk : 0 < k) (hy : r[k - 1]? = some y) (hlt : lt (key z) (key y) = true) : Behind key lt r z (k - 1) := fun j x hj hx => by
  by_cases e : j = k - 1
  · subst e; rw [hy] at hx; injection hx with hx; subst hx; exact hlt
  · exact h j x (by omega) hx
theorem midK_done (L : LinK lt) (hs : SortedK key lt r) (hn : key z ∉ r.map key) (hkl : k ≤ r.length) (h : Behind key lt r z k) (hf : ∀ y, 0 < k → r[k - 1]? = some y → lt (key z) (key y) = false) : midK r z k = insK key lt r z := by
  have hp : posK key lt r (key z) = k := by
    refine posK_eq hkl (fun j x hj hx => ?_) (fun x hx => ?_)
    · have hk1 : k - 1 < r.length := by omega
      have hy : r[k - 1]? = some r[k - 1] := List.getElem?_eq_getElem hk1
      have h1 := hf _ (by omega) hy
      have hne : ∀ x ∈ r, key x ≠ key z := fun x hx e => hn (by rw [← e]; exact List.mem_map_of_mem hx)
      have h2 : lt (key r[k - 1]) (key z) = true := by
        cases hc : lt (key r[k - 1]) (key z) with
        | true => rfl
        | false => exact absurd (L.total _ _ hc h1) (hne _ (List.getElem_mem hk1))
      by_cases e : j = k - 1
      · subst e; rw [hy] at hx; injection hx with hx; subst hx; exact h2
      · have hjl := (List.getElem?_eq_some_iff.1 hx).1
        have := (List.pairwise_iff_getElem.1 hs) j (k - 1) hjl hk1 (by omega)
        rw [(List.getElem?_eq_some_iff.1 hx).2] at this
        exact L.trans _ _ _ this h2
    · have h1 := h k x (Nat.le_refl _) hx
      cases hc : lt (key x) (key z) with
      | false => rfl
      | true => have := L.trans _ _ _ h1 hc; rw [L.irrefl] at this; cases this
  unfold insK midK
  rw [hp]

/-- The row, as the loop holds it. -/
structure InsRow (enc : α → List Value) (s : Nat) (t : TypeId) (base g cap : Nat) (w4 : World) (l : List α) (w : World) : Prop where
  own : w.ownsRow base t s (.slice (some ⟨g, 0, none⟩) l.length cap) l.length (l.flatMap enc)
  touch : Touch (· = g) w4 w
variable {enc : α → List Value} {s : Nat} {t : TypeId} {base g cap : Nat} {w4 w : World} {l : List α}
theorem InsRow.next {w' : World} (h : InsRow enc s t base g cap w4 l w) (hb : Below w.heap.size w w') : InsRow enc s t base g cap w4 l w' :=
  ⟨h.own.kept (grown_of_below hb none) (by cases hv : (Value.slice (some ⟨g, 0, none⟩) l.length cap).ownBlock <;> simp), h.touch.then (.of_below hb)⟩
theorem InsRow.drew (h : InsRow enc s t base g cap w4 l w) : InsRow enc s t base g cap w4 l w.drew := h.next (below_drewN (Below.refl _ _) 1)
theorem InsRow.alloc (h : InsRow enc s t base g cap w4 l w) (o : Obj) : InsRow enc s t base g cap w4 l (w.alloc o) := h.next ((Below.refl _ _).alloc (Nat.le_refl _) o)
theorem InsRow.elem (hs : ∀ x, (enc x).length = s) (h : InsRow enc s t base g cap w4 l w) {k : Nat} {y : α} (hk : l[k]? = some y) : CellsAt w g (k * s) (enc y) := by
  have hkl := (List.getElem?_eq_some_iff.1 hk).1
  obtain ⟨g', cap', e, hb, hlt⟩ := own_form h.own (by omega)
  injection e with e1 e2 e3
  injection e1 with e1
  injection e1 with e1
  subst e1
  exact ⟨hlt, fun j u hu => own_cells hs h.own hk hu⟩
theorem InsRow.free (h : InsRow enc s t base g cap w4 l w) (i : Nat) : w.frozen? ⟨g, i, none⟩ = false := own_free h.own i
theorem InsRow.put (hs : ∀ x, (enc x).length = s) (h : InsRow enc s t base g cap w4 l w) {k : Nat} (hk : k < l.length) (x : α) : InsRow enc s t base g cap w4 (l.set k x) (storeMany w g (k * s) (enc x)) := by
  obtain ⟨h1, h2⟩ := own_set hs h.own hk x
  exact ⟨h1, h.touch.then (Touch.of_grown h2)⟩
theorem InsRow.field (hs : ∀ x, (enc x).length = s) (h : InsRow enc s t base g cap w4 l w) {k j : Nat} {x x' : α} {v : Value} (hk : l[k]? = some x) (hj : j < s) (hx : enc x' = (enc x).set j v) : InsRow enc s t base g cap w4 (l.set k x') (w.setCell ⟨g, k * s + j, none⟩ v) := by
  obtain ⟨h1, h2⟩ := own_field hs h.own hk hj v x' hx
  exact ⟨h1, h.touch.then (Touch.of_grown h2)⟩
end

/-- A row's own block is of its type. -/
theorem own_other {w : World} {base base' n n' : Nat} {e e' : TypeId} {size size' : Nat} {v v' : Value} {xs xs' : List Value} (h : w.ownsRow base e size v n xs) (h' : w.ownsRow base' e' size' v' n' xs') (hne : e ≠ e') {g : Nat} (hg : v'.ownBlock = some g) : v.ownBlock ≠ some g := by
  intro he
  rcases h.2 with ⟨rfl, _⟩ | ⟨g1, cap, cur, rfl, _, hh, _⟩
  · simp [Value.ownBlock] at he
  · rcases h'.2 with ⟨rfl, _⟩ | ⟨g2, cap2, cur2, rfl, _, hh2, _⟩
    · simp [Value.ownBlock] at hg
    · have e1 : g1 = g := by simpa [Value.ownBlock] using he
      have e2 : g2 = g := by simpa [Value.ownBlock] using hg
      subst e1 e2
      rw [hh] at hh2
      injection hh2 with hh2
      injection hh2 with _ h2
      exact hne h2

end Go.Proofs.YtoemmakhbiiknaaGreat

namespace Go.Proofs.YtoemmakhbiiknaaGreat
open Go.RowKit Go.WideShapes Go.ChangeShapes Go.ChangeAt Go.Deep
set_option linter.unusedVariables false

/-- A row of numbers in a plan. -/
structure IRow where
  A : Option Addr
  cap : Nat
  xs : List Int
def enR (b : IRow) : List Value := [.slice b.A b.xs.length b.cap]
theorem enR_len (b : IRow) : (enR b).length = 1 := rfl
def OwnR (base : Nat) (w : World) (b : IRow) : Prop := w.ownsRow base 3 1 (.slice b.A b.xs.length b.cap) b.xs.length (b.xs.flatMap en1)
theorem own_next {w w' : World} {base : Nat} {e : TypeId} {size : Nat} {v : Value} {n : Nat} {xs : List Value} (h : w.ownsRow base e size v n xs) (hb : Below w.heap.size w w') : w'.ownsRow base e size v n xs := own_touch h (Touch.of_below (S := fun _ => False) hb) (fun g _ hf => hf)
def planC (nm : ByteArray) (vS vB : Value) : Array Value := #[.string nm, vS, vB, .int .u32 0, .int .i32 0, .int .u32 0, .slice none 0 0, .int .i64 0]
structure CmS (w0 : World) (nm : ByteArray) (l : List Stp) (A : Option Addr) (cp D0 V6 P M : Nat) (am : List (ByteArray × Int)) (vS vB : Value) (Ls : List Stp) (Bs : List IRow) (w : World) : Prop where
  d : Blk w D0 60 #[.string nm, .slice A l.length cp]
  v : Blk w V6 147 #[.map (some M)]
  m : IsMap w M kS vN am
  p : Blk w P 126 (planC nm vS vB)
  os : w.ownsRow w0.heap.size 69 9 vS Ls.length (Ls.flatMap enSt)
  ob : w.ownsRow w0.heap.size 38 1 vB Bs.length (Bs.flatMap enR)
  st : ∀ s ∈ Ls, OwnSt w0.heap.size w s
  rw : ∀ b ∈ Bs, OwnR w0.heap.size w b
  bel : Below w0.heap.size w0 w
  lo : w0.heap.size ≤ P ∧ w0.heap.size ≤ M
section
variable {w0 : World} {nm : ByteArray} {l : List Stp} {A : Option Addr} {cp D0 V6 P M : Nat} {am am' : List (ByteArray × Int)} {vS vB u : Value} {Ls : List Stp} {Bs : List IRow} {w w' : World}
theorem CmS.next (h : CmS w0 nm l A cp D0 V6 P M am vS vB Ls Bs w) (hb : Below w.heap.size w w') : CmS w0 nm l A cp D0 V6 P M am vS vB Ls Bs w' :=
  ⟨h.d.next hb, h.v.next hb, h.m.next hb, h.p.next hb, own_next h.os hb, own_next h.ob hb, fun s hs => own_next (h.st s hs) hb, fun b hbb => own_next (h.rw b hbb) hb, bthen h.bel hb, h.lo⟩
theorem CmS.map (h : CmS w0 nm l A cp D0 V6 P M am vS vB Ls Bs w) (hT : Touch (· = M) w w') (hM : IsMap w' M kS vN am') : CmS w0 nm l A cp D0 V6 P M am' vS vB Ls Bs w' :=
  have no : ∀ {base : Nat} {e : TypeId} {size : Nat} {v : Value} {n : Nat} {xs : List Value}, w.ownsRow base e size v n xs → w'.ownsRow base e size v n xs := fun ho => own_touch ho hT (fun g hg e => h.m.notOwn ho (by rw [hg, e]))
  ⟨hT.blk h.d (fun e => h.m.notBlk h.d e.symm), hT.blk h.v (fun e => h.m.notBlk h.v e.symm), hM, hT.blk h.p (fun e => h.m.notBlk h.p e.symm), no h.os, no h.ob, fun s hs => no (h.st s hs), fun b hb => no (h.rw b hb), h.bel.trans (hT.below h.bel.size (fun k hk => by rw [hk]; exact h.lo.2)), h.lo⟩
/-- The row of the steps has one more. -/
theorem CmS.grewS (h : CmS w0 nm l A cp D0 V6 P M am vS vB Ls Bs w) (hT : Touch (fun k => vS.ownBlock = some k) w w') (t : Stp) (ho : w'.ownsRow w0.heap.size 69 9 u (Ls.length + 1) (Ls.flatMap enSt ++ enSt t)) (ht : OwnSt w0.heap.size w' t) :
    CmS w0 nm l A cp D0 V6 P M am u vB (Ls ++ [t]) Bs (w'.setCell ⟨P, 1, none⟩ u) := by
  have no : ∀ {base : Nat} {e : TypeId} {size : Nat} {v : Value} {n : Nat} {xs : List Value}, 69 ≠ e → w.ownsRow base e size v n xs → w'.ownsRow base e size v n xs := fun hne ho2 => own_touch ho2 hT (fun g hg e => own_other h.os ho2 hne hg e)
  have hp := hT.blk h.p (fun e => own_notBlk h.os h.p (by decide) e)
  have hT2 := Touch.setCell w' P 1 u
  have no2 : ∀ {base : Nat} {e : TypeId} {size : Nat} {v : Value} {n : Nat} {xs : List Value}, e ≠ 126 → w'.ownsRow base e size v n xs → (w'.setCell ⟨P, 1, none⟩ u).ownsRow base e size v n xs := fun hne ho2 => own_touch ho2 hT2 (fun g hg e => own_notBlk ho2 hp hne (by rw [hg, e]))
  have hd := hT.blk h.d (fun e => own_notBlk h.os h.d (by decide) e)
  have hv := hT.blk h.v (fun e => own_notBlk h.os h.v (by decide) e)
  have hm := hT.isMap h.m (fun e => h.m.notOwn h.os e.symm)
  have hb := h.bel.trans (hT.below h.bel.size (fun k hk => (h.os.lt k hk).1))
  refine ⟨hT2.blk hd (fun e => hd.ne_ hp (by decide) e), hT2.blk hv (fun e => hv.ne_ hp (by decide) e), hT2.isMap hm (fun e => hm.notBlk hp e), hp.set_ 1 u, ?_, no2 (by decide) (no (by decide) h.ob), fun s hs => ?_, fun b hbb => no2 (by decide) (no (by decide) (h.rw b hbb)), hb.trans (hT2.below hb.size (fun k hk => by rw [hk]; exact h.lo.1)), h.lo⟩
  · have := no2 (by decide) ho
    rw [List.flatMap_append, List.length_append]
    simpa using this
  · rcases List.mem_append.1 hs with hs | hs
    · exact no2 (by decide) (no (by decide) (h.st s hs))
    · simp at hs; subst hs; exact no2 (by decide) ht
/-- The row of the rows has one more. -/
theorem CmS.grewB {g0 : Option Nat} (h : CmS w0 nm l A cp D0 V6 P M am vS vB Ls Bs w) (hT : Touch (fun k => vB.ownBlock = some k ∨ g0 = some k) w w') (hg0 : ∀ k, g0 = some k → w0.heap.size ≤ k)
    (hnd : g0 ≠ some D0) (hnv : g0 ≠ some V6) (hnp : g0 ≠ some P) (hnm : g0 ≠ some M) (hns : ∀ k, vS.ownBlock = some k → g0 ≠ some k) (hnst : ∀ s ∈ Ls, ∀ k, (Value.slice s.A s.after.length s.cap).ownBlock = some k → g0 ≠ some k) (hnr : ∀ b ∈ Bs, ∀ k, (Value.slice b.A b.xs.length b.cap).ownBlock = some k → g0 ≠ some k)
    (t : IRow) (ho : w'.ownsRow w0.heap.size 38 1 u (Bs.length + 1) (Bs.flatMap enR ++ enR t)) (ht : OwnR w0.heap.size w' t) :
    CmS w0 nm l A cp D0 V6 P M am vS u Ls (Bs ++ [t]) (w'.setCell ⟨P, 2, none⟩ u) := by
  have no : ∀ {base : Nat} {e : TypeId} {size : Nat} {v : Value} {n : Nat} {xs : List Value}, 38 ≠ e → (∀ k, v.ownBlock = some k → g0 ≠ some k) → w.ownsRow base e size v n xs → w'.ownsRow base e size v n xs := fun hne hg1 ho2 => own_touch ho2 hT (fun g hg e => e.elim (fun e => own_other h.ob ho2 hne hg e) (fun e => hg1 g hg e))
  have hp := hT.blk h.p (fun e => e.elim (fun e => own_notBlk h.ob h.p (by decide) e) hnp)
  have hT2 := Touch.setCell w' P 2 u
  have no2 : ∀ {base : Nat} {e : TypeId} {size : Nat} {v : Value} {n : Nat} {xs : List Value}, e ≠ 126 → w'.ownsRow base e size v n xs → (w'.setCell ⟨P, 2, none⟩ u).ownsRow base e size v n xs := fun hne ho2 => own_touch ho2 hT2 (fun g hg e => own_notBlk ho2 hp hne (by rw [hg, e]))
  have hd := hT.blk h.d (fun e => e.elim (fun e => own_notBlk h.ob h.d (by decide) e) hnd)
  have hv := hT.blk h.v (fun e => e.elim (fun e => own_notBlk h.ob h.v (by decide) e) hnv)
  have hm := hT.isMap h.m (fun e => e.elim (fun e => h.m.notOwn h.ob e.symm) hnm)
  have hb := h.bel.trans (hT.below h.bel.size (fun k hk => hk.elim (fun hk => (h.ob.lt k hk).1) (hg0 k)))
  refine ⟨hT2.blk hd (fun e => hd.ne_ hp (by decide) e), hT2.blk hv (fun e => hv.ne_ hp (by decide) e), hT2.isMap hm (fun e => hm.notBlk hp e), hp.set_ 2 u, no2 (by decide) (no (by decide) hns h.os), ?_, fun s hs => no2 (by decide) (no (by decide) (hnst s hs) (h.st s hs)), fun b hbb => ?_, hb.trans (hT2.below hb.size (fun k hk => by rw [hk]; exact h.lo.1)), h.lo⟩
  · have := no2 (by decide) ho
    rw [List.flatMap_append, List.length_append]
    simpa using this
  · rcases List.mem_append.1 hbb with hbb | hbb
    · exact no2 (by decide) (no (by decide) (hnr b hbb) (h.rw b hbb))
    · simp at hbb; subst hbb; exact no2 (by decide) ht
end
/-- What is known of the steps that are in the plan. -/
structure PlG (l : List Stp) (ds : List Nat) (Ls : List Stp) (Bs : List IRow) : Prop where
  ls : Ls.length = ds.length
  bs : Bs.length = ds.length
  step : ∀ (p i : Nat), ds[p]? = some i → ∃ (s : Stp) (A : Option Addr) (cap : Nat), l[i]? = some s ∧ Ls[p]? = some (twn s A cap)
  row : ∀ (p i : Nat), ds[p]? = some i → ∃ b : IRow, Bs[p]? = some b ∧ BfOk (grf l) ds i b.xs
theorem PlG.nil (l : List Stp) : PlG l [] [] [] := ⟨rfl, rfl, fun p i h => by simp at h, fun p i h => by simp at h⟩
theorem PlG.snoc {l : List Stp} {ds : List Nat} {Ls : List Stp} {Bs : List IRow} (h : PlG l ds Ls Bs) (ho : OrdOk (grf l) ds) {i : Nat} {s : Stp} (hs : l[i]? = some s) (hi : ∀ k ∈ adj (grf l) i, k ∈ ds) (A : Option Addr) (cap : Nat) (b : IRow) (hb : BfOk (grf l) ds i b.xs) : PlG l (ds ++ [i]) (Ls ++ [twn s A cap]) (Bs ++ [b]) := by
  refine ⟨by simp [h.ls], by simp [h.bs], fun p j hp => ?_, fun p j hp => ?_⟩
  · by_cases hpl : p < ds.length
    · rw [List.getElem?_append_left hpl] at hp
      obtain ⟨s', A', c', h1, h2⟩ := h.step p j hp
      exact ⟨s', A', c', h1, by rw [List.getElem?_append_left (by rw [h.ls]; exact hpl)]; exact h2⟩
    · have hpe : p = ds.length := by have := (List.getElem?_eq_some_iff.1 hp).1; simp at this; omega
      subst hpe
      rw [List.getElem?_append_right (Nat.le_refl _)] at hp
      simp at hp
      subst hp
      exact ⟨s, A, cap, hs, by rw [List.getElem?_append_right (by rw [h.ls]; exact Nat.le_refl _), h.ls]; simp⟩
  · by_cases hpl : p < ds.length
    · rw [List.getElem?_append_left hpl] at hp
      obtain ⟨b', h1, h2⟩ := h.row p j hp
      refine ⟨b', by rw [List.getElem?_append_left (by rw [h.bs]; exact hpl)]; exact h1, h2.snoc (fun k hk => ?_)⟩
      exact List.mem_of_mem_take (ho.before p j hp k hk)
    · have hpe : p = ds.length := by have := (List.getElem?_eq_some_iff.1 hp).1; simp at this; omega
      subst hpe
      rw [List.getElem?_append_right (Nat.le_refl _)] at hp
      simp at hp
      subst hp
      exact ⟨b, by rw [List.getElem?_append_right (by rw [h.bs]; exact Nat.le_refl _), h.bs]; simp, hb.snoc hi⟩

end Go.Proofs.YtoemmakhbiiknaaGreat
