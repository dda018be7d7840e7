/-
  Layer 13: the laws' wakes.
  (*Engine).Put: its refusals.
  (*Engine).Put of a good instance.
  The engine's calls, where nothing is found, or the engine or the plan is nil.
  EngineNone: what is held in a round.
  The document's engine: Put.
-/
import Derived.Test.YtoemmakhbiiknaaGreatQe15
namespace Go.Proofs.YtoemmakhbiiknaaGreat
open Go.RowKit Go.WideShapes Go.ChangeShapes Go.ChangeAt Go.Deep
set_option linter.unusedVariables false

abbrev wkH : ByteArray := ⟨#[104, 111, 108, 100]⟩
abbrev wkP : ByteArray := ⟨#[112, 105, 99, 107]⟩
abbrev wkCH : ByteArray := ⟨#[99, 114, 101, 100, 105, 116, 46, 104, 111, 108, 100]⟩
abbrev wkCR : ByteArray := ⟨#[99, 114, 101, 100, 105, 116, 46, 114, 101, 108, 101, 97, 115, 101]⟩
abbrev wkSA : ByteArray := ⟨#[115, 116, 111, 99, 107, 46, 97, 108, 108, 111, 99, 97, 116, 101]⟩
abbrev wkSF : ByteArray := ⟨#[115, 116, 111, 99, 107, 46, 102, 114, 101, 101]⟩
def wkS0 : Stp := ⟨wkH, wkCH, wkCR, ⟨#[]⟩, false, 0, 0, 0, none, 0, []⟩
def wkS1 (ga : Option Addr) : Stp := ⟨wkP, wkSA, wkSF, ⟨#[]⟩, false, 1, 5, 0, ga, 1, [wkH]⟩
def wkM (ga : Option Addr) : List Stp := [wkS0, wkS1 ga]
theorem wkM_grf (ga : Option Addr) : grf (wkM ga) = [[], [0]] := by
  show grf (wkM none) = _
  decide +kernel
theorem wkM_ord (ga : Option Addr) : ordN (grf (wkM ga)) 2 = [0, 1] := by
  rw [wkM_grf]
  decide +kernel
theorem adj_wkM (i k : Nat) (h : k ∈ adj [[], [0]] i) : i = 1 ∧ k = 0 := by
  match i, h with
  | 0, h => simp [adj] at h
  | 1, h => simpa [adj] using h
  | n + 2, h => simp [adj] at h
theorem wkM_acy : Acy [[], [0]] := by
  have key : ∀ {i k : Nat}, Rch [[], [0]] i k → i = 1 ∧ k = 0 := by
    intro i k h
    induction h with
    | one h => exact adj_wkM _ _ h
    | step h r ih =>
      have h1 := adj_wkM _ _ h
      omega
  intro i h
  have := key h
  omega
theorem wkM_check (ga : Option Addr) : checkN (wkM ga) = 0 := by
  rw [checkN_zero_iff, wkM_grf]
  refine ⟨⟨?_, ?_⟩, wkM_acy, ?_, ?_⟩
  · show ([wkH, wkP] : List ByteArray).Nodup
    decide +kernel
  · show ∀ s ∈ wkM ga, ∀ a ∈ s.after, a ∈ [wkH, wkP]
    intro s hs a ha
    simp only [wkM, List.mem_cons, List.not_mem_nil, or_false] at hs
    rcases hs with rfl | rfl <;> simp [wkS0, wkS1] at ha <;> subst ha <;> simp
  · rintro ⟨i, s, hs, hf, _⟩
    have hs := List.mem_of_getElem? hs
    simp only [wkM, List.mem_cons, List.not_mem_nil, or_false] at hs
    rcases hs with rfl | rfl <;> simp [isFin, wkS0, wkS1] at hf
  · intro s hs
    simp only [wkM, List.mem_cons, List.not_mem_nil, or_false] at hs
    rcases hs with rfl | rfl
    · decide +kernel
    · show oneN (wkS1 none) = 0
      decide +kernel
/-- What the plan holds. -/
theorem wkM_rows {ga : Option Addr} {Ls : List Stp} {Bs : List IRow} (h : PlG (wkM ga) [0, 1] Ls Bs) : ∃ (A0 : Option Addr) (c0 : Nat) (A1 : Option Addr) (c1 : Nat) (b0 b1 : IRow), Ls = [twn wkS0 A0 c0, twn (wkS1 ga) A1 c1] ∧ Bs = [b0, b1] ∧ b0.xs = [] ∧ b1.xs = [0] ∧ RowsOk Ls Bs := by
  obtain ⟨s, A0, c0, h1, h2⟩ := h.step 0 0 rfl
  obtain rfl : s = wkS0 := by
    have h1' : some wkS0 = some s := h1
    exact (Option.some.inj h1').symm
  obtain ⟨s, A1, c1, h3, h4⟩ := h.step 1 1 rfl
  obtain rfl : s = wkS1 ga := by
    have h1' : some (wkS1 ga) = some s := h3
    exact (Option.some.inj h1').symm
  have hg := wkM_grf ga
  obtain ⟨b0, r0, g0⟩ := h.row 0 0 rfl
  obtain ⟨b1, r1, g1⟩ := h.row 1 1 rfl
  rw [hg] at g0 g1
  have e0 : b0.xs = [] := List.eq_nil_iff_forall_not_mem.2 (fun x hx => by
    obtain ⟨k, hk, _⟩ := (g0.2 x).1 hx
    have := adj_wkM _ _ hk
    omega)
  have e1 : b1.xs = [0] := rise_one g1.1 (fun y => by
    rw [g1.2]
    constructor
    · rintro ⟨k, hk, rfl⟩
      obtain ⟨_, rfl⟩ := adj_wkM _ _ hk
      decide
    · rintro rfl
      exact ⟨0, by decide, by decide⟩)
  have ho : OrdOk (grf (wkM ga)) [0, 1] := by
    rw [← wkM_ord ga]
    exact ordN_ok _ _
  have hL := h.ls
  have hB := h.bs
  have hr := h.rows ho (by decide)
  match Ls, hL, h2, h4 with
  | [x, y], _, h2, h4 =>
    match Bs, hB, r0, r1 with
    | [a, b], _, r0, r1 =>
      simp at h2 h4 r0 r1
      subst h2 h4 r0 r1
      exact ⟨A0, c0, A1, c1, a, b, rfl, rfl, e0, e1, hr⟩
theorem wk_st0 (A0 A1 ga : Option Addr) (c0 c1 : Nat) (b0 b1 : IRow) (h0 : b0.xs = []) (h1 : b1.xs = [0]) : goV [twn wkS0 A0 c0, twn (wkS1 ga) A1 c1] [b0, b1] (newV 7 2) = ⟨7, 0, false, [1, 0], [1, 0], [⟨1, 7, 0, 1, 0, false⟩]⟩ := by
  obtain ⟨a0, k0, x0⟩ := b0
  obtain ⟨a1, k1, x1⟩ := b1
  simp only at h0 h1
  subst h0 h1
  kernel_rfl
theorem wk_st1 (A0 A1 ga : Option Addr) (c0 c1 : Nat) (b0 b1 : IRow) (h0 : b0.xs = []) (h1 : b1.xs = [0]) : rpV [twn wkS0 A0 c0, twn (wkS1 ga) A1 c1] [b0, b1] ⟨7, 0, false, [1, 0], [1, 0], []⟩ (twn wkS0 A0 c0) 0 1 false 0 = ⟨7, 0, false, [3, 1], [1, 1], [⟨1, 7, 1, 1, 0, false⟩]⟩ := by
  obtain ⟨a0, k0, x0⟩ := b0
  obtain ⟨a1, k1, x1⟩ := b1
  simp only at h0 h1
  subst h0 h1
  kernel_rfl
theorem wk_st2 (A0 A1 ga : Option Addr) (c0 c1 : Nat) (b0 b1 : IRow) (h0 : b0.xs = []) (h1 : b1.xs = [0]) : rpV [twn wkS0 A0 c0, twn (wkS1 ga) A1 c1] [b0, b1] ⟨7, 0, false, [3, 1], [1, 1], []⟩ (twn (wkS1 ga) A1 c1) 1 1 false 150 = ⟨7, 0, false, [3, 2], [1, 1], [⟨2, 7, 1, 0, 5, false⟩]⟩ := by
  obtain ⟨a0, k0, x0⟩ := b0
  obtain ⟨a1, k1, x1⟩ := b1
  simp only at h0 h1
  subst h0 h1
  kernel_rfl
theorem isAgg_int13 (w : World) : (isAgg 3).run Tryz.prog w = .ok false w := by kernel_rfl
theorem isAgg_kind13 (w : World) : (isAgg 53).run Tryz.prog w = .ok false w := by kernel_rfl
theorem isAgg_bool13 (w : World) : (isAgg 4).run Tryz.prog w = .ok false w := by kernel_rfl
theorem same_eff13 (f : Eff) (w : World) : (Op.equalIn 10000 55 (.agg #[.int .i64 f.kind, .int .i64 f.order, .int .i64 f.step, .int .i64 f.tr, .int .i64 f.ticks, .bool f.undo]) (.agg #[.int .i64 f.kind, .int .i64 f.order, .int .i64 f.step, .int .i64 f.tr, .int .i64 f.ticks, .bool f.undo])).run Tryz.prog w = .ok true w := by
  refine agg_same (L := [(53, 0), (3, 1), (3, 2), (3, 3), (3, 4), (4, 5)]) (by kernel_rfl) (by kernel_rfl) (by kernel_rfl) ?_ w
  intro q hq
  simp only [List.mem_cons, List.not_mem_nil, or_false] at hq
  rcases hq with rfl | rfl | rfl | rfl | rfl | rfl
  · exact sameAt_int Tryz.underlying53 isAgg_kind13 rfl
  · exact sameAt_int Tryz.underlying3 isAgg_int13 rfl
  · exact sameAt_int Tryz.underlying3 isAgg_int13 rfl
  · exact sameAt_int Tryz.underlying3 isAgg_int13 rfl
  · exact sameAt_int Tryz.underlying3 isAgg_int13 rfl
  · exact sameAt_bool Tryz.underlying4 isAgg_bool13 rfl
theorem guard_eff13 : Tryz.prog.eqGuardType Tryz.prog.depth 55 = false := by kernel_rfl
theorem Mw.below {base base2 I P n0 : Nat} {nm : ByteArray} {Ls : List Stp} {Bs : List IRow} {ask : Int} {y y' : Pw} {v v' : Iv} {l l' : Il} {w0 w w' : World} (hm : Mw I P Ls Bs y v l y' v' l' w w') (hb : Below n0 w0 w) (hI : InP base base2 I P nm Ls Bs ask y v l w) (h1 : n0 ≤ base) (h2 : n0 ≤ P) : Below n0 w0 w' :=
  hb.trans (hm.m.t.below (by have := (hI.i.use (.inl rfl : IU I v l I)); omega) (fun k hk => by
    rcases hk with hk | hk
    · have := (hI.i.use hk).1; omega
    · rw [hk]; exact h2))
theorem wk_comp13 {wc : World} {gs ga : Nat} (hs : Blk wc gs 69 #[.string wkH, .string wkCH, .string wkCR, .string ⟨#[]⟩, .bool false, .int .i64 0, .int .i64 0, .int .i64 0, .slice none 0 0, .string wkP, .string wkSA, .string wkSF, .string ⟨#[]⟩, .bool false, .int .i64 1, .int .i64 5, .int .i64 0, .slice (some ⟨ga, 0, none⟩) 1 1]) (ha : Blk wc ga 9 #[.string wkH]) :
    Calls Tryz.prog 25 #[.agg #[.string ⟨#[97]⟩, .slice (some ⟨gs, 0, none⟩) 2 2]] wc fun e w' => ∃ P Ls Bs, e = .returned (.tuple #[.pointer (some ⟨P, 0, none⟩), .int .i64 0]) ∧ (∃ y, PlY wc.heap.size ⟨#[97]⟩ P Ls Bs 0 y w') ∧ (∃ (A0 : Option Addr) (c0 : Nat) (A1 : Option Addr) (c1 : Nat) (b0 b1 : IRow), Ls = [twn wkS0 A0 c0, twn (wkS1 (some ⟨ga, 0, none⟩)) A1 c1] ∧ Bs = [b0, b1] ∧ b0.xs = [] ∧ b1.xs = [0]) ∧ Below wc.heap.size wc w' := by
  refine (compile_any ⟨#[97]⟩ (wkM (some ⟨ga, 0, none⟩)) (some ⟨gs, 0, none⟩) 2 wc (hs.rd12 rfl) (fun s hm => ?_) (by show 2 ≤ 1000; omega)).mono ?_
  · simp only [wkM, List.mem_cons, List.not_mem_nil, or_false] at hm
    rcases hm with rfl | rfl
    · exact ⟨Rd.nil _ _, show 0 * 16 ≤ 140737488355328 by omega⟩
    · exact ⟨ha.rd12 rfl, show 1 * 16 ≤ 140737488355328 by omega⟩
  · rintro e w2 ⟨hbw, ⟨h1, _⟩ | ⟨_, P, vS, vB, Ls, Bs, rfl, hp, hg⟩⟩
    · exact absurd (wkM_check _) h1
    · have : (wkM (some ⟨ga, 0, none⟩)).length = 2 := rfl
      rw [this, wkM_ord] at hg
      obtain ⟨A0, c0, A1, c1, b0, b1, rfl, rfl, e0, e1, hr⟩ := wkM_rows hg
      refine ⟨P, _, _, rfl, ⟨⟨vS, vB, .slice none 0 0, [], false⟩, hp.plw, fun e => (by cases e), fun _ => rfl, hr, ?_⟩, ⟨A0, c0, A1, c1, b0, b1, rfl, rfl, e0, e1⟩, hbw⟩
      intro s hs
      simp only [List.mem_cons, List.not_mem_nil, or_false] at hs
      rcases hs with rfl | rfl
      · show 0 * 16 ≤ _; omega
      · show 1 * 16 ≤ _; omega
set_option maxRecDepth 100000 in
set_option maxHeartbeats 16000000 in
theorem wakes13 (w : World) : Calls Tryz.prog 8 #[] w fun e w' => e = .returned (.bool true) ∧ Below w.heap.size w w' := by
  have hA := (Blk.new w 9 #[.string wkH]).alloc (.cells #[.string wkH, .string wkCH, .string wkCR, .string ⟨#[]⟩, .bool false, .int .i64 0, .int .i64 0, .int .i64 0, .slice none 0 0, .string wkP, .string wkSA, .string wkSF, .string ⟨#[]⟩, .bool false, .int .i64 1, .int .i64 5, .int .i64 0, .slice (some ⟨w.heap.size, 0, none⟩) 1 1] 69)
  have hS := Blk.new (w.alloc (.cells #[.string wkH] 9)) 69 #[.string wkH, .string wkCH, .string wkCR, .string ⟨#[]⟩, .bool false, .int .i64 0, .int .i64 0, .int .i64 0, .slice none 0 0, .string wkP, .string wkSA, .string wkSF, .string ⟨#[]⟩, .bool false, .int .i64 1, .int .i64 5, .int .i64 0, .slice (some ⟨w.heap.size, 0, none⟩) 1 1]
  rw [World.size_alloc] at hS
  have hb2 : Below w.heap.size w ((w.alloc (.cells #[.string wkH] 9)).alloc (.cells #[.string wkH, .string wkCH, .string wkCR, .string ⟨#[]⟩, .bool false, .int .i64 0, .int .i64 0, .int .i64 0, .slice none 0 0, .string wkP, .string wkSA, .string wkSF, .string ⟨#[]⟩, .bool false, .int .i64 1, .int .i64 5, .int .i64 0, .slice (some ⟨w.heap.size, 0, none⟩) 1 1] 69)) := ((Below.refl _ _).alloc (Nat.le_refl _) _).alloc (by simp) _
  have KC := hid (wk_comp13 hS hA)
  have HB2 := hid hb2
  clear hA hS hb2
  go_enter Tryz.func8, Tryz.ntmps8
  go_wp2_with fail
  refine KC.out.mono ?_
  rintro e w2 ⟨P, Ls, Bs, rfl, ⟨y, hP⟩, ⟨A0, c0, A1, c1, b0, b1, rfl, rfl, e0, e1⟩, hb3⟩
  have HP := hid hP
  have HB3 := hid (bthen HB2.out hb3)
  have HE := hid (And.intro e0 e1)
  have HLO := hid (Nat.le_trans HB2.out.size hP.p.lo)
  have KN := hid (enew_any w2)
  clear hP hb3 KC e0 e1
  generalize ((w.alloc (.cells #[.string wkH] 9)).alloc (.cells #[.string wkH, .string wkCH, .string wkCR, .string ⟨#[]⟩, .bool false, .int .i64 0, .int .i64 0, .int .i64 0, .slice none 0 0, .string wkP, .string wkSA, .string wkSF, .string ⟨#[]⟩, .bool false, .int .i64 1, .int .i64 5, .int .i64 0, .slice (some ⟨w.heap.size, 0, none⟩) 1 1] 69)).heap.size = bp at HP
  generalize (some ⟨w.heap.size, 0, none⟩ : Option Addr) = ga at HP
  go_wp2_with fail
  refine KN.out.mono ?_
  rintro e w3 ⟨X, M, rfl, hE, hb3⟩
  have HW3 := hid (bthen HB3.out hb3)
  have HXM := hid (show w.heap.size ≤ X ∧ w.heap.size ≤ M from by have := hE.low; have := HB3.out.size; omega)
  have KS := hid (start_any (HP.out.next hb3) hE 7 rfl)
  clear KN hE hb3 HP
  go_wp2_with fail
  refine KS.out.mono ?_
  rintro e w4 ⟨I, OA, oc, l4, rfl, hI4, hE4, hT4, hO4, hl4⟩
  clear KS
  rw [show ([twn wkS0 A0 c0, twn (wkS1 ga) A1 c1] : List Stp).length = 2 from rfl, wk_st0 A0 A1 ga c0 c1 b0 b1 HE.out.1 HE.out.2] at hI4 hO4 ⊢
  simp only [List.length_cons, List.length_nil, Nat.zero_add] at hO4 ⊢
  have hI4 : InP w3.heap.size bp I P ⟨#[97]⟩ [twn wkS0 A0 c0, twn (wkS1 ga) A1 c1] [b0, b1] 0 y ⟨7, 0, false, [1, 0], [1, 0], []⟩ l4 w4 := hI4
  have HW4 := hid (HW3.out.trans (hT4.below HW3.out.size (fun k hk => by
    rcases hk with hk | hk
    · rw [hk]; exact HXM.out.2
    · rw [hk]; exact HLO.out)))
  have HI4 := hid hI4
  have HE4 := hid hE4
  have HO4 := hid hO4
  have HIlo := hid (Nat.le_trans HW3.out.size hI4.i.lo)
  have HAT4 := at_some hE4 7 0 rfl hI4.i
  rw [if_pos (by decide)] at HAT4
  have KR := hid (reply_any hI4 (by decide) (by decide) (.pointer (some ⟨X, 0, none⟩)) 7 1 0 false 0 _ rfl HAT4)
  rw [wk_st1 A0 A1 ga c0 c1 b0 b1 HE.out.1 HE.out.2] at KR
  have HL4 := hid hl4
  clear hI4 hE4 hT4 hO4 hl4 HAT4
  go_wp2_with fail
  refine KR.out.mono ?_
  rintro e w5 ⟨OB, ob, ask5, y5, l5, rfl, ha5, hI5, hM5, hO5, hl5⟩
  clear KR
  simp only [List.length_cons, List.length_nil, Nat.zero_add] at hO5 ⊢
  have hI5 : InP w3.heap.size bp I P ⟨#[97]⟩ [twn wkS0 A0 c0, twn (wkS1 ga) A1 c1] [b0, b1] ask5 y5 ⟨7, 0, false, [3, 1], [1, 1], []⟩ l5 w5 := hI5
  have hE5 := HE4.out.mw HI4.out hM5
  have HO45 := hid (eff_keep HO4.out HI4.out HL4.out hM5)
  have HW5 := hid (hM5.below HW4.out HI4.out HW3.out.size HLO.out)
  have HAT5 := at_some hE5 7 1 rfl hI5.i
  rw [if_pos (by decide)] at HAT5
  have KR := hid (reply_any hI5 (by decide) (by omega) (.pointer (some ⟨X, 0, none⟩)) 7 1 150 false 1 _ rfl HAT5)
  rw [wk_st2 A0 A1 ga c0 c1 b0 b1 HE.out.1 HE.out.2] at KR
  have HI5 := hid hI5
  have HO5 := hid hO5
  have HL5 := hid hl5
  clear hI5 hE5 hO5 hl5 HAT5 hM5 ha5 HO4 HE4
  go_wp2_with fail
  refine KR.out.mono ?_
  rintro e w6 ⟨OC, oc6, ask6, y6, l6, rfl, ha6, hI6, hM6, hO6, hl6⟩
  clear KR
  simp only [List.length_cons, List.length_nil, Nat.zero_add] at hO6 ⊢
  have hO46 := eff_keep HO45.out HI5.out HL5.out hM6
  have hO56 := eff_keep HO5.out HI5.out HL5.out hM6
  have HW6 := hid (hM6.below HW5.out HI5.out HW3.out.size HLO.out)
  have len6 : ∀ f : Eff, (enEf f).length = 6 := enEf_len
  obtain ⟨ga6, ca, e', hbg, hgl⟩ := own_form hO46 (by decide)
  simp only [Value.slice.injEq] at e'
  obtain ⟨rfl, -, rfl⟩ := e'
  obtain ⟨gb6, cb, e', hbgb, hglb⟩ := own_form hO56 (by decide)
  simp only [Value.slice.injEq] at e'
  obtain ⟨rfl, -, rfl⟩ := e'
  obtain ⟨gc6, cc, e', hbgc, hglc⟩ := own_form hO6 (by decide)
  simp only [Value.slice.injEq] at e'
  obtain ⟨rfl, -, rfl⟩ := e'
  have a0 : w6.cell? ⟨ga6, 0, none⟩ = some (.int .i64 1) := own_cells (k := 0) (j := 0) enEf_len hO46 rfl rfl
  have a1 : w6.cell? ⟨ga6, 1, none⟩ = some (.int .i64 7) := own_cells (k := 0) (j := 1) enEf_len hO46 rfl rfl
  have a2 : w6.cell? ⟨ga6, 2, none⟩ = some (.int .i64 0) := own_cells (k := 0) (j := 2) enEf_len hO46 rfl rfl
  have a3 : w6.cell? ⟨ga6, 3, none⟩ = some (.int .i64 1) := own_cells (k := 0) (j := 3) enEf_len hO46 rfl rfl
  have a4 : w6.cell? ⟨ga6, 4, none⟩ = some (.int .i64 0) := own_cells (k := 0) (j := 4) enEf_len hO46 rfl rfl
  have a5 : w6.cell? ⟨ga6, 5, none⟩ = some (.bool false) := own_cells (k := 0) (j := 5) enEf_len hO46 rfl rfl
  have b2 : w6.cell? ⟨gb6, 2, none⟩ = some (.int .i64 1) := own_cells (k := 0) (j := 2) enEf_len hO56 rfl rfl
  have d0 : w6.cell? ⟨gc6, 0, none⟩ = some (.int .i64 2) := own_cells (k := 0) (j := 0) enEf_len hO6 rfl rfl
  have d1 : w6.cell? ⟨gc6, 1, none⟩ = some (.int .i64 7) := own_cells (k := 0) (j := 1) enEf_len hO6 rfl rfl
  have d2 : w6.cell? ⟨gc6, 2, none⟩ = some (.int .i64 1) := own_cells (k := 0) (j := 2) enEf_len hO6 rfl rfl
  have d3 : w6.cell? ⟨gc6, 3, none⟩ = some (.int .i64 0) := own_cells (k := 0) (j := 3) enEf_len hO6 rfl rfl
  have d4 : w6.cell? ⟨gc6, 4, none⟩ = some (.int .i64 5) := own_cells (k := 0) (j := 4) enEf_len hO6 rfl rfl
  have d5 : w6.cell? ⟨gc6, 5, none⟩ = some (.bool false) := own_cells (k := 0) (j := 5) enEf_len hO6 rfl rfl
  have hs1 := same_eff13 ⟨1, 7, 0, 1, 0, false⟩
  have hs2 := same_eff13 ⟨2, 7, 1, 0, 5, false⟩
  simp only at hs1 hs2
  have hgd := guard_eff13
  clear hI6 hM6 hO6 hl6 hO46 hO56 hbg hgl hbgb hglb hbgc hglc ha6 len6
  go_wp2_with fail
  go_ret
  exact ⟨rfl, HW6.out⟩

end Go.Proofs.YtoemmakhbiiknaaGreat

namespace Go.Proofs.YtoemmakhbiiknaaGreat
open Go.RowKit Go.WideShapes Go.ChangeShapes Go.ChangeAt Go.Deep
set_option linter.unusedVariables false

def oddB (y : Int) : Bool := decide (y < 0) || decide (5 < y)
def belB (y : Int) : Bool := decide (y < 0) || decide (1099511627776 < y)
theorem odd_any (y : Int) (w : World) : Calls Tryz.prog 50 #[.int .i64 y] w fun e w' => e = .returned (.bool (oddB y)) ∧ Below w.heap.size w w' := by
  have HV := hid (show oddB y = (decide (y < 0) || decide (5 < y)) from rfl)
  by_cases h0 : y < 0
  · rw [HV.out, decide_eq_true h0]
    go_enter Tryz.func50, Tryz.ntmps50
    go_wp2_with fail
    go_ret
    exact ⟨rfl, Below.refl _ _⟩
  · rw [HV.out, decide_eq_false h0]
    by_cases h1 : 5 < y
    · rw [decide_eq_true h1]
      go_enter Tryz.func50, Tryz.ntmps50
      go_wp2_with fail
      go_ret
      exact ⟨rfl, Below.refl _ _⟩
    · rw [decide_eq_false h1]
      go_enter Tryz.func50, Tryz.ntmps50
      go_wp2_with fail
      go_ret
      exact ⟨rfl, Below.refl _ _⟩
theorem below_any13 (y : Int) (w : World) : Calls Tryz.prog 51 #[.int .i64 y] w fun e w' => e = .returned (.bool (belB y)) ∧ Below w.heap.size w w' := by
  have HV := hid (show belB y = (decide (y < 0) || decide (1099511627776 < y)) from rfl)
  by_cases h0 : y < 0
  · rw [HV.out, decide_eq_true h0]
    go_enter Tryz.func51, Tryz.ntmps51
    go_wp2_with fail
    go_ret
    exact ⟨rfl, Below.refl _ _⟩
  · rw [HV.out, decide_eq_false h0]
    by_cases h1 : 1099511627776 < y
    · rw [decide_eq_true h1]
      go_enter Tryz.func51, Tryz.ntmps51
      go_wp2_with fail
      go_ret
      exact ⟨rfl, Below.refl _ _⟩
    · rw [decide_eq_false h1]
      go_enter Tryz.func51, Tryz.ntmps51
      go_wp2_with fail
      go_ret
      exact ⟨rfl, Below.refl _ _⟩
section
variable {base2 P X : Nat} {nm : ByteArray} {Ls : List Stp} {Bs : List IRow} {ask : Int} {y : Pw} {w w' : World}
def putB (n : Nat) (st : Int) (ms ts : List Int) : Bool := !((ms.length : Int) != (n : Int) || ((ts.length : Int) != (n : Int) || (decide (st < 0) || (decide (3 < st) || (ms.any oddB || ts.any belB)))))
set_option maxRecDepth 100000 in
set_option maxHeartbeats 16000000 in
theorem put_err (xv pv : Value) (o st : Int) (pd : Bool) (a b : Value) (c : Int) (hc : c = 1 ∨ c = 71) (h : ∀ w' : World, Below w.heap.size w w' → Calls Tryz.prog 43 #[xv, .int .i64 o, pv] w' fun e w'' => e = .returned (.int .i64 c) ∧ w'' = w') (ha : a.oneCell' = true) (hb : b.oneCell' = true) :
    Calls Tryz.prog 21 #[xv, .agg #[.int .i64 o, .int .i64 st, .bool pd, a, b], pv] w fun e w' => e = .returned (.int .i64 c) ∧ Below w.heap.size w w' := by
  have HB := hid ((Below.refl w.heap.size w).alloc (Nat.le_refl _) (.cells #[.int .i64 o, .int .i64 st, .bool pd, a, b] 40))
  have K := hid (h _ HB.out)
  clear h
  rcases hc with rfl | rfl
  all_goals
    go_enter Tryz.func21, Tryz.ntmps21
    go_wp2_with fail
    refine K.out.mono ?_
    rintro e w2 ⟨rfl, rfl⟩
    go_wp2_with fail
    go_ret
    exact ⟨rfl, HB.out⟩
set_option maxRecDepth 100000 in
set_option maxHeartbeats 32000000 in
theorem put_bad (h : PlY base2 nm P Ls Bs ask y w) (xv : Value) (o st : Int) (pd : Bool) (ms : List Int) (MA : Option Addr) (mc : Nat) (ts : List Int) (TA : Option Addr) (tc : Nat) (hm : Rd w MA (ms.flatMap en1)) (ht : Rd w TA (ts.flatMap en1)) (hml : ms.length ≤ 140737488355328) (htl : ts.length ≤ 140737488355328)
    (hr : ∀ w' : World, Below w.heap.size w w' → Calls Tryz.prog 43 #[xv, .int .i64 o, .pointer (some ⟨P, 0, none⟩)] w' fun e w'' => e = .returned (.int .i64 0) ∧ w'' = w') (hbad : putB Ls.length st ms ts = false) :
    Calls Tryz.prog 21 #[xv, .agg #[.int .i64 o, .int .i64 st, .bool pd, .slice MA ms.length mc, .slice TA ts.length tc], .pointer (some ⟨P, 0, none⟩)] w fun e w' => e = .returned (.int .i64 2) ∧ Below w.heap.size w w' := by
  have hwa : Below w.heap.size w (w.alloc (.cells #[.int .i64 o, .int .i64 st, .bool pd, .slice MA ms.length mc, .slice TA ts.length tc] 40)) := (Below.refl _ _).alloc (Nat.le_refl _) _
  have hB := Blk.new w 40 #[.int .i64 o, .int .i64 st, .bool pd, .slice MA ms.length mc, .slice TA ts.length tc]
  obtain ⟨W, hW⟩ : ∃ W, W = w.alloc (.cells #[.int .i64 o, .int .i64 st, .bool pd, .slice MA ms.length mc, .slice TA ts.length tc] 40) := ⟨_, rfl⟩
  obtain ⟨G, hG⟩ : ∃ G, G = w.heap.size := ⟨_, rfl⟩
  rw [← hW] at hwa hB
  rw [← hG] at hB
  have KR := hid (hr W hwa)
  have HWA := hid hwa
  have HWG := hid (And.intro hW hG)
  obtain ⟨n, hn⟩ : ∃ n, n = Ls.length := ⟨_, rfl⟩
  rw [← hn] at hbad
  have HLn := hid (show n ≤ 1000 from by rw [hn]; exact h.rows.n)
  obtain ⟨C, hCd⟩ : ∃ C : World → Prop, ∀ w', C w' ↔ Below W.heap.size W w' := ⟨_, fun _ => Iff.rfl⟩
  have hC : C W.drew := (hCd _).2 (Below.refl _ _).drew
  have hBp : ∀ p : In C, Blk p.w G 40 #[.int .i64 o, .int .i64 st, .bool pd, .slice MA ms.length mc, .slice TA ts.length tc] := fun p => hB.next ((hCd _).1 p.h)
  have c1 : ∀ p : In C, p.w.cell? ⟨G, 1, none⟩ = some (.int .i64 st) := fun p => (hBp p).cell 1
  have c3 : ∀ p : In C, p.w.cell? ⟨G, 3, none⟩ = some (.slice MA ms.length mc) := fun p => (hBp p).cell 3
  have c4 : ∀ p : In C, p.w.cell? ⟨G, 4, none⟩ = some (.slice TA ts.length tc) := fun p => (hBp p).cell 4
  have lG : ∀ p : In C, G < p.w.heap.size := fun p => (hBp p).lt
  have g0 : W.cell? ⟨G, 0, none⟩ = some (.int .i64 o) := hB.cell 0
  have lG0 := hB.lt
  have OL : Hid (∀ p : In C, Calls Tryz.prog 17 #[.pointer (some ⟨P, 0, none⟩)] p.w fun e w' => e = .returned (.int .i64 (n : Int)) ∧ C w') := hid (fun p => by
    refine (len_some (h.next (bthen hwa ((hCd _).1 p.h))).p).mono ?_
    rintro e w2 ⟨rfl, rfl⟩
    exact ⟨by rw [hn], p.h⟩)
  have OM : Hid (∀ p : In C, Calls Tryz.prog 52 #[.slice MA ms.length mc, .func (.func 50) #[] #[]] p.w fun e w' => e = .returned (.bool (ms.any oddB)) ∧ C w') := hid (fun p =>
    (hasM0 ms MA mc 50 oddB p.w (hm.below (bthen hwa ((hCd _).1 p.h))) hml (fun _ _ => by go_simp) (fun x _ w2 _ => odd_any x w2)).mono fun _ _ ⟨e1, e2⟩ => ⟨e1, (hCd _).2 (bthen ((hCd _).1 p.h) e2)⟩)
  have OI : Hid (∀ p : In C, Calls Tryz.prog 53 #[.slice TA ts.length tc, .func (.func 51) #[] #[]] p.w fun e w' => e = .returned (.bool (ts.any belB)) ∧ C w') := hid (fun p =>
    (hasI0 ts TA tc 51 belB p.w (ht.below (bthen hwa ((hCd _).1 p.h))) htl (fun _ _ => by go_simp) (fun x _ w2 _ => below_any13 x w2)).mono fun _ _ ⟨e1, e2⟩ => ⟨e1, (hCd _).2 (bthen ((hCd _).1 p.h) e2)⟩)
  obtain ⟨bm, hbm⟩ : ∃ bm, bm = ms.any oddB := ⟨_, rfl⟩
  obtain ⟨bt, hbt⟩ : ∃ bt, bt = ts.any belB := ⟨_, rfl⟩
  obtain ⟨nm1, hnm⟩ : ∃ q, q = ms.length := ⟨_, rfl⟩
  obtain ⟨nt1, hnt⟩ : ∃ q, q = ts.length := ⟨_, rfl⟩
  have hbad2 : ((nm1 : Int) != (n : Int) || ((nt1 : Int) != (n : Int) || (decide (st < 0) || (decide (3 < st) || (bm || bt))))) = true := by
    unfold putB at hbad
    rw [← hbm, ← hbt, ← hnm, ← hnt] at hbad
    have h9 := congrArg (fun q : Bool => !q) hbad
    simpa only [Bool.not_not, Bool.not_false] using h9
  rw [← hbm] at OM
  rw [← hbt] at OI
  rw [← hnm] at c3 OM hml
  rw [← hnt] at c4 OI htl
  have HBD := hid hbad2
  have HCd := hid hCd
  rw [← hnm, ← hnt] at HWG ⊢
  clear hbad hbad2 hbm hbt hnm hnt hCd hBp hB hW hG hm ht h hr hn hwa
  go_enter Tryz.func21, Tryz.ntmps21
  go_upto_region 1 with fail
  rw [← HWG.out.1, ← HWG.out.2]
  go_wp2_with (first | (go_at_call 43; refine KR.out.mono ?_; rintro e w5 ⟨rfl, rfl⟩))
  cases e1 : ((nm1 : Int) != (n : Int)) with
  | true =>
    refine wp_region_in C (by kernel_rfl) (by kernel_rfl) hC ?_
    intro hne
    clear hC
    repeat (first | go_big_quiet_step ((first | (go_at_call 17; exact Calls.in_of (OL.out _)) | (go_at_call 52; exact Calls.in_of (OM.out _)) | (go_at_call 53; exact Calls.in_of (OI.out _)))) | quiet_step ((first | (go_at_call 17; exact Calls.in_of (OL.out _)) | (go_at_call 52; exact Calls.in_of (OM.out _)) | (go_at_call 53; exact Calls.in_of (OI.out _)))))
    refine wpQuiet_nil ?_
    intro wq hq
    have HQ := hid (bthen HWA.out ((HCd.out _).1 hq))
    clear c1 c3 c4 lG OL OM OI hne hq HCd g0 lG0
    go_wp2_with fail
    go_ret
    exact ⟨rfl, HQ.out⟩
  | false =>
    have H1 := hid e1
    cases e2 : ((nt1 : Int) != (n : Int)) with
    | true =>
      refine wp_region_in C (by kernel_rfl) (by kernel_rfl) hC ?_
      intro hne
      clear hC
      repeat (first | go_big_quiet_step ((first | (go_at_call 17; exact Calls.in_of (OL.out _)) | (go_at_call 52; exact Calls.in_of (OM.out _)) | (go_at_call 53; exact Calls.in_of (OI.out _)))) | quiet_step ((first | (go_at_call 17; exact Calls.in_of (OL.out _)) | (go_at_call 52; exact Calls.in_of (OM.out _)) | (go_at_call 53; exact Calls.in_of (OI.out _)))))
      refine wpQuiet_nil ?_
      intro wq hq
      have HQ := hid (bthen HWA.out ((HCd.out _).1 hq))
      clear c1 c3 c4 lG OL OM OI hne hq HCd g0 lG0
      go_wp2_with fail
      go_ret
      exact ⟨rfl, HQ.out⟩
    | false =>
      have H2 := hid e2
      by_cases h3 : st < 0
      · refine wp_region_in C (by kernel_rfl) (by kernel_rfl) hC ?_
        intro hne
        clear hC
        repeat (first | go_big_quiet_step ((first | (go_at_call 17; exact Calls.in_of (OL.out _)) | (go_at_call 52; exact Calls.in_of (OM.out _)) | (go_at_call 53; exact Calls.in_of (OI.out _)))) | quiet_step ((first | (go_at_call 17; exact Calls.in_of (OL.out _)) | (go_at_call 52; exact Calls.in_of (OM.out _)) | (go_at_call 53; exact Calls.in_of (OI.out _)))))
        refine wpQuiet_nil ?_
        intro wq hq
        have HQ := hid (bthen HWA.out ((HCd.out _).1 hq))
        clear c1 c3 c4 lG OL OM OI hne hq HCd g0 lG0
        go_wp2_with fail
        go_ret
        exact ⟨rfl, HQ.out⟩
      · by_cases h4 : 3 < st
        · refine wp_region_in C (by kernel_rfl) (by kernel_rfl) hC ?_
          intro hne
          clear hC
          repeat (first | go_big_quiet_step ((first | (go_at_call 17; exact Calls.in_of (OL.out _)) | (go_at_call 52; exact Calls.in_of (OM.out _)) | (go_at_call 53; exact Calls.in_of (OI.out _)))) | quiet_step ((first | (go_at_call 17; exact Calls.in_of (OL.out _)) | (go_at_call 52; exact Calls.in_of (OM.out _)) | (go_at_call 53; exact Calls.in_of (OI.out _)))))
          refine wpQuiet_nil ?_
          intro wq hq
          have HQ := hid (bthen HWA.out ((HCd.out _).1 hq))
          clear c1 c3 c4 lG OL OM OI hne hq HCd g0 lG0
          go_wp2_with fail
          go_ret
          exact ⟨rfl, HQ.out⟩
        · cases bm with
          | true =>
            refine wp_region_in C (by kernel_rfl) (by kernel_rfl) hC ?_
            intro hne
            clear hC
            repeat (first | go_big_quiet_step ((first | (go_at_call 17; exact Calls.in_of (OL.out _)) | (go_at_call 52; exact Calls.in_of (OM.out _)) | (go_at_call 53; exact Calls.in_of (OI.out _)))) | quiet_step ((first | (go_at_call 17; exact Calls.in_of (OL.out _)) | (go_at_call 52; exact Calls.in_of (OM.out _)) | (go_at_call 53; exact Calls.in_of (OI.out _)))))
            refine wpQuiet_nil ?_
            intro wq hq
            have HQ := hid (bthen HWA.out ((HCd.out _).1 hq))
            clear c1 c3 c4 lG OL OM OI hne hq HCd g0 lG0
            go_wp2_with fail
            go_ret
            exact ⟨rfl, HQ.out⟩
          | false =>
            cases bt with
            | true =>
              refine wp_region_in C (by kernel_rfl) (by kernel_rfl) hC ?_
              intro hne
              clear hC
              repeat (first | go_big_quiet_step ((first | (go_at_call 17; exact Calls.in_of (OL.out _)) | (go_at_call 52; exact Calls.in_of (OM.out _)) | (go_at_call 53; exact Calls.in_of (OI.out _)))) | quiet_step ((first | (go_at_call 17; exact Calls.in_of (OL.out _)) | (go_at_call 52; exact Calls.in_of (OM.out _)) | (go_at_call 53; exact Calls.in_of (OI.out _)))))
              refine wpQuiet_nil ?_
              intro wq hq
              have HQ := hid (bthen HWA.out ((HCd.out _).1 hq))
              clear c1 c3 c4 lG OL OM OI hne hq HCd g0 lG0
              go_wp2_with fail
              go_ret
              exact ⟨rfl, HQ.out⟩
            | false =>
              exfalso
              have := HBD.out
              rw [H1.out, H2.out, decide_eq_false h3, decide_eq_false h4] at this
              cases this
end

end Go.Proofs.YtoemmakhbiiknaaGreat

namespace Go.Proofs.YtoemmakhbiiknaaGreat
open Go.RowKit Go.WideShapes Go.ChangeShapes Go.ChangeAt Go.Deep
set_option linter.unusedVariables false

section
variable {base2 P X M n0 : Nat} {es : List (Int × Nat)} {nm : ByteArray} {Ls : List Stp} {Bs : List IRow} {ask : Int} {y : Pw} {w w' : World}
/-- What Put leaves. -/
def PutR (base2 n0 P X M : Nat) (es : List (Int × Nat)) (nm : ByteArray) (Ls : List Stp) (Bs : List IRow) (ask : Int) (y : Pw) (v : Iv) (w : World) (e : Ending) (w' : World) : Prop :=
  ∃ I l', e = .returned (.int .i64 0) ∧ InP w.heap.size base2 I P nm Ls Bs ask y v l' w' ∧ IsEng n0 X M (mset es v.ord I) w' ∧ Touch (· = M) w w'
set_option maxRecDepth 100000 in
set_option maxHeartbeats 32000000 in
theorem put_good (h : PlY base2 nm P Ls Bs ask y w) (hE : IsEng n0 X M es w) (o st : Int) (hno : mget es o = none) (pd : Bool) (ms : List Int) (MA : Option Addr) (mc : Nat) (ts : List Int) (TA : Option Addr) (tc : Nat) (hm : Rd w MA (ms.flatMap en1)) (ht : Rd w TA (ts.flatMap en1)) (hml : ms.length ≤ 140737488355328) (htl : ts.length ≤ 140737488355328)
    (hgood : putB Ls.length st ms ts = true) :
    Calls Tryz.prog 21 #[.pointer (some ⟨X, 0, none⟩), .agg #[.int .i64 o, .int .i64 st, .bool pd, .slice MA ms.length mc, .slice TA ts.length tc], .pointer (some ⟨P, 0, none⟩)] w (PutR base2 n0 P X M es nm Ls Bs ask y ⟨o, st, pd, ms, ts, []⟩ w) := by
  have hwa : Below w.heap.size w (w.alloc (.cells #[.int .i64 o, .int .i64 st, .bool pd, .slice MA ms.length mc, .slice TA ts.length tc] 40)) := (Below.refl _ _).alloc (Nat.le_refl _) _
  have hB := Blk.new w 40 #[.int .i64 o, .int .i64 st, .bool pd, .slice MA ms.length mc, .slice TA ts.length tc]
  obtain ⟨W, hW⟩ : ∃ W, W = w.alloc (.cells #[.int .i64 o, .int .i64 st, .bool pd, .slice MA ms.length mc, .slice TA ts.length tc] 40) := ⟨_, rfl⟩
  obtain ⟨G, hG⟩ : ∃ G, G = w.heap.size := ⟨_, rfl⟩
  rw [← hW] at hwa hB
  rw [← hG] at hB
  have KR := hid (room_any (hE.next hwa) o P)
  rw [show roomV es o = 0 from by unfold roomV; rw [hno]] at KR
  have HE := hid (hE.next hwa)
  have HE0 := hid hE
  have HP := hid (h.next hwa)
  have HP0 := hid h
  have HMT := hid (And.intro (hm.below hwa) (ht.below hwa))
  have HWA := hid hwa
  have HWG := hid (And.intro hW hG)
  obtain ⟨n, hn⟩ : ∃ n, n = Ls.length := ⟨_, rfl⟩
  rw [← hn] at hgood
  have HLn := hid (show n ≤ 1000 from by rw [hn]; exact h.rows.n)
  obtain ⟨C, hCd⟩ : ∃ C : World → Prop, ∀ w', C w' ↔ Below W.heap.size W w' := ⟨_, fun _ => Iff.rfl⟩
  have hC : C W.drew := (hCd _).2 (Below.refl _ _).drew
  have hBp : ∀ p : In C, Blk p.w G 40 #[.int .i64 o, .int .i64 st, .bool pd, .slice MA ms.length mc, .slice TA ts.length tc] := fun p => hB.next ((hCd _).1 p.h)
  have c1 : ∀ p : In C, p.w.cell? ⟨G, 1, none⟩ = some (.int .i64 st) := fun p => (hBp p).cell 1
  have c3 : ∀ p : In C, p.w.cell? ⟨G, 3, none⟩ = some (.slice MA ms.length mc) := fun p => (hBp p).cell 3
  have c4 : ∀ p : In C, p.w.cell? ⟨G, 4, none⟩ = some (.slice TA ts.length tc) := fun p => (hBp p).cell 4
  have lG : ∀ p : In C, G < p.w.heap.size := fun p => (hBp p).lt
  have g0 : W.cell? ⟨G, 0, none⟩ = some (.int .i64 o) := hB.cell 0
  have lG0 := hB.lt
  have OL : Hid (∀ p : In C, Calls Tryz.prog 17 #[.pointer (some ⟨P, 0, none⟩)] p.w fun e w' => e = .returned (.int .i64 (n : Int)) ∧ C w') := hid (fun p => by
    refine (len_some (h.next (bthen hwa ((hCd _).1 p.h))).p).mono ?_
    rintro e w2 ⟨rfl, rfl⟩
    exact ⟨by rw [hn], p.h⟩)
  have OM : Hid (∀ p : In C, Calls Tryz.prog 52 #[.slice MA ms.length mc, .func (.func 50) #[] #[]] p.w fun e w' => e = .returned (.bool (ms.any oddB)) ∧ C w') := hid (fun p =>
    (hasM0 ms MA mc 50 oddB p.w (hm.below (bthen hwa ((hCd _).1 p.h))) hml (fun _ _ => by go_simp) (fun x _ w2 _ => odd_any x w2)).mono fun _ _ ⟨e1, e2⟩ => ⟨e1, (hCd _).2 (bthen ((hCd _).1 p.h) e2)⟩)
  have OI : Hid (∀ p : In C, Calls Tryz.prog 53 #[.slice TA ts.length tc, .func (.func 51) #[] #[]] p.w fun e w' => e = .returned (.bool (ts.any belB)) ∧ C w') := hid (fun p =>
    (hasI0 ts TA tc 51 belB p.w (ht.below (bthen hwa ((hCd _).1 p.h))) htl (fun _ _ => by go_simp) (fun x _ w2 _ => below_any13 x w2)).mono fun _ _ ⟨e1, e2⟩ => ⟨e1, (hCd _).2 (bthen ((hCd _).1 p.h) e2)⟩)
  obtain ⟨h1, h2, h3, h4, h5, h6⟩ : ((ms.length : Int) != (n : Int)) = false ∧ ((ts.length : Int) != (n : Int)) = false ∧ ¬ st < 0 ∧ ¬ 3 < st ∧ ms.any oddB = false ∧ ts.any belB = false := by
    have h9 := congrArg (fun q : Bool => !q) hgood
    unfold putB at h9
    simp only [Bool.not_not, Bool.not_true, Bool.or_eq_false_iff, decide_eq_false_iff_not] at h9
    exact ⟨h9.1, h9.2.1, h9.2.2.1, h9.2.2.2.1, h9.2.2.2.2.1, h9.2.2.2.2.2⟩
  rw [h5] at OM
  rw [h6] at OI
  have HLE := hid (show ms.length = n ∧ ts.length = n from by
    have a1 : (ms.length : Int) = n := by simpa [bne] using h1
    have a2 : (ts.length : Int) = n := by simpa [bne] using h2
    omega)
  have HN := hid hn
  have HCd := hid hCd
  have HBW := hid hB
  clear hgood h5 h6 hCd hBp hB hW hG hm ht h hn hwa hE hno
  go_enter Tryz.func21, Tryz.ntmps21
  go_upto_region 1 with fail
  rw [← HWG.out.1, ← HWG.out.2]
  go_wp2_with (first | (go_at_call 43; refine KR.out.mono ?_; rintro e w5 ⟨rfl, rfl⟩))
  refine wp_region_in C (by kernel_rfl) (by kernel_rfl) hC ?_
  intro hne
  clear hC
  repeat (first | go_big_quiet_step ((first | (go_at_call 17; exact Calls.in_of (OL.out _)) | (go_at_call 52; exact Calls.in_of (OM.out _)) | (go_at_call 53; exact Calls.in_of (OI.out _)))) | quiet_step ((first | (go_at_call 17; exact Calls.in_of (OL.out _)) | (go_at_call 52; exact Calls.in_of (OM.out _)) | (go_at_call 53; exact Calls.in_of (OI.out _)))))
  refine wpQuiet_nil ?_
  intro wq hq
  have HQ := hid ((HCd.out _).1 hq)
  clear c1 c3 c4 lG OL OM OI hne hq HCd g0 lG0
  have hBq := HBW.out.next HQ.out
  have hEq := HE.out.next HQ.out
  have b0 : wq.cell? ⟨G, 0, none⟩ = some (.int .i64 o) := hBq.cell 0
  have b1 : wq.cell? ⟨G, 1, none⟩ = some (.int .i64 st) := hBq.cell 1
  have b2 : wq.cell? ⟨G, 2, none⟩ = some (.bool pd) := hBq.cell 2
  have b3 : wq.cell? ⟨G, 3, none⟩ = some (.slice MA ms.length mc) := hBq.cell 3
  have b4 : wq.cell? ⟨G, 4, none⟩ = some (.slice TA ts.length tc) := hBq.cell 4
  have lG := hBq.lt
  have x0 : wq.cell? ⟨X, 0, none⟩ = some (.map (some M)) := hEq.blk.cell 0
  have lX := hEq.blk.lt
  have KT := hid (etwin_any (w := wq.drew) o st pd ms MA mc ts TA tc (HMT.out.1.below (bthen HQ.out (Below.refl _ _).drew)) (HMT.out.2.below (bthen HQ.out (Below.refl _ _).drew)) (by have := HLE.out; have := HLn.out; omega) (by have := HLE.out; have := HLn.out; omega))
  have HD := hid (show Below wq.heap.size wq wq.drew from (Below.refl _ _).drew)
  clear hBq hEq
  go_upto_region 8 with fail
  clear h1 h2 h3 h4
  go_region_with ((first
    | (go_at_call 29; refine KT.out.mono ?_; rintro e w7 ⟨A7, c7, A8, c8, rfl, hO7, hO8, hb7⟩
       simp only [svC]
       have HB7 := hid (bthen HQ.out (HD.out.trans (hb7.mono HD.out.size)))
       have HO7 := hid (And.intro hO7 hO8)
       have hB8 := HBW.out.next HB7.out
       have hE8 := HE.out.next HB7.out
       have b07 : w7.cell? ⟨G, 0, none⟩ = some (.int .i64 o) := hB8.cell 0
       have lG7 := hB8.lt
       have x07 : w7.cell? ⟨X, 0, none⟩ = some (.map (some M)) := hE8.blk.cell 0
       have lX7 := hE8.blk.lt
       obtain ⟨w9, hrun, hM9, hg9, hs9⟩ := (hE8.map.alloc (.cells #[.int .i64 o, .int .i64 st, .bool pd, .slice A7 ms.length c7, .slice A8 ts.length c8, .pointer (some ⟨P, 0, none⟩), .slice none 0 0] 96)).store keyE13 Tryz.underlying88 o w7.heap.size
       simp only [kE13, pB] at hrun
       have HR9 := hid (And.intro hM9 hg9)
       clear hO7 hO8 hb7 hB8 hE8 hM9 hg9 hs9)))
  all_goals
    clear b0 b1 b2 b3 b4 lG x0 lX b07 lG7 x07 lX7 KT hrun
    have hE8 := (HE.out.next HB7.out).next (w' := w7.alloc (.cells #[.int .i64 o, .int .i64 st, .bool pd, .slice A7 ms.length c7, .slice A8 ts.length c8, .pointer (some ⟨P, 0, none⟩), .slice none 0 0] 96)) ((Below.refl _ _).alloc (Nat.le_refl _) _)
    have hB8 := Blk.new w7 96 #[.int .i64 o, .int .i64 st, .bool pd, .slice A7 ms.length c7, .slice A8 ts.length c8, .pointer (some ⟨P, 0, none⟩), .slice none 0 0]
    have hba : Below w7.heap.size w7 (w7.alloc (.cells #[.int .i64 o, .int .i64 st, .bool pd, .slice A7 ms.length c7, .slice A8 ts.length c8, .pointer (some ⟨P, 0, none⟩), .slice none 0 0] 96)) := (Below.refl _ _).alloc (Nat.le_refl _) _
    have hsz : w.heap.size ≤ wq.drew.heap.size := Nat.le_trans HWA.out.size HQ.out.size
    have hsz7 : w.heap.size ≤ w7.heap.size := Nat.le_trans HWA.out.size HB7.out.size
    have hIs : IsI w.heap.size w7.heap.size (.pointer (some ⟨P, 0, none⟩)) ⟨o, st, pd, ms, ts, []⟩ ⟨A7, c7, A8, c8, none, 0⟩ (w7.alloc (.cells #[.int .i64 o, .int .i64 st, .bool pd, .slice A7 ms.length c7, .slice A8 ts.length c8, .pointer (some ⟨P, 0, none⟩), .slice none 0 0] 96)) :=
      ⟨hB8, own_next (own_base HO7.out.1 hsz) hba, own_next (own_base HO7.out.2 hsz) hba, World.ownsRow_nil _ _ _ _, hsz7, by have := HLE.out; have := HLn.out; simp only; omega, by have := HLE.out; simp only; omega⟩
    have hP8 := (HP.out.next HB7.out).next hba
    have hT9 := Touch.of_grown HR9.out.2
    have hI9 := hIs.touch hT9 (fun g hg hu => hIs.notMap hE8.map (by rw [← hg]; exact hu))
    have hP9 : PlY base2 nm P Ls Bs ask y w9 := ⟨hP8.p.touchS hT9 (fun g hg hu => hP8.notMap hE8.map (by rw [← hg]; exact hu)), hP8.ok, hP8.nil, hP8.rows, hP8.aft⟩
    have hdj : ∀ g, PlV P Ls Bs y g → ¬ IU w7.heap.size ⟨o, st, pd, ms, ts, []⟩ ⟨A7, c7, A8, c8, none, 0⟩ g := fun g hg hu => by
      have h1 := (HP0.out.p.use hg).2
      have h2 := (hIs.use hu).1
      omega
    have HIn := hid (show InP w.heap.size base2 w7.heap.size P nm Ls Bs ask y ⟨o, st, pd, ms, ts, []⟩ ⟨A7, c7, A8, c8, none, 0⟩ w9 from ⟨hI9, hP9, hdj, by have := HLE.out; have := HN.out; simp only; omega⟩)
    have HEn := hid (show IsEng n0 X M (mset es o w7.heap.size) w9 from ⟨hT9.blk hE8.blk (fun e => hE8.map.notBlk hE8.blk e.symm), HR9.out.1, hE8.low⟩)
    have HT := hid ((Touch.of_below (S := (· = M)) (bthen (bthen HWA.out HB7.out) hba)).then hT9)
    clear hE8 hB8 hba hsz hsz7 hIs hP8 hT9 hI9 hP9 hdj HR9
    go_wp2_with fail
    go_ret
    exact ⟨_, _, rfl, HIn.out, HEn.out, HT.out⟩
end

end Go.Proofs.YtoemmakhbiiknaaGreat

namespace Go.Proofs.YtoemmakhbiiknaaGreat
open Go.RowKit Go.WideShapes Go.ChangeShapes Go.ChangeAt Go.Deep
set_option linter.unusedVariables false

section
variable {w : World}
/-- A callee that reads. -/
def Same (f : FuncId) (args : Array Value) (v : Value) (w : World) : Prop := Calls Tryz.prog f args w fun e w' => e = .returned v ∧ w' = w
set_option maxRecDepth 100000 in
theorem reply_err (xv : Value) (o s tr code : Int) (un : Bool) (c : Int) (hc : c = 1 ∨ c = 70 ∨ c = 71) (h : Same 30 #[xv, .int .i64 o, .int .i64 s] (.tuple #[.pointer none, .int .i64 c]) w) : Same 10 #[xv, .int .i64 o, .int .i64 s, .int .i64 tr, .bool un, .int .i64 code] (.tuple #[.slice none 0 0, .int .i64 c]) w := by
  have K := hid h
  clear h
  unfold Same at K ⊢
  rcases hc with rfl | rfl | rfl
  all_goals
    go_enter Tryz.func10, Tryz.ntmps10
    go_wp2_with fail
    refine K.out.mono ?_
    rintro e w2 ⟨rfl, rfl⟩
    go_wp2_with fail
    go_ret2
    exact ⟨rfl, rfl⟩
set_option maxRecDepth 100000 in
theorem fire_err (xv : Value) (o s : Int) (c : Int) (hc : c = 1 ∨ c = 70 ∨ c = 71) (h : Same 30 #[xv, .int .i64 o, .int .i64 s] (.tuple #[.pointer none, .int .i64 c]) w) : Same 11 #[xv, .int .i64 o, .int .i64 s] (.tuple #[.slice none 0 0, .int .i64 c]) w := by
  have K := hid h
  clear h
  unfold Same at K ⊢
  rcases hc with rfl | rfl | rfl
  all_goals
    go_enter Tryz.func11, Tryz.ntmps11
    go_wp2_with fail
    refine K.out.mono ?_
    rintro e w2 ⟨rfl, rfl⟩
    go_wp2_with fail
    go_ret2
    exact ⟨rfl, rfl⟩
set_option maxRecDepth 100000 in
theorem paid_err (xv : Value) (o : Int) (c : Int) (hc : c = 1 ∨ c = 70 ∨ c = 71) (h : Same 28 #[xv, .int .i64 o] (.tuple #[.pointer none, .int .i64 c]) w) : Same 12 #[xv, .int .i64 o] (.tuple #[.slice none 0 0, .int .i64 c]) w := by
  have K := hid h
  clear h
  unfold Same at K ⊢
  rcases hc with rfl | rfl | rfl
  all_goals
    go_enter Tryz.func12, Tryz.ntmps12
    go_wp2_with fail
    refine K.out.mono ?_
    rintro e w2 ⟨rfl, rfl⟩
    go_wp2_with fail
    go_ret2
    exact ⟨rfl, rfl⟩
set_option maxRecDepth 100000 in
theorem cancel_err (xv : Value) (o : Int) (c : Int) (hc : c = 1 ∨ c = 70 ∨ c = 71) (h : Same 28 #[xv, .int .i64 o] (.tuple #[.pointer none, .int .i64 c]) w) : Same 13 #[xv, .int .i64 o] (.tuple #[.slice none 0 0, .int .i64 c]) w := by
  have K := hid h
  clear h
  unfold Same at K ⊢
  rcases hc with rfl | rfl | rfl
  all_goals
    go_enter Tryz.func13, Tryz.ntmps13
    go_wp2_with fail
    refine K.out.mono ?_
    rintro e w2 ⟨rfl, rfl⟩
    go_wp2_with fail
    go_ret2
    exact ⟨rfl, rfl⟩
set_option maxRecDepth 100000 in
theorem start_err (xv : Value) (o : Int) (pv : Value) (c : Int) (hc : c = 1 ∨ c = 70 ∨ c = 71) (h : Same 43 #[xv, .int .i64 o, pv] (.int .i64 c) w) : Same 16 #[xv, .int .i64 o, pv] (.tuple #[.slice none 0 0, .int .i64 c]) w := by
  have K := hid h
  clear h
  unfold Same at K ⊢
  rcases hc with rfl | rfl | rfl
  all_goals
    go_enter Tryz.func16, Tryz.ntmps16
    go_wp2_with fail
    refine K.out.mono ?_
    rintro e w2 ⟨rfl, rfl⟩
    go_wp2_with fail
    go_ret2
    exact ⟨rfl, rfl⟩
def zSaved : Value := .agg #[.int .i64 0, .int .i64 0, .bool false, .slice none 0 0, .slice none 0 0]
set_option maxRecDepth 100000 in
theorem get_err (xv : Value) (o c : Int) (hc : c = 1 ∨ c = 70) (hw : ∀ w' : World, Below w.heap.size w w' → Same 28 #[xv, .int .i64 o] (.tuple #[.pointer none, .int .i64 c]) w') :
    Calls Tryz.prog 9 #[xv, .int .i64 o] w fun e w' => e = .returned (.tuple #[zSaved, .pointer none, .bool false]) ∧ Below w.heap.size w w' := by
  have hb := ((Below.refl w.heap.size w).alloc (Nat.le_refl _) (.cells #[.int .i64 0, .int .i64 0, .bool false, .slice none 0 0, .slice none 0 0] 40))
  have HB := hid hb
  have K := hid (hw _ hb)
  clear hw hb
  unfold Same at K
  rcases hc with rfl | rfl
  all_goals
    go_enter Tryz.func9, Tryz.ntmps9
    go_wp2_with fail
    refine K.out.mono ?_
    rintro e w2 ⟨rfl, rfl⟩
    go_wp2_with fail
    refine bodyPost_ret (v := .tuple #[zSaved, .pointer none, .bool false]) (by simp [results, Tryz.results9, go_sem, zSaved]) rfl ⟨rfl, HB.out⟩
/-- Orders and Live of a nil engine. -/
theorem orders_nil : Same 22 #[.pointer none] (.slice none 0 0) w := by
  unfold Same
  go_enter Tryz.func22, Tryz.ntmps22
  go_wp2_with fail
  go_ret
  exact ⟨rfl, rfl⟩
theorem live_nil : Same 20 #[.pointer none] (.int .i64 0) w := by
  have K := hid (orders_nil (w := w))
  unfold Same at K ⊢
  go_enter Tryz.func20, Tryz.ntmps20
  go_wp2_with fail
  refine K.out.mono ?_
  rintro e w2 ⟨rfl, rfl⟩
  go_wp2_with fail
  go_loopw [3, 5, 6, 10] (fun n _a _b i wr => n = .int .i64 0 ∧ i = .int .i64 0 ∧ wr = w2) (fun _n _a _b _i _ => 0)
  case atStart => exact ⟨rfl, rfl, rfl⟩
  case round =>
    obtain ⟨rfl, rfl, rfl⟩ := hrel
    go_wp2_with fail
    go_ret
    exact ⟨rfl, rfl⟩
end

end Go.Proofs.YtoemmakhbiiknaaGreat

namespace Go.Proofs.YtoemmakhbiiknaaGreat
open Go.RowKit Go.WideShapes Go.ChangeShapes Go.ChangeAt Go.Deep
set_option linter.unusedVariables false

/-- One instance, in the program's engine and in the document's. -/
structure NrS (d : PlD) (y : Pw) (n0 X M I base : Nat) (v : Iv) (l : Il) (n1 R J : Nat) (LA : Option Addr) (lc : Nat) (od : Nat → Int) (vO : Value) (lj : Il) (w : World) : Prop where
  e : IsEng n0 X M [(v.ord, I)] w
  i : IsI base I (.pointer (some ⟨d.P, 0, none⟩)) v l w
  p : PlOk d 0 y w
  dn : DEn n1 R LA lc [J] od vO w
  j : DsI J d.RP v lj w
  od : od J = v.ord
section
variable {d : PlD} {y : Pw} {n0 X M I base : Nat} {v : Iv} {l : Il} {n1 R J : Nat} {LA : Option Addr} {lc : Nat} {od : Nat → Int} {vO : Value} {lj : Il} {w w' : World}
theorem NrS.next (h : NrS d y n0 X M I base v l n1 R J LA lc od vO lj w) (hb : Below w.heap.size w w') : NrS d y n0 X M I base v l n1 R J LA lc od vO lj w' := ⟨h.e.next hb, h.i.next hb, h.p.next hb, h.dn.next hb, h.j.next hb, h.od⟩
theorem NrS.state (h : NrS d y n0 X M I base v l n1 R J LA lc od vO lj w) : Calls Tryz.prog 24 #[.pointer (some ⟨X, 0, none⟩), .pointer (some ⟨R, 0, none⟩)] w fun e w' => e = .returned (.bool true) ∧ Below w.heap.size w w' :=
  state_one w h.e h.i h.p.p.p h.dn h.od h.j h.p.r
end
/-- After a Start the instance's numbers are in their bounds. -/
theorem tries_go (Ls : List Stp) (Bs : List IRow) (v : Iv) (h : ∀ t ∈ v.ts, 0 ≤ t ∧ t ≤ 1) : ∀ t ∈ (goV Ls Bs v).ts, 0 ≤ t ∧ t ≤ 1 := by
  have hset : ∀ {ts : List Int} (k : Nat), (∀ t ∈ ts, 0 ≤ t ∧ t ≤ 1) → ∀ t ∈ ts.set k 1, 0 ≤ t ∧ t ≤ 1 := fun {ts} k h t ht => by
    rcases List.mem_or_eq_of_mem_set ht with h1 | h1
    · exact h t h1
    · omega
  have hN : ∀ k, ∀ t ∈ (goN Ls Bs v k).ts, 0 ≤ t ∧ t ≤ 1 := fun k => by
    induction k with
    | zero => exact h
    | succ k ih =>
      show ∀ t ∈ (goS Ls Bs (goN Ls Bs v k) k).ts, _
      unfold goS
      split
      · cases Ls[k]? with
        | none => exact ih
        | some t => show ∀ x ∈ (bgV _ _ _).ts, _; unfold bgV; split <;> (try split) <;> first | exact ih | exact hset k ih
      · exact ih
  unfold goV
  split <;> exact hN _
theorem goV_ts (Ls : List Stp) (Bs : List IRow) (v : Iv) : (goV Ls Bs v).ts.length = v.ts.length := by
  have hN : ∀ k, (goN Ls Bs v k).ts.length = v.ts.length := fun k => by
    induction k with
    | zero => rfl
    | succ k ih =>
      show (goS Ls Bs (goN Ls Bs v k) k).ts.length = _
      unfold goS
      split
      · cases Ls[k]? with
        | none => exact ih
        | some t => show (bgV _ _ _).ts.length = _; unfold bgV; split <;> (try split) <;> first | exact ih | (simp; exact ih)
      · exact ih
  unfold goV
  split <;> exact hN _
theorem goV_st (Ls : List Stp) (Bs : List IRow) (v : Iv) (h : v.st = 0) : (goV Ls Bs v).st = 0 ∨ (goV Ls Bs v).st = 2 := by
  have hN : ∀ k, (goN Ls Bs v k).st = v.st := fun k => by
    induction k with
    | zero => rfl
    | succ k ih =>
      show (goS Ls Bs (goN Ls Bs v k) k).st = _
      unfold goS
      split
      · cases Ls[k]? with
        | none => exact ih
        | some t => show (bgV _ _ _).st = _; unfold bgV; split <;> (try split) <;> exact ih
      · exact ih
  unfold goV
  split
  · left; rw [hN, h]
  · right; rfl
theorem goV_mk {v : Iv} (Ls : List Stp) (Bs : List IRow) (h : MkOk v.ms) : MkOk (goV Ls Bs v).ms := by
  unfold goV
  split <;> exact goN_mk Ls Bs h _
theorem put_start (Ls : List Stp) (Bs : List IRow) (o : Int) : putB Ls.length (goV Ls Bs (newV o Ls.length)).st (goV Ls Bs (newV o Ls.length)).ms (goV Ls Bs (newV o Ls.length)).ts = true := by
  have h1 : (goV Ls Bs (newV o Ls.length)).ms.length = Ls.length := by rw [goV_ms]; simp [newV]
  have h2 : (goV Ls Bs (newV o Ls.length)).ts.length = Ls.length := by rw [goV_ts]; simp [newV]
  have h3 := goV_st Ls Bs (newV o Ls.length) rfl
  have h4 := goV_mk Ls Bs (newV_mk o Ls.length)
  have h5 := tries_go Ls Bs (newV o Ls.length) (fun t ht => by
    have := List.eq_of_mem_replicate (show t ∈ List.replicate Ls.length (0 : Int) from ht)
    omega)
  generalize goV Ls Bs (newV o Ls.length) = V at *
  have h6 : V.ms.any oddB = false := by
    rw [List.any_eq_false]
    intro m hm
    have := h4 m hm
    simp [oddB]
    omega
  have h7 : V.ts.any belB = false := by
    rw [List.any_eq_false]
    intro m hm
    have := h5 m hm
    simp [belB]
    omega
  unfold putB
  rw [h1, h2, h6, h7]
  rcases h3 with h3 | h3 <;> rw [h3] <;> simp

/-- A row of numbers of the call's own, whatever they are. -/
def RowI (t : TypeId) (base : Nat) (w : World) (A : Option Addr) (n cap : Nat) : Prop := ∃ xs : List Int, xs.length = n ∧ w.ownsRow base t 1 (.slice A n cap) n (xs.flatMap en1)
section
variable {t : TypeId} {base n cap : Nat} {w w' : World} {A : Option Addr}
theorem RowI.touch {S : Nat → Prop} (h : RowI t base w A n cap) (hT : Touch S w w') (hS : ∀ g, (Value.slice A n cap).ownBlock = some g → ¬ S g) : RowI t base w' A n cap := by
  obtain ⟨xs, h1, h2⟩ := h
  exact ⟨xs, h1, own_touch h2 hT hS⟩
theorem RowI.at_ (h : RowI t base w A n cap) {j : Nat} (hj : j < n) : ∃ g a, A = some ⟨g, 0, none⟩ ∧ base ≤ g ∧ g < w.heap.size ∧ w.cell? ⟨g, j, none⟩ = some (.int .i64 a) ∧ w.frozen? ⟨g, j, none⟩ = false := by
  obtain ⟨xs, h1, h2⟩ := h
  obtain ⟨g, rfl⟩ := own_formR h2 hj
  have hl := h2.lt g rfl
  have hx : xs[j]? = some xs[j] := List.getElem?_eq_getElem (by omega)
  refine ⟨g, xs[j], rfl, hl.1, hl.2, ?_, h2.frozenAt j⟩
  rw [h2.cellAt j (by omega)]
  have := getElem?_flatMap en1 1 (fun _ => rfl) xs j xs[j] hx 0 (by omega)
  simpa [en1] using this
theorem RowI.put (h : RowI t base w A n cap) (g o : Nat) (b : Int) : RowI t base (w.setCell ⟨g, o, none⟩ (.int .i64 b)) A n cap := by
  obtain ⟨xs, h1, h2⟩ := h
  by_cases hg : (Value.slice A n cap).ownBlock = some g
  · obtain ⟨g', e⟩ : ∃ g', A = some ⟨g', 0, none⟩ := by
      rcases h2.2 with ⟨e, h0⟩ | ⟨g', c', cur, e, _⟩
      · rw [e] at hg; cases hg
      · simp only [Value.slice.injEq] at e
        exact ⟨g', e.1⟩
    subst e
    have e2 : g' = g := by simpa [Value.ownBlock] using hg
    subst e2
    obtain ⟨h3, _⟩ := h2.stored o (.int .i64 b)
    by_cases ho : o < xs.length
    · refine ⟨xs.set o b, by rw [List.length_set]; exact h1, ?_⟩
      have := set_flat en1 1 (fun _ => rfl) xs o 0 xs[o] (.int .i64 b) (List.getElem?_eq_getElem ho) (by omega) b rfl
      rw [Nat.mul_one, Nat.add_zero] at this
      rw [← this]
      exact h3
    · refine ⟨xs, h1, ?_⟩
      have e3 : (xs.flatMap en1).set o (.int .i64 b) = xs.flatMap en1 := List.set_eq_of_length_le (by rw [flat_en1]; simp; omega)
      rw [e3] at h3
      exact h3
  · exact ⟨xs, h1, own_touch h2 (Touch.setCell w g o _) (fun g' hg' e => hg (by rw [hg', e]))⟩
end
/-- A saved instance in the law's hands, its rows new. -/
structure SvS (w0 : World) (nb G : Nat) (c : Int × Int × Bool) (n : Nat) (MA : Option Addr) (mc : Nat) (TA : Option Addr) (tc : Nat) (w : World) : Prop where
  g : Blk w G 40 #[.int .i64 c.1, .int .i64 c.2.1, .bool c.2.2, .slice MA n mc, .slice TA n tc]
  m : RowI 71 nb w MA n mc
  t : RowI 3 nb w TA n tc
  b : Below nb w0 w
  lo : nb ≤ G ∧ nb ≤ w.heap.size
section
variable {w0 w w' : World} {nb G n mc tc : Nat} {c : Int × Int × Bool} {MA TA : Option Addr}
theorem SvS.next (h : SvS w0 nb G c n MA mc TA tc w) (hb : Below w.heap.size w w') : SvS w0 nb G c n MA mc TA tc w' :=
  ⟨h.g.next hb, h.m.touch (Touch.of_below (S := fun _ => False) hb) (fun _ _ h => h), h.t.touch (Touch.of_below (S := fun _ => False) hb) (fun _ _ h => h), h.b.trans ⟨hb.os, hb.tape, hb.output, hb.size, fun k hk => hb.block k (by have := h.lo.2; omega)⟩, h.lo.1, Nat.le_trans h.lo.2 hb.size⟩
theorem SvS.put (h : SvS w0 nb G c n MA mc TA tc w) {g : Nat} (hg : nb ≤ g ∧ g ≠ G) (o : Nat) (b : Int) : SvS w0 nb G c n MA mc TA tc (w.setCell ⟨g, o, none⟩ (.int .i64 b)) := by
  have hT := Touch.setCell w g o (.int .i64 b)
  exact ⟨hT.blk h.g (fun e => hg.2 e.symm), h.m.put g o b, h.t.put g o b, h.b.trans (hT.below h.lo.2 (fun k hk => by rw [hk]; exact hg.1)), h.lo.1, by rw [setD_size]; exact h.lo.2⟩
theorem SvS.row (h : SvS w0 nb G c n MA mc TA tc w) {j : Nat} (hj : j < n) : ∃ g1 a1 g2 a2, MA = some ⟨g1, 0, none⟩ ∧ TA = some ⟨g2, 0, none⟩ ∧ (nb ≤ g1 ∧ g1 ≠ G) ∧ (nb ≤ g2 ∧ g2 ≠ G) ∧ g1 ≠ g2 ∧ (g1 < w.heap.size ∧ g2 < w.heap.size) ∧ w.cell? ⟨g1, j, none⟩ = some (.int .i64 a1) ∧ w.frozen? ⟨g1, j, none⟩ = false ∧ w.cell? ⟨g2, j, none⟩ = some (.int .i64 a2) ∧ w.frozen? ⟨g2, j, none⟩ = false := by
  obtain ⟨g1, a1, e1, l1, s1, c1, f1⟩ := h.m.at_ hj
  obtain ⟨g2, a2, e2, l2, s2, c2, f2⟩ := h.t.at_ hj
  obtain ⟨xs, _, hx⟩ := h.m
  obtain ⟨ys, _, hy⟩ := h.t
  refine ⟨g1, a1, g2, a2, e1, e2, ⟨l1, fun e => own_notBlk hx h.g (by decide) (by rw [e1, e]; rfl)⟩, ⟨l2, fun e => own_notBlk hy h.g (by decide) (by rw [e2, e]; rfl)⟩, fun e => own_ne hx hy (by decide) (g := g1) (by rw [e1]; rfl) (by rw [e2, e]; rfl), ⟨s1, s2⟩, c1, f1, c2, f2⟩
end
/-- What the program's Start leaves of the plans and of what is made ahead. -/
theorem nn_start {w0 wr W w15 : World} {ds : List PlD} {pA rA : Option Addr} {pc rc : Nat} {d : PlD} {y : Pw} {n0 X M I R : Nat} {l : Il} {o : Int} (hW : PnS w0 ds pA pc rA rc wr) (hd : d ∈ ds) (hin : ∀ g, PlV d.P d.Ls d.Bs y g → d.lo ≤ g ∧ g < d.mid) (hb : Below wr.heap.size wr W) (hM : wr.heap.size ≤ M) (hE : IsEng n0 X M [] W) (hR : Blk W R 34 #[.slice none 0 0, .slice none 0 0]) (hRl : wr.heap.size ≤ R)
    (hI : InP W.heap.size d.base I d.P d.nm d.Ls d.Bs 0 y { goV d.Ls d.Bs (newV o d.Ls.length) with out := [] } l w15) (hT : Touch (fun g => g = M ∨ g = d.P) W w15) :
    PnS w0 ds pA pc rA rc w15 ∧ Touch (· = d.P) wr w15 ∧ DEn wr.heap.size R none 0 [] (fun _ => 0) (.slice none 0 0) w15 := by
  have hT15 : Touch (· = d.P) wr w15 := (Touch.of_below hb).trans hT (fun k hk => by
    rcases hk with hk | hk
    · right; rw [hk]; exact hM
    · exact .inl hk)
  refine ⟨hW.asked hd hT15 hI.p hin, hT15, ⟨hT.blk hR (fun e => ?_), World.ownsRow_nil _ _ _ _, fun b hb => (by cases hb), hRl, fun b hb => (by cases hb)⟩⟩
  rcases e with e | e
  · exact hE.map.notBlk hR e.symm
  · have h1 := (hW.ok d hd).hi
    have h2 := hin _ (.inl rfl)
    omega
/-- What the document's Start leaves. -/
theorem nn_made {w0 wr W w15 w17 : World} {ds : List PlD} {pA rA LA : Option Addr} {pc rc lc : Nat} {d : PlD} {y : Pw} {n0 n00 X M I R J : Nat} {Xs : Nat → Prop} {l lj : Il} {o : Int} {V : Iv} {vO : Value} {od : Nat → Int} (hW : PnS w0 ds pA pc rA rc wr) (hd : d ∈ ds) (hin : ∀ g, PlV d.P d.Ls d.Bs y g → d.lo ≤ g ∧ g < d.mid) (hRl : wr.heap.size ≤ R ∧ R < W.heap.size) (hV : V = goV d.Ls d.Bs (newV o d.Ls.length))
    (hI : InP W.heap.size d.base I d.P d.nm d.Ls d.Bs 0 y { V with out := [] } l w15) (hE : IsEng n0 X M (mset [] o I) w15) (hT15 : Touch (· = d.P) wr w15) (hR : Blk w15 R 34 #[.slice none 0 0, .slice none 0 0])
    (hDE : DEn wr.heap.size R LA lc ([] ++ [J]) od vO w17) (hD : IsD n00 Xs R J d.RP (.slice LA 1 lc) V lj w17) (hod : od J = o) (hT : Touch (DV R none 0 0) w15 w17) :
    PnS w0 ds pA pc rA rc w17 ∧ Touch (· = d.P) wr w17 ∧ NrS d y n0 X M I W.heap.size { V with out := [] } l wr.heap.size R J LA lc od vO lj w17 := by
  have hDV : ∀ g, DV R none 0 0 g → g = R := fun g hg => by
    rcases hg with hg | hg
    · exact hg
    · cases hg
  have hT17 : Touch (· = d.P) wr w17 := hT15.trans hT (fun k hk => by right; rw [hDV k hk]; exact hRl.1)
  have hM := hW.ok d hd
  have hPI : ∀ g, DV R none 0 0 g → ¬ PlV d.P d.Ls d.Bs y g := fun g hg hu => by
    have h1 := hin g hu
    have h2 := hM.hi
    have h3 := hDV g hg
    omega
  have hPl : PlY d.base d.nm d.P d.Ls d.Bs 0 y w17 := ⟨hI.p.p.touchS hT hPI, hI.p.ok, hI.p.nil, hI.p.rows, hI.p.aft⟩
  have hP17 := hW.asked hd hT17 hPl hin
  obtain ⟨y2, hy2, _⟩ := (hP17.ok d hd).ok
  have hord : V.ord = o := by rw [hV, goV_ord]; rfl
  refine ⟨hP17, hT17, ⟨?_, hI.i.touch hT (fun g hg hu => ?_), ⟨hPl, hy2.r⟩, by simpa using hDE, ⟨hD.b, own_rd hD.m, own_rd hD.t⟩, by rw [hod, hord]⟩⟩
  · have := hE.touch hT (fun hu => hE.blk.ne_ hR (by decide) (hDV _ hu)) (fun hu => hE.map.notBlk hR (hDV _ hu))
    rw [mset_new rfl] at this
    show IsEng n0 X M [(V.ord, I)] w17
    rw [hord]
    exact this
  · have h1 := (hI.i.use hu).1
    have h2 := hDV g hg
    omega

end Go.Proofs.YtoemmakhbiiknaaGreat

namespace Go.Proofs.YtoemmakhbiiknaaGreat
open Go.RowKit Go.WideShapes Go.ChangeShapes Go.ChangeAt Go.Deep
set_option linter.unusedVariables false

/-- Between the rounds: what came in (G), what is made (F). -/
structure DpS (w0 : World) (G F : Nat) (xo xs : Int) (xp : Bool) (vM vT : Value) (RP : Nat) (MA : Option Addr) (mc : Nat) (TA : Option Addr) (tc : Nat) (km kt : Nat) (ms ts : List Int) (w : World) : Prop where
  g : Blk w G 106 #[.int .i64 xo, .int .i64 xs, .bool xp, vM, vT, .pointer (some ⟨RP, 0, none⟩)]
  f : Blk w F 106 #[.int .i64 xo, .int .i64 xs, .bool xp, .slice MA km mc, .slice TA kt tc, .pointer (some ⟨RP, 0, none⟩)]
  m : w.ownsRow w0.heap.size 3 1 (.slice MA km mc) km (ms.flatMap en1)
  t : w.ownsRow w0.heap.size 3 1 (.slice TA kt tc) kt (ts.flatMap en1)
  mt : ∀ g, (Value.slice MA km mc).ownBlock = some g → (Value.slice TA kt tc).ownBlock ≠ some g
  gf : G ≠ F
  b : Below w0.heap.size w0 w
  lo : w0.heap.size ≤ F ∧ w0.heap.size ≤ G
section
variable {w0 w w' : World} {G F RP km kt mc tc : Nat} {vM vT : Value} {xo xs : Int} {xp : Bool} {MA TA : Option Addr} {ms ts : List Int}
theorem DpS.next (h : DpS w0 G F xo xs xp vM vT RP MA mc TA tc km kt ms ts w) (hb : Below w.heap.size w w') : DpS w0 G F xo xs xp vM vT RP MA mc TA tc km kt ms ts w' :=
  ⟨h.g.next hb, h.f.next hb, own_next h.m hb, own_next h.t hb, h.mt, h.gf, bthen h.b hb, h.lo⟩
theorem DpS.growM (h : DpS w0 G F xo xs xp vM vT RP MA mc TA tc km kt ms ts w) {w7 : World} {g cap : Nat} {x : Int} (hO : w7.ownsRow w0.heap.size 3 1 (.slice (some ⟨g, 0, none⟩) (km + 1) cap) (km + 1) (ms.flatMap en1 ++ [.int .i64 x])) (hg : w.grownBy w7 (Value.slice MA km mc).ownBlock) (hat : (Value.slice MA km mc).ownBlock = some g ∨ g = w.heap.size) :
    DpS w0 G F xo xs xp vM vT RP (some ⟨g, 0, none⟩) cap TA tc (km + 1) kt (ms ++ [x]) ts (w7.setCell ⟨F, 3, none⟩ (.slice (some ⟨g, 0, none⟩) (km + 1) cap)) ∧ Blk w7 F 106 #[.int .i64 xo, .int .i64 xs, .bool xp, .slice MA km mc, .slice TA kt tc, .pointer (some ⟨RP, 0, none⟩)] := by
  have hT7 : Touch (fun b => (Value.slice MA km mc).ownBlock = some b) w w7 := ⟨hg.os, hg.tape, hg.output, hg.size, fun k hk hn => hg.block k hk (fun e => hn e.symm)⟩
  have hg7 := hT7.blk h.g (fun e => own_notBlk h.m h.g (by decide) e)
  have hf7 := hT7.blk h.f (fun e => own_notBlk h.m h.f (by decide) e)
  have ht7 := own_touch h.t hT7 (fun q hq e => h.mt q e hq)
  have hS := Touch.setCell w7 F 3 (.slice (some ⟨g, 0, none⟩) (km + 1) cap)
  refine ⟨⟨hS.blk hg7 h.gf, by simpa using hf7.set_ 3 (.slice (some ⟨g, 0, none⟩) (km + 1) cap), ?_, own_touch ht7 hS (fun q hq e => own_notBlk ht7 hf7 (by decide) (by rw [hq, e])), fun q hq => ?_, h.gf, (h.b.trans (hT7.below h.b.size (fun k hk => (h.m.lt k hk).1))).trans (hS.below (Nat.le_trans h.b.size hT7.size) (fun k hk => by rw [hk]; exact h.lo.1)), h.lo⟩, hf7⟩
  · have := own_touch hO hS (fun q hq e => own_notBlk hO hf7 (by decide) (by rw [hq, e]))
    simpa [en1] using this
  · have e2 : g = q := by simpa [Value.ownBlock] using hq
    subst e2
    rcases hat with hat | hat
    · exact h.mt _ hat
    · intro e
      have := (h.t.lt g e).2
      omega
theorem DpS.growT (h : DpS w0 G F xo xs xp vM vT RP MA mc TA tc km kt ms ts w) {w7 : World} {g cap : Nat} {x : Int} (hO : w7.ownsRow w0.heap.size 3 1 (.slice (some ⟨g, 0, none⟩) (kt + 1) cap) (kt + 1) (ts.flatMap en1 ++ [.int .i64 x])) (hg : w.grownBy w7 (Value.slice TA kt tc).ownBlock) (hat : (Value.slice TA kt tc).ownBlock = some g ∨ g = w.heap.size) :
    DpS w0 G F xo xs xp vM vT RP MA mc (some ⟨g, 0, none⟩) cap km (kt + 1) ms (ts ++ [x]) (w7.setCell ⟨F, 4, none⟩ (.slice (some ⟨g, 0, none⟩) (kt + 1) cap)) ∧ Blk w7 F 106 #[.int .i64 xo, .int .i64 xs, .bool xp, .slice MA km mc, .slice TA kt tc, .pointer (some ⟨RP, 0, none⟩)] := by
  have hT7 : Touch (fun b => (Value.slice TA kt tc).ownBlock = some b) w w7 := ⟨hg.os, hg.tape, hg.output, hg.size, fun k hk hn => hg.block k hk (fun e => hn e.symm)⟩
  have hg7 := hT7.blk h.g (fun e => own_notBlk h.t h.g (by decide) e)
  have hf7 := hT7.blk h.f (fun e => own_notBlk h.t h.f (by decide) e)
  have hm7 := own_touch h.m hT7 (fun q hq e => h.mt q hq e)
  have hS := Touch.setCell w7 F 4 (.slice (some ⟨g, 0, none⟩) (kt + 1) cap)
  refine ⟨⟨hS.blk hg7 h.gf, by simpa using hf7.set_ 4 (.slice (some ⟨g, 0, none⟩) (kt + 1) cap), own_touch hm7 hS (fun q hq e => own_notBlk hm7 hf7 (by decide) (by rw [hq, e])), ?_, fun q hq => ?_, h.gf, (h.b.trans (hT7.below h.b.size (fun k hk => (h.t.lt k hk).1))).trans (hS.below (Nat.le_trans h.b.size hT7.size) (fun k hk => by rw [hk]; exact h.lo.1)), h.lo⟩, hf7⟩
  · have := own_touch hO hS (fun q hq e => own_notBlk hO hf7 (by decide) (by rw [hq, e]))
    simpa [en1] using this
  · intro e
    have e2 : g = q := by simpa [Value.ownBlock] using e
    subst e2
    rcases hat with hat | hat
    · exact h.mt _ hq hat
    · have := (h.m.lt g hq).2
      omega
end
set_option maxRecDepth 100000 in
set_option maxHeartbeats 16000000 in
theorem dput_no {n1 R lc : Nat} {LA : Option Addr} {bs : List Nat} {od : Nat → Int} {vO : Value} (w : World) (h : DEn n1 R LA lc bs od vO w) (xo xs : Int) (xp : Bool) (vM vT vP : Value) (hM : vM.oneCell' = true) (hT : vT.oneCell' = true) (hP : vP.oneCell' = true) (hl : bs.length ≤ 140737488355328) (b : Nat) (hf : dfV od bs xo = pB b) :
    Calls Tryz.prog 40 #[.pointer (some ⟨R, 0, none⟩), .agg #[.int .i64 xo, .int .i64 xs, .bool xp, vM, vT, vP]] w fun e w' => e = .returned (.int .i64 71) ∧ Below w.heap.size w w' := by
  have hb : Below w.heap.size w (w.alloc (.cells #[.int .i64 xo, .int .i64 xs, .bool xp, vM, vT, vP] 106)) := (Below.refl _ _).alloc (Nat.le_refl _) _
  have K := hid ((h.next hb).find xo hl)
  rw [hf] at K
  unfold pB at K
  have HB := hid hb
  clear h hf hb
  go_enter Tryz.func40, Tryz.ntmps40
  go_wp2_with fail
  refine K.out.mono ?_
  rintro e w2 ⟨rfl, rfl⟩
  go_wp2_with fail
  go_ret
  exact ⟨rfl, HB.out⟩
/-- What Put leaves. -/
def DputR (n1 R : Nat) (LA : Option Addr) (lc : Nat) (bs : List Nat) (vO : Value) (w : World) (e : Ending) (w' : World) : Prop := ∃ (c : Int) (LA' : Option Addr) (lc' : Nat) (bs' : List Nat) (od' : Nat → Int), e = .returned (.int .i64 c) ∧ DEn n1 R LA' lc' bs' od' vO w' ∧ Touch (DV R LA bs.length lc) w w' ∧ bs'.length ≤ bs.length + 1
set_option maxRecDepth 100000 in
set_option maxHeartbeats 64000000 in
theorem dput_any {n1 R lc b2 sc RP : Nat} {LA SA : Option Addr} {bs : List Nat} {od : Nat → Int} {vO : Value} {nm : ByteArray} {Lr : List Stp} (w : World) (h : DEn n1 R LA lc bs od vO w) (hp : RpS b2 RP nm SA sc Lr w) (xo xs : Int) (xp : Bool) (ms ts : List Int) (MA TA : Option Addr) (mc tc : Nat) (hm : Rd w MA (ms.flatMap en1)) (ht : Rd w TA (ts.flatMap en1)) (hl : bs.length * 8 + 8 ≤ 140737488355328) (hml : ms.length ≤ 140737488351232) (htl : ts.length ≤ 140737488351232) :
    Calls Tryz.prog 40 #[.pointer (some ⟨R, 0, none⟩), .agg #[.int .i64 xo, .int .i64 xs, .bool xp, .slice MA ms.length mc, .slice TA ts.length tc, .pointer (some ⟨RP, 0, none⟩)]] w (DputR n1 R LA lc bs vO w) := by
  have hbG : Below w.heap.size w (w.alloc (.cells #[.int .i64 xo, .int .i64 xs, .bool xp, .slice MA ms.length mc, .slice TA ts.length tc, .pointer (some ⟨RP, 0, none⟩)] 106)) := (Below.refl _ _).alloc (Nat.le_refl _) _
  have hBG := Blk.new w 106 #[.int .i64 xo, .int .i64 xs, .bool xp, .slice MA ms.length mc, .slice TA ts.length tc, .pointer (some ⟨RP, 0, none⟩)]
  obtain ⟨W, hW⟩ : ∃ W, W = w.alloc (.cells #[.int .i64 xo, .int .i64 xs, .bool xp, .slice MA ms.length mc, .slice TA ts.length tc, .pointer (some ⟨RP, 0, none⟩)] 106) := ⟨_, rfl⟩
  obtain ⟨G, hG⟩ : ∃ G, G = w.heap.size := ⟨_, rfl⟩
  rw [← hW] at hbG hBG
  rw [← hG] at hBG
  have HE0 := hid h
  have HM0 := hid hm
  have HT0 := hid ht
  have HE := hid (h.next hbG)
  have HP := hid (hp.next hbG)
  have HM := hid (hm.below hbG)
  have HT := hid (ht.below hbG)
  have HBG := hid hbG
  have HGB := hid hBG
  have HW := hid (And.intro hW hG)
  have K := hid (HE.out.find xo (by omega))
  have hLr := hp.n
  have HLO := hid h.lo
  obtain ⟨nr, hnr⟩ : ∃ nr, nr = Lr.length := ⟨_, rfl⟩
  have g0 : W.cell? ⟨G, 0, none⟩ = some (.int .i64 xo) := hBG.cell 0
  have lG := hBG.lt
  rw [← hnr] at hLr
  obtain ⟨i1, hj, hy0, hy1, hy2⟩ := info_parts info_dptr
  obtain ⟨i2, hk2, hx0, hx1, hx2⟩ := info_parts info_int13
  cases hfb : bs.find? (fun b => od b == xo) with
  | some b =>
    rw [show dfV od bs xo = .pointer (some ⟨b, 0, none⟩) from by unfold dfV; rw [hfb]; rfl] at K
    clear h hp hm ht hbG hBG hW hG hnr
    go_enter Tryz.func40, Tryz.ntmps40
    go_upto_region 1 with fail
    rw [← HW.out.1, ← HW.out.2]
    go_wp2_with fail
    refine K.out.mono ?_
    rintro e w2 ⟨rfl, rfl⟩
    clear g0
    go_wp2_with fail
    go_ret
    exact ⟨71, LA, lc, bs, od, rfl, HE.out, Touch.of_below HBG.out, by omega⟩
  | none =>
    rw [show dfV od bs xo = .pointer none from by unfold dfV; rw [hfb]] at K
    have HNF := hid hfb
    obtain ⟨C, hCd⟩ : ∃ C : World → Prop, ∀ w', C w' ↔ Below W.heap.size W w' := ⟨_, fun _ => Iff.rfl⟩
    have HCd := hid hCd
    have c1 : ∀ p : In C, p.w.cell? ⟨G, 1, none⟩ = some (.int .i64 xs) := fun p => (hBG.next ((hCd _).1 p.h)).cell 1
    have c3 : ∀ p : In C, p.w.cell? ⟨G, 3, none⟩ = some (.slice MA ms.length mc) := fun p => (hBG.next ((hCd _).1 p.h)).cell 3
    have c4 : ∀ p : In C, p.w.cell? ⟨G, 4, none⟩ = some (.slice TA ts.length tc) := fun p => (hBG.next ((hCd _).1 p.h)).cell 4
    have c5 : ∀ p : In C, p.w.cell? ⟨G, 5, none⟩ = some (.pointer (some ⟨RP, 0, none⟩)) := fun p => (hBG.next ((hCd _).1 p.h)).cell 5
    have cp : ∀ p : In C, p.w.cell? ⟨RP, 1, none⟩ = some (.slice SA nr sc) := fun p => by rw [hnr]; exact (HP.out.next ((hCd _).1 p.h)).p.cell 1
    clear h hp hm ht hbG hBG hW hG hnr hCd hfb
    go_enter Tryz.func40, Tryz.ntmps40
    go_upto_region 1 with fail
    rw [← HW.out.1, ← HW.out.2]
    go_wp2_with fail
    refine K.out.mono ?_
    rintro e w2 ⟨rfl, rfl⟩
    clear K g0
    go_upto_region 4 with fail
    have hCW : C w2.drew := (HCd.out _).2 (Below.refl _ _).drew
    cases e1 : ((ms.length : Int) != (nr : Int)) with
    | true =>
      refine wp_region_in C (by kernel_rfl) (by kernel_rfl) hCW ?_
      intro hne
      clear hCW
      repeat (first | go_big_quiet_step (fail) | quiet_step (fail))
      refine wpQuiet_nil ?_
      intro wq hq
      have HQ := hid ((HCd.out _).1 hq)
      clear c1 c3 c4 c5 cp hne hq
      go_wp2_with fail
      go_ret
      exact ⟨2, LA, lc, bs, od, rfl, HE.out.next HQ.out, Touch.of_below (bthen HBG.out HQ.out), by omega⟩
    | false =>
      cases e2 : ((ts.length : Int) != (nr : Int)) with
      | true =>
        refine wp_region_in C (by kernel_rfl) (by kernel_rfl) hCW ?_
        intro hne
        clear hCW
        repeat (first | go_big_quiet_step (fail) | quiet_step (fail))
        refine wpQuiet_nil ?_
        intro wq hq
        have HQ := hid ((HCd.out _).1 hq)
        clear c1 c3 c4 c5 cp hne hq
        go_wp2_with fail
        go_ret
        exact ⟨2, LA, lc, bs, od, rfl, HE.out.next HQ.out, Touch.of_below (bthen HBG.out HQ.out), by omega⟩
      | false =>
        by_cases e3 : xs < 0
        · refine wp_region_in C (by kernel_rfl) (by kernel_rfl) hCW ?_
          intro hne
          clear hCW
          repeat (first | go_big_quiet_step (fail) | quiet_step (fail))
          refine wpQuiet_nil ?_
          intro wq hq
          have HQ := hid ((HCd.out _).1 hq)
          clear c1 c3 c4 c5 cp hne hq
          go_wp2_with fail
          go_ret
          exact ⟨2, LA, lc, bs, od, rfl, HE.out.next HQ.out, Touch.of_below (bthen HBG.out HQ.out), by omega⟩
        · by_cases e4 : 3 < xs
          · refine wp_region_in C (by kernel_rfl) (by kernel_rfl) hCW ?_
            intro hne
            clear hCW
            repeat (first | go_big_quiet_step (fail) | quiet_step (fail))
            refine wpQuiet_nil ?_
            intro wq hq
            have HQ := hid ((HCd.out _).1 hq)
            clear c1 c3 c4 c5 cp hne hq
            go_wp2_with fail
            go_ret
            exact ⟨2, LA, lc, bs, od, rfl, HE.out.next HQ.out, Touch.of_below (bthen HBG.out HQ.out), by omega⟩
          · refine wp_region_in C (by kernel_rfl) (by kernel_rfl) hCW ?_
            intro hne
            clear hCW
            repeat (first | go_big_quiet_step (fail) | quiet_step (fail))
            refine wpQuiet_nil ?_
            intro wq hq
            have HQ := hid ((HCd.out _).1 hq)
            clear c1 c3 c4 c5 cp hne hq
            have hGq := HGB.out.next HQ.out
            have g0 : wq.cell? ⟨G, 0, none⟩ = some (.int .i64 xo) := hGq.cell 0
            have g1 : wq.cell? ⟨G, 1, none⟩ = some (.int .i64 xs) := hGq.cell 1
            have g2 : wq.cell? ⟨G, 2, none⟩ = some (.bool xp) := hGq.cell 2
            have g5 : wq.cell? ⟨G, 5, none⟩ = some (.pointer (some ⟨RP, 0, none⟩)) := hGq.cell 5
            have lGq := hGq.lt
            have HGQ := hid hGq
            clear hGq lG
            have HLL := hid (show ts.length = ms.length from by
              have h1 : (ms.length : Int) = (nr : Int) := by simpa using e1
              have h2 : (ts.length : Int) = (nr : Int) := by simpa using e2
              omega)
            have hms : ms.length ≤ 1000 := by
              have h1 : (ms.length : Int) = (nr : Int) := by simpa using e1
              omega
            clear e1 e2 e3 e4 hLr hml htl
            have HF0 := hid (Blk.new wq 106 #[.int .i64 xo, .int .i64 xs, .bool xp, .slice none 0 0, .slice none 0 0, .pointer (some ⟨RP, 0, none⟩)])
            have hbF : Below wq.heap.size wq (wq.alloc (.cells #[.int .i64 xo, .int .i64 xs, .bool xp, .slice none 0 0, .slice none 0 0, .pointer (some ⟨RP, 0, none⟩)] 106)) := (Below.refl _ _).alloc (Nat.le_refl _) _
            have HBF := hid hbF
            have HGF := hid (show G < wq.heap.size from lGq)
            clear hbF
            go_upto_region 7 with fail
            clear g0 g1 g2 g5 lGq
            generalize wq.alloc (.cells #[.int .i64 xo, .int .i64 xs, .bool xp, .slice none 0 0, .slice none 0 0, .pointer (some ⟨RP, 0, none⟩)] 106) = W6 at HF0 HBF ⊢
            have hFl : w.heap.size ≤ wq.heap.size := (bthen HBG.out HQ.out).size
            have hGl : w.heap.size ≤ G := by rw [HW.out.2]; exact Nat.le_refl _
            have hDP : DpS w G wq.heap.size xo xs xp (.slice MA ms.length mc) (.slice TA ts.length tc) RP none 0 none 0 0 0 [] [] W6 :=
              ⟨HGQ.out.next HBF.out, HF0.out, World.ownsRow_nil _ _ _ _, World.ownsRow_nil _ _ _ _, fun g hg => (by cases hg), by have := HGF.out; omega, bthen (bthen HBG.out HQ.out) HBF.out, hFl, hGl⟩
            have HDP := hid hDP
            generalize wq.heap.size = F at HDP ⊢
            clear hDP hFl hGl HF0 HBF HGF HGQ
            go_wp2_with fail
            go_loopw [7] (fun i wr => ∃ (k : Nat) (MA' TA' : Option Addr) (mc' tc' : Nat) (ms' ts' : List Int), k ≤ ms.length ∧ i = .int .i64 k ∧ Hid (ms'.length = k ∧ ts'.length = k) ∧ Hid (DpS w G F xo xs xp (.slice MA ms.length mc) (.slice TA ts.length tc) RP MA' mc' TA' tc' k k ms' ts' wr)) (fun i _ => ms.length - nOf i)
            case atStart => exact ⟨0, none, none, 0, 0, [], [], Nat.zero_le _, rfl, hid ⟨rfl, rfl⟩, HDP⟩
            case round =>
              obtain ⟨k, MA', TA', mc', tc', ms', ts', hk, rfl, HLK, HD⟩ := hrel
              have lG := HD.out.g.lt
              by_cases hlt : k < ms.length
              · obtain ⟨m, hm⟩ : ∃ m, ms[k]? = some m := ⟨ms[k], List.getElem?_eq_getElem hlt⟩
                have hlt2 : k < ts.length := by have := HLL.out; omega
                obtain ⟨t, ht⟩ : ∃ t, ts[k]? = some t := ⟨ts[k], List.getElem?_eq_getElem hlt2⟩
                obtain ⟨b1, o1, hA1, lb1, hc1⟩ := (HM0.out.below HD.out.b).at_ 1 (fun _ => rfl) (by omega) hm
                obtain ⟨b2, o2, hA2, lb2, hc2⟩ := (HT0.out.below HD.out.b).at_ 1 (fun _ => rfl) (by omega) ht
                have q1 : wr.cell? ⟨b1, o1 + k * 1, none⟩ = some (.int .i64 m) := hc1 0 _ rfl
                have q2 : wr.cell? ⟨b2, o2 + k * 1, none⟩ = some (.int .i64 t) := hc2 0 _ rfl
                rw [Nat.mul_one] at q1 q2
                have g3 : wr.cell? ⟨G, 3, none⟩ = some (.slice (some ⟨b1, o1, none⟩) ms.length mc) := by rw [← hA1]; exact HD.out.g.cell 3
                have g4 : wr.cell? ⟨G, 4, none⟩ = some (.slice (some ⟨b2, o2, none⟩) ts.length tc) := by rw [← hA2]; exact HD.out.g.cell 4
                have HA2 := hid hA2
                have HTT := hid ht
                clear hm ht hc1 hc2 hA1 hA2
                by_cases e1 : m < 0
                · go_wp2_with fail
                  go_ret
                  exact ⟨2, LA, lc, bs, od, rfl, HE0.out.next HD.out.b, Touch.of_below HD.out.b, by omega⟩
                · by_cases e2 : 5 < m
                  · go_wp2_with fail
                    go_ret
                    exact ⟨2, LA, lc, bs, od, rfl, HE0.out.next HD.out.b, Touch.of_below HD.out.b, by omega⟩
                  · by_cases e3 : t < 0
                    · go_wp2_with fail
                      go_ret
                      exact ⟨2, LA, lc, bs, od, rfl, HE0.out.next HD.out.b, Touch.of_below HD.out.b, by omega⟩
                    · by_cases e4 : 1099511627776 < t
                      · go_wp2_with fail
                        go_ret
                        exact ⟨2, LA, lc, bs, od, rfl, HE0.out.next HD.out.b, Touch.of_below HD.out.b, by omega⟩
                      · go_upto_region 12 with fail
                        have i3 : wr.cell? ⟨F, 3, none⟩ = some (.slice MA' k mc') := HD.out.f.cell 3
                        have f3 := HD.out.f.free 3
                        have lF := HD.out.f.lt
                        have hbs : w.heap.size ≤ wr.heap.size := HD.out.b.size
                        obtain ⟨B, hB⟩ : ∃ B : Obj, B = .cells #[.int .i64 m] 3 := ⟨_, rfl⟩
                        have hbw : Below wr.heap.size wr (wr.drew.alloc B) := (Below.refl _ _).drew.alloc (Nat.le_refl _) _
                        have HDz := hid (HD.out.next hbw)
                        have hO := hid HDz.out.m
                        subst hB
                        go_region_law ((refine step_append_lies _ (by rfl) _ _ _ (by rfl) w.heap.size 3 i2 _ 1 8 Tryz.underlying38 hk2 hx0 hx1 hx2 rfl (by decide) _ _ _ (by rfl) hO.out ⟨wr.heap.size, 0, none⟩ 1 1 [.int .i64 m] (by rfl) (by rfl) (World.news_of_block (heap_alloc_new _ _)) (by simp [Value.oneCell']) (by omega) (by unfold maxLen; omega) (by omega) (by simp; omega) _ rfl ?_; intro g7 cap7 w7 hO7 hg7 hat7 hlt7; have H7 := hid (HDz.out.growM hO7 hg7 hat7); have c7 : w7.cell? ⟨F, 3, none⟩ = some (.slice MA' k mc') := H7.out.2.cell 3; have f7 := H7.out.2.free 3))
                        all_goals
                          clear hO7 hg7 hat7 hlt7 c7 f7 hO HDz i3 f3 q1 g3 hbw
                          have HD8 := hid H7.out.1
                          clear H7
                          generalize w7.setCell ⟨F, 3, none⟩ (.slice (some ⟨g7, 0, none⟩) (k + 1) cap7) = W8 at HD8 ⊢
                          obtain ⟨b2', o2', hA2, lb2', hc2⟩ := (HT0.out.below HD8.out.b).at_ 1 (fun _ => rfl) (by omega) HTT.out
                          rw [HA2.out] at hA2
                          simp only [Option.some.injEq, Addr.mk.injEq, and_true] at hA2
                          obtain ⟨rfl, rfl⟩ := hA2
                          have q2 : W8.cell? ⟨b2, o2 + k * 1, none⟩ = some (.int .i64 t) := hc2 0 _ rfl
                          rw [Nat.mul_one] at q2
                          have g4 : W8.cell? ⟨G, 4, none⟩ = some (.slice (some ⟨b2, o2, none⟩) ts.length tc) := by rw [← HA2.out]; exact HD8.out.g.cell 4
                          have lG := HD8.out.g.lt
                          have i4 : W8.cell? ⟨F, 4, none⟩ = some (.slice TA' k tc') := HD8.out.f.cell 4
                          have f4 := HD8.out.f.free 4
                          have lF := HD8.out.f.lt
                          have hbs : w.heap.size ≤ W8.heap.size := HD8.out.b.size
                          obtain ⟨B, hB⟩ : ∃ B : Obj, B = .cells #[.int .i64 t] 3 := ⟨_, rfl⟩
                          have hbw : Below W8.heap.size W8 (W8.drew.alloc B) := (Below.refl _ _).drew.alloc (Nat.le_refl _) _
                          have HDz := hid (HD8.out.next hbw)
                          have hO := hid HDz.out.t
                          subst hB
                          clear hc2 HD8
                          go_upto_region 13 with fail
                          go_region_law ((refine step_append_lies _ (by rfl) _ _ _ (by rfl) w.heap.size 3 i2 _ 1 8 Tryz.underlying38 hk2 hx0 hx1 hx2 rfl (by decide) _ _ _ (by rfl) hO.out ⟨W8.heap.size, 0, none⟩ 1 1 [.int .i64 t] (by rfl) (by rfl) (World.news_of_block (heap_alloc_new _ _)) (by simp [Value.oneCell']) (by omega) (by unfold maxLen; omega) (by omega) (by simp; omega) _ rfl ?_; intro g9 cap9 w9 hO9 hg9 hat9 hlt9; have H9 := hid (HDz.out.growT hO9 hg9 hat9); have c9 : w9.cell? ⟨F, 4, none⟩ = some (.slice TA' k tc') := H9.out.2.cell 4; have f9 := H9.out.2.free 4))
                          all_goals
                            clear hO9 hg9 hat9 hlt9 c9 f9 hO HDz i4 f4 q2 g4 hbw
                            go_wp2_with fail
                            go_roundw
                            case rel => exact ⟨k + 1, _, _, _, _, ms' ++ [m], ts' ++ [t], by omega, by go_num, hid (by have := HLK.out; simp; omega), hid H9.out.1⟩
                            case measure => simp [nOf]; omega
              · have hk' : k = ms.length := by omega
                subst hk'
                have g3 : wr.cell? ⟨G, 3, none⟩ = some (.slice MA ms.length mc) := HD.out.g.cell 3
                have HEr := hid (HE0.out.next HD.out.b)
                have r0 : wr.cell? ⟨R, 0, none⟩ = some (.slice LA bs.length lc) := HEr.out.r.cell 0
                have lR := HEr.out.r.lt
                have HOL := hid HEr.out.own
                have hlow : n1 ≤ wr.heap.size := by have := HEr.out.lo.1; omega
                have HNE := hid (show (∀ b ∈ bs, b ≠ F) ∧ n1 ≤ F from ⟨fun b hb e => by
                  obtain ⟨v, l, RP', a, _⟩ := HE0.out.inst b hb
                  have h1 := a.lt
                  have h2 := HD.out.lo.1
                  omega, by
                  have h1 := HE0.out.lo.1
                  have h2 := HE0.out.r.lt
                  have h3 := HD.out.lo.1
                  omega⟩)
                have HJ := hid (show Blk wr F 106 (inD RP ⟨xo, xs, xp, ms', ts', []⟩ ⟨MA', mc', TA', tc', none, 0⟩) from by
                  have h := HD.out.f
                  have h1 := HLK.out
                  simp only [inD, h1.1, h1.2]
                  exact h)
                go_wp2_with (at_builtin; refine wpList_push_at _ rfl _ _ 31 rfl n1 139 i1 _ 1 8 Tryz.underlying31 hj hy0 hy1 hy2 rfl (by decide) _ _ _ (by rfl) HOL.out #[.pointer (some ⟨F, 0, none⟩)] wr.heap.size rfl (by rfl) (by rfl) (by rfl) (by unfold maxLen; omega) (by omega) hlow ?_; intro v' w3 hO4 hg4 hat4; obtain ⟨A', cap', rfl, _⟩ := own_slice hO4; have HPU := hid (HEr.out.push (o := xo) HJ.out rfl HNE.out.1 HNE.out.2 hO4 hg4); have c3 : w3.cell? ⟨R, 0, none⟩ = some (.slice LA bs.length lc) := HPU.out.2.2.cell 0; have f3 := HPU.out.2.2.free 0; have l3 := HPU.out.2.2.lt; clear hO4 hg4 hat4)
                go_ret
                exact ⟨0, A', cap', _, _, rfl, HPU.out.1, (Touch.of_below HD.out.b).then HPU.out.2.1, by simp⟩

end Go.Proofs.YtoemmakhbiiknaaGreat
