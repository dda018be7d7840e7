/-
  The document's book of money: Put of an order that is there, Of.
-/
import Derived.Test.YthdmbbfppgenlaaGreatChR
import Derived.Deep.MidRow
namespace Go.Proofs.YthdmbbfppgenlaaGreat
open Go.RowKit Go.WideShapes Go.ChangeShapes Go.ChangeAt Go.Deep
set_option linter.unusedVariables false

/-- The book beside the document's list. -/
structure RelC (F : Int → Option Ca) (L : List Ca) : Prop where
  sorted : SortedK Ca.o ltI L
  mem : ∀ o a, F o = some a ↔ a ∈ L ∧ a.o = o
theorem RelC.nil : RelC (cfind []) [] := ⟨List.Pairwise.nil, fun o a => ⟨fun h => (by cases h), fun h => (by cases h.1)⟩⟩
theorem RelC.none {F : Int → Option Ca} {L : List Ca} (h : RelC F L) {o : Int} : F o = Option.none ↔ o ∉ L.map Ca.o := by
  constructor
  · intro hn hin
    obtain ⟨a, ha, e⟩ := List.mem_map.1 hin
    have := (h.mem o a).2 ⟨ha, e⟩
    rw [hn] at this
    cases this
  · intro hn
    cases hf : F o with
    | none => rfl
    | some a =>
      have := (h.mem o a).1 hf
      exact absurd (List.mem_map.2 ⟨a, this.1, this.2⟩) hn
theorem RelC.put {F : Int → Option Ca} {L L' : List Ca} {a : Ca} (h : RelC F L) (h1 : a.o ∈ L.map Ca.o → L' = updK Ca.o L a) (h2 : a.o ∉ L.map Ca.o → L' = insK Ca.o ltI L a) : RelC (updC F a.o (some a)) L' := by
  by_cases hin : a.o ∈ L.map Ca.o
  · rw [h1 hin]
    refine ⟨updK_sorted h.sorted, fun o b => ?_⟩
    unfold updC updK
    simp only
    rw [List.mem_map]
    constructor
    · intro hb
      split at hb
      · rename_i e
        injection hb with hb
        subst hb
        obtain ⟨y, hy, ey⟩ := List.mem_map.1 hin
        exact ⟨⟨y, hy, by rw [if_pos ey]⟩, e.symm⟩
      · rename_i e
        obtain ⟨g1, g2⟩ := (h.mem o b).1 hb
        exact ⟨⟨b, g1, by rw [if_neg (fun e' => e (by rw [← g2, e']))]⟩, g2⟩
    · rintro ⟨⟨y, hy, ey⟩, e⟩
      by_cases hc : y.o = a.o
      · rw [if_pos hc] at ey
        subst ey
        rw [if_pos e.symm]
      · rw [if_neg hc] at ey
        subst ey
        rw [if_neg (fun e' => hc (by rw [← e', ← e]))]
        exact (h.mem o y).2 ⟨hy, e⟩
  · rw [h2 hin]
    refine ⟨insK_sorted linI h.sorted hin, fun o b => ?_⟩
    rw [(insK_perm L a).mem_iff, List.mem_cons]
    unfold updC
    simp only
    constructor
    · intro hb
      split at hb
      · rename_i e
        injection hb with hb
        subst hb
        exact ⟨.inl rfl, e.symm⟩
      · obtain ⟨g1, g2⟩ := (h.mem o b).1 hb
        exact ⟨.inr g1, g2⟩
    · rintro ⟨rfl | g1, e⟩
      · rw [if_pos e.symm]
      · have hne : ¬ o = a.o := fun e' => hin (by rw [← e', ← e]; exact List.mem_map_of_mem g1)
        rw [if_neg hne]
        exact (h.mem o b).2 ⟨g1, e⟩
theorem RelC.at_ {F : Int → Option Ca} {L : List Ca} (h : RelC F L) (o : Int) : (∃ (k : Nat) (a : Ca), k < L.length ∧ L[k]? = some a ∧ F o = some a ∧ a.o = o ∧ plc (isO o) L = k) ∨ (F o = Option.none ∧ plc (isO o) L = -1) := by
  rcases plc_cases (isO o) L with ⟨k, y, h1, h2, h3, h4⟩ | ⟨h1, h2⟩
  · have e : y.o = o := by simpa [isO] using h3
    exact .inl ⟨k, y, h1, h2, (h.mem o y).2 ⟨List.mem_of_getElem? h2, e⟩, e, h4⟩
  · refine .inr ⟨h.none.2 (fun hin => ?_), h2⟩
    obtain ⟨a, ha, e⟩ := List.mem_map.1 hin
    have := h1 a ha
    simp [isO, e] at this

theorem setCells_many (g : Nat) : ∀ (vs : List Value) (o : Nat) (w : World), w.setCells g o vs = storeMany w g o vs
  | [], _, _ => rfl
  | v :: r, o, w => by rw [World.setCells, storeMany]; exact setCells_many g r (o + 1) _
section
variable {base R cap : Nat} {A : Option Addr} {L : List Ca} {d : Int} {w w' w4 wr : World}
set_option maxRecDepth 100000 in
set_option maxHeartbeats 16000000 in
theorem rputo_any (h : IsRf base w R A cap L d) (hs : SortedK Ca.o ltI L) (a : Ca) (hn : a.o ∈ L.map Ca.o) (hl : L.length ≤ 140737488355328) (hbw : base ≤ w.heap.size) :
    Calls Tryz.prog 101 #[.pointer (some ⟨R, 0, none⟩), .agg (celC a)] w (PutC base R A L a d w) := by
  obtain ⟨zo, zc, zst, zlv, znet, ztax, zap, zwr, zdep⟩ := a
  obtain ⟨k, y, hkl, hy, hyo, hpl⟩ : ∃ (k : Nat) (y : Ca), k < L.length ∧ L[k]? = some y ∧ y.o = zo ∧ plc (isO zo) L = k := by
    rcases plc_cases (isO zo) L with ⟨k, y, h1, h2, h3, h4⟩ | ⟨h1, _⟩
    · exact ⟨k, y, h1, h2, by simpa [isO] using h3, h4⟩
    · obtain ⟨y, hy, e⟩ := List.mem_map.1 hn
      have := h1 y hy
      simp only at e
      simp [isO, e] at this
  have HK := hid (And.intro hn (And.intro (updK_set linI hs hy (e := (⟨zo, zc, zst, zlv, znet, ztax, zap, zwr, zdep⟩ : Ca)) hyo) (show zo ∈ L.map Ca.o from hn)))
  clear hn hs hyo
  simp only [celC]
  obtain ⟨wz, hwz⟩ : ∃ wz, wz = w.alloc (.cells #[.int .i64 zo, .int .i64 zc, .int .i64 zst, .int .i64 zlv, .int .i64 znet, .int .i64 ztax, .int .i64 zap, .int .i64 zwr, .int .i64 zdep] 47) := ⟨_, rfl⟩
  obtain ⟨G0, hG0⟩ : ∃ G0, G0 = w.heap.size := ⟨_, rfl⟩
  have hz : IsRf base wz R A cap L d := by rw [hwz]; exact h.alloc _
  have hGz : Blk wz G0 47 #[.int .i64 zo, .int .i64 zc, .int .i64 zst, .int .i64 zlv, .int .i64 znet, .int .i64 ztax, .int .i64 zap, .int .i64 zwr, .int .i64 zdep] := by rw [hwz, hG0]; exact Blk.new _ _ _
  have hTz : Touch (RT w.heap.size R A) w wz := by rw [hwz]; exact (Touch.refl _ _).alloc _
  have F := hid (rfind_any hz zo hl)
  rw [hpl] at F
  obtain ⟨g, hA, hbg, hpr⟩ := hz.elem hy
  subst hA
  have HW := hid hwz
  have HG := hid hG0
  have hRg : g ≠ R := by have := h.lt; omega
  have hth : (wz.drew).there g (k * 9) 9 := fun j hj => ⟨by
    obtain ⟨u, hu⟩ : ∃ u, (enC9 y)[j]? = some u := ⟨_, List.getElem?_eq_getElem (by rw [enC9_len]; exact hj)⟩
    have := hpr.2 j u hu
    show (wz.cell? ⟨g, k * 9 + j, none⟩).isSome = true
    rw [this]; rfl, own_free hz.own (k * 9 + j)⟩
  have HTH := hid hth
  clear hwz hG0 hpl h hy
  go_enter Tryz.func101, Tryz.ntmps101
  go_wp2_with fail
  rw [← HW.out, ← HG.out]
  refine F.out.mono ?_
  rintro e w1 ⟨rfl, rfl⟩
  have t0 : decide ((0 : Int) ≤ (k : Int)) = true := decide_eq_true (by omega)
  have c0 : wz.cell? ⟨R, 0, none⟩ = some (.slice (some ⟨g, 0, none⟩) L.length cap) := hz.blk.cell 0
  have g0 : wz.cell? ⟨G0, 0, none⟩ = some (.int .i64 zo) := hGz.cell 0
  have g1 : wz.cell? ⟨G0, 1, none⟩ = some (.int .i64 zc) := hGz.cell 1
  have g2 : wz.cell? ⟨G0, 2, none⟩ = some (.int .i64 zst) := hGz.cell 2
  have g3 : wz.cell? ⟨G0, 3, none⟩ = some (.int .i64 zlv) := hGz.cell 3
  have g4 : wz.cell? ⟨G0, 4, none⟩ = some (.int .i64 znet) := hGz.cell 4
  have g5 : wz.cell? ⟨G0, 5, none⟩ = some (.int .i64 ztax) := hGz.cell 5
  have g6 : wz.cell? ⟨G0, 6, none⟩ = some (.int .i64 zap) := hGz.cell 6
  have g7 : wz.cell? ⟨G0, 7, none⟩ = some (.int .i64 zwr) := hGz.cell 7
  have g8 : wz.cell? ⟨G0, 8, none⟩ = some (.int .i64 zdep) := hGz.cell 8
  have lR : R < wz.heap.size := hz.blk.lt
  have lG : G0 < wz.heap.size := hGz.lt
  have lg : g < wz.heap.size := hpr.1
  have hJ := own_set enC9_len (hz.next (below_drewN (Below.refl _ _) 1 : Below wz.heap.size wz wz.drew)).own (k := k) hkl (⟨zo, zc, zst, zlv, znet, ztax, zap, zwr, zdep⟩ : Ca)
  have HJ := hid hJ
  have HB := hid (And.intro ((hz.next (below_drewN (Below.refl _ _) 1 : Below wz.heap.size wz wz.drew)).blk) hz.lt)
  have HT := hid hTz
  clear hJ hz hGz hpr hTz F hth
  go_wp2_with fail
  refine wp_tail 7 (by kernel_rfl) (by kernel_rfl) ?_
  simp only [List.take_succ_cons, List.take_zero, List.drop_succ_cons, List.drop_zero]
  repeat still_step
  refine wpStill_nil ?_
  refine wpList_store_mid rfl 47 _ _ rfl g (k * 9) #[.int .i64 zo, .int .i64 zc, .int .i64 zst, .int .i64 zlv, .int .i64 znet, .int .i64 ztax, .int .i64 zap, .int .i64 zwr, .int .i64 zdep] rfl rfl HTH.out (by kernel_rfl) (by simp [Value.oneCell']) ?_
  rw [setCells_many]
  go_wp2_with fail
  refine bodyPost_ret (results_none rfl _ _ _) rfl ?_
  have hTt := Touch.of_grown HJ.out.2
  exact ⟨some ⟨g, 0, none⟩, cap, L.set k (⟨zo, zc, zst, zlv, znet, ztax, zap, zwr, zdep⟩ : Ca), rfl, ⟨by rw [List.length_set]; exact hTt.blk HB.out.1 (fun e => hRg e.symm), HJ.out.1, HB.out.2⟩, fun _ => HK.out.2.1.symm, fun hh => absurd HK.out.2.2 hh, HT.out.then ((Touch.of_below (below_drewN (Below.refl _ _) 1 : Below wz.heap.size wz wz.drew)).then (hTt.mono (fun k hk => .inr (.inl (by rw [hk]; rfl)))))⟩

theorem rput_any (h : IsRf base w R A cap L d) (hs : SortedK Ca.o ltI L) (a : Ca) (hl : L.length * 72 + 72 ≤ 140737488355328) (hbw : base ≤ w.heap.size) :
    Calls Tryz.prog 101 #[.pointer (some ⟨R, 0, none⟩), .agg (celC a)] w (PutC base R A L a d w) := by
  by_cases hn : a.o ∈ L.map Ca.o
  · exact rputo_any h hs a hn (by omega) hbw
  · exact rputn_any h hs a hn hl hbw

set_option maxRecDepth 100000 in
set_option maxHeartbeats 8000000 in
theorem rof_any (h : IsRf base w R A cap L d) {F : Int → Option Ca} (hF : RelC F L) (o c : Int) (hl : L.length ≤ 140737488355328) :
    Calls Tryz.prog 90 #[.pointer (some ⟨R, 0, none⟩), .int .i64 o, .int .i64 c] w fun e w' => e = .returned (.agg (celC (acOf F o c))) ∧ Below w.heap.size w w' := by
  have hwb : Below w.heap.size w (w.alloc (.cells #[.int .i64 0, .int .i64 0, .int .i64 0, .int .i64 0, .int .i64 0, .int .i64 0, .int .i64 0, .int .i64 0, .int .i64 0] 47)) := (Below.refl _ _).alloc (Nat.le_refl _) _
  have hGB := Blk.new w 47 #[.int .i64 0, .int .i64 0, .int .i64 0, .int .i64 0, .int .i64 0, .int .i64 0, .int .i64 0, .int .i64 0, .int .i64 0]
  have h1 := h.next hwb
  obtain ⟨W0, hW0⟩ : ∃ W0, W0 = w.alloc (.cells #[.int .i64 0, .int .i64 0, .int .i64 0, .int .i64 0, .int .i64 0, .int .i64 0, .int .i64 0, .int .i64 0, .int .i64 0] 47) := ⟨_, rfl⟩
  obtain ⟨G, hG⟩ : ∃ G, G = w.heap.size := ⟨_, rfl⟩
  rw [← hW0] at hwb hGB h1
  rw [← hG] at hGB
  have HLO := hid (Nat.le_of_eq hG.symm)
  have HB := hid hwb
  have HW0 := hid hW0
  have HGG := hid hG
  have HG := hid hGB
  have K := rfind_any h1 o hl
  rcases hF.at_ o with ⟨k, a, hkl, hk, hf, hao, hp⟩ | ⟨hf, hp⟩
  · clear hao
    have e : acOf F o c = a := acOf_some hf
    rw [e]
    rw [hp] at K
    replace K := hid K
    obtain ⟨g, hA, _, hpr⟩ := h1.elem hk
    subst hA
    obtain ⟨yo, yc, yst, ylv, ynet, ytax, yap, ywr, ydep⟩ := a
    have t0 : decide ((0 : Int) ≤ (k : Int)) = true := decide_eq_true (by omega)
    have c0 : W0.cell? ⟨R, 0, none⟩ = some (.slice (some ⟨g, 0, none⟩) L.length cap) := h1.blk.cell 0
    have p0 : W0.cell? ⟨g, k * 9, none⟩ = some (.int .i64 yo) := hpr.2 0 _ rfl
    have p1 : W0.cell? ⟨g, k * 9 + 1, none⟩ = some (.int .i64 yc) := hpr.2 1 _ rfl
    have p2 : W0.cell? ⟨g, k * 9 + 2, none⟩ = some (.int .i64 yst) := hpr.2 2 _ rfl
    have p3 : W0.cell? ⟨g, k * 9 + 3, none⟩ = some (.int .i64 ylv) := hpr.2 3 _ rfl
    have p4 : W0.cell? ⟨g, k * 9 + 4, none⟩ = some (.int .i64 ynet) := hpr.2 4 _ rfl
    have p5 : W0.cell? ⟨g, k * 9 + 5, none⟩ = some (.int .i64 ytax) := hpr.2 5 _ rfl
    have p6 : W0.cell? ⟨g, k * 9 + 6, none⟩ = some (.int .i64 yap) := hpr.2 6 _ rfl
    have p7 : W0.cell? ⟨g, k * 9 + 7, none⟩ = some (.int .i64 ywr) := hpr.2 7 _ rfl
    have p8 : W0.cell? ⟨g, k * 9 + 8, none⟩ = some (.int .i64 ydep) := hpr.2 8 _ rfl
    have lg := hpr.1
    clear h h1 hwb hGB hW0 hG hF hf hp hk hpr e
    simp only [celC]
    go_enter Tryz.func90, Tryz.ntmps90
    go_wp2_with fail
    rw [← HW0.out, ← HGG.out]
    refine K.out.mono ?_
    rintro e w1 ⟨rfl, rfl⟩
    go_wp2_with (first | (refine wpList_store_row rfl 47 _ _ rfl G #[.int .i64 yo, .int .i64 yc, .int .i64 yst, .int .i64 ylv, .int .i64 ynet, .int .i64 ytax, .int .i64 yap, .int .i64 ywr, .int .i64 ydep] rfl rfl 47 _ HG.out (by kernel_rfl) (by rfl) (by simp [Value.oneCell']) ?_))
    clear c0 p0 p1 p2 p3 p4 p5 p6 p7 p8 lg t0
    have hB2 := HG.out.setRow #[.int .i64 yo, .int .i64 yc, .int .i64 yst, .int .i64 ylv, .int .i64 ynet, .int .i64 ytax, .int .i64 yap, .int .i64 ywr, .int .i64 ydep]
    have hT2 := Touch.setRow W0 G #[.int .i64 yo, .int .i64 yc, .int .i64 yst, .int .i64 ylv, .int .i64 ynet, .int .i64 ytax, .int .i64 yap, .int .i64 ywr, .int .i64 ydep]
    have HD := hid (HB.out.trans (hT2.below HB.out.size (fun k hk => by rw [hk]; exact HLO.out)))
    generalize W0.setRow G #[.int .i64 yo, .int .i64 yc, .int .i64 yst, .int .i64 ylv, .int .i64 ynet, .int .i64 ytax, .int .i64 yap, .int .i64 ywr, .int .i64 ydep] = wf at hB2 HD ⊢
    have e0 : wf.cell? ⟨G, 0, none⟩ = some (.int .i64 yo) := hB2.cell 0
    have e1 : wf.cell? ⟨G, 1, none⟩ = some (.int .i64 yc) := hB2.cell 1
    have e2 : wf.cell? ⟨G, 2, none⟩ = some (.int .i64 yst) := hB2.cell 2
    have e3 : wf.cell? ⟨G, 3, none⟩ = some (.int .i64 ylv) := hB2.cell 3
    have e4 : wf.cell? ⟨G, 4, none⟩ = some (.int .i64 ynet) := hB2.cell 4
    have e5 : wf.cell? ⟨G, 5, none⟩ = some (.int .i64 ytax) := hB2.cell 5
    have e6 : wf.cell? ⟨G, 6, none⟩ = some (.int .i64 yap) := hB2.cell 6
    have e7 : wf.cell? ⟨G, 7, none⟩ = some (.int .i64 ywr) := hB2.cell 7
    have e8 : wf.cell? ⟨G, 8, none⟩ = some (.int .i64 ydep) := hB2.cell 8
    refine bodyPost_ret (v := .agg #[.int .i64 yo, .int .i64 yc, .int .i64 yst, .int .i64 ylv, .int .i64 ynet, .int .i64 ytax, .int .i64 yap, .int .i64 ywr, .int .i64 ydep]) (by simp [results, Tryz.results90, go_sem, e0, e1, e2, e3, e4, e5, e6, e7, e8]) rfl ⟨rfl, HD.out⟩
  · have e : acOf F o c = ⟨o, c, 0, 0, 0, 0, 0, 0, 0⟩ := by unfold acOf; rw [hf]; rfl
    rw [e]
    rw [hp] at K
    replace K := hid K
    clear h h1 hwb hGB hW0 hG hF hf hp e
    simp only [celC]
    go_enter Tryz.func90, Tryz.ntmps90
    go_wp2_with fail
    rw [← HW0.out, ← HGG.out]
    refine K.out.mono ?_
    rintro e w1 ⟨rfl, rfl⟩
    go_wp2_with (first | (refine wpList_store_row rfl 47 _ _ rfl G #[.int .i64 o, .int .i64 c, .int .i64 0, .int .i64 0, .int .i64 0, .int .i64 0, .int .i64 0, .int .i64 0, .int .i64 0] rfl rfl 47 _ HG.out (by kernel_rfl) (by rfl) (by simp [Value.oneCell']) ?_))
    have hB2 := HG.out.setRow #[.int .i64 o, .int .i64 c, .int .i64 0, .int .i64 0, .int .i64 0, .int .i64 0, .int .i64 0, .int .i64 0, .int .i64 0]
    have hT2 := Touch.setRow W0 G #[.int .i64 o, .int .i64 c, .int .i64 0, .int .i64 0, .int .i64 0, .int .i64 0, .int .i64 0, .int .i64 0, .int .i64 0]
    have HD := hid (HB.out.trans (hT2.below HB.out.size (fun k hk => by rw [hk]; exact HLO.out)))
    generalize W0.setRow G #[.int .i64 o, .int .i64 c, .int .i64 0, .int .i64 0, .int .i64 0, .int .i64 0, .int .i64 0, .int .i64 0, .int .i64 0] = wf at hB2 HD ⊢
    have e0 : wf.cell? ⟨G, 0, none⟩ = some (.int .i64 o) := hB2.cell 0
    have e1 : wf.cell? ⟨G, 1, none⟩ = some (.int .i64 c) := hB2.cell 1
    have e2 : wf.cell? ⟨G, 2, none⟩ = some (.int .i64 0) := hB2.cell 2
    have e3 : wf.cell? ⟨G, 3, none⟩ = some (.int .i64 0) := hB2.cell 3
    have e4 : wf.cell? ⟨G, 4, none⟩ = some (.int .i64 0) := hB2.cell 4
    have e5 : wf.cell? ⟨G, 5, none⟩ = some (.int .i64 0) := hB2.cell 5
    have e6 : wf.cell? ⟨G, 6, none⟩ = some (.int .i64 0) := hB2.cell 6
    have e7 : wf.cell? ⟨G, 7, none⟩ = some (.int .i64 0) := hB2.cell 7
    have e8 : wf.cell? ⟨G, 8, none⟩ = some (.int .i64 0) := hB2.cell 8
    refine bodyPost_ret (v := .agg #[.int .i64 o, .int .i64 c, .int .i64 0, .int .i64 0, .int .i64 0, .int .i64 0, .int .i64 0, .int .i64 0, .int .i64 0]) (by simp [results, Tryz.results90, go_sem, e0, e1, e2, e3, e4, e5, e6, e7, e8]) rfl ⟨rfl, HD.out⟩
end

end Go.Proofs.YthdmbbfppgenlaaGreat
