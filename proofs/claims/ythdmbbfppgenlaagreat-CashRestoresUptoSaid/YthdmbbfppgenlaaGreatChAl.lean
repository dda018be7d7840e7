/-
  The book of money: All.
-/
import Derived.Test.YthdmbbfppgenlaaGreatChV
import Derived.Test.YthdmbbfppgenlaaGreatCmp
import Derived.Test.YthdmbbfppgenlaaGreatSort
import Derived.Test.YthdmbbfppgenlaaGreatOwn
import Derived.Test.YthdmbbfppgenlaaGreatSortLay18a
import Derived.Shelf.SlSortCmp.NoneTotal
namespace Go.Proofs.YthdmbbfppgenlaaGreat
open Go.RowKit Go.Maps Go.Sort Go.ChangeShapes Go.WideShapes Go.ChangeAt Go.Deep
set_option linter.unusedVariables false

def enC9 (a : Ca) : List Value := (celC a).toList
theorem enC9_len (a : Ca) : (enC9 a).length = 9 := rfl
theorem enC9_one (a : Ca) : ∀ v ∈ enC9 a, v.oneCell' = true := by
  intro v hv
  simp only [enC9, celC, List.mem_cons, List.not_mem_nil, or_false] at hv
  rcases hv with rfl | rfl | rfl | rfl | rfl | rfl | rfl | rfl | rfl <;> rfl
theorem info_ca : (Tryz.prog.info? 35).map (fun i => (i.zero, i.size, i.bytes)) = some (some (.agg #[.int .i64 0, .int .i64 0, .int .i64 0, .int .i64 0, .int .i64 0, .int .i64 0, .int .i64 0, .int .i64 0, .int .i64 0]), 9, 72) := by kernel_rfl
def cfC (x y : Ca) : Int := cmpI x.o y.o
def ltC (x y : Ca) : Bool := decide (cfC x y < 0)
theorem ltC_iff (x y : Ca) : ltC x y = true ↔ x.o < y.o := by
  unfold ltC cfC cmpI
  rw [decide_eq_true_eq]
  split
  · simp_all
  · split <;> simp_all <;> omega
theorem ltC_no {x y : Ca} (h : ltC x y = false) : ¬ x.o < y.o := fun e => by rw [(ltC_iff x y).2 e] at h; cases h
theorem swoC : Sort.SWO ltC where
  irrefl a := by
    cases h : ltC a a with
    | false => rfl
    | true => have := (ltC_iff a a).1 h; omega
  trans x y z h g := by rw [ltC_iff] at *; omega
  ntrans x y z h1 h2 := by
    cases h : ltC x z with
    | false => rfl
    | true =>
      have h' := (ltC_iff x z).1 h
      have a := ltC_no h1
      have b := ltC_no h2
      omega

set_option maxRecDepth 100000 in
set_option maxHeartbeats 4000000 in
theorem corder_any (x y : Ca) (w : World) : Calls Tryz.prog 36 #[.agg (celC x), .agg (celC y)] w fun e w' => e = .returned (.int .i64 (cfC x y)) ∧ Grew w w' := by
  obtain ⟨xo, xc, xst, xlv, xnet, xtax, xap, xwr, xdep⟩ := x
  obtain ⟨yo, yc, yst, ylv, ynet, ytax, yap, ywr, ydep⟩ := y
  simp only [celC]
  have b1 : Blk ((w.alloc (.cells #[.int .i64 xo, .int .i64 xc, .int .i64 xst, .int .i64 xlv, .int .i64 xnet, .int .i64 xtax, .int .i64 xap, .int .i64 xwr, .int .i64 xdep] 35)).alloc (.cells #[.int .i64 yo, .int .i64 yc, .int .i64 yst, .int .i64 ylv, .int .i64 ynet, .int .i64 ytax, .int .i64 yap, .int .i64 ywr, .int .i64 ydep] 35)) w.heap.size 35 #[.int .i64 xo, .int .i64 xc, .int .i64 xst, .int .i64 xlv, .int .i64 xnet, .int .i64 xtax, .int .i64 xap, .int .i64 xwr, .int .i64 xdep] := (Blk.new _ _ _).alloc _
  have b2 : Blk ((w.alloc (.cells #[.int .i64 xo, .int .i64 xc, .int .i64 xst, .int .i64 xlv, .int .i64 xnet, .int .i64 xtax, .int .i64 xap, .int .i64 xwr, .int .i64 xdep] 35)).alloc (.cells #[.int .i64 yo, .int .i64 yc, .int .i64 yst, .int .i64 ylv, .int .i64 ynet, .int .i64 ytax, .int .i64 yap, .int .i64 ywr, .int .i64 ydep] 35)) (w.heap.size + 1) 35 #[.int .i64 yo, .int .i64 yc, .int .i64 yst, .int .i64 ylv, .int .i64 ynet, .int .i64 ytax, .int .i64 yap, .int .i64 ywr, .int .i64 ydep] := by
    have := Blk.new (w.alloc (.cells #[.int .i64 xo, .int .i64 xc, .int .i64 xst, .int .i64 xlv, .int .i64 xnet, .int .i64 xtax, .int .i64 xap, .int .i64 xwr, .int .i64 xdep] 35)) 35 #[.int .i64 yo, .int .i64 yc, .int .i64 yst, .int .i64 ylv, .int .i64 ynet, .int .i64 ytax, .int .i64 yap, .int .i64 ywr, .int .i64 ydep]
    rw [World.size_alloc] at this
    exact this
  have hg : Grew w ((w.alloc (.cells #[.int .i64 xo, .int .i64 xc, .int .i64 xst, .int .i64 xlv, .int .i64 xnet, .int .i64 xtax, .int .i64 xap, .int .i64 xwr, .int .i64 xdep] 35)).alloc (.cells #[.int .i64 yo, .int .i64 yc, .int .i64 yst, .int .i64 ylv, .int .i64 ynet, .int .i64 ytax, .int .i64 yap, .int .i64 ywr, .int .i64 ydep] 35)) := ((Grew.refl w).alloc _).alloc _
  have B1 := hid b1
  have B2 := hid b2
  clear b1 b2
  go_enter Tryz.func36, Tryz.ntmps36
  go_wp2_with fail
  obtain ⟨W, hW⟩ : ∃ W, W = ((w.alloc (.cells #[.int .i64 xo, .int .i64 xc, .int .i64 xst, .int .i64 xlv, .int .i64 xnet, .int .i64 xtax, .int .i64 xap, .int .i64 xwr, .int .i64 xdep] 35)).alloc (.cells #[.int .i64 yo, .int .i64 yc, .int .i64 yst, .int .i64 ylv, .int .i64 ynet, .int .i64 ytax, .int .i64 yap, .int .i64 ywr, .int .i64 ydep] 35)) := ⟨_, rfl⟩
  replace B1 := B1.out
  replace B2 := B2.out
  rw [← hW] at B1 B2 hg ⊢
  obtain ⟨G, hG⟩ : ∃ G, G = w.heap.size := ⟨_, rfl⟩
  rw [← hG] at B1 B2 ⊢
  clear hW hG
  have p0 : W.cell? ⟨G, 0, none⟩ = some (.int .i64 xo) := B1.cell 0
  have p3 : W.cell? ⟨G + 1, 0, none⟩ = some (.int .i64 yo) := B2.cell 0
  clear B1 B2
  go_wp2_with (first | (go_at_call 37; refine (compare_any _ _ _).mono ?_; rintro e w5 ⟨rfl, rfl⟩))
  go_ret
  exact ⟨rfl, hg⟩

theorem sortsCa : SortsAt Tryz.prog 35 (.func (.func 36) #[] #[]) enC9 9 ltC := by
  refine ⟨fun blk off cap d w hH hb hsz => ?_, fun p cap w => ?_⟩
  · have eg : ∀ args w, (callFunc 36 args).run Tryz.prog w = .ok (.enter 36 args) w := enters_of Tryz.func36 (by kernel_rfl) rfl
    exact AnyQ.slices_SortFunc Tryz.sortAcc 9 Tryz.isAgg35 Tryz.sizeOf35 enC9 enC9_len enC9_one cfC swoC 36 #[] blk off cap d w eg (fun _ _ _ _ x y => corder_any x y _) hH hb hsz
  · exact AnyF.slices_SortFunc_none Tryz.sortAcc p cap _ w

/-- The accounts of a book. -/
def accs (ac : List (Int × CP)) : List Ca := ac.map (·.2.a)
/-- What All tells. -/
def AllC (ac : List (Int × CP)) (w : World) (e : Ending) (w' : World) : Prop :=
  ∃ (A : Option Addr) (cap : Nat) (l : List Ca), e = .returned (.slice A l.length cap) ∧ l.Perm (accs ac) ∧ l.Pairwise (fun a b => ltC b a = false) ∧
    w'.ownsRow w.heap.size 35 9 (.slice A l.length cap) l.length (l.flatMap enC9) ∧ l.length ≤ cap ∧ Below w.heap.size w w'
section
variable {n0 : Nat} {w w' : World} {X XL BL BA : Nat} {ac : List (Int × CP)} {f : Fn} {d : Int}
set_option maxRecDepth 100000 in
set_option maxHeartbeats 8000000 in
theorem call_any (h : IsCash n0 w X XL BL BA ac f d) (hm : ac.length * 72 ≤ 140737488351232) :
    Calls Tryz.prog 13 #[.pointer (some ⟨X, 0, none⟩)] w (AllC ac w) := by
  have c1 := h.cellA
  obtain ⟨i0, hi, hz0, hz1, hz2⟩ := info_parts info_ca
  have hGM := h.acs
  have H := hid h
  clear h
  go_enter Tryz.func13, Tryz.ntmps13
  go_wp2_with (at_range; refine wpList_range _ rfl _ 64 3 59 rfl Tryz.underlying64 BA ac rfl hGM ?_; intro w1 hI hb hz)
  go_frame
  go_loopw [3] (fun v wr => ∃ (left : List (Int × CP)) (vis : List Ca), wr.ownsRow w.heap.size 35 9 v vis.length (vis.flatMap enC9) ∧ IsIter wr w.heap.size BA kC vCP ac left ∧ Hid (∃ vs : List (Int × CP), (vs ++ left).Perm ac ∧ vis = accs vs) ∧ Below w.heap.size w wr)
    (fun _ wr => wr.rangeLeft BA w.heap.size)
  case atStart => exact ⟨ac, [], World.ownsRow_nil _ _ _ _, hI, hid ⟨[], by simp, rfl⟩, hb⟩
  case round =>
    clear hI hb hz hGM
    obtain ⟨left, vis, hO, hI, hP, hb⟩ := hrel
    have hlen : vis.length + left.length ≤ ac.length := by
      obtain ⟨vs, h1, h2⟩ := hP.out
      have h3 := h1.length_eq
      have h4 := congrArg List.length h2
      simp [accs] at h3 h4
      omega
    have hll := hI.left_len
    have HL := hid hll
    clear hll
    go_wp2_with (first
      | (at_next; refine wpList_next _ rfl _ rfl w.heap.size BA ac left rfl hI ?_ ?_))
    · intro hl0
      subst hl0
      clear HL
      have hvl : vis.length ≤ ac.length := by simp at hlen; exact hlen
      go_wp2_with fail
      refine (sort_owned sortsCa enC9_len hO (by omega)).mono ?_
      rintro e w5 ⟨rfl, l', hp, hst, hO', hg⟩
      have hb5 : Below w.heap.size w w5 := hb.grown hg hb.size (fun k hk => (hO.lt k hk).1)
      obtain ⟨A, cap, hv, hcap⟩ := own_slice hO'
      subst hv
      have HF := hid (And.intro hO' (And.intro hcap hb5))
      have HS := hid hst
      have HPP := hid hp
      clear hO hI hb hg hO' hb5 hst hp hcap
      go_wp2_with fail
      go_ret
      obtain ⟨vs, h1, h2⟩ := hP.out
      refine ⟨A, cap, l', rfl, ?_, HS.out, HF.out.1, ?_, HF.out.2.2⟩
      · rw [List.append_nil] at h1
        exact HPP.out.trans (h2 ▸ h1.map _)
      · rcases HF.out.1.2 with ⟨h0, h1'⟩ | ⟨g', cap', cur, h0, _, _, hnc, _⟩
        · simp at h0
          omega
        · simp at h0
          obtain ⟨_, rfl⟩ := h0
          exact hnc
    · intro a q left' w2 hp hI2 hg2 hs2 hen
      have hlen2 : vis.length + 1 ≤ ac.length := by
        have h2 := hp.length_eq
        simp at h2
        omega
      have hin : (a, q) ∈ ac := by
        obtain ⟨vs, h1, _⟩ := hP.out
        exact h1.mem_iff.1 (List.mem_append_right _ (hp.mem_iff.2 (List.mem_cons_self ..)))
      have hO2 := hO.kept hg2 (.inr (fun e => hI.notOwn hO e.symm))
      have hb2 := hb.trans (grown_below hg2 hb.size (Nat.le_refl _))
      have hB := (H.out.next hb2).cells (a, q) hin
      obtain ⟨g, x⟩ := q
      obtain ⟨xo, xc, xst, xlv, xnet, xtax, xap, xwr, xdep⟩ := x
      simp only at hB
      have g0 : w2.cell? ⟨g, 0, none⟩ = some (.int .i64 xo) := hB.cell 0
      have g1 : w2.cell? ⟨g, 1, none⟩ = some (.int .i64 xc) := hB.cell 1
      have g2 : w2.cell? ⟨g, 2, none⟩ = some (.int .i64 xst) := hB.cell 2
      have g3 : w2.cell? ⟨g, 3, none⟩ = some (.int .i64 xlv) := hB.cell 3
      have g4 : w2.cell? ⟨g, 4, none⟩ = some (.int .i64 xnet) := hB.cell 4
      have g5 : w2.cell? ⟨g, 5, none⟩ = some (.int .i64 xtax) := hB.cell 5
      have g6 : w2.cell? ⟨g, 6, none⟩ = some (.int .i64 xap) := hB.cell 6
      have g7 : w2.cell? ⟨g, 7, none⟩ = some (.int .i64 xwr) := hB.cell 7
      have g8 : w2.cell? ⟨g, 8, none⟩ = some (.int .i64 xdep) := hB.cell 8
      simp only [kC, vCP] at hen
      have hPP := hid (show ∃ vs : List (Int × CP), (vs ++ left').Perm ac ∧ vis ++ [⟨xo, xc, xst, xlv, xnet, xtax, xap, xwr, xdep⟩] = accs vs from by
        obtain ⟨vs, h1, h2⟩ := hP.out
        refine ⟨vs ++ [(a, ⟨g, ⟨xo, xc, xst, xlv, xnet, xtax, xap, xwr, xdep⟩⟩)], ?_, by simp [h2, accs]⟩
        rw [List.append_assoc]
        exact (List.Perm.append_left vs hp.symm).trans h1)
      have hll : left'.length < left.length := by have := hp.length_eq; simp at this; omega
      have HLT := hid hll
      have hwz : w.heap.size ≤ w2.heap.size := hb2.size
      have HI3 := hid (hI2.alloc (.cells #[.int .i64 xo, .int .i64 xc, .int .i64 xst, .int .i64 xlv, .int .i64 xnet, .int .i64 xtax, .int .i64 xap, .int .i64 xwr, .int .i64 xdep] 35))
      have HO3 := hid (hO2.alloc (.cells #[.int .i64 xo, .int .i64 xc, .int .i64 xst, .int .i64 xlv, .int .i64 xnet, .int .i64 xtax, .int .i64 xap, .int .i64 xwr, .int .i64 xdep] 35))
      have HB3 := hid (hb2.alloc hwz (.cells #[.int .i64 xo, .int .i64 xc, .int .i64 xst, .int .i64 xlv, .int .i64 xnet, .int .i64 xtax, .int .i64 xap, .int .i64 xwr, .int .i64 xdep] 35))
      have HO2 := hid hO2
      clear hO hI hg2 hs2 hO2 hb hb2 hI2 hB hin hp hll hP hlen
      go_wp2_with (first
        | (at_builtin; refine wpList_push _ rfl _ _ 22 rfl w.heap.size 35 i0 _ 9 72 Tryz.underlying22 hi hz0 hz1 hz2 rfl (by decide) _ _ _ (by rfl) HO2.out #[.int .i64 xo, .int .i64 xc, .int .i64 xst, .int .i64 xlv, .int .i64 xnet, .int .i64 xtax, .int .i64 xap, .int .i64 xwr, .int .i64 xdep] w2.heap.size (by simp) (by rfl) (by rfl) (by rfl) (by unfold maxLen; omega) (by omega) hwz ?_; intro v' w3 hO4 hg4))
      have hI4 := HI3.out.grown hg4 (fun e => HI3.out.isMap.notOwn HO3.out e) (fun e => HI3.out.notOwn HO3.out e)
      have hb4 := HB3.out.grown hg4 (by simp; omega) (fun k hk => (HO3.out.lt k hk).1)
      have hO5 : w3.ownsRow w.heap.size 35 9 v' (vis ++ [(⟨xo, xc, xst, xlv, xnet, xtax, xap, xwr, xdep⟩ : Ca)]).length ((vis ++ [(⟨xo, xc, xst, xlv, xnet, xtax, xap, xwr, xdep⟩ : Ca)]).flatMap enC9) := by simpa [enC9, celC] using hO4
      clear HO3 HI3 HB3 HO2 hO4 hg4 hen
      go_roundw
      case rel => exact ⟨left', _, hO5, hI4, hPP, hb4⟩
      case measure => rw [hI4.left_len, HL.out]; exact HLT.out
end

end Go.Proofs.YthdmbbfppgenlaaGreat
