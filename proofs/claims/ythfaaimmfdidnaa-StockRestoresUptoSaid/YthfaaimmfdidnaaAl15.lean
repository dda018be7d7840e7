/-
  The stock book: All.
-/
import Derived.Test.YthfaaimmfdidnaaSg15
import Derived.Test.YthfaaimmfdidnaaCmp1
import Derived.Test.YthfaaimmfdidnaaSort
import Derived.Test.YthfaaimmfdidnaaSortLay15
import Derived.Test.YthfaaimmfdidnaaIns
import Derived.Shelf.SlSortCmp.NoneTotal
namespace Go.Proofs.Ythfaaimmfdidnaa
open Go.RowKit Go.Maps Go.Sort Go.ChangeShapes Go.WideShapes Go.ChangeAt Go.Deep
set_option linter.unusedVariables false

instance : Inhabited Gd := ⟨⟨0, 0, 0, 0, 0, []⟩⟩
def enG3 (d : Gd) : List Value := [.int .i64 d.o, .int .i64 d.st, .slice (some ⟨d.b, 0, none⟩) d.ls.length d.cap]
theorem enG3_len (d : Gd) : (enG3 d).length = 3 := rfl
theorem enG3_one (d : Gd) : ∀ v ∈ enG3 d, v.oneCell' = true := by
  intro v hv
  simp only [enG3, List.mem_cons, List.not_mem_nil, or_false] at hv
  rcases hv with rfl | rfl | rfl <;> rfl
theorem info_gd : (Try.prog.info? 45).map (fun i => (i.zero, i.size, i.bytes)) = some (some (.agg #[.int .i64 0, .int .i64 0, .slice none 0 0]), 3, 40) := by kernel_rfl
/-- Goods without places. -/
def bareG (d : Gd) : Gd := ⟨0, d.o, d.st, 0, 0, d.ls⟩
def cfG (x y : Gd) : Int := cmpI x.o y.o
def ltG (x y : Gd) : Bool := decide (cfG x y < 0)
theorem ltG_iff (x y : Gd) : ltG x y = true ↔ x.o < y.o := by
  unfold ltG cfG cmpI
  rw [decide_eq_true_eq]
  split
  · simp_all
  · split <;> simp_all <;> omega
theorem ltG_no {x y : Gd} (h : ltG x y = false) : ¬ x.o < y.o := fun e => by rw [(ltG_iff x y).2 e] at h; cases h
theorem swoG : Sort.SWO ltG where
  irrefl a := by
    cases h : ltG a a with
    | false => rfl
    | true => have := (ltG_iff a a).1 h; omega
  trans x y z h g := by rw [ltG_iff] at *; omega
  ntrans x y z h1 h2 := by
    cases h : ltG x z with
    | false => rfl
    | true =>
      have h' := (ltG_iff x z).1 h
      have a := ltG_no h1
      have b := ltG_no h2
      omega

set_option maxRecDepth 100000 in
set_option maxHeartbeats 4000000 in
theorem gorder_any (x y : Gd) (w : World) : Calls Try.prog 49 #[.agg #[.int .i64 x.o, .int .i64 x.st, .slice (some ⟨x.b, 0, none⟩) x.ls.length x.cap], .agg #[.int .i64 y.o, .int .i64 y.st, .slice (some ⟨y.b, 0, none⟩) y.ls.length y.cap]] w fun e w' => e = .returned (.int .i64 (cfG x y)) ∧ Grew w w' := by
  obtain ⟨xg, xo, xs, xb, xc, xl⟩ := x
  obtain ⟨yg, yo, ys, yb, yc, yl⟩ := y
  simp only
  have b1 : Blk ((w.alloc (.cells #[.int .i64 xo, .int .i64 xs, .slice (some ⟨xb, 0, none⟩) xl.length xc] 45)).alloc (.cells #[.int .i64 yo, .int .i64 ys, .slice (some ⟨yb, 0, none⟩) yl.length yc] 45)) w.heap.size 45 #[.int .i64 xo, .int .i64 xs, .slice (some ⟨xb, 0, none⟩) xl.length xc] := (Blk.new _ _ _).alloc _
  have b2 : Blk ((w.alloc (.cells #[.int .i64 xo, .int .i64 xs, .slice (some ⟨xb, 0, none⟩) xl.length xc] 45)).alloc (.cells #[.int .i64 yo, .int .i64 ys, .slice (some ⟨yb, 0, none⟩) yl.length yc] 45)) (w.heap.size + 1) 45 #[.int .i64 yo, .int .i64 ys, .slice (some ⟨yb, 0, none⟩) yl.length yc] := by
    have := Blk.new (w.alloc (.cells #[.int .i64 xo, .int .i64 xs, .slice (some ⟨xb, 0, none⟩) xl.length xc] 45)) 45 #[.int .i64 yo, .int .i64 ys, .slice (some ⟨yb, 0, none⟩) yl.length yc]
    rw [World.size_alloc] at this
    exact this
  have hg : Grew w ((w.alloc (.cells #[.int .i64 xo, .int .i64 xs, .slice (some ⟨xb, 0, none⟩) xl.length xc] 45)).alloc (.cells #[.int .i64 yo, .int .i64 ys, .slice (some ⟨yb, 0, none⟩) yl.length yc] 45)) := ((Grew.refl w).alloc _).alloc _
  have B1 := hid b1
  have B2 := hid b2
  clear b1 b2
  go_enter Try.func49, Try.ntmps49
  go_wp2_with fail
  obtain ⟨W, hW⟩ : ∃ W, W = (w.alloc (.cells #[.int .i64 xo, .int .i64 xs, .slice (some ⟨xb, 0, none⟩) xl.length xc] 45)).alloc (.cells #[.int .i64 yo, .int .i64 ys, .slice (some ⟨yb, 0, none⟩) yl.length yc] 45) := ⟨_, rfl⟩
  replace B1 := B1.out
  replace B2 := B2.out
  rw [← hW] at B1 B2 hg ⊢
  obtain ⟨G, hG⟩ : ∃ G, G = w.heap.size := ⟨_, rfl⟩
  rw [← hG] at B1 B2 ⊢
  clear hW hG
  have p0 : W.cell? ⟨G, 0, none⟩ = some (.int .i64 xo) := B1.cell 0
  have p3 : W.cell? ⟨G + 1, 0, none⟩ = some (.int .i64 yo) := B2.cell 0
  clear B1 B2
  go_wp2_with (first | (go_at_call 50; refine (compare_any _ _ _).mono ?_; rintro e w5 ⟨rfl, rfl⟩))
  go_ret
  exact ⟨rfl, hg⟩

theorem sortsGd : SortsAt Try.prog 48 (.func (.func 49) #[] #[]) enG3 3 ltG := by
  refine ⟨fun blk off cap d w hH hb hsz => ?_, fun p cap w => ?_⟩
  · have eg : ∀ args w, (callFunc 49 args).run Try.prog w = .ok (.enter 49 args) w := enters_of Try.func49 (by kernel_rfl) rfl
    exact AnyQ.slices_SortFunc Try.sortGd 3 Try.isAgg45 Try.sizeOf45 enG3 enG3_len enG3_one cfG swoG 49 #[] blk off cap d w eg (fun _ _ _ _ x y => gorder_any x y _) hH hb hsz
  · exact AnyF.slices_SortFunc_none Try.sortGd p cap _ w

theorem LnRow.next {base b cap : Nat} {ls : List Ln} {w w' : World} (h : LnRow base w b cap ls) (hb : Below w.heap.size w w') : LnRow base w' b cap ls :=
  ⟨h.own.kept (grown_of_below hb none) (by cases hv : (Value.slice (some ⟨b, 0, none⟩) ls.length cap).ownBlock <;> simp)⟩

section
variable {n0 : Nat} {w w' : World} {X BL BG : Nat} {lv : List (Int × Lv)} {gs : List (Int × Gd)}
def AllPost (gs : List (Int × Gd)) (w : World) (e : Ending) (w' : World) : Prop :=
  ∃ (A : Option Addr) (cap : Nat) (l : List Gd), e = .returned (.slice A l.length cap) ∧ (l.map bareG).Perm (gs.map (fun p => bareG p.2)) ∧ l.Pairwise (fun a b => ltG b a = false) ∧
    w'.ownsRow w.heap.size 45 3 (.slice A l.length cap) l.length (l.flatMap enG3) ∧ (∀ d ∈ l, LnRow w.heap.size w' d.b d.cap d.ls) ∧ Below w.heap.size w w'

set_option maxRecDepth 100000 in
set_option maxHeartbeats 4000000 in
theorem all_any (h : IsBook n0 w X BL BG lv gs) (hq : ∀ p ∈ gs, 1 ≤ p.2.ls.length ∧ p.2.ls.length ≤ 4) (hm : gs.length * 40 ≤ 140737488351232) :
    Calls Try.prog 22 #[.pointer (some ⟨X, 0, none⟩)] w (AllPost gs w) := by
  have c1 := h.cellG
  obtain ⟨i0, hi, hz0, hz1, hz2⟩ := info_parts info_gd
  have HQ := hid hq
  have hGM := h.gds
  have H := hid h
  clear hq h
  go_enter Try.func22, Try.ntmps22
  go_wp2_with (at_range; refine wpList_range _ rfl _ 72 3 79 rfl Try.underlying72 BG gs rfl hGM ?_; intro w1 hI hb hz)
  go_frame
  go_loopw [3] (fun v wr => ∃ (left : List (Int × Gd)) (vis : List Gd), wr.ownsRow w.heap.size 45 3 v vis.length (vis.flatMap enG3) ∧ IsIter wr w.heap.size BG kI vGd gs left ∧ Hid (∃ vs : List (Int × Gd), (vs ++ left).Perm gs ∧ vis.map bareG = vs.map (fun p => bareG p.2)) ∧ Hid (∀ d ∈ vis, LnRow w.heap.size wr d.b d.cap d.ls) ∧ Below w.heap.size w wr)
    (fun _ wr => wr.rangeLeft BG w.heap.size)
  case atStart => exact ⟨gs, [], World.ownsRow_nil _ _ _ _, hI, hid ⟨[], by simp, rfl⟩, hid (fun d hd => by cases hd), hb⟩
  case round =>
    clear hI hb hz hGM
    obtain ⟨left, vis, hO, hI, hP, hL, hb⟩ := hrel
    have hlen : vis.length + left.length ≤ gs.length := by
      obtain ⟨vs, h1, h2⟩ := hP.out
      have h3 := h1.length_eq
      have h4 := congrArg List.length h2
      simp at h3 h4
      omega
    have hll := hI.left_len
    have HL := hid hll
    clear hll
    go_wp2_with (first
      | (at_next; refine wpList_next _ rfl _ rfl w.heap.size BG gs left rfl hI ?_ ?_))
    · intro hl0
      subst hl0
      clear HL
      have hvl : vis.length ≤ gs.length := by simp at hlen; exact hlen
      go_wp2_with fail
      refine (sort_owned sortsGd enG3_len hO (by omega)).mono ?_
      rintro e w5 ⟨rfl, l', hp, hst, hO', hg⟩
      have hb5 : Below w.heap.size w w5 := hb.grown hg hb.size (fun k hk => (hO.lt k hk).1)
      have hL5 : ∀ d ∈ l', LnRow w.heap.size w5 d.b d.cap d.ls := fun d hd => ⟨(hL.out d (hp.mem_iff.1 hd)).own.kept hg (.inr (fun e => own_other hO (hL.out d (hp.mem_iff.1 hd)).own (by decide) rfl e.symm))⟩
      obtain ⟨A, cap, hv, _⟩ := own_slice hO'
      subst hv
      have HF := hid (And.intro hO' (And.intro hL5 hb5))
      have HS := hid hst
      have HPP := hid hp
      clear hO hI hb hg hO' hb5 hL5 hst hp
      go_wp2_with fail
      go_ret
      obtain ⟨vs, h1, h2⟩ := hP.out
      refine ⟨A, cap, l', rfl, ?_, HS.out, HF.out.1, HF.out.2.1, HF.out.2.2⟩
      rw [List.append_nil] at h1
      exact (HPP.out.map bareG).trans (h2 ▸ h1.map _)
    · intro a d left' w2 hp hI2 hg2 hs2 hen
      have hlen2 : vis.length + 1 ≤ gs.length := by
        have h2 := hp.length_eq
        simp at h2
        omega
      have hin : (a, d) ∈ gs := by
        obtain ⟨vs, h1, _⟩ := hP.out
        exact h1.mem_iff.1 (List.mem_append_right _ (hp.mem_iff.2 (List.mem_cons_self ..)))
      have hO2 := hO.kept hg2 (.inr (fun e => hI.notOwn hO e.symm))
      have hb2 := hb.trans (grown_below hg2 hb.size (Nat.le_refl _))
      have hL2 : ∀ e ∈ vis, LnRow w.heap.size w2 e.b e.cap e.ls := fun e he => ⟨(hL.out e he).own.kept hg2 (.inr (fun e' => hI.notOwn (hL.out e he).own e'.symm))⟩
      have hBk := H.out.next hb2
      have hB := hBk.gc (a, d) hin
      have hR := (hBk.lns (a, d) hin).1
      have hq := HQ.out (a, d) hin
      simp only at hB hR hq
      have g0 : w2.cell? ⟨d.g, 0, none⟩ = some (.int .i64 d.o) := hB.cell 0
      have g1 : w2.cell? ⟨d.g, 1, none⟩ = some (.int .i64 d.st) := hB.cell 1
      have g2 : w2.cell? ⟨d.g, 2, none⟩ = some (.slice (some ⟨d.b, 0, none⟩) d.ls.length d.cap) := hB.cell 2
      have T := hid (twin_off d.o d.st d.b 0 d.cap d.ls w2 hR hq.1 hq.2)
      have HF := hid (And.intro hO2 (And.intro hb2 (And.intro hL2 hI2)))
      simp only [kI, vGd] at hen
      have hPP := hid (show ∃ vs : List (Int × Gd), (vs ++ left').Perm gs ∧ (vis ++ [d]).map bareG = vs.map (fun p => bareG p.2) from by
        obtain ⟨vs, h1, h2⟩ := hP.out
        refine ⟨vs ++ [(a, d)], ?_, by simp [h2]⟩
        rw [List.append_assoc]
        exact (List.Perm.append_left vs hp.symm).trans h1)
      have hll : left'.length < left.length := by have := hp.length_eq; simp at this; omega
      have HLT := hid hll
      clear hO hI hg2 hs2 hO2 hb hb2 hL2 hI2 hBk hB hR hin hp hll hP hL hlen
      go_wp2_with fail
      refine T.out.mono ?_
      rintro e w7 ⟨b7, cp7, rfl, hL7, hb7⟩
      obtain ⟨hO2, hb2, hL2, hI2⟩ := HF.out
      have hwz : w.heap.size ≤ w7.heap.size := Nat.le_trans hb2.size hb7.size
      have hO3 := (hO2.kept (grown_of_below hb7 none) (by cases hv : u3.ownBlock <;> simp)).alloc (.cells #[.int .i64 d.o, .int .i64 d.st, .slice (some ⟨b7, 0, none⟩) d.ls.length cp7] 45)
      have hI3 := (hI2.next_ hb7).alloc (.cells #[.int .i64 d.o, .int .i64 d.st, .slice (some ⟨b7, 0, none⟩) d.ls.length cp7] 45)
      have hL3 : ∀ e ∈ vis ++ [(⟨0, d.o, d.st, b7, cp7, d.ls⟩ : Gd)], LnRow w.heap.size (w7.alloc (.cells #[.int .i64 d.o, .int .i64 d.st, .slice (some ⟨b7, 0, none⟩) d.ls.length cp7] 45)) e.b e.cap e.ls := fun e he => by
        rcases List.mem_append.1 he with he | he
        · exact ((hL2 e he).next hb7).next ((Below.refl _ _).alloc (Nat.le_refl _) _)
        · simp only [List.mem_singleton] at he
          subst he
          exact (show LnRow w.heap.size w7 b7 cp7 d.ls from ⟨ownsRow_low hL7.own hb2.size⟩).next ((Below.refl _ _).alloc (Nat.le_refl _) _)
      have hb3 := (bthen hb2 hb7).alloc hwz (.cells #[.int .i64 d.o, .int .i64 d.st, .slice (some ⟨b7, 0, none⟩) d.ls.length cp7] 45)
      have HI3 := hid hI3
      have HO3 := hid hO3
      have HL3 := hid hL3
      have HB3 := hid hb3
      have HO2 := hid (hO2.kept (grown_of_below hb7 none) (by cases hv : u3.ownBlock <;> simp))
      clear hO2 hb2 hL2 hI2 hO3 hI3 hL3 hb3 hL7 hb7 T HF g0 g1 g2
      go_wp2_with (first
        | (at_builtin; refine wpList_push _ rfl _ _ 60 rfl w.heap.size 45 i0 _ 3 40 Try.underlying60 hi hz0 hz1 hz2 rfl (by decide) _ _ _ (by rfl) HO2.out #[.int .i64 d.o, .int .i64 d.st, .slice (some ⟨b7, 0, none⟩) d.ls.length cp7] w7.heap.size (by simp) (by rfl) (by rfl) (by rfl) (by unfold maxLen; omega) (by omega) hwz ?_; intro v' w3 hO4 hg4))
      have hI4 := HI3.out.grown hg4 (fun e => HI3.out.isMap.notOwn HO3.out e) (fun e => HI3.out.notOwn HO3.out e)
      have hb4 := HB3.out.grown hg4 (by simp; omega) (fun k hk => (HO3.out.lt k hk).1)
      have hL4 : ∀ e ∈ vis ++ [(⟨0, d.o, d.st, b7, cp7, d.ls⟩ : Gd)], LnRow w.heap.size w3 e.b e.cap e.ls := fun e he =>
        ⟨(HL3.out e he).own.kept hg4 (.inr (fun e' => own_other HO3.out (HL3.out e he).own (by decide) rfl e'.symm))⟩
      have hO5 : w3.ownsRow w.heap.size 45 3 v' (vis ++ [(⟨0, d.o, d.st, b7, cp7, d.ls⟩ : Gd)]).length ((vis ++ [(⟨0, d.o, d.st, b7, cp7, d.ls⟩ : Gd)]).flatMap enG3) := by simpa [enG3] using hO4
      have hPQ := hid (show ∃ vs : List (Int × Gd), (vs ++ left').Perm gs ∧ (vis ++ [(⟨0, d.o, d.st, b7, cp7, d.ls⟩ : Gd)]).map bareG = vs.map (fun p => bareG p.2) from by
        obtain ⟨vs, h1, h2⟩ := hPP.out
        exact ⟨vs, h1, by rw [← h2]; simp [bareG]⟩)
      replace hL4 := hid hL4
      clear HO3 HI3 HL3 HB3 HO2 hO4 hg4 hPP hen
      go_roundw
      case rel => exact ⟨left', _, hO5, hI4, hPQ, hL4, hb4⟩
      case measure => rw [hI4.left_len, HL.out]; exact HLT.out
end

end Go.Proofs.Ythfaaimmfdidnaa
