/-
  Holds: what is held, by rising orders.
-/
import Derived.Test.YtpofhadeepgmbaaColl14
import Derived.Test.YtpofhadeepgmbaaCmp1
import Derived.Test.YtpofhadeepgmbaaSort
import Derived.Test.YtpofhadeepgmbaaSortLay14
import Derived.Shelf.SlSortCmp.NoneTotal
namespace Go.Proofs.Ytpofhadeepgmbaa
open Go.RowKit Go.Maps Go.Sort Go.ChangeShapes Go.WideShapes Go.ChangeAt Go.Deep
set_option linter.unusedVariables false

instance : Inhabited Hd := ⟨⟨0, 0, 0⟩⟩
def cfH (x y : Hd) : Int := cmpI x.o y.o
def ltH (x y : Hd) : Bool := decide (cfH x y < 0)
theorem ltH_iff (x y : Hd) : ltH x y = true ↔ x.o < y.o := by
  unfold ltH cfH cmpI
  rw [decide_eq_true_eq]
  split
  · simp_all
  · split <;> simp_all <;> omega
theorem ltH_no {x y : Hd} (h : ltH x y = false) : ¬ x.o < y.o := fun e => by rw [(ltH_iff x y).2 e] at h; cases h
theorem swoH : Sort.SWO ltH where
  irrefl a := by
    cases h : ltH a a with
    | false => rfl
    | true => have := (ltH_iff a a).1 h; omega
  trans x y z h g := by rw [ltH_iff] at *; omega
  ntrans x y z h1 h2 := by
    cases h : ltH x z with
    | false => rfl
    | true =>
      have h' := (ltH_iff x z).1 h
      have a := ltH_no h1
      have b := ltH_no h2
      omega

set_option maxRecDepth 100000 in
set_option maxHeartbeats 4000000 in
theorem horder_any (x y : Hd) (w : World) : Calls Try.prog 25 #[.agg #[.int .i64 x.o, .int .i64 x.c, .int .i64 x.a], .agg #[.int .i64 y.o, .int .i64 y.c, .int .i64 y.a]] w fun e w' => e = .returned (.int .i64 (cfH x y)) ∧ Grew w w' := by
  obtain ⟨xd, xo, xs⟩ := x
  obtain ⟨yd, yo, ys⟩ := y
  simp only
  have b1 : Blk ((w.alloc (.cells #[.int .i64 xd, .int .i64 xo, .int .i64 xs] 40)).alloc (.cells #[.int .i64 yd, .int .i64 yo, .int .i64 ys] 40)) w.heap.size 40 #[.int .i64 xd, .int .i64 xo, .int .i64 xs] := (Blk.new _ _ _).alloc _
  have b2 : Blk ((w.alloc (.cells #[.int .i64 xd, .int .i64 xo, .int .i64 xs] 40)).alloc (.cells #[.int .i64 yd, .int .i64 yo, .int .i64 ys] 40)) (w.heap.size + 1) 40 #[.int .i64 yd, .int .i64 yo, .int .i64 ys] := by
    have := Blk.new (w.alloc (.cells #[.int .i64 xd, .int .i64 xo, .int .i64 xs] 40)) 40 #[.int .i64 yd, .int .i64 yo, .int .i64 ys]
    rw [World.size_alloc] at this
    exact this
  have hg : Grew w ((w.alloc (.cells #[.int .i64 xd, .int .i64 xo, .int .i64 xs] 40)).alloc (.cells #[.int .i64 yd, .int .i64 yo, .int .i64 ys] 40)) := ((Grew.refl w).alloc _).alloc _
  have B1 := hid b1
  have B2 := hid b2
  clear b1 b2
  go_enter Try.func25, Try.ntmps25
  go_wp2_with fail
  obtain ⟨W, hW⟩ : ∃ W, W = (w.alloc (.cells #[.int .i64 xd, .int .i64 xo, .int .i64 xs] 40)).alloc (.cells #[.int .i64 yd, .int .i64 yo, .int .i64 ys] 40) := ⟨_, rfl⟩
  replace B1 := B1.out
  replace B2 := B2.out
  rw [← hW] at B1 B2 hg ⊢
  obtain ⟨G, hG⟩ : ∃ G, G = w.heap.size := ⟨_, rfl⟩
  rw [← hG] at B1 B2 ⊢
  clear hW hG
  have p0 : W.cell? ⟨G, 0, none⟩ = some (.int .i64 xd) := B1.cell 0
  have p3 : W.cell? ⟨G + 1, 0, none⟩ = some (.int .i64 yd) := B2.cell 0
  clear B1 B2
  go_wp2_with (first | (go_at_call 26; refine (compare_any _ _ _).mono ?_; rintro e w5 ⟨rfl, rfl⟩))
  go_ret
  exact ⟨rfl, hg⟩

theorem sortsHd : SortsAt Try.prog 37 (.func (.func 25) #[] #[]) enH3 3 ltH := by
  refine ⟨fun blk off cap d w hH hb hsz => ?_, fun p cap w => ?_⟩
  · have eg : ∀ args w, (callFunc 25 args).run Try.prog w = .ok (.enter 25 args) w := enters_of Try.func25 (by kernel_rfl) rfl
    exact AnyQ.slices_SortFunc Try.sortHd 3 Try.isAgg40 Try.sizeOf40 enH3 enH3_len enH3_one cfH swoH 25 #[] blk off cap d w eg (fun _ _ _ _ x y => horder_any x y _) hH hb hsz
  · exact AnyF.slices_SortFunc_none Try.sortHd p cap _ w

set_option maxRecDepth 100000 in
set_option maxHeartbeats 2000000 in
theorem sortedHolds (w : World) (Bm b : Nat) (m : List (Int × Hd)) (hm : m.length * 24 ≤ 140737488351232) (hBm : Bm < w.heap.size) (hc : w.cell? ⟨Bm, 0, none⟩ = some (.map (some b))) (hM : IsMap w b kI enH m) :
    Calls Try.prog 23 #[.func (.func 38) #[] #[.pointer (some ⟨Bm, 0, none⟩)], .func (.func 25) #[] #[]] w fun e w' =>
      ∃ (A : Option Addr) (cap : Nat) (l : List Hd), e = .returned (.slice A l.length cap) ∧ l.Perm (m.map (·.2)) ∧ l.Pairwise (fun a b => ltH b a = false) ∧ w'.ownsRow w.heap.size 40 3 (.slice A l.length cap) l.length (l.flatMap enH3) ∧ Below w.heap.size w w' := by
  refine (callsIn_wide (n := 6)).1 ?_
  have hseq : SeqGives Fence.wide 3 Try.prog 38 #[.pointer (some ⟨Bm, 0, none⟩)] enH (fun xs => xs.Perm (m.map (·.2))) m.length w := vals_gives Fence.wide 3 trivial rfl (by omega) Bm b m w hBm hc hM
  have cC := collect_in Fence.wide 5 trivial trivial rfl (by omega) 38 #[.pointer (some ⟨Bm, 0, none⟩)] trivial (enters_of Try.func38 (by kernel_rfl) rfl) _ m.length (by unfold maxLen; omega) (by omega) w hseq
  have hfK : Fence.wide.fn 36 := trivial
  have hfS : Fence.wide.fn 37 := trivial
  refine callsIn_of_wp Try.func23 rfl trivial ?_ rfl
  simp only [Try.ntmps23, List.size_toArray, List.length_cons, List.length_nil, Nat.reduceAdd, Nat.reduceSub, Array.replicate_succ, Array.replicate_zero, List.push_toArray, List.append_toArray, List.nil_append, List.cons_append]
  gi_wp2_with (first
    | (gi_at_call 36; refine cC.mono ?_; rintro e w1 ⟨v, ss, rfl, hS, hrow, hnil, hb⟩))
  have hlen : ss.length = m.length := by have := hS.length_eq; simpa using this
  have cS := hid (callsIn_wide.2 (sort_owned sortsHd enH3_len hrow (by omega)) : CallsIn Fence.wide 5 _ _ _ _ _)
  gi_wp2_with (first
    | (gi_at_call 37; refine cS.out.mono ?_; rintro e w2 ⟨rfl, l, hp, hs, hrow2, hg2⟩))
  obtain ⟨A, cap, hv, _⟩ := own_slice hrow2
  subst hv
  go_ret
  exact ⟨A, cap, l, rfl, hp.trans hS, hs, hrow2, hb.grown hg2 hb.size (fun k e => (hrow.lt k e).1)⟩

set_option maxRecDepth 100000 in
set_option maxHeartbeats 1000000 in
/-- Holds: all that is held, by rising orders. -/
theorem holds_any {n0 : Nat} {w : World} {X BA BH : Nat} {ac : List (Int × Acc)} {hs : List (Int × Hd)} (h : IsBook n0 w X BA BH ac hs) (hm : hs.length * 24 ≤ 140737488351232) :
    Calls Try.prog 15 #[.pointer (some ⟨X, 0, none⟩)] w fun e w' =>
      ∃ (A : Option Addr) (cap : Nat) (l : List Hd), e = .returned (.slice A l.length cap) ∧ l.Perm (hs.map (·.2)) ∧ l.Pairwise (fun a b => ltH b a = false) ∧ w'.ownsRow w.heap.size 40 3 (.slice A l.length cap) l.length (l.flatMap enH3) ∧ Below w.heap.size w w' := by
  have hH := h.cellH
  have hb1 : Below w.heap.size w (w.alloc (.cells #[.map (some BH)] 38)) := (Below.refl _ _).alloc (Nat.le_refl _) _
  have K := hid (sortedHolds (w.alloc (.cells #[.map (some BH)] 38)) w.heap.size BH hs hm (by simp) (by simp) (h.alloc _).hds)
  have V := hid ((callsIn_wide (n := 6)).1 (valsCall_in Fence.wide 6 trivial rfl (some BH) w))
  go_enter Try.func15, Try.ntmps15
  go_wp2_with fail
  refine V.out.mono ?_
  rintro e w1 ⟨rfl, rfl⟩
  go_wp2_with fail
  refine K.out.mono ?_
  rintro e w2 ⟨A, cap, l, rfl, hp, hs, hrow, hb2⟩
  go_wp2_with fail
  go_ret
  exact ⟨A, cap, l, rfl, hp, hs, ownsRow_base_a hrow (by simp), bthen hb1 hb2⟩

end Go.Proofs.Ytpofhadeepgmbaa
