/-
  maps.Keys over a map of the book: its iterator's contracts; slices.Sorted of the keys (printed by gen_keys.py).
-/
import Derived.Test.YthfaaimmfdidnaaSb15
import Derived.Test.YthfaaimmfdidnaaIterIn
import Derived.Test.YthfaaimmfdidnaaOwn
import Derived.Test.YthfaaimmfdidnaaSrt15
import Derived.Shelf.SortM.Plain
import Derived.Shelf.SortM.SortNone
import Derived.Shelf.SlIterI.Sorted
namespace Go.Proofs.Ythfaaimmfdidnaa
open Go.RowKit Go.Maps Go.Sort
set_option linter.unusedVariables false

set_option maxRecDepth 100000 in
set_option maxHeartbeats 2000000 in
theorem keys1_inL (F : Fence) (n : Nat) (hf : F.fn 59) (hro : F.round = none) (hn : 1 ≤ n) (l Bm b : Nat) (m : List (Int × Lv)) (J : List Int → World → Prop)
    (hY : ∀ pre x W, J pre W → pre.length < m.length → YieldAt F (n - 1) Try.prog l #[kI x] W fun e W' => e = .returned (.bool true) ∧ J (pre ++ [x]) W' ∧ KeepsWalks W W')
    (W : World) (hJ : AbidesFrom W.heap.size J) (hm : W.cell? ⟨Bm, 0, none⟩ = some (.map (some b))) (hM : IsMap W b kI vLv m) (h0 : J [] W) :
    CallsIn F n Try.prog 59 #[.func (.yield l) #[] #[], .pointer (some ⟨Bm, 0, none⟩)] W fun e W' => (∃ v, e = .returned v) ∧ ∃ xs : List Int, xs.Perm (m.map (·.1)) ∧ J xs W' := by
  refine callsIn_of_wp Try.func59 rfl hf ?_ hro
  simp only [Try.ntmps59, List.size_toArray, List.length_cons, List.length_nil, Nat.reduceAdd, Nat.reduceSub, Array.replicate_succ, Array.replicate_zero, List.push_toArray, List.append_toArray, List.nil_append, List.cons_append]
  gi_wp2_with (first
    | (gi_at_range; refine wpListIn_range_m _ rfl _ 71 3 75 rfl Try.underlying71 b m rfl hM ?_; intro w0 hrg0 hg0 hs0)
    | gi_in)
  go_frame
  gi_loopw [3] (fun _ wr => ∃ (left ps : List (Int × Lv)), IsIter wr W.heap.size b kI vLv m left ∧ (ps ++ left).Perm m ∧ J (ps.map (·.1)) wr)
    (fun _ wr => wr.rangeLeft b W.heap.size)
  case atStart =>
    exact ⟨m, [], hrg0, List.Perm.refl _, hJ [] W w0 none h0 hg0 (fun r e => by cases e)⟩
  case round =>
    obtain ⟨left, ps, hrg, hP, hJs⟩ := hrel
    gi_wp2_with (first
      | (gi_at_next; refine wpListIn_next_m _ rfl _ rfl W.heap.size b m left rfl hrg ?_ ?_)
      | gi_in)
    · intro hl0
      subst hl0
      gi_wp2
      go_end0
      exact ⟨⟨_, rfl⟩, ps.map (·.1), by rw [List.append_nil] at hP; exact hP.map _, hJs⟩
    · intro k v left' w2 hp hrg2 hg2 hs2 hen
      have hJ2 : J (ps.map (·.1)) w2 := hJ _ wr w2 (some W.heap.size) hJs hg2 (fun r e => by cases e; exact ⟨Nat.le_refl _, hrg.iter_walk⟩)
      have hlen : (ps.map (·.1)).length < m.length := by
        have h1 := hP.length_eq
        have h2 := hp.length_eq
        simp at h1 h2 ⊢
        omega
      obtain ⟨fn, tmps, assign, body, hy, hR⟩ := hY _ k _ hJ2 hlen
      clear hs2
      simp only [kI] at hen hy
      gi_wp2
      refine hR.mono ?_
      rintro e W3 ⟨rfl, hJ4, hk4⟩
      gi_wp2
      have hrg4 := hrg2.of_walks hk4
      go_roundw
      case rel => exact ⟨left', ps ++ [(k, v)], hrg4, by rw [List.append_assoc]; exact ((hp.symm).append_left ps).trans hP, by simpa using hJ4⟩
      case measure => rw [hrg4.left_len, hrg.left_len]; have := hp.length_eq; simp at this; omega

theorem keys_givesL (F : Fence) (n : Nat) (hf : F.fn 59) (hro : F.round = none) (hn : 1 ≤ n) (Bm b : Nat) (m : List (Int × Lv)) (w : World) (hBm : Bm < w.heap.size)
    (hm : w.cell? ⟨Bm, 0, none⟩ = some (.map (some b))) (hM : IsMap w b kI vLv m) :
    SeqGives F n Try.prog 59 #[.pointer (some ⟨Bm, 0, none⟩)] kI (fun xs => xs.Perm (m.map (·.1))) m.length w := fun l J W hW hJ hY h0 =>
  keys1_inL F n hf hro hn l Bm b m J hY W hJ ((hW.cell (p := ⟨Bm, 0, none⟩) hBm).trans hm) (hM.next hW) h0

set_option maxHeartbeats 1000000 in
theorem keysCall_inL (F : Fence) (n : Nat) (hf : F.fn 32) (hro : F.round = none) (mb : Option Nat) (w : World) :
    CallsIn F n Try.prog 32 #[.map mb] w fun e w' => e = .returned (.func (.func 59) #[] #[.pointer (some ⟨w.heap.size, 0, none⟩)]) ∧ w' = w.alloc (.cells #[.map mb] 71) := by
  refine callsIn_of_wp Try.func32 rfl hf ?_ hro
  simp only [Try.ntmps32, List.size_toArray, List.length_cons, List.length_nil, Nat.reduceAdd, Nat.reduceSub, Array.replicate_succ, Array.replicate_zero, List.push_toArray, List.append_toArray, List.nil_append, List.cons_append]
  gi_wp2
  go_ret
  exact ⟨rfl, rfl⟩

set_option maxRecDepth 100000 in
set_option maxHeartbeats 2000000 in
theorem sortedKeysL (w : World) (Bm b : Nat) (m : List (Int × Lv)) (hm : m.length * 8 ≤ 140737488351232) (hBm : Bm < w.heap.size) (hc : w.cell? ⟨Bm, 0, none⟩ = some (.map (some b))) (hM : IsMap w b kI vLv m) :
    Calls Try.prog 31 #[.func (.func 59) #[] #[.pointer (some ⟨Bm, 0, none⟩)]] w fun e w' =>
      ∃ (v : Value) (ss : List Int), e = .returned v ∧ ss.Perm (m.map (·.1)) ∧ w'.ownsRow w.heap.size 3 1 v ss.length ((srt ss).map kI) ∧ Below w.heap.size w w' := by
  refine (callsIn_wide (n := 5)).1 ?_
  have hseq : SeqGives Fence.wide 2 Try.prog 59 #[.pointer (some ⟨Bm, 0, none⟩)] kI (fun xs => xs.Perm (m.map (·.1))) m.length w := keys_givesL Fence.wide 2 trivial rfl (by omega) Bm b m w hBm hc hM
  have cS := AnyZI.sorted_in Try.sortedI Fence.wide 5 trivial trivial trivial trivial rfl (by omega) (sortsI _) (enters_of Try.func58 (by kernel_rfl) rfl) 59 #[.pointer (some ⟨Bm, 0, none⟩)] trivial (enters_of Try.func59 (by kernel_rfl) rfl) _ m.length (by unfold maxLen; omega) (by omega) w hseq
  exact cS.mono fun e w' ⟨v, ss, h1, h2, h3, _, h5⟩ => ⟨v, ss, h1, h2, h3, h5⟩

end Go.Proofs.Ythfaaimmfdidnaa
