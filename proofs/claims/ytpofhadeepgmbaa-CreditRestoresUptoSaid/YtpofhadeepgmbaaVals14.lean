/-
  maps.Values and maps.Keys over the book's maps: their iterators' contracts.
-/
import Derived.Test.YtpofhadeepgmbaaIterIn
import Derived.Test.YtpofhadeepgmbaaOwn
import Derived.Test.YtpofhadeepgmbaaBook4
namespace Go.Proofs.Ytpofhadeepgmbaa
open Go.RowKit
set_option linter.unusedVariables false

set_option maxRecDepth 100000 in
set_option maxHeartbeats 2000000 in
theorem vals1_in (F : Fence) (n : Nat) (hf : F.fn 38) (hro : F.round = none) (hn : 1 ≤ n) (l Bm b : Nat) (m : List (Int × Hd)) (J : List Hd → World → Prop)
    (hY : ∀ pre x W, J pre W → pre.length < m.length → YieldAt F (n - 1) Try.prog l #[enH x] W fun e W' => e = .returned (.bool true) ∧ J (pre ++ [x]) W' ∧ KeepsWalks W W')
    (W : World) (hJ : AbidesFrom W.heap.size J) (hm : W.cell? ⟨Bm, 0, none⟩ = some (.map (some b))) (hM : IsMap W b kI enH m) (h0 : J [] W) :
    CallsIn F n Try.prog 38 #[.func (.yield l) #[] #[], .pointer (some ⟨Bm, 0, none⟩)] W fun e W' => (∃ v, e = .returned v) ∧ ∃ xs : List Hd, xs.Perm (m.map (·.2)) ∧ J xs W' := by
  refine callsIn_of_wp Try.func38 rfl hf ?_ hro
  simp only [Try.ntmps38, List.size_toArray, List.length_cons, List.length_nil, Nat.reduceAdd, Nat.reduceSub, Array.replicate_succ, Array.replicate_zero, List.push_toArray, List.append_toArray, List.nil_append, List.cons_append]
  gi_wp2_with (first
    | (gi_at_range; refine wpListIn_range_m _ rfl _ 38 3 40 rfl Try.underlying38 b m rfl hM ?_; intro w0 hrg0 hg0 hs0)
    | gi_in)
  go_frame
  gi_loopw [4] (fun _ wr => ∃ (left ps : List (Int × Hd)), IsIter wr W.heap.size b kI enH m left ∧ (ps ++ left).Perm m ∧ J (ps.map (·.2)) wr)
    (fun _ wr => wr.rangeLeft b W.heap.size)
  case atStart =>
    exact ⟨m, [], hrg0, List.Perm.refl _, hJ [] W w0 none h0 hg0 (fun r e => by cases e)⟩
  case round =>
    obtain ⟨left, ps, hrg, hP, hJs⟩ := hrel
    gi_wp2_with (first
      | (gi_at_next; refine wpListIn_next_m _ rfl _ rfl W.heap.size b m left rfl hrg ?_ ?_)
      | gi_in)
    · intro hl0
      subst hl0
      gi_wp2
      go_end0
      exact ⟨⟨_, rfl⟩, ps.map (·.2), by rw [List.append_nil] at hP; exact hP.map _, hJs⟩
    · intro k v left' w2 hp hrg2 hg2 hs2 hen
      have hJ2 : J (ps.map (·.2)) w2 := hJ _ wr w2 (some W.heap.size) hJs hg2 (fun r e => by cases e; exact ⟨Nat.le_refl _, hrg.iter_walk⟩)
      have hJ3 : J (ps.map (·.2)) (w2.alloc (.cells #[.int .i64 v.o, .int .i64 v.c, .int .i64 v.a] 40)) := hJ _ _ _ none hJ2 (World.grownBy_alloc w2 _ none) (fun r e => by cases e)
      have hrg3 := hrg2.alloc (.cells #[.int .i64 v.o, .int .i64 v.c, .int .i64 v.a] 40)
      have hlen : (ps.map (·.2)).length < m.length := by
        have h1 := hP.length_eq
        have h2 := hp.length_eq
        simp at h1 h2 ⊢
        omega
      obtain ⟨fn, tmps, assign, body, hy, hR⟩ := hY _ v _ hJ3 hlen
      clear hs2
      obtain ⟨vo, vc, va⟩ := v
      simp only [enH] at hen hy
      gi_wp2
      refine hR.mono ?_
      rintro e W3 ⟨rfl, hJ4, hk4⟩
      gi_wp2
      have hrg4 := hrg3.of_walks hk4
      go_roundw
      case rel => exact ⟨left', ps ++ [(k, ⟨vo, vc, va⟩)], hrg4, by rw [List.append_assoc]; exact ((hp.symm).append_left ps).trans hP, by simpa using hJ4⟩
      case measure => rw [hrg4.left_len, hrg.left_len]; have := hp.length_eq; simp at this; omega

set_option maxRecDepth 100000 in
set_option maxHeartbeats 2000000 in
theorem keys1_in (F : Fence) (n : Nat) (hf : F.fn 42) (hro : F.round = none) (hn : 1 ≤ n) (l Bm b : Nat) (m : List (Int × Acc)) (J : List Int → World → Prop)
    (hY : ∀ pre x W, J pre W → pre.length < m.length → YieldAt F (n - 1) Try.prog l #[kI x] W fun e W' => e = .returned (.bool true) ∧ J (pre ++ [x]) W' ∧ KeepsWalks W W')
    (W : World) (hJ : AbidesFrom W.heap.size J) (hm : W.cell? ⟨Bm, 0, none⟩ = some (.map (some b))) (hM : IsMap W b kI vAcc m) (h0 : J [] W) :
    CallsIn F n Try.prog 42 #[.func (.yield l) #[] #[], .pointer (some ⟨Bm, 0, none⟩)] W fun e W' => (∃ v, e = .returned v) ∧ ∃ xs : List Int, xs.Perm (m.map (·.1)) ∧ J xs W' := by
  refine callsIn_of_wp Try.func42 rfl hf ?_ hro
  simp only [Try.ntmps42, List.size_toArray, List.length_cons, List.length_nil, Nat.reduceAdd, Nat.reduceSub, Array.replicate_succ, Array.replicate_zero, List.push_toArray, List.append_toArray, List.nil_append, List.cons_append]
  gi_wp2_with (first
    | (gi_at_range; refine wpListIn_range_m _ rfl _ 65 3 69 rfl Try.underlying65 b m rfl hM ?_; intro w0 hrg0 hg0 hs0)
    | gi_in)
  go_frame
  gi_loopw [3] (fun _ wr => ∃ (left ps : List (Int × Acc)), IsIter wr W.heap.size b kI vAcc m left ∧ (ps ++ left).Perm m ∧ J (ps.map (·.1)) wr)
    (fun _ wr => wr.rangeLeft b W.heap.size)
  case atStart =>
    exact ⟨m, [], hrg0, List.Perm.refl _, hJ [] W w0 none h0 hg0 (fun r e => by cases e)⟩
  case round =>
    obtain ⟨left, ps, hrg, hP, hJs⟩ := hrel
    gi_wp2_with (first
      | (gi_at_next; refine wpListIn_next_m _ rfl _ rfl W.heap.size b m left rfl hrg ?_ ?_)
      | gi_in)
    · intro hl0
      subst hl0
      gi_wp2
      go_end0
      exact ⟨⟨_, rfl⟩, ps.map (·.1), by rw [List.append_nil] at hP; exact hP.map _, hJs⟩
    · intro k v left' w2 hp hrg2 hg2 hs2 hen
      have hJ2 : J (ps.map (·.1)) w2 := hJ _ wr w2 (some W.heap.size) hJs hg2 (fun r e => by cases e; exact ⟨Nat.le_refl _, hrg.iter_walk⟩)
      have hlen : (ps.map (·.1)).length < m.length := by
        have h1 := hP.length_eq
        have h2 := hp.length_eq
        simp at h1 h2 ⊢
        omega
      obtain ⟨fn, tmps, assign, body, hy, hR⟩ := hY _ k _ hJ2 hlen
      clear hs2
      simp only [kI] at hen hy
      gi_wp2
      refine hR.mono ?_
      rintro e W3 ⟨rfl, hJ4, hk4⟩
      gi_wp2
      have hrg4 := hrg2.of_walks hk4
      go_roundw
      case rel => exact ⟨left', ps ++ [(k, v)], hrg4, by rw [List.append_assoc]; exact ((hp.symm).append_left ps).trans hP, by simpa using hJ4⟩
      case measure => rw [hrg4.left_len, hrg.left_len]; have := hp.length_eq; simp at this; omega


/-- maps.Values hands back an iterator over the values. -/
theorem vals_gives (F : Fence) (n : Nat) (hf : F.fn 38) (hro : F.round = none) (hn : 1 ≤ n) (Bm b : Nat) (m : List (Int × Hd)) (w : World) (hBm : Bm < w.heap.size)
    (hm : w.cell? ⟨Bm, 0, none⟩ = some (.map (some b))) (hM : IsMap w b kI enH m) :
    SeqGives F n Try.prog 38 #[.pointer (some ⟨Bm, 0, none⟩)] enH (fun xs => xs.Perm (m.map (·.2))) m.length w := fun l J W hW hJ hY h0 =>
  vals1_in F n hf hro hn l Bm b m J hY W hJ ((hW.cell (p := ⟨Bm, 0, none⟩) hBm).trans hm) (hM.next hW) h0
/-- maps.Keys hands back an iterator over the keys. -/
theorem keys_gives (F : Fence) (n : Nat) (hf : F.fn 42) (hro : F.round = none) (hn : 1 ≤ n) (Bm b : Nat) (m : List (Int × Acc)) (w : World) (hBm : Bm < w.heap.size)
    (hm : w.cell? ⟨Bm, 0, none⟩ = some (.map (some b))) (hM : IsMap w b kI vAcc m) :
    SeqGives F n Try.prog 42 #[.pointer (some ⟨Bm, 0, none⟩)] kI (fun xs => xs.Perm (m.map (·.1))) m.length w := fun l J W hW hJ hY h0 =>
  keys1_in F n hf hro hn l Bm b m J hY W hJ ((hW.cell (p := ⟨Bm, 0, none⟩) hBm).trans hm) (hM.next hW) h0

set_option maxHeartbeats 1000000 in
theorem valsCall_in (F : Fence) (n : Nat) (hf : F.fn 24) (hro : F.round = none) (mb : Option Nat) (w : World) :
    CallsIn F n Try.prog 24 #[.map mb] w fun e w' => e = .returned (.func (.func 38) #[] #[.pointer (some ⟨w.heap.size, 0, none⟩)]) ∧ w' = w.alloc (.cells #[.map mb] 38) := by
  refine callsIn_of_wp Try.func24 rfl hf ?_ hro
  simp only [Try.ntmps24, List.size_toArray, List.length_cons, List.length_nil, Nat.reduceAdd, Nat.reduceSub, Array.replicate_succ, Array.replicate_zero, List.push_toArray, List.append_toArray, List.nil_append, List.cons_append]
  gi_wp2
  go_ret
  exact ⟨rfl, rfl⟩
set_option maxHeartbeats 1000000 in
theorem keysCall_in (F : Fence) (n : Nat) (hf : F.fn 33) (hro : F.round = none) (mb : Option Nat) (w : World) :
    CallsIn F n Try.prog 33 #[.map mb] w fun e w' => e = .returned (.func (.func 42) #[] #[.pointer (some ⟨w.heap.size, 0, none⟩)]) ∧ w' = w.alloc (.cells #[.map mb] 65) := by
  refine callsIn_of_wp Try.func33 rfl hf ?_ hro
  simp only [Try.ntmps33, List.size_toArray, List.length_cons, List.length_nil, Nat.reduceAdd, Nat.reduceSub, Array.replicate_succ, Array.replicate_zero, List.push_toArray, List.append_toArray, List.nil_append, List.cons_append]
  gi_wp2
  go_ret
  exact ⟨rfl, rfl⟩

end Go.Proofs.Ytpofhadeepgmbaa
