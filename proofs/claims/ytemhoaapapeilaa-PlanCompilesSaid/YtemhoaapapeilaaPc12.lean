/-
  Parts of a plan: slices.Clone of names and of numbers, plan.twin; slices.Sort and slices.Compact at numbers, told of a row that the call owns; rising lists.
-/
import Derived.Test.YtemhoaapapeilaaCk12
import Derived.Test.YtemhoaapapeilaaSortI12
import Derived.Test.YtemhoaapapeilaaCompI12
import Derived.Shelf.SortM.Plain
import Derived.Shelf.SortM.SortNone
import Derived.Shelf.Slices.CompactI
import Derived.Lib.BufferMore
namespace Go.Proofs.Ytemhoaapapeilaa
open Go.RowKit Go.WideShapes Go.ChangeShapes Go.ChangeAt Go.Deep
set_option linter.unusedVariables false

/-! ### Rising lists -/
theorem rise_ext : ∀ {a b : List Int}, a.Pairwise (· < ·) → b.Pairwise (· < ·) → (∀ x, x ∈ a ↔ x ∈ b) → a = b
  | [], [], _, _, _ => rfl
  | [], y :: b, _, _, h => by have := (h y).2 (by simp); cases this
  | x :: a, [], _, _, h => by have := (h x).1 (by simp); cases this
  | x :: a, y :: b, ha, hb, h => by
    have ha' := List.pairwise_cons.1 ha
    have hb' := List.pairwise_cons.1 hb
    have hxy : x = y := by
      rcases List.mem_cons.1 ((h x).1 (by simp)) with e | hx
      · exact e
      · rcases List.mem_cons.1 ((h y).2 (by simp)) with e | hy
        · exact e.symm
        · have := ha'.1 y hy; have := hb'.1 x hx; omega
    subst hxy
    congr 1
    refine rise_ext ha'.2 hb'.2 (fun z => ?_)
    constructor
    · intro hz
      rcases List.mem_cons.1 ((h z).1 (by simp [hz])) with e | hz'
      · have := ha'.1 z hz; omega
      · exact hz'
    · intro hz
      rcases List.mem_cons.1 ((h z).2 (by simp [hz])) with e | hz'
      · have := hb'.1 z hz; omega
      · exact hz'
theorem compact_rise {zs : List Int} (hs : zs.Pairwise (· ≤ ·)) : (Lib.compact zs).Pairwise (· < ·) ∧ ∀ x, x ∈ Lib.compact zs ↔ x ∈ zs := by
  have key : ∀ m, m ≤ zs.length → (Lib.compactUpTo zs.toArray m).Pairwise (· < ·) ∧ ∀ x, x ∈ Lib.compactUpTo zs.toArray m ↔ x ∈ zs.take m := by
    intro m
    induction m with
    | zero => intro _; exact ⟨by simp [Lib.compactUpTo], fun x => by simp [Lib.compactUpTo]⟩
    | succ m ih =>
      intro hm
      obtain ⟨h1, h2⟩ := ih (by omega)
      have hmg : zs[m]? = some (zs.toArray[m]!) := by rw [List.getElem?_eq_getElem (by omega), getElem!_pos zs.toArray m (by simp; omega)]; simp
      have htk := take_succ_of hmg
      rw [Lib.compactUpTo_succ, htk]
      have hle : ∀ x ∈ zs.take m, x ≤ zs.toArray[m]! := fun x hx => by
        have h3 : (zs.take (m + 1)).Pairwise (· ≤ ·) := hs.sublist (List.take_sublist _ _)
        rw [htk] at h3
        exact (List.pairwise_append.1 h3).2.2 x hx _ (by simp)
      cases hk : Lib.keeps zs.toArray m with
      | false =>
        have hk' := hk
        simp only [Lib.keeps, decide_eq_false_iff_not, not_or, ne_eq, Decidable.not_not] at hk'
        simp only [Bool.false_eq_true, if_false, List.append_nil]
        refine ⟨h1, fun x => ?_⟩
        rw [h2, List.mem_append]
        refine ⟨.inl, fun h => h.elim id (fun h => ?_)⟩
        rw [List.mem_singleton] at h
        have hm1 : zs[m - 1]? = some (zs.toArray[m - 1]!) := by rw [List.getElem?_eq_getElem (by omega), getElem!_pos zs.toArray (m - 1) (by simp; omega)]; simp
        have e1 : x = zs.toArray[m - 1]! := by rw [← hk'.2, h]
        have : (zs.take m)[m - 1]? = some x := by rw [List.getElem?_take_of_lt (by omega), hm1, e1]
        exact List.mem_of_getElem? this
      | true =>
        simp only [if_true]
        refine ⟨List.pairwise_append.2 ⟨h1, by simp, fun a ha b hb => ?_⟩, fun x => by rw [List.mem_append, List.mem_append, h2]⟩
        simp only [List.mem_singleton] at hb
        subst hb
        rw [h2] at ha
        have hlea := hle a ha
        simp only [Lib.keeps, decide_eq_true_eq] at hk
        rcases hk with rfl | hk
        · simp at ha
        · have hm0 : 0 < m := by
            rcases Nat.eq_zero_or_pos m with e | e
            · subst e; simp at ha
            · exact e
          have hm1 : zs[m - 1]? = some (zs.toArray[m - 1]!) := by rw [List.getElem?_eq_getElem (by omega), getElem!_pos zs.toArray (m - 1) (by simp; omega)]; simp
          have e2 : zs.take m = zs.take (m - 1) ++ [zs.toArray[m - 1]!] := by
            have := take_succ_of hm1
            rwa [show m - 1 + 1 = m from by omega] at this
          have h4 : (zs.take m).Pairwise (· ≤ ·) := hs.sublist (List.take_sublist _ _)
          rw [e2] at h4 ha
          have h5 : zs.toArray[m - 1]! ≤ zs.toArray[m]! := hle _ (by rw [e2]; simp)
          rcases List.mem_append.1 ha with ha | ha
          · have := (List.pairwise_append.1 h4).2.2 a ha (zs.toArray[m - 1]!) (List.mem_singleton_self _); omega
          · rw [List.mem_singleton] at ha
            rw [ha]
            omega
  have := key zs.length (Nat.le_refl _)
  rw [List.take_length] at this
  exact this

/-! ### Rows of numbers, and of names -/
theorem en1_one (l : List Int) : ∀ v ∈ l.flatMap en1, v.oneCell' = true := fun v hv => by
  obtain ⟨x, _, hx⟩ := List.mem_flatMap.1 hv
  simp [en1] at hx
  subst hx
  rfl
theorem enB_one (l : List ByteArray) : ∀ v ∈ l.flatMap enB, v.oneCell' = true := fun v hv => by
  obtain ⟨x, _, hx⟩ := List.mem_flatMap.1 hv
  simp [enB] at hx
  subst hx
  rfl
theorem info_int12 : (Try.prog.info? 3).map (fun i => (i.zero, i.size, i.bytes)) = some (some (.int .i64 0), 1, 8) := by kernel_rfl
theorem info_str12 : (Try.prog.info? 9).map (fun i => (i.zero, i.size, i.bytes)) = some (some (.string ⟨#[]⟩), 1, 16) := by kernel_rfl

theorem flat_en1 (zs : List Int) : zs.flatMap en1 = zs.map (Value.int .i64) := by
  induction zs with
  | nil => rfl
  | cons z zs ih => rw [List.flatMap_cons, ih]; rfl

/-- A row of numbers of the call's own, rewritten in place by a function that tells it by 'Holds' and 'putRow'. -/
theorem own_putRow {w : World} {base g cap n : Nat} {zs ys : List Int} (ho : w.ownsRow base 3 1 (.slice (some ⟨g, 0, none⟩) n cap) n (zs.flatMap en1)) (hy : ys.length = n) (m : Nat) (hm : m ≤ n) (q : Nat) (os : Array Obj) :
    (Sort.grow (Sort.putRow (Value.int .i64) (Sort.ahead w q) g 0 ys.toArray) os).ownsRow base 3 1 (.slice (some ⟨g, 0, none⟩) m cap) m ((ys.take m).flatMap en1) ∧ w.grownBy (Sort.grow (Sort.putRow (Value.int .i64) (Sort.ahead w q) g 0 ys.toArray) os) (some g) := by
  rcases ho.2 with ⟨h, _⟩ | ⟨g', cap', cur, h, hb, hg, hnc, hcm, hcs, htk⟩
  · cases h
  · simp only [Value.slice.injEq, Option.some.injEq, Addr.mk.injEq, and_true, true_and] at h
    obtain ⟨rfl, rfl⟩ := h
    have hlt : g < w.heap.size := (Array.getElem?_eq_some_iff.1 hg).1
    have hgw : (Sort.grow (Sort.putRow (Value.int .i64) (Sort.ahead w q) g 0 ys.toArray) os).heap[g]? = some (.cells (Sort.putCells (Value.int .i64) 0 ys.toArray cur) 3 (0, 0)) := by
      rw [Sort.heap_grow_old _ _ (by simpa [Sort.putRow, Sort.mapBlock, Sort.ahead] using hlt)]
      simp [Sort.putRow, Sort.mapBlock, Sort.ahead, Array.getElem?_modify, hg, Sort.onCells]
    refine ⟨⟨?_, .inr ⟨g, cap, _, rfl, hb, hgw, by omega, hcm, by simp [Sort.putCells, hcs], ?_⟩⟩, ?_⟩
    · rw [length_flatMap_const en1 1 en1_len, List.length_take]; omega
    · rw [flat_en1]
      apply List.ext_getElem?
      intro j
      by_cases hj : j < m
      · have hjs : j < cur.size := by omega
        have hjy : j < ys.length := by omega
        rw [Nat.mul_one, List.getElem?_take_of_lt hj, List.getElem?_map, List.getElem?_take_of_lt hj, List.getElem?_eq_getElem hjy, Array.getElem?_toList]
        simp [Sort.putCells, hjs, hjy]
      · rw [Nat.mul_one, List.getElem?_take_eq_none (by omega), List.getElem?_map, List.getElem?_take_eq_none (by omega)]
        rfl
    · refine ⟨rfl, rfl, rfl, by simp [Sort.grow, Sort.putRow, Sort.mapBlock, Sort.ahead], fun i hi hne => ?_⟩
      rw [Sort.heap_grow_old _ _ (by simpa [Sort.putRow, Sort.mapBlock, Sort.ahead] using hi)]
      have : g ≠ i := fun e => hne (by rw [e])
      simp [Sort.putRow, Sort.mapBlock, Sort.ahead, Array.getElem?_modify, this]
theorem own_holds {w : World} {base g cap n : Nat} {zs : List Int} (hn : zs.length = n) (ho : w.ownsRow base 3 1 (.slice (some ⟨g, 0, none⟩) n cap) n (zs.flatMap en1)) : Sort.Holds (Value.int .i64) w g 0 zs.toArray ∧ g < w.heap.size ∧ n ≤ cap ∧ cap ≤ maxLen := by
  rcases ho.2 with ⟨h, _⟩ | ⟨g', cap', cur, h, hb, hg, hnc, hcm, hcs, htk⟩
  · cases h
  · simp only [Value.slice.injEq, Option.some.injEq, Addr.mk.injEq, and_true, true_and] at h
    obtain ⟨rfl, rfl⟩ := h
    refine ⟨fun j hj => ?_, (Array.getElem?_eq_some_iff.1 hg).1, hnc, hcm⟩
    have hj' : j < zs.length := by simpa using hj
    rw [Nat.zero_add]
    refine ⟨?_, frozen_of_row w g j cur _ hg⟩
    rw [cell_of_row w g j cur _ (0, 0) hg]
    have e1 : (zs.flatMap en1)[j]? = cur[j]? := by rw [← htk, List.getElem?_take, if_pos (by omega), Array.getElem?_toList]
    rw [← e1, flat_en1, List.getElem?_map, List.getElem?_eq_getElem hj', getElem!_pos zs.toArray j hj]
    simp
def srtI (zs : List Int) : List Int := zs.mergeSort fun x y => decide (x ≤ y)
theorem srtI_len (zs : List Int) : (srtI zs).length = zs.length := (List.mergeSort_perm _ _).length_eq
theorem srtI_mem (zs : List Int) (x : Int) : x ∈ srtI zs ↔ x ∈ zs := (List.mergeSort_perm _ _).mem_iff
theorem srtI_sorted (zs : List Int) : (srtI zs).Pairwise (· ≤ ·) := by
  have := List.pairwise_mergeSort (le := fun x y : Int => decide (x ≤ y)) (fun a b c h g => by simp only [decide_eq_true_eq] at *; omega) (fun a b => by simp only [Bool.or_eq_true, decide_eq_true_eq]; omega) zs
  exact this.imp (fun h => by simpa using h)
/-- slices.Sort at numbers, at a row of the call's own. -/
theorem sortI_owned {w : World} {base n : Nat} {v : Value} {zs : List Int} (hn : zs.length = n) (ho : w.ownsRow base 3 1 v n (zs.flatMap en1)) (hl : n ≤ 140737488355328) :
    Calls Try.prog 31 #[v] w fun e w' => e = .returned (.tuple #[]) ∧ w'.ownsRow base 3 1 v n ((srtI zs).flatMap en1) ∧ w.grownBy w' v.ownBlock := by
  rcases ho.2 with ⟨rfl, h0⟩ | ⟨g, cap, cur, rfl, _⟩
  · refine (AnyM.slices_Sort_int_none Try.sortI none 0 w).mono ?_
    rintro e w' ⟨rfl, rfl⟩
    have : zs = [] := List.eq_nil_of_length_eq_zero (by omega)
    subst this
    exact ⟨rfl, by simpa [srtI] using ho, ⟨rfl, rfl, rfl, Nat.le_refl _, fun _ _ _ => rfl⟩⟩
  · obtain ⟨hH, hlt, _, _⟩ := own_holds hn ho
    have := AnyM.slices_Sort_int Try.sortI g 0 cap zs w hH hlt (by omega)
    rw [hn] at this
    refine this.mono ?_
    rintro e w' ⟨rfl, q, os, rfl⟩
    have h2 := own_putRow ho (ys := srtI zs) (by rw [srtI_len, hn]) n (Nat.le_refl _) q os
    rw [List.take_of_length_le (by rw [srtI_len, hn]; exact Nat.le_refl _)] at h2
    exact ⟨rfl, h2.1, h2.2⟩
theorem compact_le (zs : List Int) : (Lib.compact zs).length ≤ zs.length := by
  unfold Lib.compact Lib.compactUpTo
  rw [List.length_map]
  exact Nat.le_trans (List.length_filter_le _ _) (by simp)
/-- slices.Compact at numbers, at a row of the call's own. -/
theorem compI_owned {w : World} {base n : Nat} {v : Value} {zs : List Int} (hn : zs.length = n) (ho : w.ownsRow base 3 1 v n (zs.flatMap en1)) (hl : n ≤ 140737488355328) :
    Calls Try.prog 33 #[v] w fun e w' => ∃ A cap, e = .returned (.slice A (Lib.compact zs).length cap) ∧ w'.ownsRow base 3 1 (.slice A (Lib.compact zs).length cap) (Lib.compact zs).length ((Lib.compact zs).flatMap en1) ∧ w.grownBy w' v.ownBlock := by
  rcases ho.2 with ⟨rfl, h0⟩ | ⟨g, cap, cur, rfl, _⟩
  · have : zs = [] := List.eq_nil_of_length_eq_zero (by omega)
    subst this
    simp only [List.length_nil] at hn
    subst hn
    refine (Any.slices_Compact_int_empty Try.compI none 0 w).mono ?_
    rintro e w' ⟨rfl, rfl⟩
    exact ⟨none, 0, rfl, ho, ⟨rfl, rfl, rfl, Nat.le_refl _, fun _ _ _ => rfl⟩⟩
  · obtain ⟨hH, hlt, hc, _⟩ := own_holds hn ho
    have := Any.slices_Compact_int Try.compI g 0 cap zs w hH (by omega) (by omega)
    rw [hn] at this
    refine this.mono ?_
    rintro e w' ⟨rfl, q, rfl⟩
    have hle := compact_le zs
    have h2 := own_putRow ho (ys := Lib.compact zs ++ List.replicate (n - (Lib.compact zs).length) 0) (by simp; omega) (Lib.compact zs).length (by omega) q #[]
    rw [List.take_left', Sort.grow_empty] at h2
    · exact ⟨_, _, rfl, h2.1, h2.2⟩
    · rfl

set_option maxRecDepth 100000 in
set_option maxHeartbeats 2000000 in
theorem cloneB_any (l : List ByteArray) (A : Option Addr) (cap : Nat) (w : World) (hR : Rd w A (l.flatMap enB)) (hl : l.length * 16 ≤ 140737488355328) :
    Calls Try.prog 51 #[.slice A l.length cap] w (NewRowOf enB 9 1 l w) := by
  obtain ⟨i0, hi, hz0, hz1, hz2⟩ := info_parts info_str12
  cases A with
  | none =>
    have hl0 : l = [] := by
      rcases hR with h | ⟨_, _, h, _⟩
      · cases l with
        | nil => rfl
        | cons x l => simp [enB] at h
      · cases h
    subst hl0
    have hnil : ∀ W, (binOp .eql 32 (.slice none 0 cap) (.slice none 0 0)).run Try.prog W = .ok (.bool true) W := fun W => Lib.run_eql_slice_nil_nil W _ _ Try.underlying32
    go_enter Try.func51, Try.ntmps51
    go_wp2_with fail
    go_ret
    exact ⟨none, 0, rfl, World.ownsRow_nil _ _ _ _, Below.refl _ _⟩
  | some a =>
    have ha : l = [] ∨ a.spot = none := by
      rcases hR with h | ⟨b, off, h, _⟩
      · left
        cases l with
        | nil => rfl
        | cons x l => simp [enB] at h
      · right; injection h with h; rw [h]
    have hR1 := hid (hR.below ((Below.refl w.heap.size w).alloc (Nat.le_refl _) (.cells #[] 9)))
    have hO := hid (show (w.alloc (.cells #[] 9)).ownsRow w.heap.size 9 1 (.slice (some ⟨w.heap.size, 0, none⟩) 0 0) 0 [] from ⟨rfl, .inr ⟨w.heap.size, 0, #[], rfl, Nat.le_refl _, heap_alloc_new w _, Nat.le_refl _, Nat.zero_le _, rfl, rfl⟩⟩)
    have hnil : ∀ W, (binOp .eql 32 (.slice (some a) l.length cap) (.slice none 0 0)).run Try.prog W = .ok (.bool false) W := fun W => Lib.run_eql_slice_some_nil W _ _ _ Try.underlying32
    clear hR
    go_enter Try.func51, Try.ntmps51
    go_wp2_with (first
      | (at_builtin; refine wpList_append_own _ rfl _ _ 32 rfl w.heap.size 9 i0 _ 1 16 Try.underlying32 hi hz0 hz1 hz2 rfl (by decide) _ 0 [] (by rfl) hO.out a l.length cap (l.flatMap enB) (by rfl) (length_flatMap_const enB 1 enB_len l) ?_ (enB_one l) (by unfold maxLen; omega) (by omega) (by simp) ?_))
    · intro j u hu
      rcases hR1.out with h0 | ⟨b', off', hA, hlt, hc⟩
      · rw [h0] at hu; simp at hu
      · simp only [Option.some.injEq] at hA
        subst hA
        rw [add_plain]
        exact hc j u hu
    · intro v' w' h2 h3 _
      obtain ⟨A', cap', rfl, _⟩ := own_slice h2
      have hbb := hid (((Below.refl w.heap.size w).alloc (Nat.le_refl _) (.cells #[] 9)).grown h3 (by simp) (fun k hk => by simp [Value.ownBlock] at hk; omega))
      go_wp2_with fail
      go_ret
      exact ⟨A', cap', rfl, h2, hbb.out⟩

set_option maxRecDepth 100000 in
set_option maxHeartbeats 2000000 in
theorem cloneI_any (l : List Int) (A : Option Addr) (cap : Nat) (w : World) (hR : Rd w A (l.flatMap en1)) (hl : l.length * 8 ≤ 140737488355328) :
    Calls Try.prog 35 #[.slice A l.length cap] w (NewRowOf en1 3 1 l w) := by
  obtain ⟨i0, hi, hz0, hz1, hz2⟩ := info_parts info_int12
  cases A with
  | none =>
    have hl0 : l = [] := by
      rcases hR with h | ⟨_, _, h, _⟩
      · cases l with
        | nil => rfl
        | cons x l => simp [en1] at h
      · cases h
    subst hl0
    have hnil : ∀ W, (binOp .eql 36 (.slice none 0 cap) (.slice none 0 0)).run Try.prog W = .ok (.bool true) W := fun W => Lib.run_eql_slice_nil_nil W _ _ Try.underlying36
    go_enter Try.func35, Try.ntmps35
    go_wp2_with fail
    go_ret
    exact ⟨none, 0, rfl, World.ownsRow_nil _ _ _ _, Below.refl _ _⟩
  | some a =>
    have hR1 := hid (hR.below ((Below.refl w.heap.size w).alloc (Nat.le_refl _) (.cells #[] 3)))
    have hO := hid (show (w.alloc (.cells #[] 3)).ownsRow w.heap.size 3 1 (.slice (some ⟨w.heap.size, 0, none⟩) 0 0) 0 [] from ⟨rfl, .inr ⟨w.heap.size, 0, #[], rfl, Nat.le_refl _, heap_alloc_new w _, Nat.le_refl _, Nat.zero_le _, rfl, rfl⟩⟩)
    have hnil : ∀ W, (binOp .eql 36 (.slice (some a) l.length cap) (.slice none 0 0)).run Try.prog W = .ok (.bool false) W := fun W => Lib.run_eql_slice_some_nil W _ _ _ Try.underlying36
    clear hR
    go_enter Try.func35, Try.ntmps35
    go_wp2_with (first
      | (at_builtin; refine wpList_append_own _ rfl _ _ 36 rfl w.heap.size 3 i0 _ 1 8 Try.underlying36 hi hz0 hz1 hz2 rfl (by decide) _ 0 [] (by rfl) hO.out a l.length cap (l.flatMap en1) (by rfl) (length_flatMap_const en1 1 en1_len l) ?_ (en1_one l) (by unfold maxLen; omega) (by omega) (by simp) ?_))
    · intro j u hu
      rcases hR1.out with h0 | ⟨b', off', hA, hlt, hc⟩
      · rw [h0] at hu; simp at hu
      · simp only [Option.some.injEq] at hA
        subst hA
        rw [add_plain]
        exact hc j u hu
    · intro v' w' h2 h3 _
      obtain ⟨A', cap', rfl, _⟩ := own_slice h2
      have hbb := hid (((Below.refl w.heap.size w).alloc (Nat.le_refl _) (.cells #[] 3)).grown h3 (by simp) (fun k hk => by simp [Value.ownBlock] at hk; omega))
      go_wp2_with fail
      go_ret
      exact ⟨A', cap', rfl, h2, hbb.out⟩

end Go.Proofs.Ytemhoaapapeilaa
