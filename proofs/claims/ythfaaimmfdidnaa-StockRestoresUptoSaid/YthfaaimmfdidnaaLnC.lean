/-
  A row of stock lines: its words; slices.Clone; slices.ContainsFunc with any closure that tests (its number and what it holds are letters).
-/
import Derived.Test.YthfaaimmfdidnaaPlc
import Derived.Test.YthfaaimmfdidnaaAppend
import Derived.Test.YthfaaimmfdidnaaIn
import Derived.Lib.BufferMore
namespace Go.Proofs.Ythfaaimmfdidnaa
open Go.RowKit Go.WideShapes Go.ChangeShapes Go.ChangeAt Go.Deep
set_option linter.unusedVariables false

structure Ln where
  i : Int
  q : Int
instance : Inhabited Ln := ⟨⟨0, 0⟩⟩
def enL (x : Ln) : List Value := [.int .i64 x.i, .int .i64 x.q]
theorem enL_len (x : Ln) : (enL x).length = 2 := rfl
theorem enL_one (h : Ln) : ∀ v ∈ enL h, v.oneCell' = true := by
  intro v hv
  simp only [enL, List.mem_cons, List.not_mem_nil, or_false] at hv
  rcases hv with rfl | rfl <;> rfl
theorem enLs_one (l : List Ln) : ∀ v ∈ l.flatMap enL, v.oneCell' = true := fun v hv => by
  obtain ⟨x, _, hx⟩ := List.mem_flatMap.1 hv
  exact enL_one x v hx
theorem info_ln : (Try.prog.info? 33).map (fun i => (i.zero, i.size, i.bytes)) = some (some (.agg #[.int .i64 0, .int .i64 0]), 2, 16) := by kernel_rfl

set_option maxRecDepth 100000 in
theorem clone_nil (w : World) : Calls Try.prog 28 #[.slice none 0 0] w fun e w' => e = .returned (.slice none 0 0) ∧ w = w' := by
  have hnil : ∀ W, (binOp .eql 31 (.slice none 0 0) (.slice none 0 0)).run Try.prog W = .ok (.bool true) W := fun W => Lib.run_eql_slice_nil_nil W _ _ Try.underlying31
  go_enter Try.func28, Try.ntmps28
  go_wp2_with fail
  go_ret
  exact ⟨rfl, rfl⟩

set_option maxRecDepth 100000 in
set_option maxHeartbeats 2000000 in
theorem clone_some (l : List Ln) (b off cap : Nat) (w : World) (hR : Rd w (some ⟨b, off, none⟩) (l.flatMap enL)) (hl : l.length * 16 ≤ 140737488355328) :
    Calls Try.prog 28 #[.slice (some ⟨b, off, none⟩) l.length cap] w (NewRowOf enL 33 2 l w) := by
  obtain ⟨i0, hi, hz0, hz1, hz2⟩ := info_parts info_ln
  have hR1 := hid (hR.below ((Below.refl w.heap.size w).alloc (Nat.le_refl _) (.cells #[] 33)))
  have hO := hid (show (w.alloc (.cells #[] 33)).ownsRow w.heap.size 33 2 (.slice (some ⟨w.heap.size, 0, none⟩) 0 0) 0 [] from ⟨rfl, .inr ⟨w.heap.size, 0, #[], rfl, Nat.le_refl _, heap_alloc_new w _, Nat.le_refl _, Nat.zero_le _, rfl, rfl⟩⟩)
  have hnil : ∀ W, (binOp .eql 31 (.slice (some ⟨b, off, none⟩) l.length cap) (.slice none 0 0)).run Try.prog W = .ok (.bool false) W := fun W => Lib.run_eql_slice_some_nil W _ _ _ Try.underlying31
  clear hR
  go_enter Try.func28, Try.ntmps28
  go_wp2_with (first
    | (at_builtin; refine wpList_append_own _ rfl _ _ 31 rfl w.heap.size 33 i0 _ 2 16 Try.underlying31 hi hz0 hz1 hz2 rfl (by decide) _ 0 [] (by rfl) hO.out ⟨b, off, none⟩ l.length cap (l.flatMap enL) (by rfl) (length_flatMap_const enL 2 enL_len l) ?_ (enLs_one l) (by unfold maxLen; omega) (by omega) (by simp) ?_))
  · intro j u hu
    rcases hR1.out with h0 | ⟨b', off', hA, hlt, hc⟩
    · rw [h0] at hu; simp at hu
    · simp only [Option.some.injEq, Addr.mk.injEq, and_true] at hA
      obtain ⟨rfl, rfl⟩ := hA
      rw [add_plain]
      exact hc j u hu
  · intro v' w' h2 h3 _
    obtain ⟨A', cap', rfl, _⟩ := own_slice h2
    have hbb := hid (((Below.refl w.heap.size w).alloc (Nat.le_refl _) (.cells #[] 33)).grown h3 (by simp) (fun k hk => by simp [Value.ownBlock] at hk; omega))
    go_wp2_with fail
    go_ret
    exact ⟨A', cap', rfl, h2, hbb.out⟩

theorem has_plc (p : Ln → Bool) (l : List Ln) : l.any p = decide (0 ≤ plc p l) := by
  rcases plc_cases p l with ⟨k, y, hk, hy, hp, he⟩ | ⟨hn, he⟩
  · rw [he, List.any_eq_true.2 ⟨y, List.mem_of_getElem? hy, hp⟩]
    simp
  · rw [he]
    cases h : l.any p with
    | false => rfl
    | true =>
      obtain ⟨y, hy, hp⟩ := List.any_eq_true.1 h
      rw [hn y hy] at hp
      cases hp

/-- What a test tells of each line, at every world from w on. -/
def TestsL (N : FuncId) (v : Value) (p : Ln → Bool) (l : List Ln) (w : World) : Prop := ∀ x ∈ l, ∀ w', Below w.heap.size w w' → Calls Try.prog N #[.agg #[.int .i64 x.i, .int .i64 x.q], v] w' fun e w'' => e = .returned (.bool (p x)) ∧ Below w'.heap.size w' w''

set_option maxRecDepth 100000 in
set_option maxHeartbeats 4000000 in
theorem indexF_any (l : List Ln) (A : Option Addr) (cap : Nat) (N : FuncId) (v : Value) (p : Ln → Bool) (w : World) (hR : Rd w A (l.flatMap enL)) (hl : l.length ≤ 140737488355328) (hN : ∀ (args : Array Value) (w : World), (callFunc N args).run Try.prog w = .ok (.enter N args) w) (hT : TestsL N v p l w) :
    Calls Try.prog 56 #[.slice A l.length cap, .func (.func N) #[] #[v]] w fun e w' => e = .returned (.int .i64 (plc p l)) ∧ Below w.heap.size w w' := by
  have HT := hid hT
  clear hT
  go_enter Try.func56, Try.ntmps56
  go_wp2_with fail
  go_loopw [8] (fun i wr => ∃ k : Nat, k ≤ l.length ∧ i = .int .i64 k ∧ Hid (∀ j y, j < k → l[j]? = some y → p y = false) ∧ Below w.heap.size w wr) (fun i _ => l.length - nOf i)
  case atStart => exact ⟨0, Nat.zero_le _, rfl, hid (fun j y hj => by omega), Below.refl _ _⟩
  case round =>
    obtain ⟨k, hk, rfl, hP, hb⟩ := hrel
    by_cases hlt : k < l.length
    · obtain ⟨y, hy⟩ : ∃ y, l[k]? = some y := ⟨l[k], List.getElem?_eq_getElem hlt⟩
      obtain ⟨b, off, rfl, hbs, hcc⟩ := (hR.below hb).at_ 2 enL_len (by omega) hy
      have q0 : wr.cell? ⟨b, off + k * 2, none⟩ = some (.int .i64 y.i) := hcc 0 _ rfl
      have q1 : wr.cell? ⟨b, off + k * 2 + 1, none⟩ = some (.int .i64 y.q) := hcc 1 _ rfl
      have K := hid (HT.out y (List.mem_of_getElem? hy) wr hb)
      have HY := hid hy
      clear hcc hy
      cases e : p y with
      | true =>
        rw [e] at K
        have HV := hid (plc_some (p := p) HY.out e hP.out)
        have HE := hid e
        clear e
        go_wp2_with fail
        refine K.out.mono ?_
        rintro e w5 ⟨rfl, hb5⟩
        go_wp2_with fail
        go_ret
        rw [HV.out]
        exact ⟨rfl, bthen hb hb5⟩
      | false =>
        rw [e] at K
        have HE := hid e
        clear e
        go_wp2_with fail
        refine K.out.mono ?_
        rintro e w5 ⟨rfl, hb5⟩
        go_wp2_with fail
        go_roundw
        case rel => exact ⟨k + 1, by omega, by go_num, hid (fun j z hj hz => by
          by_cases e : j = k
          · subst e; rw [HY.out] at hz; injection hz with hz; subst hz; exact HE.out
          · exact hP.out j z (by omega) hz), bthen hb hb5⟩
        case measure => simp [nOf]; omega
    · have HV := hid (plc_none (p := p) (l := l) (fun y hy => by
        obtain ⟨j, hj⟩ := List.mem_iff_getElem?.1 hy
        exact hP.out j y (by have := (List.getElem?_eq_some_iff.1 hj).1; omega) hj))
      clear hP hk
      go_wp2_with fail
      go_ret
      rw [HV.out]
      exact ⟨rfl, hb⟩

set_option maxRecDepth 100000 in
set_option maxHeartbeats 4000000 in
theorem containsF_any (l : List Ln) (A : Option Addr) (cap : Nat) (N : FuncId) (v : Value) (p : Ln → Bool) (w : World) (hR : Rd w A (l.flatMap enL)) (hl : l.length ≤ 140737488355328) (hN : ∀ (args : Array Value) (w : World), (callFunc N args).run Try.prog w = .ok (.enter N args) w) (hT : TestsL N v p l w) :
    Calls Try.prog 26 #[.slice A l.length cap, .func (.func N) #[] #[v]] w fun e w' => e = .returned (.bool (l.any p)) ∧ Below w.heap.size w w' := by
  have K := hid (indexF_any l A cap N v p w hR hl hN hT)
  have HH := hid (has_plc p l)
  clear hT
  go_enter Try.func26, Try.ntmps26
  go_wp2_with fail
  refine K.out.mono ?_
  rintro e w5 ⟨rfl, hb5⟩
  go_wp2_with fail
  go_ret
  rw [HH.out]
  exact ⟨rfl, hb5⟩

end Go.Proofs.Ythfaaimmfdidnaa
