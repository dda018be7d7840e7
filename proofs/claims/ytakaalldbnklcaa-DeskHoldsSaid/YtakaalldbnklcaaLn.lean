/-
  A row of stock lines: its words; slices.Clone; slices.ContainsFunc with the test of an equal item.
-/
import Derived.Test.YtakaalldbnklcaaPlc
import Derived.Test.YtakaalldbnklcaaAppend
import Derived.Test.YtakaalldbnklcaaIn
import Derived.Lib.BufferMore
namespace Go.Proofs.Ytakaalldbnklcaa
open Go.RowKit Go.WideShapes Go.ChangeShapes Go.ChangeAt Go.Deep
set_option linter.unusedVariables false

structure Ln where
  i : Int
  q : Int
instance : Inhabited Ln := ⟨⟨0, 0⟩⟩
def enL (x : Ln) : List Value := [.int .i64 x.i, .int .i64 x.q]
theorem enL_len (x : Ln) : (enL x).length = 2 := rfl
theorem enL_one (h : Ln) : ∀ v ∈ enL h, v.oneCell' = true := by
  intro v hv
  simp only [enL, List.mem_cons, List.not_mem_nil, or_false] at hv
  rcases hv with rfl | rfl <;> rfl
theorem enLs_one (l : List Ln) : ∀ v ∈ l.flatMap enL, v.oneCell' = true := fun v hv => by
  obtain ⟨x, _, hx⟩ := List.mem_flatMap.1 hv
  exact enL_one x v hx
theorem info_ln : (Try.prog.info? 45).map (fun i => (i.zero, i.size, i.bytes)) = some (some (.agg #[.int .i64 0, .int .i64 0]), 2, 16) := by kernel_rfl

set_option maxRecDepth 100000 in
theorem clone_nil (w : World) : Calls Try.prog 25 #[.slice none 0 0] w fun e w' => e = .returned (.slice none 0 0) ∧ w = w' := by
  have hnil : ∀ W, (binOp .eql 22 (.slice none 0 0) (.slice none 0 0)).run Try.prog W = .ok (.bool true) W := fun W => Lib.run_eql_slice_nil_nil W _ _ Try.underlying22
  go_enter Try.func25, Try.ntmps25
  go_wp2_with fail
  go_ret
  exact ⟨rfl, rfl⟩

set_option maxRecDepth 100000 in
set_option maxHeartbeats 2000000 in
theorem clone_some (l : List Ln) (b off cap : Nat) (w : World) (hR : Rd w (some ⟨b, off, none⟩) (l.flatMap enL)) (hl : l.length * 16 ≤ 140737488355328) :
    Calls Try.prog 25 #[.slice (some ⟨b, off, none⟩) l.length cap] w (NewRowOf enL 45 2 l w) := by
  obtain ⟨i0, hi, hz0, hz1, hz2⟩ := info_parts info_ln
  have hR1 := hid (hR.below ((Below.refl w.heap.size w).alloc (Nat.le_refl _) (.cells #[] 45)))
  have hO := hid (show (w.alloc (.cells #[] 45)).ownsRow w.heap.size 45 2 (.slice (some ⟨w.heap.size, 0, none⟩) 0 0) 0 [] from ⟨rfl, .inr ⟨w.heap.size, 0, #[], rfl, Nat.le_refl _, heap_alloc_new w _, Nat.le_refl _, Nat.zero_le _, rfl, rfl⟩⟩)
  have hnil : ∀ W, (binOp .eql 22 (.slice (some ⟨b, off, none⟩) l.length cap) (.slice none 0 0)).run Try.prog W = .ok (.bool false) W := fun W => Lib.run_eql_slice_some_nil W _ _ _ Try.underlying22
  clear hR
  go_enter Try.func25, Try.ntmps25
  go_wp2_with (first
    | (at_builtin; refine wpList_append_own _ rfl _ _ 22 rfl w.heap.size 45 i0 _ 2 16 Try.underlying22 hi hz0 hz1 hz2 rfl (by decide) _ 0 [] (by rfl) hO.out ⟨b, off, none⟩ l.length cap (l.flatMap enL) (by rfl) (length_flatMap_const enL 2 enL_len l) ?_ (enLs_one l) (by unfold maxLen; omega) (by omega) (by simp) ?_))
  · intro j u hu
    rcases hR1.out with h0 | ⟨b', off', hA, hlt, hc⟩
    · rw [h0] at hu; simp at hu
    · simp only [Option.some.injEq, Addr.mk.injEq, and_true] at hA
      obtain ⟨rfl, rfl⟩ := hA
      rw [add_plain]
      exact hc j u hu
  · intro v' w' h2 h3 _
    obtain ⟨A', cap', rfl, _⟩ := own_slice h2
    have hbb := hid (((Below.refl w.heap.size w).alloc (Nat.le_refl _) (.cells #[] 45)).grown h3 (by simp) (fun k hk => by simp [Value.ownBlock] at hk; omega))
    go_wp2_with fail
    go_ret
    exact ⟨A', cap', rfl, h2, hbb.out⟩

/-- Is there a line of this item? -/
def hasI (l : List Ln) (id : Int) : Bool := l.any fun x => x.i == id

set_option maxRecDepth 100000 in
set_option maxHeartbeats 4000000 in
theorem sameItem_any (x : Ln) (G : Nat) (id : Int) (w : World) (hG : w.cell? ⟨G, 0, none⟩ = some (.int .i64 id)) (hGl : G < w.heap.size) :
    Calls Try.prog 31 #[.agg #[.int .i64 x.i, .int .i64 x.q], .pointer (some ⟨G, 0, none⟩)] w fun e w' => e = .returned (.bool (x.i == id)) ∧ Below w.heap.size w w' := by
  obtain ⟨xi, xq⟩ := x
  go_enter Try.func31, Try.ntmps31
  go_wp2_with fail
  go_ret
  exact ⟨rfl, (Below.refl _ _).alloc (Nat.le_refl _) _⟩

set_option maxRecDepth 100000 in
set_option maxHeartbeats 4000000 in
theorem indexI_any (l : List Ln) (A : Option Addr) (cap G : Nat) (id : Int) (w : World) (hR : Rd w A (l.flatMap enL)) (hl : l.length ≤ 140737488355328) (hG : w.cell? ⟨G, 0, none⟩ = some (.int .i64 id)) (hGl : G < w.heap.size) :
    Calls Try.prog 45 #[.slice A l.length cap, .func (.func 31) #[] #[.pointer (some ⟨G, 0, none⟩)]] w fun e w' => e = .returned (.int .i64 (plc (fun x : Ln => x.i == id) l)) ∧ Below w.heap.size w w' := by
  go_enter Try.func45, Try.ntmps45
  go_wp2_with fail
  go_loopw [8] (fun i wr => ∃ k : Nat, k ≤ l.length ∧ i = .int .i64 k ∧ Hid (∀ j y, j < k → l[j]? = some y → (y.i == id) = false) ∧ Below w.heap.size w wr) (fun i _ => l.length - nOf i)
  case atStart => exact ⟨0, Nat.zero_le _, rfl, hid (fun j y hj => by omega), Below.refl _ _⟩
  case round =>
    obtain ⟨k, hk, rfl, hP, hb⟩ := hrel
    by_cases hlt : k < l.length
    · obtain ⟨y, hy⟩ : ∃ y, l[k]? = some y := ⟨l[k], List.getElem?_eq_getElem hlt⟩
      obtain ⟨b, off, rfl, hbs, hcc⟩ := (hR.below hb).at_ 2 enL_len (by omega) hy
      have q0 : wr.cell? ⟨b, off + k * 2, none⟩ = some (.int .i64 y.i) := hcc 0 _ rfl
      have q1 : wr.cell? ⟨b, off + k * 2 + 1, none⟩ = some (.int .i64 y.q) := hcc 1 _ rfl
      have K := hid (sameItem_any y G id wr ((hb.cell (p := ⟨G, 0, none⟩) hGl).trans hG) (Nat.lt_of_lt_of_le hGl hb.size))
      have HY := hid hy
      clear hcc hy
      by_cases e : (y.i == id) = true
      · have HV := hid (plc_some (p := fun x : Ln => x.i == id) HY.out e hP.out)
        have HE := hid e
        clear e
        go_wp2_with (first | (go_at_call 31; refine K.out.mono ?_; rintro e w5 ⟨rfl, hb5⟩; have HE := HE.out))
        go_ret
        rw [HV.out]
        exact ⟨rfl, bthen hb hb5⟩
      · have e : (y.i == id) = false := by simpa using e
        have HE := hid e
        clear e
        go_wp2_with (first | (go_at_call 31; refine K.out.mono ?_; rintro e w5 ⟨rfl, hb5⟩; have HE2 := HE.out))
        go_roundw
        case rel => exact ⟨k + 1, by omega, by go_num, hid (fun j z hj hz => by
          by_cases e : j = k
          · subst e; rw [HY.out] at hz; injection hz with hz; subst hz; exact HE.out
          · exact hP.out j z (by omega) hz), bthen hb hb5⟩
        case measure => simp [nOf]; omega
    · have HV := hid (plc_none (p := fun x : Ln => x.i == id) (l := l) (fun y hy => by
        obtain ⟨j, hj⟩ := List.mem_iff_getElem?.1 hy
        exact hP.out j y (by have := (List.getElem?_eq_some_iff.1 hj).1; omega) hj))
      clear hP hk
      go_wp2_with fail
      go_ret
      rw [HV.out]
      exact ⟨rfl, hb⟩

theorem hasI_plc (l : List Ln) (id : Int) : hasI l id = decide (0 ≤ plc (fun x : Ln => x.i == id) l) := by
  unfold hasI
  rcases plc_cases (fun x : Ln => x.i == id) l with ⟨k, y, hk, hy, hp, he⟩ | ⟨hn, he⟩
  · rw [he, List.any_eq_true.2 ⟨y, List.mem_of_getElem? hy, hp⟩]
    simp
  · rw [he]
    cases h : l.any fun x => x.i == id with
    | false => rfl
    | true =>
      obtain ⟨y, hy, hp⟩ := List.any_eq_true.1 h
      rw [hn y hy] at hp
      cases hp

set_option maxRecDepth 100000 in
set_option maxHeartbeats 4000000 in
theorem containsI_any (l : List Ln) (A : Option Addr) (cap G : Nat) (id : Int) (w : World) (hR : Rd w A (l.flatMap enL)) (hl : l.length ≤ 140737488355328) (hG : w.cell? ⟨G, 0, none⟩ = some (.int .i64 id)) (hGl : G < w.heap.size) :
    Calls Try.prog 30 #[.slice A l.length cap, .func (.func 31) #[] #[.pointer (some ⟨G, 0, none⟩)]] w fun e w' => e = .returned (.bool (hasI l id)) ∧ Below w.heap.size w w' := by
  have K := hid (indexI_any l A cap G id w hR hl hG hGl)
  have HH := hid (hasI_plc l id)
  go_enter Try.func30, Try.ntmps30
  go_wp2_with (first | (go_at_call 45; refine K.out.mono ?_; rintro e w5 ⟨rfl, hb5⟩))
  go_ret
  rw [HH.out]
  exact ⟨rfl, hb5⟩

end Go.Proofs.Ytakaalldbnklcaa
