/-
  The law's own small functions: of (wakes$1), ints.
-/
import Derived.Test.YtemhoaapapeilaaBe12
import Derived.Deep.RegionWith
namespace Go.Proofs.Ytemhoaapapeilaa
open Go.RowKit Go.WideShapes Go.ChangeShapes Go.ChangeAt Go.Deep
set_option linter.unusedVariables false

theorem belowN (w : World) (n : Nat) : Below w.heap.size w (w.drewN n) := ⟨rfl, rfl, rfl, Nat.le_refl _, fun _ _ => rfl⟩
abbrev bN (x : UInt8) : ByteArray := ⟨#[x]⟩
abbrev holdB : ByteArray := ⟨#[99, 114, 101, 100, 105, 116, 46, 104, 111, 108, 100]⟩
abbrev relB : ByteArray := ⟨#[99, 114, 101, 100, 105, 116, 46, 114, 101, 108, 101, 97, 115, 101]⟩
def ofS (nm : ByteArray) (A : Option Addr) (cap : Nat) (l : List ByteArray) : Stp := ⟨nm, holdB, relB, ⟨#[]⟩, false, 0, 0, 0, A, cap, l⟩
def wkL (ga gb : Option Addr) : List Stp := [ofS (bN 97) ga 1 [bN 98], ofS (bN 98) none 0 [], ofS (bN 99) gb 1 [bN 97]]
theorem wkL_grf (ga gb : Option Addr) : grf (wkL ga gb) = [[1], [], [0]] := by
  show grf (wkL none none) = _
  decide +kernel
theorem wkL_ord (ga gb : Option Addr) : ordN (grf (wkL ga gb)) 3 = [1, 0, 2] := by
  rw [wkL_grf]
  decide +kernel
theorem adj_wk (i k : Nat) (h : k ∈ adj [[1], [], [0]] i) : (i = 0 ∧ k = 1) ∨ (i = 2 ∧ k = 0) := by
  match i, h with
  | 0, h => left; simpa [adj] using h
  | 1, h => simp [adj] at h
  | 2, h => right; simpa [adj] using h
  | n + 3, h => simp [adj] at h
theorem wk_acy : Acy [[1], [], [0]] := by
  have key : ∀ {i k : Nat}, Rch [[1], [], [0]] i k → (i = 0 ∧ k = 1) ∨ (i = 2 ∧ (k = 0 ∨ k = 1)) := by
    intro i k h
    induction h with
    | one h => rcases adj_wk _ _ h with ⟨rfl, rfl⟩ | ⟨rfl, rfl⟩ <;> simp
    | step h r ih =>
      rcases adj_wk _ _ h with ⟨rfl, rfl⟩ | ⟨rfl, rfl⟩
      · rcases ih with h | h <;> omega
      · rcases ih with h | h <;> omega
  intro i h
  rcases key h with h | h <;> omega
theorem wkL_check (ga gb : Option Addr) : checkN (wkL ga gb) = 0 := by
  rw [checkN_zero_iff, wkL_grf]
  refine ⟨⟨?_, ?_⟩, wk_acy, ?_, ?_⟩
  · show ([bN 97, bN 98, bN 99] : List ByteArray).Nodup
    decide +kernel
  · show ∀ s ∈ wkL ga gb, ∀ a ∈ s.after, a ∈ [bN 97, bN 98, bN 99]
    intro s hs a ha
    simp only [wkL, List.mem_cons, List.not_mem_nil, or_false] at hs
    rcases hs with rfl | rfl | rfl <;> simp [ofS] at ha <;> subst ha <;> simp
  · rintro ⟨i, s, hs, hf, _⟩
    have hs := List.mem_of_getElem? hs
    simp only [wkL, List.mem_cons, List.not_mem_nil, or_false] at hs
    rcases hs with rfl | rfl | rfl <;> simp [isFin, ofS] at hf
  · intro s hs
    simp only [wkL, List.mem_cons, List.not_mem_nil, or_false] at hs
    have h : ∀ nm A cap l, oneN (ofS nm A cap l) = 0 := fun nm A cap l => by
      show oneN (ofS ⟨#[]⟩ none 0 []) = 0
      decide +kernel
    rcases hs with rfl | rfl | rfl <;> exact h _ _ _ _

set_option maxRecDepth 100000 in
set_option maxHeartbeats 8000000 in
theorem of12_any (nm : ByteArray) (A : Option Addr) (n cap : Nat) (w : World) : Calls Try.prog 25 #[.string nm, .slice A n cap] w fun e w' => e = .returned (.agg #[.string nm, .string holdB, .string relB, .string ⟨#[]⟩, .bool false, .int .i64 0, .int .i64 0, .int .i64 0, .slice A n cap]) ∧ Below w.heap.size w w' := by
  have hwa : Below w.heap.size w (w.alloc (.cells #[.string ⟨#[]⟩, .string ⟨#[]⟩, .string ⟨#[]⟩, .string ⟨#[]⟩, .bool false, .int .i64 0, .int .i64 0, .int .i64 0, .slice none 0 0] 34)) := (Below.refl _ _).alloc (Nat.le_refl _) _
  have hB := Blk.new w 34 #[.string ⟨#[]⟩, .string ⟨#[]⟩, .string ⟨#[]⟩, .string ⟨#[]⟩, .bool false, .int .i64 0, .int .i64 0, .int .i64 0, .slice none 0 0]
  obtain ⟨W, hW⟩ : ∃ W, W = w.alloc (.cells #[.string ⟨#[]⟩, .string ⟨#[]⟩, .string ⟨#[]⟩, .string ⟨#[]⟩, .bool false, .int .i64 0, .int .i64 0, .int .i64 0, .slice none 0 0] 34) := ⟨_, rfl⟩
  obtain ⟨G, hG⟩ : ∃ G, G = w.heap.size := ⟨_, rfl⟩
  rw [← hW] at hwa hB
  rw [← hG] at hB
  have HWG := hid (And.intro hW hG)
  have HB := hid hB
  have hT5 := Touch.setRow W G #[.string nm, .string holdB, .string relB, .string ⟨#[]⟩, .bool false, .int .i64 0, .int .i64 0, .int .i64 0, .slice A n cap]
  have hC5 := hB.setRow #[.string nm, .string holdB, .string relB, .string ⟨#[]⟩, .bool false, .int .i64 0, .int .i64 0, .int .i64 0, .slice A n cap]
  have hb5 := hwa.trans (hT5.below hwa.size (fun k hk => by rw [hk]; omega))
  obtain ⟨w5, hw5⟩ : ∃ w5, w5 = W.setRow G #[.string nm, .string holdB, .string relB, .string ⟨#[]⟩, .bool false, .int .i64 0, .int .i64 0, .int .i64 0, .slice A n cap] := ⟨_, rfl⟩
  rw [← hw5] at hC5 hb5
  have HW5 := hid hw5
  have HF := hid hb5
  have r0 : w5.cell? ⟨G, 0, none⟩ = some (.string nm) := hC5.cell 0
  have r1 : w5.cell? ⟨G, 1, none⟩ = some (.string holdB) := hC5.cell 1
  have r2 : w5.cell? ⟨G, 2, none⟩ = some (.string relB) := hC5.cell 2
  have r3 : w5.cell? ⟨G, 3, none⟩ = some (.string ⟨#[]⟩) := hC5.cell 3
  have r4 : w5.cell? ⟨G, 4, none⟩ = some (.bool false) := hC5.cell 4
  have r5 : w5.cell? ⟨G, 5, none⟩ = some (.int .i64 0) := hC5.cell 5
  have r6 : w5.cell? ⟨G, 6, none⟩ = some (.int .i64 0) := hC5.cell 6
  have r7 : w5.cell? ⟨G, 7, none⟩ = some (.int .i64 0) := hC5.cell 7
  have r8 : w5.cell? ⟨G, 8, none⟩ = some (.slice A n cap) := hC5.cell 8
  have lG5 := hC5.lt
  clear hwa hB hW hG hT5 hC5 hb5 hw5
  go_enter Try.func25, Try.ntmps25
  go_upto_region 1 with fail
  rw [← HWG.out.1, ← HWG.out.2]
  go_wp2_with (first
    | (refine wpList_store_row rfl 34 _ _ rfl G #[.string nm, .string holdB, .string relB, .string ⟨#[]⟩, .bool false, .int .i64 0, .int .i64 0, .int .i64 0, .slice A n cap] rfl rfl 34 _ HB.out (by kernel_rfl) (by rfl) (by simp [Value.oneCell']) ?_; rw [← HW5.out]))
  refine bodyPost_ret (v := .agg #[.string nm, .string holdB, .string relB, .string ⟨#[]⟩, .bool false, .int .i64 0, .int .i64 0, .int .i64 0, .slice A n cap]) (by simp [results, Try.results25, go_sem, r0, r1, r2, r3, r4, r5, r6, r7, r8]) rfl ?_
  exact ⟨rfl, HF.out⟩

set_option maxRecDepth 100000 in
set_option maxHeartbeats 8000000 in
theorem ints12_any (xs ys : List Int) (A B : Option Addr) (ca cb : Nat) (w : World) (hA : Rd w A (xs.flatMap en1)) (hB : Rd w B (ys.flatMap en1)) (hl : xs.length ≤ 140737488355328) :
    Calls Try.prog 17 #[.slice A xs.length ca, .slice B ys.length cb] w fun e w' => e = .returned (.bool (decide (xs = ys))) ∧ Below w.heap.size w w' := by
  by_cases hxy : xs.length = ys.length
  · have HXY := hid hxy
    go_enter Try.func17, Try.ntmps17
    have tl : ((xs.length : Int) != (ys.length : Int)) = false := by simp; omega
    clear hxy
    go_wp2_with fail
    go_loopw [13] (fun i wr => ∃ k : Nat, k ≤ xs.length ∧ i = .int .i64 k ∧ Hid (∀ j : Nat, j < k → xs[j]? = ys[j]?) ∧ Below w.heap.size w wr) (fun i _ => xs.length - nOf i)
    case atStart => exact ⟨0, Nat.zero_le _, rfl, hid (fun j hj => by omega), Below.refl _ _⟩
    case round =>
      obtain ⟨k, hk, rfl, hP, hb⟩ := hrel
      by_cases hlt : k < xs.length
      · obtain ⟨x, hx⟩ : ∃ x, xs[k]? = some x := ⟨xs[k], List.getElem?_eq_getElem hlt⟩
        obtain ⟨y, hy⟩ : ∃ y, ys[k]? = some y := ⟨ys[k]'(by have := HXY.out; omega), List.getElem?_eq_getElem _⟩
        have hlt2 : k < ys.length := by have := HXY.out; omega
        obtain ⟨b, o, hAA, _, hcc⟩ := (hA.below hb).at_ 1 (fun _ => rfl) (by omega) hx
        obtain ⟨b2, o2, hBB, _, hcc2⟩ := (hB.below hb).at_ 1 (fun _ => rfl) (by omega) hy
        subst hAA
        subst hBB
        have q0 : wr.cell? ⟨b, o + k * 1, none⟩ = some (.int .i64 x) := hcc 0 _ rfl
        have q2 : wr.cell? ⟨b2, o2 + k * 1, none⟩ = some (.int .i64 y) := hcc2 0 _ rfl
        rw [Nat.mul_one] at q0 q2
        have HX := hid hx
        have HY := hid hy
        clear hcc hcc2 hx hy tl
        by_cases he : x = y
        · have te : (x != y) = false := by simpa using he
          have HE := hid he
          clear he
          go_wp2_with fail
          go_quiet (fail)
          go_wp2_with fail
          go_roundw
          case rel => exact ⟨k + 1, by omega, by go_num, hid (fun j hj => by
            by_cases e : j = k
            · subst e; rw [HX.out, HY.out, HE.out]
            · exact hP.out j (by omega)), bthen hb (belowN _ _)⟩
          case measure => simp [nOf]; omega
        · have te : (x != y) = true := by simpa using he
          have HV := hid (show decide (xs = ys) = false from by
            simp only [decide_eq_false_iff_not]
            intro e
            have h1 := HX.out
            rw [e, HY.out] at h1
            injection h1 with h1
            exact he h1.symm)
          clear he
          go_wp2_with fail
          go_quiet (fail)
          go_wp2_with fail
          go_ret
          exact ⟨by rw [HV.out]; rfl, bthen hb (belowN _ _)⟩
      · have HV := hid (show decide (xs = ys) = true from by
          simp only [decide_eq_true_eq]
          apply List.ext_getElem?
          intro j
          by_cases hj : j < xs.length
          · exact hP.out j (by omega)
          · rw [List.getElem?_eq_none (by omega), List.getElem?_eq_none (by have := HXY.out; omega)])
        go_wp2_with fail
        go_ret
        exact ⟨by rw [HV.out]; rfl, hb⟩
  · have HV := hid (show decide (xs = ys) = false from by
      simp only [decide_eq_false_iff_not]
      intro e
      exact hxy (by rw [e]))
    go_enter Try.func17, Try.ntmps17
    have tl : ((xs.length : Int) != (ys.length : Int)) = true := by simp; omega
    go_wp2_with fail
    go_ret
    exact ⟨by rw [HV.out]; rfl, Below.refl _ _⟩

end Go.Proofs.Ytemhoaapapeilaa
