/-
  Contracts of bill's postings: lists of pairs (account, amount) without those whose amount is 0.
-/
import Derived.Test.YtphkhcndmmbbmaaBill
namespace Go.Proofs.Ytphkhcndmmbbmaa
open Go.RowKit Go.WideShapes

theorem info_entry : (Try.prog.info? 41).map (fun i => (i.zero, i.size, i.bytes)) = some (some (.agg #[.int .i64 0, .int .i64 0]), 2, 16) := by kernel_rfl

/-- What is left of entries: those whose amount is not 0. -/
def some0 (l : List (Int × Int)) : List (Int × Int) := l.filter fun x => x.2 != 0

theorem en2_one (l : List (Int × Int)) : ∀ u ∈ l.flatMap en2, u.oneCell' = true := by
  intro u hu
  obtain ⟨x, _, hx⟩ := List.mem_flatMap.1 hu
  simp only [en2, List.mem_cons, List.not_mem_nil, or_false] at hx
  rcases hx with rfl | rfl <;> rfl

theorem Rd.of_own {w : World} {base : Nat} {e : TypeId} {size : Nat} {v : Value} {n : Nat} {xs : List Value} (h : w.ownsRow base e size v n xs) : ∃ A cap, v = .slice A n cap ∧ Rd w A xs := by
  have h0 := h
  obtain ⟨hl, h1 | ⟨g, cap, cur, rfl, _, hh, hn, _⟩⟩ := h
  · obtain ⟨rfl, rfl⟩ := h1
    exact ⟨none, 0, rfl, .inl (List.eq_nil_of_length_eq_zero (by simpa using hl))⟩
  · refine ⟨_, cap, rfl, ?_⟩
    rcases xs with _ | ⟨x, xs⟩
    · exact .inl rfl
    · have hlt := (h0.lt g rfl).2
      refine .inr ⟨g, 0, rfl, hlt, fun j u hu => ?_⟩
      have := h0.cells (g := g) rfl j u hu
      rw [add_plain] at this
      exact this

set_option maxHeartbeats 400000 in
theorem posting_any (es : List (Int × Int)) (A : Option Addr) (cap : Nat) (w : World) (hn : es.length ≤ 100) (hL : Rd w A (es.flatMap en2)) :
    Calls Try.prog 23 #[.slice A es.length cap] w fun e w' => ∃ A' cap', e = .returned (.slice A' (some0 es).length cap') ∧ Rd w' A' ((some0 es).flatMap en2) ∧ Below w.heap.size w w' := by
  obtain ⟨i0, hi, hz0, hz1, hz2⟩ := info_parts info_entry
  go_enter Try.func23, Try.ntmps23
  go_wp2
  go_loopw [3, 8] (fun v i wr => ∃ k : Nat, k ≤ es.length ∧ i = .int .i64 k ∧ wr.ownsRow w.heap.size 41 2 v (some0 (es.take k)).length ((some0 (es.take k)).flatMap en2) ∧ Below w.heap.size w wr) (fun _ i _ => es.length - (intOf i).toNat)
  case atStart => exact ⟨0, Nat.zero_le _, rfl, World.ownsRow_nil _ _ _ _, Below.refl _ _⟩
  case round =>
    obtain ⟨k, hk, rfl, hown, hb⟩ := hrel
    by_cases hlt : k < es.length
    · obtain ⟨x, hx⟩ : ∃ x, es[k]? = some x := ⟨es[k], List.getElem?_eq_getElem hlt⟩
      obtain ⟨b, off, rfl, hbs, hc⟩ := hL.at_ 2 en2_len (by omega) hx
      have hq := hc 0 _ rfl
      have hp := hc 1 _ rfl
      rw [← hb.cell (p := ⟨b, _, none⟩) hbs] at hq hp
      simp only [Nat.add_zero] at hq
      clear hc hL
      have HS := hid (take_snoc hx)
      have hml : (some0 (es.take k)).length ≤ 100 := Nat.le_trans (List.length_filter_le _ _) (by simp; omega)
      by_cases h0 : x.2 = 0
      · have hb0 : (x.2 != 0) = false := by simp [h0]
        have HK : Hid (some0 (es.take (k + 1)) = some0 (es.take k)) := hid (by rw [HS.out]; simp [some0, h0])
        clear h0
        go_wp2
        go_roundw
        case rel => exact ⟨k + 1, by omega, by go_num, by rw [HK.out]; exact hown.alloc _, hb.alloc hb.size _⟩
        case measure => simp [intOf]; omega
      · have hb0 : (x.2 != 0) = true := by simp [h0]
        have HK : Hid (some0 (es.take (k + 1)) = some0 (es.take k) ++ [x]) := hid (by rw [HS.out]; simp [some0, h0])
        clear h0
        go_wp2_with (first
          | (at_builtin; refine wpList_append_own _ rfl _ _ 36 rfl w.heap.size 41 i0 _ 2 16 Try.underlying36 hi hz0 hz1 hz2 rfl (by decide) _ _ _ rfl ((hown.alloc _).alloc _) ⟨wr.heap.size + 1, 0, none⟩ 1 1 (en2 x) rfl rfl ?c1 ?c2 ?c3 ?c4 ?c5 ?_))
        case c1 =>
          intro j u hj
          match j, hj with
          | 0, hj => simp [en2] at hj; subst hj; simp [Addr.add]
          | 1, hj => simp [en2] at hj; subst hj; simp [Addr.add]
        case c2 => intro u hu; simp [en2] at hu; rcases hu with rfl | rfl <;> rfl
        case c3 => unfold maxLen; omega
        case c4 => omega
        case c5 => have := hb.size; simp; omega
        intro v' w1 hown' hgrow _
        go_wp2
        go_roundw
        case rel =>
          refine ⟨k + 1, by omega, by go_num, ?_, ?_⟩
          · rw [HK.out]; simpa using hown'
          · exact ((hb.alloc hb.size _).alloc (by have := hb.size; simp; omega) _).grown hgrow (by have := hb.size; simp; omega) (fun g hg => (hown.lt g hg).1)
        case measure => simp [intOf]; omega
    · have hk' : k = es.length := by omega
      subst hk'
      rw [List.take_length] at hown
      go_wp2
      go_ret
      obtain ⟨A', cap', rfl, hR⟩ := Rd.of_own hown
      exact ⟨A', cap', rfl, hR, hb⟩

end Go.Proofs.Ytphkhcndmmbbmaa
