/-
  Contracts of bill's postings, as entries of a ledger: those whose amount is not 0, in a row of the call's own.
-/
import Derived.Test.YthdmbbfppgenlaaGreatLedPost
import Derived.RegionTactic
namespace Go.Proofs.YthdmbbfppgenlaaGreat
open Go.RowKit Go.WideShapes Go.ChangeShapes Go.ChangeAt Go.Deep
set_option linter.unusedVariables false

theorem takeE_snoc {α : Type} {l : List α} {k : Nat} {x : α} (h : l[k]? = some x) : l.take (k + 1) = l.take k ++ [x] := by rw [List.take_add_one, h]; rfl
theorem info_entry : (Tryz.prog.info? 84).map (fun i => (i.zero, i.size, i.bytes)) = some (some (.agg #[.int .i64 0, .int .i64 0]), 2, 16) := by kernel_rfl

/-- What is left of entries: those whose amount is not 0. -/
def some0 (l : List En) : List En := l.filter fun x => x.n != 0

theorem Rd.of_own {w : World} {base : Nat} {e : TypeId} {size : Nat} {v : Value} {n : Nat} {xs : List Value} (h : w.ownsRow base e size v n xs) : ∃ A cap, v = .slice A n cap ∧ Rd w A xs ∧ ∀ b, A.map (·.block) = some b → base ≤ b := by
  have h0 := h
  obtain ⟨hl, h1 | ⟨g, cap, cur, rfl, _, hh, hn, _⟩⟩ := h
  · obtain ⟨rfl, rfl⟩ := h1
    exact ⟨none, 0, rfl, .inl (List.eq_nil_of_length_eq_zero (by simpa using hl)), fun b hb => by cases hb⟩
  · refine ⟨_, cap, rfl, ?_, fun b hb => ?_⟩
    · rcases xs with _ | ⟨x, xs⟩
      · exact .inl rfl
      · have hlt := (h0.lt g rfl).2
        refine .inr ⟨g, 0, rfl, hlt, fun j u hu => ?_⟩
        have := h0.cells (g := g) rfl j u hu
        rw [add_plain] at this
        exact this
    · simp at hb
      subst hb
      exact (h0.lt g rfl).1

set_option maxHeartbeats 400000 in
theorem posting_any (es : List En) (A : Option Addr) (cap : Nat) (w : World) (hn : es.length ≤ 100) (hL : Rd w A (es.flatMap enE)) :
    Calls Tryz.prog 53 #[.slice A es.length cap] w fun e w' => ∃ A' cap', e = .returned (.slice A' (some0 es).length cap') ∧ Rd w' A' ((some0 es).flatMap enE) ∧ (∀ b, A'.map (·.block) = some b → w.heap.size ≤ b) ∧ Below w.heap.size w w' := by
  obtain ⟨i0, hi, hz0, hz1, hz2⟩ := info_parts info_entry
  go_enter Tryz.func53, Tryz.ntmps53
  go_wp2
  go_loopw [3, 8] (fun v i wr => ∃ k : Nat, k ≤ es.length ∧ i = .int .i64 k ∧ wr.ownsRow w.heap.size 84 2 v (some0 (es.take k)).length ((some0 (es.take k)).flatMap enE) ∧ Below w.heap.size w wr) (fun _ i _ => es.length - (intOf i).toNat)
  case atStart => exact ⟨0, Nat.zero_le _, rfl, World.ownsRow_nil _ _ _ _, Below.refl _ _⟩
  case round =>
    obtain ⟨k, hk, rfl, hown, hb⟩ := hrel
    by_cases hlt : k < es.length
    · obtain ⟨x, hx⟩ : ∃ x, es[k]? = some x := ⟨es[k], List.getElem?_eq_getElem hlt⟩
      obtain ⟨b, off, rfl, hbs, hc⟩ := hL.at_ 2 enE_len (by omega) hx
      have hq := hc 0 _ rfl
      have hp := hc 1 _ rfl
      rw [← hb.cell (p := ⟨b, _, none⟩) hbs] at hq hp
      simp only [Nat.add_zero] at hq
      clear hc hL
      have HS := hid (takeE_snoc hx)
      have hml : (some0 (es.take k)).length ≤ 100 := Nat.le_trans (List.length_filter_le _ _) (by simp; omega)
      by_cases h0 : x.n = 0
      · have hb0 : (x.n != 0) = false := by simp [h0]
        have HK : Hid (some0 (es.take (k + 1)) = some0 (es.take k)) := hid (by rw [HS.out]; simp [some0, h0])
        clear h0
        go_wp2
        go_roundw
        case rel => exact ⟨k + 1, by omega, by go_num, by rw [HK.out]; exact hown.alloc _, hb.alloc hb.size _⟩
        case measure => simp [intOf]; omega
      · have hb0 : (x.n != 0) = true := by simp [h0]
        have HK : Hid (some0 (es.take (k + 1)) = some0 (es.take k) ++ [x]) := hid (by rw [HS.out]; simp [some0, h0])
        clear h0
        go_wp2_with (first
          | (at_builtin; refine wpList_append_own _ rfl _ _ 68 rfl w.heap.size 84 i0 _ 2 16 Tryz.underlying68 hi hz0 hz1 hz2 rfl (by decide) _ _ _ rfl ((hown.alloc _).alloc _) ⟨wr.heap.size + 1, 0, none⟩ 1 1 (enE x) rfl rfl ?c1 ?c2 ?c3 ?c4 ?c5 ?_))
        case c1 =>
          intro j u hj
          match j, hj with
          | 0, hj => simp [enE] at hj; subst hj; simp [Addr.add]
          | 1, hj => simp [enE] at hj; subst hj; simp [Addr.add]
        case c2 => intro u hu; simp [enE] at hu; rcases hu with rfl | rfl <;> rfl
        case c3 => unfold maxLen; omega
        case c4 => omega
        case c5 => have := hb.size; simp; omega
        intro v' w1 hown' hgrow _
        go_wp2
        go_roundw
        case rel =>
          refine ⟨k + 1, by omega, by go_num, ?_, ?_⟩
          · rw [HK.out]; simpa using hown'
          · exact ((hb.alloc hb.size _).alloc (by have := hb.size; simp; omega) _).grown hgrow (by have := hb.size; simp; omega) (fun g hg => (hown.lt g hg).1)
        case measure => simp [intOf]; omega
    · have hk' : k = es.length := by omega
      subst hk'
      rw [List.take_length] at hown
      go_wp2
      go_ret
      obtain ⟨A', cap', rfl, hR, hlo⟩ := Rd.of_own hown
      exact ⟨A', cap', rfl, hR, hlo, hb⟩

theorem Rd.new (w : World) (cs : Array Value) (t : TypeId) : Rd (w.alloc (.cells cs t)) (some ⟨w.heap.size, 0, none⟩) cs.toList := by
  refine .inr ⟨w.heap.size, 0, rfl, by simp, fun j u hu => ?_⟩
  rw [cell_of_row _ _ _ cs t (0, 0) (heap_alloc_new w _)]
  simpa using hu

theorem Rd.new' (w : World) (cs : Array Value) (t : TypeId) (n : Nat) (h : n = w.heap.size) : Rd (w.alloc (.cells cs t)) (some ⟨n, 0, none⟩) cs.toList := by
  subst h; exact Rd.new w cs t

/-- What a posting leaves: a slice that reads as these entries. -/
def Posts (es : List En) (w : World) (e : Ending) (w' : World) : Prop :=
  ∃ A cap, e = .returned (.slice A (some0 es).length cap) ∧ Rd w' A ((some0 es).flatMap enE) ∧ (∀ b, A.map (·.block) = some b → w.heap.size ≤ b) ∧ Below w.heap.size w w'

theorem posting_n (es : List En) (n : Nat) (A : Option Addr) (cap : Nat) (w : World) (h : es.length = n) (hn : n ≤ 100) (hL : Rd w A (es.flatMap enE)) :
    Calls Tryz.prog 53 #[.slice A n cap] w (Posts es w) := by
  subst h
  exact posting_any es A cap w hn hL

def moveL (ta fr n : Int) : List En := [⟨ta, n⟩, ⟨fr, wrap64 (-n)⟩]
def invoiceL (n t : Int) : List En := [⟨1, wrap64 (n + t)⟩, ⟨2, wrap64 (-n)⟩, ⟨3, wrap64 (-t)⟩]
def memoL (n t a r : Int) : List En := [⟨2, n⟩, ⟨3, t⟩, ⟨1, wrap64 (wrap64 (wrap64 (a + r) - n) - t)⟩, ⟨4, wrap64 (-a)⟩, ⟨5, wrap64 (-r)⟩]

theorem Posts.of {es : List En} {w w1 w2 : World} {e : Ending} (h : Posts es w1 e w2) (hb : Below w.heap.size w w1) : Posts es w e w2 := by
  obtain ⟨A, cap, h1, h2, h4, h3⟩ := h
  exact ⟨A, cap, h1, h2, fun b hbb => Nat.le_trans hb.size (h4 b hbb), hb.trans (h3.mono hb.size)⟩

set_option maxHeartbeats 400000 in
theorem move_any (ta fr n : Int) (w : World) : Calls Tryz.prog 56 #[.int .i64 ta, .int .i64 fr, .int .i64 n] w (Posts (moveL ta fr n) w) := by
  go_enter Tryz.func56, Tryz.ntmps56
  go_wp2_with fail
  refine (posting_n (moveL ta fr n) 2 _ _ _ rfl (by omega) (Rd.new _ _ _)).mono ?_
  rintro e w' ⟨A, cap, rfl, hR, hlo, hb⟩
  go_wp2
  go_ret
  exact ⟨A, cap, rfl, hR, fun b hbb => by have := hlo b hbb; simp at this; omega, ((Below.refl _ _).alloc (Nat.le_refl _) _).trans (hb.mono (by simp))⟩

set_option maxHeartbeats 400000 in
theorem invoice_any (n t : Int) (w : World) : Calls Tryz.prog 26 #[.int .i64 n, .int .i64 t] w (Posts (invoiceL n t) w) := by
  go_enter Tryz.func26, Tryz.ntmps26
  go_wp2_with fail
  refine (posting_n (invoiceL n t) 3 _ _ _ rfl (by omega) (Rd.new _ _ _)).mono ?_
  rintro e w' ⟨A, cap, rfl, hR, hlo, hb⟩
  go_wp2
  go_ret
  exact ⟨A, cap, rfl, hR, fun b hbb => by have := hlo b hbb; simp at this; omega, ((Below.refl _ _).alloc (Nat.le_refl _) _).trans (hb.mono (by simp))⟩

set_option maxHeartbeats 400000 in
theorem memo_any (n t a r : Int) (w : World) : Calls Tryz.prog 34 #[.int .i64 n, .int .i64 t, .int .i64 a, .int .i64 r] w (Posts (memoL n t a r) w) := by
  go_enter Tryz.func34, Tryz.ntmps34
  go_wp2_with fail
  refine (posting_n (memoL n t a r) 5 _ _ _ rfl (by omega) (Rd.new _ _ _)).mono ?_
  rintro e w' ⟨A, cap, rfl, hR, hlo, hb⟩
  go_wp2
  go_ret
  exact ⟨A, cap, rfl, hR, fun b hbb => by have := hlo b hbb; simp at this; omega, ((Below.refl _ _).alloc (Nat.le_refl _) _).trans (hb.mono (by simp))⟩

set_option maxHeartbeats 400000 in
theorem receipt_any (n : Int) (w : World) : Calls Tryz.prog 28 #[.int .i64 n] w (Posts (moveL 0 4 n) w) := by
  go_enter Tryz.func28, Tryz.ntmps28
  go_wp2_with fail
  refine (move_any _ _ _ _).mono ?_
  rintro e w' ⟨A, cap, rfl, hR, hlo, hb⟩
  go_wp2
  go_ret
  exact ⟨A, cap, rfl, hR, hlo, hb⟩

set_option maxHeartbeats 400000 in
theorem apply_any (n : Int) (w : World) : Calls Tryz.prog 54 #[.int .i64 n] w (Posts (moveL 4 1 n) w) := by
  go_enter Tryz.func54, Tryz.ntmps54
  go_wp2_with fail
  refine (move_any _ _ _ _).mono ?_
  rintro e w' ⟨A, cap, rfl, hR, hlo, hb⟩
  go_wp2
  go_ret
  exact ⟨A, cap, rfl, hR, hlo, hb⟩

set_option maxHeartbeats 400000 in
theorem refund_any (n : Int) (w : World) : Calls Tryz.prog 30 #[.int .i64 n] w (Posts (moveL 4 0 n) w) := by
  go_enter Tryz.func30, Tryz.ntmps30
  go_wp2_with fail
  refine (move_any _ _ _ _).mono ?_
  rintro e w' ⟨A, cap, rfl, hR, hlo, hb⟩
  go_wp2
  go_ret
  exact ⟨A, cap, rfl, hR, hlo, hb⟩

set_option maxHeartbeats 400000 in
theorem loss_any (n : Int) (w : World) : Calls Tryz.prog 33 #[.int .i64 n] w (Posts (moveL 5 1 n) w) := by
  go_enter Tryz.func33, Tryz.ntmps33
  go_wp2_with fail
  refine (move_any _ _ _ _).mono ?_
  rintro e w' ⟨A, cap, rfl, hR, hlo, hb⟩
  go_wp2
  go_ret
  exact ⟨A, cap, rfl, hR, hlo, hb⟩


end Go.Proofs.YthdmbbfppgenlaaGreat
