/-
  The document's orders' book: Add refuses (printed by gen_ra19.py).
-/
import Derived.Test.YtdgoifnhlpjnpaaSetI19
import Derived.Test.YtdgoifnhlpjnpaaRw19
import Derived.Test.YtdgoifnhlpjnpaaBillRef
import Derived.Deep.RegionHeldLaw
import Derived.Deep.RegionLaw
import Derived.Deep.AppendLies
namespace Go.Proofs.Ytdgoifnhlpjnpaa
open Go.RowKit Go.WideShapes Go.ChangeShapes Go.ChangeAt Go.Deep
set_option linter.unusedVariables false

section
variable {base R c1 c2 : Nat} {A1 A2 : Option Addr} {is : List (Int × Int)} {rs : List Od} {pr : List (Int × Int)} {w w4 wr : World}

set_option maxRecDepth 100000 in
set_option maxHeartbeats 8000000 in
theorem radd_head (id c : Int) (f : ByteArray) (A : Option Addr) (cap : Nat) (ls : List Ln) (v : Value) (hfs : f.size ≤ maxLen) (hno : ¬ headOk id c f ls.length) :
    Calls Try.prog 31 #[v, .int .i64 id, .int .i64 c, .string f, .slice A ls.length cap] w fun e w' => e = .returned (.int .i64 2) ∧ Below w.heap.size w w' := by
  have W := hid (fun w => risWord_any f w hfs)
  unfold headOk at hno
  have hcs : id < 1 ∨ (1 ≤ id ∧ 256 < id) ∨ ((1 ≤ id ∧ id ≤ 256) ∧ c < 1) ∨ ((1 ≤ id ∧ id ≤ 256 ∧ 1 ≤ c) ∧ 64 < c) ∨ ((1 ≤ id ∧ id ≤ 256 ∧ 1 ≤ c ∧ c ≤ 64) ∧ isW f = false) ∨ ((1 ≤ id ∧ id ≤ 256 ∧ 1 ≤ c ∧ c ≤ 64) ∧ isW f = true ∧ ls.length = 0) ∨ ((1 ≤ id ∧ id ≤ 256 ∧ 1 ≤ c ∧ c ≤ 64) ∧ isW f = true ∧ 4 < ls.length) := by
    generalize ls.length = m at hno ⊢
    generalize isW f = b at hno ⊢
    cases b <;> simp only [Bool.false_eq_true, Bool.true_eq_false, and_false, false_and, true_and, and_true, or_false, false_or, not_false_eq_true] at hno ⊢ <;> omega
  clear hno
  rcases hcs with h1 | ⟨h1, h2⟩ | ⟨⟨h1, h2⟩, h3⟩ | ⟨⟨h1, h2, h3⟩, h4⟩ | ⟨⟨h1, h2, h3, h4⟩, h5⟩ | ⟨⟨h1, h2, h3, h4⟩, h5, h6⟩ | ⟨⟨h1, h2, h3, h4⟩, h5, h6⟩
  · generalize isW f = bw at W
    go_enter Try.func31, Try.ntmps31
    go_wp2_with (first | (go_at_call 42; refine (W.out _).mono ?_; rintro e w5 ⟨rfl, rfl⟩))
    go_ret
    exact ⟨rfl, Below.refl _ _⟩
  · generalize isW f = bw at W
    go_enter Try.func31, Try.ntmps31
    go_wp2_with (first | (go_at_call 42; refine (W.out _).mono ?_; rintro e w5 ⟨rfl, rfl⟩))
    go_ret
    exact ⟨rfl, Below.refl _ _⟩
  · generalize isW f = bw at W
    go_enter Try.func31, Try.ntmps31
    go_wp2_with (first | (go_at_call 42; refine (W.out _).mono ?_; rintro e w5 ⟨rfl, rfl⟩))
    go_ret
    exact ⟨rfl, Below.refl _ _⟩
  · generalize isW f = bw at W
    go_enter Try.func31, Try.ntmps31
    go_wp2_with (first | (go_at_call 42; refine (W.out _).mono ?_; rintro e w5 ⟨rfl, rfl⟩))
    go_ret
    exact ⟨rfl, Below.refl _ _⟩
  · rw [h5] at W
    clear h5
    go_enter Try.func31, Try.ntmps31
    go_wp2_with (first | (go_at_call 42; refine (W.out _).mono ?_; rintro e w5 ⟨rfl, rfl⟩))
    go_ret
    exact ⟨rfl, Below.refl _ _⟩
  · rw [h5] at W
    clear h5
    have e1 : decide ((ls.length : Int) < 1) = true := decide_eq_true (by omega)
    clear h6
    go_enter Try.func31, Try.ntmps31
    go_wp2_with (first | (go_at_call 42; refine (W.out _).mono ?_; rintro e w5 ⟨rfl, rfl⟩))
    go_ret
    exact ⟨rfl, Below.refl _ _⟩
  · rw [h5] at W
    clear h5
    have e1 : decide ((ls.length : Int) < 1) = false := decide_eq_false (by omega)
    have e2 : decide ((4 : Int) < (ls.length : Int)) = true := decide_eq_true (by omega)
    clear h6
    go_enter Try.func31, Try.ntmps31
    go_wp2_with (first | (go_at_call 42; refine (W.out _).mono ?_; rintro e w5 ⟨rfl, rfl⟩))
    go_ret
    exact ⟨rfl, Below.refl _ _⟩

set_option maxRecDepth 100000 in
set_option maxHeartbeats 8000000 in
theorem radd_bad (id c : Int) (f : ByteArray) (A : Option Addr) (cap : Nat) (ls : List Ln) (v : Value) (hfs : f.size ≤ maxLen) (hR : Rd w A (ls.flatMap enL)) (hh : headOk id c f ls.length) (hno : ¬ OrdOk id c f ls) :
    Calls Try.prog 31 #[v, .int .i64 id, .int .i64 c, .string f, .slice A ls.length cap] w fun e w' => e = .returned (.int .i64 2) ∧ Below w.heap.size w w' := by
  have HNO := hid (show ¬ ∀ k, k < ls.length → LnOk ls k from fun h => hno ⟨hh, fun j => by
    by_cases hj : j < ls.length
    · exact h j hj
    · intro p hp
      rw [List.getElem?_eq_none (by omega)] at hp
      cases hp⟩)
  clear hno
  obtain ⟨h1, h2, h3, h4, h5, h6, h7⟩ := hh
  have W := hid (fun w => risWord_any f w hfs)
  rw [h5] at W
  have e1 : decide ((ls.length : Int) < 1) = false := decide_eq_false (by omega)
  have e2 : decide ((4 : Int) < (ls.length : Int)) = false := decide_eq_false (by omega)
  clear h5
  go_enter Try.func31, Try.ntmps31
  go_wp2_with (first | (go_at_call 42; refine (W.out _).mono ?_; rintro e w5 ⟨rfl, rfl⟩))
  clear W h1 h2 h3 h4 e1 e2
  go_loopw [12] (fun i wr => ∃ k : Nat, k ≤ ls.length ∧ i = .int .i64 k ∧ Hid (∀ j, j < k → LnOk ls j) ∧ Below w.heap.size w wr) (fun i _ => ls.length - nOf i)
  case atStart => exact ⟨0, Nat.zero_le _, rfl, hid (fun j hj => by omega), Below.refl _ _⟩
  case round =>
    obtain ⟨k, hk, rfl, hG, hb⟩ := hrel
    by_cases hlt : k < ls.length
    · obtain ⟨x, hx⟩ : ∃ x, ls[k]? = some x := ⟨ls[k], List.getElem?_eq_getElem hlt⟩
      have HX := hid hx
      obtain ⟨b, off, rfl, hbs, hcc⟩ := (hR.below hb).at_ 2 enL_len (by omega) hx
      obtain ⟨xi, xq⟩ := x
      have q1 : wr.cell? ⟨b, off + k * 2 + 1, none⟩ = some (.int .i64 xq) := hcc 1 _ rfl
      have HB := hid hb
      clear hcc hx hbs hb
      by_cases t1 : xq < 1
      · have b1 : decide (xq < 1) = true := decide_eq_true t1
        clear t1
        go_wp2_with fail
        go_ret
        exact ⟨rfl, HB.out⟩
      · have b1 : decide (xq < 1) = false := decide_eq_false t1
        by_cases t2 : 1000000 < xq
        · have b2 : decide (1000000 < xq) = true := decide_eq_true t2
          clear t1 t2
          go_wp2_with fail
          go_ret
          exact ⟨rfl, HB.out⟩
        · have b2 : decide (1000000 < xq) = false := decide_eq_false t2
          have HQ := hid (show 1 ≤ xq ∧ xq ≤ 1000000 from by omega)
          clear t1 t2
          go_wp2_with fail
          clear q1 b1 b2
          go_loopw [13] (fun i wy => ∃ m : Nat, m ≤ k ∧ i = .int .i64 m ∧ Hid (∀ j y, j < m → ls[j]? = some y → y.i ≠ xi) ∧ Below w.heap.size w wy) (fun i _ => k - nOf i)
          case atStart => exact ⟨0, Nat.zero_le _, rfl, hid (fun j y hj => by omega), HB.out⟩
          case round =>
            obtain ⟨m, hm, rfl, hN, hb⟩ := hrel
            by_cases hmk : m < k
            · obtain ⟨y, hy⟩ : ∃ y, ls[m]? = some y := ⟨ls[m], List.getElem?_eq_getElem (by omega)⟩
              have HY := hid hy
              have hml : m < ls.length := by omega
              have qs : ∀ W', Below w.heap.size w W' → W'.cell? ⟨b, off + m * 2, none⟩ = some (.int .i64 y.i) ∧ W'.cell? ⟨b, off + k * 2, none⟩ = some (.int .i64 xi) := fun W' hb' => by
                constructor
                · obtain ⟨b', off', e, _, hc⟩ := (hR.below hb').at_ 2 enL_len (by omega) hy
                  simp only [Option.some.injEq, Addr.mk.injEq, and_true] at e
                  obtain ⟨rfl, rfl⟩ := e
                  exact hc 0 _ rfl
                · obtain ⟨b', off', e, _, hc⟩ := (hR.below hb').at_ 2 enL_len (by omega) HX.out
                  simp only [Option.some.injEq, Addr.mk.injEq, and_true] at e
                  obtain ⟨rfl, rfl⟩ := e
                  exact hc 0 _ rfl
              obtain ⟨p0, p1⟩ := qs _ hb
              have HBN := hid (fun n => below_drewN hb n)
              clear hy qs hb
              by_cases e : y.i = xi
              · have be : (y.i == xi) = true := by simp [e]
                clear e
                go_wp2_with fail
                go_quiet (fail)
                go_wp2_with fail
                go_ret
                exact ⟨rfl, HBN.out _⟩
              · have be : (y.i == xi) = false := by simpa using e
                have HE := hid e
                clear e
                go_wp2_with fail
                go_quiet (fail)
                go_wp2_with fail
                go_roundw
                case rel => exact ⟨m + 1, by omega, by go_num, hid (fun j z hj hz => by
                  by_cases e : j = m
                  · subst e; rw [HY.out] at hz; injection hz with hz; subst hz; exact HE.out
                  · exact hN.out j z (by omega) hz), HBN.out _⟩
                case measure => simp [nOf]; omega
            · have hmk' : m = k := by omega
              subst hmk'
              have HGOOD := hid (show LnOk ls m from fun z hz => by
                rw [HX.out] at hz
                injection hz with hz
                subst hz
                refine ⟨HQ.out.1, HQ.out.2, ?_⟩
                unfold hasI
                rw [List.any_eq_false]
                intro y hy
                obtain ⟨j, hj⟩ := List.mem_iff_getElem?.1 hy
                have hjl := (List.getElem?_eq_some_iff.1 hj).1
                have hjm : j < m := by have := hjl; simp at this; omega
                rw [List.getElem?_take_of_lt hjm] at hj
                simpa using hN.out j y hjm hj)
              have HB2 := hid hb
              clear hN hb hm hmk
              go_wp2_with fail
              go_roundw
              case rel => exact ⟨m + 1, by omega, by go_num, hid (fun j hj => (Nat.lt_succ_iff_lt_or_eq.1 hj).elim (fun h => hG.out j h) (fun e => by subst e; exact HGOOD.out)), HB2.out⟩
              case measure => simp [nOf]; omega
    · exact absurd (fun j hj => hG.out j (by omega)) HNO.out
end

end Go.Proofs.Ytdgoifnhlpjnpaa
