/-
  Layer 19: the document's IsWord; the laws' word 'lines'.
-/
import Derived.Test.YtdgoifnhlpjnpaaRf19
namespace Go.Proofs.Ytdgoifnhlpjnpaa
open Go.RowKit Go.WideShapes Go.ChangeShapes Go.ChangeAt Go.Deep
set_option linter.unusedVariables false

theorem info_rl : (Try.prog.info? 88).map (fun i => (i.zero, i.size, i.bytes)) = some (some (.agg #[.int .i64 0, .int .i64 0]), 2, 16) := by kernel_rfl

set_option maxRecDepth 100000 in
set_option maxHeartbeats 4000000 in
/-- The document's lines, out of the program's. -/
theorem lawLines_any (l : List Ln) (A : Option Addr) (cp : Nat) (w : World) (hR : Rd w A (l.flatMap enL)) (hl : l.length * 16 ≤ 140737488355328) :
    Calls Try.prog 21 #[.slice A l.length cp] w (NewRowOf enL 88 2 l w) := by
  obtain ⟨i0, hi, hz0, hz1, hz2⟩ := info_parts info_rl
  go_enter Try.func21, Try.ntmps21
  go_wp2_with fail
  go_loopw [3, 8] (fun v i wr => ∃ k : Nat, k ≤ l.length ∧ i = .int .i64 k ∧ wr.ownsRow w.heap.size 88 2 v k ((l.take k).flatMap enL) ∧ Below w.heap.size w wr) (fun _ i _ => l.length - nOf i)
  case atStart => exact ⟨0, Nat.zero_le _, rfl, World.ownsRow_nil _ _ _ _, Below.refl _ _⟩
  case round =>
    obtain ⟨k, hk, rfl, hO, hb⟩ := hrel
    have hwz : w.heap.size ≤ wr.heap.size := hb.size
    by_cases hlt : k < l.length
    · obtain ⟨x, hx⟩ : ∃ x, l[k]? = some x := ⟨l[k], List.getElem?_eq_getElem hlt⟩
      obtain ⟨b, off, hAA, hbs, hcc⟩ := (hR.below hb).at_ 2 enL_len (by omega) hx
      have HS : Hid (l.take (k + 1) = l.take k ++ [x]) := hid (by rw [List.take_add_one, hx]; rfl)
      obtain ⟨xi, xl⟩ := x
      have q0 : wr.cell? ⟨b, off + k * 2, none⟩ = some (.int .i64 xi) := hcc 0 _ rfl
      have q1 : wr.cell? ⟨b, off + k * 2 + 1, none⟩ = some (.int .i64 xl) := hcc 1 _ rfl
      have hO3 := hid (hO.alloc (.cells #[.int .i64 xi, .int .i64 xl] 47))
      have hb3' := hid ((hb.alloc hb.size (.cells #[.int .i64 xi, .int .i64 xl] 47)).alloc (by have := hb.size; simp; omega) (.cells #[.int .i64 xi, .int .i64 xl] 88))
      clear hcc hx hO hb
      subst hAA
      go_wp2_with (first
        | (at_builtin; refine wpList_push _ rfl _ _ 64 rfl w.heap.size 88 i0 _ 2 16 Try.underlying64 hi hz0 hz1 hz2 rfl (by decide) _ _ _ (by rfl) hO3.out #[.int .i64 xi, .int .i64 xl] (wr.heap.size + 1) (by simp) (by rfl) (by rfl) (by rfl) (by unfold maxLen; omega) (by omega) (by simp; omega) ?_; intro v' w3 hO4 hg4))
      have hb4 := hb3'.out.grown hg4 (by simp; omega) (fun k hk => (hO3.out.lt k hk).1)
      have hO5 : w3.ownsRow w.heap.size 88 2 v' (k + 1) ((l.take (k + 1)).flatMap enL) := by
        rw [HS.out, List.flatMap_append]
        simpa [enL] using hO4
      clear hO4 hg4 hO3 hb3'
      go_roundw
      case rel => exact ⟨k + 1, by omega, by go_num, hO5, hb4⟩
      case measure => simp [nOf]; omega
    · have hk' : k = l.length := by omega
      subst hk'
      rw [List.take_length] at hO
      obtain ⟨A', cap', rfl, _⟩ := own_slice hO
      have HH := hid (And.intro hO hb)
      clear hO hb hk hlt
      go_wp2_with fail
      go_ret
      exact ⟨A', cap', rfl, HH.out.1, HH.out.2⟩

set_option maxRecDepth 100000 in
set_option maxHeartbeats 4000000 in
theorem risWord_any (s : ByteArray) (w : World) (hs : s.size ≤ maxLen) :
    Calls Try.prog 42 #[.string s] w fun e w' => e = .returned (.bool (isW s)) ∧ w = w' := by
  unfold maxLen at hs
  by_cases h1 : s.size = 0
  · have hv : Hid (isW s = false) := hid (by unfold isW; rw [show decide (1 ≤ s.size) = false from decide_eq_false (by omega)]; simp)
    have b1 : decide ((s.size : Int) < 1) = true := decide_eq_true (by omega)
    clear h1
    go_enter Try.func42, Try.ntmps42
    go_wp2_with fail
    go_ret
    refine ⟨?_, rfl⟩
    rw [hv.out]
    rfl
  · have b1 : decide ((s.size : Int) < 1) = false := decide_eq_false (by omega)
    have h0 : 0 < s.size := by omega
    by_cases h2 : 12 < s.size
    · have hv : Hid (isW s = false) := hid (by unfold isW; rw [show decide (s.size ≤ 12) = false from decide_eq_false (by omega)]; simp)
      have b2 : decide ((12 : Int) < (s.size : Int)) = true := decide_eq_true (by omega)
      clear h1 h2
      go_enter Try.func42, Try.ntmps42
      go_wp2_with fail
      go_ret
      refine ⟨?_, rfl⟩
      rw [hv.out]
      rfl
    · have b2 : decide ((12 : Int) < (s.size : Int)) = false := decide_eq_false (by omega)
      by_cases h3 : 97 ≤ (s[0].toNat : Int) ∧ (s[0].toNat : Int) ≤ 122
      · obtain ⟨h3, h4⟩ := h3
        have b3 : decide ((s[0].toNat : Int) < 97) = false := decide_eq_false (by omega)
        have b4 : decide ((122 : Int) < (s[0].toNat : Int)) = false := decide_eq_false (by omega)
        have HL0 := hid (show letB 0 s[0] = true from (letB_iff _ _).2 (.inl ⟨h3, h4⟩))
        have HSZ := hid (And.intro h1 h2)
        clear h1 h2 h3 h4
        go_enter Try.func42, Try.ntmps42
        go_wp2_with fail
        go_loop [3] (fun i => ∃ k : Nat, k ≤ s.size ∧ i = .int .i64 k ∧ Hid (∀ j, (hj : j < s.size) → j < k → letB j s[j] = true)) (fun i => s.size - nOf i)
        case atStart => exact ⟨0, Nat.zero_le _, rfl, hid (fun j hj hk => by omega)⟩
        case round =>
          obtain ⟨k, hk, rfl, hP⟩ := hrel
          by_cases hlt : k < s.size
          · go_wp2_with fail
            all_goals
              have hk0 : k = 0 → letB k s[k] = true := fun e => by subst e; exact HL0.out
              try simp only [bne_iff_ne, bne_eq_false_iff_eq, Bool.not_eq_true', Bool.not_eq_false', decide_eq_false_iff_not, decide_eq_true_eq, ne_eq] at *
              first
                | (have hb : letB k s[k] = false := letB_no (by omega)
                   have hv := hid (letters_none hlt hb)
                   go_ret
                   refine ⟨?_, rfl⟩
                   rw [hv.out]
                   rfl)
                | (have hb : letB k s[k] = true := by
                     by_cases e : k = 0
                     · exact hk0 e
                     · exact (letB_iff _ _).2 (by omega)
                   have HB := hid hb
                   go_round
                   case rel => exact ⟨k + 1, by omega, by go_num, hid (fun j hj hk' => by
                     by_cases e : j = k
                     · subst e; exact HB.out
                     · exact hP.out j hj (by omega))⟩
                   case measure => simp [nOf]; omega)
          · have hk' : k = s.size := by omega
            subst hk'
            have hall := letters_all (fun j hj => hP.out j hj hj)
            have hv : Hid (isW s = true) := hid (by
              unfold isW
              rw [hall, show decide (1 ≤ s.size) = true from decide_eq_true (by omega), show decide (s.size ≤ 12) = true from decide_eq_true (by have := HSZ.out; omega)]; rfl)
            clear hall hP
            go_wp2_with fail
            go_ret
            refine ⟨?_, rfl⟩
            rw [hv.out]
            rfl
      · have hb : letB 0 s[0] = false := letB_no (by omega)
        have hv : Hid (isW s = false) := hid (letters_none h0 hb)
        clear hb
        go_enter Try.func42, Try.ntmps42
        by_cases h5 : (s[0].toNat : Int) < 97
        · have b3 : decide ((s[0].toNat : Int) < 97) = true := decide_eq_true h5
          clear h1 h2 h3
          go_wp2_with fail
          go_ret
          refine ⟨?_, rfl⟩
          rw [hv.out]
          rfl
        · have b3 : decide ((s[0].toNat : Int) < 97) = false := decide_eq_false h5
          have b4 : decide ((122 : Int) < (s[0].toNat : Int)) = true := decide_eq_true (by omega)
          clear h1 h2 h3
          go_wp2_with fail
          go_ret
          refine ⟨?_, rfl⟩
          rw [hv.out]
          rfl

end Go.Proofs.Ytdgoifnhlpjnpaa
