/-
  Contracts of the reference's Total, and of wakes' parts: what a total is by the reference is what it is by the program.
-/
import Derived.Test.YtdgoifnhlpjnpaaBill
namespace Go.Proofs.Ytdgoifnhlpjnpaa
open Go.RowKit

theorem fifth (n : Int) : (n * 20 + 50) / 100 = n / 5 + (if 3 ≤ n % 5 then 1 else 0) := by
  split <;> omega

set_option maxHeartbeats 400000 in
theorem rtotal_few (l : List (Int × Int)) (A : Option Addr) (cap : Nat) (w : World) (hl : l.length = 0 ∨ 4 < l.length) :
    Calls Try.prog 43 #[.slice A l.length cap] w fun e w' => e = .returned (.tuple #[.int .i64 0, .int .i64 0, .int .i64 2]) ∧ Below w.heap.size w w' := by
  go_enter Try.func43, Try.ntmps43
  rcases hl with h | h
  · rw [h]
    go_wp2
    go_ret3
    exact ⟨rfl, Below.refl _ _⟩
  · have h0 : ¬ (l.length : Int) < 1 := by omega
    have h4 : (4 : Int) < l.length := by omega
    go_wp2
    go_ret3
    exact ⟨rfl, Below.refl _ _⟩

set_option maxHeartbeats 1000000 in
theorem rtotal_some (l : List (Int × Int)) (A : Option Addr) (cap : Nat) (w : World) (h1 : 1 ≤ l.length) (h4 : l.length ≤ 4) (hL : Rd w A (l.flatMap en2)) :
    Calls Try.prog 43 #[.slice A l.length cap] w fun e w' => e = .returned (.tuple #[.int .i64 (netT l), .int .i64 (taxT l), .int .i64 (errT l)]) ∧ Below w.heap.size w w' := by
  have h0 : ¬ (l.length : Int) < 1 := by omega
  have h4' : ¬ (4 : Int) < l.length := by omega
  go_enter Try.func43, Try.ntmps43
  go_wp2
  go_loopw [5, 6, 7, 10] (fun n t i _ wr => ∃ k : Nat, k ≤ l.length ∧ i = .int .i64 k ∧ n = .int .i64 (netOf (l.take k)) ∧ t = .int .i64 (taxOf (l.take k)) ∧ (l.take k).all lok = true ∧ Below w.heap.size w wr) (fun _ _ i _ _ => l.length - (intOf i).toNat)
  case atStart => exact ⟨0, Nat.zero_le _, rfl, rfl, rfl, rfl, Below.refl _ _⟩
  case round =>
    obtain ⟨k, hk, rfl, rfl, rfl, hok, hb⟩ := hrel
    have hbd := sums_bd _ hok
    have hlen : (l.take k).length ≤ 4 := by simp; omega
    by_cases hlt : k < l.length
    · obtain ⟨x, hx⟩ : ∃ x, l[k]? = some x := ⟨l[k], List.getElem?_eq_getElem hlt⟩
      obtain ⟨b, off, rfl, hbs, hc⟩ := hL.at_ 2 en2_len (by omega) hx
      have hq := hc 0 _ rfl
      have hp := hc 1 _ rfl
      rw [← hb.cell (p := ⟨b, _, none⟩) hbs] at hq hp
      simp only [Nat.add_zero] at hq
      clear hc hL
      have hts := take_snoc hx
      have hxm : x ∈ l := List.mem_of_getElem? hx
      by_cases hx1 : lok x = true
      · obtain ⟨g1, g2, g3, g4⟩ := lok_iff.1 hx1
        have m0 := net1_bd hx1
        have hf := fifth (x.1 * x.2)
        have HS : Hid (l.take (k + 1) = l.take k ++ [x]) := hts
        have HF : Hid ((x.1 * x.2 * 20 + 50) / 100 = x.1 * x.2 / 5 + (if 3 ≤ x.1 * x.2 % 5 then 1 else 0)) := hf
        clear hts hf
        go_wp2
        all_goals
          go_roundw
          case rel =>
            refine ⟨k + 1, by omega, by go_num, ?_, ?_, ?_, hb.alloc hb.size _⟩
            · rw [HS.out, netOf_snoc]
            · rw [HS.out, taxOf_snoc, HF.out]
              first
                | rw [if_pos (by assumption)]
                | (rw [if_neg (by omega)]; go_num)
            · rw [HS.out]; simp [hok, hx1]
          case measure => simp [intOf]; omega
      · have hbad : ¬ (((1 ≤ x.1 ∧ x.1 ≤ 1000000) ∧ 0 ≤ x.2) ∧ x.2 ≤ 1000000) := fun h => hx1 (lok_iff.2 ⟨h.1.1.1, h.1.1.2, h.1.2, h.2⟩)
        have hfit : fits l = false := by
          cases hf : fits l with
          | false => rfl
          | true =>
            simp only [fits, Bool.and_eq_true, List.all_eq_true] at hf
            exact absurd (hf.2 x hxm) hx1
        clear hts hx1
        go_wp2
        all_goals first
          | (exact absurd ‹_› hbad)
          | (go_ret3
             exact ⟨ret3 (by simp [netT, hfit]) (by simp [taxT, hfit]) (by simp [errT, hfit]), hb.alloc hb.size _⟩)
    · have hk' : k = l.length := by omega
      subst hk'
      rw [List.take_length] at hok
      have hfit : fits l = true := by
        simp only [fits, Bool.and_eq_true, hok, decide_eq_true_eq, and_true]; omega
      rw [List.take_length]
      go_wp2
      go_ret3
      exact ⟨ret3 (by simp [netT, hfit]) (by simp [taxT, hfit]) (by simp [errT, hfit]), hb⟩

theorem rtotal_any (l : List (Int × Int)) (A : Option Addr) (cap : Nat) (w : World) (hL : Rd w A (l.flatMap en2)) :
    Calls Try.prog 43 #[.slice A l.length cap] w fun e w' => e = .returned (.tuple #[.int .i64 (netT l), .int .i64 (taxT l), .int .i64 (errT l)]) ∧ Below w.heap.size w w' := by
  by_cases h : 1 ≤ l.length ∧ l.length ≤ 4
  · exact rtotal_some l A cap w h.1 h.2 hL
  · have hfit : fits l = false := by simp [fits]; intro h1 h2; exact absurd ⟨by omega, h2⟩ h
    simp only [netT, taxT, errT, hfit]
    exact rtotal_few l A cap w (by omega)
end Go.Proofs.Ytdgoifnhlpjnpaa
