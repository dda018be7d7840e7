/-
  Contracts of package bill and of its reference: what a total is; the postings, as lists of pairs (account, amount).
-/
import Derived.Test.YtakaalldbnklcaaBase
import Derived.WalkSpells
import Derived.WalkLawsBesides
import Derived.Deep.QuietTactic
import Derived.BigQuiet
namespace Go.Proofs.Ytakaalldbnklcaa
open Go.RowKit

/-! ### Plain -/
def lok (x : Int × Int) : Bool := decide (1 ≤ x.1 ∧ x.1 ≤ 1000000 ∧ 0 ≤ x.2 ∧ x.2 ≤ 1000000)
def net1 (x : Int × Int) : Int := x.1 * x.2
def tax1 (x : Int × Int) : Int := (x.1 * x.2 * 20 + 50) / 100
def netOf (l : List (Int × Int)) : Int := (l.map net1).sum
def taxOf (l : List (Int × Int)) : Int := (l.map tax1).sum
def fits (l : List (Int × Int)) : Bool := decide (1 ≤ l.length ∧ l.length ≤ 4) && l.all lok
def netT (l : List (Int × Int)) : Int := if fits l then netOf l else 0
def taxT (l : List (Int × Int)) : Int := if fits l then taxOf l else 0
def errT (l : List (Int × Int)) : Int := if fits l then 0 else 2

theorem lok_iff {x : Int × Int} : lok x = true ↔ 1 ≤ x.1 ∧ x.1 ≤ 1000000 ∧ 0 ≤ x.2 ∧ x.2 ≤ 1000000 := by simp [lok]
theorem net1_bd {x : Int × Int} (h : lok x = true) : 0 ≤ x.1 * x.2 ∧ x.1 * x.2 ≤ 1000000000000 := by
  obtain ⟨a, b, c, d⟩ := lok_iff.1 h
  refine ⟨Int.mul_nonneg (by omega) c, ?_⟩
  have := Int.mul_le_mul b d c (by omega)
  omega
theorem sums_bd (l : List (Int × Int)) (h : l.all lok = true) : 0 ≤ netOf l ∧ netOf l ≤ 1000000000000 * l.length ∧ 0 ≤ taxOf l ∧ taxOf l ≤ 200000000001 * l.length := by
  induction l with
  | nil => simp [netOf, taxOf]
  | cons x l ih =>
    simp only [List.all_cons, Bool.and_eq_true] at h
    have b := net1_bd h.1
    have := ih h.2
    simp only [netOf, taxOf, List.map_cons, List.sum_cons, net1, tax1, List.length_cons] at *
    omega
theorem netOf_snoc (l : List (Int × Int)) (x : Int × Int) : netOf (l ++ [x]) = netOf l + x.1 * x.2 := by simp [netOf, net1]
theorem taxOf_snoc (l : List (Int × Int)) (x : Int × Int) : taxOf (l ++ [x]) = taxOf l + (x.1 * x.2 * 20 + 50) / 100 := by simp [taxOf, tax1]
theorem take_snoc {α : Type} {l : List α} {k : Nat} {x : α} (h : l[k]? = some x) : l.take (k + 1) = l.take k ++ [x] := by
  rw [List.take_add_one, h]; rfl

/-! ### Total -/
set_option maxHeartbeats 400000 in
theorem total_few (l : List (Int × Int)) (A : Option Addr) (cap : Nat) (w : World) (hl : l.length = 0 ∨ 4 < l.length) :
    Calls Try.prog 24 #[.slice A l.length cap] w fun e w' => e = .returned (.tuple #[.int .i64 0, .int .i64 0, .int .i64 2]) ∧ Below w.heap.size w w' := by
  go_enter Try.func24, Try.ntmps24
  rcases hl with h | h
  · rw [h]
    go_wp2
    go_ret3
    exact ⟨rfl, Below.refl _ _⟩
  · have h0 : ((l.length : Int) == 0) = false := beq_eq_false_iff_ne.2 (by omega)
    have h4 : (4 : Int) < l.length := by omega
    go_wp2
    go_ret3
    exact ⟨rfl, Below.refl _ _⟩

set_option maxHeartbeats 400000 in
theorem total_some (l : List (Int × Int)) (A : Option Addr) (cap : Nat) (w : World) (h1 : 1 ≤ l.length) (h4 : l.length ≤ 4) (hL : Rd w A (l.flatMap en2)) :
    Calls Try.prog 24 #[.slice A l.length cap] w fun e w' => e = .returned (.tuple #[.int .i64 (netT l), .int .i64 (taxT l), .int .i64 (errT l)]) ∧ Below w.heap.size w w' := by
  have h0 : ((l.length : Int) == 0) = false := beq_eq_false_iff_ne.2 (by omega)
  have h4' : ¬ (4 : Int) < l.length := by omega
  go_enter Try.func24, Try.ntmps24
  go_wp2
  go_loopw [2, 3, 18] (fun n t i wr => ∃ k : Nat, k ≤ l.length ∧ i = .int .i64 k ∧ n = .int .i64 (netOf (l.take k)) ∧ t = .int .i64 (taxOf (l.take k)) ∧ (l.take k).all lok = true ∧ Below w.heap.size w wr) (fun _ _ i _ => l.length - (intOf i).toNat)
  case atStart => exact ⟨0, Nat.zero_le _, rfl, rfl, rfl, rfl, Below.refl _ _⟩
  case round =>
    obtain ⟨k, hk, rfl, rfl, rfl, hok, hb⟩ := hrel
    have hbd := sums_bd _ hok
    have hlen : (l.take k).length ≤ 4 := by simp; omega
    by_cases hlt : k < l.length
    · obtain ⟨x, hx⟩ : ∃ x, l[k]? = some x := ⟨l[k], List.getElem?_eq_getElem hlt⟩
      obtain ⟨b, off, rfl, hbs, hc⟩ := hL.at_ 2 en2_len (by omega) hx
      have hq := hc 0 _ rfl
      have hp := hc 1 _ rfl
      rw [← hb.cell (p := ⟨b, _, none⟩) hbs] at hq hp
      simp only [Nat.add_zero] at hq
      clear hc hL
      have hts := take_snoc hx
      have hxm : x ∈ l := List.mem_of_getElem? hx
      by_cases hx1 : lok x = true
      · obtain ⟨g1, g2, g3, g4⟩ := lok_iff.1 hx1
        have m0 := net1_bd hx1
        have HS : Hid (l.take (k + 1) = l.take k ++ [x]) := hts
        clear hts
        go_wp2
        go_roundw
        case rel =>
          refine ⟨k + 1, by omega, by go_num, ?_, ?_, ?_, hb.alloc hb.size _⟩
          · rw [HS.out, netOf_snoc]
          · rw [HS.out, taxOf_snoc]
          · rw [HS.out]; simp [hok, hx1]
        case measure => simp [intOf]; omega
      · have hbad : ¬ (((1 ≤ x.1 ∧ x.1 ≤ 1000000) ∧ 0 ≤ x.2) ∧ x.2 ≤ 1000000) := fun h => hx1 (lok_iff.2 ⟨h.1.1.1, h.1.1.2, h.1.2, h.2⟩)
        have hfit : fits l = false := by
          cases hf : fits l with
          | false => rfl
          | true =>
            simp only [fits, Bool.and_eq_true, List.all_eq_true] at hf
            exact absurd (hf.2 x hxm) hx1
        clear hts hx1
        go_wp2
        all_goals first
          | (exact absurd ‹_› hbad)
          | (go_ret3
             exact ⟨ret3 (by simp [netT, hfit]) (by simp [taxT, hfit]) (by simp [errT, hfit]), hb.alloc hb.size _⟩)
    · have hk' : k = l.length := by omega
      subst hk'
      rw [List.take_length] at hok
      have hfit : fits l = true := by
        simp only [fits, Bool.and_eq_true, hok, decide_eq_true_eq, and_true]; omega
      rw [List.take_length]
      go_wp2
      go_ret3
      exact ⟨ret3 (by simp [netT, hfit]) (by simp [taxT, hfit]) (by simp [errT, hfit]), hb⟩

theorem total_any (l : List (Int × Int)) (A : Option Addr) (cap : Nat) (w : World) (hL : Rd w A (l.flatMap en2)) :
    Calls Try.prog 24 #[.slice A l.length cap] w fun e w' => e = .returned (.tuple #[.int .i64 (netT l), .int .i64 (taxT l), .int .i64 (errT l)]) ∧ Below w.heap.size w w' := by
  by_cases h : 1 ≤ l.length ∧ l.length ≤ 4
  · exact total_some l A cap w h.1 h.2 hL
  · have hfit : fits l = false := by simp [fits]; intro h1 h2; exact absurd ⟨by omega, h2⟩ h
    simp only [netT, taxT, errT, hfit]
    exact total_few l A cap w (by omega)

end Go.Proofs.Ytakaalldbnklcaa
