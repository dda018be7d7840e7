/-
  flow.IsWord: is it a name?
-/
import Derived.Test.YtakaalldbnklcaaPlc
import Derived.Test.YtakaalldbnklcaaWords
namespace Go.Proofs.Ytakaalldbnklcaa
open Go.RowKit
set_option linter.unusedVariables false

def lowB (c : UInt8) : Bool := decide (97 ≤ (c.toNat : Int)) && decide ((c.toNat : Int) ≤ 122)
def digB (c : UInt8) : Bool := (decide (48 ≤ (c.toNat : Int)) && decide ((c.toNat : Int) ≤ 57)) || ((c.toNat : Int) == 45)
def letB (k : Nat) (c : UInt8) : Bool := lowB c || (decide (0 < k) && digB c)
def isW (s : ByteArray) : Bool := (s.data.toList.zipIdx.all fun p => letB p.2 p.1) && decide (1 ≤ s.size) && decide (s.size ≤ 12)
theorem letters_all {s : ByteArray} (h : ∀ j, (hj : j < s.size) → letB j s[j] = true) : (s.data.toList.zipIdx.all fun p => letB p.2 p.1) = true := by
  rw [List.all_eq_true]
  rintro ⟨c, k⟩ hp
  have h1 := List.mem_zipIdx hp
  simp only [Nat.zero_add, Nat.sub_zero] at h1
  obtain ⟨_, hk, hc⟩ := h1
  have hks : k < s.size := by simpa using hk
  have := h k hks
  rw [hc]
  exact this
theorem letters_none {s : ByteArray} {k : Nat} (hk : k < s.size) (h : letB k s[k] = false) : isW s = false := by
  unfold isW
  have : (s.data.toList.zipIdx.all fun p => letB p.2 p.1) = false := by
    rw [List.all_eq_false]
    refine ⟨(s[k], k), ?_, by simpa using h⟩
    have hk' : k < s.data.toList.length := by simpa using hk
    have := List.mk_mem_zipIdx_iff_getElem? (x := s[k]) (i := k) (l := s.data.toList)
    rw [this, List.getElem?_eq_getElem hk']
    rfl
  rw [this]; rfl

theorem empty_iff (s : ByteArray) : s.toList = [] ↔ s.size = 0 := by
  rw [ByteArray.toList_eq]
  constructor
  · intro h
    have : s.data.toList.length = 0 := by rw [h]; rfl
    simpa using this
  · intro h
    exact List.eq_nil_of_length_eq_zero (by simpa using h)
theorem letB_iff (k : Nat) (c : UInt8) : letB k c = true ↔ (97 ≤ (c.toNat : Int) ∧ (c.toNat : Int) ≤ 122) ∨ (0 < k ∧ ((48 ≤ (c.toNat : Int) ∧ (c.toNat : Int) ≤ 57) ∨ (c.toNat : Int) = 45)) := by
  unfold letB lowB digB
  simp only [Bool.or_eq_true, Bool.and_eq_true, decide_eq_true_eq, beq_iff_eq]
theorem letB_no {k : Nat} {c : UInt8} (h : ¬ ((97 ≤ (c.toNat : Int) ∧ (c.toNat : Int) ≤ 122) ∨ (0 < k ∧ ((48 ≤ (c.toNat : Int) ∧ (c.toNat : Int) ≤ 57) ∨ (c.toNat : Int) = 45)))) : letB k c = false := by
  cases hc : letB k c with
  | false => rfl
  | true => exact absurd ((letB_iff k c).1 hc) h

set_option maxRecDepth 100000 in
set_option maxHeartbeats 4000000 in
theorem isWord_any (s : ByteArray) (w : World) (hs : s.size ≤ maxLen) :
    Calls Try.prog 29 #[.string s] w fun e w' => e = .returned (.bool (isW s)) ∧ w = w' := by
  unfold maxLen at hs
  go_enter Try.func29, Try.ntmps29
  go_wp2_with fail
  go_loop [3] (fun i => ∃ k : Nat, k ≤ s.size ∧ i = .int .i64 k ∧ Hid (∀ j, (hj : j < s.size) → j < k → letB j s[j] = true)) (fun i => s.size - nOf i)
  case atStart => exact ⟨0, Nat.zero_le _, rfl, hid (fun j hj hk => by omega)⟩
  case round =>
    obtain ⟨k, hk, rfl, hP⟩ := hrel
    by_cases hlt : k < s.size
    · go_wp2_with fail
      all_goals
        try (have h45 := beq_eq_false_iff_ne.1 ‹((s[k].toNat : Int) == 45) = false›)
        try (have h45 := eq_of_beq ‹((s[k].toNat : Int) == 45) = true›)
        first
          | (have hb : letB k s[k] = false := letB_no (by omega)
             have hv := hid (letters_none hlt hb)
             go_ret
             exact ⟨by rw [hv.out]; rfl, rfl⟩)
          | (have hb : letB k s[k] = true := (letB_iff _ _).2 (by omega)
             have HB := hid hb
             go_round
             case rel => exact ⟨k + 1, by omega, by go_num, hid (fun j hj hk' => by
               by_cases e : j = k
               · subst e; exact HB.out
               · exact hP.out j hj (by omega))⟩
             case measure => simp [nOf]; omega)
    · have hk' : k = s.size := by omega
      have hall := letters_all (fun j hj => hP.out j hj (by omega))
      have hv : Hid (isW s = (decide (1 ≤ s.size) && decide (s.size ≤ 12))) := hid (by unfold isW; rw [hall]; rfl)
      clear hall hP
      subst hk'
      clear hk hlt
      have hz := hid (empty_iff s)
      go_wp2_with fail
      · go_ret
        have h0 := (hz.out).1 (by assumption)
        exact ⟨by rw [hv.out]; simp [h0], rfl⟩
      · go_ret
        have h0 : s.size ≠ 0 := fun e => absurd ((hz.out).2 e) (by assumption)
        have h1 : s.toList.isEmpty = false := by
          cases h : s.toList with
          | nil => exact absurd ((hz.out).1 h) h0
          | cons x l => rfl
        have e1 : decide (1 ≤ s.size) = true := decide_eq_true (by omega)
        have e2 : decide ((s.size : Int) ≤ 12) = decide (s.size ≤ 12) := decide_eq_decide.2 (by omega)
        refine ⟨?_, rfl⟩
        show Ending.returned (Value.bool (!s.toList.isEmpty && decide ((s.size : Int) ≤ 12))) = _
        rw [hv.out, h1, e1, e2]
        rfl

end Go.Proofs.Ytakaalldbnklcaa
