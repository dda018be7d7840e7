/-
  Plain: the one form of a number is read again, alone, and not when it is cut.
-/
import Derived.Test.YtnobnokmecdkcaaRead
namespace Go.Proofs.Ytnobnokmecdkcaa

/-- The value of bytes, seven bits of each. -/
def valL : List UInt8 → Nat
  | [] => 0
  | b :: l => b.toNat % 128 + 128 * valL l

/-- A list of bytes is the form of a number: all but the last above 127, the last not, and not 0 if it is not alone. -/
def Form (l : List UInt8) : Prop := ∃ h b, l = h ++ [b] ∧ (∀ x ∈ h, 127 < x.toNat) ∧ b.toNat < 128 ∧ (h ≠ [] → b.toNat ≠ 0)

theorem leb_form (f v : Nat) (hf : 0 < f) (hv : v < 128 ^ f) : Form (leb f v) ∧ valL (leb f v) = v ∧ (∀ l, leb f v = l → l.length ≤ f) := by
  induction f generalizing v with
  | zero => omega
  | succ f ih =>
    by_cases h : v < 128
    · rw [leb_small (by omega) h]
      have hb : (v.toUInt8).toNat = v := by simp; omega
      refine ⟨⟨[], v.toUInt8, rfl, by simp, by rw [hb]; exact h, fun h => absurd rfl h⟩, ?_, fun l hl => by subst hl; simp⟩
      simp only [valL, hb]; omega
    · rw [leb_big h]
      have hb : ((v % 128 + 128).toUInt8).toNat = v % 128 + 128 := by simp; omega
      have hf0 : 0 < f := by
        rcases Nat.eq_zero_or_pos f with h0 | h0
        · subst h0; simp at hv; omega
        · exact h0
      have hv' : v / 128 < 128 ^ f := by rw [Nat.pow_succ] at hv; exact Nat.div_lt_of_lt_mul (by rw [Nat.mul_comm]; exact hv)
      obtain ⟨⟨hd, b, e, h1, h2, h3⟩, h4, h5⟩ := ih (v / 128) hf0 hv'
      refine ⟨⟨(v % 128 + 128).toUInt8 :: hd, b, by rw [e]; rfl, ?_, h2, fun _ => ?_⟩, ?_, fun l hl => by subst hl; simp; exact h5 _ rfl⟩
      · intro x hx
        cases hx with
        | head => rw [hb]; omega
        | tail _ hx => exact h1 x hx
      · by_cases hh : hd = []
        · subst hh
          rw [e] at h4
          simp only [List.nil_append, valL] at h4
          omega
        · exact h3 hh
      · simp only [valL, hb, h4]; omega

theorem valL_lt (l : List UInt8) : valL l < 128 ^ l.length := by
  induction l with
  | nil => simp [valL]
  | cons b l ih => simp only [valL, List.length_cons, Nat.pow_succ]; omega

/-- Of one value there is one form. -/
theorem form_leb (l : List UInt8) (hl : Form l) (f : Nat) (hf : l.length ≤ f) : leb f (valL l) = l := by
  induction l generalizing f with
  | nil => obtain ⟨h, b, e, _⟩ := hl; simp at e
  | cons x l ih =>
    obtain ⟨h, b, e, h1, h2, h3⟩ := hl
    obtain ⟨g, rfl⟩ : ∃ g, f = g + 1 := ⟨f - 1, by simp at hf; omega⟩
    cases h with
    | nil =>
      simp only [List.nil_append, List.cons.injEq] at e
      obtain ⟨rfl, rfl⟩ := e
      simp only [valL]
      rw [leb_small (by omega) (by omega)]
      have : x.toNat % 128 + 128 * 0 = x.toNat := by omega
      rw [this]; simp
    | cons y h =>
      simp only [List.cons_append, List.cons.injEq] at e
      obtain ⟨rfl, rfl⟩ := e
      have hx := h1 x (by simp)
      have hx256 := UInt8.toNat_lt x
      have hF : Form (h ++ [b]) := ⟨h, b, rfl, fun z hz => h1 z (by simp [hz]), h2, fun _ => h3 (by simp)⟩
      have hpos : 0 < valL (h ++ [b]) := by
        clear ih hf hF
        have hb0 := h3 (by simp)
        clear h3 h1
        induction h with
        | nil => simp only [List.nil_append, valL]; omega
        | cons z h ihh => simp only [List.cons_append, valL]; omega
      simp only [valL]
      rw [leb_big (by omega)]
      rw [show (x.toNat % 128 + 128 * valL (h ++ [b])) / 128 = valL (h ++ [b]) from by omega, ih hF g (by simp at hf ⊢; omega)]
      rw [show (x.toNat % 128 + 128 * valL (h ++ [b])) % 128 + 128 = x.toNat from by omega]
      simp
end Go.Proofs.Ytnobnokmecdkcaa
