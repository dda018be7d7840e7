/-
  The walk of the program's ReadUint.
-/
import Derived.Test.YtnobnokmecdkcaaRead
namespace Go.Proofs.Ytnobnokmecdkcaa
open Go.RowKit

/-- What a read answers, as the call's result. -/
def retU (x : Nat × Int × Int) : Value := .tuple #[.int .u64 (x.1 : Int), .int .i64 x.2.1, .int .i64 x.2.2]

theorem byte_at (s : ByteArray) (j : Nat) (h : j < s.size) : ((s[j]).toNat : Int) = (byte s j : Int) := by
  unfold byte
  rw [List.getD_eq_getElem?_getD, List.getElem?_eq_getElem (by rw [Array.length_toList]; exact h)]
  rfl

theorem step7_0 (s : ByteArray) (p : Nat) : bits BinOp.or IntKind.u64 (val7 s p 0 : Int) (IntKind.u64.wrap (IntKind.u64.wrap (bits BinOp.and IntKind.u8 (byte s p : Int) 127))) = ((val7 s p (0 + 1) : Nat) : Int) := by
  have h := step7 s p 0 (by omega) (fun h => by omega)
  rw [show (2 : Int) ^ (7 * 0) = 1 from rfl, Int.mul_one] at h
  exact h

set_option maxHeartbeats 1000000 in
theorem readUint_out (s : ByteArray) (p : Int) (w : World) (hp : p < 0 ∨ (s.size : Int) ≤ p) :
    Calls Try.prog 19 #[.string s, .int .i64 p] w fun e w' => e = .returned (retU (0, 0, 20)) ∧ w = w' := by
  go_enter Try.func19, Try.ntmps19
  by_cases h0 : p < 0
  · go_wp2
    go_ret3
    exact ⟨rfl, rfl⟩
  · have h1 : (s.size : Int) ≤ p := by omega
    go_wp2
    go_ret3
    exact ⟨rfl, rfl⟩

set_option maxRecDepth 100000 in
set_option maxHeartbeats 2000000 in
theorem readUint_in (s : ByteArray) (p : Nat) (w : World) (hs : s.size ≤ 9223372036854775000) (hp : p < s.size) :
    Calls Try.prog 19 #[.string s, .int .i64 p] w fun e w' => e = .returned (retU (readU s p)) ∧ w = w' := by
  have HR := hid (readU_in s p hp)
  have h0 : ¬ (p : Int) < 0 := by omega
  have h1 : ¬ (s.size : Int) ≤ p := by omega
  go_enter Try.func19, Try.ntmps19
  go_wp2
  go_loop [7, 8, 9, 18] (fun v _ _ i => ∃ k : Nat, i = .int .i64 k ∧ k ≤ 9 ∧ p + k ≤ s.size ∧ v = .int .u64 (val7 s p k : Int) ∧ (∀ j, p ≤ j → j < p + k → 127 < byte s j)) (fun _ _ _ i => 10 - (intOf i).toNat)
  case atStart => exact ⟨0, rfl, by omega, by omega, rfl, fun j a b => by omega⟩
  case round =>
    obtain ⟨k, rfl, hk, hpk, rfl, hall⟩ := hrel
    have HA := hid hall
    clear hall
    have hk10 : (k : Int) < 10 := by omega
    by_cases he : p + k = s.size
    · have e1 : (((p : Int) + k) == s.size) = true := by rw [beq_iff_eq]; omega
      have HE := hid he
      clear he
      go_wp2
      go_ret3
      have hE := HE.out
      have hst : stop s p 9 = s.size := stop_is s p 9 s.size (by omega) (by omega) (by omega) (fun j a b => HA.out j a (by omega)) (.inr (.inl rfl))
      exact ⟨by rw [HR.out _ hst, if_pos rfl]; rfl, rfl⟩
    · have e1 : (((p : Int) + k) == s.size) = false := by rw [beq_eq_false_iff_ne]; omega
      have hlt : p + k < s.size := by omega
      have hb := byte_at s (p + k) hlt
      have hbl := byte_lt s (p + k)
      have HB := hid hb
      clear hb
      have hbI := hid (show ((s[p + k]).toNat : Int) < 256 from by rw [HB.out]; omega)
      by_cases hA : k = 9 ∧ 1 < byte s (p + k)
      · obtain ⟨rfl, hb⟩ := hA
        have g1 : (1 : Int) < (s[p + 9]).toNat := by rw [HB.out]; omega
        have g2 : (((9 : Nat) : Int) == 9) = true := rfl
        go_wp2
        go_ret3
        have hst : stop s p 9 = p + 9 := stop_is s p 9 (p + 9) (by omega) (by omega) (by omega) HA.out (.inl rfl)
        exact ⟨by rw [HR.out _ hst, if_neg (by omega), if_pos ⟨rfl, hb⟩]; rfl, rfl⟩
      · by_cases hB : 0 < k ∧ byte s (p + k) = 0
        · obtain ⟨hk0, hb⟩ := hB
          have g1 : ¬ (1 : Int) < (s[p + k]).toNat := by rw [HB.out]; omega
          have g2 : (((s[p + k]).toNat : Int) == 0) = true := by rw [HB.out, hb]; rfl
          have hk0' : (0 : Int) < k := by omega
          have HZ := hid hb
          clear hb hA
          go_wp2
          all_goals
            go_ret3
            have hst : stop s p 9 = p + k := stop_is s p 9 (p + k) (by omega) (by omega) (by omega) HA.out (.inr (.inr (by rw [HZ.out]; omega)))
            exact ⟨by rw [HR.out _ hst, if_neg (by omega), if_neg (by rw [HZ.out]; omega), if_pos ⟨by omega, HZ.out⟩]; rfl, rfl⟩
        · by_cases hC : byte s (p + k) < 128
          · have g1 : ((s[p + k]).toNat : Int) < 128 := by rw [HB.out]; omega
            have g2 : ((k : Int) == 9) = true → ¬ (1 : Int) < (s[p + k]).toNat := fun h => by rw [HB.out]; have := eq_of_beq h; omega
            have HS := hid (step7 s p k hk (fun h => by subst h; omega))
            have hst : stop s p 9 = p + k := stop_is s p 9 (p + k) (by omega) (by omega) (by omega) HA.out (.inr (.inr hC))
            have HN := hid (show readU s p = (val7 s p (k + 1), ((p + k + 1 : Nat) : Int), 0) from by
              rw [HR.out _ hst, if_neg (by omega), if_neg (by omega), if_neg (by omega), show p + k + 1 - p = k + 1 from by omega])
            clear hst
            by_cases hk9 : k = 9
            · subst hk9
              have g5 : ¬ (1 : Int) < (s[p + 9]).toNat := by rw [HB.out]; omega
              have g6 : (((9 : Nat) : Int) == 9) = true := rfl
              have g4 : (((s[p + 9]).toNat : Int) == 0) = false := by rw [HB.out, beq_eq_false_iff_ne]; omega
              clear g2 hA hB
              go_wp2
              go_ret3
              refine ⟨?_, rfl⟩
              rw [HN.out]
              refine ret3 ?_ (by dsimp only; omega) rfl
              rw [← HS.out, ← HB.out]
              rfl
            · have g3 : ((k : Int) == 9) = false := by rw [beq_eq_false_iff_ne]; omega
              by_cases hk0 : 0 < k
              · have hk0' : (0 : Int) < k := by omega
                have g4 : (((s[p + k]).toNat : Int) == 0) = false := by rw [HB.out, beq_eq_false_iff_ne]; omega
                clear g2 hA hB
                go_wp2
                go_ret3
                refine ⟨?_, rfl⟩
                rw [HN.out]
                refine ret3 ?_ (by dsimp only; omega) rfl
                rw [← HS.out, ← HB.out]
              · obtain rfl : k = 0 := by omega
                have g1p : ((s[p]).toNat : Int) < 128 := by rw [byte_at s p hp]; rw [Nat.add_zero] at hC; omega
                clear g2 hA hB
                go_wp2
                go_ret3
                refine ⟨?_, rfl⟩
                rw [HN.out]
                refine ret3 ?_ (by dsimp only; omega) rfl
                rw [byte_at s p hp]
                exact step7_0 s p
          · have hk8 : k ≤ 8 := by
              rcases Nat.lt_or_ge k 9 with h | h
              · omega
              · exact absurd ⟨by omega, by omega⟩ hA
            have HS := hid (step7 s p k hk (fun h => by omega))
            have HC := hid hC
            have g1 : ¬ ((s[p + k]).toNat : Int) < 128 := by rw [HB.out]; omega
            have g3 : ((k : Int) == 9) = false := by rw [beq_eq_false_iff_ne]; omega
            have g4 : (((s[p + k]).toNat : Int) == 0) = false := by rw [HB.out, beq_eq_false_iff_ne]; omega
            clear hA hB hC
            by_cases hk0 : 0 < k
            · have hk0' : (0 : Int) < k := by omega
              go_wp2
              go_round
              case rel => exact ⟨k + 1, by go_num, by omega, by omega, by rw [← HS.out, ← HB.out], fun j a b => by
                by_cases e : j = p + k
                · subst e; have := HC.out; omega
                · exact HA.out j a (by omega)⟩
              case measure => simp [intOf]; omega
            · obtain rfl : k = 0 := by omega
              have g1p : ¬ ((s[p]).toNat : Int) < 128 := by rw [byte_at s p hp]; have := HC.out; rw [Nat.add_zero] at this; omega
              go_wp2
              go_round
              case rel => exact ⟨1, by go_num, by omega, by omega, by rw [byte_at s p hp, step7_0 s p], fun j a b => by
                obtain rfl : j = p := by omega
                have := HC.out; rw [Nat.add_zero] at this; omega⟩
              case measure => simp [intOf]

end Go.Proofs.Ytnobnokmecdkcaa
