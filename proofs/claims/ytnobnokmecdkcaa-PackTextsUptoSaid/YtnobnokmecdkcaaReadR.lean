/-
  The walk of the reference's ReadUint.
-/
import Derived.Test.YtnobnokmecdkcaaReadW
namespace Go.Proofs.Ytnobnokmecdkcaa
open Go.RowKit

set_option maxHeartbeats 1000000 in
theorem rreadUint_out (s : ByteArray) (p : Int) (w : World) (hp : p < 0 ∨ (s.size : Int) ≤ p) :
    Calls Try.prog 20 #[.string s, .int .i64 p] w fun e w' => e = .returned (retU (0, 0, 20)) ∧ w = w' := by
  go_enter Try.func20, Try.ntmps20
  by_cases h0 : p < 0
  · go_wp2
    go_ret3
    exact ⟨rfl, rfl⟩
  · have h1 : (s.size : Int) ≤ p := by omega
    go_wp2
    go_ret3
    exact ⟨rfl, rfl⟩

/-- One byte more ahead, as the reference adds it. -/
theorem head7 (s : ByteArray) (p k : Nat) (hk : k ≤ 9) (h9 : k = 9 → byte s (p + 9) ≤ 1) :
    IntKind.u64.wrap (IntKind.u64.wrap ((val7 s (p + 1) k : Int) * 128) + (byte s p : Int) % 128) = ((val7 s p (k + 1) : Nat) : Int) := by
  have h := val7_u64 s p k hk h9
  rw [val7_head] at h ⊢
  rw [IntKind.wrap_u64, IntKind.wrap_u64]
  have hb := byte_lt s p
  omega

set_option maxHeartbeats 2000000 in
theorem rreadUint_in (s : ByteArray) (p : Nat) (w : World) (hs : s.size ≤ 9223372036854775000) (hp : p < s.size) :
    Calls Try.prog 20 #[.string s, .int .i64 p] w fun e w' => e = .returned (retU (readU s p)) ∧ w = w' := by
  have HR := hid (readU_in s p hp)
  have h0 : ¬ (p : Int) < 0 := by omega
  have h1 : ¬ (s.size : Int) ≤ p := by omega
  go_enter Try.func20, Try.ntmps20
  go_wp2
  go_loop [7] (fun i => ∃ n : Nat, i = .int .i64 n ∧ p ≤ n ∧ n ≤ p + 9 ∧ n ≤ s.size ∧ (∀ j, p ≤ j → j < n → 127 < byte s j)) (fun i => s.size - (intOf i).toNat)
  case atStart => exact ⟨p, rfl, by omega, by omega, by omega, fun j a b => by omega⟩
  case round =>
    obtain ⟨n, rfl, hpn, hn9, hns, hall⟩ := hrel
    have HA := hid hall
    clear hall
    by_cases hc : n < s.size ∧ n < p + 9 ∧ 127 < byte s n
    · obtain ⟨c1, c2, c3⟩ := hc
      have HB := hid (byte_at s n c1)
      have b1 : (127 : Int) < (s[n]).toNat := by rw [HB.out]; omega
      have i1 : (n : Int) < p + 9 := by omega
      go_wp2
      go_round
      case rel => exact ⟨n + 1, by go_num, by omega, by omega, by omega, fun j a b => by
        by_cases e : j = n
        · subst e; exact c3
        · exact HA.out j a (by omega)⟩
      case measure => simp [intOf]; omega
    · have hst : stop s p 9 = n := stop_is s p 9 n hpn hn9 hns HA.out (by omega)
      have HN := hid (HR.out n hst)
      by_cases e1 : n = s.size
      · have HE := hid e1
        have x1 : ((n : Int) == s.size) = true := by rw [beq_iff_eq]; omega
        have x2 : ¬ (n : Int) < s.size := by omega
        clear hc hst e1
        go_wp2
        go_ret3
        exact ⟨by rw [HN.out, if_pos HE.out]; rfl, rfl⟩
      · have hlt : n < s.size := by omega
        have HB := hid (byte_at s n hlt)
        have hbl := hid (byte_lt s n)
        have x0 : (n : Int) < s.size := by omega
        have x1 : ((n : Int) == s.size) = false := by rw [beq_eq_false_iff_ne]; omega
        by_cases e9 : n = p + 9
        · have x9 : ((n : Int) == p + 9) = true := by rw [beq_iff_eq]; omega
          have y9 : ¬ (n : Int) < p + 9 := by omega
          by_cases eb : 1 < byte s n
          · have b1 : (1 : Int) < (s[n]).toNat := by rw [HB.out]; omega
            have HE := hid (show n = p + 9 ∧ 1 < byte s n from ⟨e9, eb⟩)
            have HX := hid e1
            clear hc hst e1 e9 eb
            go_wp2
            go_ret3
            exact ⟨by rw [HN.out, if_neg HX.out, if_pos HE.out]; rfl, rfl⟩
          · have b1 : ¬ (1 : Int) < (s[n]).toNat := by rw [HB.out]; omega
            have z0 : (p : Int) < n := by omega
            by_cases ez : byte s n = 0
            · have b2 : (((s[n]).toNat : Int) == 0) = true := by rw [HB.out, ez]; rfl
              have HE := hid (show ¬ (n = p + 9 ∧ 1 < byte s n) from fun h => eb h.2)
              have HF := hid (show p < n ∧ byte s n = 0 from ⟨by omega, ez⟩)
              have HX := hid e1
              clear hc hst e1 e9 eb ez
              go_wp2
              go_ret3
              exact ⟨by rw [HN.out, if_neg HX.out, if_neg HE.out, if_pos HF.out]; rfl, rfl⟩
            · have b2 : (((s[n]).toNat : Int) == 0) = false := by rw [HB.out, beq_eq_false_iff_ne]; omega
              have HV := hid (show readU s (p : Int) = (val7 s p (n + 1 - p), ((n + 1 : Nat) : Int), 0) from by
                rw [HN.out, if_neg e1, if_neg (fun h => eb h.2), if_neg (fun h => ez h.2)])
              have H9 := hid (show n = p + 9 → byte s (p + 9) ≤ 1 from fun h => by rw [← h]; omega)
              clear hc hst e1 e9 eb ez
              go_wp2
              go_loop [8, 9] (fun v i => ∃ q : Nat, p ≤ q ∧ q ≤ n + 1 ∧ i = .int .i64 ((q : Int) - 1) ∧ v = .int .u64 (val7 s q (n + 1 - q) : Int)) (fun _ i => (intOf i + 1 - p).toNat)
              case atStart => exact ⟨n + 1, by omega, by omega, by rw [show (((n + 1 : Nat) : Int) - 1) = n from by omega], by rw [Nat.sub_self]; rfl⟩
              case round =>
                obtain ⟨q, hpq, hqn, rfl, rfl⟩ := hrel
                by_cases hq : q = p
                · have g1 : ¬ (p : Int) ≤ (q : Int) - 1 := by omega
                  have HQ := hid hq
                  clear hq
                  go_wp2
                  go_ret3
                  refine ⟨?_, rfl⟩
                  rw [HV.out, HQ.out]
                  exact ret3 rfl (by dsimp only; omega) rfl
                · obtain ⟨r, rfl⟩ : ∃ r, q = r + 1 := ⟨q - 1, by omega⟩
                  have er : (((r + 1 : Nat) : Int) - 1) = r := by omega
                  rw [er]
                  have g1 : (p : Int) ≤ r := by omega
                  have hrs : r < s.size := by omega
                  have HD := hid (byte_at s r hrs)
                  have HS := hid (head7 s r (n - r) (by omega) (fun h => by
                    have h1 : r = p := by omega
                    have h2 : n = p + 9 := by omega
                    rw [h1]; exact H9.out h2))
                  clear er hq
                  go_wp2
                  go_round
                  case rel =>
                    refine ⟨r, by omega, by omega, rfl, ?_⟩
                    rw [HD.out, show n + 1 - r = n - r + 1 from by omega]
                    exact congrArg _ HS.out
                  case measure => simp [intOf]; omega
        · have hn9' : n < p + 9 := by omega
          have x9 : ((n : Int) == p + 9) = false := by rw [beq_eq_false_iff_ne]; omega
          have y9 : (n : Int) < p + 9 := by omega
          have hlow : byte s n < 128 := by
            have := stop_low s p 9 (by rw [hst]; exact hlt) (by rw [hst]; exact hn9')
            rw [hst] at this; exact this
          have b1 : ¬ (127 : Int) < (s[n]).toNat := by rw [HB.out]; omega
          by_cases en : p < n
          · have z0 : (p : Int) < n := by omega
            by_cases ez : byte s n = 0
            · have b2 : (((s[n]).toNat : Int) == 0) = true := by rw [HB.out, ez]; rfl
              have HE := hid (show ¬ (n = p + 9 ∧ 1 < byte s n) from fun h => e9 h.1)
              have HF := hid (show p < n ∧ byte s n = 0 from ⟨by omega, ez⟩)
              have HX := hid e1
              clear hc hst e1 e9 ez
              go_wp2
              go_ret3
              exact ⟨by rw [HN.out, if_neg HX.out, if_neg HE.out, if_pos HF.out]; rfl, rfl⟩
            · have b2 : (((s[n]).toNat : Int) == 0) = false := by rw [HB.out, beq_eq_false_iff_ne]; omega
              have HV := hid (show readU s (p : Int) = (val7 s p (n + 1 - p), ((n + 1 : Nat) : Int), 0) from by
                rw [HN.out, if_neg e1, if_neg (fun h => e9 h.1), if_neg (fun h => ez h.2)])
              have H9 := hid (show n = p + 9 → byte s (p + 9) ≤ 1 from fun h => absurd h e9)
              clear hc hst e1 e9 ez
              go_wp2
              go_loop [8, 9] (fun v i => ∃ q : Nat, p ≤ q ∧ q ≤ n + 1 ∧ i = .int .i64 ((q : Int) - 1) ∧ v = .int .u64 (val7 s q (n + 1 - q) : Int)) (fun _ i => (intOf i + 1 - p).toNat)
              case atStart => exact ⟨n + 1, by omega, by omega, by rw [show (((n + 1 : Nat) : Int) - 1) = n from by omega], by rw [Nat.sub_self]; rfl⟩
              case round =>
                obtain ⟨q, hpq, hqn, rfl, rfl⟩ := hrel
                by_cases hq : q = p
                · have g1 : ¬ (p : Int) ≤ (q : Int) - 1 := by omega
                  have HQ := hid hq
                  clear hq
                  go_wp2
                  go_ret3
                  refine ⟨?_, rfl⟩
                  rw [HV.out, HQ.out]
                  exact ret3 rfl (by dsimp only; omega) rfl
                · obtain ⟨r, rfl⟩ : ∃ r, q = r + 1 := ⟨q - 1, by omega⟩
                  have er : (((r + 1 : Nat) : Int) - 1) = r := by omega
                  rw [er]
                  have g1 : (p : Int) ≤ r := by omega
                  have hrs : r < s.size := by omega
                  have HD := hid (byte_at s r hrs)
                  have HS := hid (head7 s r (n - r) (by omega) (fun h => by
                    have h1 : r = p := by omega
                    have h2 : n = p + 9 := by omega
                    rw [h1]; exact H9.out h2))
                  clear er hq
                  go_wp2
                  go_round
                  case rel =>
                    refine ⟨r, by omega, by omega, rfl, ?_⟩
                    rw [HD.out, show n + 1 - r = n - r + 1 from by omega]
                    exact congrArg _ HS.out
                  case measure => simp [intOf]; omega
          · have z0 : ¬ (p : Int) < n := by omega
            have HV := hid (show readU s (p : Int) = (val7 s p (n + 1 - p), ((n + 1 : Nat) : Int), 0) from by
              rw [HN.out, if_neg e1, if_neg (fun h => e9 h.1), if_neg (fun h => en h.1)])
            have H9 := hid (show n = p + 9 → byte s (p + 9) ≤ 1 from fun h => absurd h e9)
            clear hc hst e1 e9
            go_wp2
            go_loop [8, 9] (fun v i => ∃ q : Nat, p ≤ q ∧ q ≤ n + 1 ∧ i = .int .i64 ((q : Int) - 1) ∧ v = .int .u64 (val7 s q (n + 1 - q) : Int)) (fun _ i => (intOf i + 1 - p).toNat)
            case atStart => exact ⟨n + 1, by omega, by omega, by rw [show (((n + 1 : Nat) : Int) - 1) = n from by omega], by rw [Nat.sub_self]; rfl⟩
            case round =>
              obtain ⟨q, hpq, hqn, rfl, rfl⟩ := hrel
              by_cases hq : q = p
              · have g1 : ¬ (p : Int) ≤ (q : Int) - 1 := by omega
                have HQ := hid hq
                clear hq
                go_wp2
                go_ret3
                refine ⟨?_, rfl⟩
                rw [HV.out, HQ.out]
                exact ret3 rfl (by dsimp only; omega) rfl
              · obtain ⟨r, rfl⟩ : ∃ r, q = r + 1 := ⟨q - 1, by omega⟩
                have er : (((r + 1 : Nat) : Int) - 1) = r := by omega
                rw [er]
                have g1 : (p : Int) ≤ r := by omega
                have hrs : r < s.size := by omega
                have HD := hid (byte_at s r hrs)
                have HS := hid (head7 s r (n - r) (by omega) (fun h => by
                  have h1 : r = p := by omega
                  have h2 : n = p + 9 := by omega
                  rw [h1]; exact H9.out h2))
                clear er hq
                go_wp2
                go_round
                case rel =>
                  refine ⟨r, by omega, by omega, rfl, ?_⟩
                  rw [HD.out, show n + 1 - r = n - r + 1 from by omega]
                  exact congrArg _ HS.out
                case measure => simp [intOf]; omega

end Go.Proofs.Ytnobnokmecdkcaa
