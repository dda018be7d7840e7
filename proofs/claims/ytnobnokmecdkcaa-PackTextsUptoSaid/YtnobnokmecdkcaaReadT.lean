/-
  The contracts of ReadText, at any place.
-/
import Derived.Test.YtnobnokmecdkcaaReadI
namespace Go.Proofs.Ytnobnokmecdkcaa
open Go.RowKit

theorem retS {a : ByteArray} {c c' : Int} (h3 : c = c') : Ending.returned (.tuple #[.string a, .int .i64 c, .int .i64 0]) = .returned (retT (a, c', 0)) := by
  subst h3; rfl

theorem readText_any (s : ByteArray) (p : Int) (w : World) (hs : s.size ≤ 9223372036854775000) :
    Calls Try.prog 18 #[.string s, .int .i64 p] w fun e w' => e = .returned (retT (readT s p)) ∧ w = w' := by
  by_cases he : (readU s p).2.2 = 0
  · obtain ⟨q, k, rfl, hk, hqs, hst, hb, h9, h0, HE⟩ := readU_ok he
    have hv := val7_u64 s q k hk h9
    have h := readUint_any s q w hs
    by_cases hg : (s.size : Int) - ((q + k + 1 : Nat) : Int) < (val7 s q (k + 1) : Int)
    · have HR := hid (show readT s q = (.empty, 0, 20) from by unfold readT; rw [HE]; dsimp only; rw [if_pos rfl, if_pos hg])
      rw [HE] at h
      generalize val7 s q (k + 1) = v at *
      simp only [retU] at h
      have HC := hid h
      clear h HE he hst hb h9 h0
      go_enter Try.func18, Try.ntmps18
      go_wp2_with fail
      refine HC.out.mono ?_
      rintro e w1 ⟨rfl, rfl⟩
      have g1 : (s.size : Int) - (q + k + 1) < v := by omega
      go_wp2
      go_ret3
      refine ⟨?_, rfl⟩
      rw [HR.out]
      rfl
    · have HR := hid (show readT s q = (s.extract (q + k + 1) (q + k + 1 + val7 s q (k + 1)), ((q + k + 1 + val7 s q (k + 1) : Nat) : Int), 0) from by
        unfold readT; rw [HE]; dsimp only; rw [if_pos rfl, if_neg hg, Int.toNat_natCast, ← Int.natCast_add])
      rw [HE] at h
      generalize val7 s q (k + 1) = v at *
      simp only [retU] at h
      have HC := hid h
      clear h HE he hst hb h9 h0
      go_enter Try.func18, Try.ntmps18
      go_wp2_with fail
      refine HC.out.mono ?_
      rintro e w1 ⟨rfl, rfl⟩
      have g1 : ¬ (s.size : Int) - (q + k + 1) < v := by omega
      have hvs : v ≤ s.size := by omega
      have f1 : (0 : Int) ≤ q + k + 1 := by omega
      have f2 : (q : Int) + k + 1 ≤ q + k + 1 + v := by omega
      have f3 : (q : Int) + k + 1 + v ≤ s.size := by omega
      go_wp2
      go_ret3
      refine ⟨?_, rfl⟩
      rw [HR.out]
      exact retS (by omega)
  · obtain ⟨x, hx, HE⟩ := readU_err s p he
    have HR := hid (show readT s p = (.empty, 0, x) from by unfold readT; rw [if_neg he, HE])
    have h := readUint_any s p w hs
    rw [HE] at h
    simp only [retU] at h
    have HC := hid h
    clear h HE he
    go_enter Try.func18, Try.ntmps18
    go_wp2_with fail
    refine HC.out.mono ?_
    rintro e w1 ⟨rfl, rfl⟩
    rcases hx with rfl | rfl
    · go_wp2
      go_ret3
      exact ⟨by rw [HR.out]; rfl, rfl⟩
    · go_wp2
      go_ret3
      exact ⟨by rw [HR.out]; rfl, rfl⟩

theorem rreadText_any (s : ByteArray) (p : Int) (w : World) (hs : s.size ≤ 9223372036854775000) :
    Calls Try.prog 25 #[.string s, .int .i64 p] w fun e w' => e = .returned (retT (readT s p)) ∧ w = w' := by
  by_cases he : (readU s p).2.2 = 0
  · obtain ⟨q, k, rfl, hk, hqs, hst, hb, h9, h0, HE⟩ := readU_ok he
    have hv := val7_u64 s q k hk h9
    have h := rreadUint_any s q w hs
    by_cases hg : (s.size : Int) - ((q + k + 1 : Nat) : Int) < (val7 s q (k + 1) : Int)
    · have HR := hid (show readT s q = (.empty, 0, 20) from by unfold readT; rw [HE]; dsimp only; rw [if_pos rfl, if_pos hg])
      rw [HE] at h
      generalize val7 s q (k + 1) = v at *
      simp only [retU] at h
      have HC := hid h
      clear h HE he hst hb h9 h0
      go_enter Try.func25, Try.ntmps25
      go_wp2_with fail
      refine HC.out.mono ?_
      rintro e w1 ⟨rfl, rfl⟩
      have g1 : (s.size : Int) - (q + k + 1) < v := by omega
      go_wp2
      go_ret3
      refine ⟨?_, rfl⟩
      rw [HR.out]
      rfl
    · have HR := hid (show readT s q = (s.extract (q + k + 1) (q + k + 1 + val7 s q (k + 1)), ((q + k + 1 + val7 s q (k + 1) : Nat) : Int), 0) from by
        unfold readT; rw [HE]; dsimp only; rw [if_pos rfl, if_neg hg, Int.toNat_natCast, ← Int.natCast_add])
      rw [HE] at h
      generalize val7 s q (k + 1) = v at *
      simp only [retU] at h
      have HC := hid h
      clear h HE he hst hb h9 h0
      go_enter Try.func25, Try.ntmps25
      go_wp2_with fail
      refine HC.out.mono ?_
      rintro e w1 ⟨rfl, rfl⟩
      have g1 : ¬ (s.size : Int) - (q + k + 1) < v := by omega
      have hvs : v ≤ s.size := by omega
      have f1 : (0 : Int) ≤ q + k + 1 := by omega
      have f2 : (q : Int) + k + 1 ≤ q + k + 1 + v := by omega
      have f3 : (q : Int) + k + 1 + v ≤ s.size := by omega
      go_wp2
      go_ret3
      refine ⟨?_, rfl⟩
      rw [HR.out]
      exact retS (by omega)
  · obtain ⟨x, hx, HE⟩ := readU_err s p he
    have HR := hid (show readT s p = (.empty, 0, x) from by unfold readT; rw [if_neg he, HE])
    have h := rreadUint_any s p w hs
    rw [HE] at h
    simp only [retU] at h
    have HC := hid h
    clear h HE he
    go_enter Try.func25, Try.ntmps25
    go_wp2_with fail
    refine HC.out.mono ?_
    rintro e w1 ⟨rfl, rfl⟩
    rcases hx with rfl | rfl
    · go_wp2
      go_ret3
      exact ⟨by rw [HR.out]; rfl, rfl⟩
    · go_wp2
      go_ret3
      exact ⟨by rw [HR.out]; rfl, rfl⟩

end Go.Proofs.Ytnobnokmecdkcaa
