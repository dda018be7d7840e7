/-
  The contracts of the reads, at any place.
-/
import Derived.Test.YtnobnokmecdkcaaReadR
import Derived.Test.YtnobnokmecdkcaaLeb
namespace Go.Proofs.Ytnobnokmecdkcaa
open Go.RowKit

/-- Where a read finds a number: its parts. -/
theorem readU_ok {s : ByteArray} {p : Int} (h : (readU s p).2.2 = 0) : ∃ q k : Nat, p = q ∧ k ≤ 9 ∧ q + k < s.size ∧ stop s q 9 = q + k ∧ byte s (q + k) < 128 ∧ (k = 9 → byte s (q + 9) ≤ 1) ∧ (0 < k → byte s (q + k) ≠ 0) ∧ readU s p = (val7 s q (k + 1), ((q + k + 1 : Nat) : Int), 0) := by
  unfold readU at h ⊢
  split at h
  · cases h
  · rename_i hp
    obtain ⟨q, rfl⟩ : ∃ q : Nat, p = q := ⟨p.toNat, by omega⟩
    rw [if_neg hp]
    simp only [Int.toNat_natCast] at h ⊢
    have g1 := stop_ge s q 9
    have g2 := stop_le s q 9
    have g3 := stop_size s q 9 (by omega)
    have g4 := stop_low s q 9
    split at h
    · cases h
    · split at h
      · cases h
      · split at h
        · cases h
        · rename_i a1 a2 a3
          refine ⟨q, stop s q 9 - q, rfl, by omega, by omega, by omega, ?_, ?_, ?_, ?_⟩
          · rw [show q + (stop s q 9 - q) = stop s q 9 from by omega]
            by_cases h9 : stop s q 9 = q + 9
            · have : ¬ 1 < byte s (stop s q 9) := fun h => a2 ⟨h9, h⟩
              omega
            · exact g4 (by omega) (by omega)
          · intro h9
            have e : stop s q 9 = q + 9 := by omega
            rw [← e]
            have : ¬ 1 < byte s (stop s q 9) := fun h => a2 ⟨e, h⟩
            omega
          · intro hk h0
            rw [show q + (stop s q 9 - q) = stop s q 9 from by omega] at h0
            exact a3 ⟨by omega, h0⟩
          · rw [if_neg a1, if_neg a2, if_neg a3]
            rw [show stop s q 9 + 1 - q = stop s q 9 - q + 1 from by omega, show q + (stop s q 9 - q) + 1 = stop s q 9 + 1 from by omega]

theorem readU_err (s : ByteArray) (p : Int) : (readU s p).2.2 ≠ 0 → ∃ e : Int, (e = 20 ∨ e = 21) ∧ readU s p = (0, 0, e) := by
  unfold readU
  intro h
  split at h
  · exact ⟨20, .inl rfl, by rw [if_pos (by assumption)]⟩
  · rename_i hp
    rw [if_neg hp]
    dsimp only at h ⊢
    split at h
    · exact ⟨20, .inl rfl, by rw [if_pos (by assumption)]⟩
    · rename_i h1
      rw [if_neg h1]
      split at h
      · exact ⟨21, .inr rfl, by rw [if_pos (by assumption)]⟩
      · rename_i h2
        rw [if_neg h2]
        split at h
        · exact ⟨21, .inr rfl, by rw [if_pos (by assumption)]⟩
        · exact absurd rfl h

theorem readUint_any (s : ByteArray) (p : Int) (w : World) (hs : s.size ≤ 9223372036854775000) :
    Calls Try.prog 19 #[.string s, .int .i64 p] w fun e w' => e = .returned (retU (readU s p)) ∧ w = w' := by
  by_cases h : p < 0 ∨ (s.size : Int) ≤ p
  · have e : readU s p = (0, 0, 20) := by unfold readU; rw [if_pos h]
    rw [e]; exact readUint_out s p w h
  · obtain ⟨q, rfl⟩ : ∃ q : Nat, p = q := ⟨p.toNat, by omega⟩
    exact readUint_in s q w hs (by omega)
theorem rreadUint_any (s : ByteArray) (p : Int) (w : World) (hs : s.size ≤ 9223372036854775000) :
    Calls Try.prog 20 #[.string s, .int .i64 p] w fun e w' => e = .returned (retU (readU s p)) ∧ w = w' := by
  by_cases h : p < 0 ∨ (s.size : Int) ≤ p
  · have e : readU s p = (0, 0, 20) := by unfold readU; rw [if_pos h]
    rw [e]; exact rreadUint_out s p w h
  · obtain ⟨q, rfl⟩ : ∃ q : Nat, p = q := ⟨p.toNat, by omega⟩
    exact rreadUint_in s q w hs (by omega)

def unzig (v : Nat) : Int := if v % 2 = 1 then -((v / 2 : Nat) : Int) - 1 else ((v / 2 : Nat) : Int)

def readI (s : ByteArray) (p : Int) : Int × Int × Int :=
  if (readU s p).2.2 = 0 then (unzig (readU s p).1, (readU s p).2.1, 0) else (0, 0, (readU s p).2.2)
def retI (x : Int × Int × Int) : Value := .tuple #[.int .i64 x.1, .int .i64 x.2.1, .int .i64 x.2.2]

def readT (s : ByteArray) (p : Int) : ByteArray × Int × Int :=
  if (readU s p).2.2 = 0 then
    if (s.size : Int) - (readU s p).2.1 < ((readU s p).1 : Int) then (.empty, 0, 20)
    else (s.extract (readU s p).2.1.toNat ((readU s p).2.1.toNat + (readU s p).1), (readU s p).2.1 + (readU s p).1, 0)
  else (.empty, 0, (readU s p).2.2)
def retT (x : ByteArray × Int × Int) : Value := .tuple #[.string x.1, .int .i64 x.2.1, .int .i64 x.2.2]

theorem xor_0 (x : Nat) (h : x < 9223372036854775808) : bits BinOp.xor IntKind.i64 (x : Int) 0 = x := by
  show IntKind.i64.wrap (((BitVec.ofInt 64 (x : Int) ^^^ BitVec.ofInt 64 0).toNat : Nat) : Int) = _
  rw [show (BitVec.ofInt 64 (x : Int) ^^^ BitVec.ofInt 64 0) = BitVec.ofInt 64 (x : Int) from by simp, ofInt_u64 x (by omega)]
  simp only [IntKind.wrap, IntKind.bits, IntKind.signed]
  simp
  omega
theorem xor_1 (x : Nat) (h : x < 9223372036854775808) : bits BinOp.xor IntKind.i64 (x : Int) (-1) = -(x : Int) - 1 := by
  show IntKind.i64.wrap (((BitVec.ofInt 64 (x : Int) ^^^ BitVec.ofInt 64 (-1)).toNat : Nat) : Int) = _
  rw [BitVec.toNat_xor, ofInt_u64 x (by omega), show (BitVec.ofInt 64 (-1)).toNat = 18446744073709551615 from by decide, xor_ones x (by omega)]
  simp only [IntKind.wrap, IntKind.bits, IntKind.signed]
  simp
  omega

theorem unzig_xor (v : Nat) (hv : v < 18446744073709551616) : bits BinOp.xor IntKind.i64 ((v : Int) / 2) (wrap64 (-wrap64 (bits BinOp.and IntKind.u64 (v : Int) 1))) = unzig v := by
  have e1 : bits BinOp.and IntKind.u64 (v : Int) 1 = ((v % 2 : Nat) : Int) := by
    have := u64_and_nat v 1 hv (by omega)
    rw [nat_mask1] at this
    exact this
  rw [e1]
  unfold unzig
  split
  · rename_i h
    rw [h, show wrap64 (-wrap64 ((1 : Nat) : Int)) = -1 from by decide +kernel, show (v : Int) / 2 = ((v / 2 : Nat) : Int) from by omega]
    exact xor_1 _ (by omega)
  · rename_i h
    rw [show v % 2 = 0 from by omega, show wrap64 (-wrap64 ((0 : Nat) : Int)) = 0 from by decide +kernel, show (v : Int) / 2 = ((v / 2 : Nat) : Int) from by omega]
    exact xor_0 _ (by omega)

theorem readInt_any (s : ByteArray) (p : Int) (w : World) (hs : s.size ≤ 9223372036854775000) :
    Calls Try.prog 21 #[.string s, .int .i64 p] w fun e w' => e = .returned (retI (readI s p)) ∧ w = w' := by
  by_cases he : (readU s p).2.2 = 0
  · obtain ⟨q, k, rfl, hk, hqs, hst, hb, h9, h0, HE⟩ := readU_ok he
    have hv := val7_u64 s q k hk h9
    have HR := hid (show readI s q = (unzig (val7 s q (k + 1)), ((q + k + 1 : Nat) : Int), 0) from by unfold readI; rw [HE]; rfl)
    generalize val7 s q (k + 1) = v at *
    have h := readUint_any s q w hs
    rw [HE] at h
    simp only [retU] at h
    have HC := hid h
    clear h HE he hst hb h9 h0
    go_enter Try.func21, Try.ntmps21
    go_wp2_with fail
    refine HC.out.mono ?_
    rintro e w1 ⟨rfl, rfl⟩
    go_wp2
    go_ret3
    refine ⟨?_, rfl⟩
    rw [HR.out]
    exact ret3 (unzig_xor v hv) (by dsimp only; omega) rfl
  · obtain ⟨x, hx, HE⟩ := readU_err s p he
    have HR := hid (show readI s p = (0, 0, x) from by unfold readI; rw [if_neg he, HE])
    have h := readUint_any s p w hs
    rw [HE] at h
    simp only [retU] at h
    have HC := hid h
    clear h HE he
    go_enter Try.func21, Try.ntmps21
    go_wp2_with fail
    refine HC.out.mono ?_
    rintro e w1 ⟨rfl, rfl⟩
    rcases hx with rfl | rfl
    · go_wp2
      go_ret3
      exact ⟨by rw [HR.out]; rfl, rfl⟩
    · go_wp2
      go_ret3
      exact ⟨by rw [HR.out]; rfl, rfl⟩

theorem rreadInt_any (s : ByteArray) (p : Int) (w : World) (hs : s.size ≤ 9223372036854775000) :
    Calls Try.prog 22 #[.string s, .int .i64 p] w fun e w' => e = .returned (retI (readI s p)) ∧ w = w' := by
  by_cases he : (readU s p).2.2 = 0
  · obtain ⟨q, k, rfl, hk, hqs, hst, hb, h9, h0, HE⟩ := readU_ok he
    have hv := val7_u64 s q k hk h9
    have HR := hid (show readI s q = (unzig (val7 s q (k + 1)), ((q + k + 1 : Nat) : Int), 0) from by unfold readI; rw [HE]; rfl)
    generalize val7 s q (k + 1) = v at *
    have h := rreadUint_any s q w hs
    rw [HE] at h
    simp only [retU] at h
    have HC := hid h
    clear h HE he hst hb h9 h0
    go_enter Try.func22, Try.ntmps22
    go_wp2_with fail
    refine HC.out.mono ?_
    rintro e w1 ⟨rfl, rfl⟩
    by_cases h1 : v % 2 = 1
    · have g1 : ((v : Int) % 2 == 1) = true := by rw [beq_iff_eq]; omega
      have HU := hid (show unzig v = -((v / 2 : Nat) : Int) - 1 from by unfold unzig; rw [if_pos h1])
      clear h1
      go_wp2
      go_ret3
      refine ⟨?_, rfl⟩
      rw [HR.out, HU.out]
      exact ret3 (by dsimp only; omega) (by dsimp only; omega) rfl
    · have g1 : ((v : Int) % 2 == 1) = false := by rw [beq_eq_false_iff_ne]; omega
      have HU := hid (show unzig v = ((v / 2 : Nat) : Int) from by unfold unzig; rw [if_neg h1])
      clear h1
      go_wp2
      go_ret3
      refine ⟨?_, rfl⟩
      rw [HR.out, HU.out]
      exact ret3 (by dsimp only; omega) (by dsimp only; omega) rfl
  · obtain ⟨x, hx, HE⟩ := readU_err s p he
    have HR := hid (show readI s p = (0, 0, x) from by unfold readI; rw [if_neg he, HE])
    have h := rreadUint_any s p w hs
    rw [HE] at h
    simp only [retU] at h
    have HC := hid h
    clear h HE he
    go_enter Try.func22, Try.ntmps22
    go_wp2_with fail
    refine HC.out.mono ?_
    rintro e w1 ⟨rfl, rfl⟩
    rcases hx with rfl | rfl
    · go_wp2
      go_ret3
      exact ⟨by rw [HR.out]; rfl, rfl⟩
    · go_wp2
      go_ret3
      exact ⟨by rw [HR.out]; rfl, rfl⟩

end Go.Proofs.Ytnobnokmecdkcaa
