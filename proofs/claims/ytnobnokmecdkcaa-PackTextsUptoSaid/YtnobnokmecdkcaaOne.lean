/-
  PackOne: the walks, joined.
-/
import Derived.Test.YtnobnokmecdkcaaOneW
namespace Go.Proofs.Ytnobnokmecdkcaa
open Go.RowKit

theorem packOne_walk (s : ByteArray) (p : Int) (hs : s.size ≤ 140737488351232) (w : World) :
    Calls Try.prog 8 #[.string s, .int .i64 p] w (Law w) := by
  have hs2 : s.size ≤ 9223372036854775000 := by omega
  have HU := fun w => readUint_any s p w hs2
  have HI := fun w => readInt_any s p w hs2
  have HT := fun w => readText_any s p w hs2
  have HO := fun w => readOrdered_any s p w hs2
  by_cases he : (readU s p).2.2 = 0
  · obtain ⟨q, n, v, rfl, hqn, hns, hv, HE, hx⟩ := readU_one he
    rw [show readI s q = (unzig v, (n : Int), 0) from by unfold readI; rw [HE]; rfl] at HI
    rw [HE] at HU
    have HUb := fun w => uint_any v w hv
    have HIb := fun w => int_any (unzig v) w (unzig_I64 v hv)
    rw [zig_unzig, ← hx] at HIb
    rw [← hx] at HUb
    have hz := unzig_I64 v hv
    simp only [retU] at HU
    simp only [retI] at HI HO
    by_cases hg : (s.size : Int) - (n : Int) < (v : Int)
    · rw [show readT s q = (.empty, 0, 20) from by unfold readT; rw [HE]; dsimp only; rw [if_pos rfl, if_pos hg]] at HT
      simp only [retT] at HT
      by_cases hO : (q : Int) < 0 ∨ (s.size : Int) - q < 8
      · rw [show readO s q = (0, 0, 20) from by unfold readO; rw [if_pos hO]] at HO
        exact one_ok_short_err s q w hs n v (unzig v) (by omega) (by omega) hz (hid HU) (hid HUb) (hid HI) (hid HIb) (hid HT) (hid HO)
      · rw [show readO s q = ((beN s q 8 : Int) - 9223372036854775808, ((q + 8 : Nat) : Int), 0) from by unfold readO; rw [if_neg hO, Int.toNat_natCast]; rfl] at HO
        have HOb := fun w => ordered_any _ w (beN_I64 s q).1
        rw [(beN_I64 s q).2, ← readO_one s q (by omega)] at HOb
        exact one_ok_short_ok s q w hs n v (unzig v) (by omega) (by omega) hz (hid HU) (hid HUb) (hid HI) (hid HIb) (hid HT) _ (q + 8) (by omega) (by omega) (hid HO) (hid HOb)
    · rw [show readT s q = (s.extract n (n + v), ((n + v : Nat) : Int), 0) from by unfold readT; rw [HE]; dsimp only; rw [if_pos rfl, if_neg hg, Int.toNat_natCast]; rfl] at HT
      have HTb := fun w => text_any (s.extract n (n + v)) w (by rw [ByteArray.size_extract]; omega)
      rw [← readT_one s q n v (by omega) hx (by omega)] at HTb
      simp only [retT] at HT
      by_cases hO : (q : Int) < 0 ∨ (s.size : Int) - q < 8
      · rw [show readO s q = (0, 0, 20) from by unfold readO; rw [if_pos hO]] at HO
        exact one_ok_ok_err s q w hs n v (unzig v) (by omega) (by omega) hz (hid HU) (hid HUb) (hid HI) (hid HIb) (n + v) _ (by omega) (by omega) (hid HT) (hid HTb) (hid HO)
      · rw [show readO s q = ((beN s q 8 : Int) - 9223372036854775808, ((q + 8 : Nat) : Int), 0) from by unfold readO; rw [if_neg hO, Int.toNat_natCast]; rfl] at HO
        have HOb := fun w => ordered_any _ w (beN_I64 s q).1
        rw [(beN_I64 s q).2, ← readO_one s q (by omega)] at HOb
        exact one_ok_ok_ok s q w hs n v (unzig v) (by omega) (by omega) hz (hid HU) (hid HUb) (hid HI) (hid HIb) (n + v) _ (by omega) (by omega) (hid HT) (hid HTb) _ (q + 8) (by omega) (by omega) (hid HO) (hid HOb)
  · obtain ⟨x, hx, HE⟩ := readU_err s p he
    rw [show readI s p = (0, 0, x) from by unfold readI; rw [if_neg he, HE]] at HI
    rw [show readT s p = (.empty, 0, x) from by unfold readT; rw [if_neg he, HE]] at HT
    rw [HE] at HU
    simp only [retU] at HU
    simp only [retI] at HI HO
    simp only [retT] at HT
    by_cases hO : p < 0 ∨ (s.size : Int) - p < 8
    · rw [show readO s p = (0, 0, 20) from by unfold readO; rw [if_pos hO]] at HO
      exact one_err_err s p w hs x hx (hid HU) (hid HI) (hid HT) (hid HO)
    · obtain ⟨q, rfl⟩ : ∃ q : Nat, p = q := ⟨p.toNat, by omega⟩
      rw [show readO s q = ((beN s q 8 : Int) - 9223372036854775808, ((q + 8 : Nat) : Int), 0) from by unfold readO; rw [if_neg hO, Int.toNat_natCast]; rfl] at HO
      have HOb := fun w => ordered_any _ w (beN_I64 s q).1
      rw [(beN_I64 s q).2, ← readO_one s q (by omega)] at HOb
      exact one_err_ok s q w hs x hx (hid HU) (hid HI) (hid HT) _ (q + 8) (by omega) (by omega) (hid HO) (hid HOb)

end Go.Proofs.Ytnobnokmecdkcaa
