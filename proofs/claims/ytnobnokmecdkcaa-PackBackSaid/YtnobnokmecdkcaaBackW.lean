/-
  The walk of PackBack.
-/
import Derived.Test.YtnobnokmecdkcaaBack
import Derived.Test.YtnobnokmecdkcaaTexts
namespace Go.Proofs.Ytnobnokmecdkcaa
open Go.RowKit

theorem unzig_zig (i : Int) : unzig (zig i) = i := by
  unfold unzig zig
  split <;> split <;> omega

set_option maxHeartbeats 2000000 in
theorem packBack_walk (n i k : Int) (hn : 0 ≤ n ∧ n < 18446744073709551616) (hi : I64 i) (hk : I64 k) (w : World) :
    Calls Try.prog 7 #[.int .u64 n, .int .i64 i, .int .i64 k] w (Law w) := by
  obtain ⟨v, rfl⟩ := Int.eq_ofNat_of_zero_le hn.1
  have hv : v < 18446744073709551616 := by omega
  have U1 := hid fun w => uint_any v w hv
  have U2 := hid fun w => int_any i w hi
  have U3 := hid fun w => text_any ⟨(ub v).toArray⟩ w (by rw [size_mk]; have := ub_len v; omega)
  have U4 := hid fun w => ordered_any k w hk
  have U5 := hid fun w => ordered_any i w hi
  have z1 : (⟨(ub v).toArray⟩ : ByteArray).size ≤ 10 := by rw [size_mk]; exact ub_len v
  have z2 : (⟨(ub (zig i)).toArray⟩ : ByteArray).size ≤ 10 := by rw [size_mk]; exact ub_len _
  have z3 : (txt ⟨(ub v).toArray⟩).size ≤ 20 := by unfold txt; rw [ByteArray.size_append, size_mk]; have := ub_len (⟨(ub v).toArray⟩ : ByteArray).size; omega
  have z4 : (⟨(be8 (lift k)).toArray⟩ : ByteArray).size = 8 := rfl
  have HL := hid (show (((⟨(ub v).toArray⟩ : ByteArray) ++ ⟨(ub (zig i)).toArray⟩ ++ txt ⟨(ub v).toArray⟩ ++ ⟨(be8 (lift k)).toArray⟩).data.toList) = ub v ++ (ub (zig i) ++ ((txt ⟨(ub v).toArray⟩).data.toList ++ be8 (lift k))) from by simp [ByteArray.data_append])
  obtain ⟨S, hS⟩ : ∃ S, S = ((⟨(ub v).toArray⟩ : ByteArray) ++ ⟨(ub (zig i)).toArray⟩ ++ txt ⟨(ub v).toArray⟩ ++ ⟨(be8 (lift k)).toArray⟩) := ⟨_, rfl⟩
  have hL : S.data.toList = ub v ++ (ub (zig i) ++ ((txt ⟨(ub v).toArray⟩).data.toList ++ be8 (lift k))) := by rw [hS]; exact HL.out
  have hzz := zig_lt i hi
  have hS8 : S.size ≤ 100 := by rw [hS]; simp only [ByteArray.size_append]; omega
  obtain ⟨g1, g2, _⟩ := ub_form v hv
  obtain ⟨g3, g4, _⟩ := ub_form (zig i) hzz
  have R1 : readU S 0 = (v, (((ub v).length : Nat) : Int), 0) := by
    have := readU_at (s := S) (pre := []) (l := ub v) (by rw [hL]; rfl) g1 (ub_len v) (by rw [g2]; exact hv)
    rw [g2] at this
    simpa using this
  have R2 : readI S ((ub v).length : Nat) = (i, (((ub v ++ ub (zig i)).length : Nat) : Int), 0) := by
    have := readU_at (s := S) (pre := ub v) (l := ub (zig i)) (by rw [hL]) g3 (ub_len _) (by rw [g4]; exact hzz)
    rw [g4] at this
    unfold readI
    rw [this]
    simp [unzig_zig]
  have R3 : readT S ((ub v ++ ub (zig i)).length : Nat) = (⟨(ub v).toArray⟩, (((ub v ++ ub (zig i) ++ (txt ⟨(ub v).toArray⟩).data.toList).length : Nat) : Int), 0) := by
    have := readT_at (s := S) (pre := ub v ++ ub (zig i)) (rest := be8 (lift k)) ⟨(ub v).toArray⟩ (by rw [size_mk]; have := ub_len v; omega) (by rw [hL]; simp)
    rw [this, List.length_append (bs := (txt _).data.toList), ← size_list]
  have R4 : readO S ((ub v ++ ub (zig i) ++ (txt ⟨(ub v).toArray⟩).data.toList).length : Nat) = (k, (((ub v ++ ub (zig i) ++ (txt ⟨(ub v).toArray⟩).data.toList).length : Nat) : Int) + 8, 0) := by
    have := readO_at (ub v ++ ub (zig i) ++ (txt ⟨(ub v).toArray⟩).data.toList) S [] (lift k) (lift_lt k hk) (by rw [hL]; simp)
    rw [this]
    have hb := hk.bd
    unfold lift
    congr 1
    omega
  have hSz : S.size = (ub v ++ ub (zig i) ++ (txt ⟨(ub v).toArray⟩).data.toList).length + 8 := by rw [size_list, hL]; simp [be8]; omega
  have hS9 : S.size ≤ 9223372036854775000 := by omega
  have C1 := fun w => readUint_any S 0 w hS9
  rw [R1] at C1
  have C2 := fun w => readInt_any S ((ub v).length : Nat) w hS9
  rw [R2] at C2
  have C3 := fun w => readText_any S ((ub v ++ ub (zig i)).length : Nat) w hS9
  rw [R3] at C3
  have C4 := fun w => readOrdered_any S ((ub v ++ ub (zig i) ++ (txt ⟨(ub v).toArray⟩).data.toList).length : Nat) w hS9
  rw [R4] at C4
  simp only [retU] at C1
  simp only [retI] at C2 C4
  simp only [retT] at C3
  clear R1 R2 R3 R4 hL HL g1 g2 g3 g4 hzz
  generalize (ub v ++ ub (zig i) ++ (txt ⟨(ub v).toArray⟩).data.toList).length = n3 at *
  generalize (ub v ++ ub (zig i)).length = n2 at *
  generalize (ub v).length = n1 at *
  replace C1 := hid C1
  replace C2 := hid C2
  replace C3 := hid C3
  replace C4 := hid C4
  have hl := hid (be8_less (lift i) (lift k) (lift_lt i hi) (lift_lt k hk))
  have hj := hid (be8_inj (lift i) (lift k) (lift_lt i hi) (lift_lt k hk))
  generalize (⟨(ub v).toArray⟩ : ByteArray) = a1 at *
  generalize (⟨(ub (zig i)).toArray⟩ : ByteArray) = a2 at *
  generalize txt a1 = a3 at *
  have z6 : (⟨(be8 (lift i)).toArray⟩ : ByteArray).size = 8 := rfl
  have hl' : Op.bytesLess (⟨(be8 (lift i)).toArray⟩ : ByteArray).data.toList (⟨(be8 (lift k)).toArray⟩ : ByteArray).data.toList = decide (lift i < lift k) := hl.out
  have hj' : (⟨(be8 (lift i)).toArray⟩ : ByteArray) = ⟨(be8 (lift k)).toArray⟩ → lift i = lift k := fun h => hj.out (by simpa using h)
  have hj2 : lift i = lift k → (⟨(be8 (lift i)).toArray⟩ : ByteArray) = ⟨(be8 (lift k)).toArray⟩ := fun h => by rw [h]
  generalize (⟨(be8 (lift i)).toArray⟩ : ByteArray) = a5 at *
  generalize (⟨(be8 (lift k)).toArray⟩ : ByteArray) = a4 at *
  have Z6 := hid z6
  have hbi := hi.bd
  have hbk := hk.bd
  have q1 : Op.bytesLess a5.toList a4.toList = decide (i < k) := by
    rw [ByteArray.toList_eq, ByteArray.toList_eq, hl', decide_eq_decide]
    unfold lift; omega
  have q2 : (a5.toList == a4.toList) = (i == k) := by
    rw [Bool.eq_iff_iff, beq_iff_eq, beq_iff_eq, ByteArray.toList_eq, ByteArray.toList_eq]
    constructor
    · intro h
      have := hj' (ba_ext h)
      unfold lift at this; omega
    · intro h
      rw [hj2 (by rw [h])]
  have Q1 := hid q1
  have Q2 := hid q2
  clear q1 q2 hbi hbk
  clear z6 hl' hj' hj2 hl hj
  have HSS := hid hS
  clear hS
  have HSz := hid hSz
  clear hSz
  have z5 : a4.size ≤ 8 := Nat.le_of_eq z4
  clear z4
  go_enter Try.func7, Try.ntmps7
  go_wp2_with fail
  refine (wakes_any _).mono ?_
  rintro e w1 ⟨rfl, hb⟩
  go_wp2_with fail
  refine (U1.out _).mono ?_
  rintro e w2 ⟨rfl, hb1⟩
  replace hb := bthen hb hb1
  go_wp2_with fail
  refine (U2.out _).mono ?_
  rintro e w3 ⟨rfl, hb1⟩
  replace hb := bthen hb hb1
  go_wp2_with fail
  refine (U1.out _).mono ?_
  rintro e w4 ⟨rfl, hb1⟩
  replace hb := bthen hb hb1
  go_wp2_with fail
  refine (U3.out _).mono ?_
  rintro e w5 ⟨rfl, hb1⟩
  replace hb := bthen hb hb1
  go_wp2_with fail
  refine (U4.out _).mono ?_
  rintro e w6 ⟨rfl, hb1⟩
  replace hb := bthen hb hb1
  go_wp2_with fail
  rw [← HSS.out]
  refine (C1.out _).mono ?_
  rintro e v1 ⟨rfl, rfl⟩
  go_wp2_with fail
  refine (C2.out _).mono ?_
  rintro e v2 ⟨rfl, rfl⟩
  go_wp2_with fail
  refine (C3.out _).mono ?_
  rintro e v3 ⟨rfl, rfl⟩
  go_wp2_with fail
  refine (C4.out _).mono ?_
  rintro e v4 ⟨rfl, rfl⟩
  have hq := HSz.out
  go_wp2_with fail
  refine (U1.out _).mono ?_
  rintro e w7 ⟨rfl, hb1⟩
  replace hb := bthen hb hb1
  go_wp2_with fail
  refine (U5.out _).mono ?_
  rintro e w8 ⟨rfl, hb1⟩
  replace hb := bthen hb hb1
  go_wp2_with fail
  refine (U4.out _).mono ?_
  rintro e w9 ⟨rfl, hb1⟩
  replace hb := bthen hb hb1
  have q1 := Q1.out
  have q2 := Q2.out
  have q3 := Z6.out
  go_wp2_with fail
  go_ret
  exact ⟨rfl, hb⟩

end Go.Proofs.Ytnobnokmecdkcaa
