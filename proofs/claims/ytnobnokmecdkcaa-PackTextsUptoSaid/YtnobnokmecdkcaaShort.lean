/-
  The walk of PackShort.
-/
import Derived.Test.YtnobnokmecdkcaaOne
namespace Go.Proofs.Ytnobnokmecdkcaa
open Go.RowKit

/-- Where a form is cut. -/
def cutOf (c : Int) (s : ByteArray) : Nat := (max 0 c % (s.size : Int)).toNat

theorem cutOf_lt (c : Int) (s : ByteArray) (h : 0 < s.size) : cutOf c s < s.size := by
  unfold cutOf
  have h1 := Int.emod_lt_of_pos (max 0 c) (show (0 : Int) < s.size by omega)
  have h2 := Int.emod_nonneg (max 0 c) (show (s.size : Int) ≠ 0 by omega)
  omega

set_option maxHeartbeats 1000000 in
theorem short_any (g : Nat) (c : Int) (s : ByteArray) (w : World) (hB : Blk w g 3 #[.int .i64 c]) (h0 : 0 < s.size) (hc : I64 c) (hs : s.size ≤ 9223372036854775000) :
    Calls Try.prog 26 #[.string s, .pointer (some ⟨g, 0, none⟩)] w fun e w' => e = .returned (.string (s.extract 0 (cutOf c s))) ∧ w = w' := by
  obtain ⟨c1, c2⟩ := hc.bd
  have hcell : w.cell? ⟨g, 0, none⟩ = some (.int .i64 c) := by rw [hB.cell]; rfl
  have hm : ((s.size : Int) == 0) = false := by rw [beq_eq_false_iff_ne]; omega
  have h1 := Int.emod_lt_of_pos (max 0 c) (show (0 : Int) < s.size by omega)
  have h2 := Int.emod_nonneg (max 0 c) (show (s.size : Int) ≠ 0 by omega)
  have h3 : max 0 c % (s.size : Int) ≤ s.size := by omega
  go_enter Try.func26, Try.ntmps26
  go_wp2
  go_ret
  exact ⟨rfl, rfl⟩

theorem cut_list (s : ByteArray) (k : Nat) : (s.extract 0 k).data.toList = s.data.toList.take k := by rw [extract_list]; simp

theorem ub_form (v : Nat) (hv : v < 18446744073709551616) : Form (ub v) ∧ valL (ub v) = v ∧ 0 < (ub v).length := by
  obtain ⟨h1, h2, _⟩ := leb_form 10 v (by omega) (by
    have : (128 : Nat) ^ 10 = 1180591620717411303424 := by decide +kernel
    omega)
  refine ⟨h1, h2, ?_⟩
  obtain ⟨h, b, e, _⟩ := h1
  show 0 < (leb 10 v).length
  rw [e]; simp

theorem readU_short (v : Nat) (hv : v < 18446744073709551616) (k : Nat) (hk : k < (ub v).length) : readU ((⟨(ub v).toArray⟩ : ByteArray).extract 0 k) 0 = (0, 0, 20) := by
  obtain ⟨h1, _, _⟩ := ub_form v hv
  exact readU_cut (pre := []) (l := ub v) (c := k) (by rw [cut_list]; rfl) h1 (ub_len v) hk
theorem readT_short (t : ByteArray) (ht : t.size ≤ 140737488351232) (k : Nat) (hk : k < (txt t).size) : readT ((txt t).extract 0 k) 0 = (.empty, 0, 20) := by
  obtain ⟨h1, h2, _⟩ := ub_form t.size (by omega)
  have hl : (txt t).data.toList = ub t.size ++ t.data.toList := by unfold txt; rw [ByteArray.data_append, Array.toList_append]
  have hz : (txt t).size = (ub t.size).length + t.size := by rw [size_list, hl, List.length_append, ← size_list]
  by_cases h : k < (ub t.size).length
  · have e : readU ((txt t).extract 0 k) 0 = (0, 0, 20) :=
      readU_cut (pre := []) (l := ub t.size) (c := k) (by rw [cut_list, hl, List.take_append_of_le_length (by omega)]; rfl) h1 (ub_len _) h
    unfold readT
    rw [e]
    rfl
  · have e : readU ((txt t).extract 0 k) 0 = (valL (ub t.size), ((0 + (ub t.size).length : Nat) : Int), 0) :=
      readU_at (pre := []) (l := ub t.size) (rest := t.data.toList.take (k - (ub t.size).length)) (by rw [cut_list, hl, List.take_append, List.take_of_length_le (by omega)]; rfl) h1 (ub_len _) (by rw [h2]; omega)
    unfold readT
    rw [e, h2]
    dsimp only
    rw [if_pos rfl, if_pos]
    rw [ByteArray.size_extract]
    omega
theorem readO_short (s : ByteArray) (h : s.size = 8) (k : Nat) (hk : k < 8) : readO (s.extract 0 k) 0 = (0, 0, 20) := by
  unfold readO
  rw [if_pos]
  rw [ByteArray.size_extract]
  omega

set_option maxHeartbeats 2000000 in
theorem packShort_walk (n c : Int) (t : ByteArray) (hn : 0 ≤ n ∧ n < 18446744073709551616) (hc : I64 c) (ht : t.size ≤ 140737488351232) (w : World) :
    Calls Try.prog 9 #[.int .u64 n, .string t, .int .i64 c] w (Law w) := by
  obtain ⟨v, rfl⟩ := Int.eq_ofNat_of_zero_le hn.1
  have hv : v < 18446744073709551616 := by omega
  have hi : I64 (wrap64 v) := by unfold I64; exact wrap64_wf _
  have hzz := zig_lt (wrap64 v) hi
  have f1 := hid (ub_form v hv).2.2
  have f2 := hid (ub_form _ hzz).2.2
  have l1 := hid (ub_len v)
  have l2 := hid (ub_len (zig (wrap64 v)))
  have z1 : (⟨(ub v).toArray⟩ : ByteArray).size = (ub v).length := size_mk _
  have z2 : (⟨(ub (zig (wrap64 v))).toArray⟩ : ByteArray).size = (ub (zig (wrap64 v))).length := size_mk _
  have z3 : (⟨(be8 (lift (wrap64 v))).toArray⟩ : ByteArray).size = 8 := rfl
  have z4 : (txt t).size = (ub t.size).length + t.size := by unfold txt; rw [ByteArray.size_append, size_mk]
  have l4 := ub_len t.size
  have f4 := (ub_form t.size (by omega)).2.2
  have c1 := cutOf_lt c ⟨(ub v).toArray⟩ (by rw [z1]; exact f1.out)
  have c2 := cutOf_lt c ⟨(ub (zig (wrap64 v))).toArray⟩ (by rw [z2]; exact f2.out)
  have c3 := cutOf_lt c ⟨(be8 (lift (wrap64 v))).toArray⟩ (by rw [z3]; omega)
  have c4 := cutOf_lt c (txt t) (by omega)
  have R1 := fun w => readUint_any ((⟨(ub v).toArray⟩ : ByteArray).extract 0 (cutOf c ⟨(ub v).toArray⟩)) 0 w (by rw [ByteArray.size_extract, z1]; have := l1.out; omega)
  rw [readU_short v hv _ (by rw [← z1]; exact c1)] at R1
  have R2 := fun w => readInt_any ((⟨(ub (zig (wrap64 v))).toArray⟩ : ByteArray).extract 0 (cutOf c ⟨(ub (zig (wrap64 v))).toArray⟩)) 0 w (by rw [ByteArray.size_extract, z2]; have := l2.out; omega)
  rw [show readI ((⟨(ub (zig (wrap64 v))).toArray⟩ : ByteArray).extract 0 (cutOf c ⟨(ub (zig (wrap64 v))).toArray⟩)) 0 = (0, 0, 20) from by unfold readI; rw [readU_short _ hzz _ (by rw [← z2]; exact c2)]; rfl] at R2
  have R3 := fun w => readOrdered_any ((⟨(be8 (lift (wrap64 v))).toArray⟩ : ByteArray).extract 0 (cutOf c ⟨(be8 (lift (wrap64 v))).toArray⟩)) 0 w (by rw [ByteArray.size_extract, z3]; omega)
  rw [readO_short _ z3 _ (by rw [z3] at c3; exact c3)] at R3
  have R4 := fun w => readText_any ((txt t).extract 0 (cutOf c (txt t))) 0 w (by rw [ByteArray.size_extract, z4]; omega)
  rw [readT_short t ht _ c4] at R4
  simp only [retU] at R1
  simp only [retI] at R2 R3
  simp only [retT] at R4
  have U1 := fun w => uint_any v w hv
  have U2 := fun w => int_any (wrap64 v) w hi
  have U3 := fun w => ordered_any (wrap64 v) w hi
  have U4 := fun w => text_any t w (by omega)
  have S1 := fun g w hB => short_any g c ⟨(ub v).toArray⟩ w hB (by rw [z1]; exact f1.out) hc (by rw [z1]; have := l1.out; omega)
  have S2 := fun g w hB => short_any g c ⟨(ub (zig (wrap64 v))).toArray⟩ w hB (by rw [z2]; exact f2.out) hc (by rw [z2]; have := l2.out; omega)
  have S3 := fun g w hB => short_any g c ⟨(be8 (lift (wrap64 v))).toArray⟩ w hB (by rw [z3]; omega) hc (by rw [z3]; omega)
  have S4 := fun g w hB => short_any g c (txt t) w hB (by omega) hc (by omega)
  clear c1 c2 c3 c4 z1 z2 z3 z4 f1 f2 l1 l2 l4 f4
  generalize cutOf c ⟨(ub v).toArray⟩ = k1 at R1 S1
  generalize cutOf c ⟨(ub (zig (wrap64 v))).toArray⟩ = k2 at R2 S2
  generalize cutOf c ⟨(be8 (lift (wrap64 v))).toArray⟩ = k3 at R3 S3
  generalize cutOf c (txt t) = k4 at R4 S4
  generalize (⟨(ub v).toArray⟩ : ByteArray) = s1 at R1 S1 U1
  generalize (⟨(ub (zig (wrap64 v))).toArray⟩ : ByteArray) = s2 at R2 S2 U2
  generalize (⟨(be8 (lift (wrap64 v))).toArray⟩ : ByteArray) = s3 at R3 S3 U3
  generalize txt t = s4 at R4 S4 U4
  generalize s1.extract 0 k1 = x1 at R1 S1
  generalize s2.extract 0 k2 = x2 at R2 S2
  generalize s3.extract 0 k3 = x3 at R3 S3
  generalize s4.extract 0 k4 = x4 at R4 S4
  go_enter Try.func9, Try.ntmps9
  go_wp2_with fail
  have hB : Blk (w.alloc (.cells #[.int .i64 c] 3)) w.heap.size 3 #[.int .i64 c] := Blk.new _ _ _
  have hb : Below w.heap.size w (w.alloc (.cells #[.int .i64 c] 3)) := (Below.refl _ _).alloc (Nat.le_refl _) _
  refine (wakes_any _).mono ?_
  rintro e w1 ⟨rfl, hb1⟩
  replace hB := hB.next hb1
  replace hb := bthen hb hb1
  clear hb1
  go_wp2_with fail
  refine (U1 _).mono ?_
  rintro e v1 ⟨rfl, hb1⟩
  replace hB := hB.next hb1
  replace hb := bthen hb hb1
  clear hb1
  go_wp2_with fail
  refine (S1 _ _ hB).mono ?_
  rintro e y1 ⟨rfl, rfl⟩
  go_wp2_with fail
  refine (R1 _).mono ?_
  rintro e z1 ⟨rfl, rfl⟩
  go_wp2_with fail
  refine (U2 _).mono ?_
  rintro e v2 ⟨rfl, hb1⟩
  replace hB := hB.next hb1
  replace hb := bthen hb hb1
  clear hb1
  go_wp2_with fail
  refine (S2 _ _ hB).mono ?_
  rintro e y2 ⟨rfl, rfl⟩
  go_wp2_with fail
  refine (R2 _).mono ?_
  rintro e z2 ⟨rfl, rfl⟩
  go_wp2_with fail
  refine (U3 _).mono ?_
  rintro e v3 ⟨rfl, hb1⟩
  replace hB := hB.next hb1
  replace hb := bthen hb hb1
  clear hb1
  go_wp2_with fail
  refine (S3 _ _ hB).mono ?_
  rintro e y3 ⟨rfl, rfl⟩
  go_wp2_with fail
  refine (R3 _).mono ?_
  rintro e z3 ⟨rfl, rfl⟩
  go_wp2_with fail
  refine (U4 _).mono ?_
  rintro e v4 ⟨rfl, hb1⟩
  replace hB := hB.next hb1
  replace hb := bthen hb hb1
  clear hb1
  go_wp2_with fail
  refine (S4 _ _ hB).mono ?_
  rintro e y4 ⟨rfl, rfl⟩
  go_wp2_with fail
  refine (R4 _).mono ?_
  rintro e z4 ⟨rfl, rfl⟩
  go_wp2
  go_ret
  exact ⟨rfl, hb⟩

end Go.Proofs.Ytnobnokmecdkcaa
