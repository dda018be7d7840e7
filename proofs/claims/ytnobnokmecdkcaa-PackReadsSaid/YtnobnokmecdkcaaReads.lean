/-
  The walk of PackReads.
-/
import Derived.Test.YtnobnokmecdkcaaReadO
namespace Go.Proofs.Ytnobnokmecdkcaa
open Go.RowKit

set_option maxHeartbeats 2000000 in
theorem packReads_walk (s : ByteArray) (p : Int) (hs : s.size ≤ 140737488351232) (w : World) :
    Calls Try.prog 6 #[.string s, .int .i64 p] w (Law w) := by
  have hs2 : s.size ≤ 9223372036854775000 := by omega
  have a1 := fun w => readUint_any s p w hs2
  have a2 := fun w => rreadUint_any s p w hs2
  generalize readU s p = x at a1 a2
  obtain ⟨x1, x2, x3⟩ := x
  simp only [retU] at a1 a2
  have b1 := fun w => readInt_any s p w hs2
  have b2 := fun w => rreadInt_any s p w hs2
  generalize readI s p = y at b1 b2
  obtain ⟨y1, y2, y3⟩ := y
  simp only [retI] at b1 b2
  have c1 := fun w => readText_any s p w hs2
  have c2 := fun w => rreadText_any s p w hs2
  generalize readT s p = z at c1 c2
  obtain ⟨z1, z2, z3⟩ := z
  simp only [retT] at c1 c2
  have d1 := fun w => readOrdered_any s p w hs2
  have d2 := fun w => rreadOrdered_any s p w hs2
  generalize readO s p = t at d1 d2
  obtain ⟨t1, t2, t3⟩ := t
  simp only [retI] at d1 d2
  replace a1 := hid a1
  replace a2 := hid a2
  replace b1 := hid b1
  replace b2 := hid b2
  replace c1 := hid c1
  replace c2 := hid c2
  replace d1 := hid d1
  replace d2 := hid d2
  go_enter Try.func6, Try.ntmps6
  go_wp2_with fail
  refine (a1.out w).mono ?_
  rintro e w1 ⟨rfl, rfl⟩
  go_wp2_with fail
  refine (a2.out w).mono ?_
  rintro e w1 ⟨rfl, rfl⟩
  go_wp2_with fail
  refine (wakes_any w).mono ?_
  rintro e w1 ⟨rfl, hb⟩
  go_wp2_with fail
  refine (b1.out w1).mono ?_
  rintro e w2 ⟨rfl, rfl⟩
  go_wp2_with fail
  refine (b2.out w1).mono ?_
  rintro e w2 ⟨rfl, rfl⟩
  go_wp2_with fail
  refine (d1.out w1).mono ?_
  rintro e w2 ⟨rfl, rfl⟩
  go_wp2_with fail
  refine (d2.out w1).mono ?_
  rintro e w2 ⟨rfl, rfl⟩
  go_wp2_with fail
  refine (c1.out w1).mono ?_
  rintro e w2 ⟨rfl, rfl⟩
  go_wp2_with fail
  refine (c2.out w1).mono ?_
  rintro e w2 ⟨rfl, rfl⟩
  go_wp2
  go_ret
  exact ⟨rfl, hb⟩

end Go.Proofs.Ytnobnokmecdkcaa
