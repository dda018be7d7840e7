/-
  Layer 20: wakes.
-/
import Derived.Test.YtakaalldbnklcaaDkN
namespace Go.Proofs.Ytakaalldbnklcaa
open Go.RowKit Go.WideShapes Go.ChangeShapes Go.ChangeAt Go.Deep
set_option linter.unusedVariables false

theorem tot_75 : netT [(1, 75)] = 75 ∧ taxT [(1, 75)] = 15 := by decide

set_option maxRecDepth 100000 in
set_option maxHeartbeats 8000000 in
theorem wakes_any (w : World) : Calls Try.prog 5 #[] w (Law w) := by
  go_enter Try.func5, Try.ntmps5
  go_wp2_with fail
  refine (dnew_any _).mono ?_
  rintro e w1 ⟨D, XC, BA, BH, XO, BP, BO, XI, BI, XS, XM, rfl, h⟩
  have c0 : w1.cell? ⟨D, 0, none⟩ = some (.pointer (some ⟨XC, 0, none⟩)) := h.blk.cell 0
  have K := hid (hl_customer h 100 (by omega) (by omega))
  clear h
  go_wp2_with fail
  refine K.out.mono ?_
  rintro e w2 ⟨ac, rfl, h⟩
  have c0 : w2.cell? ⟨D, 3, none⟩ = some (.pointer (some ⟨XO, 0, none⟩)) := h.ds.blk.cell 3
  replace K := hid (hl_item h 75 (by omega) (by omega))
  clear h
  go_wp2_with fail
  refine K.out.mono ?_
  rintro e w3 ⟨rfl, h⟩
  have c0 : w3.cell? ⟨D, 3, none⟩ = some (.pointer (some ⟨XO, 0, none⟩)) := h.ds.blk.cell 3
  have lD : D < w3.heap.size := h.ds.blk.lt
  replace K := hid (hl_add (h.next ((Below.refl _ _).alloc (Nat.le_refl _) (.cells #[.int .i64 1, .int .i64 1] 45))) (some ⟨w3.heap.size, 0, none⟩) (one_rd w3 ⟨1, 1⟩) 7 (by omega) (by omega) 75 (by rw [mget_mset, if_pos rfl]))
  clear h
  go_wp2_with fail
  refine K.out.mono ?_
  rintro e w4 ⟨o, rfl, h, o1, o2, o3, o4⟩
  rw [tot_75.1] at o3
  rw [tot_75.2] at o4
  have hno : o.n + o.t = 90 := by rw [o3, o4]; rfl
  have K := hl_do h 7 (by omega) (by omega) o (by rw [mget_mset, if_pos rfl]) o1 o2 (by omega) (by omega)
  rw [hno] at K
  replace K := hid K
  clear h o1 o2 o3 o4 hno
  go_wp2_with fail
  refine K.out.mono ?_
  rintro e w5 ⟨c, sum, ac5, hs5, m5, rfl, h, ha, hcs, _⟩
  have hc : c = 0 ∧ sum = 90 := by
    rcases hcs with ⟨h1, h2, _⟩ | ⟨_, _, h3⟩
    · exact ⟨h1, h2⟩
    · omega
  obtain ⟨rfl, rfl⟩ := hc
  have hb5 : Below w5.heap.size w5 (w5.alloc (.cells #[.bool true, .int .i64 0, .bool false, .bool false] 35)) := (Below.refl _ _).alloc (Nat.le_refl _) _
  have hB := Blk.new w5 35 #[.bool true, .int .i64 0, .bool false, .bool false]
  have K := hid (hl_again (h.next hb5) 7 0 ha)
  have H := hid (And.intro (h.next hb5) hB)
  clear h ha hcs hb5 hB
  simp only [vAns] at K ⊢
  obtain ⟨W, hW⟩ : ∃ W, W = w5.alloc (.cells #[.bool true, .int .i64 0, .bool false, .bool false] 35) := ⟨_, rfl⟩
  obtain ⟨G, hG⟩ : ∃ G, G = w5.heap.size := ⟨_, rfl⟩
  rw [← hW] at K H
  rw [← hG] at H
  have HW := hid hW
  have HG := hid hG
  clear hW hG
  go_wp2_with fail
  rw [← HW.out, ← HG.out]
  refine K.out.mono ?_
  rintro e w6 ⟨rfl, hb6⟩
  have hb7 : Below w6.heap.size w6 (w6.alloc (.cells #[.bool true, .int .i64 0, .bool false, .bool false] 35)) := (Below.refl _ _).alloc (Nat.le_refl _) _
  have hB2 := Blk.new w6 35 #[.bool true, .int .i64 0, .bool false, .bool false]
  have c0 : w6.cell? ⟨D, 0, none⟩ = some (.pointer (some ⟨XC, 0, none⟩)) := (H.out.1.next hb6).ds.blk.cell 0
  have lD : D < w6.heap.size := (H.out.1.next hb6).ds.blk.lt
  have h := (H.out.1.next hb6).next hb7
  have hA := (H.out.2.next hb6).next hb7
  clear K H HW HG
  obtain ⟨W7, hW⟩ : ∃ W, W = w6.alloc (.cells #[.bool true, .int .i64 0, .bool false, .bool false] 35) := ⟨_, rfl⟩
  obtain ⟨G2, hG⟩ : ∃ G, G = w6.heap.size := ⟨_, rfl⟩
  rw [← hW] at h hA hB2
  rw [← hG] at hB2
  have HW := hid hW
  have HG := hid hG
  have K := hid (hl_exposure h)
  have H := hid (And.intro h (And.intro hA hB2))
  clear h hA hB2 hW hG hb6 hb7
  go_wp2_with fail
  rw [← HW.out, ← HG.out]
  refine K.out.mono ?_
  rintro e w8 ⟨rfl, hb8⟩
  have h := H.out.1.next hb8
  have hA := H.out.2.1.next hb8
  have hB := H.out.2.2.next hb8
  have HB := hid h.ds.bel
  have lG := hA.lt
  have lG2 := hB.lt
  have p0 : w8.cell? ⟨G, 0, none⟩ = some (.bool true) := hA.cell 0
  have p1 : w8.cell? ⟨G, 1, none⟩ = some (.int .i64 0) := hA.cell 1
  have p2 : w8.cell? ⟨G, 2, none⟩ = some (.bool false) := hA.cell 2
  have p3 : w8.cell? ⟨G, 3, none⟩ = some (.bool false) := hA.cell 3
  have q0 : w8.cell? ⟨G2, 0, none⟩ = some (.bool true) := hB.cell 0
  have q1 : w8.cell? ⟨G2, 1, none⟩ = some (.int .i64 0) := hB.cell 1
  have q2 : w8.cell? ⟨G2, 2, none⟩ = some (.bool false) := hB.cell 2
  have q3 : w8.cell? ⟨G2, 3, none⟩ = some (.bool false) := hB.cell 3
  clear K H hb8 h hA hB HW HG c0 lD
  go_wp2_with fail
  go_ret
  exact ⟨by simp, HB.out⟩

end Go.Proofs.Ytakaalldbnklcaa
