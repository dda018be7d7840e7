/-
  The walk of DeskNone.
-/
import Derived.Test.YtakaalldbnklcaaDkW
import Derived.Test.YtakaalldbnklcaaDkArg
namespace Go.Proofs.Ytakaalldbnklcaa
open Go.RowKit Go.WideShapes Go.ChangeShapes Go.ChangeAt Go.Deep
set_option linter.unusedVariables false

theorem ask_nil (o s t : Int) (u : Bool) (w : World) : Calls Try.prog 13 #[.pointer none, .int .i64 o, .int .i64 s, .int .i64 t, .bool u] w fun e w' => e = .returned (.tuple #[.int .i64 2, .int .i64 0]) ∧ w = w' := by
  go_enter Try.func13, Try.ntmps13
  go_wp2_with fail
  go_ret2
  exact ⟨rfl, rfl⟩
theorem doNil_any (key s t : Int) (v : ByteArray) (u : Bool) (w : World) : Calls Try.prog 6 #[.pointer none, .int .i64 key, .int .i64 s, .int .i64 t, .string v, .bool u] w fun e w' => e = .returned (vAns false 0 false false) ∧ Below w.heap.size w w' := by
  have hwb : Below w.heap.size w (w.alloc (.cells #[.bool false, .int .i64 0, .bool false, .bool false] 35)) := (Below.refl _ _).alloc (Nat.le_refl _) _
  have hB := Blk.new w 35 #[.bool false, .int .i64 0, .bool false, .bool false]
  go_enter Try.func6, Try.ntmps6
  go_wp2_with fail
  refine bodyPost_ret (v := vAns false 0 false false) (by simp [results, Try.results6, go_sem]; rfl) rfl ⟨rfl, hwb⟩
theorem doBare_any (D : Nat) (key s t : Int) (v : ByteArray) (u : Bool) (w : World) (h : Blk w D 32 #[.pointer none, .pointer none, .pointer none, .pointer none, .pointer none]) : Calls Try.prog 6 #[.pointer (some ⟨D, 0, none⟩), .int .i64 key, .int .i64 s, .int .i64 t, .string v, .bool u] w fun e w' => e = .returned (vAns false 0 false false) ∧ Below w.heap.size w w' := by
  have hwb : Below w.heap.size w (w.alloc (.cells #[.bool false, .int .i64 0, .bool false, .bool false] 35)) := (Below.refl _ _).alloc (Nat.le_refl _) _
  have hB := Blk.new w 35 #[.bool false, .int .i64 0, .bool false, .bool false]
  have c4 : w.cell? ⟨D, 4, none⟩ = some (.pointer none) := h.cell 4
  have lD := h.lt
  have K := hid (fun w' => ask_nil key s t u w')
  clear h
  go_enter Try.func6, Try.ntmps6
  go_wp2_with fail
  refine (K.out _).mono ?_
  rintro e w1 ⟨rfl, rfl⟩
  clear c4
  go_wp2_with fail
  refine bodyPost_ret (v := vAns false 0 false false) (by simp [results, Try.results6, go_sem]; rfl) rfl ⟨rfl, hwb⟩

set_option maxRecDepth 100000 in
set_option maxHeartbeats 4000000 in
theorem deskNone_walk (x : DOp) (w : World) :
    Calls Try.prog 3 #[.agg (enDo x).toArray] w (Law w) := by
  obtain ⟨kd, ky, st, tr, vb, un, A, cap, ls⟩ := x
  simp only [enDo]
  have hwb : Below w.heap.size w (w.alloc (.cells #[.int .i64 kd, .int .i64 ky, .int .i64 st, .int .i64 tr, .string vb, .bool un, .slice A ls.length cap] 24)) := (Below.refl _ _).alloc (Nat.le_refl _) _
  have hB := Blk.new w 24 #[.int .i64 kd, .int .i64 ky, .int .i64 st, .int .i64 tr, .string vb, .bool un, .slice A ls.length cap]
  have hwb2 : Below w.heap.size w ((w.alloc (.cells #[.int .i64 kd, .int .i64 ky, .int .i64 st, .int .i64 tr, .string vb, .bool un, .slice A ls.length cap] 24)).alloc (.cells #[.pointer none, .pointer none, .pointer none, .pointer none, .pointer none] 32)) := hwb.alloc hwb.size _
  have hB2 := hB.alloc (.cells #[.pointer none, .pointer none, .pointer none, .pointer none, .pointer none] 32)
  have hD := Blk.new (w.alloc (.cells #[.int .i64 kd, .int .i64 ky, .int .i64 st, .int .i64 tr, .string vb, .bool un, .slice A ls.length cap] 24)) 32 #[.pointer none, .pointer none, .pointer none, .pointer none, .pointer none]
  rw [World.size_alloc] at hD
  obtain ⟨W, hW⟩ : ∃ W, W = ((w.alloc (.cells #[.int .i64 kd, .int .i64 ky, .int .i64 st, .int .i64 tr, .string vb, .bool un, .slice A ls.length cap] 24)).alloc (.cells #[.pointer none, .pointer none, .pointer none, .pointer none, .pointer none] 32)) := ⟨_, rfl⟩
  rw [← hW] at hwb2 hB2 hD
  have HW := hid hW
  have H := hid (And.intro hwb2 (And.intro hB2 hD))
  clear hwb hB hwb2 hB2 hD hW
  go_enter Try.func3, Try.ntmps3
  go_wp2_with fail
  rw [← HW.out]
  refine (wakes_any _).mono ?_
  rintro e w1 ⟨rfl, hb1⟩
  have hO := H.out.2.1.next hb1
  have g1 : w1.cell? ⟨w.heap.size, 1, none⟩ = some (.int .i64 ky) := hO.cell 1
  have g2 : w1.cell? ⟨w.heap.size, 2, none⟩ = some (.int .i64 st) := hO.cell 2
  have g3 : w1.cell? ⟨w.heap.size, 3, none⟩ = some (.int .i64 tr) := hO.cell 3
  have g4 : w1.cell? ⟨w.heap.size, 4, none⟩ = some (.string vb) := hO.cell 4
  have g5 : w1.cell? ⟨w.heap.size, 5, none⟩ = some (.bool un) := hO.cell 5
  have lG := hO.lt
  have H1 := hid (And.intro hO (And.intro (H.out.2.2.next hb1) (H.out.1.trans (hb1.mono H.out.1.size))))
  clear hO H HW hb1
  go_wp2_with fail
  refine (doNil_any ky st tr vb un w1).mono ?_
  rintro e w2 ⟨rfl, hb2⟩
  have hO := H1.out.1.next hb2
  have g1 : w2.cell? ⟨w.heap.size, 1, none⟩ = some (.int .i64 ky) := hO.cell 1
  have g2 : w2.cell? ⟨w.heap.size, 2, none⟩ = some (.int .i64 st) := hO.cell 2
  have g3 : w2.cell? ⟨w.heap.size, 3, none⟩ = some (.int .i64 tr) := hO.cell 3
  have g4 : w2.cell? ⟨w.heap.size, 4, none⟩ = some (.string vb) := hO.cell 4
  have g5 : w2.cell? ⟨w.heap.size, 5, none⟩ = some (.bool un) := hO.cell 5
  have lG := hO.lt
  have K := hid (doBare_any (w.heap.size + 1) ky st tr vb un w2 (H1.out.2.1.next hb2))
  have H2 := hid (H1.out.2.2.trans (hb2.mono H1.out.2.2.size))
  clear hO H1 hb2
  simp only [vAns] at K ⊢
  go_wp2_with fail
  refine K.out.mono ?_
  rintro e w3 ⟨rfl, hb3⟩
  have H3 := hid (H2.out.trans (hb3.mono H2.out.size))
  clear K H2 hb3 g1 g2 g3 g4 g5 lG
  go_wp2_with fail
  go_ret
  exact ⟨by simp, H3.out⟩

end Go.Proofs.Ytakaalldbnklcaa
