/-
  A plan, while a law asks it: every method, at every number.
-/
import Derived.Test.YtemhoaapapeilaaRe12
import Derived.Test.YtemhoaapapeilaaFp12
namespace Go.Proofs.Ytemhoaapapeilaa
open Go.RowKit Go.WideShapes Go.ChangeShapes Go.ChangeAt Go.Deep
set_option linter.unusedVariables false

structure AsS (w0 : World) (base : Nat) (nm : ByteArray) (P : Nat) (vS vB : Value) (Ls : List Stp) (Bs : List IRow) (ask : Int) (w : World) : Prop where
  ex : ∃ vH Hs dn, PlW base nm P vS vB vH Ls Bs Hs dn ask w ∧ (dn = true → HsOk Bs Hs Ls.length) ∧ (dn = false → vH = .slice none 0 0)
  rows : RowsOk Ls Bs
  aft : ∀ s ∈ Ls, s.after.length * 16 ≤ 140737488355328
  bel : Below w0.heap.size w0 w
  lo : w0.heap.size ≤ base
theorem hasN_out {n : Nat} {i : Int} (h : hasN n i = false) : i < 0 ∨ (n : Int) ≤ i := by
  unfold hasN at h
  by_cases h0 : 0 ≤ i
  · right
    simpa [h0] using h
  · left; omega
theorem rowAt_out {Bs : List IRow} {i : Int} (h : hasN Bs.length i = false) : rowAt Bs i = [] := by
  unfold rowAt
  split
  · rename_i h0
    rcases hasN_out h with h1 | h1
    · omega
    · rw [List.getElem?_eq_none (by omega)]; rfl
  · rfl
/-- Made by Compile: what a law has in hand. -/
theorem made_as {w0 w1 : World} {nm : ByteArray} {l : List Stp} {P : Nat} {vS vB : Value} {Ls : List Stp} {Bs : List IRow} {base : Nat} (hc : checkN l = 0) (hp : PlB base nm P vS vB Ls Bs w1) (hg : PlG l (ordN (grf l) l.length) Ls Bs) (hl : l.length ≤ 1000) (hok : ∀ s ∈ l, s.after.length * 16 ≤ 140737488355328) (hb : Below w0.heap.size w0 w1) (hlo : w0.heap.size ≤ base) :
    AsS w0 base nm P vS vB Ls Bs 0 w1 ∧ Ls.length = l.length := by
  obtain ⟨h1, h2, h3, h4⟩ := checkN_zero hc
  have hol : (ordN (grf l) l.length).length = l.length := ordN_len h2 (grf_shut h1) l.length (by rw [grf_len]; exact Nat.le_refl _)
  refine ⟨⟨⟨_, _, _, hp.plw, (fun e => by cases e), fun _ => rfl⟩, hg.rows (ordN_ok _ _) (by omega), fun s hs => ?_, hb, hlo⟩, by rw [hg.ls, hol]⟩
  obtain ⟨p, hp⟩ := List.mem_iff_getElem?.1 hs
  have hpl : p < (ordN (grf l) l.length).length := by rw [← hg.ls]; exact (List.getElem?_eq_some_iff.1 hp).1
  obtain ⟨s', A', c', g1, g2⟩ := hg.step p _ (List.getElem?_eq_getElem hpl)
  rw [hp] at g2
  injection g2 with g2
  rw [g2]
  exact hok s' (List.mem_of_getElem? g1)
set_option maxRecDepth 100000 in
set_option maxHeartbeats 8000000 in
theorem step_out2 (pv : Value) (n : Nat) (i : Int) (w : World) (KL : ∀ w2, Below w.heap.size w w2 → Calls Try.prog 11 #[pv] w2 fun e w' => e = .returned (.int .i64 (n : Int)) ∧ w' = w2) (hi : hasN n i = false) : Calls Try.prog 12 #[pv, .int .i64 i] w (StepR zeroSt w) := by
  have hwa : Below w.heap.size w (w.alloc (.cells #[.string ⟨#[]⟩, .string ⟨#[]⟩, .string ⟨#[]⟩, .string ⟨#[]⟩, .bool false, .int .i64 0, .int .i64 0, .int .i64 0, .slice none 0 0] 34)) := (Below.refl _ _).alloc (Nat.le_refl _) _
  have hB := Blk.new w 34 #[.string ⟨#[]⟩, .string ⟨#[]⟩, .string ⟨#[]⟩, .string ⟨#[]⟩, .bool false, .int .i64 0, .int .i64 0, .int .i64 0, .slice none 0 0]
  obtain ⟨W, hW⟩ : ∃ W, W = w.alloc (.cells #[.string ⟨#[]⟩, .string ⟨#[]⟩, .string ⟨#[]⟩, .string ⟨#[]⟩, .bool false, .int .i64 0, .int .i64 0, .int .i64 0, .slice none 0 0] 34) := ⟨_, rfl⟩
  obtain ⟨G, hG⟩ : ∃ G, G = w.heap.size := ⟨_, rfl⟩
  rw [← hW] at hwa hB
  rw [← hG] at hB
  have HK := hid (has_any pv n i W (KL W hwa))
  rw [hi] at HK
  have HWG := hid (And.intro hW hG)
  have HB := hid hB
  have hT5 := Touch.setRow W G #[.string ⟨#[]⟩, .string ⟨#[]⟩, .string ⟨#[]⟩, .string ⟨#[]⟩, .bool false, .int .i64 0, .int .i64 0, .int .i64 0, .slice none 0 0]
  have hC5 := hB.setRow #[.string ⟨#[]⟩, .string ⟨#[]⟩, .string ⟨#[]⟩, .string ⟨#[]⟩, .bool false, .int .i64 0, .int .i64 0, .int .i64 0, .slice none 0 0]
  have hb5 := hwa.trans (hT5.below hwa.size (fun k hk => by rw [hk]; omega))
  obtain ⟨w5, hw5⟩ : ∃ w5, w5 = W.setRow G #[.string ⟨#[]⟩, .string ⟨#[]⟩, .string ⟨#[]⟩, .string ⟨#[]⟩, .bool false, .int .i64 0, .int .i64 0, .int .i64 0, .slice none 0 0] := ⟨_, rfl⟩
  rw [← hw5] at hC5 hb5
  have HW5 := hid hw5
  have HF := hid hb5
  have r0 : w5.cell? ⟨G, 0, none⟩ = some (.string ⟨#[]⟩) := hC5.cell 0
  have r1 : w5.cell? ⟨G, 1, none⟩ = some (.string ⟨#[]⟩) := hC5.cell 1
  have r2 : w5.cell? ⟨G, 2, none⟩ = some (.string ⟨#[]⟩) := hC5.cell 2
  have r3 : w5.cell? ⟨G, 3, none⟩ = some (.string ⟨#[]⟩) := hC5.cell 3
  have r4 : w5.cell? ⟨G, 4, none⟩ = some (.bool false) := hC5.cell 4
  have r5 : w5.cell? ⟨G, 5, none⟩ = some (.int .i64 0) := hC5.cell 5
  have r6 : w5.cell? ⟨G, 6, none⟩ = some (.int .i64 0) := hC5.cell 6
  have r7 : w5.cell? ⟨G, 7, none⟩ = some (.int .i64 0) := hC5.cell 7
  have r8 : w5.cell? ⟨G, 8, none⟩ = some (.slice none 0 0) := hC5.cell 8
  have lG5 := hC5.lt
  clear hwa hB hW hG hT5 hC5 hb5 hw5 KL
  go_enter Try.func12, Try.ntmps12
  go_upto_region 1 with fail
  rw [← HWG.out.1, ← HWG.out.2]
  go_wp2_with fail
  refine HK.out.mono ?_
  rintro e w2 ⟨rfl, rfl⟩
  go_wp2_with (first
    | (refine wpList_store_row rfl 34 _ _ rfl G #[.string ⟨#[]⟩, .string ⟨#[]⟩, .string ⟨#[]⟩, .string ⟨#[]⟩, .bool false, .int .i64 0, .int .i64 0, .int .i64 0, .slice none 0 0] rfl rfl 34 _ HB.out (by kernel_rfl) (by rfl) (by simp [Value.oneCell']) ?_; rw [← HW5.out]))
  refine bodyPost_ret (v := .agg #[.string ⟨#[]⟩, .string ⟨#[]⟩, .string ⟨#[]⟩, .string ⟨#[]⟩, .bool false, .int .i64 0, .int .i64 0, .int .i64 0, .slice none 0 0]) (by simp [results, Try.results12, go_sem, r0, r1, r2, r3, r4, r5, r6, r7, r8]) rfl ?_
  exact ⟨none, 0, rfl, World.ownsRow_nil _ _ _ _, HF.out⟩
section
variable {w0 : World} {base : Nat} {nm : ByteArray} {P : Nat} {vS vB : Value} {Ls : List Stp} {Bs : List IRow} {ask : Int} {w w' : World}
theorem AsS.next (h : AsS w0 base nm P vS vB Ls Bs ask w) (hb : Below w.heap.size w w') : AsS w0 base nm P vS vB Ls Bs ask w' := by
  obtain ⟨vH, Hs, dn, a, b, c⟩ := h.ex
  exact ⟨⟨vH, Hs, dn, a.next hb, b, c⟩, h.rows, h.aft, bthen h.bel hb, h.lo⟩
/-- Only another plan was touched. -/
theorem AsS.far {P2 : Nat} {cs : Array Value} (h : AsS w0 base nm P vS vB Ls Bs ask w) (hT : Touch (· = P2) w w') (hne : P2 ≠ P) (hp2 : Blk w P2 75 cs) (hlo : w0.heap.size ≤ P2) : AsS w0 base nm P vS vB Ls Bs ask w' := by
  obtain ⟨vH, Hs, dn, a, b, c⟩ := h.ex
  have no : ∀ {b0 : Nat} {e : TypeId} {size : Nat} {v : Value} {n : Nat} {xs : List Value}, e ≠ 75 → w.ownsRow b0 e size v n xs → w'.ownsRow b0 e size v n xs := fun hn ho => own_touch ho hT (fun g hg e => own_notBlk ho hp2 hn (by rw [hg, e]))
  refine ⟨⟨vH, Hs, dn, ⟨hT.blk a.p (fun e => hne e.symm), no (by decide) a.os, no (by decide) a.ob, fun s hs => no (by decide) (a.st s hs), fun x hx => no (by decide) (a.rw x hx), fun e => ?_, a.hl, a.lo⟩, b, c⟩, h.rows, h.aft, h.bel.trans (hT.below h.bel.size (fun k hk => by rw [hk]; exact hlo)), h.lo⟩
  obtain ⟨H, q1, q2, q3, q4⟩ := a.hs e
  exact ⟨H, q1, hT.blk q2 (fun e => q2.ne_ hp2 (by decide) e), q3, fun x hx => no (by decide) (q4 x hx)⟩
theorem AsS.len (h : AsS w0 base nm P vS vB Ls Bs ask w) : Calls Try.prog 11 #[.pointer (some ⟨P, 0, none⟩)] w fun e w' => e = .returned (.int .i64 (Ls.length : Int)) ∧ w' = w := by
  obtain ⟨vH, Hs, dn, a, b, c⟩ := h.ex
  exact len_some a
theorem AsS.name (h : AsS w0 base nm P vS vB Ls Bs ask w) : Calls Try.prog 22 #[.pointer (some ⟨P, 0, none⟩)] w fun e w' => e = .returned (.string nm) ∧ w' = w := by
  obtain ⟨vH, Hs, dn, a, b, c⟩ := h.ex
  exact name_some a
theorem AsS.asked (h : AsS w0 base nm P vS vB Ls Bs ask w) : Calls Try.prog 18 #[.pointer (some ⟨P, 0, none⟩)] w fun e w' => e = .returned (.int .i64 ask) ∧ w' = w := by
  obtain ⟨vH, Hs, dn, a, b, c⟩ := h.ex
  exact asked_some a
theorem AsS.before (h : AsS w0 base nm P vS vB Ls Bs ask w) (i : Int) : Calls Try.prog 13 #[.pointer (some ⟨P, 0, none⟩), .int .i64 i] w (NewRowOf en1 3 1 (rowAt Bs i) w) := by
  obtain ⟨vH, Hs, dn, a, b, c⟩ := h.ex
  by_cases hi : hasN Ls.length i = true
  · obtain ⟨q, rfl, hq⟩ := hasN_in hi
    have hqb : q < Bs.length := by rw [h.rows.len]; exact hq
    have hx := List.getElem?_eq_getElem hqb
    rw [rowAt_in hx]
    refine before_in a q _ hx h.rows.len ?_
    have h1 := rise_len (h.rows.up _ (List.getElem_mem hqb)) (h.rows.lt _ (List.getElem_mem hqb))
    have := h.rows.n
    omega
  · have hi : hasN Ls.length i = false := by simpa using hi
    rw [rowAt_out (by rw [h.rows.len]; exact hi)]
    exact before_out _ Ls.length i w (len_some a) hi
theorem AsS.step (h : AsS w0 base nm P vS vB Ls Bs ask w) (i : Int) : Calls Try.prog 12 #[.pointer (some ⟨P, 0, none⟩), .int .i64 i] w (StepR (stepAt Ls i) w) := by
  obtain ⟨vH, Hs, dn, a, b, c⟩ := h.ex
  by_cases hi : hasN Ls.length i = true
  · obtain ⟨q, rfl, hq⟩ := hasN_in hi
    have hx := List.getElem?_eq_getElem hq
    rw [stepAt_in hx]
    exact step_in a q _ hx (h.aft _ (List.getElem_mem hq))
  · have hi : hasN Ls.length i = false := by simpa using hi
    rw [stepAt_out hi]
    exact step_out2 _ Ls.length i w (fun w2 hb => len_some (a.next hb)) hi
theorem AsS.behind (h : AsS w0 base nm P vS vB Ls Bs ask w) (i : Int) (ha : 0 ≤ ask ∧ ask ≤ 4611686018427387904) : Calls Try.prog 14 #[.pointer (some ⟨P, 0, none⟩), .int .i64 i] w fun e w' => ∃ A cap, e = .returned (.slice A (behL Bs Ls.length i).length cap) ∧ w'.ownsRow w.heap.size 3 1 (.slice A (behL Bs Ls.length i).length cap) (behL Bs Ls.length i).length ((behL Bs Ls.length i).flatMap en1) ∧ AsS w0 base nm P vS vB Ls Bs (ask + 1) w' ∧ Touch (· = P) w w' := by
  obtain ⟨vH, Hs, dn, a, b, c⟩ := h.ex
  refine (behind_any a h.rows b c i ha).mono ?_
  rintro e w' ⟨A, cap, vH', Hs', rfl, hO, hP, hH, hT⟩
  exact ⟨A, cap, rfl, hO, ⟨⟨vH', Hs', true, hP, (fun _ => hH), (fun e => by cases e)⟩, h.rows, h.aft, h.bel.trans (hT.below h.bel.size (fun k hk => by rw [hk]; exact Nat.le_trans h.lo a.lo)), h.lo⟩, hT⟩
end

end Go.Proofs.Ytemhoaapapeilaa
