/-
  The stock book: twin, Goods.
-/
import Derived.Test.YthfaaimmfdidnaaSo15
namespace Go.Proofs.Ythfaaimmfdidnaa
open Go.RowKit Go.WideShapes Go.ChangeShapes Go.ChangeAt Go.Deep
set_option linter.unusedVariables false

theorem Touch.set {S : Nat → Prop} {w w1 : World} (h : Touch S w w1) {g : Nat} (hg : S g) (i : Nat) (v : Value) : Touch S w (w1.setCell ⟨g, i, none⟩ v) := h.then ((Touch.setCell w1 g i v).mono (fun k hk => by subst hk; exact hg))
theorem ownsRow_low {w : World} {base b' : Nat} {e : TypeId} {size n : Nat} {v : Value} {xs : List Value} (h : w.ownsRow base e size v n xs) (hb : b' ≤ base) : w.ownsRow b' e size v n xs := by
  obtain ⟨hl, h1 | ⟨g, cap, cur, rfl, hg, hh, hr⟩⟩ := h
  · exact ⟨hl, .inl h1⟩
  · exact ⟨hl, .inr ⟨g, cap, cur, rfl, by omega, hh, hr⟩⟩
/-- Lines in a row of the call's own. -/
structure LnRow (base : Nat) (w : World) (b cap : Nat) (ls : List Ln) : Prop where
  own : w.ownsRow base 33 2 (.slice (some ⟨b, 0, none⟩) ls.length cap) ls.length (ls.flatMap enL)

section
variable {n0 : Nat} {w w' : World} {X BL BG : Nat} {lv : List (Int × Lv)} {gs : List (Int × Gd)}
set_option maxRecDepth 100000 in
set_option maxHeartbeats 4000000 in
theorem twin_off (o st : Int) (ob off ocp : Nat) (ls : List Ln) (w : World) (hR : Rd w (some ⟨ob, off, none⟩) (ls.flatMap enL)) (hl1 : 1 ≤ ls.length) (hl4 : ls.length ≤ 4) :
    Calls Try.prog 34 #[.agg #[.int .i64 o, .int .i64 st, .slice (some ⟨ob, off, none⟩) ls.length ocp]] w fun e w' => ∃ b cap, e = .returned (.agg #[.int .i64 o, .int .i64 st, .slice (some ⟨b, 0, none⟩) ls.length cap]) ∧ LnRow w.heap.size w' b cap ls ∧ Below w.heap.size w w' := by
  have K := hid (fun w' (hb : Below w.heap.size w w') => clone_some ls ob off ocp w' (hR.below hb) (by omega))
  unfold NewRowOf at K
  obtain ⟨W2, hW2⟩ : ∃ W2, W2 = ((w.alloc (.cells #[.int .i64 o, .int .i64 st, .slice (some ⟨ob, off, none⟩) ls.length ocp] 45)).alloc (.cells #[.int .i64 0, .int .i64 0, .slice none 0 0] 45)) := ⟨_, rfl⟩
  obtain ⟨G, hG⟩ : ∃ G, G = w.heap.size := ⟨_, rfl⟩
  have hb2 : Below w.heap.size w W2 := by rw [hW2]; exact ((Below.refl _ _).alloc (Nat.le_refl _) _).alloc (by simp) _
  have hB1 : Blk W2 G 45 #[.int .i64 o, .int .i64 st, .slice (some ⟨ob, off, none⟩) ls.length ocp] := by rw [hW2, hG]; exact (Blk.new _ _ _).alloc _
  have hB2 : Blk W2 (G + 1) 45 #[.int .i64 0, .int .i64 0, .slice none 0 0] := by
    rw [hW2, hG]
    have := Blk.new (w.alloc (.cells #[.int .i64 o, .int .i64 st, .slice (some ⟨ob, off, none⟩) ls.length ocp] 45)) 45 #[.int .i64 0, .int .i64 0, .slice none 0 0]
    rw [World.size_alloc] at this
    exact this
  have HW := hid hW2
  have HG := hid hG
  have HH := hid (And.intro hb2 (And.intro hB1 hB2))
  clear hR hW2 hG hb2 hB1 hB2
  go_enter Try.func34, Try.ntmps34
  go_wp2_with fail
  rw [← HW.out, ← HG.out]
  obtain ⟨hb2, hB1, hB2⟩ := HH.out
  refine (K.out _ hb2).mono ?_
  rintro e w7 ⟨A7, cp7, rfl, hO7, hb7⟩
  obtain ⟨g7, cq7, e7, hg7, _⟩ := own_form hO7 (by omega)
  injection e7 with e8 e9 e10
  subst e8 e10
  replace hB1 := hB1.next hb7
  replace hB2 := hB2.next hb7
  have h1 : g7 ≠ G := by have := HH.out.2.1.lt; omega
  have h2 : g7 ≠ G + 1 := by have := HH.out.2.2.lt; omega
  have hGw : w.heap.size ≤ G := by have := HG.out; omega
  clear HH HW K hg7
  have c0 : w7.cell? ⟨G, 0, none⟩ = some (.int .i64 o) := hB1.cell 0
  have c1 : w7.cell? ⟨G, 1, none⟩ = some (.int .i64 st) := hB1.cell 1
  have c2 : w7.cell? ⟨G, 2, none⟩ = some (.slice (some ⟨ob, off, none⟩) ls.length ocp) := hB1.cell 2
  have f2 := hB1.free 2
  have d0 : w7.cell? ⟨G + 1, 0, none⟩ = some (.int .i64 0) := hB2.cell 0
  have d1 : w7.cell? ⟨G + 1, 1, none⟩ = some (.int .i64 0) := hB2.cell 1
  have d2 : w7.cell? ⟨G + 1, 2, none⟩ = some (.slice none 0 0) := hB2.cell 2
  have k0 := hB2.free 0
  have k1 := hB2.free 1
  have k2 := hB2.free 2
  have hF := hid (And.intro hO7 (And.intro hb2 hb7))
  have hB9 : Blk ((((w7.setCell ⟨G, 2, none⟩ (.slice (some ⟨g7, 0, none⟩) ls.length cp7)).setCell ⟨G + 1, 0, none⟩ (.int .i64 o)).setCell ⟨G + 1, 1, none⟩ (.int .i64 st)).setCell ⟨G + 1, 2, none⟩ (.slice (some ⟨g7, 0, none⟩) ls.length cp7)) (G + 1) 45 #[.int .i64 o, .int .i64 st, .slice (some ⟨g7, 0, none⟩) ls.length cp7] :=
    (((hB2.far (p := ⟨G, 2, none⟩) (by simp) _).set_ 0 _).set_ 1 _).set_ 2 _
  replace hB9 := hid hB9
  clear hO7 hb2 hb7 hB1 hB2
  go_wp2_with fail
  replace hB9 := hB9.out
  obtain ⟨W9, hW9⟩ : ∃ W9, W9 = ((((w7.setCell ⟨G, 2, none⟩ (.slice (some ⟨g7, 0, none⟩) ls.length cp7)).setCell ⟨G + 1, 0, none⟩ (.int .i64 o)).setCell ⟨G + 1, 1, none⟩ (.int .i64 st)).setCell ⟨G + 1, 2, none⟩ (.slice (some ⟨g7, 0, none⟩) ls.length cp7)) := ⟨_, rfl⟩
  rw [← hW9] at hB9 ⊢
  have HW9 := hid hW9
  clear hW9 c0 c1 c2 d0 d1 d2 f2 k0 k1 k2
  have c0 : W9.cell? ⟨G + 1, 0, none⟩ = some (.int .i64 o) := hB9.cell 0
  have c1 : W9.cell? ⟨G + 1, 1, none⟩ = some (.int .i64 st) := hB9.cell 1
  have c2 : W9.cell? ⟨G + 1, 2, none⟩ = some (.slice (some ⟨g7, 0, none⟩) ls.length cp7) := hB9.cell 2
  refine bodyPost_ret (v := .agg #[.int .i64 o, .int .i64 st, .slice (some ⟨g7, 0, none⟩) ls.length cp7]) (by simp [results, Try.results34, go_sem, c0, c1, c2]) rfl ?_
  rw [HW9.out]
  obtain ⟨hO7, hb2, hb7⟩ := hF.out
  have hT := ((((Touch.refl (fun k => k = G ∨ k = G + 1) w7).set (g := G) (.inl rfl) 2 (.slice (some ⟨g7, 0, none⟩) ls.length cp7)).set (g := G + 1) (.inr rfl) 0 (.int .i64 o)).set (g := G + 1) (.inr rfl) 1 (.int .i64 st)).set (g := G + 1) (.inr rfl) 2 (.slice (some ⟨g7, 0, none⟩) ls.length cp7)
  refine ⟨g7, cp7, rfl, ⟨ownsRow_low (own_touch hO7 hT (fun k hk => ?_)) hb2.size⟩, (bthen hb2 hb7).trans (hT.below (bthen hb2 hb7).size (fun k hk => by omega))⟩
  have hk' : g7 = k := by simpa [Value.ownBlock] using hk
  subst hk'
  intro hc
  rcases hc with e | e
  · exact h1 e
  · exact h2 e

set_option maxRecDepth 100000 in
set_option maxHeartbeats 4000000 in
theorem goods_none (h : IsBook n0 w X BL BG lv gs) (o : Int) (hm : mget gs o = none) :
    Calls Try.prog 15 #[.pointer (some ⟨X, 0, none⟩), .int .i64 o] w fun e w' => e = .returned (.tuple #[.agg #[.int .i64 0, .int .i64 0, .slice none 0 0], .bool false]) ∧ Below w.heap.size w w' := by
  have hwb : Below w.heap.size w (w.alloc (.cells #[.int .i64 0, .int .i64 0, .slice none 0 0] 45)) := (Below.refl _ _).alloc (Nat.le_refl _) _
  have hG0 : Blk (w.alloc (.cells #[.int .i64 0, .int .i64 0, .slice none 0 0] 45)) w.heap.size 45 #[.int .i64 0, .int .i64 0, .slice none 0 0] := Blk.new _ _ _
  obtain ⟨wz, hwz⟩ : ∃ wz, wz = w.alloc (.cells #[.int .i64 0, .int .i64 0, .slice none 0 0] 45) := ⟨_, rfl⟩
  obtain ⟨G, hGG⟩ : ∃ G, G = w.heap.size := ⟨_, rfl⟩
  have HW := hid hwz
  have HGG := hid hGG
  rw [← hwz] at hwb hG0
  rw [← hGG] at hG0
  have S := hid (state_none (h.next hwb) o hm)
  have HH := hid (And.intro hwb hG0)
  clear h hm hwz hGG hwb hG0
  go_enter Try.func15, Try.ntmps15
  go_wp2_with fail
  rw [← HW.out, ← HGG.out]
  refine S.out.mono ?_
  rintro e w5 ⟨rfl, rfl⟩
  have hB := HH.out.2
  have d0 : wz.cell? ⟨G, 0, none⟩ = some (.int .i64 0) := hB.cell 0
  have d1 : wz.cell? ⟨G, 1, none⟩ = some (.int .i64 0) := hB.cell 1
  have d2 : wz.cell? ⟨G, 2, none⟩ = some (.slice none 0 0) := hB.cell 2
  have k0 := hB.free 0
  have k1 := hB.free 1
  have k2 := hB.free 2
  have hB9 := hid (((hB.set_ 0 (.int .i64 0)).set_ 1 (.int .i64 0)).set_ 2 (.slice none 0 0))
  have hT := hid ((((Touch.refl (fun k => k = G) wz).set (g := G) rfl 0 (.int .i64 0)).set (g := G) rfl 1 (.int .i64 0)).set (g := G) rfl 2 (.slice none 0 0))
  clear S hB
  go_wp2_with fail
  obtain ⟨W9, hW9⟩ : ∃ W9, W9 = (((wz.setCell ⟨G, 0, none⟩ (.int .i64 0)).setCell ⟨G, 1, none⟩ (.int .i64 0)).setCell ⟨G, 2, none⟩ (.slice none 0 0)) := ⟨_, rfl⟩
  have hB8 := hB9.out
  have hT8 := hT.out
  rw [← hW9] at hB8 hT8 ⊢
  clear hB9 hT hW9 d0 d1 d2 k0 k1 k2
  have c0 : W9.cell? ⟨G, 0, none⟩ = some (.int .i64 0) := hB8.cell 0
  have c1 : W9.cell? ⟨G, 1, none⟩ = some (.int .i64 0) := hB8.cell 1
  have c2 : W9.cell? ⟨G, 2, none⟩ = some (.slice none 0 0) := hB8.cell 2
  refine bodyPost_ret (v := .tuple #[.agg #[.int .i64 0, .int .i64 0, .slice none 0 0], .bool false]) (by simp [results, Try.results15, go_sem, c0, c1, c2]) rfl ?_
  exact ⟨rfl, HH.out.1.trans (hT8.below HH.out.1.size (fun k hk => by have := HGG.out; omega))⟩
set_option maxRecDepth 100000 in
set_option maxHeartbeats 4000000 in
theorem goods_some (h : IsBook n0 w X BL BG lv gs) (o : Int) {d : Gd} (hm : mget gs o = some d) (hl1 : 1 ≤ d.ls.length) (hl4 : d.ls.length ≤ 4) :
    Calls Try.prog 15 #[.pointer (some ⟨X, 0, none⟩), .int .i64 o] w fun e w' => ∃ b cap, e = .returned (.tuple #[.agg #[.int .i64 d.o, .int .i64 d.st, .slice (some ⟨b, 0, none⟩) d.ls.length cap], .bool true]) ∧ LnRow w.heap.size w' b cap d.ls ∧ Below w.heap.size w w' := by
  have hwb : Below w.heap.size w (w.alloc (.cells #[.int .i64 0, .int .i64 0, .slice none 0 0] 45)) := (Below.refl _ _).alloc (Nat.le_refl _) _
  have hG0 : Blk (w.alloc (.cells #[.int .i64 0, .int .i64 0, .slice none 0 0] 45)) w.heap.size 45 #[.int .i64 0, .int .i64 0, .slice none 0 0] := Blk.new _ _ _
  obtain ⟨wz, hwz⟩ : ∃ wz, wz = w.alloc (.cells #[.int .i64 0, .int .i64 0, .slice none 0 0] 45) := ⟨_, rfl⟩
  obtain ⟨G, hGG⟩ : ∃ G, G = w.heap.size := ⟨_, rfl⟩
  have HW := hid hwz
  have HGG := hid hGG
  rw [← hwz] at hwb hG0
  rw [← hGG] at hG0
  have hI := h.next hwb
  have S := hid (state_some hI o hm)
  have c1 := hI.cellG
  have l2 := hI.lookG o
  rw [show ptrG gs o = some ⟨d.g, 0, none⟩ from by unfold ptrG; rw [hm]; rfl] at l2
  have hD := hI.atG hm
  have g0 : wz.cell? ⟨d.g, 0, none⟩ = some (.int .i64 d.o) := hD.cell 0
  have g1 : wz.cell? ⟨d.g, 1, none⟩ = some (.int .i64 d.st) := hD.cell 1
  have g2 : wz.cell? ⟨d.g, 2, none⟩ = some (.slice (some ⟨d.b, 0, none⟩) d.ls.length d.cap) := hD.cell 2
  have K := hid (twin_off d.o d.st d.b 0 d.cap d.ls wz (hI.lns _ (mget_mem hm)).1 hl1 hl4)
  have HH := hid (And.intro hwb hG0)
  clear h hm hwz hGG hwb hG0 hI hD
  go_enter Try.func15, Try.ntmps15
  go_upto_region 1 with fail
  rw [← HW.out, ← HGG.out]
  go_wp2_with fail
  refine S.out.mono ?_
  rintro e w5 ⟨rfl, rfl⟩
  go_wp2_with fail
  refine K.out.mono ?_
  rintro e w7 ⟨b7, cp7, rfl, hO7, hb7⟩
  have hB := HH.out.2.next hb7
  have d0 : w7.cell? ⟨G, 0, none⟩ = some (.int .i64 0) := hB.cell 0
  have d1 : w7.cell? ⟨G, 1, none⟩ = some (.int .i64 0) := hB.cell 1
  have d2 : w7.cell? ⟨G, 2, none⟩ = some (.slice none 0 0) := hB.cell 2
  have k0 := hB.free 0
  have k1 := hB.free 1
  have k2 := hB.free 2
  have hB9 := hid (((hB.set_ 0 (.int .i64 d.o)).set_ 1 (.int .i64 d.st)).set_ 2 (.slice (some ⟨b7, 0, none⟩) d.ls.length cp7))
  have hT := hid ((((Touch.refl (fun k => k = G) w7).set (g := G) rfl 0 (.int .i64 d.o)).set (g := G) rfl 1 (.int .i64 d.st)).set (g := G) rfl 2 (.slice (some ⟨b7, 0, none⟩) d.ls.length cp7))
  have HF := hid (And.intro hO7 hb7)
  have hGne : b7 ≠ G := by have := HH.out.2.lt; have := (hO7.own.lt b7 rfl).1; omega
  clear S hB K c1 l2 g0 g1 g2 hO7 hb7
  go_wp2_with fail
  obtain ⟨W9, hW9⟩ : ∃ W9, W9 = (((w7.setCell ⟨G, 0, none⟩ (.int .i64 d.o)).setCell ⟨G, 1, none⟩ (.int .i64 d.st)).setCell ⟨G, 2, none⟩ (.slice (some ⟨b7, 0, none⟩) d.ls.length cp7)) := ⟨_, rfl⟩
  have hB8 := hB9.out
  have hT8 := hT.out
  rw [← hW9] at hB8 hT8 ⊢
  clear hB9 hT hW9 d0 d1 d2 k0 k1 k2
  have c0 : W9.cell? ⟨G, 0, none⟩ = some (.int .i64 d.o) := hB8.cell 0
  have c1 : W9.cell? ⟨G, 1, none⟩ = some (.int .i64 d.st) := hB8.cell 1
  have c2 : W9.cell? ⟨G, 2, none⟩ = some (.slice (some ⟨b7, 0, none⟩) d.ls.length cp7) := hB8.cell 2
  refine bodyPost_ret (v := .tuple #[.agg #[.int .i64 d.o, .int .i64 d.st, .slice (some ⟨b7, 0, none⟩) d.ls.length cp7], .bool true]) (by simp [results, Try.results15, go_sem, c0, c1, c2]) rfl ?_
  obtain ⟨hO7, hb7⟩ := HF.out
  have hbz := bthen HH.out.1 hb7
  refine ⟨b7, cp7, rfl, ⟨own_touch (ownsRow_low hO7.own HH.out.1.size) hT8 (fun k hk => ?_)⟩, hbz.trans (hT8.below hbz.size (fun k hk => by have := HGG.out; omega))⟩
  have hk' : b7 = k := by simpa [Value.ownBlock] using hk
  subst hk'
  exact hGne
end

end Go.Proofs.Ythfaaimmfdidnaa
