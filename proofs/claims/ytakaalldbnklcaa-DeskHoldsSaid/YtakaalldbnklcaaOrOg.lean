/-
  The orders' book: twin, Get.
-/
import Derived.Test.YtakaalldbnklcaaOrOa
namespace Go.Proofs.Ytakaalldbnklcaa.Or
open Go.RowKit Go.WideShapes Go.ChangeShapes Go.ChangeAt Go.Deep
set_option linter.unusedVariables false

theorem _root_.Go.Proofs.Ytakaalldbnklcaa.Touch.set {S : Nat → Prop} {w w1 : World} (h : Touch S w w1) {g : Nat} (hg : S g) (i : Nat) (v : Value) : Touch S w (w1.setCell ⟨g, i, none⟩ v) := h.then ((Touch.setCell w1 g i v).mono (fun k hk => by subst hk; exact hg))
theorem ownsRow_low {w : World} {base b' : Nat} {e : TypeId} {size n : Nat} {v : Value} {xs : List Value} (h : w.ownsRow base e size v n xs) (hb : b' ≤ base) : w.ownsRow b' e size v n xs := by
  obtain ⟨hl, h1 | ⟨g, cap, cur, rfl, hg, hh, hr⟩⟩ := h
  · exact ⟨hl, .inl h1⟩
  · exact ⟨hl, .inr ⟨g, cap, cur, rfl, by omega, hh, hr⟩⟩
section
variable {n0 : Nat} {w w' : World} {X BP BO : Nat} {pr : List (Int × Int)} {os : List (Int × Od)}

/-- An order's lines, in a row of the call's own. -/
structure LnRow (base : Nat) (w : World) (b cap : Nat) (ls : List Ln) : Prop where
  own : w.ownsRow base 45 2 (.slice (some ⟨b, 0, none⟩) ls.length cap) ls.length (ls.flatMap enL)

set_option maxRecDepth 100000 in
set_option maxHeartbeats 4000000 in
theorem twin_zero (w : World) : Calls Try.prog 26 #[.agg #[.int .i64 0, .int .i64 0, .string ByteArray.empty, .slice none 0 0, .int .i64 0, .int .i64 0]] w fun e w' => e = .returned (.agg #[.int .i64 0, .int .i64 0, .string ByteArray.empty, .slice none 0 0, .int .i64 0, .int .i64 0]) ∧ Below w.heap.size w w' := by
  have K := hid (fun w => clone_nil w)
  go_enter Try.func26, Try.ntmps26
  go_wp2_with (first | (go_at_call 25; refine (K.out _).mono ?_; rintro e w7 ⟨rfl, rfl⟩))
  exact bodyPost_ret (v := .agg #[.int .i64 0, .int .i64 0, .string ByteArray.empty, .slice none 0 0, .int .i64 0, .int .i64 0]) (by simp [results, Try.results26, go_sem]) rfl ⟨rfl, ((Below.refl _ _).alloc (Nat.le_refl _) _).alloc (by simp) _⟩

set_option maxRecDepth 100000 in
set_option maxHeartbeats 4000000 in
theorem twin_off (oi oc : Int) (of : ByteArray) (ob off ocp : Nat) (ls : List Ln) (on ot : Int) (w : World) (hR : Rd w (some ⟨ob, off, none⟩) (ls.flatMap enL)) (hl1 : 1 ≤ ls.length) (hl4 : ls.length ≤ 4) :
    Calls Try.prog 26 #[.agg #[.int .i64 oi, .int .i64 oc, .string of, .slice (some ⟨ob, off, none⟩) ls.length ocp, .int .i64 on, .int .i64 ot]] w fun e w' => ∃ b cap, e = .returned (.agg #[.int .i64 oi, .int .i64 oc, .string of, .slice (some ⟨b, 0, none⟩) ls.length cap, .int .i64 on, .int .i64 ot]) ∧ LnRow w.heap.size w' b cap ls ∧ Below w.heap.size w w' := by
  have K := hid (fun w' (hb : Below w.heap.size w w') => clone_some ls ob off ocp w' (hR.below hb) (by omega))
  unfold NewRowOf at K
  obtain ⟨W2, hW2⟩ : ∃ W2, W2 = ((w.alloc (.cells #[.int .i64 oi, .int .i64 oc, .string of, .slice (some ⟨ob, off, none⟩) ls.length ocp, .int .i64 on, .int .i64 ot] 47)).alloc (.cells #[.int .i64 0, .int .i64 0, .string ⟨#[]⟩, .slice none 0 0, .int .i64 0, .int .i64 0] 47)) := ⟨_, rfl⟩
  obtain ⟨G, hG⟩ : ∃ G, G = w.heap.size := ⟨_, rfl⟩
  have hb2 : Below w.heap.size w W2 := by rw [hW2]; exact ((Below.refl _ _).alloc (Nat.le_refl _) _).alloc (by simp) _
  have hB1 : Blk W2 G 47 #[.int .i64 oi, .int .i64 oc, .string of, .slice (some ⟨ob, off, none⟩) ls.length ocp, .int .i64 on, .int .i64 ot] := by rw [hW2, hG]; exact (Blk.new _ _ _).alloc _
  have hB2 : Blk W2 (G + 1) 47 #[.int .i64 0, .int .i64 0, .string ⟨#[]⟩, .slice none 0 0, .int .i64 0, .int .i64 0] := by
    rw [hW2, hG]
    have := Blk.new (w.alloc (.cells #[.int .i64 oi, .int .i64 oc, .string of, .slice (some ⟨ob, off, none⟩) ls.length ocp, .int .i64 on, .int .i64 ot] 47)) 47 #[.int .i64 0, .int .i64 0, .string ⟨#[]⟩, .slice none 0 0, .int .i64 0, .int .i64 0]
    rw [World.size_alloc] at this
    exact this
  have HW := hid hW2
  have HG := hid hG
  have HH := hid (And.intro hb2 (And.intro hB1 hB2))
  clear hR hW2 hG hb2 hB1 hB2
  go_enter Try.func26, Try.ntmps26
  go_wp2_with fail
  rw [← HW.out, ← HG.out]
  obtain ⟨hb2, hB1, hB2⟩ := HH.out
  refine (K.out _ hb2).mono ?_
  rintro e w7 ⟨A7, cp7, rfl, hO7, hb7⟩
  obtain ⟨g7, cq7, e7, hg7, _⟩ := own_form hO7 (by omega)
  injection e7 with e8 e9 e10
  subst e8 e10
  replace hB1 := hB1.next hb7
  replace hB2 := hB2.next hb7
  have h1 : g7 ≠ G := by have := HH.out.2.1.lt; omega
  have h2 : g7 ≠ G + 1 := by have := HH.out.2.2.lt; omega
  have hGw : w.heap.size ≤ G := by have := HG.out; omega
  clear HH HW K hg7
  have c0 : w7.cell? ⟨G, 0, none⟩ = some (.int .i64 oi) := hB1.cell 0
  have c1 : w7.cell? ⟨G, 1, none⟩ = some (.int .i64 oc) := hB1.cell 1
  have c2 : w7.cell? ⟨G, 2, none⟩ = some (.string of) := hB1.cell 2
  have c3 : w7.cell? ⟨G, 3, none⟩ = some (.slice (some ⟨ob, off, none⟩) ls.length ocp) := hB1.cell 3
  have c4 : w7.cell? ⟨G, 4, none⟩ = some (.int .i64 on) := hB1.cell 4
  have c5 : w7.cell? ⟨G, 5, none⟩ = some (.int .i64 ot) := hB1.cell 5
  have f3 := hB1.free 3
  have d0 : w7.cell? ⟨G + 1, 0, none⟩ = some (.int .i64 0) := hB2.cell 0
  have d1 : w7.cell? ⟨G + 1, 1, none⟩ = some (.int .i64 0) := hB2.cell 1
  have d2 : w7.cell? ⟨G + 1, 2, none⟩ = some (.string ⟨#[]⟩) := hB2.cell 2
  have d3 : w7.cell? ⟨G + 1, 3, none⟩ = some (.slice none 0 0) := hB2.cell 3
  have d4 : w7.cell? ⟨G + 1, 4, none⟩ = some (.int .i64 0) := hB2.cell 4
  have d5 : w7.cell? ⟨G + 1, 5, none⟩ = some (.int .i64 0) := hB2.cell 5
  have k0 := hB2.free 0
  have k1 := hB2.free 1
  have k2 := hB2.free 2
  have k3 := hB2.free 3
  have k4 := hB2.free 4
  have k5 := hB2.free 5
  have hF := hid (And.intro hO7 (And.intro hb2 hb7))
  have hB9 : Blk (((((((w7.setCell ⟨G, 3, none⟩ (.slice (some ⟨g7, 0, none⟩) ls.length cp7)).setCell ⟨G + 1, 0, none⟩ (.int .i64 oi)).setCell ⟨G + 1, 1, none⟩ (.int .i64 oc)).setCell ⟨G + 1, 2, none⟩ (.string of)).setCell ⟨G + 1, 3, none⟩ (.slice (some ⟨g7, 0, none⟩) ls.length cp7)).setCell ⟨G + 1, 4, none⟩ (.int .i64 on)).setCell ⟨G + 1, 5, none⟩ (.int .i64 ot)) (G + 1) 47 #[.int .i64 oi, .int .i64 oc, .string of, .slice (some ⟨g7, 0, none⟩) ls.length cp7, .int .i64 on, .int .i64 ot] :=
    ((((((hB2.far (p := ⟨G, 3, none⟩) (by simp) _).set_ 0 _).set_ 1 _).set_ 2 _).set_ 3 _).set_ 4 _).set_ 5 _
  replace hB9 := hid hB9
  clear hO7 hb2 hb7 hB1 hB2
  go_wp2_with fail
  replace hB9 := hB9.out
  obtain ⟨W9, hW9⟩ : ∃ W9, W9 = (((((((w7.setCell ⟨G, 3, none⟩ (.slice (some ⟨g7, 0, none⟩) ls.length cp7)).setCell ⟨G + 1, 0, none⟩ (.int .i64 oi)).setCell ⟨G + 1, 1, none⟩ (.int .i64 oc)).setCell ⟨G + 1, 2, none⟩ (.string of)).setCell ⟨G + 1, 3, none⟩ (.slice (some ⟨g7, 0, none⟩) ls.length cp7)).setCell ⟨G + 1, 4, none⟩ (.int .i64 on)).setCell ⟨G + 1, 5, none⟩ (.int .i64 ot)) := ⟨_, rfl⟩
  rw [← hW9] at hB9 ⊢
  have HW9 := hid hW9
  clear hW9 c0 c1 c2 c3 c4 c5 d0 d1 d2 d3 d4 d5 f3 k0 k1 k2 k3 k4 k5
  have c0 : W9.cell? ⟨G + 1, 0, none⟩ = some (.int .i64 oi) := hB9.cell 0
  have c1 : W9.cell? ⟨G + 1, 1, none⟩ = some (.int .i64 oc) := hB9.cell 1
  have c2 : W9.cell? ⟨G + 1, 2, none⟩ = some (.string of) := hB9.cell 2
  have c3 : W9.cell? ⟨G + 1, 3, none⟩ = some (.slice (some ⟨g7, 0, none⟩) ls.length cp7) := hB9.cell 3
  have c4 : W9.cell? ⟨G + 1, 4, none⟩ = some (.int .i64 on) := hB9.cell 4
  have c5 : W9.cell? ⟨G + 1, 5, none⟩ = some (.int .i64 ot) := hB9.cell 5
  refine bodyPost_ret (v := .agg #[.int .i64 oi, .int .i64 oc, .string of, .slice (some ⟨g7, 0, none⟩) ls.length cp7, .int .i64 on, .int .i64 ot]) (by simp [results, Try.results26, go_sem, c0, c1, c2, c3, c4, c5]) rfl ?_
  rw [HW9.out]
  obtain ⟨hO7, hb2, hb7⟩ := hF.out
  have hT := ((((((Touch.refl (fun k => k = G ∨ k = G + 1) w7).set (g := G) (.inl rfl) 3 (.slice (some ⟨g7, 0, none⟩) ls.length cp7)).set (g := G + 1) (.inr rfl) 0 (.int .i64 oi)).set (g := G + 1) (.inr rfl) 1 (.int .i64 oc)).set (g := G + 1) (.inr rfl) 2 (.string of)).set (g := G + 1) (.inr rfl) 3 (.slice (some ⟨g7, 0, none⟩) ls.length cp7)).set (g := G + 1) (.inr rfl) 4 (.int .i64 on)
  replace hT := hT.set (g := G + 1) (.inr rfl) 5 (.int .i64 ot)
  refine ⟨g7, cp7, rfl, ⟨ownsRow_low (own_touch hO7 hT (fun k hk => ?_)) hb2.size⟩, (bthen hb2 hb7).trans (hT.below (bthen hb2 hb7).size (fun k hk => by omega))⟩
  have hk' : g7 = k := by simpa [Value.ownBlock] using hk
  subst hk'
  intro hc
  rcases hc with e | e
  · exact h1 e
  · exact h2 e

theorem twin_some (o : Od) (w : World) (hR : Rd w (some ⟨o.b, 0, none⟩) (o.ls.flatMap enL)) (hl1 : 1 ≤ o.ls.length) (hl4 : o.ls.length ≤ 4) :
    Calls Try.prog 26 #[enO o] w fun e w' => ∃ b cap, e = .returned (enO ⟨o.i, o.c, o.f, b, cap, o.ls, o.n, o.t⟩) ∧ LnRow w.heap.size w' b cap o.ls ∧ Below w.heap.size w w' :=
  twin_off o.i o.c o.f o.b 0 o.cap o.ls o.n o.t w hR hl1 hl4

/-- What Get tells. -/
def GetPost (os : List (Int × Od)) (id : Int) (w : World) (e : Ending) (w' : World) : Prop :=
  (mget os id = none → e = .returned (.tuple #[.agg #[.int .i64 0, .int .i64 0, .string ByteArray.empty, .slice none 0 0, .int .i64 0, .int .i64 0], .bool false])) ∧
  (∀ o, mget os id = some o → ∃ b cap, e = .returned (.tuple #[enO ⟨o.i, o.c, o.f, b, cap, o.ls, o.n, o.t⟩, .bool true]) ∧ LnRow w.heap.size w' b cap o.ls) ∧ Below w.heap.size w w'

set_option maxRecDepth 100000 in
set_option maxHeartbeats 4000000 in
theorem get_any (h : IsBook n0 w X BP BO pr os) (hq : ∀ p ∈ os, 1 ≤ p.2.ls.length ∧ p.2.ls.length ≤ 4) (id : Int) :
    Calls Try.prog 11 #[.pointer (some ⟨X, 0, none⟩), .int .i64 id] w (GetPost os id w) := by
  have l1 := (h.alloc (.cells #[.int .i64 0, .int .i64 0, .string ⟨#[]⟩, .slice none 0 0, .int .i64 0, .int .i64 0] 47)).lookO id
  have cO := h.cellO
  have lX : X < w.heap.size := h.blk.lt
  unfold looked at l1
  cases hm : mget os id with
  | none =>
    rw [hm] at l1
    simp only [Option.isSome_none, zO] at l1
    have K := hid (fun w' (_h : Below w.heap.size w w') => twin_zero w')
    have HM := hid hm
    obtain ⟨W2, hW2⟩ : ∃ W2, W2 = ((w.alloc (.cells #[.int .i64 0, .int .i64 0, .string ⟨#[]⟩, .slice none 0 0, .int .i64 0, .int .i64 0] 47)).alloc (.cells #[.int .i64 0, .int .i64 0, .string ByteArray.empty, .slice none 0 0, .int .i64 0, .int .i64 0] 47)) := ⟨_, rfl⟩
    obtain ⟨G, hG⟩ : ∃ G, G = w.heap.size := ⟨_, rfl⟩
    have hb2 : Below w.heap.size w W2 := by rw [hW2]; exact ((Below.refl _ _).alloc (Nat.le_refl _) _).alloc (by simp) _
    have hB2 : Blk W2 G 47 #[.int .i64 0, .int .i64 0, .string ⟨#[]⟩, .slice none 0 0, .int .i64 0, .int .i64 0] := by rw [hW2, hG]; exact (Blk.new _ _ _).alloc _
    have HW := hid hW2
    have HG := hid hG
    have HH := hid (And.intro hb2 hB2)
    clear hm h hW2 hG hb2 hB2
    go_enter Try.func11, Try.ntmps11
    go_wp2_with fail
    rw [← HW.out, ← HG.out]
    obtain ⟨hb2, hB2⟩ := HH.out
    refine (K.out _ hb2).mono ?_
    rintro e w7 ⟨rfl, hb7⟩
    replace hB2 := hB2.next hb7
    have hGw : w.heap.size ≤ G := by have := HG.out; omega
    have d0 : w7.cell? ⟨G, 0, none⟩ = some (.int .i64 0) := hB2.cell 0
    have d1 : w7.cell? ⟨G, 1, none⟩ = some (.int .i64 0) := hB2.cell 1
    have d2 : w7.cell? ⟨G, 2, none⟩ = some (.string ⟨#[]⟩) := hB2.cell 2
    have d3 : w7.cell? ⟨G, 3, none⟩ = some (.slice none 0 0) := hB2.cell 3
    have d4 : w7.cell? ⟨G, 4, none⟩ = some (.int .i64 0) := hB2.cell 4
    have d5 : w7.cell? ⟨G, 5, none⟩ = some (.int .i64 0) := hB2.cell 5
    have k0 := hB2.free 0
    have k1 := hB2.free 1
    have k2 := hB2.free 2
    have k3 := hB2.free 3
    have k4 := hB2.free 4
    have k5 := hB2.free 5
    have hB9 : Blk ((((((w7.setCell ⟨G, 0, none⟩ (.int .i64 0)).setCell ⟨G, 1, none⟩ (.int .i64 0)).setCell ⟨G, 2, none⟩ (.string ByteArray.empty)).setCell ⟨G, 3, none⟩ (.slice none 0 0)).setCell ⟨G, 4, none⟩ (.int .i64 0)).setCell ⟨G, 5, none⟩ (.int .i64 0)) G 47 #[.int .i64 0, .int .i64 0, .string ByteArray.empty, .slice none 0 0, .int .i64 0, .int .i64 0] := (((((hB2.set_ 0 _).set_ 1 _).set_ 2 _).set_ 3 _).set_ 4 _).set_ 5 _
    replace hB9 := hid hB9
    have hF := hid (And.intro hb2 (And.intro hb7 trivial))
    clear hb2 hb7 hB2 HH HW K
    go_wp2_with fail
    replace hB9 := hB9.out
    obtain ⟨W9, hW9⟩ : ∃ W9, W9 = ((((((w7.setCell ⟨G, 0, none⟩ (.int .i64 0)).setCell ⟨G, 1, none⟩ (.int .i64 0)).setCell ⟨G, 2, none⟩ (.string ByteArray.empty)).setCell ⟨G, 3, none⟩ (.slice none 0 0)).setCell ⟨G, 4, none⟩ (.int .i64 0)).setCell ⟨G, 5, none⟩ (.int .i64 0)) := ⟨_, rfl⟩
    rw [← hW9] at hB9 ⊢
    have HW9 := hid hW9
    clear hW9 d0 d1 d2 d3 d4 d5 k0 k1 k2 k3 k4 k5
    have c0 : W9.cell? ⟨G, 0, none⟩ = some (.int .i64 0) := hB9.cell 0
    have c1 : W9.cell? ⟨G, 1, none⟩ = some (.int .i64 0) := hB9.cell 1
    have c2 : W9.cell? ⟨G, 2, none⟩ = some (.string ByteArray.empty) := hB9.cell 2
    have c3 : W9.cell? ⟨G, 3, none⟩ = some (.slice none 0 0) := hB9.cell 3
    have c4 : W9.cell? ⟨G, 4, none⟩ = some (.int .i64 0) := hB9.cell 4
    have c5 : W9.cell? ⟨G, 5, none⟩ = some (.int .i64 0) := hB9.cell 5
    refine bodyPost_ret (v := .tuple #[.agg #[.int .i64 0, .int .i64 0, .string ByteArray.empty, .slice none 0 0, .int .i64 0, .int .i64 0], .bool false]) (by simp [results, Try.results11, go_sem, c0, c1, c2, c3, c4, c5]) rfl ?_
    rw [HW9.out]
    obtain ⟨hb2, hb7, hO7⟩ := hF.out
    have hT := (((((((Touch.refl (fun k => k = G) w7).set (g := G) rfl 0 (.int .i64 0)).set (g := G) rfl 1 (.int .i64 0)).set (g := G) rfl 2 (.string ByteArray.empty)).set (g := G) rfl 3 (.slice none 0 0)).set (g := G) rfl 4 (.int .i64 0)).set (g := G) rfl 5 (.int .i64 0))
    have hbf : Below w.heap.size w _ := (bthen hb2 hb7).trans (hT.below (bthen hb2 hb7).size (fun k hk => by omega))
    exact ⟨fun _ => rfl, fun o ho => (by rw [HM.out] at ho; cases ho), hbf⟩
  | some o =>
    rw [hm] at l1
    obtain ⟨oi, oc, of, ob, ocp, ols, on, ot⟩ := o
    simp only [Option.isSome_some, enO] at l1
    have hql := hq _ (mget_mem hm)
    have hrd := (h.lns _ (mget_mem hm)).1
    simp only at hql hrd
    have K := hid (fun w' (hb : Below w.heap.size w w') => twin_some (⟨oi, oc, of, ob, ocp, ols, on, ot⟩ : Od) w' (hrd.below hb) hql.1 hql.2)
    simp only [enO] at K
    have HM := hid hm
    clear hrd
    obtain ⟨W2, hW2⟩ : ∃ W2, W2 = ((w.alloc (.cells #[.int .i64 0, .int .i64 0, .string ⟨#[]⟩, .slice none 0 0, .int .i64 0, .int .i64 0] 47)).alloc (.cells #[.int .i64 oi, .int .i64 oc, .string of, .slice (some ⟨ob, 0, none⟩) ols.length ocp, .int .i64 on, .int .i64 ot] 47)) := ⟨_, rfl⟩
    obtain ⟨G, hG⟩ : ∃ G, G = w.heap.size := ⟨_, rfl⟩
    have hb2 : Below w.heap.size w W2 := by rw [hW2]; exact ((Below.refl _ _).alloc (Nat.le_refl _) _).alloc (by simp) _
    have hB2 : Blk W2 G 47 #[.int .i64 0, .int .i64 0, .string ⟨#[]⟩, .slice none 0 0, .int .i64 0, .int .i64 0] := by rw [hW2, hG]; exact (Blk.new _ _ _).alloc _
    have HW := hid hW2
    have HG := hid hG
    have HL := hid (show G < W2.heap.size from hB2.lt)
    have HH := hid (And.intro hb2 hB2)
    clear hm h hW2 hG hb2 hB2
    go_enter Try.func11, Try.ntmps11
    go_wp2_with fail
    rw [← HW.out, ← HG.out]
    obtain ⟨hb2, hB2⟩ := HH.out
    refine (K.out _ hb2).mono ?_
    rintro e w7 ⟨b7, cp7, rfl, hO7, hb7⟩
    replace hB2 := hB2.next hb7
    have hGw : w.heap.size ≤ G := by have := HG.out; omega
    have d0 : w7.cell? ⟨G, 0, none⟩ = some (.int .i64 0) := hB2.cell 0
    have d1 : w7.cell? ⟨G, 1, none⟩ = some (.int .i64 0) := hB2.cell 1
    have d2 : w7.cell? ⟨G, 2, none⟩ = some (.string ⟨#[]⟩) := hB2.cell 2
    have d3 : w7.cell? ⟨G, 3, none⟩ = some (.slice none 0 0) := hB2.cell 3
    have d4 : w7.cell? ⟨G, 4, none⟩ = some (.int .i64 0) := hB2.cell 4
    have d5 : w7.cell? ⟨G, 5, none⟩ = some (.int .i64 0) := hB2.cell 5
    have k0 := hB2.free 0
    have k1 := hB2.free 1
    have k2 := hB2.free 2
    have k3 := hB2.free 3
    have k4 := hB2.free 4
    have k5 := hB2.free 5
    have hB9 : Blk ((((((w7.setCell ⟨G, 0, none⟩ (.int .i64 oi)).setCell ⟨G, 1, none⟩ (.int .i64 oc)).setCell ⟨G, 2, none⟩ (.string of)).setCell ⟨G, 3, none⟩ (.slice (some ⟨b7, 0, none⟩) ols.length cp7)).setCell ⟨G, 4, none⟩ (.int .i64 on)).setCell ⟨G, 5, none⟩ (.int .i64 ot)) G 47 #[.int .i64 oi, .int .i64 oc, .string of, .slice (some ⟨b7, 0, none⟩) ols.length cp7, .int .i64 on, .int .i64 ot] := (((((hB2.set_ 0 _).set_ 1 _).set_ 2 _).set_ 3 _).set_ 4 _).set_ 5 _
    replace hB9 := hid hB9
    have hF := hid (And.intro hb2 (And.intro hb7 hO7))
    clear hb2 hb7 hB2 HH HW K hO7
    go_wp2_with fail
    replace hB9 := hB9.out
    obtain ⟨W9, hW9⟩ : ∃ W9, W9 = ((((((w7.setCell ⟨G, 0, none⟩ (.int .i64 oi)).setCell ⟨G, 1, none⟩ (.int .i64 oc)).setCell ⟨G, 2, none⟩ (.string of)).setCell ⟨G, 3, none⟩ (.slice (some ⟨b7, 0, none⟩) ols.length cp7)).setCell ⟨G, 4, none⟩ (.int .i64 on)).setCell ⟨G, 5, none⟩ (.int .i64 ot)) := ⟨_, rfl⟩
    rw [← hW9] at hB9 ⊢
    have HW9 := hid hW9
    clear hW9 d0 d1 d2 d3 d4 d5 k0 k1 k2 k3 k4 k5
    have c0 : W9.cell? ⟨G, 0, none⟩ = some (.int .i64 oi) := hB9.cell 0
    have c1 : W9.cell? ⟨G, 1, none⟩ = some (.int .i64 oc) := hB9.cell 1
    have c2 : W9.cell? ⟨G, 2, none⟩ = some (.string of) := hB9.cell 2
    have c3 : W9.cell? ⟨G, 3, none⟩ = some (.slice (some ⟨b7, 0, none⟩) ols.length cp7) := hB9.cell 3
    have c4 : W9.cell? ⟨G, 4, none⟩ = some (.int .i64 on) := hB9.cell 4
    have c5 : W9.cell? ⟨G, 5, none⟩ = some (.int .i64 ot) := hB9.cell 5
    refine bodyPost_ret (v := .tuple #[.agg #[.int .i64 oi, .int .i64 oc, .string of, .slice (some ⟨b7, 0, none⟩) ols.length cp7, .int .i64 on, .int .i64 ot], .bool true]) (by simp [results, Try.results11, go_sem, c0, c1, c2, c3, c4, c5]) rfl ?_
    rw [HW9.out]
    obtain ⟨hb2, hb7, hO7⟩ := hF.out
    have hT := (((((((Touch.refl (fun k => k = G) w7).set (g := G) rfl 0 (.int .i64 oi)).set (g := G) rfl 1 (.int .i64 oc)).set (g := G) rfl 2 (.string of)).set (g := G) rfl 3 (.slice (some ⟨b7, 0, none⟩) ols.length cp7)).set (g := G) rfl 4 (.int .i64 on)).set (g := G) rfl 5 (.int .i64 ot))
    have hbf : Below w.heap.size w _ := (bthen hb2 hb7).trans (hT.below (bthen hb2 hb7).size (fun k hk => by omega))
    refine ⟨fun hn => (by rw [HM.out] at hn; cases hn), fun o ho => ?_, hbf⟩
    rw [HM.out] at ho
    injection ho with ho
    subst ho
    refine ⟨b7, cp7, rfl, ⟨own_touch (ownsRow_low hO7.own hb2.size) hT (fun k hk => ?_)⟩⟩
    have hk' : b7 = k := by simpa [Value.ownBlock] using hk
    subst hk'
    intro hc
    have h1 := (hO7.own.lt b7 rfl).1
    have h2 := hb2.size
    have h3 := HL.out
    omega
end

end Go.Proofs.Ytakaalldbnklcaa.Or
