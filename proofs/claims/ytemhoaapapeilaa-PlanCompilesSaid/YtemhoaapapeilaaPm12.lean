/-
  A plan's methods: Len, Name, has, Step, Before.
-/
import Derived.Test.YtemhoaapapeilaaCo12
namespace Go.Proofs.Ytemhoaapapeilaa
open Go.RowKit Go.WideShapes Go.ChangeShapes Go.ChangeAt Go.Deep
set_option linter.unusedVariables false

def onceV (dn : Bool) : Value := .int .u32 (if dn then 1 else 0)
def rowsC (Hs : List IRow) : Array Value := (Hs.flatMap enR).toArray
/-- A plan, as it is asked. -/
structure PlW (base : Nat) (nm : ByteArray) (P : Nat) (vS vB vH : Value) (Ls : List Stp) (Bs Hs : List IRow) (dn : Bool) (ask : Int) (w : World) : Prop where
  p : Blk w P 75 #[.string nm, vS, vB, onceV dn, .int .i32 0, .int .u32 0, vH, .int .i64 ask]
  os : w.ownsRow base 34 9 vS Ls.length (Ls.flatMap enSt)
  ob : w.ownsRow base 36 1 vB Bs.length (Bs.flatMap enR)
  st : ∀ s ∈ Ls, OwnSt base w s
  rw : ∀ b ∈ Bs, OwnR base w b
  hs : dn = true → ∃ H, vH = .slice (some ⟨H, 0, none⟩) Ls.length Ls.length ∧ Blk w H 36 (rowsC Hs) ∧ base ≤ H ∧ ∀ b ∈ Hs, OwnR base w b
  hl : dn = true → Hs.length = Ls.length
  lo : base ≤ P
theorem PlB.plw {base : Nat} {nm : ByteArray} {P : Nat} {vS vB : Value} {Ls : List Stp} {Bs : List IRow} {w : World} (h : PlB base nm P vS vB Ls Bs w) : PlW base nm P vS vB (.slice none 0 0) Ls Bs [] false 0 w := ⟨h.p, h.os, h.ob, h.st, h.rw, (fun e => by cases e), (fun e => by cases e), h.lo⟩
section
variable {base : Nat} {nm : ByteArray} {P : Nat} {vS vB vH : Value} {Ls : List Stp} {Bs Hs : List IRow} {dn : Bool} {ask : Int} {w w' : World}
theorem PlW.next (h : PlW base nm P vS vB vH Ls Bs Hs dn ask w) (hb : Below w.heap.size w w') : PlW base nm P vS vB vH Ls Bs Hs dn ask w' :=
  ⟨h.p.next hb, own_next h.os hb, own_next h.ob hb, fun s hs => own_next (h.st s hs) hb, fun b hbb => own_next (h.rw b hbb) hb, fun e => by obtain ⟨H, h1, h2, h3, h4⟩ := h.hs e; exact ⟨H, h1, h2.next hb, h3, fun b hbb => own_next (h4 b hbb) hb⟩, h.hl, h.lo⟩

set_option maxRecDepth 100000 in
theorem len_nil (w : World) : Calls Try.prog 11 #[.pointer none] w fun e w' => e = .returned (.int .i64 0) ∧ w' = w := by
  go_enter Try.func11, Try.ntmps11
  go_wp2_with fail
  go_ret
  exact ⟨rfl, rfl⟩
set_option maxRecDepth 100000 in
theorem len_some (h : PlW base nm P vS vB vH Ls Bs Hs dn ask w) : Calls Try.prog 11 #[.pointer (some ⟨P, 0, none⟩)] w fun e w' => e = .returned (.int .i64 (Ls.length : Int)) ∧ w' = w := by
  obtain ⟨A, cap, hv, _⟩ := own_slice h.os
  have p1 : w.cell? ⟨P, 1, none⟩ = some (.slice A Ls.length cap) := by rw [h.p.cell, ← hv]; rfl
  have lP := h.p.lt
  clear h hv
  go_enter Try.func11, Try.ntmps11
  go_wp2_with fail
  go_ret
  exact ⟨rfl, rfl⟩
set_option maxRecDepth 100000 in
theorem name_nil (w : World) : Calls Try.prog 22 #[.pointer none] w fun e w' => e = .returned (.string ⟨#[]⟩) ∧ w' = w := by
  go_enter Try.func22, Try.ntmps22
  go_wp2_with fail
  go_ret
  exact ⟨rfl, rfl⟩
set_option maxRecDepth 100000 in
theorem name_some (h : PlW base nm P vS vB vH Ls Bs Hs dn ask w) : Calls Try.prog 22 #[.pointer (some ⟨P, 0, none⟩)] w fun e w' => e = .returned (.string nm) ∧ w' = w := by
  have p0 : w.cell? ⟨P, 0, none⟩ = some (.string nm) := h.p.cell 0
  have lP := h.p.lt
  clear h
  go_enter Try.func22, Try.ntmps22
  go_wp2_with fail
  go_ret
  exact ⟨rfl, rfl⟩
/-- Is there a step with this number? -/
def hasN (n : Nat) (i : Int) : Bool := decide (0 ≤ i) && decide (i < (n : Int))
set_option maxRecDepth 100000 in
set_option maxHeartbeats 4000000 in
theorem has_any (pv : Value) (n : Nat) (i : Int) (w : World) (KL : Calls Try.prog 11 #[pv] w fun e w' => e = .returned (.int .i64 (n : Int)) ∧ w' = w) : Calls Try.prog 34 #[pv, .int .i64 i] w fun e w' => e = .returned (.bool (hasN n i)) ∧ w' = w := by
  have HK := hid KL
  clear KL
  by_cases h0 : 0 ≤ i
  · have HV := hid (show hasN n i = decide (i < (n : Int)) from by simp [hasN, h0])
    go_enter Try.func34, Try.ntmps34
    go_wp2_with fail
    refine HK.out.mono ?_
    rintro e w2 ⟨rfl, rfl⟩
    go_wp2_with fail
    go_ret
    exact ⟨by rw [HV.out]; rfl, rfl⟩
  · have HV := hid (show hasN n i = false from by simp [hasN, h0])
    go_enter Try.func34, Try.ntmps34
    go_wp2_with fail
    go_ret
    exact ⟨by rw [HV.out]; rfl, rfl⟩
def zeroSt : Stp := ⟨⟨#[]⟩, ⟨#[]⟩, ⟨#[]⟩, ⟨#[]⟩, false, 0, 0, 0, none, 0, []⟩
/-- The step with a number; none: a step without anything. -/
def stepAt (Ls : List Stp) (i : Int) : Stp := if 0 ≤ i then (Ls[i.toNat]?).getD zeroSt else zeroSt
theorem stepAt_out {Ls : List Stp} {i : Int} (h : hasN Ls.length i = false) : stepAt Ls i = zeroSt := by
  unfold stepAt
  split
  · rename_i h0
    unfold hasN at h
    simp only [h0, decide_true, Bool.true_and, decide_eq_false_iff_not] at h
    rw [List.getElem?_eq_none (by omega)]
    rfl
  · rfl
theorem hasN_in {n : Nat} {i : Int} (h : hasN n i = true) : ∃ q : Nat, i = (q : Int) ∧ q < n := by
  unfold hasN at h
  simp only [Bool.and_eq_true, decide_eq_true_eq] at h
  exact ⟨i.toNat, by omega, by omega⟩
theorem stepAt_in {Ls : List Stp} {q : Nat} {s : Stp} (h : Ls[q]? = some s) : stepAt Ls (q : Int) = s := by
  unfold stepAt
  rw [if_pos (by omega)]
  simp [h]
/-- What Step leaves. -/
def StepR (s : Stp) (w : World) (e : Ending) (w' : World) : Prop := ∃ A cap, e = .returned (.agg (enSt (twn s A cap)).toArray) ∧ OwnSt w.heap.size w' (twn s A cap) ∧ Below w.heap.size w w'
set_option maxRecDepth 100000 in
set_option maxHeartbeats 8000000 in
theorem step_out (pv : Value) (n : Nat) (i : Int) (w : World) (KL : ∀ w, Calls Try.prog 11 #[pv] w fun e w' => e = .returned (.int .i64 (n : Int)) ∧ w' = w) (hi : hasN n i = false) : Calls Try.prog 12 #[pv, .int .i64 i] w (StepR zeroSt w) := by
  have hwa : Below w.heap.size w (w.alloc (.cells #[.string ⟨#[]⟩, .string ⟨#[]⟩, .string ⟨#[]⟩, .string ⟨#[]⟩, .bool false, .int .i64 0, .int .i64 0, .int .i64 0, .slice none 0 0] 34)) := (Below.refl _ _).alloc (Nat.le_refl _) _
  have hB := Blk.new w 34 #[.string ⟨#[]⟩, .string ⟨#[]⟩, .string ⟨#[]⟩, .string ⟨#[]⟩, .bool false, .int .i64 0, .int .i64 0, .int .i64 0, .slice none 0 0]
  obtain ⟨W, hW⟩ : ∃ W, W = w.alloc (.cells #[.string ⟨#[]⟩, .string ⟨#[]⟩, .string ⟨#[]⟩, .string ⟨#[]⟩, .bool false, .int .i64 0, .int .i64 0, .int .i64 0, .slice none 0 0] 34) := ⟨_, rfl⟩
  obtain ⟨G, hG⟩ : ∃ G, G = w.heap.size := ⟨_, rfl⟩
  rw [← hW] at hwa hB
  rw [← hG] at hB
  have HK := hid (has_any pv n i W (KL W))
  rw [hi] at HK
  have HWG := hid (And.intro hW hG)
  have HB := hid hB
  have hT5 := Touch.setRow W G #[.string ⟨#[]⟩, .string ⟨#[]⟩, .string ⟨#[]⟩, .string ⟨#[]⟩, .bool false, .int .i64 0, .int .i64 0, .int .i64 0, .slice none 0 0]
  have hC5 := hB.setRow #[.string ⟨#[]⟩, .string ⟨#[]⟩, .string ⟨#[]⟩, .string ⟨#[]⟩, .bool false, .int .i64 0, .int .i64 0, .int .i64 0, .slice none 0 0]
  have hb5 := hwa.trans (hT5.below hwa.size (fun k hk => by rw [hk]; omega))
  obtain ⟨w5, hw5⟩ : ∃ w5, w5 = W.setRow G #[.string ⟨#[]⟩, .string ⟨#[]⟩, .string ⟨#[]⟩, .string ⟨#[]⟩, .bool false, .int .i64 0, .int .i64 0, .int .i64 0, .slice none 0 0] := ⟨_, rfl⟩
  rw [← hw5] at hC5 hb5
  have HW5 := hid hw5
  have HF := hid hb5
  have r0 : w5.cell? ⟨G, 0, none⟩ = some (.string ⟨#[]⟩) := hC5.cell 0
  have r1 : w5.cell? ⟨G, 1, none⟩ = some (.string ⟨#[]⟩) := hC5.cell 1
  have r2 : w5.cell? ⟨G, 2, none⟩ = some (.string ⟨#[]⟩) := hC5.cell 2
  have r3 : w5.cell? ⟨G, 3, none⟩ = some (.string ⟨#[]⟩) := hC5.cell 3
  have r4 : w5.cell? ⟨G, 4, none⟩ = some (.bool false) := hC5.cell 4
  have r5 : w5.cell? ⟨G, 5, none⟩ = some (.int .i64 0) := hC5.cell 5
  have r6 : w5.cell? ⟨G, 6, none⟩ = some (.int .i64 0) := hC5.cell 6
  have r7 : w5.cell? ⟨G, 7, none⟩ = some (.int .i64 0) := hC5.cell 7
  have r8 : w5.cell? ⟨G, 8, none⟩ = some (.slice none 0 0) := hC5.cell 8
  have lG5 := hC5.lt
  clear hwa hB hW hG hT5 hC5 hb5 hw5 KL
  go_enter Try.func12, Try.ntmps12
  go_upto_region 1 with fail
  rw [← HWG.out.1, ← HWG.out.2]
  go_wp2_with fail
  refine HK.out.mono ?_
  rintro e w2 ⟨rfl, rfl⟩
  go_wp2_with (first
    | (refine wpList_store_row rfl 34 _ _ rfl G #[.string ⟨#[]⟩, .string ⟨#[]⟩, .string ⟨#[]⟩, .string ⟨#[]⟩, .bool false, .int .i64 0, .int .i64 0, .int .i64 0, .slice none 0 0] rfl rfl 34 _ HB.out (by kernel_rfl) (by rfl) (by simp [Value.oneCell']) ?_; rw [← HW5.out]))
  refine bodyPost_ret (v := .agg #[.string ⟨#[]⟩, .string ⟨#[]⟩, .string ⟨#[]⟩, .string ⟨#[]⟩, .bool false, .int .i64 0, .int .i64 0, .int .i64 0, .slice none 0 0]) (by simp [results, Try.results12, go_sem, r0, r1, r2, r3, r4, r5, r6, r7, r8]) rfl ?_
  exact ⟨none, 0, rfl, World.ownsRow_nil _ _ _ _, HF.out⟩
set_option maxRecDepth 100000 in
set_option maxHeartbeats 8000000 in
theorem step_in (h : PlW base nm P vS vB vH Ls Bs Hs dn ask w) (q : Nat) (s : Stp) (hq : Ls[q]? = some s) (hok : s.after.length * 16 ≤ 140737488355328) : Calls Try.prog 12 #[.pointer (some ⟨P, 0, none⟩), .int .i64 (q : Int)] w (StepR s w) := by
  have hql : q < Ls.length := (List.getElem?_eq_some_iff.1 hq).1
  have hwa : Below w.heap.size w (w.alloc (.cells #[.string ⟨#[]⟩, .string ⟨#[]⟩, .string ⟨#[]⟩, .string ⟨#[]⟩, .bool false, .int .i64 0, .int .i64 0, .int .i64 0, .slice none 0 0] 34)) := (Below.refl _ _).alloc (Nat.le_refl _) _
  have hB := Blk.new w 34 #[.string ⟨#[]⟩, .string ⟨#[]⟩, .string ⟨#[]⟩, .string ⟨#[]⟩, .bool false, .int .i64 0, .int .i64 0, .int .i64 0, .slice none 0 0]
  have h2 := h.next hwa
  obtain ⟨W, hW⟩ : ∃ W, W = w.alloc (.cells #[.string ⟨#[]⟩, .string ⟨#[]⟩, .string ⟨#[]⟩, .string ⟨#[]⟩, .bool false, .int .i64 0, .int .i64 0, .int .i64 0, .slice none 0 0] 34) := ⟨_, rfl⟩
  obtain ⟨G, hG⟩ : ∃ G, G = w.heap.size := ⟨_, rfl⟩
  rw [← hW] at hwa hB h2
  rw [← hG] at hB
  have HK := hid (has_any (.pointer (some ⟨P, 0, none⟩)) Ls.length (q : Int) W (len_some h2))
  rw [show hasN Ls.length (q : Int) = true from by simp [hasN]; exact hql] at HK
  have HWG := hid (And.intro hW hG)
  have HB := hid hB
  have HBW := hid hwa
  obtain ⟨A, cap, hv, hRd⟩ := own_slice h2.os
  obtain ⟨b, o, hAA, _, hcc⟩ := hRd.at_ 9 enSt_len (by omega) hq
  have KT := hid (twin_any s W ⟨own_rd (h2.st s (List.mem_of_getElem? hq)), hok⟩)
  have p1 : W.cell? ⟨P, 1, none⟩ = some (.slice A Ls.length cap) := by rw [h2.p.cell, ← hv]; rfl
  have lP := h2.p.lt
  clear h hwa hB hW hG h2 hv hRd hq
  obtain ⟨xn, xv, xu, xe, xf, xr, xy, xw, xA, xc, xl⟩ := s
  subst hAA
  have q0 : W.cell? ⟨b, o + q * 9, none⟩ = some (.string xn) := hcc 0 _ rfl
  have q1 : W.cell? ⟨b, o + q * 9 + 1, none⟩ = some (.string xv) := hcc 1 _ rfl
  have q2 : W.cell? ⟨b, o + q * 9 + 2, none⟩ = some (.string xu) := hcc 2 _ rfl
  have q3 : W.cell? ⟨b, o + q * 9 + 3, none⟩ = some (.string xe) := hcc 3 _ rfl
  have q4 : W.cell? ⟨b, o + q * 9 + 4, none⟩ = some (.bool xf) := hcc 4 _ rfl
  have q5 : W.cell? ⟨b, o + q * 9 + 5, none⟩ = some (.int .i64 xr) := hcc 5 _ rfl
  have q6 : W.cell? ⟨b, o + q * 9 + 6, none⟩ = some (.int .i64 xy) := hcc 6 _ rfl
  have q7 : W.cell? ⟨b, o + q * 9 + 7, none⟩ = some (.int .i64 xw) := hcc 7 _ rfl
  have q8 : W.cell? ⟨b, o + q * 9 + 8, none⟩ = some (.slice xA xl.length xc) := hcc 8 _ rfl
  have KT2 : Hid (Calls Try.prog 32 #[.agg #[.string xn, .string xv, .string xu, .string xe, .bool xf, .int .i64 xr, .int .i64 xy, .int .i64 xw, .slice xA xl.length xc]] W fun e w' => ∃ A cap, e = .returned (.agg (enSt (twn (⟨xn, xv, xu, xe, xf, xr, xy, xw, xA, xc, xl⟩ : Stp) A cap)).toArray) ∧ OwnSt W.heap.size w' (twn (⟨xn, xv, xu, xe, xf, xr, xy, xw, xA, xc, xl⟩ : Stp) A cap) ∧ Below W.heap.size W w') := KT
  clear hcc KT
  go_enter Try.func12, Try.ntmps12
  go_upto_region 1 with fail
  rw [← HWG.out.1, ← HWG.out.2]
  go_wp2_with fail
  refine HK.out.mono ?_
  rintro e w2 ⟨rfl, rfl⟩
  go_wp2_with fail
  refine KT2.out.mono ?_
  rintro e w3 ⟨A2, c2, rfl, hO, hb3⟩
  rw [show (enSt (twn (⟨xn, xv, xu, xe, xf, xr, xy, xw, xA, xc, xl⟩ : Stp) A2 c2)).toArray = #[.string xn, .string xv, .string xu, .string xe, .bool xf, .int .i64 xr, .int .i64 xy, .int .i64 xw, .slice A2 xl.length c2] from rfl]
  have hB3 := HB.out.next hb3
  have hb03 := bthen HBW.out hb3
  have hT5 := Touch.setRow w3 G #[.string xn, .string xv, .string xu, .string xe, .bool xf, .int .i64 xr, .int .i64 xy, .int .i64 xw, .slice A2 xl.length c2]
  have hC5 := hB3.setRow #[.string xn, .string xv, .string xu, .string xe, .bool xf, .int .i64 xr, .int .i64 xy, .int .i64 xw, .slice A2 xl.length c2]
  have hO5 : OwnSt w2.heap.size (w3.setRow G #[.string xn, .string xv, .string xu, .string xe, .bool xf, .int .i64 xr, .int .i64 xy, .int .i64 xw, .slice A2 xl.length c2]) (twn (⟨xn, xv, xu, xe, xf, xr, xy, xw, xA, xc, xl⟩ : Stp) A2 c2) := own_touch hO hT5 (fun g hg e => own_notBlk hO hB3 (by decide) (by rw [hg, e]))
  have hb5 := hb03.trans (hT5.below hb03.size (fun k hk => by rw [hk, HWG.out.2]; exact Nat.le_refl _))
  obtain ⟨w5, hw5⟩ : ∃ w5, w5 = w3.setRow G #[.string xn, .string xv, .string xu, .string xe, .bool xf, .int .i64 xr, .int .i64 xy, .int .i64 xw, .slice A2 xl.length c2] := ⟨_, rfl⟩
  rw [← hw5] at hC5 hb5 hO5
  have HW5 := hid hw5
  have HB3 := hid hB3
  have HF := hid (And.intro hO5 hb5)
  have r0 : w5.cell? ⟨G, 0, none⟩ = some (.string xn) := hC5.cell 0
  have r1 : w5.cell? ⟨G, 1, none⟩ = some (.string xv) := hC5.cell 1
  have r2 : w5.cell? ⟨G, 2, none⟩ = some (.string xu) := hC5.cell 2
  have r3 : w5.cell? ⟨G, 3, none⟩ = some (.string xe) := hC5.cell 3
  have r4 : w5.cell? ⟨G, 4, none⟩ = some (.bool xf) := hC5.cell 4
  have r5 : w5.cell? ⟨G, 5, none⟩ = some (.int .i64 xr) := hC5.cell 5
  have r6 : w5.cell? ⟨G, 6, none⟩ = some (.int .i64 xy) := hC5.cell 6
  have r7 : w5.cell? ⟨G, 7, none⟩ = some (.int .i64 xw) := hC5.cell 7
  have r8 : w5.cell? ⟨G, 8, none⟩ = some (.slice A2 xl.length c2) := hC5.cell 8
  have lG5 := hC5.lt
  clear hO hb3 hB3 hb03 hT5 hC5 hO5 hb5 hw5 KT2 HK q0 q1 q2 q3 q4 q5 q6 q7 q8 p1 lP
  go_wp2_with (first
    | (refine wpList_store_row rfl 34 _ _ rfl G #[.string xn, .string xv, .string xu, .string xe, .bool xf, .int .i64 xr, .int .i64 xy, .int .i64 xw, .slice A2 xl.length c2] rfl rfl 34 _ HB3.out (by kernel_rfl) (by rfl) (by simp [Value.oneCell']) ?_; rw [← HW5.out]))
  refine bodyPost_ret (v := .agg #[.string xn, .string xv, .string xu, .string xe, .bool xf, .int .i64 xr, .int .i64 xy, .int .i64 xw, .slice A2 xl.length c2]) (by simp [results, Try.results12, go_sem, r0, r1, r2, r3, r4, r5, r6, r7, r8]) rfl ?_
  exact ⟨A2, c2, rfl, own_base HF.out.1 HBW.out.size, HF.out.2⟩
/-- The row with a number. -/
def rowAt (Bs : List IRow) (i : Int) : List Int := if 0 ≤ i then ((Bs[i.toNat]?).map IRow.xs).getD [] else []
theorem rowAt_in {Bs : List IRow} {q : Nat} {b : IRow} (h : Bs[q]? = some b) : rowAt Bs (q : Int) = b.xs := by
  unfold rowAt
  rw [if_pos (by omega)]
  simp [h]
set_option maxRecDepth 100000 in
set_option maxHeartbeats 8000000 in
theorem before_out (pv : Value) (n : Nat) (i : Int) (w : World) (KL : Calls Try.prog 11 #[pv] w fun e w' => e = .returned (.int .i64 (n : Int)) ∧ w' = w) (hi : hasN n i = false) : Calls Try.prog 13 #[pv, .int .i64 i] w (NewRowOf en1 3 1 [] w) := by
  have HK := hid (has_any pv n i w KL)
  rw [hi] at HK
  clear KL
  go_enter Try.func13, Try.ntmps13
  go_wp2_with fail
  refine HK.out.mono ?_
  rintro e w2 ⟨rfl, rfl⟩
  go_wp2_with fail
  go_ret
  exact ⟨none, 0, rfl, World.ownsRow_nil _ _ _ _, Below.refl _ _⟩
set_option maxRecDepth 100000 in
set_option maxHeartbeats 8000000 in
theorem before_in (h : PlW base nm P vS vB vH Ls Bs Hs dn ask w) (q : Nat) (b : IRow) (hq : Bs[q]? = some b) (hBL : Bs.length = Ls.length) (hok : b.xs.length * 8 ≤ 140737488355328) : Calls Try.prog 13 #[.pointer (some ⟨P, 0, none⟩), .int .i64 (q : Int)] w (NewRowOf en1 3 1 b.xs w) := by
  have hql : q < Bs.length := (List.getElem?_eq_some_iff.1 hq).1
  have HK := hid (has_any (.pointer (some ⟨P, 0, none⟩)) Ls.length (q : Int) w (len_some h))
  rw [show hasN Ls.length (q : Int) = true from by simp [hasN]; omega] at HK
  obtain ⟨A, cap, hv, hRd⟩ := own_slice h.ob
  obtain ⟨g, o, hAA, _, hcc⟩ := hRd.at_ 1 enR_len (by omega) hq
  have KC := hid (cloneI_any b.xs b.A b.cap w (own_rd (h.rw b (List.mem_of_getElem? hq))) hok)
  have p1 : w.cell? ⟨P, 2, none⟩ = some (.slice A Bs.length cap) := by rw [h.p.cell, ← hv]; rfl
  have lP := h.p.lt
  have q0 : w.cell? ⟨g, o + q * 1, none⟩ = some (.slice b.A b.xs.length b.cap) := hcc 0 _ rfl
  rw [Nat.mul_one] at q0
  subst hAA
  clear h hv hRd hcc hq
  go_enter Try.func13, Try.ntmps13
  go_wp2_with fail
  refine HK.out.mono ?_
  rintro e w2 ⟨rfl, rfl⟩
  go_wp2_with fail
  refine KC.out.mono ?_
  rintro e w3 ⟨A2, c2, rfl, hO, hb3⟩
  have HF := hid (And.intro hO hb3)
  clear hO hb3 KC HK p1 lP q0
  go_wp2_with fail
  go_ret
  exact ⟨A2, c2, rfl, HF.out.1, HF.out.2⟩
end

end Go.Proofs.Ytemhoaapapeilaa
