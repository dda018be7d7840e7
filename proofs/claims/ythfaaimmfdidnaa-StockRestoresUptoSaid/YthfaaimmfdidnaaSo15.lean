/-
  The stock book: state, Free, Ship, Restock.
-/
import Derived.Test.YthfaaimmfdidnaaSa15
namespace Go.Proofs.Ythfaaimmfdidnaa
open Go.RowKit Go.WideShapes Go.ChangeShapes Go.ChangeAt Go.Deep
set_option linter.unusedVariables false

section
variable {n0 : Nat} {w w' : World} {X BL BG : Nat} {lv : List (Int × Lv)} {gs : List (Int × Gd)}
set_option maxRecDepth 100000 in
theorem state_none (h : IsBook n0 w X BL BG lv gs) (o : Int) (hm : mget gs o = none) :
    Calls Try.prog 33 #[.pointer (some ⟨X, 0, none⟩), .int .i64 o] w fun e w' => e = .returned (.tuple #[.int .i64 0, .int .i64 70]) ∧ w = w' := by
  have c1 := h.cellG
  have l2 := h.lookG o
  rw [show ptrG gs o = none from by unfold ptrG; rw [hm]; rfl] at l2
  clear h hm
  go_enter Try.func33, Try.ntmps33
  go_wp2_with fail
  go_ret2
  exact ⟨rfl, rfl⟩
set_option maxRecDepth 100000 in
theorem state_some (h : IsBook n0 w X BL BG lv gs) (o : Int) {d : Gd} (hm : mget gs o = some d) :
    Calls Try.prog 33 #[.pointer (some ⟨X, 0, none⟩), .int .i64 o] w fun e w' => e = .returned (.tuple #[.int .i64 d.st, .int .i64 0]) ∧ w = w' := by
  have c1 := h.cellG
  have l2 := h.lookG o
  rw [show ptrG gs o = some ⟨d.g, 0, none⟩ from by unfold ptrG; rw [hm]; rfl] at l2
  have g1 : w.cell? ⟨d.g, 1, none⟩ = some (.int .i64 d.st) := (h.atG hm).cell 1
  clear h hm
  go_enter Try.func33, Try.ntmps33
  go_wp2_with fail
  go_ret2
  exact ⟨rfl, rfl⟩

set_option maxRecDepth 100000 in
set_option maxHeartbeats 4000000 in
theorem free_none (h : IsBook n0 w X BL BG lv gs) (o : Int) (hm : mget gs o = none) :
    Calls Try.prog 16 #[.pointer (some ⟨X, 0, none⟩), .int .i64 o] w fun e w' => e = .returned (.int .i64 70) ∧ w = w' := by
  have S := hid (state_none h o hm)
  clear h hm
  go_enter Try.func16, Try.ntmps16
  go_wp2_with (first | (go_at_call 33; refine S.out.mono ?_; rintro e w5 ⟨rfl, rfl⟩))
  go_ret
  exact ⟨rfl, rfl⟩
set_option maxRecDepth 100000 in
set_option maxHeartbeats 4000000 in
theorem free_gone (h : IsBook n0 w X BL BG lv gs) (o : Int) {d : Gd} (hm : mget gs o = some d) (hs : d.st = 2) :
    Calls Try.prog 16 #[.pointer (some ⟨X, 0, none⟩), .int .i64 o] w fun e w' => e = .returned (.int .i64 130) ∧ w = w' := by
  have S := hid (state_some h o hm)
  rw [hs] at S
  clear h hm
  go_enter Try.func16, Try.ntmps16
  go_wp2_with (first | (go_at_call 33; refine S.out.mono ?_; rintro e w5 ⟨rfl, rfl⟩))
  go_ret
  exact ⟨rfl, rfl⟩
set_option maxRecDepth 100000 in
set_option maxHeartbeats 4000000 in
theorem free_back (h : IsBook n0 w X BL BG lv gs) (o : Int) {d : Gd} (hm : mget gs o = some d) (hs : d.st = 3) :
    Calls Try.prog 16 #[.pointer (some ⟨X, 0, none⟩), .int .i64 o] w fun e w' => e = .returned (.int .i64 0) ∧ w = w' := by
  have S := hid (state_some h o hm)
  rw [hs] at S
  clear h hm
  go_enter Try.func16, Try.ntmps16
  go_wp2_with (first | (go_at_call 33; refine S.out.mono ?_; rintro e w5 ⟨rfl, rfl⟩))
  go_ret
  exact ⟨rfl, rfl⟩
set_option maxRecDepth 100000 in
set_option maxHeartbeats 8000000 in
theorem free_yes (h : IsBook n0 w X BL BG lv gs) (o : Int) {d : Gd} (hm : mget gs o = some d) (hs : d.st = 1) (h4 : d.ls.length ≤ 4) (hln : ∀ k, LnOk d.ls k) (hkn : knowF lv d.ls = true) (hbd : ∀ p ∈ lv, LvB p.2) :
    Calls Try.prog 16 #[.pointer (some ⟨X, 0, none⟩), .int .i64 o] w fun e w' => e = .returned (.int .i64 0) ∧ IsBook n0 w' X BL BG (mvL freeL lv d.ls) (mdel gs o) ∧ Touch (Own BL BG lv gs) w w' := by
  have S := hid (state_some h o hm)
  rw [hs] at S
  have M := hid (move_any 35 (fun _ _ => by go_simp) freeL (fun _ _ => rfl) h o hm h4 hln hkn (fun x hx a ha w' hB' => by
    obtain ⟨j, hj⟩ := List.mem_iff_getElem?.1 hx
    have h5 := hln j x hj
    have h6 := hbd _ (mget_mem ha)
    unfold LvB at h6
    simp only at h6
    exact free_any a x.q w' hB' ⟨by omega, by omega⟩ ⟨by omega, by omega⟩))
  clear h hm hln hkn hbd h4
  go_enter Try.func16, Try.ntmps16
  go_wp2_with (first | (go_at_call 33; refine S.out.mono ?_; rintro e w5 ⟨rfl, rfl⟩))
  refine M.out.mono ?_
  rintro e w6 ⟨rfl, hI, hT⟩
  have c1 := hI.cellG
  have HI := hid hI
  have HT := hid hT
  clear M S hI hT
  go_wp2_with (first | (at_delete; refine wpList_drop _ rfl _ _ 72 79 3 rfl keyL Try.underlying72 BG gs rfl HI.out.gds o rfl ?_; intro w3 hM3 hg3 hs3))
  have h3 := hid (HI.out.delG hM3 hg3)
  have hT3 := hid (HT.out.then ((Touch.of_grown hg3).mono (fun k hk => (.inr (.inl hk) : Own BL BG lv gs k))))
  clear hM3 hg3 hs3
  go_wp2_with fail
  go_ret
  exact ⟨rfl, h3.out, hT3.out⟩

set_option maxRecDepth 100000 in
set_option maxHeartbeats 4000000 in
theorem onward_none (h : IsBook n0 w X BL BG lv gs) (o st : Int) (v : Value) (hm : mget gs o = none) :
    Calls Try.prog 36 #[.pointer (some ⟨X, 0, none⟩), .int .i64 o, .int .i64 st, v] w fun e w' => e = .returned (.int .i64 70) ∧ w = w' := by
  have S := hid (state_none h o hm)
  clear h hm
  go_enter Try.func36, Try.ntmps36
  go_wp2_with (first | (go_at_call 33; refine S.out.mono ?_; rintro e w5 ⟨rfl, rfl⟩))
  go_ret
  exact ⟨rfl, rfl⟩
set_option maxRecDepth 100000 in
set_option maxHeartbeats 4000000 in
theorem onward_other (h : IsBook n0 w X BL BG lv gs) (o st : Int) (v : Value) {d : Gd} (hm : mget gs o = some d) (hs : d.st ≠ st) :
    Calls Try.prog 36 #[.pointer (some ⟨X, 0, none⟩), .int .i64 o, .int .i64 st, v] w fun e w' => e = .returned (.int .i64 130) ∧ w = w' := by
  have S := hid (state_some h o hm)
  have hb : (d.st != st) = true := by simpa using hs
  clear h hm hs
  go_enter Try.func36, Try.ntmps36
  go_wp2_with (first | (go_at_call 33; refine S.out.mono ?_; rintro e w5 ⟨rfl, rfl⟩))
  go_ret
  exact ⟨rfl, rfl⟩
def nextG (d : Gd) : Gd := ⟨d.g, d.o, d.st + 1, d.b, d.cap, d.ls⟩
set_option maxRecDepth 100000 in
set_option maxHeartbeats 8000000 in
theorem onward_yes (N : FuncId) (hN : ∀ (args : Array Value) (w : World), (callFunc N args).run Try.prog w = .ok (.enter N args) w) (f : Lv → Int → Lv) (hf : ∀ a q, (f a q).g = a.g) (h : IsBook n0 w X BL BG lv gs) (o st : Int) {d : Gd} (hm : mget gs o = some d) (hs : d.st = st) (hs2 : 0 ≤ st ∧ st ≤ 3) (h4 : d.ls.length ≤ 4) (hln : ∀ k, LnOk d.ls k) (hkn : knowF lv d.ls = true) (hdo : ∀ x ∈ d.ls, ∀ a, mget lv x.i = some a → Does N f a x.q) :
    Calls Try.prog 36 #[.pointer (some ⟨X, 0, none⟩), .int .i64 o, .int .i64 st, .func (.func N) #[] #[]] w fun e w' => e = .returned (.int .i64 0) ∧ IsBook n0 w' X BL BG (mvL f lv d.ls) (mset gs o (nextG d)) ∧ Touch (Own BL BG lv gs) w w' := by
  have S := hid (state_some h o hm)
  rw [hs] at S
  have M := hid (move_any N hN f hf h o hm h4 hln hkn hdo)
  have hb : (st != st) = false := by simp
  have HM := hid hm
  have HS := hid hs
  have HS2 := hid hs2
  clear h hm hs hln hkn hdo h4 hs2
  go_enter Try.func36, Try.ntmps36
  go_wp2_with (first | (go_at_call 33; refine S.out.mono ?_; rintro e w5 ⟨rfl, rfl⟩))
  refine M.out.mono ?_
  rintro e w6 ⟨rfl, hI, hT⟩
  have c1 := hI.cellG
  have l2 := hI.lookG o
  rw [show ptrG gs o = some ⟨d.g, 0, none⟩ from by unfold ptrG; rw [HM.out]; rfl] at l2
  have hB := hI.atG HM.out
  have g1 : w6.cell? ⟨d.g, 1, none⟩ = some (.int .i64 st) := by rw [← HS.out]; exact hB.cell 1
  have f1 := hB.free 1
  have hw : IntKind.i64.wrap (st + 1) = st + 1 := IntWalk.i64_in _ ⟨by have := HS2.out; omega, by have := HS2.out; omega⟩
  have hT1 := Touch.setCell w6 d.g 1 (.int .i64 (st + 1))
  have hB1 := hB.set_ 1 (.int .i64 (st + 1))
  have HF := hid (And.intro (hI.putG (d' := nextG d) HM.out rfl rfl rfl hT1 (by unfold nextG; rw [HS.out]; simpa [enG] using hB1)) (hT.then (hT1.mono (fun k hk => (.inr (.inr (.inr ⟨_, mget_mem HM.out, hk.symm⟩)) : Own BL BG lv gs k)))))
  clear M S hI hT hB hT1 hB1
  go_wp2_with fail
  go_ret
  exact ⟨rfl, HF.out.1, HF.out.2⟩

set_option maxRecDepth 100000 in
set_option maxHeartbeats 4000000 in
theorem ship_yes (h : IsBook n0 w X BL BG lv gs) (o : Int) {d : Gd} (hm : mget gs o = some d) (hs : d.st = 1) (h4 : d.ls.length ≤ 4) (hln : ∀ k, LnOk d.ls k) (hkn : knowF lv d.ls = true) (hbd : ∀ p ∈ lv, LvB p.2) :
    Calls Try.prog 17 #[.pointer (some ⟨X, 0, none⟩), .int .i64 o] w fun e w' => e = .returned (.int .i64 0) ∧ IsBook n0 w' X BL BG (mvL shipL lv d.ls) (mset gs o (nextG d)) ∧ Touch (Own BL BG lv gs) w w' := by
  have S := hid (onward_yes 37 (fun _ _ => by go_simp) shipL (fun _ _ => rfl) h o 1 hm hs (by omega) h4 hln hkn (fun x hx a ha w' hB' => by
    obtain ⟨j, hj⟩ := List.mem_iff_getElem?.1 hx
    have h5 := hln j x hj
    have h6 := hbd _ (mget_mem ha)
    unfold LvB at h6
    simp only at h6
    exact ship_any a x.q w' hB' ⟨by omega, by omega⟩ ⟨by omega, by omega⟩))
  clear h hm hs h4 hln hkn hbd
  go_enter Try.func17, Try.ntmps17
  go_wp2_with (first | (go_at_call 36; refine S.out.mono ?_; rintro e w5 ⟨rfl, hI, hT⟩))
  go_ret
  exact ⟨rfl, hI, hT⟩
set_option maxRecDepth 100000 in
set_option maxHeartbeats 4000000 in
theorem restock_yes (h : IsBook n0 w X BL BG lv gs) (o : Int) {d : Gd} (hm : mget gs o = some d) (hs : d.st = 2) (h4 : d.ls.length ≤ 4) (hln : ∀ k, LnOk d.ls k) (hkn : knowF lv d.ls = true) (hbd : ∀ p ∈ lv, LvB p.2) :
    Calls Try.prog 18 #[.pointer (some ⟨X, 0, none⟩), .int .i64 o] w fun e w' => e = .returned (.int .i64 0) ∧ IsBook n0 w' X BL BG (mvL restockL lv d.ls) (mset gs o (nextG d)) ∧ Touch (Own BL BG lv gs) w w' := by
  have S := hid (onward_yes 38 (fun _ _ => by go_simp) restockL (fun _ _ => rfl) h o 2 hm hs (by omega) h4 hln hkn (fun x hx a ha w' hB' => by
    obtain ⟨j, hj⟩ := List.mem_iff_getElem?.1 hx
    have h5 := hln j x hj
    have h6 := hbd _ (mget_mem ha)
    unfold LvB at h6
    simp only at h6
    exact restock_any a x.q w' hB' ⟨by omega, by omega⟩ ⟨by omega, by omega⟩))
  clear h hm hs h4 hln hkn hbd
  go_enter Try.func18, Try.ntmps18
  go_wp2_with (first | (go_at_call 36; refine S.out.mono ?_; rintro e w5 ⟨rfl, hI, hT⟩))
  go_ret
  exact ⟨rfl, hI, hT⟩
/-- Ship and Restock where they do nothing. -/
theorem ship_not (h : IsBook n0 w X BL BG lv gs) (o : Int) {z : Int} (hz : (mget gs o = none ∧ z = 70) ∨ ∃ d, mget gs o = some d ∧ d.st ≠ 1 ∧ z = 130) :
    Calls Try.prog 17 #[.pointer (some ⟨X, 0, none⟩), .int .i64 o] w fun e w' => e = .returned (.int .i64 z) ∧ w = w' := by
  have S : Hid (Calls Try.prog 36 #[.pointer (some ⟨X, 0, none⟩), .int .i64 o, .int .i64 1, .func (.func 37) #[] #[]] w fun e w' => e = .returned (.int .i64 z) ∧ w = w') := hid (by
    rcases hz with ⟨h1, rfl⟩ | ⟨d, h1, h2, rfl⟩
    · exact onward_none h o 1 _ h1
    · exact onward_other h o 1 _ h1 h2)
  clear h hz
  go_enter Try.func17, Try.ntmps17
  go_wp2_with (first | (go_at_call 36; refine S.out.mono ?_; rintro e w5 ⟨rfl, rfl⟩))
  go_ret
  exact ⟨rfl, rfl⟩
theorem restock_not (h : IsBook n0 w X BL BG lv gs) (o : Int) {z : Int} (hz : (mget gs o = none ∧ z = 70) ∨ ∃ d, mget gs o = some d ∧ d.st ≠ 2 ∧ z = 130) :
    Calls Try.prog 18 #[.pointer (some ⟨X, 0, none⟩), .int .i64 o] w fun e w' => e = .returned (.int .i64 z) ∧ w = w' := by
  have S : Hid (Calls Try.prog 36 #[.pointer (some ⟨X, 0, none⟩), .int .i64 o, .int .i64 2, .func (.func 38) #[] #[]] w fun e w' => e = .returned (.int .i64 z) ∧ w = w') := hid (by
    rcases hz with ⟨h1, rfl⟩ | ⟨d, h1, h2, rfl⟩
    · exact onward_none h o 2 _ h1
    · exact onward_other h o 2 _ h1 h2)
  clear h hz
  go_enter Try.func18, Try.ntmps18
  go_wp2_with (first | (go_at_call 36; refine S.out.mono ?_; rintro e w5 ⟨rfl, rfl⟩))
  go_ret
  exact ⟨rfl, rfl⟩
end

end Go.Proofs.Ythfaaimmfdidnaa
