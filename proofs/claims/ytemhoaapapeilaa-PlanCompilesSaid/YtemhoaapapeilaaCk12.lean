/-
  May a definition run: plainly; the test of what is not final (check.Check$1).
-/
import Derived.Test.YtemhoaapapeilaaOf12
import Derived.Test.YtemhoaapapeilaaSf12
namespace Go.Proofs.Ytemhoaapapeilaa
open Go.RowKit Go.WideShapes Go.ChangeShapes Go.ChangeAt Go.Deep
set_option linter.unusedVariables false

/-- The first fault of a step by itself. -/
def fstN : List Stp → Int
  | [] => 0
  | s :: l => if oneN s = 0 then fstN l else oneN s
theorem fstN_some : ∀ {l : List Stp} {k : Nat} {s : Stp}, l[k]? = some s → oneN s ≠ 0 → (∀ j y, j < k → l[j]? = some y → oneN y = 0) → fstN l = oneN s
  | [], k, s, h, _, _ => by simp at h
  | y :: l, 0, s, h, hs, _ => by
    simp at h
    subst h
    simp [fstN, hs]
  | y :: l, k + 1, s, h, hs, hb => by
    have h0 := hb 0 y (by omega) (by simp)
    simp only [fstN, h0, if_true]
    exact fstN_some (k := k) (by simpa using h) hs (fun j z hj hz => hb (j + 1) z (by omega) (by simpa using hz))
theorem fstN_none : ∀ {l : List Stp}, (∀ y ∈ l, oneN y = 0) → fstN l = 0
  | [], _ => rfl
  | y :: l, h => by
    simp only [fstN, h y (by simp), if_true]
    exact fstN_none (fun z hz => h z (by simp [hz]))
theorem fstN_zero : ∀ {l : List Stp}, fstN l = 0 → ∀ y ∈ l, oneN y = 0
  | [], _, y, h => by cases h
  | z :: l, h, y, hy => by
    by_cases e : oneN z = 0
    · simp only [fstN, e, if_true] at h
      rcases List.mem_cons.1 hy with rfl | hy
      · exact e
      · exact fstN_zero h y hy
    · simp only [fstN, e, if_false] at h
/-- Is it a final call? -/
def isFin (s : Stp) : Bool := s.event.toList.isEmpty && s.fin
/-- Some final step does not come behind some step that is none. -/
def FinBad (l : List Stp) : Prop := ∃ (i : Nat) (s : Stp), l[i]? = some s ∧ isFin s = true ∧ ∃ x ∈ l, isFin x = false ∧ ¬ Rch (grf l) i (l.findIdx (isNm x.name))
open Classical in
noncomputable def checkN (l : List Stp) : Int := if NamesOk l then (if fstN l = 0 then (if Acy (grf l) then (if FinBad l then 114 else 0) else 113) else fstN l) else 110
theorem checkN_name {l : List Stp} (h : ¬ NamesOk l) : checkN l = 110 := by unfold checkN; rw [if_neg h]
theorem checkN_one {l : List Stp} (h : NamesOk l) (h1 : fstN l ≠ 0) : checkN l = fstN l := by unfold checkN; rw [if_pos h, if_neg h1]
theorem checkN_cyc {l : List Stp} (h : NamesOk l) (h1 : fstN l = 0) (h2 : ¬ Acy (grf l)) : checkN l = 113 := by unfold checkN; rw [if_pos h, if_pos h1, if_neg h2]
theorem checkN_fin {l : List Stp} (h : NamesOk l) (h1 : fstN l = 0) (h2 : Acy (grf l)) (h3 : FinBad l) : checkN l = 114 := by unfold checkN; rw [if_pos h, if_pos h1, if_pos h2, if_pos h3]
theorem checkN_ok {l : List Stp} (h : NamesOk l) (h1 : fstN l = 0) (h2 : Acy (grf l)) (h3 : ¬ FinBad l) : checkN l = 0 := by unfold checkN; rw [if_pos h, if_pos h1, if_pos h2, if_neg h3]
theorem oneN_cases (s : Stp) : oneN s = 0 ∨ oneN s = 111 ∨ oneN s = 112 := by
  unfold oneN
  repeat' split
  all_goals simp
theorem fstN_cases : ∀ l : List Stp, fstN l = 0 ∨ fstN l = 111 ∨ fstN l = 112
  | [] => .inl rfl
  | s :: l => by
    unfold fstN
    split
    · exact fstN_cases l
    · exact oneN_cases s
theorem checkN_zero {l : List Stp} (h : checkN l = 0) : NamesOk l ∧ Acy (grf l) ∧ ¬ FinBad l ∧ ∀ s ∈ l, oneN s = 0 := by
  unfold checkN at h
  split at h
  · rename_i hN
    split at h
    · rename_i h1
      split at h
      · rename_i hA
        split at h
        · omega
        · rename_i hF
          exact ⟨hN, hA, hF, fstN_zero h1⟩
      · omega
    · rename_i h1
      exact absurd h h1
  · omega
theorem checkN_zero_iff {l : List Stp} : checkN l = 0 ↔ NamesOk l ∧ Acy (grf l) ∧ ¬ FinBad l ∧ ∀ s ∈ l, oneN s = 0 :=
  ⟨checkN_zero, fun ⟨h1, h2, h3, h4⟩ => checkN_ok h1 (fstN_none h4) h2 h3⟩
theorem checkN_bd (l : List Stp) : 0 ≤ checkN l ∧ checkN l ≤ 114 := by
  have := fstN_cases l
  unfold checkN
  repeat' split
  all_goals omega
/-- Is x no final one, and not in the set? -/
def finP (l : List Stp) (mm : ZMap) (x : Stp) : Bool := (!x.event.toList.isEmpty || !x.fin) && ((mget mm ((l.findIdx (isNm x.name) : Nat) : Int)).getD 0 == 0)
theorem SetOk.zero {G : List (List Nat)} {i : Nat} {mm : ZMap} (h : SetOk G i mm) (k : Nat) : (mget mm (k : Int)).getD 0 = 0 ↔ ¬ Rch G i k := by
  cases e : mget mm (k : Int) with
  | none =>
    simp only [Option.getD_none, true_iff]
    intro hr
    have h1 : (k : Int) ∈ mm.map (·.1) := (h.key _).2 ⟨k, rfl, hr⟩
    obtain ⟨b, hb⟩ := mget_key h1
    rw [e] at hb
    cases hb
  | some b =>
    have hm := mget_mem e
    have h1 := h.pos _ hm
    simp only [Option.getD_some]
    simp only at h1
    obtain ⟨k', e', hr⟩ := (h.key _).1 (List.mem_map.2 ⟨_, hm, rfl⟩)
    have : k' = k := by simp only at e'; omega
    subst this
    exact ⟨fun e => by omega, fun hn => absurd hr hn⟩
theorem finP_any {l : List Stp} {i : Nat} {mm : ZMap} (h : SetOk (grf l) i mm) : l.any (finP l mm) = true ↔ ∃ x ∈ l, isFin x = false ∧ ¬ Rch (grf l) i (l.findIdx (isNm x.name)) := by
  rw [List.any_eq_true]
  have key : ∀ x, finP l mm x = true ↔ isFin x = false ∧ ¬ Rch (grf l) i (l.findIdx (isNm x.name)) := fun x => by
    rw [← h.zero]
    unfold finP isFin
    cases x.event.toList.isEmpty <;> cases x.fin <;> simp
  constructor
  · rintro ⟨x, hx, hp⟩; exact ⟨x, hx, (key x).1 hp⟩
  · rintro ⟨x, hx, hp⟩; exact ⟨x, hx, (key x).2 hp⟩

set_option maxRecDepth 100000 in
set_option maxHeartbeats 16000000 in
theorem chk1_any (K : OfK) (S : Sets) (O : Nat → Bool) (i g V8 V12 V3 : Nat) (mm : ZMap) (w : World) (hi : i < K.l.length) (hS : OfS K S O w) (hsi : S i = some (g, mm)) (hN : NamesOk K.l) (x : Stp) (hx : x ∈ K.l)
    (hb8 : Blk w V8 94 #[.pointer (some ⟨K.D, 0, none⟩)]) (hb12 : Blk w V12 3 #[.int .i64 (i : Int)]) (hb3 : Blk w V3 30 #[.map (some K.M)]) :
    Calls Try.prog 47 #[.agg (enSt x).toArray, .pointer (some ⟨V8, 0, none⟩), .pointer (some ⟨V12, 0, none⟩), .pointer (some ⟨V3, 0, none⟩)] w fun e w' => e = .returned (.bool (finP K.l mm x)) ∧ Below w.heap.size w w' := by
  have hxn : x.name ∈ K.l.map Stp.name := List.mem_map_of_mem hx
  obtain ⟨k, hk⟩ : ∃ k, k = K.l.findIdx (isNm x.name) := ⟨_, rfl⟩
  have hmn := mkN_idx hN hxn
  rw [← hk] at hmn
  obtain ⟨v, hv⟩ : ∃ v, v = (mget mm (k : Int)).getD 0 := ⟨_, rfl⟩
  have HF := hid (show finP K.l mm x = ((!x.event.toList.isEmpty || !x.fin) && (v == 0)) from by unfold finP; rw [← hk, ← hv])
  obtain ⟨xn, xv, xu, xe, xf, xr, xy, xw, xA, xc, xl⟩ := x
  simp only at hmn hxn
  have earr : (enSt ⟨xn, xv, xu, xe, xf, xr, xy, xw, xA, xc, xl⟩).toArray = #[.string xn, .string xv, .string xu, .string xe, .bool xf, .int .i64 xr, .int .i64 xy, .int .i64 xw, .slice xA xl.length xc] := rfl
  rw [earr]
  clear earr
  simp only at HF
  rw [HF.out]
  clear HF hk hx hxn
  have hwa : Below w.heap.size w (w.alloc (.cells #[.string xn, .string xv, .string xu, .string xe, .bool xf, .int .i64 xr, .int .i64 xy, .int .i64 xw, .slice xA xl.length xc] 34)) := (Below.refl _ _).alloc (Nat.le_refl _) _
  have hB := Blk.new w 34 #[.string xn, .string xv, .string xu, .string xe, .bool xf, .int .i64 xr, .int .i64 xy, .int .i64 xw, .slice xA xl.length xc]
  obtain ⟨W, hW⟩ : ∃ W, W = w.alloc (.cells #[.string xn, .string xv, .string xu, .string xe, .bool xf, .int .i64 xr, .int .i64 xy, .int .i64 xw, .slice xA xl.length xc] 34) := ⟨_, rfl⟩
  obtain ⟨G, hG⟩ : ∃ G, G = w.heap.size := ⟨_, rfl⟩
  rw [← hW] at hwa hB
  rw [← hG] at hB
  have hS2 := hS.next hwa
  have h8 := hb8.next hwa
  have h12 := hb12.next hwa
  have h3 := hb3.next hwa
  have HWG := hid (And.intro hW hG)
  clear hS hb8 hb12 hb3 hW hG
  have g0 : W.cell? ⟨G, 0, none⟩ = some (.string xn) := hB.cell 0
  have g3 : W.cell? ⟨G, 3, none⟩ = some (.string xe) := hB.cell 3
  have g4 : W.cell? ⟨G, 4, none⟩ = some (.bool xf) := hB.cell 4
  have lG := hB.lt
  have c8 : W.cell? ⟨V8, 0, none⟩ = some (.pointer (some ⟨K.D, 0, none⟩)) := h8.cell 0
  have c12 : W.cell? ⟨V12, 0, none⟩ = some (.int .i64 (i : Int)) := h12.cell 0
  have c3 : W.cell? ⟨V3, 0, none⟩ = some (.map (some K.M)) := h3.cell 0
  have l8 := h8.lt
  have l12 := h12.lt
  have l3 := h3.lt
  have d3 : W.cell? ⟨K.D, 3, none⟩ = some (.slice (some ⟨K.Ds, 0, none⟩) K.l.length K.l.length) := hS2.d.cell 3
  have lD := hS2.d.lt
  have cs : W.cell? ⟨K.Ds, i, none⟩ = some (.map (some g)) := by rw [hS2.s.cell, rngC_at _ hi, hsi]; rfl
  have lDs := hS2.s.lt
  have lk : ∀ n, (Instr.lookup 30 (.map (some K.M)) (.string xn) false).run Try.prog (W.drewN n) = .ok (.int .i64 (k : Int)) (W.drewN n) := fun n => by
    have := (hS2.m.keep (w' := W.drewN n) rfl).look keyStr12 Try.underlying30 (zeroN _) xn
    unfold looked at this
    rw [hmn] at this
    exact this
  have lk2 : ∀ n, (Instr.lookup 99 (.map (some g)) (.int .i64 (k : Int)) false).run Try.prog (W.drewN n) = .ok (.int .i64 v) (W.drewN n) := fun n => by
    have := ((hS2.sets i g mm hi hsi).1.keep (w' := W.drewN n) rfl).look keyZ12 Try.underlying99 (zeroN _) (k : Int)
    rw [looked_kZ, ← hv] at this
    exact this
  have HB := hid hwa
  clear hmn hS2 hv hB h8 h12 h3 hsi hwa
  go_enter Try.func47, Try.ntmps47
  go_upto_region 1 with fail
  rw [← HWG.out.1, ← HWG.out.2]
  cases he : xe.toList.isEmpty with
  | false =>
    go_quiet (fail)
    go_wp2_with fail
    go_ret
    exact ⟨by simp [he], below_drewN HB.out _⟩
  | true =>
    cases xf with
    | false =>
      go_quiet (fail)
      go_wp2_with fail
      go_ret
      exact ⟨by simp [he], below_drewN HB.out _⟩
    | true =>
      go_quiet (fail)
      go_wp2_with fail
      go_ret
      exact ⟨by simp [he], below_drewN HB.out _⟩

end Go.Proofs.Ytemhoaapapeilaa
