/-
  The stock book: Allocate.
-/
import Derived.Test.YthfaaimmfdidnaaSv15
import Derived.Test.YthfaaimmfdidnaaSetRow
import Derived.Deep.CutRange
namespace Go.Proofs.Ythfaaimmfdidnaa
open Go.RowKit Go.WideShapes Go.ChangeShapes Go.ChangeAt Go.Deep
set_option linter.unusedVariables false

section
variable {n0 : Nat} {w w' : World} {X BL BG : Nat} {lv : List (Int × Lv)} {gs : List (Int × Gd)}
/-- Is there less of the item on hand than the line says? -/
def shortL (lv : List (Int × Lv)) (x : Ln) : Bool := match mget lv x.i with | some a => decide (a.h < x.q) | none => false

set_option maxRecDepth 100000 in
set_option maxHeartbeats 4000000 in
theorem short_any (h : IsBook n0 w X BL BG lv gs) (x : Ln) (B : Nat) (hB : Blk w B 25 #[.pointer (some ⟨X, 0, none⟩)]) {a : Lv} (ha : mget lv x.i = some a) :
    Calls Try.prog 27 #[.agg #[.int .i64 x.i, .int .i64 x.q], .pointer (some ⟨B, 0, none⟩)] w fun e w' => e = .returned (.bool (shortL lv x)) ∧ Below w.heap.size w w' := by
  have hsv : shortL lv x = decide (a.h < x.q) := by unfold shortL; rw [ha]
  rw [hsv]
  obtain ⟨xi, xq⟩ := x
  simp only at ha ⊢
  have hwb : Below w.heap.size w (w.alloc (.cells #[.int .i64 xi, .int .i64 xq] 33)) := (Below.refl _ _).alloc (Nat.le_refl _) _
  have hG0 : Blk (w.alloc (.cells #[.int .i64 xi, .int .i64 xq] 33)) w.heap.size 33 #[.int .i64 xi, .int .i64 xq] := Blk.new _ _ _
  obtain ⟨wz, hwz⟩ : ∃ wz, wz = w.alloc (.cells #[.int .i64 xi, .int .i64 xq] 33) := ⟨_, rfl⟩
  obtain ⟨G, hGG⟩ : ∃ G, G = w.heap.size := ⟨_, rfl⟩
  have HW := hid hwz
  have HGG := hid hGG
  rw [← hwz] at hwb hG0
  rw [← hGG] at hG0
  obtain ⟨C, hCd⟩ : ∃ C : World → Prop, ∀ w', C w' ↔ Below wz.heap.size wz w' := ⟨_, fun _ => Iff.rfl⟩
  have hC : C wz.drew := (hCd _).2 ((Below.refl _ _).drew)
  have hI := fun (p : In C) => h.next (bthen hwb ((hCd _).1 p.h))
  have g0 : ∀ p : In C, p.w.cell? ⟨G, 0, none⟩ = some (.int .i64 xi) := fun p => (hG0.next ((hCd _).1 p.h)).cell 0
  have g1 : ∀ p : In C, p.w.cell? ⟨G, 1, none⟩ = some (.int .i64 xq) := fun p => (hG0.next ((hCd _).1 p.h)).cell 1
  have b0 : ∀ p : In C, p.w.cell? ⟨B, 0, none⟩ = some (.pointer (some ⟨X, 0, none⟩)) := fun p => (hB.next (bthen hwb ((hCd _).1 p.h))).cell 0
  have c0 : ∀ p : In C, p.w.cell? ⟨X, 0, none⟩ = some (.map (some BL)) := fun p => (hI p).cellL
  have a2 : ∀ p : In C, p.w.cell? ⟨a.g, 2, none⟩ = some (.int .i64 a.h) := fun p => ((hI p).atL ha).cell 2
  have l0 : ∀ p : In C, (Instr.lookup 71 (.map (some BL)) (.int .i64 xi) false).run Try.prog p.w = .ok (.pointer (some ⟨a.g, 0, none⟩)) p.w := fun p => by
    have := (hI p).lookL xi
    rw [show ptrL lv xi = some ⟨a.g, 0, none⟩ from by unfold ptrL; rw [ha]; rfl] at this
    exact this
  have HCd := hid hCd
  have HWB := hid hwb
  clear hCd hI hG0 hwz hGG hwb h hB ha hsv
  go_enter Try.func27, Try.ntmps27
  go_wp2_with fail
  rw [← HW.out, ← HGG.out]
  refine wp_region_in C (by kernel_rfl) (by kernel_rfl) hC ?_
  intro hne
  clear hC
  repeat (first | go_big_quiet_step (fail) | quiet_step (fail))
  refine wpQuiet_nil ?_
  intro wq hq
  have hb := bthen HWB.out ((HCd.out _).1 hq)
  clear g0 g1 b0 c0 a2 l0 hne hq HCd
  go_wp2_with fail
  go_ret
  exact ⟨rfl, hb⟩

theorem rowBlk15 {w : World} {base n cap m : Nat} {e : TypeId} {size : Nat} {A : Option Addr} {xs : List Value} (h : w.ownsRow base e size (.slice A n cap) m xs) {b : Nat} (hb : A.map (·.block) = some b) : ∃ cs, Blk w b e cs := by
  rcases h.2 with ⟨h1, _⟩ | ⟨g, cap', cur, h1, _, hh, _⟩
  · simp at h1
    rw [h1.1] at hb
    simp at hb
  · simp at h1
    rw [h1.1] at hb
    simp at hb
    subst hb
    exact ⟨_, hh⟩
/-- What Allocate leaves where goods are set aside. -/
def AllocPost (n0 X BL BG : Nat) (lv : List (Int × Lv)) (gs : List (Int × Gd)) (o : Int) (ls : List Ln) (w : World) (e : Ending) (w' : World) : Prop :=
  ∃ d : Gd, e = .returned (.int .i64 0) ∧ IsBook n0 w' X BL BG (mvL allocL lv ls) (mset gs o d) ∧ (d.o = o ∧ d.st = 1 ∧ d.ls = ls) ∧ w.heap.size ≤ d.g ∧ w.heap.size ≤ d.b ∧ Touch (Own BL BG lv (mset gs o d)) w w'

set_option maxRecDepth 100000 in
set_option maxHeartbeats 8000000 in
theorem alloc_no (h : IsBook n0 w X BL BG lv gs) (o : Int) (A : Option Addr) (cap : Nat) (ls : List Ln) (hR : Rd w A (ls.flatMap enL)) (hcap : ls.length ≤ cap) (hcm : cap ≤ maxLen) (hz : errF lv gs o ls ≠ 0) :
    Calls Try.prog 13 #[.pointer (some ⟨X, 0, none⟩), .int .i64 o, .slice A ls.length cap] w fun e w' => e = .returned (.int .i64 (errF lv gs o ls)) ∧ Below w.heap.size w w' := by
  have hwb : Below w.heap.size w (w.alloc (.cells #[.pointer (some ⟨X, 0, none⟩)] 25)) := (Below.refl _ _).alloc (Nat.le_refl _) _
  have F := hid (fit_any (h.next hwb) o A cap ls (hR.below hwb) hcap hcm)
  have hzb : (errF lv gs o ls != 0) = true := by simpa using hz
  generalize errF lv gs o ls = z at F hzb
  have HB := hid hwb
  clear hz h hR hwb
  go_enter Try.func13, Try.ntmps13
  go_wp2_with (first | (go_at_call 25; refine F.out.mono ?_; rintro e w5 ⟨rfl, hb5⟩))
  go_ret
  exact ⟨rfl, bthen HB.out hb5⟩

set_option maxRecDepth 100000 in
set_option maxHeartbeats 16000000 in
theorem alloc_fit (h : IsBook n0 w X BL BG lv gs) (hn : n0 ≤ w.heap.size) (o : Int) (A : Option Addr) (cap : Nat) (ls : List Ln) (hR : Rd w A (ls.flatMap enL)) (hcap : ls.length ≤ cap) (hcm : cap ≤ maxLen) (hz : errF lv gs o ls = 0) (hbd : ∀ p ∈ lv, LvB p.2) :
    Calls Try.prog 13 #[.pointer (some ⟨X, 0, none⟩), .int .i64 o, .slice A ls.length cap] w fun e w' => (ls.any (shortL lv) = true ∧ e = .returned (.int .i64 150) ∧ Below w.heap.size w w') ∨ (ls.any (shortL lv) = false ∧ AllocPost n0 X BL BG lv gs o ls w e w') := by
  have hmf : ∀ (fn : Fn) (first cap : Array Value) (w : World), (Instr.makeFunc fn first cap).run Try.prog w = .ok (.func fn first cap) w := fun _ _ _ _ => rfl
  obtain ⟨hfit, hkn, hnone⟩ := errF_zero hz
  have h1 := hfit.1.2.1
  have h4 := hfit.1.2.2
  obtain ⟨b, off, rfl⟩ : ∃ b off, A = some ⟨b, off, none⟩ := by
    rcases hR with h0 | ⟨b, off, hA, _, _⟩
    · have := length_flatMap_const enL 2 enL_len ls
      rw [h0] at this
      simp at this
      omega
    · exact ⟨b, off, hA⟩
  obtain ⟨w1, hw1⟩ : ∃ w1, w1 = w.alloc (.cells #[.pointer (some ⟨X, 0, none⟩)] 25) := ⟨_, rfl⟩
  obtain ⟨B, hBB⟩ : ∃ B, B = w.heap.size := ⟨_, rfl⟩
  have hb1 : Below w.heap.size w w1 := by rw [hw1]; exact (Below.refl _ _).alloc (Nat.le_refl _) _
  have HB := hid (show Blk w1 B 25 #[.pointer (some ⟨X, 0, none⟩)] from by rw [hw1, hBB]; exact Blk.new _ _ _)
  have H0 := hid (h.next hb1)
  have hR1 := hid (hR.below hb1)
  have F := hid (fit_any (h.next hb1) o _ cap ls (hR.below hb1) hcap hcm)
  rw [hz] at F
  have HB1 := hid hb1
  have HW1 := hid hw1
  have HBB := hid hBB
  have HKN := hid hkn
  have HFIT := hid hfit
  have HNONE := hid hnone
  have HBD := hid hbd
  have HN := hid hn
  have b0 : w1.cell? ⟨B, 0, none⟩ = some (.pointer (some ⟨X, 0, none⟩)) := HB.out.cell 0
  clear h hR hb1 hw1 hBB hz hkn hfit hnone hbd hn
  go_enter Try.func13, Try.ntmps13
  go_upto_region 3 with fail
  rw [← HW1.out, ← HBB.out]
  go_wp2_with fail
  refine F.out.mono ?_
  rintro e w5 ⟨rfl, hb5⟩
  have K := containsF_any ls (some ⟨b, off, none⟩) cap 27 (.pointer (some ⟨B, 0, none⟩)) (shortL lv) w5 (hR1.out.below hb5) (by omega) (fun _ _ => by go_simp) (fun y hy w' hb' => by
    obtain ⟨a, ha⟩ := Option.isSome_iff_exists.1 (List.all_eq_true.1 HKN.out y hy)
    exact short_any (H0.out.next (bthen hb5 hb')) y B (HB.out.next (bthen hb5 hb')) ha)
  have HB5 := hid hb5
  clear F b0 hb5
  cases hs : ls.any (shortL lv) with
  | true =>
    rw [hs] at K
    have HS := hid hs
    replace K := hid K
    clear hs
    go_wp2_with (first | (go_at_call 26; refine K.out.mono ?_; rintro e w6 ⟨rfl, hb6⟩))
    go_ret
    exact .inl ⟨HS.out, rfl, bthen HB1.out (bthen HB5.out hb6)⟩
  | false =>
    rw [hs] at K
    have HS := hid hs
    replace K := hid K
    clear hs
    go_wp2_with (first | (go_at_call 26; refine K.out.mono ?_; rintro e w6 ⟨rfl, hb6⟩))
    have HB6 := hid (bthen HB5.out hb6)
    clear K hb6
    have H6 := hid (H0.out.next HB6.out)
    have hBk := HB.out.next HB6.out
    have KC := hid (clone_some ls b off cap w6.drew ((hR1.out.below HB6.out).below (below_drewN (Below.refl _ _) 1)) (by omega))
    unfold NewRowOf at KC
    have hb6d : Below w6.heap.size w6 w6.drew := below_drewN (Below.refl _ _) 1
    have b0 : w6.cell? ⟨B, 0, none⟩ = some (.pointer (some ⟨X, 0, none⟩)) := hBk.cell 0
    have c0 : w6.cell? ⟨X, 1, none⟩ = some (.map (some BG)) := H6.out.cellG
    have HBk := hid hBk
    clear hBk
    go_region_held3 (fun w' => w'.cell? ⟨B, 0, none⟩ = some (.pointer (some ⟨X, 0, none⟩)) ∧ w'.cell? ⟨X, 1, none⟩ = some (.map (some BG))) (first | exact ⟨b0, c0⟩ | exact ⟨b7, c7⟩ | exact ⟨b8, c8⟩ | exact ⟨b9, c9⟩)
      (first
        | (go_at_call 28; refine KC.out.mono ?_; rintro e w7 ⟨A7, cp7, rfl, hO7, hb7'⟩
           obtain ⟨g7, cq7, e7, _, _⟩ := own_form hO7 (by omega)
           injection e7 with e8 e9 e10
           subst e8 e10
           have hb7 := bthen hb6d hb7'
           have hI7 := H6.out.next hb7
           have b7 : w7.cell? ⟨B, 0, none⟩ = some (.pointer (some ⟨X, 0, none⟩)) := (HBk.out.next hb7).cell 0
           have c7 : w7.cell? ⟨X, 1, none⟩ = some (.map (some BG)) := hI7.cellG
           have hba : Below w7.heap.size w7 (w7.alloc (.cells (enG ⟨w7.heap.size, o, 1, g7, cp7, ls⟩) 45)) := (Below.refl _ _).alloc (Nat.le_refl _) _
           have hI8 := hI7.next hba
           have b8 : (w7.alloc (.cells (enG ⟨w7.heap.size, o, 1, g7, cp7, ls⟩) 45)).cell? ⟨B, 0, none⟩ = some (.pointer (some ⟨X, 0, none⟩)) := (HBk.out.next (bthen hb7 hba)).cell 0
           have c8 : (w7.alloc (.cells (enG ⟨w7.heap.size, o, 1, g7, cp7, ls⟩) 45)).cell? ⟨X, 1, none⟩ = some (.map (some BG)) := hI8.cellG
           obtain ⟨w9, hrun, hM9, hg9, hs9⟩ := hI8.gds.store (P := Try.prog) (mt := 72) (et := 79) keyL Try.underlying72 o (⟨w7.heap.size, o, 1, g7, cp7, ls⟩ : Gd)
           simp only [vGd, kI, enG] at hrun b8 c8
           have hO8 := hO7.kept (grown_of_below hba none) (by cases hv : (Value.slice (some ⟨g7, 0, none⟩) ls.length cp7).ownBlock <;> simp)
           have hw76 : w.heap.size ≤ w7.heap.size := Nat.le_trans HB1.out.size (Nat.le_trans HB6.out.size hb7.size)
           have hI9 := hI8.addG (d := ⟨w7.heap.size, o, 1, g7, cp7, ls⟩) HNONE.out (Blk.new _ _ _) (fun p hp e => by have := (hI7.gc p hp).lt; simp only at e; rw [e] at this; exact absurd this (Nat.lt_irrefl _)) (Nat.le_trans HN.out hw76) (own_rd hO8) (Nat.le_trans HN.out (Nat.le_trans (Nat.le_trans HB1.out.size (Nat.le_trans HB6.out.size hb6d.size)) (hO7.lt g7 rfl).1)) (rowBlk15 hO8 rfl) hM9 hg9
           have b9 : w9.cell? ⟨B, 0, none⟩ = some (.pointer (some ⟨X, 0, none⟩)) := ((Touch.of_grown hg9).blk (HBk.out.next (bthen hb7 hba)) (fun e => hI8.gds.notBlk (HBk.out.next (bthen hb7 hba)) e.symm)).cell 0
           have c9 : w9.cell? ⟨X, 1, none⟩ = some (.map (some BG)) := hI9.cellG
           have hgb : w.heap.size ≤ g7 := Nat.le_trans (Nat.le_trans HB1.out.size (Nat.le_trans HB6.out.size hb6d.size)) (hO7.lt g7 rfl).1
           have hT9 : Touch (Own BL BG lv (mset gs o ⟨w7.heap.size, o, 1, g7, cp7, ls⟩)) w w9 := (Touch.of_below (bthen HB1.out (bthen HB6.out (bthen hb7 hba)))).then ((Touch.of_grown hg9).mono (fun k hk => .inr (.inl hk)))
           have HF := hid (And.intro hI9 (And.intro hT9 (And.intro hw76 hgb)))
           clear hO7 hb7 hb7' hba hI7 hI8 hM9 hg9 hs9 hO8 hI9 hT9 hgb))
    all_goals
      obtain ⟨hI9, hT9, hw76, hgb⟩ := HF.out
      have M := hid (move_any 30 (fun _ _ => by go_simp) allocL (fun _ _ => rfl) hI9 o (d := ⟨w7.heap.size, o, 1, g7, cp7, ls⟩) (by rw [mget_mset, if_pos rfl]) h4 HFIT.out.2 HKN.out (fun x hx a ha w' hB' => by
        obtain ⟨j, hj⟩ := List.mem_iff_getElem?.1 hx
        have h5 := HFIT.out.2 j x hj
        have h6 := HBD.out _ (mget_mem ha)
        unfold LvB at h6
        simp only at h6
        exact alloc_any a x.q w' hB' ⟨by omega, by omega⟩ ⟨by omega, by omega⟩))
      clear hI9 hT9 hw76 hgb hrun b7 c7 b8 c8 c9 b0 c0 hb6d KC
      go_wp2_with fail
      refine M.out.mono ?_
      rintro e w10 ⟨rfl, hI10, hT10⟩
      obtain ⟨hI9, hT9, hw76, hgb⟩ := HF.out
      have HZ := hid (And.intro hI10 (hT9.then hT10))
      clear M hI10 hT10 hI9 hT9
      go_wp2_with fail
      go_ret
      exact .inr ⟨HS.out, _, rfl, HZ.out.1, ⟨rfl, rfl, rfl⟩, hw76, hgb, HZ.out.2⟩
end

end Go.Proofs.Ythfaaimmfdidnaa
