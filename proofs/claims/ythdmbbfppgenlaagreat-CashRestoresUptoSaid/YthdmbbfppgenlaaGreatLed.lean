/-
  The ledger: what New, fit, Of, Turnover and Post do, told by a function of places.
-/
import Derived.Test.YthdmbbfppgenlaaGreatLedP
import Derived.Test.YthdmbbfppgenlaaGreatPairKey2
import Derived.Test.YthdmbbfppgenlaaGreatEntry
import Derived.Test.YthdmbbfppgenlaaGreatInTail
import Derived.Test.YthdmbbfppgenlaaGreatPush
namespace Go.Proofs.YthdmbbfppgenlaaGreat
open Go.RowKit Go.WideShapes Go.ChangeShapes Go.ChangeAt Go.Deep
set_option linter.unusedVariables false

theorem keyLd : KeyLaw Tryz.prog 115 kP :=
  pairKey2 (n1 := "customer") (n2 := "account") (i1 := 3) (i2 := 43) (by kernel_rfl) (by kernel_rfl) (by kernel_rfl) (by decide) (by decide) Tryz.underlying3 isAgg_int Tryz.underlying43 (fun w => by kernel_rfl)
theorem zero64 (w : World) : (zeroValue 2).run Tryz.prog w = .ok (.int .i64 0) w := by kernel_rfl
/-- A number as a map's element. -/
def vI (n : Int) : Value := .int .i64 n
theorem looked_vI {κ : Type} [DecidableEq κ] (m : List (κ × Int)) (p : κ) : looked (vI 0) vI m p = .int .i64 ((mget m p).getD 0) := by
  unfold looked vI
  cases mget m p <;> rfl

/-- A ledger: the struct at block X, its map at block B. -/
structure IsLed (w : World) (X B : Nat) (f : Fn) (d : Int) : Prop where
  blk : Blk w X 113 #[.map (some B), .int .i64 d, .int .i64 d]
  map : ∃ m : LMap, IsMap w B kP vI m ∧ Led m f
  inv : LInv f d
section
variable {w w' : World} {X B : Nat} {f : Fn} {d : Int}
theorem IsLed.next (h : IsLed w X B f d) (hb : Below w.heap.size w w') : IsLed w' X B f d := ⟨h.blk.next hb, by obtain ⟨m, h1, h2⟩ := h.map; exact ⟨m, h1.next hb, h2⟩, h.inv⟩
theorem IsLed.touch {S : Nat → Prop} (h : IsLed w X B f d) (ht : Touch S w w') (h1 : ¬ S X) (h2 : ¬ S B) : IsLed w' X B f d := ⟨ht.blk h.blk h1, by obtain ⟨m, a, b⟩ := h.map; exact ⟨m, ht.isMap a h2, b⟩, h.inv⟩
theorem IsLed.ne (h : IsLed w X B f d) : X ≠ B := by obtain ⟨m, h1, _⟩ := h.map; exact fun e => h1.notBlk h.blk e.symm
end

theorem lnew_any (w : World) : Calls Tryz.prog 57 #[] w fun e w' =>
    ∃ X B, e = .returned (.pointer (some ⟨X, 0, none⟩)) ∧ w.heap.size ≤ B ∧ w.heap.size ≤ X ∧ IsLed w' X B f0 0 ∧ Below w.heap.size w w' := by
  have hmm := @run_makeMap Tryz.prog
  have hb := Blk.new (w.alloc (.map #[] 0)) 113 #[.map (some w.heap.size), .int .i64 0, .int .i64 0]
  have hM := (IsMap.made w kP vI).alloc (.cells #[.map (some w.heap.size), .int .i64 0, .int .i64 0] 113)
  rw [World.size_alloc] at hb
  have H := hid (IsLed.mk hb ⟨[], hM, Led.nil⟩ LInv.init)
  clear hb hM
  go_enter Tryz.func57, Tryz.ntmps57
  go_wp2_with fail
  go_ret
  exact ⟨_, _, by simp, Nat.le_refl _, by omega, H.out, ((Below.refl _ _).alloc (Nat.le_refl _) _).alloc (by simp) _⟩

def fitB (c a : Int) : Bool := decide (1 ≤ c) && decide (c ≤ 64) && decide (0 ≤ a) && decide (a < 6)
theorem fitB_iff (c a : Int) : fitB c a = true ↔ 1 ≤ c ∧ c ≤ 64 ∧ 0 ≤ a ∧ a < 6 := by
  unfold fitB
  simp only [Bool.and_eq_true, decide_eq_true_eq]
  exact ⟨fun h => ⟨h.1.1.1, h.1.1.2, h.1.2, h.2⟩, fun h => ⟨⟨⟨h.1, h.2.1⟩, h.2.2.1⟩, h.2.2.2⟩⟩
theorem lfit_yes (c a : Int) (w : World) (h : 1 ≤ c ∧ c ≤ 64 ∧ 0 ≤ a ∧ a < 6) : Calls Tryz.prog 64 #[.int .i64 c, .int .i64 a] w fun e w' => e = .returned (.bool true) ∧ w = w' := by
  obtain ⟨h1, h2, h3, h4⟩ := h
  go_enter Tryz.func64, Tryz.ntmps64
  go_wp2_with fail
  go_ret
  exact ⟨rfl, rfl⟩
theorem lfit_no (c a : Int) (w : World) (h : ¬ (1 ≤ c ∧ c ≤ 64 ∧ 0 ≤ a ∧ a < 6)) : Calls Tryz.prog 64 #[.int .i64 c, .int .i64 a] w fun e w' => e = .returned (.bool false) ∧ w = w' := by
  by_cases h1 : 1 ≤ c
  · by_cases h2 : c ≤ 64
    · by_cases h3 : 0 ≤ a
      · have h4 : decide (a < 6) = false := by simp; omega
        clear h
        go_enter Tryz.func64, Tryz.ntmps64
        go_wp2_with fail
        go_ret
        exact ⟨rfl, rfl⟩
      · have h4 : decide (0 ≤ a) = false := by simp; omega
        clear h h3
        go_enter Tryz.func64, Tryz.ntmps64
        go_wp2_with fail
        go_ret
        exact ⟨rfl, rfl⟩
    · have h4 : decide (c ≤ 64) = false := by simp; omega
      clear h h2
      go_enter Tryz.func64, Tryz.ntmps64
      go_wp2_with fail
      go_ret
      exact ⟨rfl, rfl⟩
  · have h4 : decide (1 ≤ c) = false := by simp; omega
    clear h h1
    go_enter Tryz.func64, Tryz.ntmps64
    go_wp2_with fail
    go_ret
    exact ⟨rfl, rfl⟩
theorem lfit_any (c a : Int) (w : World) : Calls Tryz.prog 64 #[.int .i64 c, .int .i64 a] w fun e w' => e = .returned (.bool (fitB c a)) ∧ w = w' := by
  cases h : fitB c a with
  | true => exact lfit_yes c a w ((fitB_iff c a).1 h)
  | false => exact lfit_no c a w (fun h' => by rw [(fitB_iff c a).2 h'] at h; cases h)

theorem lturn_any {X B : Nat} {f : Fn} {d : Int} (w : World) (h : IsLed w X B f d) : Calls Tryz.prog 40 #[.pointer (some ⟨X, 0, none⟩)] w fun e w' =>
    e = .returned (.tuple #[.int .i64 d, .int .i64 d]) ∧ Below w.heap.size w w' := by
  have c1 : w.cell? ⟨X, 1, none⟩ = some (.int .i64 d) := h.blk.cell 1
  have c2 : w.cell? ⟨X, 2, none⟩ = some (.int .i64 d) := h.blk.cell 2
  clear h
  go_enter Tryz.func40, Tryz.ntmps40
  go_wp2_with fail
  go_quiet (fail)
  go_wp2_with fail
  go_ret2
  exact ⟨rfl, below_drewN (Below.refl _ _) _⟩
theorem lof_any {X B : Nat} {f : Fn} {d : Int} (c a : Int) (w : World) (h : IsLed w X B f d) : Calls Tryz.prog 39 #[.pointer (some ⟨X, 0, none⟩), .int .i64 c, .int .i64 a] w fun e w' =>
    e = .returned (.int .i64 (f (c, a))) ∧ Below w.heap.size w w' := by
  have c0 : w.cell? ⟨X, 0, none⟩ = some (.map (some B)) := h.blk.cell 0
  obtain ⟨m, hM, hL⟩ := h.map
  have hl := hM.look keyLd Tryz.underlying111 (zero64 _) (c, a)
  rw [show (Value.int .i64 0) = vI 0 from rfl, looked_vI, hL.getD] at hl
  simp only [kP] at hl
  generalize f (c, a) = v at *
  clear hM hL h
  go_enter Tryz.func39, Tryz.ntmps39
  go_wp2_with fail
  go_ret
  exact ⟨rfl, Below.refl _ _⟩
theorem lturn_nil (w : World) : Calls Tryz.prog 40 #[.pointer none] w fun e w' => e = .returned (.tuple #[.int .i64 0, .int .i64 0]) ∧ w = w' := by
  go_enter Tryz.func40, Tryz.ntmps40
  go_wp2_with fail
  go_ret2
  exact ⟨rfl, rfl⟩
theorem lof_nil (c a : Int) (w : World) : Calls Tryz.prog 39 #[.pointer none, .int .i64 c, .int .i64 a] w fun e w' => e = .returned (.int .i64 0) ∧ w = w' := by
  go_enter Tryz.func39, Tryz.ntmps39
  go_wp2_with fail
  go_ret
  exact ⟨rfl, rfl⟩

end Go.Proofs.YthdmbbfppgenlaaGreat
