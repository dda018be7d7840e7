/-
  Timers: what the functions do, told by a map of steps to times.
-/
import Derived.Test.YthlpcbpilfakmaaCmp
import Derived.Test.YthlpcbpilfakmaaSort
namespace Go.Proofs.Ythlpcbpilfakmaa
open Go.RowKit Go.WideShapes Go.ChangeShapes Go.ChangeAt Go.Deep
set_option linter.unusedVariables false

theorem keyPl : KeyLaw Try.prog 61 kP :=
  pairKey (n1 := "order") (n2 := "step") (by kernel_rfl) (by kernel_rfl) (by kernel_rfl) (by decide) (by decide) Try.underlying3 isAgg_int
theorem zeroI (w : World) : (zeroValue 3).run Try.prog w = .ok (.int .i64 0) w := by kernel_rfl
/-- A number as a map's element. -/
def vI (n : Int) : Value := .int .i64 n
theorem looked_vI {κ : Type} [DecidableEq κ] (m : List (κ × Int)) (p : κ) : looked (vI 0) vI m p = .int .i64 ((mget m p).getD 0) := by
  unfold looked vI
  cases mget m p <;> rfl

abbrev TMap := List ((Int × Int) × Int)
/-- Timers: the struct at block X, its map at block B. -/
structure IsTim (w : World) (X B : Nat) (m : TMap) : Prop where
  blk : Blk w X 59 #[.map (some B)]
  map : IsMap w B kP vI m
section
variable {w w' : World} {X B : Nat} {m : TMap}
theorem IsTim.next (h : IsTim w X B m) (hb : Below w.heap.size w w') : IsTim w' X B m := ⟨h.blk.next hb, h.map.next hb⟩
theorem IsTim.alloc (h : IsTim w X B m) (o : Obj) : IsTim (w.alloc o) X B m := ⟨h.blk.alloc o, h.map.alloc o⟩
theorem IsTim.cell (h : IsTim w X B m) : w.cell? ⟨X, 0, none⟩ = some (.map (some B)) := h.blk.cell 0
theorem IsTim.ne (h : IsTim w X B m) : X ≠ B := fun e => h.map.notBlk h.blk e.symm
theorem IsTim.touch {S : Nat → Prop} (h : IsTim w X B m) (ht : Touch S w w') (h1 : ¬ S X) (h2 : ¬ S B) : IsTim w' X B m := ⟨ht.blk h.blk h1, ht.isMap h.map h2⟩
theorem IsTim.lookOk (h : IsTim w X B m) (o s : Int) : (Instr.lookup 57 (.map (some B)) (.agg #[.int .i64 o, .int .i64 s]) true).run Try.prog w = .ok (.tuple #[.int .i64 ((mget m (o, s)).getD 0), .bool (mget m (o, s)).isSome]) w := by
  have := h.map.lookOk keyPl Try.underlying57 (zeroI _) (o, s)
  rw [show (Value.int .i64 0) = vI 0 from rfl, looked_vI] at this
  exact this
end

theorem tnew_any (w : World) : Calls Try.prog 11 #[] w fun e w' =>
    e = .returned (.pointer (some ⟨w.heap.size + 1, 0, none⟩)) ∧ IsTim w' (w.heap.size + 1) w.heap.size [] ∧ Below w.heap.size w w' := by
  have hmm := @run_makeMap Try.prog
  have hb := Blk.new (w.alloc (.map #[] 0)) 59 #[.map (some w.heap.size)]
  have hM := (IsMap.made w kP vI).alloc (.cells #[.map (some w.heap.size)] 59)
  rw [World.size_alloc] at hb
  have H := hid (IsTim.mk hb hM)
  clear hb hM
  go_enter Try.func11, Try.ntmps11
  go_wp2_with fail
  go_ret
  exact ⟨by simp, H.out, ((Below.refl _ _).alloc (Nat.le_refl _) _).alloc (by simp) _⟩
theorem tnew_some (w : World) : Calls Try.prog 11 #[] w fun e w' =>
    ∃ X B, e = .returned (.pointer (some ⟨X, 0, none⟩)) ∧ w.heap.size ≤ B ∧ w.heap.size ≤ X ∧ IsTim w' X B [] ∧ Below w.heap.size w w' :=
  (tnew_any w).mono fun _ _ ⟨h1, h2, h3⟩ => ⟨_, _, h1, Nat.le_refl _, by omega, h2, h3⟩

set_option maxHeartbeats 1000000 in
theorem set_any {X B : Nat} {m : TMap} (o s d : Int) (w : World) (h : IsTim w X B m) :
    Calls Try.prog 12 #[.pointer (some ⟨X, 0, none⟩), .int .i64 o, .int .i64 s, .int .i64 d] w fun e w' => e = .returned (.tuple #[]) ∧ IsTim w' X B (mset m (o, s) d) ∧ w.grownBy w' (some B) := by
  have hc := h.cell
  go_enter Try.func12, Try.ntmps12
  go_wp2_with (first
    | (at_mapUpdate; refine wpList_store _ rfl _ _ _ 57 3 rfl keyPl Try.underlying57 B m rfl h.map (o, s) d rfl rfl ?_; intro w1 hM1 hg1 hs1))
  go_end0
  exact ⟨rfl, ⟨h.blk.grown hg1 (fun e => h.ne (by injection e)), hM1⟩, hg1⟩
theorem set_nil (o s d : Int) (w : World) : Calls Try.prog 12 #[.pointer none, .int .i64 o, .int .i64 s, .int .i64 d] w fun e w' => e = .returned (.tuple #[]) ∧ w = w' := by
  go_enter Try.func12, Try.ntmps12
  go_wp2_with fail
  go_end0
  exact ⟨rfl, rfl⟩

set_option maxHeartbeats 1000000 in
theorem due_any {X B : Nat} {m : TMap} (o s : Int) (w : World) (h : IsTim w X B m) :
    Calls Try.prog 16 #[.pointer (some ⟨X, 0, none⟩), .int .i64 o, .int .i64 s] w fun e w' => e = .returned (.tuple #[.int .i64 ((mget m (o, s)).getD 0), .bool (mget m (o, s)).isSome]) ∧ w = w' := by
  have hc := h.cell
  have hl := h.lookOk o s
  generalize (mget m (o, s)).getD 0 = d at *
  generalize (mget m (o, s)).isSome = ok at *
  go_enter Try.func16, Try.ntmps16
  go_wp2_with fail
  go_ret2
  exact ⟨rfl, rfl⟩
theorem due_nil (o s : Int) (w : World) : Calls Try.prog 16 #[.pointer none, .int .i64 o, .int .i64 s] w fun e w' => e = .returned (.tuple #[.int .i64 0, .bool false]) ∧ w = w' := by
  go_enter Try.func16, Try.ntmps16
  go_wp2_with fail
  go_ret2
  exact ⟨rfl, rfl⟩

set_option maxHeartbeats 1000000 in
theorem cancel_any {X B : Nat} {m : TMap} (o s : Int) (w : World) (h : IsTim w X B m) :
    Calls Try.prog 15 #[.pointer (some ⟨X, 0, none⟩), .int .i64 o, .int .i64 s] w fun e w' => e = .returned (.bool (mget m (o, s)).isSome) ∧ IsTim w' X B (mdel m (o, s)) ∧ w.grownBy w' (some B) := by
  have D := due_any o s w h
  have hc := h.cell
  cases hg : mget m (o, s) with
  | none =>
    rw [hg] at D
    have hdl : mdel m (o, s) = m := mdel_none (fun hk => by obtain ⟨b, hb⟩ := mget_key hk; rw [hg] at hb; cases hb)
    rw [hdl]
    have HD := hid D
    clear D hg hdl
    go_enter Try.func15, Try.ntmps15
    go_wp2_with fail
    refine HD.out.mono ?_
    rintro e w1 ⟨rfl, rfl⟩
    go_wp2_with fail
    go_ret
    exact ⟨rfl, h, grown_refl _ _⟩
  | some d =>
    rw [hg] at D
    have HD := hid D
    clear D hg
    go_enter Try.func15, Try.ntmps15
    go_wp2_with fail
    refine HD.out.mono ?_
    rintro e w1 ⟨rfl, rfl⟩
    go_wp2_with (first
      | (at_delete; refine wpList_drop _ rfl _ _ 57 3 61 rfl keyPl Try.underlying57 B m rfl h.map (o, s) rfl ?_; intro w1 hM1 hg1 hs1))
    go_ret
    exact ⟨rfl, ⟨h.blk.grown hg1 (fun e => h.ne (by injection e)), hM1⟩, hg1⟩
theorem cancel_nil (o s : Int) (w : World) : Calls Try.prog 15 #[.pointer none, .int .i64 o, .int .i64 s] w fun e w' => e = .returned (.bool false) ∧ w = w' := by
  go_enter Try.func15, Try.ntmps15
  go_wp2_with fail
  refine (due_nil _ _ _).mono ?_
  rintro e w1 ⟨rfl, rfl⟩
  go_wp2_with fail
  go_ret
  exact ⟨rfl, rfl⟩

end Go.Proofs.Ythlpcbpilfakmaa
