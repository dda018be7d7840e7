/-
  The inbox: what its functions do, told by a list of entries.
-/
import Derived.Test.YtakaalldbnklcaaWords
namespace Go.Proofs.Ytakaalldbnklcaa.In
open Go.RowKit
set_option linter.unusedVariables false

theorem keyPl : KeyLaw Try.prog 90 kP :=
  pairKey (n1 := "order") (n2 := "step") (by kernel_rfl) (by kernel_rfl) (by kernel_rfl) (by decide) (by decide) Try.underlying3 isAgg_int

/-- An entry. -/
structure Ent where
  o : Int
  s : Int
  t : Int
  c : Int
  b : Bool
deriving DecidableEq
def enE (e : Ent) : Value := .agg #[.int .i64 e.o, .int .i64 e.s, .int .i64 e.t, .int .i64 e.c, .bool e.b]
def noEnt : Ent := ⟨0, 0, 0, 0, false⟩
/-- What is remembered of a step. -/
def entAt (m : List ((Int × Int) × Ent)) (p : Int × Int) : Ent := (mget m p).getD noEnt
theorem zeroEnt (w : World) : (zeroValue 85).run Try.prog w = .ok (enE noEnt) w := by kernel_rfl
theorem looked_ent (m : List ((Int × Int) × Ent)) (p : Int × Int) : looked (enE noEnt) enE m p = enE (entAt m p) := by
  unfold looked entAt
  cases mget m p <;> rfl

/-- An inbox: the struct at block X, its map at block B. -/
def IsBox (w : World) (X B : Nat) (m : List ((Int × Int) × Ent)) : Prop := Blk w X 88 #[.map (some B)] ∧ IsMap w B kP enE m

theorem IsBox.next {w w' : World} {X B : Nat} {m : List ((Int × Int) × Ent)} (h : IsBox w X B m) (hb : Below w.heap.size w w') : IsBox w' X B m := ⟨h.1.next hb, h.2.next hb⟩

theorem IsBox.look {w : World} {X B : Nat} {m : List ((Int × Int) × Ent)} (h : IsBox w X B m) (o s : Int) : (Instr.lookup 86 (.map (some B)) (.agg #[.int .i64 o, .int .i64 s]) false).run Try.prog w = .ok (enE (entAt m (o, s))) w := by
  have := h.2.look keyPl Try.underlying86 (zeroEnt _) (o, s)
  rw [looked_ent] at this
  exact this

/-- Ask, told. -/
def askF (e : Ent) (t : Int) (u : Bool) : Int × Int :=
  if u = true then (if e.b = true then (1, 0) else (0, 0))
  else if e.b = true then (1, 151)
  else if t < 1 then (2, 0)
  else if t < e.t then (2, 0)
  else if t = e.t then (1, e.c)
  else (0, 0)

set_option maxHeartbeats 1000000 in
theorem ask_any (X B : Nat) (m : List ((Int × Int) × Ent)) (o s t : Int) (u : Bool) (w : World) (h : IsBox w X B m) :
    Calls Try.prog 13 #[.pointer (some ⟨X, 0, none⟩), .int .i64 o, .int .i64 s, .int .i64 t, .bool u] w fun e w' =>
      e = .returned (.tuple #[.int .i64 (askF (entAt m (o, s)) t u).1, .int .i64 (askF (entAt m (o, s)) t u).2]) ∧ Below w.heap.size w w' := by
  have hl := h.look o s
  have hc := h.1.cell 0
  have hs : (#[.map (some B)] : Array Value)[0]? = some (.map (some B)) := rfl
  rw [hs] at hc
  clear hs
  generalize entAt m (o, s) = e at *
  obtain ⟨eo, es, et, ec, eb⟩ := e
  simp only [enE] at hl
  go_enter Try.func13, Try.ntmps13
  cases u with
  | true =>
    cases eb with
    | true =>
      go_wp2_with fail
      go_ret2
      exact ⟨rfl, (Below.refl _ _).alloc (Nat.le_refl _) _⟩
    | false =>
      go_wp2_with fail
      go_ret2
      exact ⟨rfl, (Below.refl _ _).alloc (Nat.le_refl _) _⟩
  | false =>
    cases eb with
    | true =>
      go_wp2_with fail
      go_ret2
      exact ⟨rfl, (Below.refl _ _).alloc (Nat.le_refl _) _⟩
    | false =>
      by_cases h1 : t < 1
      · go_wp2_with fail
        go_ret2
        exact ⟨by simp [askF, h1], (Below.refl _ _).alloc (Nat.le_refl _) _⟩
      · by_cases h2 : t < et
        · go_wp2_with fail
          go_ret2
          exact ⟨by simp [askF, h2], (Below.refl _ _).alloc (Nat.le_refl _) _⟩
        · by_cases h3 : t = et
          · subst h3
            go_wp2_with fail
            go_quiet (fail)
            go_wp2_with fail
            go_ret2
            exact ⟨by simp [askF, show ¬ t < 1 from by omega], below_drewN ((Below.refl _ _).alloc (Nat.le_refl _) _) _⟩
          · have h4 : (t == et) = false := by simpa using h3
            go_wp2_with fail
            go_ret2
            exact ⟨by simp [askF, show ¬ t < 1 from by omega, show ¬ t < et from by omega, h3], (Below.refl _ _).alloc (Nat.le_refl _) _⟩

end Go.Proofs.Ytakaalldbnklcaa.In
