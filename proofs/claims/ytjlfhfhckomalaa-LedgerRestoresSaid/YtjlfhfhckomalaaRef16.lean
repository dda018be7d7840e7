/-
  The document's ledger: 390 sums and the turnover in one block.
-/
import Derived.Test.YtjlfhfhckomalaaLedWakes
namespace Go.Proofs.Ytjlfhfhckomalaa
open Go.RowKit Go.WideShapes Go.ChangeShapes Go.ChangeAt Go.Deep
set_option linter.unusedVariables false

/-- The cells of the document's ledger. -/
def cellsR (f : Fn) (T : Int) : Array Value := ((Array.range 390).map fun i : Nat => Value.int .i64 (f ((i / 6 : Nat), (i % 6 : Nat)))).push (.int .i64 T)
theorem cellsR_size (f : Fn) (T : Int) : (cellsR f T).size = 391 := by simp [cellsR]
theorem cellsR_at (f : Fn) (T : Int) {c a : Nat} (hc : c ≤ 64) (ha : a < 6) : (cellsR f T)[c * 6 + a]? = some (.int .i64 (f (c, a))) := by
  unfold cellsR
  rw [Array.getElem?_push]
  have h : c * 6 + a < 390 := by omega
  rw [if_neg (by simp; omega)]
  rw [Array.getElem?_map, Array.getElem?_range, if_pos h]
  simp only [Option.map_some]
  rw [show (c * 6 + a) / 6 = c from by omega, show (c * 6 + a) % 6 = a from by omega]
theorem cellsR_last (f : Fn) (T : Int) : (cellsR f T)[390]? = some (.int .i64 T) := by
  unfold cellsR
  rw [Array.getElem?_push]
  simp
def putF (f : Fn) (p : Int × Int) (v : Int) : Fn := fun q => if q = p then v else f q
theorem cellsR_set (f : Fn) (T : Int) {c a : Nat} (hc : c ≤ 64) (ha : a < 6) (v : Int) : (cellsR f T).setIfInBounds (c * 6 + a) (.int .i64 v) = cellsR (putF f (c, a) v) T := by
  apply Array.ext_getElem?
  intro i
  rw [Array.getElem?_setIfInBounds]
  by_cases hi : i = 390
  · subst hi
    rw [if_neg (by omega), cellsR_last, cellsR_last]
  · by_cases h : i < 390
    · have e : i = (i / 6) * 6 + i % 6 := by omega
      have h1 : i / 6 ≤ 64 := by omega
      have h2 : i % 6 < 6 := by omega
      have g1 := cellsR_at f T h1 h2
      have g2 := cellsR_at (putF f (c, a) v) T h1 h2
      rw [← e] at g1 g2
      rw [g1, g2]
      unfold putF
      by_cases hk : c * 6 + a = i
      · rw [if_pos hk, if_pos (by rw [cellsR_size]; omega)]
        rw [show i / 6 = c from by omega, show i % 6 = a from by omega, if_pos rfl]
      · rw [if_neg hk, if_neg]
        intro e2
        simp only [Prod.mk.injEq] at e2
        omega
    · rw [if_neg (by omega)]
      rw [Array.getElem?_eq_none (by rw [cellsR_size]; omega), Array.getElem?_eq_none (by rw [cellsR_size]; omega)]
theorem cellsR_setT (f : Fn) (T v : Int) : (cellsR f T).setIfInBounds 390 (.int .i64 v) = cellsR f v := by
  apply Array.ext_getElem?
  intro i
  rw [Array.getElem?_setIfInBounds]
  by_cases hi : 390 = i
  · subst hi
    rw [if_pos rfl, if_pos (by rw [cellsR_size]; omega), cellsR_last]
  · rw [if_neg hi]
    by_cases h : i < 390
    · have e : i = (i / 6) * 6 + i % 6 := by omega
      have g1 := cellsR_at f T (c := i / 6) (a := i % 6) (by omega) (by omega)
      have g2 := cellsR_at f v (c := i / 6) (a := i % 6) (by omega) (by omega)
      rw [← e] at g1 g2
      rw [g1, g2]
    · rw [Array.getElem?_eq_none (by rw [cellsR_size]; omega), Array.getElem?_eq_none (by rw [cellsR_size]; omega)]

/-- The document's ledger at block R. -/
def IsRef (w : World) (R : Nat) (f : Fn) (T : Int) : Prop := Blk w R 42 (cellsR f T)
section
variable {w w' : World} {R : Nat} {f : Fn} {T : Int}
theorem IsRef.next (h : IsRef w R f T) (hb : Below w.heap.size w w') : IsRef w' R f T := Blk.next h hb
theorem IsRef.touch {S : Nat → Prop} (h : IsRef w R f T) (ht : Touch S w w') (hS : ¬ S R) : IsRef w' R f T := ht.blk h hS
theorem IsRef.at_ (h : IsRef w R f T) {c a : Nat} (hc : c ≤ 64) (ha : a < 6) : w.cell? ⟨R, c * 6 + a, none⟩ = some (.int .i64 (f (c, a))) := (Blk.cell h _).trans (cellsR_at f T hc ha)
theorem IsRef.turn (h : IsRef w R f T) : w.cell? ⟨R, 390, none⟩ = some (.int .i64 T) := (Blk.cell h _).trans (cellsR_last f T)
theorem IsRef.put (h : IsRef w R f T) {c a : Nat} (hc : c ≤ 64) (ha : a < 6) (v : Int) : IsRef (w.setCell ⟨R, c * 6 + a, none⟩ (.int .i64 v)) R (putF f (c, a) v) T := by
  have := Blk.set_ h (c * 6 + a) (.int .i64 v)
  rw [cellsR_set f T hc ha v] at this
  exact this
theorem IsRef.putT (h : IsRef w R f T) (v : Int) : IsRef (w.setCell ⟨R, 390, none⟩ (.int .i64 v)) R f v := by
  have := Blk.set_ h 390 (.int .i64 v)
  rw [cellsR_setT f T v] at this
  exact this
end

theorem zero_ref (w : World) : (zeroValue 42).run Try.prog w = .ok (.agg (cellsR f0 0)) w := by kernel_rfl

end Go.Proofs.Ytjlfhfhckomalaa
