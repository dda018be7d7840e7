/-
  Small words: worlds that drew, blocks and maps in them.
-/
import Derived.Test.YtemhoaapapeilaaPairKey
import Derived.Deep.QuietTactic
import Derived.BigQuiet
import Derived.StillTailTactics
namespace Go.Proofs.Ytemhoaapapeilaa
open Go.RowKit

theorem below_drewN {B : Nat} {a w : World} (h : Below B a w) (n : Nat) : Below B a (w.drewN n) := h.trans ⟨rfl, rfl, rfl, Nat.le_refl _, fun _ _ => rfl⟩
theorem grown_below {w w' : World} {n : Nat} {B : Nat} (h : w.grownBy w' (some B)) (hn : n ≤ w.heap.size) (hB : n ≤ B) : Below n w w' :=
  (Below.refl n w).grown h hn (fun k hk => by injection hk with hk; omega)
theorem grown_of_below {w w' : World} (h : Below w.heap.size w w') (B : Option Nat) : w.grownBy w' B := ⟨h.os, h.tape, h.output, h.size, fun k hk _ => h.block k hk⟩
theorem grown_trans {w w1 w2 : World} {B : Option Nat} (h1 : w.grownBy w1 B) (h2 : w1.grownBy w2 B) : w.grownBy w2 B :=
  ⟨h2.os.trans h1.os, h2.tape.trans h1.tape, h2.output.trans h1.output, Nat.le_trans h1.size h2.size, fun k hk hne => (h2.block k (Nat.lt_of_lt_of_le hk h1.size) hne).trans (h1.block k hk hne)⟩
theorem below_grown {w w1 w2 : World} {B : Option Nat} (h1 : Below w.heap.size w w1) (h2 : w1.grownBy w2 B) : w.grownBy w2 B := grown_trans (grown_of_below h1 B) h2

/-- A region that reads, then does one thing at its end (go_still_tail with the world folded). -/
theorem wp_tail {P : Program} {id : Nat} {Q : Exit → Act → World → Prop} {a : Act} {w : World} {l : List Oper} (n : Nat) (hm : P.follows .mixedOrders = true) (hB : Region.lexTailB .any l.toArray n = true)
    (h : wpStill P l.toArray w.drew (fun a' => wpList P l.toArray Q (l.drop n) a' w.drew) (l.take n) a) : (Code.region id l.toArray true).wp P Q a w := wp_region_still_tail n hm hB h

end Go.Proofs.Ytemhoaapapeilaa
