/-
  append of one element, and where the row then lies.
-/
import Derived.Test.YtemhoaapapeilaaSetRow
import Derived.Maps.AppendAt
namespace Go.Proofs.Ytemhoaapapeilaa
open Go.RowKit Go.ChangeShapes Go.WideShapes Go.ChangeAt Go.Deep
set_option linter.unusedVariables false

/-- 'l = append(l, x)': x lies in the new block at the heap's end; the row is the call's own (or nil); where the new row lies. -/
theorem wpList_push_at {P : Program} {ops : Array Oper} {rest : List Oper} {o : Oper} {a : Act} {Q : Exit → Act → World → Prop} (w : World) (hgd : o.guard = none) (s x : Operand) (t : TypeId)
    (ho : o.op = .call { callee := .builtin .append, args := #[s, x], argTypes := #[t, t] })
    (base : Nat) (e : TypeId) (i : TypeInfo) (z : Value) (size bytes : Nat) (ht : P.underlying t = some (.slice e)) (hi : P.info? e = some i) (hz : i.zero = some z)
    (hsize : i.size = size) (hby : i.bytes = bytes) (hzs : z.cells.size = size) (hsz : 0 < size)
    (v : Value) (n : Nat) (xs : List Value) (hs : a.eval s = v) (hown : w.ownsRow base e size v n xs) (cs : Array Value) (g : Nat) (hg : g = w.heap.size)
    (hx : a.eval x = .slice (some ⟨g, 0, none⟩) 1 1) (hl : cs.size = size) (h1 : cs.toList.all Value.oneCell' = true)
    (hn : n + 1 ≤ maxLen) (hb : (n + 1) * bytes ≤ 140737488355328) (hbase : base ≤ w.heap.size)
    (h : ∀ v' w', w'.ownsRow base e size v' (n + 1) (xs ++ cs.toList) → (w.alloc (.cells cs e)).grownBy w' v.ownBlock → (v'.ownBlock = v.ownBlock ∨ v'.ownBlock = some (w.heap.size + 1)) → wpList P ops Q rest (a.put o.dst v') w') :
    wpList P ops Q (o :: rest) a (w.alloc (.cells cs e)) := by
  subst hg
  refine wpList_append_own_at _ hgd s x t ho base e i z size bytes ht hi hz hsize hby hzs hsz v n xs hs (hown.alloc _) ⟨w.heap.size, 0, none⟩ 1 1 cs.toList hx (by simp [hl]) ?_ (List.all_eq_true.1 h1) hn hb (by simp; omega) (fun v' w' h2 h3 _ h5 => h v' w' h2 h3 (by simpa using h5))
  intro j u hu
  rw [add_plain, Nat.zero_add, cell_of_row _ _ _ cs e (0, 0) (heap_alloc_new w _)]
  simpa using hu

theorem touch_row {S : Nat → Prop} {w w' : World} {row : Option Nat} (hg : w.grownBy w' row) (h : ∀ k, row = some k → S k) : Touch S w w' :=
  ⟨hg.os, hg.tape, hg.output, hg.size, fun k hk hn => hg.block k hk (fun e => hn (h k e.symm))⟩

/-- What a call may touch that has a struct at R with a row A in it. -/
def RT (n R : Nat) (A : Option Addr) : Nat → Prop := fun k => k = R ∨ A.map (·.block) = some k ∨ n ≤ k

end Go.Proofs.Ytemhoaapapeilaa
