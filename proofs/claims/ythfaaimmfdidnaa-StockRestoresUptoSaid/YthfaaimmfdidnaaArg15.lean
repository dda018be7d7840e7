/-
  Layer 15: a script's operations, rows of lines, levels and goods as arguments.
-/
import Derived.Test.YthfaaimmfdidnaaLnC
import Derived.Test.YthfaaimmfdidnaaNest
namespace Go.Proofs.Ythfaaimmfdidnaa
open Go.RowKit Go.WideShapes Go.ChangeShapes Go.ChangeAt Go.Deep
set_option linter.unusedVariables false

/-- An operation, and where its lines lie. -/
structure Opn where
  k : Int
  o : Int
  i : Int
  q : Int
  A : Option Addr
  cap : Nat
  ls : List Ln
instance : Inhabited Opn := ⟨⟨0, 0, 0, 0, none, 0, []⟩⟩
def enOp (x : Opn) : List Value := [.int .i64 x.k, .int .i64 x.o, .int .i64 x.i, .int .i64 x.q, .slice x.A x.ls.length x.cap]
theorem enOp_len (x : Opn) : (enOp x).length = 5 := rfl
def i64L (x : Ln) : Prop := I64 x.i ∧ I64 x.q
/-- Lines that an argument brings. -/
structure OkLs (w : World) (A : Option Addr) (cap : Nat) (ls : List Ln) : Prop where
  rd : Rd w A (ls.flatMap enL)
  l64 : ∀ y ∈ ls, i64L y
  len : ls.length * 16 ≤ 140737488351232
  room : ls.length ≤ cap
  cap : cap ≤ maxLen
theorem OkLs.next {w w' : World} {A : Option Addr} {cap : Nat} {ls : List Ln} (h : OkLs w A cap ls) (hb : Below w.heap.size w w') : OkLs w' A cap ls := ⟨h.rd.below hb, h.l64, h.len, h.room, h.cap⟩
structure OkOp (w : World) (x : Opn) : Prop where
  ls : OkLs w x.A x.cap x.ls
  k64 : I64 x.k
  o64 : I64 x.o
  i64 : I64 x.i
  q64 : I64 x.q
theorem OkOp.next {w w' : World} {x : Opn} (h : OkOp w x) (hb : Below w.heap.size w w') : OkOp w' x := ⟨h.ls.next hb, h.k64, h.o64, h.i64, h.q64⟩
/-- A row of lines. -/
structure LsRow where
  A : Option Addr
  cap : Nat
  ls : List Ln
instance : Inhabited LsRow := ⟨⟨none, 0, []⟩⟩
def enLs (x : LsRow) : List Value := [.slice x.A x.ls.length x.cap]
theorem enLs_len (x : LsRow) : (enLs x).length = 1 := rfl
def OkRow (w : World) (x : LsRow) : Prop := OkLs w x.A x.cap x.ls

theorem decLn (vs : List Value) (hl : vs.length = 2) (h : ∀ j, j < 2 → ∃ (u : Value) (k : SK), vs[j]? = some u ∧ ([SK.int .i64, .int .i64] : List SK)[j]? = some k ∧ k.ok u) : ∃ x : Ln, vs = enL x ∧ i64L x := by
  obtain ⟨⟨a, n⟩, h1, h2⟩ := dec2 vs hl h
  exact ⟨⟨a, n⟩, h1, h2⟩
theorem flatLn : Flat Try.prog 33 [.int .i64, .int .i64] := flat_struct Try.underlying33 (by kernel_rfl) (by kernel_rfl) (by kernel_rfl)
theorem bytesLn : Try.prog.bytesOf 33 = 16 := by kernel_rfl
theorem bytesOp : Try.prog.bytesOf 42 = 56 := by kernel_rfl
theorem bytesRow : Try.prog.bytesOf 31 = 24 := by kernel_rfl

section
variable {H : Type} {enc : TypeId × Value → H} {w : World} {base : Nat} {spare : Nat → Bool} {held : Bool}
theorem open_lns {fuel : Nat} {cs : List Value} {x : DataW H × List MemPlace} (h : DataW.trod enc Try.prog w base spare held fuel 31 cs = some x) (hw : Reach Try.prog 31 x.1) :
    ∃ (A : Option Addr) (cap : Nat) (l : List Ln), cs = [.slice A l.length cap] ∧ OkLs w A cap l := by
  obtain ⟨A, len, cap, xs, rfl, hlc, hcm, hxl, hR, hall, hd⟩ := open_flat Try.underlying31 flatLn (by decide) h
  obtain ⟨l, rfl, rfl, ok⟩ := flat_list (ks := [.int .i64, .int .i64]) (en := enL) (ok := i64L) decLn len xs hxl hall
  refine ⟨A, cap, l, rfl, hR, ok, ?_, hlc, hcm⟩
  rcases hd with hd | ⟨elems, sp, hd, hel⟩
  · omega
  · have := hw _ (by rw [hd]; exact weights_len Try.underlying31)
    rw [bytesLn] at this
    simp only [reachBytes] at this
    omega
theorem open_op (fuel : Nat) (cs : List Value) (x : DataW H × List MemPlace) (hl : cs.length = 5) (h : DataW.trod enc Try.prog w base spare held fuel 42 cs = some x) (hw : Reach Try.prog 42 x.1) :
    ∃ p : Opn, cs = enOp p ∧ OkOp w p := by
  obtain ⟨n, ys, hx, hyl, hf⟩ := open_fields Try.underlying42 (by kernel_rfl) hl h
  obtain ⟨u1, y1, c1, e1, t1⟩ := hf 0 _ rfl
  obtain ⟨u2, y2, c2, e2, t2⟩ := hf 1 _ rfl
  obtain ⟨u3, y3, c3, e3, t3⟩ := hf 2 _ rfl
  obtain ⟨u4, y4, c4, e4, t4⟩ := hf 3 _ rfl
  obtain ⟨u5, y5, c5, e5, t5⟩ := hf 4 _ rfl
  obtain ⟨k1, hv1, _, hw1⟩ := DataW.trod_int Try.underlying3 t1
  obtain ⟨k2, hv2, _, hw2⟩ := DataW.trod_int Try.underlying3 t2
  obtain ⟨k3, hv3, _, hw3⟩ := DataW.trod_int Try.underlying3 t3
  obtain ⟨k4, hv4, _, hw4⟩ := DataW.trod_int Try.underlying3 t4
  simp only [List.cons.injEq, and_true] at hv1 hv2 hv3 hv4
  subst hv1 hv2 hv3 hv4
  obtain ⟨A, cap, l, hc, hok⟩ := open_lns t5 (fun y hy => hw y (by rw [hx]; exact weights_field (j := 4) Try.underlying42 rfl (by rw [List.getElem?_map, e5]; rfl) hy))
  simp only [List.cons.injEq, and_true] at hc
  subst hc
  match cs, hl with
  | [b, c, d, e, f], _ =>
    simp at c1 c2 c3 c4 c5
    subst c1 c2 c3 c4 c5
    exact ⟨⟨k1, k2, k3, k4, A, cap, l⟩, rfl, hok, hw1, hw2, hw3, hw4⟩
theorem open_ops {fuel : Nat} {cs : List Value} {x : DataW H × List MemPlace} (h : DataW.trod enc Try.prog w base spare held fuel 40 cs = some x) (hw : Reach Try.prog 40 x.1) :
    ∃ (A : Option Addr) (cap : Nat) (l : List Opn), cs = [.slice A l.length cap] ∧ Rd w A (l.flatMap enOp) ∧ (∀ p ∈ l, OkOp w p) ∧ l.length * 56 ≤ 140737488351232 := by
  obtain ⟨A, cap, l, rfl, hR, ok, hd⟩ := open_rows (en := enOp) (Q := OkOp w) (G := Reach Try.prog 42) enOp_len (by omega) (by kernel_rfl) Try.underlying40 open_op h (fun elems sp hx d hd y hy => hw y (by rw [hx]; exact weights_elem Try.underlying40 hd hy))
  refine ⟨A, cap, l, rfl, hR, ok, ?_⟩
  rcases hd with hd | ⟨elems, sp, hd, hel⟩
  · omega
  · have := hw _ (by rw [hd]; exact weights_len Try.underlying40)
    rw [bytesOp] at this
    simp only [reachBytes] at this
    omega
theorem open_row (fuel : Nat) (cs : List Value) (x : DataW H × List MemPlace) (hl : cs.length = 1) (h : DataW.trod enc Try.prog w base spare held fuel 31 cs = some x) (hw : Reach Try.prog 31 x.1) :
    ∃ p : LsRow, cs = enLs p ∧ OkRow w p := by
  obtain ⟨A, cap, l, hc, hok⟩ := open_lns h hw
  exact ⟨⟨A, cap, l⟩, hc, hok⟩
theorem open_lrows {fuel : Nat} {cs : List Value} {x : DataW H × List MemPlace} (h : DataW.trod enc Try.prog w base spare held fuel 23 cs = some x) (hw : Reach Try.prog 23 x.1) :
    ∃ (A : Option Addr) (cap : Nat) (l : List LsRow), cs = [.slice A l.length cap] ∧ Rd w A (l.flatMap enLs) ∧ (∀ p ∈ l, OkRow w p) ∧ l.length * 24 ≤ 140737488351232 := by
  obtain ⟨A, cap, l, rfl, hR, ok, hd⟩ := open_rows (en := enLs) (Q := OkRow w) (G := Reach Try.prog 31) enLs_len (by omega) (by kernel_rfl) Try.underlying23 open_row h (fun elems sp hx d hd y hy => hw y (by rw [hx]; exact weights_elem Try.underlying23 hd hy))
  refine ⟨A, cap, l, rfl, hR, ok, ?_⟩
  rcases hd with hd | ⟨elems, sp, hd, hel⟩
  · omega
  · have := hw _ (by rw [hd]; exact weights_len Try.underlying23)
    rw [bytesRow] at this
    simp only [reachBytes] at this
    omega
end

end Go.Proofs.Ythfaaimmfdidnaa
