/-
  Layer 19: a script's operations as an argument.
-/
import Derived.Test.YtdgoifnhlpjnpaaLn
import Derived.Test.YtdgoifnhlpjnpaaNest
namespace Go.Proofs.Ytdgoifnhlpjnpaa
open Go.RowKit Go.WideShapes Go.ChangeShapes Go.ChangeAt Go.Deep
set_option linter.unusedVariables false

/-- An operation, and where its lines lie. -/
structure Opn where
  o : Bool
  i : Int
  c : Int
  p : Int
  f : ByteArray
  A : Option Addr
  cap : Nat
  ls : List Ln
instance : Inhabited Opn := ⟨⟨false, 0, 0, 0, ByteArray.empty, none, 0, []⟩⟩
def enOp (x : Opn) : List Value := [.bool x.o, .int .i64 x.i, .int .i64 x.c, .int .i64 x.p, .string x.f, .slice x.A x.ls.length x.cap]
theorem enOp_len (x : Opn) : (enOp x).length = 6 := rfl
def i64L (x : Ln) : Prop := I64 x.i ∧ I64 x.q
structure OkOp (w : World) (x : Opn) : Prop where
  rd : Rd w x.A (x.ls.flatMap enL)
  l64 : ∀ y ∈ x.ls, i64L y
  len : x.ls.length * 16 ≤ 140737488351232
  room : x.ls.length ≤ x.cap
  cap : x.cap ≤ maxLen
  flow : x.f.size ≤ maxLen
theorem OkOp.next {w w' : World} {x : Opn} (h : OkOp w x) (hb : Below w.heap.size w w') : OkOp w' x := ⟨h.rd.below hb, h.l64, h.len, h.room, h.cap, h.flow⟩

theorem decLn (vs : List Value) (hl : vs.length = 2) (h : ∀ j, j < 2 → ∃ (u : Value) (k : SK), vs[j]? = some u ∧ ([SK.int .i64, .int .i64] : List SK)[j]? = some k ∧ k.ok u) : ∃ x : Ln, vs = enL x ∧ i64L x := by
  obtain ⟨⟨a, n⟩, h1, h2⟩ := dec2 vs hl h
  exact ⟨⟨a, n⟩, h1, h2⟩
theorem flatLn : Flat Try.prog 47 [.int .i64, .int .i64] := flat_struct Try.underlying47 (by kernel_rfl) (by kernel_rfl) (by kernel_rfl)
theorem bytesLn : Try.prog.bytesOf 47 = 16 := by kernel_rfl
theorem bytesOp : Try.prog.bytesOf 28 = 72 := by kernel_rfl

section
variable {H : Type} {enc : TypeId × Value → H} {w : World} {base : Nat} {spare : Nat → Bool} {held : Bool}
theorem open_lns {fuel : Nat} {cs : List Value} {x : DataW H × List MemPlace} (h : DataW.trod enc Try.prog w base spare held fuel 26 cs = some x) (hw : Reach Try.prog 26 x.1) :
    ∃ (A : Option Addr) (cap : Nat) (l : List Ln), cs = [.slice A l.length cap] ∧ Rd w A (l.flatMap enL) ∧ (∀ x ∈ l, i64L x) ∧ l.length * 16 ≤ 140737488351232 ∧ l.length ≤ cap ∧ cap ≤ maxLen := by
  obtain ⟨A, len, cap, xs, rfl, hlc, hcm, hxl, hR, hall, hd⟩ := open_flat Try.underlying26 flatLn (by decide) h
  obtain ⟨l, rfl, rfl, ok⟩ := flat_list (ks := [.int .i64, .int .i64]) (en := enL) (ok := i64L) decLn len xs hxl hall
  refine ⟨A, cap, l, rfl, hR, ok, ?_, hlc, hcm⟩
  rcases hd with hd | ⟨elems, sp, hd, hel⟩
  · omega
  · have := hw _ (by rw [hd]; exact weights_len Try.underlying26)
    rw [bytesLn] at this
    simp only [reachBytes] at this
    omega
theorem open_op (fuel : Nat) (cs : List Value) (x : DataW H × List MemPlace) (hl : cs.length = 6) (h : DataW.trod enc Try.prog w base spare held fuel 28 cs = some x) (hw : Reach Try.prog 28 x.1) :
    ∃ p : Opn, cs = enOp p ∧ OkOp w p := by
  obtain ⟨n, ys, hx, hyl, hf⟩ := open_fields Try.underlying28 (by kernel_rfl) hl h
  obtain ⟨u0, y0, c0, e0, t0⟩ := hf 0 _ rfl
  obtain ⟨u1, y1, c1, e1, t1⟩ := hf 1 _ rfl
  obtain ⟨u2, y2, c2, e2, t2⟩ := hf 2 _ rfl
  obtain ⟨u3, y3, c3, e3, t3⟩ := hf 3 _ rfl
  obtain ⟨u4, y4, c4, e4, t4⟩ := hf 4 _ rfl
  obtain ⟨u5, y5, c5, e5, t5⟩ := hf 5 _ rfl
  obtain ⟨k0, hv0, _⟩ := DataW.trod_bool Try.underlying4 t0
  obtain ⟨k1, hv1, _, hw1⟩ := DataW.trod_int Try.underlying3 t1
  obtain ⟨k2, hv2, _, hw2⟩ := DataW.trod_int Try.underlying3 t2
  obtain ⟨k3, hv3, _, hw3⟩ := DataW.trod_int Try.underlying3 t3
  obtain ⟨k4, hv4, _, hw4⟩ := DataW.trod_string Try.underlying9 t4
  simp only [List.cons.injEq, and_true] at hv0 hv1 hv2 hv3 hv4
  subst hv0 hv1 hv2 hv3 hv4
  obtain ⟨A, cap, l, hc, hR, ok, hlen, hroom, hcm⟩ := open_lns t5 (fun y hy => hw y (by rw [hx]; exact weights_field (j := 5) Try.underlying28 rfl (by rw [List.getElem?_map, e5]; rfl) hy))
  simp only [List.cons.injEq, and_true] at hc
  subst hc
  match cs, hl with
  | [a, b, c, d, e, f], _ =>
    simp at c0 c1 c2 c3 c4 c5
    subst c0 c1 c2 c3 c4 c5
    exact ⟨⟨k0, k1, k2, k3, k4, A, cap, l⟩, rfl, hR, ok, hlen, hroom, hcm, hw4⟩
theorem open_ops {fuel : Nat} {cs : List Value} {x : DataW H × List MemPlace} (h : DataW.trod enc Try.prog w base spare held fuel 22 cs = some x) (hw : Reach Try.prog 22 x.1) :
    ∃ (A : Option Addr) (cap : Nat) (l : List Opn), cs = [.slice A l.length cap] ∧ Rd w A (l.flatMap enOp) ∧ (∀ p ∈ l, OkOp w p) ∧ l.length * 72 ≤ 140737488351232 := by
  obtain ⟨A, cap, l, rfl, hR, ok, hd⟩ := open_rows (en := enOp) (Q := OkOp w) (G := Reach Try.prog 28) enOp_len (by omega) (by kernel_rfl) Try.underlying22 open_op h (fun elems sp hx d hd y hy => hw y (by rw [hx]; exact weights_elem Try.underlying22 hd hy))
  refine ⟨A, cap, l, rfl, hR, ok, ?_⟩
  rcases hd with hd | ⟨elems, sp, hd, hel⟩
  · omega
  · have := hw _ (by rw [hd]; exact weights_len Try.underlying22)
    rw [bytesOp] at this
    simp only [reachBytes] at this
    omega
end

end Go.Proofs.Ytdgoifnhlpjnpaa
