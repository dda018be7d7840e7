/-
  Layer 20: a script's operations as an argument.
-/
import Derived.Test.YtakaalldbnklcaaLn
import Derived.Test.YtakaalldbnklcaaNest
namespace Go.Proofs.Ytakaalldbnklcaa
open Go.RowKit Go.WideShapes Go.ChangeShapes Go.ChangeAt Go.Deep
set_option linter.unusedVariables false

/-- An operation, and where its lines lie. -/
structure DOp where
  kd : Int
  ky : Int
  st : Int
  tr : Int
  vb : ByteArray
  un : Bool
  A : Option Addr
  cap : Nat
  ls : List Ln
instance : Inhabited DOp := ⟨⟨0, 0, 0, 0, ByteArray.empty, false, none, 0, []⟩⟩
def enDo (x : DOp) : List Value := [.int .i64 x.kd, .int .i64 x.ky, .int .i64 x.st, .int .i64 x.tr, .string x.vb, .bool x.un, .slice x.A x.ls.length x.cap]
theorem enDo_len (x : DOp) : (enDo x).length = 7 := rfl
def i64L (x : Ln) : Prop := I64 x.i ∧ I64 x.q
structure OkDo (w : World) (x : DOp) : Prop where
  rd : Rd w x.A (x.ls.flatMap enL)
  l64 : ∀ y ∈ x.ls, i64L y
  len : x.ls.length * 16 ≤ 140737488351232
  room : x.ls.length ≤ x.cap
  cap : x.cap ≤ maxLen
  verb : x.vb.size ≤ maxLen
  i64 : I64 x.kd ∧ I64 x.ky ∧ I64 x.st ∧ I64 x.tr
theorem OkDo.next {w w' : World} {x : DOp} (h : OkDo w x) (hb : Below w.heap.size w w') : OkDo w' x := ⟨h.rd.below hb, h.l64, h.len, h.room, h.cap, h.verb, h.i64⟩

theorem decLn (vs : List Value) (hl : vs.length = 2) (h : ∀ j, j < 2 → ∃ (u : Value) (k : SK), vs[j]? = some u ∧ ([SK.int .i64, .int .i64] : List SK)[j]? = some k ∧ k.ok u) : ∃ x : Ln, vs = enL x ∧ i64L x := by
  obtain ⟨⟨a, n⟩, h1, h2⟩ := dec2 vs hl h
  exact ⟨⟨a, n⟩, h1, h2⟩
theorem flatLn : Flat Try.prog 45 [.int .i64, .int .i64] := flat_struct Try.underlying45 (by kernel_rfl) (by kernel_rfl) (by kernel_rfl)
theorem bytesLn : Try.prog.bytesOf 45 = 16 := by kernel_rfl

section
variable {H : Type} {enc : TypeId × Value → H} {w : World} {base : Nat} {spare : Nat → Bool} {held : Bool}
theorem open_lns {fuel : Nat} {cs : List Value} {x : DataW H × List MemPlace} (h : DataW.trod enc Try.prog w base spare held fuel 22 cs = some x) (hw : Reach Try.prog 22 x.1) :
    ∃ (A : Option Addr) (cap : Nat) (l : List Ln), cs = [.slice A l.length cap] ∧ Rd w A (l.flatMap enL) ∧ (∀ x ∈ l, i64L x) ∧ l.length * 16 ≤ 140737488351232 ∧ l.length ≤ cap ∧ cap ≤ maxLen := by
  obtain ⟨A, len, cap, xs, rfl, hlc, hcm, hxl, hR, hall, hd⟩ := open_flat Try.underlying22 flatLn (by decide) h
  obtain ⟨l, rfl, rfl, ok⟩ := flat_list (ks := [.int .i64, .int .i64]) (en := enL) (ok := i64L) decLn len xs hxl hall
  refine ⟨A, cap, l, rfl, hR, ok, ?_, hlc, hcm⟩
  rcases hd with hd | ⟨elems, sp, hd, hel⟩
  · omega
  · have := hw _ (by rw [hd]; exact weights_len Try.underlying22)
    rw [bytesLn] at this
    simp only [reachBytes] at this
    omega
theorem open_dop (fuel : Nat) (cs : List Value) (x : DataW H × List MemPlace) (hl : cs.length = 7) (h : DataW.trod enc Try.prog w base spare held fuel 24 cs = some x) (hw : Reach Try.prog 24 x.1) :
    ∃ p : DOp, cs = enDo p ∧ OkDo w p := by
  obtain ⟨n, ys, hx, hyl, hf⟩ := open_fields Try.underlying24 (by kernel_rfl) hl h
  obtain ⟨u0, y0, c0, e0, t0⟩ := hf 0 _ rfl
  obtain ⟨u1, y1, c1, e1, t1⟩ := hf 1 _ rfl
  obtain ⟨u2, y2, c2, e2, t2⟩ := hf 2 _ rfl
  obtain ⟨u3, y3, c3, e3, t3⟩ := hf 3 _ rfl
  obtain ⟨u4, y4, c4, e4, t4⟩ := hf 4 _ rfl
  obtain ⟨u5, y5, c5, e5, t5⟩ := hf 5 _ rfl
  obtain ⟨u6, y6, c6, e6, t6⟩ := hf 6 _ rfl
  obtain ⟨k0, hv0, _, hw0⟩ := DataW.trod_int Try.underlying3 t0
  obtain ⟨k1, hv1, _, hw1⟩ := DataW.trod_int Try.underlying3 t1
  obtain ⟨k2, hv2, _, hw2⟩ := DataW.trod_int Try.underlying3 t2
  obtain ⟨k3, hv3, _, hw3⟩ := DataW.trod_int Try.underlying3 t3
  obtain ⟨k4, hv4, _, hw4⟩ := DataW.trod_string Try.underlying9 t4
  obtain ⟨k5, hv5, _⟩ := DataW.trod_bool Try.underlying4 t5
  simp only [List.cons.injEq, and_true] at hv0 hv1 hv2 hv3 hv4 hv5
  subst hv0 hv1 hv2 hv3 hv4 hv5
  obtain ⟨A, cap, l, hc, hR, ok, hlen, hroom, hcm⟩ := open_lns t6 (fun y hy => hw y (by rw [hx]; exact weights_field (j := 6) Try.underlying24 rfl (by rw [List.getElem?_map, e6]; rfl) hy))
  simp only [List.cons.injEq, and_true] at hc
  subst hc
  match cs, hl with
  | [a, b, c, d, e, f, g], _ =>
    simp at c0 c1 c2 c3 c4 c5 c6
    subst c0 c1 c2 c3 c4 c5 c6
    exact ⟨⟨k0, k1, k2, k3, k4, k5, A, cap, l⟩, rfl, hR, ok, hlen, hroom, hcm, hw4, hw0, hw1, hw2, hw3⟩
end

end Go.Proofs.Ytakaalldbnklcaa
