/-
  Layer 19: orders as an argument.
-/
import Derived.Test.YtdgoifnhlpjnpaaRstP19
import Derived.Test.YtdgoifnhlpjnpaaOpArg
namespace Go.Proofs.Ytdgoifnhlpjnpaa
open Go.RowKit Go.WideShapes Go.ChangeShapes Go.ChangeAt Go.Deep
set_option linter.unusedVariables false

theorem bytesOrd : Try.prog.bytesOf 35 = 72 := by kernel_rfl
instance : Inhabited OrdA := ⟨⟨0, 0, ByteArray.empty, none, 0, [], 0, 0⟩⟩
section
variable {H : Type} {enc : TypeId × Value → H} {w : World} {base : Nat} {spare : Nat → Bool} {held : Bool}
theorem open_ord (fuel : Nat) (cs : List Value) (x : DataW H × List MemPlace) (hl : cs.length = 6) (h : DataW.trod enc Try.prog w base spare held fuel 35 cs = some x) (hw : Reach Try.prog 35 x.1) :
    ∃ p : OrdA, cs = enA p ∧ OkA w p := by
  obtain ⟨n, ys, hx, hyl, hf⟩ := open_fields Try.underlying35 (by kernel_rfl) hl h
  obtain ⟨u0, y0, c0, e0, t0⟩ := hf 0 _ rfl
  obtain ⟨u1, y1, c1, e1, t1⟩ := hf 1 _ rfl
  obtain ⟨u2, y2, c2, e2, t2⟩ := hf 2 _ rfl
  obtain ⟨u3, y3, c3, e3, t3⟩ := hf 3 _ rfl
  obtain ⟨u4, y4, c4, e4, t4⟩ := hf 4 _ rfl
  obtain ⟨u5, y5, c5, e5, t5⟩ := hf 5 _ rfl
  obtain ⟨k0, hv0, _, hw0⟩ := DataW.trod_int Try.underlying3 t0
  obtain ⟨k1, hv1, _, hw1⟩ := DataW.trod_int Try.underlying3 t1
  obtain ⟨k2, hv2, _, hw2⟩ := DataW.trod_string Try.underlying9 t2
  obtain ⟨k4, hv4, _, hw4⟩ := DataW.trod_int Try.underlying2 t4
  obtain ⟨k5, hv5, _, hw5⟩ := DataW.trod_int Try.underlying2 t5
  simp only [List.cons.injEq, and_true] at hv0 hv1 hv2 hv4 hv5
  subst hv0 hv1 hv2 hv4 hv5
  obtain ⟨A, cap, l, hc, hR, ok, hlen, hroom, hcm⟩ := open_lns t3 (fun y hy => hw y (by rw [hx]; exact weights_field (j := 3) Try.underlying35 rfl (by rw [List.getElem?_map, e3]; rfl) hy))
  simp only [List.cons.injEq, and_true] at hc
  subst hc
  match cs, hl with
  | [a, b, c, d, e, f], _ =>
    simp at c0 c1 c2 c3 c4 c5
    subst c0 c1 c2 c3 c4 c5
    exact ⟨⟨k0, k1, k2, A, cap, l, k4, k5⟩, rfl, hR, hlen, hroom, hcm, hw2⟩
theorem open_ords {fuel : Nat} {cs : List Value} {x : DataW H × List MemPlace} (h : DataW.trod enc Try.prog w base spare held fuel 31 cs = some x) (hw : Reach Try.prog 31 x.1) :
    ∃ (A : Option Addr) (cap : Nat) (l : List OrdA), cs = [.slice A l.length cap] ∧ Rd w A (l.flatMap enA) ∧ (∀ p ∈ l, OkA w p) ∧ l.length * 72 ≤ 140737488351232 := by
  obtain ⟨A, cap, l, rfl, hR, ok, hd⟩ := open_rows (en := enA) (Q := OkA w) (G := Reach Try.prog 35) enA_len (by omega) (by kernel_rfl) Try.underlying31 open_ord h (fun elems sp hx d hd y hy => hw y (by rw [hx]; exact weights_elem Try.underlying31 hd hy))
  refine ⟨A, cap, l, rfl, hR, ok, ?_⟩
  rcases hd with hd | ⟨elems, sp, hd, hel⟩
  · omega
  · have := hw _ (by rw [hd]; exact weights_len Try.underlying31)
    rw [bytesOrd] at this
    simp only [reachBytes] at this
    omega
end

end Go.Proofs.Ytdgoifnhlpjnpaa
