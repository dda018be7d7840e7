/-
  Layer 12: a definition of a flow as an argument.
-/
import Derived.Test.YtemhoaapapeilaaNm12
import Derived.Test.YtemhoaapapeilaaNest
namespace Go.Proofs.Ytemhoaapapeilaa
open Go.RowKit Go.WideShapes Go.ChangeShapes Go.ChangeAt Go.Deep
set_option linter.unusedVariables false

/-- A definition, and where its steps lie. -/
structure FDef where
  nm : ByteArray
  A : Option Addr
  cap : Nat
  l : List Stp
def enFD (x : FDef) : List Value := [.string x.nm, .slice x.A x.l.length x.cap]
theorem enFD_len (x : FDef) : (enFD x).length = 2 := rfl
structure OkFD (w : World) (x : FDef) : Prop where
  rd : Rd w x.A (x.l.flatMap enSt)
  ok : ∀ s ∈ x.l, OkSt w s
  len : x.l.length * 120 ≤ 140737488351232
  nms : ∀ s ∈ x.l, s.name.size ≤ 140737488351232
theorem bytesStr12 : Try.prog.bytesOf 9 = 16 := by kernel_rfl
theorem bytesStp12 : Try.prog.bytesOf 34 = 120 := by kernel_rfl
section
variable {H : Type} {enc : TypeId × Value → H} {w : World} {base : Nat} {spare : Nat → Bool} {held : Bool}
theorem open_names12 {fuel : Nat} {cs : List Value} {x : DataW H × List MemPlace} (h : DataW.trod enc Try.prog w base spare held fuel 32 cs = some x) (hw : Reach Try.prog 32 x.1) :
    ∃ (A : Option Addr) (cap : Nat) (l : List ByteArray), cs = [.slice A l.length cap] ∧ Rd w A (l.flatMap enB) ∧ l.length * 16 ≤ 140737488351232 := by
  obtain ⟨A, cap, l, rfl, hR, _, hd⟩ := open_rows (en := enB) (Q := fun _ => True) (G := fun _ => True) enB_len (by omega) (by kernel_rfl) Try.underlying32 (fun fuel cs x hl h _ => by
    obtain ⟨k, hv, _⟩ := DataW.trod_string Try.underlying9 h
    exact ⟨k, hv, trivial⟩) h (fun elems sp hx d hd => trivial)
  refine ⟨A, cap, l, rfl, hR, ?_⟩
  rcases hd with hd | ⟨elems, sp, hd, hel⟩
  · omega
  · have := hw _ (by rw [hd]; exact weights_len Try.underlying32)
    rw [bytesStr12] at this
    simp only [reachBytes] at this
    omega
theorem open_stp12 (fuel : Nat) (cs : List Value) (x : DataW H × List MemPlace) (hl : cs.length = 9) (h : DataW.trod enc Try.prog w base spare held fuel 34 cs = some x) (hw : Reach Try.prog 34 x.1) :
    ∃ p : Stp, cs = enSt p ∧ OkSt w p ∧ p.name.size ≤ 140737488351232 := by
  obtain ⟨n, ys, hx, hyl, hf⟩ := open_fields Try.underlying34 (by kernel_rfl) hl h
  obtain ⟨u0, y0, c0, e0, t0⟩ := hf 0 _ rfl
  obtain ⟨u1, y1, c1, e1, t1⟩ := hf 1 _ rfl
  obtain ⟨u2, y2, c2, e2, t2⟩ := hf 2 _ rfl
  obtain ⟨u3, y3, c3, e3, t3⟩ := hf 3 _ rfl
  obtain ⟨u4, y4, c4, e4, t4⟩ := hf 4 _ rfl
  obtain ⟨u5, y5, c5, e5, t5⟩ := hf 5 _ rfl
  obtain ⟨u6, y6, c6, e6, t6⟩ := hf 6 _ rfl
  obtain ⟨u7, y7, c7, e7, t7⟩ := hf 7 _ rfl
  obtain ⟨u8, y8, c8, e8, t8⟩ := hf 8 _ rfl
  obtain ⟨k0, hv0, hd0⟩ := DataW.trod_string Try.underlying9 t0
  obtain ⟨k1, hv1, _⟩ := DataW.trod_string Try.underlying9 t1
  obtain ⟨k2, hv2, _⟩ := DataW.trod_string Try.underlying9 t2
  obtain ⟨k3, hv3, _⟩ := DataW.trod_string Try.underlying9 t3
  obtain ⟨k4, hv4, _⟩ := DataW.trod_bool Try.underlying4 t4
  obtain ⟨k5, hv5, _⟩ := DataW.trod_int Try.underlying3 t5
  obtain ⟨k6, hv6, _⟩ := DataW.trod_int Try.underlying3 t6
  obtain ⟨k7, hv7, _⟩ := DataW.trod_int Try.underlying3 t7
  simp only [List.cons.injEq, and_true] at hv0 hv1 hv2 hv3 hv4 hv5 hv6 hv7
  subst hv0 hv1 hv2 hv3 hv4 hv5 hv6 hv7
  obtain ⟨A, cap, l, hc, hR, hlen⟩ := open_names12 t8 (fun y hy => hw y (by rw [hx]; exact weights_field (j := 8) Try.underlying34 rfl (by rw [List.getElem?_map, e8]; rfl) hy))
  simp only [List.cons.injEq, and_true] at hc
  subst hc
  match cs, hl with
  | [a, b, c, d, e, f, g, i, j], _ =>
    simp at c0 c1 c2 c3 c4 c5 c6 c7 c8
    subst c0 c1 c2 c3 c4 c5 c6 c7 c8
    refine ⟨⟨k0, k1, k2, k3, k4, k5, k6, k7, A, cap, l⟩, rfl, ⟨hR, show l.length * 16 ≤ 140737488355328 by omega⟩, ?_⟩
    have h0 := hw k0.data.toList.length (by rw [hx]; exact weights_field (j := 0) Try.underlying34 rfl (by rw [List.getElem?_map, e0]; rfl) (by rw [hd0.1]; simp [DataW.weights]))
    simp only [reachBytes] at h0
    rw [show k0.data.toList.length = k0.size from Array.length_toList] at h0
    show k0.size ≤ _
    omega
theorem open_def12 (fuel : Nat) (cs : List Value) (x : DataW H × List MemPlace) (hl : cs.length = 2) (h : DataW.trod enc Try.prog w base spare held fuel 24 cs = some x) (hw : Reach Try.prog 24 x.1) :
    ∃ p : FDef, cs = enFD p ∧ OkFD w p := by
  obtain ⟨n, ys, hx, hyl, hf⟩ := open_fields Try.underlying24 (by kernel_rfl) hl h
  obtain ⟨u0, y0, c0, e0, t0⟩ := hf 0 _ rfl
  obtain ⟨u1, y1, c1, e1, t1⟩ := hf 1 _ rfl
  obtain ⟨k0, hv0, _⟩ := DataW.trod_string Try.underlying9 t0
  simp only [List.cons.injEq, and_true] at hv0
  subst hv0
  have hw1 : Reach Try.prog 22 y1.1 := fun y hy => hw y (by rw [hx]; exact weights_field (j := 1) Try.underlying24 rfl (by rw [List.getElem?_map, e1]; rfl) hy)
  obtain ⟨A, cap, l, hc, hR, ok, hd⟩ := open_rows (en := enSt) (Q := fun p => OkSt w p ∧ p.name.size ≤ 140737488351232) (G := Reach Try.prog 34) enSt_len (by omega) (by kernel_rfl) Try.underlying22 open_stp12 t1 (fun elems sp hx d hd y hy => hw1 y (by rw [hx]; exact weights_elem Try.underlying22 hd hy))
  simp only [List.cons.injEq, and_true] at hc
  subst hc
  match cs, hl with
  | [a, b], _ =>
    simp at c0 c1
    subst c0 c1
    refine ⟨⟨k0, A, cap, l⟩, rfl, hR, fun s hs => (ok s hs).1, ?_, fun s hs => (ok s hs).2⟩
    rcases hd with hd | ⟨elems, sp, hd, hel⟩
    · show l.length * 120 ≤ _; omega
    · have := hw1 _ (by rw [hd]; exact weights_len Try.underlying22)
      rw [bytesStp12] at this
      simp only [reachBytes] at this
      show l.length * 120 ≤ _; omega
end

end Go.Proofs.Ytemhoaapapeilaa
