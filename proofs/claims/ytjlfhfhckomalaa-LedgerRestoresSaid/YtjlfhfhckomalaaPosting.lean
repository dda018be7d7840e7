/-
  The ledger's laws: postings as arguments.
-/
import Derived.Test.YtjlfhfhckomalaaNest
import Derived.Test.YtjlfhfhckomalaaLedPost
import Derived.Test.YtjlfhfhckomalaaLedSums
namespace Go.Proofs.Ytjlfhfhckomalaa
open Go.ChangeShapes Go.WideShapes Go.ChangeAt Go.RowKit Go.Deep
set_option linter.unusedVariables false

/-- A posting: its customer, and where its entries lie. -/
structure Po where
  c : Int
  A : Option Addr
  cap : Nat
  es : List En
instance : Inhabited Po := ⟨⟨0, none, 0, []⟩⟩
def enPo (p : Po) : List Value := [.int .i64 p.c, .slice p.A p.es.length p.cap]
theorem enPo_len (p : Po) : (enPo p).length = 2 := rfl
def i64E (x : En) : Prop := I64 x.a ∧ I64 x.n
/-- The entries lie where the posting says, and are within reach. -/
structure OkPo (w : World) (p : Po) : Prop where
  c64 : I64 p.c
  rd : Rd w p.A (p.es.flatMap enE)
  e64 : ∀ x ∈ p.es, i64E x
  len : p.es.length * 16 ≤ 140737488351232
  room : p.es.length ≤ p.cap
theorem OkPo.next {w w' : World} {p : Po} (h : OkPo w p) (hb : Below w.heap.size w w') : OkPo w' p := ⟨h.c64, h.rd.below hb, h.e64, h.len, h.room⟩

theorem decE (vs : List Value) (hl : vs.length = 2) (h : ∀ j, j < 2 → ∃ (u : Value) (k : SK), vs[j]? = some u ∧ ([SK.int .i64, .int .i64] : List SK)[j]? = some k ∧ k.ok u) : ∃ x : En, vs = enE x ∧ i64E x := by
  obtain ⟨⟨a, n⟩, h1, h2⟩ := dec2 vs hl h
  exact ⟨⟨a, n⟩, h1, h2⟩
theorem flatE : Flat Try.prog 47 [.int .i64, .int .i64] := flat_struct Try.underlying47 (by kernel_rfl) (by kernel_rfl) (by kernel_rfl)
theorem bytesE : Try.prog.bytesOf 47 = 16 := by kernel_rfl
theorem bytesPo : Try.prog.bytesOf 28 = 32 := by kernel_rfl

section
variable {H : Type} {enc : TypeId × Value → H} {w : World} {base : Nat} {spare : Nat → Bool} {held : Bool}
/-- A slice of entries, opened. -/
theorem open_ents {fuel : Nat} {cs : List Value} {x : DataW H × List MemPlace} (h : DataW.trod enc Try.prog w base spare held fuel 26 cs = some x) (hw : Reach Try.prog 26 x.1) :
    ∃ (A : Option Addr) (cap : Nat) (l : List En), cs = [.slice A l.length cap] ∧ Rd w A (l.flatMap enE) ∧ (∀ x ∈ l, i64E x) ∧ l.length * 16 ≤ 140737488351232 ∧ l.length ≤ cap := by
  obtain ⟨A, len, cap, xs, rfl, hlc, hcm, hxl, hR, hall, hd⟩ := open_flat Try.underlying26 flatE (by decide) h
  obtain ⟨l, rfl, rfl, ok⟩ := flat_list (ks := [.int .i64, .int .i64]) (en := enE) (ok := i64E) decE len xs hxl hall
  refine ⟨A, cap, l, rfl, hR, ok, ?_, hlc⟩
  rcases hd with hd | ⟨elems, sp, hd, hel⟩
  · omega
  · have := hw _ (by rw [hd]; exact weights_len Try.underlying26)
    rw [bytesE] at this
    simp only [reachBytes] at this
    omega
/-- A posting's two cells. -/
theorem open_po (fuel : Nat) (cs : List Value) (x : DataW H × List MemPlace) (hl : cs.length = 2) (h : DataW.trod enc Try.prog w base spare held fuel 28 cs = some x) (hw : Reach Try.prog 28 x.1) :
    ∃ p : Po, cs = enPo p ∧ OkPo w p := by
  obtain ⟨n, ys, hx, hyl, hf⟩ := open_fields Try.underlying28 (by kernel_rfl) hl h
  obtain ⟨u0, y0, c0, e0, t0⟩ := hf 0 _ rfl
  obtain ⟨u1, y1, c1, e1, t1⟩ := hf 1 _ rfl
  obtain ⟨k, hv0, _, hw0⟩ := DataW.trod_int Try.underlying3 t0
  simp only [List.cons.injEq, and_true] at hv0
  subst hv0
  obtain ⟨A, cap, l, hc, hR, ok, hlen, hroom⟩ := open_ents t1 (fun y hy => hw y (by rw [hx]; exact weights_field (j := 1) Try.underlying28 rfl (by rw [List.getElem?_map, e1]; rfl) hy))
  simp only [List.cons.injEq, and_true] at hc
  subst hc
  match cs, hl with
  | [a, b], _ =>
    simp at c0 c1
    subst c0 c1
    exact ⟨⟨k, A, cap, l⟩, rfl, hw0, hR, ok, hlen, hroom⟩
theorem open_pos {fuel : Nat} {cs : List Value} {x : DataW H × List MemPlace} (h : DataW.trod enc Try.prog w base spare held fuel 22 cs = some x) (hw : Reach Try.prog 22 x.1) :
    ∃ (A : Option Addr) (cap : Nat) (l : List Po), cs = [.slice A l.length cap] ∧ Rd w A (l.flatMap enPo) ∧ (∀ p ∈ l, OkPo w p) ∧ l.length * 32 ≤ 140737488351232 := by
  obtain ⟨A, cap, l, rfl, hR, ok, hd⟩ := open_rows (en := enPo) (Q := OkPo w) (G := Reach Try.prog 28) enPo_len (by omega) (by kernel_rfl) Try.underlying22 open_po h (fun elems sp hx d hd y hy => hw y (by rw [hx]; exact weights_elem Try.underlying22 hd hy))
  refine ⟨A, cap, l, rfl, hR, ok, ?_⟩
  rcases hd with hd | ⟨elems, sp, hd, hel⟩
  · omega
  · have := hw _ (by rw [hd]; exact weights_len Try.underlying22)
    rw [bytesPo] at this
    simp only [reachBytes] at this
    omega
end

end Go.Proofs.Ytjlfhfhckomalaa
