/-
  Arguments with depth: slices whose elements are structs with slices in them; how long each is. No program, no condition.
-/
import Derived.Test.YtemhoaapapeilaaBase
namespace Go.Proofs.Ytemhoaapapeilaa
open Go.ChangeShapes Go.WideShapes Go.ChangeAt Go.RowKit Go.Deep
set_option linter.unusedVariables false

section
variable {H : Type} {enc : TypeId × Value → H} {P : Program} {w : World} {base : Nat} {spare : Nat → Bool} {held : Bool}

theorem weightsAll_mem {e : TypeId} {d : DataW H} {y : Nat} : ∀ {l : List (DataW H)}, d ∈ l → y ∈ d.weights P e → y ∈ DataW.weightsAll P e l
  | [], h, _ => by cases h
  | c :: l, h, hy => by
    simp only [DataW.weightsAll, List.mem_append]
    rcases List.mem_cons.1 h with rfl | h
    · exact .inl hy
    · exact .inr (weightsAll_mem h hy)
theorem weights_elem {t e : TypeId} {elems sp : List (DataW H)} {d : DataW H} {y : Nat} (ht : P.underlying t = some (.slice e)) (hd : d ∈ elems) (hy : y ∈ d.weights P e) : y ∈ (DataW.slice elems sp).weights P t := by
  simp only [DataW.weights, ht, List.mem_cons, List.mem_append]
  exact .inr (.inl (weightsAll_mem hd hy))
theorem weights_len {t e : TypeId} {elems sp : List (DataW H)} (ht : P.underlying t = some (.slice e)) : (elems.length + sp.length) * P.bytesOf e ∈ (DataW.slice elems sp).weights P t := by
  simp [DataW.weights, ht]
theorem weights_field {t : TypeId} {fs : Array Field} {parts : List (DataW H)} {j : Nat} {f : Field} {d : DataW H} {y : Nat} (ht : P.underlying t = some (.struct fs)) (hf : fs[j]? = some f) (hd : parts[j]? = some d) (hy : y ∈ d.weights P f.type) : y ∈ (DataW.agg parts).weights P t := by
  simp only [DataW.weights, ht]
  exact DataW.weights_mem_each (by rw [List.getElem?_map]; simp [hf]) hd y hy

/-- All that a datum weighs is within reach. -/
def Reach (P : Program) (t : TypeId) (d : DataW H) : Prop := ∀ y ∈ d.weights P t, y ≤ reachBytes

/-- A struct of one-cell fields, opened field by field. -/
theorem open_fields {t : TypeId} {fs : Array Field} (ht : P.underlying t = some (.struct fs)) (hone : oneCellFields P fs = true) {fuel : Nat} {cs : List Value} {x : DataW H × List MemPlace} (hl : cs.length = fs.size) (h : DataW.trod enc P w base spare held fuel t cs = some x) :
    ∃ (n : Nat) (ys : List (DataW H × List MemPlace)), x.1 = .agg (ys.map (·.1)) ∧ ys.length = fs.size ∧ ∀ (j : Nat) (f : Field), fs[j]? = some f → ∃ u y, cs[j]? = some u ∧ ys[j]? = some y ∧ DataW.trod enc P w base spare held n f.type [u] = some y := by
  obtain ⟨ys, n', hn', hy, hlen, hyl, hf⟩ := DataW.trod_struct ht h
  refine ⟨n', ys, by rw [hy], hyl, fun j f hfj => ?_⟩
  have hjs : j < fs.size := (Array.getElem?_eq_some_iff.1 hfj).1
  obtain ⟨ho, hk1⟩ := hone_of hone j _ hfj
  have h1 := hf j _ hfj
  rw [ho, hk1] at h1
  have hjl : j < cs.length := by omega
  have hone' : (cs.drop j).take 1 = [cs[j]] := by
    rw [List.drop_eq_getElem_cons hjl]; rfl
  have hjy : j < ys.length := by omega
  rw [hone', List.getElem?_eq_getElem hjy] at h1
  exact ⟨cs[j], ys[j], List.getElem?_eq_getElem hjl, List.getElem?_eq_getElem hjy, h1⟩

/-- A slice opened, element by element, into a list of things; G is what is known of an element's datum. -/
theorem open_rows {α : Type} {en : α → List Value} {Q : α → Prop} {G : DataW H → Prop} {t e : TypeId} {n : Nat} (hn : ∀ a, (en a).length = n) (hpos : 0 < n) (hC : P.cellsOf e = n) (ht : P.underlying t = some (.slice e))
    (helem : ∀ (fuel : Nat) (cs : List Value) (x : DataW H × List MemPlace), cs.length = n → DataW.trod enc P w base spare held fuel e cs = some x → G x.1 → ∃ a, cs = en a ∧ Q a)
    {fuel : Nat} {cs : List Value} {x : DataW H × List MemPlace} (h : DataW.trod enc P w base spare held fuel t cs = some x) (hG : ∀ elems sp, x.1 = .slice elems sp → ∀ d ∈ elems, G d) :
    ∃ (A : Option Addr) (cap : Nat) (l : List α), cs = [.slice A l.length cap] ∧ Rd w A (l.flatMap en) ∧ (∀ a ∈ l, Q a) ∧ (l.length = 0 ∨ ∃ elems sp, x.1 = .slice elems sp ∧ elems.length = l.length) := by
  rcases open_slice ht h with ⟨h0, _⟩ | ⟨a, len, cap, m, k, D, Pl, hcs, hb, hl, hm, hmm, hx, hi⟩
  · exact ⟨none, 0, [], h0, .inl rfl, fun a ha => (by cases ha), .inl rfl⟩
  · have hlm : len ≤ m := by rw [hmm]; split <;> omega
    rw [hC] at hi
    have hx1 : x.1 = .slice ((List.range len).map D) ((List.range (m - len)).map fun j => D (len + j)) := by rw [hx]
    have each : ∀ i, i < len → ∃ y : α, (∀ j, j < n → w.cell? (a.add (i * n + j)) = (en y)[j]?) ∧ Q y := by
      intro i hil
      obtain ⟨cs', hc, ht'⟩ := hi i (by omega)
      obtain ⟨_, hcl, hat⟩ := World.cells?_some hc
      obtain ⟨y, rfl, hq⟩ := helem _ _ _ hcl ht' (hG _ _ hx1 _ (List.mem_map.2 ⟨i, List.mem_range.2 hil, rfl⟩))
      exact ⟨y, fun j hj => by rw [← hat j hj, Go.Deep.add_add], hq⟩
    rcases Nat.eq_zero_or_pos len with h0 | h0
    · subst h0
      exact ⟨some a, cap, [], by simpa using hcs, .inl rfl, fun a ha => (by cases ha), .inl rfl⟩
    · obtain ⟨y0, _⟩ := each 0 h0
      have : Inhabited α := ⟨y0⟩
      obtain ⟨f, hf⟩ := choose_lt (α := α) each
      refine ⟨some a, cap, (List.range len).map f, by simpa using hcs, ?_, ?_, .inr ⟨_, _, hx1, by simp⟩⟩
      · right
        obtain ⟨b, off, spot⟩ := a
        have hsp : spot = none := cells_none (a := ⟨b, off, spot⟩) (n := n) (cs := en (f 0)) hpos (fun j hj => by have := (hf 0 h0).1 j hj; simpa using this) (hn _)
        subst hsp
        have e0 := (hf 0 h0).1 0 hpos
        rw [List.getElem?_eq_getElem (by rw [hn]; exact hpos)] at e0
        refine ⟨b, off, rfl, by simpa [Addr.add] using World.block_lt_of_cell? _ _ e0, fun j u hu => ?_⟩
        have hjl : j < len * n := by
          have := (List.getElem?_eq_some_iff.1 hu).1
          rw [length_flatMap_const en n hn] at this
          simpa using this
        have hq : j / n < len := Nat.div_lt_of_lt_mul (by rw [Nat.mul_comm]; exact hjl)
        have hr : j % n < n := Nat.mod_lt _ hpos
        have e1 := getElem?_flatMap en n hn ((List.range len).map f) (j / n) (f (j / n)) (by simp [hq]) (j % n) hr
        rw [Nat.mul_comm, Nat.div_add_mod] at e1
        rw [e1] at hu
        have e2 := (hf (j / n) hq).1 (j % n) hr
        rw [hu, Nat.mul_comm, Nat.div_add_mod] at e2
        simpa [add_plain] using e2
      · intro y hy
        obtain ⟨i, hi', rfl⟩ := List.mem_map.1 hy
        exact (hf i (List.mem_range.1 hi')).2
end

end Go.Proofs.Ytemhoaapapeilaa
