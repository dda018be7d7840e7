/-
  What each step comes behind: the program's sets, plainly.
-/
import Derived.Test.YtemhoaapapeilaaTb12
namespace Go.Proofs.Ytemhoaapapeilaa
open Go.RowKit Go.Deep
set_option linter.unusedVariables false

abbrev ZMap := List (Int × Int)
theorem sub_lenG {α : Type} [DecidableEq α] : ∀ {a b : List α}, a.Nodup → (∀ x ∈ a, x ∈ b) → a.length ≤ b.length
  | [], b, _, _ => by simp
  | x :: a, b, hd, hs => by
    have hd2 := List.nodup_cons.1 hd
    have h1 := sub_lenG (a := a) (b := b.erase x) hd2.2 (fun y hy => (List.mem_erase_of_ne (fun (e : y = x) => hd2.1 (by rw [← e]; exact hy))).2 (hs y (by simp [hy])))
    have h2 := List.length_erase_of_mem (hs x (by simp))
    have h3 := List.length_pos_of_mem (hs x (by simp))
    simp; omega
/-- The set of step i, whole. -/
structure SetOk (G : List (List Nat)) (i : Nat) (mm : ZMap) : Prop where
  key : ∀ z : Int, z ∈ mm.map (·.1) ↔ ∃ k : Nat, z = (k : Int) ∧ Rch G i k
  pos : ∀ p ∈ mm, 1 ≤ p.2
  clean : Clean G i
theorem SetOk.len {G : List (List Nat)} {i : Nat} {mm : ZMap} (h : SetOk G i mm) (hs : Shut G) (hd : (mm.map (·.1)).Nodup) : mm.length ≤ G.length := by
  have h1 := sub_lenG (b := (List.range G.length).map fun k : Nat => (k : Int)) hd (fun z hz => by
    obtain ⟨k, rfl, hr⟩ := (h.key z).1 hz
    exact List.mem_map.2 ⟨k, List.mem_range.2 (hr.lt hs).2, rfl⟩)
  simpa using h1
/-- .. bs far bs those behind the first few; c bounds its counts. -/
structure SetIn (G : List (List Nat)) (bs : List Nat) (c : Int) (mm : ZMap) : Prop where
  key : ∀ z : Int, z ∈ mm.map (·.1) ↔ ∃ k : Nat, z = (k : Int) ∧ Part G bs k
  bd : ∀ p ∈ mm, 1 ≤ p.2 ∧ p.2 ≤ c
theorem SetIn.nil (G : List (List Nat)) : SetIn G [] 0 [] := ⟨fun z => ⟨fun h => (by cases h), fun ⟨k, _, h⟩ => (part_nil h).elim⟩, fun p h => (by cases h)⟩
theorem SetIn.all {G : List (List Nat)} {i : Nat} {c : Int} {mm : ZMap} (h : SetIn G (adj G i) c mm) (hc : ∀ j ∈ adj G i, Clean G j) : SetOk G i mm :=
  ⟨fun z => by rw [h.key]; exact ⟨fun ⟨k, e, p⟩ => ⟨k, e, part_all.1 p⟩, fun ⟨k, e, p⟩ => ⟨k, e, part_all.2 p⟩⟩, fun p hp => (h.bd p hp).1, clean_of hc⟩
/-- .. while the set behind step k0 is added. -/
structure SetAdd (G : List (List Nat)) (bs : List Nat) (k0 : Nat) (dn : ZMap) (c : Int) (mm : ZMap) : Prop where
  key : ∀ z : Int, z ∈ mm.map (·.1) ↔ (∃ k : Nat, z = (k : Int) ∧ Part G bs k) ∨ z = (k0 : Int) ∨ z ∈ dn.map (·.1)
  bd : ∀ p ∈ mm, 1 ≤ p.2 ∧ p.2 ≤ c + 1 + dn.length
theorem mset_key_iff {m : ZMap} {a b z : Int} : z ∈ (mset m a b).map (·.1) ↔ z = a ∨ z ∈ m.map (·.1) := by
  rw [mset_keys]
  split
  · rename_i h
    exact ⟨.inr, fun h' => h'.elim (fun e => e ▸ h) id⟩
  · rw [List.mem_append]
    simp only [List.mem_cons, List.not_mem_nil, or_false]
    exact Or.comm
theorem getD_bd {m : ZMap} {a lo hi : Int} (h : ∀ p ∈ m, lo ≤ p.2 ∧ p.2 ≤ hi) (hl : lo ≤ 1) (h0 : 0 ≤ hi) (hlo : 0 ≤ lo) : 0 ≤ (mget m a).getD 0 ∧ (mget m a).getD 0 ≤ hi := by
  cases e : mget m a with
  | none => exact ⟨Int.le_refl _, h0⟩
  | some b =>
    have := h _ (mget_mem e)
    simp only [Option.getD_some]
    simp only at this
    omega
theorem SetIn.start {G : List (List Nat)} {bs : List Nat} {c : Int} {mm : ZMap} (h : SetIn G bs c mm) (hc : 0 ≤ c) (k0 : Nat) : SetAdd G bs k0 [] c (mset mm (k0 : Int) ((mget mm (k0 : Int)).getD 0 + 1)) := by
  have hv := getD_bd (a := (k0 : Int)) h.bd (Int.le_refl _) hc (by omega)
  refine ⟨fun z => ?_, fun p hp => ?_⟩
  · rw [mset_key_iff, h.key]
    simp only [List.map_nil, List.not_mem_nil, or_false]
    exact Or.comm
  · simp only [List.length_nil]
    rcases mem_mset hp with rfl | ⟨hp, _⟩
    · simp only; omega
    · have := h.bd p hp; omega
theorem SetAdd.next {G : List (List Nat)} {bs : List Nat} {k0 : Nat} {dn : ZMap} {c : Int} {mm : ZMap} (h : SetAdd G bs k0 dn c mm) (hc : 0 ≤ c) (z v : Int) : SetAdd G bs k0 (dn ++ [(z, v)]) c (mset mm z ((mget mm z).getD 0 + 1)) := by
  have hv := getD_bd (a := z) h.bd (Int.le_refl _) (by omega) (by omega)
  refine ⟨fun y => ?_, fun p hp => ?_⟩
  · rw [mset_key_iff, h.key, List.map_append, List.mem_append]
    simp only [List.map_cons, List.map_nil, List.mem_cons, List.not_mem_nil, or_false]
    constructor
    · rintro (h | h | h | h)
      · exact .inr (.inr (.inr h))
      · exact .inl h
      · exact .inr (.inl h)
      · exact .inr (.inr (.inl h))
    · rintro (h | h | h | h)
      · exact .inr (.inl h)
      · exact .inr (.inr (.inl h))
      · exact .inr (.inr (.inr h))
      · exact .inl h
  · simp only [List.length_append, List.length_cons, List.length_nil]
    rcases mem_mset hp with rfl | ⟨hp, _⟩
    · simp only; omega
    · have := h.bd p hp; omega
theorem SetAdd.done {G : List (List Nat)} {bs : List Nat} {k0 : Nat} {dn mk : ZMap} {c n : Int} {mm : ZMap} (h : SetAdd G bs k0 dn c mm) (hp : dn.Perm mk) (hk : SetOk G k0 mk) (hn : (mk.length : Int) ≤ n) : SetIn G (bs ++ [k0]) (c + 1 + n) mm := by
  refine ⟨fun z => ?_, fun p hp2 => ?_⟩
  · rw [h.key]
    have hm : z ∈ dn.map (·.1) ↔ z ∈ mk.map (·.1) := (hp.map _).mem_iff
    rw [hm, hk.key]
    constructor
    · rintro (⟨k, e, p⟩ | e | ⟨k, e, p⟩)
      · exact ⟨k, e, part_snoc.2 (.inl p)⟩
      · exact ⟨k0, e, part_snoc.2 (.inr (.inl rfl))⟩
      · exact ⟨k, e, part_snoc.2 (.inr (.inr p))⟩
    · rintro ⟨k, e, p⟩
      rcases part_snoc.1 p with p | p | p
      · exact .inl ⟨k, e, p⟩
      · subst p; exact .inr (.inl e)
      · exact .inr (.inr ⟨k, e, p⟩)
  · have h1 := h.bd p hp2
    have h2 := hp.length_eq
    omega
/-! ### n cells, one a step -/
def rngC (n : Nat) (f : Nat → Value) : Array Value := (Array.range n).map f
theorem rngC_size (n : Nat) (f : Nat → Value) : (rngC n f).size = n := by simp [rngC]
theorem rngC_at {n i : Nat} (f : Nat → Value) (hi : i < n) : (rngC n f)[i]? = some (f i) := by
  unfold rngC
  rw [Array.getElem?_map, Array.getElem?_range, if_pos hi]
  rfl
theorem rngC_set {n i : Nat} (f : Nat → Value) (v : Value) (hi : i < n) : (rngC n f).setIfInBounds i v = rngC n (fun j => if j = i then v else f j) := by
  apply Array.ext
  · simp [rngC]
  · intro x h1 h2
    have hx : x < n := by rw [rngC_size] at h2; exact h2
    rw [Array.getElem_setIfInBounds (by rw [rngC_size]; exact hx)]
    simp only [rngC, Array.getElem_map, Array.getElem_range]
    by_cases e : i = x
    · rw [if_pos e, if_pos e.symm]
    · rw [if_neg e, if_neg (fun h => e h.symm)]
/-- How many are not open. -/
def shutN (n : Nat) (O : Nat → Bool) : Nat := ((List.range n).filter fun j => !O j).length
def opn (O : Nat → Bool) (i : Nat) : Nat → Bool := fun j => if j = i then true else O j
theorem shutN_lt {n i : Nat} {O : Nat → Bool} (hi : i < n) (h : O i = false) : shutN n (opn O i) < shutN n O := by
  unfold shutN
  refine filter_lt (a := i) (fun k _ hk => ?_) (List.mem_range.2 hi) (by simp [h]) (by simp [opn])
  simp only [opn] at hk
  by_cases e : k = i
  · simp [e] at hk
  · simpa [e] using hk
/-- What is known of the steps: where a set's map lies, and what it holds. -/
abbrev Sets := Nat → Option (Nat × ZMap)
def setV : Option (Nat × ZMap) → Value
  | none => .map none
  | some (g, _) => .map (some g)
def putS (S : Sets) (i g : Nat) (mm : ZMap) : Sets := fun j => if j = i then some (g, mm) else S j
theorem putS_at (S : Sets) (i g : Nat) (mm : ZMap) : putS S i g mm i = some (g, mm) := by simp [putS]
theorem setC_putS {n i g : Nat} {S : Sets} {mm : ZMap} (hi : i < n) : (rngC n fun j => setV (S j)).setIfInBounds i (.map (some g)) = rngC n fun j => setV (putS S i g mm j) := by
  rw [rngC_set _ _ hi]
  congr 1
  funext j
  unfold putS
  split <;> rfl
theorem opnC_set {n i : Nat} {O : Nat → Bool} (hi : i < n) (b : Bool) : (rngC n fun j => .bool (O j)).setIfInBounds i (.bool b) = rngC n fun j => .bool (if j = i then b else O j) := by
  rw [rngC_set _ _ hi]
  congr 1
  funext j
  split <;> rfl

end Go.Proofs.Ytemhoaapapeilaa
