/-
  Steps that wait for one another, plainly: what a step comes behind, cycles, an order in which each comes behind all that it waits for.
-/
import Derived.Test.YtemhoaapapeilaaBase
namespace Go.Proofs.Ytemhoaapapeilaa
set_option linter.unusedVariables false

/-- What node i waits for. -/
def adj (G : List (List Nat)) (i : Nat) : List Nat := G.getD i []
/-- Node i comes behind node k. -/
inductive Rch (G : List (List Nat)) : Nat → Nat → Prop where
  | one {i k : Nat} (h : k ∈ adj G i) : Rch G i k
  | step {i j k : Nat} (h : j ∈ adj G i) (r : Rch G j k) : Rch G i k
theorem Rch.trans {G : List (List Nat)} {i j k : Nat} (h : Rch G i j) (g : Rch G j k) : Rch G i k := by
  induction h with
  | one h => exact .step h g
  | step h _ ih => exact .step h (ih g)
def Acy (G : List (List Nat)) : Prop := ∀ i, ¬ Rch G i i
/-- All that is waited for is there. -/
def Shut (G : List (List Nat)) : Prop := ∀ i k, k ∈ adj G i → k < G.length
theorem adj_out {G : List (List Nat)} {i : Nat} (h : G.length ≤ i) : adj G i = [] := by unfold adj; rw [List.getD_eq_getElem?_getD, List.getElem?_eq_none h]; rfl
theorem Rch.lt {G : List (List Nat)} (hs : Shut G) {i k : Nat} (h : Rch G i k) : i < G.length ∧ k < G.length := by
  have hi : ∀ {i k : Nat}, k ∈ adj G i → i < G.length := fun {i k} hk => by
    by_cases hl : i < G.length
    · exact hl
    · rw [adj_out (by omega)] at hk; cases hk
  induction h with
  | one h => exact ⟨hi h, hs _ _ h⟩
  | step h _ ih => exact ⟨hi h, ih.2⟩
open Classical in
/-- How many nodes i comes behind. -/
noncomputable def cnt (G : List (List Nat)) (i : Nat) : Nat := ((List.range G.length).filter fun k => decide (Rch G i k)).length
theorem filter_lt {α : Type} {p q : α → Bool} : ∀ {l : List α}, (∀ x ∈ l, p x = true → q x = true) → ∀ {a : α}, a ∈ l → q a = true → p a = false → (l.filter p).length < (l.filter q).length
  | [], _, _, h, _, _ => by cases h
  | x :: l, hpq, a, ha, hq, hp => by
    have hle : (l.filter p).length ≤ (l.filter q).length := by
      clear ha
      induction l with
      | nil => simp
      | cons y l ih =>
        have h1 := ih (fun z hz => hpq z (by
          rcases List.mem_cons.1 hz with h | h
          · exact h ▸ List.mem_cons_self ..
          · exact List.mem_cons_of_mem _ (List.mem_cons_of_mem _ h)))
        have h2 := hpq y (by simp)
        cases hpy : p y with
        | true => rw [List.filter_cons_of_pos hpy, List.filter_cons_of_pos (h2 hpy)]; simp; omega
        | false =>
          rw [List.filter_cons_of_neg (by rw [hpy]; simp)]
          cases hqy : q y with
          | true => rw [List.filter_cons_of_pos hqy]; simp; omega
          | false => rw [List.filter_cons_of_neg (by rw [hqy]; simp)]; exact h1
    rcases List.mem_cons.1 ha with rfl | ha'
    · rw [List.filter_cons_of_neg (by rw [hp]; simp), List.filter_cons_of_pos hq]
      simp; omega
    · have ih := filter_lt (fun z hz => hpq z (List.mem_cons_of_mem _ hz)) ha' hq hp
      cases hpx : p x with
      | true => rw [List.filter_cons_of_pos hpx, List.filter_cons_of_pos (hpq x (by simp) hpx)]; simp; omega
      | false =>
        rw [List.filter_cons_of_neg (by rw [hpx]; simp)]
        cases hqx : q x with
        | true => rw [List.filter_cons_of_pos hqx]; simp; omega
        | false => rw [List.filter_cons_of_neg (by rw [hqx]; simp)]; exact ih
theorem cnt_lt {G : List (List Nat)} (ha : Acy G) (hs : Shut G) {i j : Nat} (h : j ∈ adj G i) : cnt G j < cnt G i := by
  unfold cnt
  refine filter_lt (a := j) (fun k _ hk => ?_) (List.mem_range.2 (hs i j h)) ?_ ?_
  · simp only [decide_eq_true_eq] at hk ⊢
    exact .step h hk
  · simp only [decide_eq_true_eq]
    exact .one h
  · simp only [decide_eq_false_iff_not]
    exact ha j
/-- May node i come next? -/
def readyN (G : List (List Nat)) (done : List Nat) (i : Nat) : Bool := !(done.contains i) && (adj G i).all fun k => done.contains k
theorem readyN_iff {G : List (List Nat)} {done : List Nat} {i : Nat} : readyN G done i = true ↔ i ∉ done ∧ ∀ k ∈ adj G i, k ∈ done := by
  unfold readyN
  simp
/-- As long as one is left, one may come next. -/
theorem ready_some {G : List (List Nat)} (ha : Acy G) (hs : Shut G) {done : List Nat} {i : Nat} (hi : i < G.length) (hd : i ∉ done) : ∃ j, j < G.length ∧ readyN G done j = true := by
  generalize hn : cnt G i = n
  induction n using Nat.strongRecOn generalizing i with
  | ind n ih =>
    by_cases h : ∀ k ∈ adj G i, k ∈ done
    · exact ⟨i, hi, readyN_iff.2 ⟨hd, h⟩⟩
    · have : ∃ k ∈ adj G i, k ∉ done := by
        by_cases e : ∃ k ∈ adj G i, k ∉ done
        · exact e
        · exact absurd (fun k hk => by
            by_cases hkd : k ∈ done
            · exact hkd
            · exact absurd ⟨k, hk, hkd⟩ e) h
      obtain ⟨k, hk, hkd⟩ := this
      exact ih _ (by have := cnt_lt ha hs hk; omega) (hs i k hk) hkd rfl
/-- Which comes next. -/
def nextN (G : List (List Nat)) (done : List Nat) : Option Nat := (List.range G.length).find? (readyN G done)
theorem nextN_some {G : List (List Nat)} {done : List Nat} {i : Nat} (h : nextN G done = some i) : i < G.length ∧ i ∉ done ∧ (∀ k ∈ adj G i, k ∈ done) ∧ ∀ j, j < i → readyN G done j = false := by
  unfold nextN at h
  have h1 := List.find?_some h
  have h2 := List.mem_of_find?_eq_some h
  refine ⟨List.mem_range.1 h2, (readyN_iff.1 h1).1, (readyN_iff.1 h1).2, fun j hj => ?_⟩
  rw [List.find?_eq_some_iff_append] at h
  obtain ⟨_, us, bs, e, hall⟩ := h
  have hlen : us.length = i := by
    have h3 : (List.range G.length)[us.length]? = some i := by rw [e]; simp
    rw [List.getElem?_range (by
      have := congrArg List.length e
      simp at this
      omega)] at h3
    injection h3
  have hj2 : j ∈ us := by
    have h4 : (List.range G.length)[j]? = some j := List.getElem?_range (by have := List.mem_range.1 h2; omega)
    rw [e, List.getElem?_append_left (by omega)] at h4
    exact List.mem_of_getElem? h4
  have := hall j hj2
  simpa using this
theorem nextN_none {G : List (List Nat)} {done : List Nat} (h : nextN G done = none) : ∀ i, i < G.length → readyN G done i = false := by
  intro i hi
  unfold nextN at h
  rw [List.find?_eq_none] at h
  have := h i (List.mem_range.2 hi)
  simpa using this
/-- The order as far as k steps. -/
def ordN (G : List (List Nat)) : Nat → List Nat
  | 0 => []
  | k + 1 => match nextN G (ordN G k) with
    | some i => ordN G k ++ [i]
    | none => ordN G k
structure OrdOk (G : List (List Nat)) (l : List Nat) : Prop where
  nodup : l.Nodup
  lt : ∀ i ∈ l, i < G.length
  before : ∀ (p : Nat) (i : Nat), l[p]? = some i → ∀ k ∈ adj G i, k ∈ l.take p
theorem OrdOk.nil (G : List (List Nat)) : OrdOk G [] := ⟨List.nodup_nil, fun i h => (by cases h), fun p i h => (by simp at h)⟩
theorem OrdOk.next {G : List (List Nat)} {l : List Nat} (h : OrdOk G l) {i : Nat} (hn : nextN G l = some i) : OrdOk G (l ++ [i]) := by
  obtain ⟨h1, h2, h3, _⟩ := nextN_some hn
  refine ⟨List.nodup_append.2 ⟨h.nodup, by simp, fun a ha b hb e => ?_⟩, fun j hj => ?_, fun p j hp k hk => ?_⟩
  · simp at hb
    subst hb
    exact h2 (e ▸ ha)
  · rcases List.mem_append.1 hj with hj | hj
    · exact h.lt j hj
    · simp at hj; subst hj; exact h1
  · by_cases hpl : p < l.length
    · rw [List.getElem?_append_left hpl] at hp
      have := h.before p j hp k hk
      rw [List.take_append_of_le_length (by omega)]
      exact this
    · have hpe : p = l.length := by
        have := (List.getElem?_eq_some_iff.1 hp).1
        simp at this
        omega
      subst hpe
      rw [List.getElem?_append_right (Nat.le_refl _)] at hp
      simp at hp
      subst hp
      rw [List.take_append_of_le_length (Nat.le_refl _), List.take_length]
      exact h3 k hk
theorem ordN_ok (G : List (List Nat)) : ∀ k, OrdOk G (ordN G k)
  | 0 => OrdOk.nil G
  | k + 1 => by
    unfold ordN
    cases h : nextN G (ordN G k) with
    | none => exact ordN_ok G k
    | some i => exact (ordN_ok G k).next h
theorem nodup_lt_length {l : List Nat} {n : Nat} (hd : l.Nodup) (hl : ∀ i ∈ l, i < n) : l.length ≤ n := by
  induction n generalizing l with
  | zero =>
    cases l with
    | nil => simp
    | cons a l => have := hl a (by simp); omega
  | succ n ih =>
    have h1 := ih (l := l.filter (fun i => decide (i ≠ n))) (hd.sublist (List.filter_sublist)) (fun i hi => by
      have h2 := List.mem_filter.1 hi
      have h3 := hl i h2.1
      have h4 := h2.2
      simp at h4
      omega)
    have h2 : l.length ≤ (l.filter (fun i => decide (i ≠ n))).length + 1 := by
      clear ih hl h1
      induction l with
      | nil => simp
      | cons a l ih =>
        have hd2 := List.nodup_cons.1 hd
        by_cases e : a = n
        · subst e
          rw [List.filter_cons_of_neg (by simp)]
          have : l.filter (fun i => decide (i ≠ a)) = l := List.filter_eq_self.2 (fun i hi => by
            simp only [ne_eq, decide_not, Bool.not_eq_true', decide_eq_false_iff_not]
            intro e; subst e; exact hd2.1 hi)
          rw [this]; simp
        · rw [List.filter_cons_of_pos (by simp [e])]
          have := ih hd2.2
          rw [List.length_cons, List.length_cons]
          omega
    omega
theorem sub_len : ∀ {a b : List Nat}, a.Nodup → (∀ x ∈ a, x ∈ b) → a.length ≤ b.length
  | [], b, _, _ => by simp
  | x :: a, b, hd, hs => by
    have hd2 := List.nodup_cons.1 hd
    have h1 := sub_len (a := a) (b := b.erase x) hd2.2 (fun y hy => (List.mem_erase_of_ne (fun (e : y = x) => hd2.1 (by rw [← e]; exact hy))).2 (hs y (by simp [hy])))
    have h2 := List.length_erase_of_mem (hs x (by simp))
    have h3 := List.length_pos_of_mem (hs x (by simp))
    simp; omega
theorem ordN_len {G : List (List Nat)} (ha : Acy G) (hs : Shut G) : ∀ k, k ≤ G.length → (ordN G k).length = k
  | 0, _ => rfl
  | k + 1, hk => by
    have ih := ordN_len ha hs k (by omega)
    unfold ordN
    cases h : nextN G (ordN G k) with
    | some i => simp [ih]
    | none =>
      exfalso
      have : ∃ i, i < G.length ∧ i ∉ ordN G k := by
        by_cases e : ∃ i, i < G.length ∧ i ∉ ordN G k
        · exact e
        · exfalso
          have hall : ∀ i, i < G.length → i ∈ ordN G k := fun i hi => by
            by_cases hm : i ∈ ordN G k
            · exact hm
            · exact absurd ⟨i, hi, hm⟩ e
          have h2 : (List.range G.length).length ≤ (ordN G k).length := sub_len List.nodup_range (fun i hi => hall i (List.mem_range.1 hi))
          rw [List.length_range, ih] at h2
          omega
      obtain ⟨i, hi, hd⟩ := this
      obtain ⟨j, hj, hr⟩ := ready_some ha hs hi hd
      rw [nextN_none h j hj] at hr
      cases hr

/-! ### What a step comes behind, found step by step -/
theorem rch_iff {G : List (List Nat)} {i k : Nat} : Rch G i k ↔ ∃ j ∈ adj G i, k = j ∨ Rch G j k := by
  constructor
  · intro h
    cases h with
    | one h => exact ⟨k, h, .inl rfl⟩
    | step h r => exact ⟨_, h, .inr r⟩
  · rintro ⟨j, hj, rfl | h⟩
    · exact .one hj
    · exact .step hj h
/-- Nothing behind i comes behind itself. -/
def Clean (G : List (List Nat)) (i : Nat) : Prop := ∀ j, (j = i ∨ Rch G i j) → ¬ Rch G j j
theorem clean_of {G : List (List Nat)} {i : Nat} (h : ∀ j ∈ adj G i, Clean G j) : Clean G i := by
  have hi : ¬ Rch G i i := fun hr => by
    obtain ⟨j, hj, e | hji⟩ := rch_iff.1 hr
    · subst e
      exact h i hj i (.inl rfl) hr
    · exact h j hj j (.inl rfl) (hji.trans (.one hj))
  rintro j (rfl | hr)
  · exact hi
  · obtain ⟨c, hc, e⟩ := rch_iff.1 hr
    exact h c hc j e
theorem acy_of {G : List (List Nat)} (hs : Shut G) (h : ∀ i, i < G.length → Clean G i) : Acy G := fun i hr => h i (hr.lt hs).1 i (.inl rfl) hr
/-- What is known behind the first p of those that a step waits for. -/
def Part (G : List (List Nat)) (l : List Nat) (k : Nat) : Prop := ∃ j ∈ l, k = j ∨ Rch G j k
theorem part_nil {G : List (List Nat)} {k : Nat} : ¬ Part G [] k := fun ⟨j, hj, _⟩ => (by cases hj)
theorem part_snoc {G : List (List Nat)} {l : List Nat} {j k : Nat} : Part G (l ++ [j]) k ↔ Part G l k ∨ k = j ∨ Rch G j k := by
  unfold Part
  constructor
  · rintro ⟨c, hc, h⟩
    rcases List.mem_append.1 hc with hc | hc
    · exact .inl ⟨c, hc, h⟩
    · simp at hc; subst hc; exact .inr h
  · rintro (⟨c, hc, h⟩ | h)
    · exact ⟨c, List.mem_append_left _ hc, h⟩
    · exact ⟨j, List.mem_append_right _ (by simp), h⟩
theorem part_all {G : List (List Nat)} {i k : Nat} : Part G (adj G i) k ↔ Rch G i k := rch_iff.symm

/-! ### The table of the document -/
/-- A way from i to k whose inner nodes are below m. -/
inductive Pth (G : List (List Nat)) (m : Nat) : Nat → Nat → Prop where
  | one {i k : Nat} (h : k ∈ adj G i) : Pth G m i k
  | step {i j k : Nat} (h : j ∈ adj G i) (hj : j < m) (r : Pth G m j k) : Pth G m i k
theorem Pth.rch {G : List (List Nat)} {m i k : Nat} (h : Pth G m i k) : Rch G i k := by
  induction h with
  | one h => exact .one h
  | step h _ _ ih => exact .step h ih
theorem pth_all {G : List (List Nat)} (hs : Shut G) {i k : Nat} (h : Rch G i k) : Pth G G.length i k := by
  induction h with
  | one h => exact .one h
  | step h _ ih => exact .step h (hs _ _ h) ih
theorem pth_zero {G : List (List Nat)} {i k : Nat} : Pth G 0 i k ↔ k ∈ adj G i := by
  constructor
  · intro h
    cases h with
    | one h => exact h
    | step h hj _ => omega
  · exact .one
theorem pth_succ {G : List (List Nat)} {m i k : Nat} (h : Pth G (m + 1) i k) : Pth G m i k ∨ (Pth G m i m ∧ Pth G m m k) := by
  induction h with
  | one h => exact .inl (.one h)
  | @step i j k h hj _ ih =>
    by_cases e : j = m
    · subst e
      rcases ih with ih | ⟨_, ih⟩
      · exact .inr ⟨.one h, ih⟩
      · exact .inr ⟨.one h, ih⟩
    · have hj' : j < m := by omega
      rcases ih with ih | ⟨ih1, ih2⟩
      · exact .inl (.step h hj' ih)
      · exact .inr ⟨.step h hj' ih1, ih2⟩
/-- The table between the first and the last round. -/
structure Tab (G : List (List Nat)) (m : Nat) (T : Nat → Nat → Bool) : Prop where
  sound : ∀ i k, i < G.length → k < G.length → T i k = true → Rch G i k
  all : ∀ i k, i < G.length → k < G.length → Pth G m i k → T i k = true
theorem Tab.done {G : List (List Nat)} {T : Nat → Nat → Bool} (h : Tab G G.length T) (hs : Shut G) {i k : Nat} (hi : i < G.length) (hk : k < G.length) : T i k = true ↔ Rch G i k :=
  ⟨h.sound i k hi hk, fun hr => h.all i k hi hk (pth_all hs hr)⟩
/-- The table as far as row i, column k of round m. -/
structure TabIn (G : List (List Nat)) (m i k : Nat) (T : Nat → Nat → Bool) : Prop where
  tab : Tab G m T
  past : ∀ a b, a < G.length → b < G.length → (a < i ∨ a = i ∧ b < k) → Pth G (m + 1) a b → T a b = true
theorem TabIn.start {G : List (List Nat)} {m : Nat} {T : Nat → Nat → Bool} (h : Tab G m T) : TabIn G m 0 0 T := ⟨h, fun a b _ _ hh => by omega⟩
theorem TabIn.row {G : List (List Nat)} {m i : Nat} {T : Nat → Nat → Bool} (h : TabIn G m i G.length T) : TabIn G m (i + 1) 0 T := ⟨h.tab, fun a b ha hb hh => h.past a b ha hb (by omega)⟩
theorem TabIn.round {G : List (List Nat)} {m : Nat} {T : Nat → Nat → Bool} (h : TabIn G m G.length 0 T) : Tab G (m + 1) T := ⟨h.tab.sound, fun a b ha hb => h.past a b ha hb (.inl ha)⟩
def putT (T : Nat → Nat → Bool) (i k : Nat) : Nat → Nat → Bool := fun a b => if a = i ∧ b = k then true else T a b
theorem TabIn.cell {G : List (List Nat)} {m i k : Nat} {T : Nat → Nat → Bool} (h : TabIn G m i k T) (hm : m < G.length) (hi : i < G.length) (hk : k < G.length) : TabIn G m i (k + 1) (if (T i m && T m k) = true then putT T i k else T) := by
  have hle : ∀ a b, T a b = true → (if (T i m && T m k) = true then putT T i k else T) a b = true := fun a b e => by
    split
    · unfold putT; split
      · rfl
      · exact e
    · exact e
  refine ⟨⟨fun a b ha hb e => ?_, fun a b ha hb e => hle a b (h.tab.all a b ha hb e)⟩, fun a b ha hb hh e => ?_⟩
  · split at e
    · rename_i hc
      unfold putT at e
      split at e
      · rename_i hab
        obtain ⟨rfl, rfl⟩ := hab
        obtain ⟨c1, c2⟩ := (Bool.and_eq_true _ _).mp hc
        exact (h.tab.sound _ _ hi hm c1).trans (h.tab.sound _ _ hm hk c2)
      · exact h.tab.sound a b ha hb e
    · exact h.tab.sound a b ha hb e
  · by_cases hn : a < i ∨ a = i ∧ b < k
    · exact hle a b (h.past a b ha hb hn e)
    · obtain ⟨rfl, rfl⟩ : a = i ∧ b = k := by omega
      rcases pth_succ e with e | ⟨e1, e2⟩
      · exact hle a b (h.tab.all a b ha hb e)
      · rw [if_pos (by rw [h.tab.all _ _ ha hm e1, h.tab.all _ _ hm hb e2]; rfl)]
        simp [putT]

end Go.Proofs.Ytemhoaapapeilaa
