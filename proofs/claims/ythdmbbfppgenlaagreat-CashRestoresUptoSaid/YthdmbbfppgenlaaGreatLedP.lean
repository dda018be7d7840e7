/-
  Plain facts of the ledger: sums by customer and account as a function of places (kept apart from the program).
-/
import Derived.Test.YthdmbbfppgenlaaGreatSortedK
namespace Go.Proofs.YthdmbbfppgenlaaGreat
set_option linter.unusedVariables false

/-- An entry. -/
structure En where
  a : Int
  n : Int
deriving DecidableEq
instance : Inhabited En := ⟨⟨0, 0⟩⟩
/-- What a customer has on an account. -/
structure Sm where
  c : Int
  a : Int
  n : Int
deriving DecidableEq
instance : Inhabited Sm := ⟨⟨0, 0, 0⟩⟩
abbrev LMap := List ((Int × Int) × Int)
abbrev Fn := Int × Int → Int

/-! ### Sums -/
theorem sum_map_add {α : Type} (f g : α → Int) (l : List α) : (l.map fun x => f x + g x).sum = (l.map f).sum + (l.map g).sum := by
  induction l with
  | nil => rfl
  | cons x l ih => simp only [List.map_cons, List.sum_cons, ih]; omega
theorem sum_map_zero {α : Type} (f : α → Int) (l : List α) (h : ∀ x ∈ l, f x = 0) : (l.map f).sum = 0 := by
  induction l with
  | nil => rfl
  | cons x l ih => rw [List.map_cons, List.sum_cons, h x (by simp), ih (fun y hy => h y (by simp [hy]))]; rfl
theorem sum_map_le {α : Type} (f g : α → Int) (l : List α) (h : ∀ x ∈ l, f x ≤ g x) : (l.map f).sum ≤ (l.map g).sum := by
  induction l with
  | nil => exact Int.le_refl _
  | cons x l ih => simp only [List.map_cons, List.sum_cons]; have := h x (by simp); have := ih (fun y hy => h y (by simp [hy])); omega
theorem sum_map_congr {α : Type} {f g : α → Int} {l : List α} (h : ∀ x ∈ l, f x = g x) : (l.map f).sum = (l.map g).sum := by
  rw [List.map_congr_left h]
theorem sum_swap {α β : Type} (g : α → β → Int) (l : List α) (s : List β) : (l.map fun x => (s.map fun y => g x y).sum).sum = (s.map fun y => (l.map fun x => g x y).sum).sum := by
  induction l with
  | nil => simp only [List.map_nil, List.sum_nil]; exact (sum_map_zero _ _ (fun _ _ => rfl)).symm
  | cons x l ih => simp only [List.map_cons, List.sum_cons, ih, sum_map_add]
theorem sum_ite_nodup {α : Type} [DecidableEq α] (q : α) (v : Int) : ∀ {S : List α}, S.Nodup → (S.map fun p => if p = q then v else 0).sum = if q ∈ S then v else 0
  | [], _ => by simp
  | p :: S, h => by
    rw [List.nodup_cons] at h
    rw [List.map_cons, List.sum_cons, sum_ite_nodup q v h.2]
    by_cases e : p = q
    · subst e
      simp [h.1]
    · have e' : ¬ q = p := fun x => e x.symm
      simp [e, e']
theorem sum_nonneg_sub {α : Type} (f : α → Int) (l : List α) (h : ∀ x ∈ l, 0 ≤ f x) : 0 ≤ (l.map f).sum := by
  have := sum_map_le (fun _ => 0) f l h
  rw [sum_map_zero (fun _ => 0) l (fun _ _ => rfl)] at this
  exact this

/-! ### Postings -/
def pos (x : Int) : Int := if 0 < x then x else 0
def sumE (es : List En) : Int := (es.map (·.n)).sum
def debs (es : List En) : Int := (es.map fun x => pos x.n).sum
def okE (x : En) : Bool := decide (0 ≤ x.a) && decide (x.a < 6) && decide (x.n ≠ 0) && decide (x.n ≤ 1125899906842624) && decide (-1125899906842624 ≤ x.n)
theorem okE_iff (x : En) : okE x = true ↔ 0 ≤ x.a ∧ x.a < 6 ∧ x.n ≠ 0 ∧ x.n ≤ 1125899906842624 ∧ -1125899906842624 ≤ x.n := by
  unfold okE
  simp only [Bool.and_eq_true, decide_eq_true_eq]
  exact ⟨fun h => ⟨h.1.1.1.1, h.1.1.1.2, h.1.1.2, h.1.2, h.2⟩, fun h => ⟨⟨⟨⟨h.1, h.2.1⟩, h.2.2.1⟩, h.2.2.2.1⟩, h.2.2.2.2⟩⟩
/-- The code of a posting. -/
def postC (d c : Int) (es : List En) : Int :=
  if 1 ≤ c ∧ c ≤ 64 ∧ es ≠ [] ∧ es.length ≤ 8 ∧ es.all okE = true then (if sumE es ≠ 0 then 160 else if 1152921504606846976 - debs es < d then 72 else 0) else 2
theorem debs_nonneg (es : List En) : 0 ≤ debs es := sum_nonneg_sub _ _ (fun x _ => by unfold pos; split <;> omega)
theorem sumE_bd {es : List En} (h : ∀ x ∈ es, okE x = true) : -(1125899906842624 * (es.length : Int)) ≤ sumE es ∧ sumE es ≤ 1125899906842624 * (es.length : Int) ∧ debs es ≤ 1125899906842624 * (es.length : Int) := by
  unfold sumE debs
  induction es with
  | nil => simp
  | cons x es ih =>
    have h0 := (okE_iff x).1 (h x (by simp))
    have := ih (fun y hy => h y (by simp [hy]))
    simp only [List.map_cons, List.sum_cons, List.length_cons]
    have hp : pos x.n ≤ 1125899906842624 := by unfold pos; split <;> omega
    omega

def updF (f : Fn) (p : Int × Int) (x : Int) : Fn := fun q => if q = p then f q + x else f q
def addF (f : Fn) (c : Int) (es : List En) : Fn := es.foldl (fun f x => updF f (c, x.a) x.n) f
theorem addF_nil (f : Fn) (c : Int) : addF f c [] = f := rfl
theorem addF_snoc (f : Fn) (c : Int) (es : List En) (x : En) : addF f c (es ++ [x]) = updF (addF f c es) (c, x.a) x.n := by unfold addF; rw [List.foldl_append]; rfl
theorem addF_apply (f : Fn) (c : Int) (es : List En) (p : Int × Int) : addF f c es p = f p + (es.map fun x => if p = (c, x.a) then x.n else 0).sum := by
  unfold addF
  induction es generalizing f with
  | nil => simp
  | cons x es ih =>
    rw [List.foldl_cons, ih, List.map_cons, List.sum_cons]
    unfold updF
    split <;> omega
/-- What a posting adds to a set of places. -/
theorem addF_sum (f : Fn) (c : Int) (es : List En) {S : List (Int × Int)} (hS : S.Nodup) : (S.map (addF f c es)).sum = (S.map f).sum + (es.map fun x => if (c, x.a) ∈ S then x.n else 0).sum := by
  rw [sum_map_congr (fun p _ => addF_apply f c es p), sum_map_add, sum_swap]
  congr 1
  refine sum_map_congr (fun x _ => ?_)
  rw [sum_ite_nodup (c, x.a) x.n hS]
  by_cases h : (c, x.a) ∈ S <;> simp [h]

/-- What holds of a ledger at all times. -/
structure LInv (f : Fn) (d : Int) : Prop where
  d0 : 0 ≤ d
  d1 : d ≤ 1152921504606846976
  sup : ∀ p, f p ≠ 0 → 1 ≤ p.1 ∧ p.1 ≤ 64 ∧ 0 ≤ p.2 ∧ p.2 < 6
  bd : ∀ S : List (Int × Int), S.Nodup → -d ≤ (S.map f).sum ∧ (S.map f).sum ≤ d
  zero : ∀ c : Int, ((List.range 6).map fun a : Nat => f (c, (a : Int))).sum = 0

theorem LInv.one {f : Fn} {d : Int} (h : LInv f d) (p : Int × Int) : -d ≤ f p ∧ f p ≤ d := by
  have := h.bd [p] (by simp)
  simpa using this
def f0 : Fn := fun _ => 0
theorem LInv.init : LInv f0 0 := ⟨by omega, by omega, fun p h => absurd rfl h, fun S _ => by rw [sum_map_zero f0 S (fun _ _ => rfl)]; omega, fun c => sum_map_zero _ _ (fun _ _ => rfl)⟩

theorem postC_zero {d c : Int} {es : List En} (h : postC d c es = 0) : 1 ≤ c ∧ c ≤ 64 ∧ es ≠ [] ∧ es.length ≤ 8 ∧ (∀ x ∈ es, okE x = true) ∧ sumE es = 0 ∧ d ≤ 1152921504606846976 - debs es := by
  unfold postC at h
  split at h
  · rename_i hc
    split at h
    · omega
    · rename_i hs
      split at h
      · omega
      · rename_i hd
        exact ⟨hc.1, hc.2.1, hc.2.2.1, hc.2.2.2.1, List.all_eq_true.1 hc.2.2.2.2, by omega, by omega⟩
  · omega

theorem debs_split (es : List En) (P : En → Prop) [DecidablePred P] : (es.map fun x => if P x then x.n else 0).sum ≤ debs es ∧ -(debs es - sumE es) ≤ (es.map fun x => if P x then x.n else 0).sum := by
  unfold debs sumE
  induction es with
  | nil => simp
  | cons x es ih =>
    simp only [List.map_cons, List.sum_cons]
    unfold pos at ih ⊢
    split <;> split <;> omega

theorem LInv.post {f : Fn} {d c : Int} {es : List En} (h : LInv f d) (hp : postC d c es = 0) : LInv (addF f c es) (d + debs es) := by
  obtain ⟨h1, h2, h3, h4, h5, h6, h7⟩ := postC_zero hp
  have h0 := debs_nonneg es
  refine ⟨by have := h.d0; omega, by omega, ?_, ?_, ?_⟩
  · intro p hne
    by_cases e : f p = 0
    · rw [addF_apply, e] at hne
      have : ∃ x ∈ es, p = (c, x.a) := by
        refine Classical.byContradiction fun hn => hne ?_
        rw [sum_map_zero]
        · rfl
        · intro x hx
          rw [if_neg (fun e => hn ⟨x, hx, e⟩)]
      obtain ⟨x, hx, rfl⟩ := this
      have := (okE_iff x).1 (h5 x hx)
      exact ⟨h1, h2, this.1, this.2.1⟩
    · exact h.sup p e
  · intro S hS
    rw [addF_sum f c es hS]
    have := h.bd S hS
    have := debs_split es (fun x => (c, x.a) ∈ S)
    omega
  · intro c'
    have e1 : ((List.range 6).map fun a : Nat => addF f c es (c', (a : Int))) = (((List.range 6).map fun a : Nat => (c', (a : Int))).map (addF f c es)) := by rw [List.map_map]; rfl
    have hn : ((List.range 6).map fun a : Nat => (c', (a : Int))).Nodup := by
      rw [List.nodup_iff_pairwise_ne, List.pairwise_map]
      refine List.Pairwise.imp ?_ List.nodup_range
      intro a b hab e
      simp only [Prod.mk.injEq, true_and] at e
      omega
    rw [e1, addF_sum f c es hn, List.map_map]
    have e2 := h.zero c'
    rw [show ((List.range 6).map (f ∘ fun a : Nat => (c', (a : Int)))) = ((List.range 6).map fun a : Nat => f (c', (a : Int))) from rfl, e2]
    by_cases hc : c = c'
    · subst hc
      rw [sum_map_congr (g := (·.n)) (fun x hx => by
        have := (okE_iff x).1 (h5 x hx)
        rw [if_pos (List.mem_map.2 ⟨x.a.toNat, List.mem_range.2 (by omega), by rw [Prod.mk.injEq]; exact ⟨rfl, by omega⟩⟩)])]
      have : (es.map (·.n)).sum = 0 := h6
      omega
    · rw [sum_map_zero]
      · rfl
      · intro x _
        rw [if_neg (fun hm => by
          obtain ⟨a, _, ha⟩ := List.mem_map.1 hm
          simp only [Prod.mk.injEq] at ha
          exact hc ha.1.symm)]

/-! ### The map -/
/-- A map that holds what isn't 0. -/
def Led (m : LMap) (f : Fn) : Prop := ∀ p, mget m p = if f p = 0 then none else some (f p)
theorem Led.nil : Led [] f0 := fun _ => rfl
theorem Led.getD {m : LMap} {f : Fn} (h : Led m f) (p : Int × Int) : (mget m p).getD 0 = f p := by
  rw [h p]
  split
  · rename_i e; exact e.symm
  · rfl
theorem Led.put {m : LMap} {f : Fn} (h : Led m f) (p : Int × Int) (x : Int) (hn : f p + x ≠ 0) : Led (mset m p (f p + x)) (updF f p x) := by
  intro q
  rw [mget_mset]
  unfold updF
  by_cases e : q = p
  · subst e
    simp [hn]
  · simp only [e, if_false]
    exact h q
theorem Led.cut {m : LMap} {f : Fn} (h : Led m f) (p : Int × Int) (x v : Int) (hn : f p + x = 0) : Led (mdel (mset m p v) p) (updF f p x) := by
  intro q
  rw [mget_mdel, mget_mset]
  unfold updF
  by_cases e : q = p
  · subst e
    simp [hn]
  · simp only [e, if_false]
    exact h q

/-! ### The sums in order -/
def keyS (s : Sm) : Int × Int := (s.c, s.a)
def ltS (p q : Int × Int) : Bool := decide (p.1 < q.1 ∨ (p.1 = q.1 ∧ p.2 < q.2))
theorem ltS_iff (p q : Int × Int) : ltS p q = true ↔ p.1 < q.1 ∨ (p.1 = q.1 ∧ p.2 < q.2) := by unfold ltS; rw [decide_eq_true_eq]
theorem ltS_no {p q : Int × Int} (h : ltS p q = false) : ¬ (p.1 < q.1 ∨ (p.1 = q.1 ∧ p.2 < q.2)) := fun e => by rw [(ltS_iff p q).2 e] at h; cases h
theorem linS : LinK ltS where
  irrefl a := by
    cases h : ltS a a with
    | false => rfl
    | true => have := (ltS_iff a a).1 h; omega
  trans a b c h g := by rw [ltS_iff] at *; omega
  total a b h g := by
    have h' := ltS_no h
    have g' := ltS_no g
    exact Prod.ext (by omega) (by omega)
def rowC (f : Fn) (c : Int) (j : Nat) : List Sm := (List.range j).flatMap fun a : Nat => if f (c, (a : Int)) = 0 then [] else [⟨c, a, f (c, (a : Int))⟩]
def canonTo (f : Fn) (k : Nat) : List Sm := (List.range k).flatMap fun c : Nat => rowC f ((c : Int) + 1) 6
def canon (f : Fn) : List Sm := canonTo f 64
theorem rowC_succ (f : Fn) (c : Int) (j : Nat) : rowC f c (j + 1) = rowC f c j ++ (if f (c, (j : Int)) = 0 then [] else [⟨c, j, f (c, (j : Int))⟩]) := by
  unfold rowC
  rw [List.range_succ, List.flatMap_append]
  simp
theorem canonTo_succ (f : Fn) (k : Nat) : canonTo f (k + 1) = canonTo f k ++ rowC f ((k : Int) + 1) 6 := by
  unfold canonTo
  rw [List.range_succ, List.flatMap_append]
  simp
theorem rowC_le (f : Fn) (c : Int) (j : Nat) : (rowC f c j).length ≤ j := by
  induction j with
  | zero => simp [rowC]
  | succ j ih => rw [rowC_succ, List.length_append]; split <;> simp <;> omega
theorem canonTo_le (f : Fn) (k : Nat) : (canonTo f k).length ≤ k * 6 := by
  induction k with
  | zero => simp [canonTo]
  | succ k ih => rw [canonTo_succ, List.length_append]; have := rowC_le f ((k : Int) + 1) 6; omega
theorem canon_le (f : Fn) : (canon f).length ≤ 384 := canonTo_le f 64
theorem mem_rowC {f : Fn} {c : Int} {j : Nat} {s : Sm} : s ∈ rowC f c j ↔ s.c = c ∧ 0 ≤ s.a ∧ s.a < j ∧ f (s.c, s.a) = s.n ∧ s.n ≠ 0 := by
  unfold rowC
  rw [List.mem_flatMap]
  constructor
  · rintro ⟨a, ha, hs⟩
    rw [List.mem_range] at ha
    split at hs
    · cases hs
    · rename_i hne
      simp only [List.mem_singleton] at hs
      subst hs
      exact ⟨rfl, by simp, by simpa using ha, rfl, hne⟩
  · rintro ⟨rfl, h0, h1, h2, h3⟩
    refine ⟨s.a.toNat, List.mem_range.2 (by omega), ?_⟩
    have e : ((s.a.toNat : Nat) : Int) = s.a := by omega
    rw [e, h2, if_neg h3]
    simp
theorem mem_canonTo {f : Fn} {k : Nat} {s : Sm} : s ∈ canonTo f k ↔ (1 ≤ s.c ∧ s.c ≤ k) ∧ 0 ≤ s.a ∧ s.a < 6 ∧ f (s.c, s.a) = s.n ∧ s.n ≠ 0 := by
  unfold canonTo
  rw [List.mem_flatMap]
  constructor
  · rintro ⟨c, hc, hs⟩
    rw [List.mem_range] at hc
    obtain ⟨h1, h2⟩ := mem_rowC.1 hs
    exact ⟨by omega, h2⟩
  · rintro ⟨h1, h2⟩
    refine ⟨(s.c - 1).toNat, List.mem_range.2 (by omega), mem_rowC.2 ⟨by omega, h2⟩⟩
theorem rowC_sorted (f : Fn) (c : Int) (j : Nat) : SortedK keyS ltS (rowC f c j) := by
  induction j with
  | zero => simp [rowC, SortedK]
  | succ j ih =>
    rw [rowC_succ]
    unfold SortedK at ih ⊢
    rw [List.pairwise_append]
    refine ⟨ih, by split <;> simp, fun x hx y hy => ?_⟩
    have hx' := mem_rowC.1 hx
    split at hy
    · cases hy
    · simp only [List.mem_singleton] at hy
      subst hy
      rw [ltS_iff]
      right
      simp only [keyS]
      omega
theorem canonTo_sorted (f : Fn) (k : Nat) : SortedK keyS ltS (canonTo f k) := by
  induction k with
  | zero => simp [canonTo, SortedK]
  | succ k ih =>
    rw [canonTo_succ]
    have hr := rowC_sorted f ((k : Int) + 1) 6
    unfold SortedK at ih hr ⊢
    rw [List.pairwise_append]
    refine ⟨ih, hr, fun x hx y hy => ?_⟩
    have hx' := mem_canonTo.1 hx
    have hy' := mem_rowC.1 hy
    rw [ltS_iff]
    left
    simp only [keyS]
    omega
def toS (q : (Int × Int) × Int) : Sm := ⟨q.1.1, q.1.2, q.2⟩
theorem toS_nodup {m : LMap} (h : (m.map (·.1)).Nodup) : (m.map toS).Nodup := by
  rw [List.nodup_iff_pairwise_ne, List.pairwise_map] at *
  refine h.imp ?_
  intro a b hab e
  apply hab
  obtain ⟨⟨a1, a2⟩, a3⟩ := a
  obtain ⟨⟨b1, b2⟩, b3⟩ := b
  simp only [toS, Sm.mk.injEq] at e
  simp [e.1, e.2.1]
theorem nodup_of_map' {α β : Type} {g : α → β} {l : List α} (h : (l.map g).Nodup) : l.Nodup := by
  rw [List.nodup_iff_pairwise_ne] at *
  rw [List.pairwise_map] at h
  exact h.imp fun hab e => hab (by rw [e])
theorem canon_perm {m : LMap} {f : Fn} {d : Int} (h : Led m f) (hI : LInv f d) (hn : (m.map (·.1)).Nodup) : (canon f).Perm (m.map toS) := by
  unfold canon
  rw [List.perm_ext_iff_of_nodup (nodup_of_map' ((canonTo_sorted f 64).nodup linS)) (toS_nodup hn)]
  intro s
  rw [mem_canonTo, List.mem_map]
  constructor
  · rintro ⟨_, _, _, h2, h3⟩
    refine ⟨((s.c, s.a), s.n), mget_mem ?_, rfl⟩
    rw [h, h2, if_neg h3]
  · rintro ⟨q, hq, rfl⟩
    have hg := mget_of_mem hn hq
    rw [h] at hg
    split at hg
    · cases hg
    · rename_i hne
      injection hg with hg
      have := hI.sup q.1 hne
      refine ⟨⟨this.1, this.2.1⟩, this.2.2.1, this.2.2.2, hg, ?_⟩
      show q.2 ≠ 0
      rw [← hg]; exact hne
theorem canon_unique {m : LMap} {f : Fn} {d : Int} (h : Led m f) (hI : LInv f d) (hn : (m.map (·.1)).Nodup) {l : List Sm} (hp : l.Perm (m.map toS)) (hs : l.Pairwise (fun a b => ltS (keyS b) (keyS a) = false)) : l = canon f := by
  have hp2 := hp.trans (canon_perm h hI hn).symm
  refine SortedK.perm_eq linS (sortedK_of linS ?_ hs) (canonTo_sorted f 64) hp2
  exact (hp2.map keyS).nodup_iff.2 ((canonTo_sorted f 64).nodup linS)

/-! ### Balances -/
/-- The sum of an account, of the first k customers. -/
def colF (f : Fn) (a : Int) (k : Nat) : Int := ((List.range k).map fun c : Nat => f ((c : Int) + 1, a)).sum
theorem colF_succ (f : Fn) (a : Int) (k : Nat) : colF f a (k + 1) = colF f a k + f ((k : Int) + 1, a) := by
  unfold colF
  rw [List.range_succ, List.map_append, List.sum_append]
  simp
theorem colF_zero (f : Fn) (a : Int) : colF f a 0 = 0 := rfl
def balF (f : Fn) (a : Int) : Int := colF f a 64
/-- The same, over the sums. -/
def balL (l : List Sm) (a : Int) : Int := (l.map fun s => if s.a = a then s.n else 0).sum
theorem balL_append (l r : List Sm) (a : Int) : balL (l ++ r) a = balL l a + balL r a := by unfold balL; rw [List.map_append, List.sum_append]
theorem balL_row (f : Fn) (c a : Int) (j : Nat) : balL (rowC f c j) a = if 0 ≤ a ∧ a < j then f (c, a) else 0 := by
  induction j with
  | zero =>
    have : ¬ (0 ≤ a ∧ a < ((0 : Nat) : Int)) := by omega
    rw [if_neg this]; rfl
  | succ j ih =>
    rw [rowC_succ, balL_append, ih]
    by_cases e : a = j
    · subst e
      have h1 : ¬ (0 ≤ (j : Int) ∧ (j : Int) < (j : Int)) := by omega
      have h2 : 0 ≤ (j : Int) ∧ (j : Int) < ((j + 1 : Nat) : Int) := by omega
      rw [if_neg h1, if_pos h2]
      by_cases h : f (c, (j : Int)) = 0
      · rw [if_pos h, h]; rfl
      · rw [if_neg h]; simp [balL]
    · have hz : balL (if f (c, (j : Int)) = 0 then [] else [⟨c, j, f (c, (j : Int))⟩]) a = 0 := by
        split
        · rfl
        · have : ¬ (j : Int) = a := fun x => e x.symm
          simp [balL, this]
      rw [hz, Int.add_zero]
      by_cases h1 : 0 ≤ a ∧ a < (j : Int)
      · rw [if_pos h1, if_pos (by omega)]
      · rw [if_neg h1, if_neg (by omega)]
theorem balL_canonTo {f : Fn} {d : Int} (hI : LInv f d) (a : Int) (k : Nat) : balL (canonTo f k) a = colF f a k := by
  induction k with
  | zero => rfl
  | succ k ih =>
    rw [canonTo_succ, balL_append, ih, colF_succ, balL_row]
    congr 1
    split
    · rfl
    · rename_i h
      refine Classical.byContradiction fun hn => h ?_
      have := hI.sup ((k : Int) + 1, a) (fun e => hn e.symm)
      exact ⟨this.2.2.1, by have := this.2.2.2; simpa using this⟩
theorem balL_canon {f : Fn} {d : Int} (hI : LInv f d) (a : Int) : balL (canon f) a = balF f a := balL_canonTo hI a 64
theorem balL_bd {f : Fn} {d : Int} (hI : LInv f d) {l : List Sm} (hl : ∀ s ∈ l, f (s.c, s.a) = s.n) (hn : (l.map keyS).Nodup) (a : Int) : -d ≤ balL l a ∧ balL l a ≤ d := by
  have e : balL l a = (((l.filter fun s => decide (s.a = a)).map keyS).map f).sum := by
    unfold balL
    rw [List.map_map]
    clear hn
    induction l with
    | nil => rfl
    | cons s l ih =>
      rw [List.map_cons, List.sum_cons, ih (fun x hx => hl x (by simp [hx]))]
      by_cases h : s.a = a
      · rw [List.filter_cons_of_pos (by simpa using h), List.map_cons, List.sum_cons, if_pos h]
        simp only [Function.comp, keyS, hl s (by simp)]
      · rw [List.filter_cons_of_neg (by simpa using h), if_neg h]; omega
  rw [e]
  exact hI.bd _ (hn.sublist (List.Sublist.map _ List.filter_sublist))
theorem colF_bd {f : Fn} {d : Int} (hI : LInv f d) (a : Int) (k : Nat) : -d ≤ colF f a k ∧ colF f a k ≤ d := by
  have e : colF f a k = (((List.range k).map fun c : Nat => ((c : Int) + 1, a)).map f).sum := by unfold colF; rw [List.map_map]; rfl
  rw [e]
  refine hI.bd _ ?_
  rw [List.nodup_iff_pairwise_ne, List.pairwise_map]
  refine List.Pairwise.imp ?_ List.nodup_range
  intro x y hab e
  simp only [Prod.mk.injEq, and_true] at e
  omega
/-- All accounts together. -/
def allF (f : Fn) (j : Nat) : Int := ((List.range j).map fun a : Nat => balF f (a : Int)).sum
theorem allF_succ (f : Fn) (j : Nat) : allF f (j + 1) = allF f j + balF f (j : Int) := by
  unfold allF
  rw [List.range_succ, List.map_append, List.sum_append]
  simp
theorem allF_zero {f : Fn} {d : Int} (hI : LInv f d) : allF f 6 = 0 := by
  unfold allF balF colF
  rw [sum_swap]
  exact sum_map_zero _ _ (fun c _ => hI.zero _)
theorem allF_bd {f : Fn} {d : Int} (hI : LInv f d) {j : Nat} (hj : j ≤ 6) : -6917529027641081856 ≤ allF f j ∧ allF f j ≤ 6917529027641081856 := by
  have h1 := hI.d1
  have key : ∀ j : Nat, -(d * j) ≤ allF f j ∧ allF f j ≤ d * j := by
    intro j
    induction j with
    | zero => simp [allF]
    | succ j ih =>
      rw [allF_succ]
      have := colF_bd hI (j : Int) 64
      have e : d * ((j + 1 : Nat) : Int) = d * (j : Int) + d := by rw [Int.natCast_succ, Int.mul_add, Int.mul_one]
      rw [e]
      unfold balF
      omega
  have := key j
  have h0 := hI.d0
  have : d * (j : Int) ≤ 1152921504606846976 * 6 := Int.mul_le_mul h1 (by omega) (by omega) (by omega)
  omega

end Go.Proofs.YthdmbbfppgenlaaGreat
