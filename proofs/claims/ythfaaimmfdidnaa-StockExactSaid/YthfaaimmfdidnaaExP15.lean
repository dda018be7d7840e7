/-
  StockExact: what is on hand of three items. No program.
-/
import Derived.Test.YthfaaimmfdidnaaStp15
import Derived.Test.YthfaaimmfdidnaaSl15
namespace Go.Proofs.Ythfaaimmfdidnaa
open Go.RowKit
set_option linter.unusedVariables false

theorem qOf_snoc (l : List Ln) (x : Ln) (id : Int) : qOf (l ++ [x]) id = qOf l id + (if x.i = id then x.q else 0) := by
  induction l with
  | nil => simp [qOf]
  | cons y l ih => simp only [List.cons_append, qOf, ih]; omega
def hAt (a b c i : Int) : Int := if i = 1 then a else if i = 2 then b else if i = 3 then c else 0
/-- Of the first n items so many are on hand. -/
structure HandR (n : Int) (lv : List (Int × Lv)) (a b c : Int) : Prop where
  at_ : ∀ id v, mget lv id = some v → (1 ≤ id ∧ id ≤ n) ∧ v.h = hAt a b c id ∧ v.s = 0 ∧ v.t = 0
  has : ∀ id, 1 ≤ id → id ≤ n → ∃ v, mget lv id = some v
theorem ids3 {ids : List Int} (hr : ids.Pairwise (fun a b => a < b)) (h : ∀ x, x ∈ ids ↔ 1 ≤ x ∧ x ≤ 3) : ids = [1, 2, 3] := by
  have hn : ids.Nodup := hr.imp (fun h e => by omega)
  have hp : ids.Perm [1, 2, 3] := (List.perm_ext_iff_of_nodup hn (by decide)).2 fun x => by
    rw [h]
    simp only [List.mem_cons, List.not_mem_nil, or_false]
    omega
  exact SortedK.perm_eq (key := id) linI (hr.imp (fun h => by simpa [ltI] using h)) (by unfold SortedK; simp [ltI]) hp
theorem HandR.ids {lv : List (Int × Lv)} {a b c : Int} (h : HandR 3 lv a b c) {ids : List Int} (hp : ids.Perm (lv.map (·.1))) (hr : ids.Pairwise (fun a b => a < b)) : ids = [1, 2, 3] := ids3 hr fun x => by
  rw [hp.mem_iff]
  refine ⟨fun hx => ?_, fun hx => ?_⟩
  · obtain ⟨v, hv⟩ := mget_key hx
    exact (h.at_ x v hv).1
  · obtain ⟨v, hv⟩ := h.has x hx.1 hx.2
    exact mget_isSome.1 (by rw [hv]; rfl)
theorem HandR.lvAt {lv : List (Int × Lv)} {n a b c : Int} (h : HandR n lv a b c) {id : Int} (h1 : 1 ≤ id) (h2 : id ≤ n) : (Go.Proofs.Ythfaaimmfdidnaa.lvAt lv id).h = hAt a b c id := by
  obtain ⟨v, hv⟩ := h.has id h1 h2
  unfold Go.Proofs.Ythfaaimmfdidnaa.lvAt
  rw [hv]
  exact (h.at_ id v hv).2.1
/-- Goods set aside. -/
theorem HandR.alloc {lv : List (Int × Lv)} {n a b c : Int} (h : HandR n lv a b c) (hn : n ≤ 3) (ls : List Ln) : HandR n (mvL allocL lv ls) (a - qOf ls 1) (b - qOf ls 2) (c - qOf ls 3) := by
  refine ⟨fun id v hv => ?_, fun id h1 h2 => ?_⟩
  · rw [mvL_all allocL_0 allocL_a] at hv
    obtain ⟨u, hu, rfl⟩ := Option.map_eq_some_iff.1 hv
    have := h.at_ id u hu
    refine ⟨this.1, ?_, this.2.2⟩
    simp only [allocL]
    rw [this.2.1]
    by_cases e1 : id = 1
    · subst e1; simp [hAt]
    · by_cases e2 : id = 2
      · subst e2; simp [hAt]
      · by_cases e3 : id = 3
        · subst e3; simp [hAt]
        · have := this.1; omega
  · obtain ⟨v, hv⟩ := h.has id h1 h2
    exact ⟨_, by rw [mvL_all allocL_0 allocL_a, hv]; rfl⟩
theorem HandR.nil : HandR 0 [] 0 0 0 := ⟨fun id v h => by simp [mget] at h, fun id h1 h2 => by omega⟩
/-- An item more, and what came in. -/
theorem HandR.more {lv : List (Int × Lv)} {n a b c x a' b' c' : Int} (h : HandR n lv a b c) {v : Lv} (hv : v.h = x ∧ v.s = 0 ∧ v.t = 0) (g : Nat) (hx : hAt a' b' c' (n + 1) = x) (ho : ∀ id, 1 ≤ id → id ≤ n → hAt a' b' c' id = hAt a b c id) (h0 : 0 ≤ n) : HandR (n + 1) (mset (mset lv (n + 1) (newLv g (n + 1))) (n + 1) v) a' b' c' := by
  refine ⟨fun id u hu => ?_, fun id h1 h2 => ?_⟩
  · rw [mget_mset] at hu
    split at hu
    · rename_i e
      injection hu with hu
      subst hu e
      exact ⟨by omega, by rw [hv.1, hx], hv.2⟩
    · rename_i e
      rw [mget_mset, if_neg e] at hu
      have := h.at_ id u hu
      exact ⟨by omega, by rw [this.2.1, ho id this.1.1 this.1.2], this.2.2⟩
  · rw [mget_mset]
    split
    · exact ⟨_, rfl⟩
    · rename_i e
      rw [mget_mset, if_neg e]
      exact h.has id h1 (by omega)
theorem HandR.bd {lv : List (Int × Lv)} {gs : List (Int × Gd)} {n a b c : Int} (h : HandR n lv a b c) (hG : GoodB lv gs) : ∀ p ∈ lv, LvB p.2 := fun p hp => by
  have h1 := hG.sm p.1 p.2 (mget_of_mem hG.nl hp)
  have h2 := hG.lk p.1 p.2 (mget_of_mem hG.nl hp)
  have h3 := h.at_ p.1 p.2 (mget_of_mem hG.nl hp)
  have a1 := hG.sq 1 p.1
  have a2 := hG.sq 2 p.1
  unfold LvB
  omega
/-- Is there enough? -/
def enB (a b c : Int) (ls : List Ln) : Bool := ls.all fun x => decide (x.q ≤ hAt a b c x.i)
theorem enB_snoc {a b c : Int} {ls : List Ln} {x : Ln} : enB a b c (ls ++ [x]) = (enB a b c ls && decide (x.q ≤ hAt a b c x.i)) := by simp [enB]
theorem HandR.short {lv : List (Int × Lv)} {n a b c : Int} (h : HandR n lv a b c) {ls : List Ln} (hi : ∀ x ∈ ls, 1 ≤ x.i ∧ x.i ≤ n) : ls.any (shortL lv) = !(enB a b c ls) := by
  unfold enB
  induction ls with
  | nil => rfl
  | cons x l ih =>
    obtain ⟨v, hv⟩ := h.has x.i (hi x (by simp)).1 (hi x (by simp)).2
    have e : shortL lv x = !decide (x.q ≤ hAt a b c x.i) := by
      unfold shortL
      rw [hv]
      simp only
      rw [(h.at_ x.i v hv).2.1]
      by_cases hle : x.q ≤ hAt a b c x.i
      · simp [hle]
      · simp [hle]
        omega
    simp only [List.any_cons, List.all_cons, ih (fun y hy => hi y (by simp [hy])), e]
    cases decide (x.q ≤ hAt a b c x.i) <;> simp
theorem HandR.know {lv : List (Int × Lv)} {n a b c : Int} (h : HandR n lv a b c) {ls : List Ln} (hi : ∀ x ∈ ls, 1 ≤ x.i ∧ x.i ≤ n) : knowF lv ls = true := knowF_iff.2 fun x hx => h.has x.i (hi x hx).1 (hi x hx).2
/-- Is a line one of the three items'? -/
def OkX (x : Ln) : Prop := (1 ≤ x.i ∧ x.i ≤ 3) ∧ 1 ≤ x.q ∧ x.q ≤ 1000000
/-- What the law has seen of the lines. -/
structure Seen (b0 f : Bool) (p : List Ln) (s1 s2 s3 : Int) : Prop where
  fit : f = true → b0 = true ∧ (∀ x ∈ p, OkX x) ∧ p.Pairwise (fun x y => x.i ≠ y.i)
  bd : (0 ≤ s1 ∧ s1 ≤ p.length) ∧ (0 ≤ s2 ∧ s2 ≤ p.length) ∧ (0 ≤ s3 ∧ s3 ≤ p.length)
  no : ∀ x ∈ p, OkX x → hAt s1 s2 s3 x.i ≠ 0
theorem Seen.nil (b0 : Bool) : Seen b0 b0 [] 0 0 0 := ⟨fun h => ⟨h, (fun x hx => by cases hx), List.Pairwise.nil⟩, by simp, (fun x hx => by cases hx)⟩
theorem Seen.bad {b0 f : Bool} {p : List Ln} {s1 s2 s3 : Int} (h : Seen b0 f p s1 s2 s3) {x : Ln} (hx : ¬ OkX x) : Seen b0 false (p ++ [x]) s1 s2 s3 :=
  ⟨(fun h => by cases h), (by have := h.bd; simp; omega), (fun y hy hok => by
    rcases List.mem_append.1 hy with hy | hy
    · exact h.no y hy hok
    · simp only [List.mem_singleton] at hy; subst hy; exact absurd hok hx)⟩
theorem Seen.good {b0 f : Bool} {p : List Ln} {s1 s2 s3 t1 t2 t3 : Int} (h : Seen b0 f p s1 s2 s3) {x : Ln} (hx : OkX x) (ht : hAt t1 t2 t3 x.i = hAt s1 s2 s3 x.i + 1) (h1 : t1 = s1 ∨ t1 = s1 + 1) (h2 : t2 = s2 ∨ t2 = s2 + 1) (h3 : t3 = s3 ∨ t3 = s3 + 1) : Seen b0 (f && (hAt t1 t2 t3 x.i == 1)) (p ++ [x]) t1 t2 t3 := by
  have hb := h.bd
  have hmono : ∀ i, 0 ≤ hAt s1 s2 s3 i ∧ hAt s1 s2 s3 i ≤ hAt t1 t2 t3 i := fun i => by
    unfold hAt
    split
    · omega
    · split
      · omega
      · split <;> omega
  refine ⟨fun hf => ?_, by simp; omega, fun y hy hok => ?_⟩
  · simp only [Bool.and_eq_true, beq_iff_eq] at hf
    obtain ⟨a1, a2, a3⟩ := h.fit hf.1
    refine ⟨a1, fun y hy => ?_, ?_⟩
    · rcases List.mem_append.1 hy with hy | hy
      · exact a2 y hy
      · simp only [List.mem_singleton] at hy; subst hy; exact hx
    · refine List.pairwise_append.2 ⟨a3, List.pairwise_singleton _ _, fun y hy z hz e => ?_⟩
      simp only [List.mem_singleton] at hz
      subst hz
      have := h.no y hy (a2 y hy)
      rw [e] at this
      omega
  · rcases List.mem_append.1 hy with hy | hy
    · have := h.no y hy hok
      have := hmono y.i
      omega
    · simp only [List.mem_singleton] at hy
      subst hy
      have := hmono y.i
      omega
theorem Seen.fitOk {p : List Ln} {s1 s2 s3 o : Int} (h : Seen (decide (1 ≤ p.length ∧ p.length ≤ 4)) true p s1 s2 s3) (ho : 1 ≤ o) : FitOk o p ∧ ∀ x ∈ p, 1 ≤ x.i ∧ x.i ≤ 3 := by
  obtain ⟨h1, h2, h3⟩ := h.fit rfl
  simp only [decide_eq_true_eq] at h1
  refine ⟨⟨⟨ho, h1.1, h1.2⟩, fun k x hk => ?_⟩, fun x hx => (h2 x hx).1⟩
  have := h2 x (List.mem_of_getElem? hk)
  refine ⟨this.2.1, this.2.2, ?_⟩
  unfold hasI
  rw [List.any_eq_false]
  intro y hy
  obtain ⟨j, hj⟩ := List.mem_iff_getElem?.1 hy
  have hjk : j < k := by have := (List.getElem?_eq_some_iff.1 hj).1; simp at this; omega
  rw [List.getElem?_take_of_lt hjk] at hj
  have hj' := List.getElem?_eq_some_iff.1 hj
  have hk' := List.getElem?_eq_some_iff.1 hk
  have := (List.pairwise_iff_getElem.1 h3) j k hj'.1 hk'.1 hjk
  rw [hj'.2, hk'.2] at this
  simpa using this

end Go.Proofs.Ythfaaimmfdidnaa
