/-
  Plain facts of a ledger that is made of sums (kept apart from the program).
-/
import Derived.Test.YthdmbbfppgenlaaGreatLedP
namespace Go.Proofs.YthdmbbfppgenlaaGreat
set_option linter.unusedVariables false

def setF (f : Fn) (p : Int × Int) (v : Int) : Fn := fun q => if q = p then v else f q
/-- The ledger of a list of sums. -/
def fromL (l : List Sm) : Fn := l.foldl (fun f s => setF f (keyS s) s.n) f0
theorem fromL_snoc (l : List Sm) (s : Sm) : fromL (l ++ [s]) = setF (fromL l) (keyS s) s.n := by unfold fromL; rw [List.foldl_append]; rfl
def rowF (f : Fn) (c : Int) : Int := ((List.range 6).map fun a : Nat => f (c, (a : Int))).sum
def debS (l : List Sm) : Int := (l.map fun s => pos s.n).sum
theorem debS_snoc (l : List Sm) (s : Sm) : debS (l ++ [s]) = debS l + pos s.n := by unfold debS; rw [List.map_append, List.sum_append]; simp
theorem debS_nonneg (l : List Sm) : 0 ≤ debS l := sum_nonneg_sub _ _ (fun x _ => by unfold pos; split <;> omega)
def okS (t : Int) (s : Sm) : Bool := decide (1 ≤ s.c) && decide (s.c ≤ 64) && decide (0 ≤ s.a) && decide (s.a < 6) && decide (s.n ≠ 0) && decide (s.n ≤ t) && decide (-t ≤ s.n)
theorem okS_iff (t : Int) (s : Sm) : okS t s = true ↔ 1 ≤ s.c ∧ s.c ≤ 64 ∧ 0 ≤ s.a ∧ s.a < 6 ∧ s.n ≠ 0 ∧ s.n ≤ t ∧ -t ≤ s.n := by
  unfold okS
  simp only [Bool.and_eq_true, decide_eq_true_eq]
  exact ⟨fun h => ⟨h.1.1.1.1.1.1, h.1.1.1.1.1.2, h.1.1.1.1.2, h.1.1.1.2, h.1.1.2, h.1.2, h.2⟩, fun h => ⟨⟨⟨⟨⟨⟨h.1, h.2.1⟩, h.2.2.1⟩, h.2.2.2.1⟩, h.2.2.2.2.1⟩, h.2.2.2.2.2.1⟩, h.2.2.2.2.2.2⟩⟩
/-- The k-th sum may stand there. -/
structure GoodAt (t : Int) (l : List Sm) (k : Nat) (x : Sm) : Prop where
  ok : okS t x = true
  lt : ∀ y, 0 < k → l[k - 1]? = some y → ltS (keyS y) (keyS x) = true
  deb : debS (l.take (k + 1)) ≤ t
def GoodTo (t : Int) (l : List Sm) (k : Nat) : Prop := ∀ (j : Nat) (x : Sm), j < k → l[j]? = some x → GoodAt t l j x
/-- A ledger may be made of these. -/
structure RestOk (t : Int) (l : List Sm) : Prop where
  d0 : 0 ≤ t
  d1 : t ≤ 1152921504606846976
  good : GoodTo t l l.length
  zero : ∀ c : Nat, 1 ≤ c → c ≤ 64 → rowF (fromL l) c = 0
theorem GoodTo.zero (t : Int) (l : List Sm) : GoodTo t l 0 := fun j x hj => absurd hj (Nat.not_lt_zero _)
theorem GoodTo.succ {t : Int} {l : List Sm} {k : Nat} (h : GoodTo t l k) (hx : ∀ x, l[k]? = some x → GoodAt t l k x) : GoodTo t l (k + 1) := fun j x hj hl => by
  rcases Nat.lt_succ_iff_lt_or_eq.1 hj with h1 | h1
  · exact h j x h1 hl
  · subst h1; exact hx x hl

theorem GoodTo.sorted {t : Int} {l : List Sm} {k : Nat} (h : GoodTo t l k) (hk : k ≤ l.length) : SortedK keyS ltS (l.take k) := by
  induction k with
  | zero => simp [SortedK]
  | succ k ih =>
    have hkl : k < l.length := hk
    have ih' := ih (fun j x hj => h j x (by omega)) (by omega)
    obtain ⟨x, hx⟩ : ∃ x, l[k]? = some x := ⟨l[k], List.getElem?_eq_getElem hkl⟩
    rw [List.take_add_one, hx]
    unfold SortedK at ih' ⊢
    rw [List.pairwise_append]
    refine ⟨ih', by simp, fun y hy z hz => ?_⟩
    simp only [Option.toList_some, List.mem_singleton] at hz
    subst hz
    obtain ⟨j, hj⟩ := List.mem_iff_getElem?.1 hy
    have hjk : j < k := by
      have := (List.getElem?_eq_some_iff.1 hj).1
      rw [List.length_take] at this
      omega
    have hgk := h k z (by omega) hx
    obtain ⟨y', hy'⟩ : ∃ y', l[k - 1]? = some y' := ⟨l[k - 1], List.getElem?_eq_getElem (by omega)⟩
    have h1 := hgk.lt y' (by omega) hy'
    have hk1 : (l.take k)[k - 1]? = some y' := by rw [List.getElem?_take_of_lt (by omega)]; exact hy'
    rcases Nat.eq_or_lt_of_le (show j ≤ k - 1 from by omega) with e | e
    · subst e
      rw [hk1] at hj
      injection hj with hj
      rw [← hj]; exact h1
    · have hjl : j < (l.take k).length := (List.getElem?_eq_some_iff.1 hj).1
      have hkl2 : k - 1 < (l.take k).length := (List.getElem?_eq_some_iff.1 hk1).1
      have := (List.pairwise_iff_getElem.1 ih') j (k - 1) hjl hkl2 e
      rw [(List.getElem?_eq_some_iff.1 hj).2, (List.getElem?_eq_some_iff.1 hk1).2] at this
      exact linS.trans _ _ _ this h1
theorem GoodTo.mem {t : Int} {l : List Sm} {k : Nat} (h : GoodTo t l k) {x : Sm} (hx : x ∈ l.take k) : okS t x = true := by
  obtain ⟨j, hj⟩ := List.mem_iff_getElem?.1 hx
  have hl := (List.getElem?_eq_some_iff.1 hj).1
  rw [List.length_take] at hl
  rw [List.getElem?_take_of_lt (by omega)] at hj
  exact (h j x (by omega) hj).ok

theorem snoc_ind {α : Type} {P : List α → Prop} (h0 : P []) (h1 : ∀ l x, P l → P (l ++ [x])) (l : List α) : P l := by
  have : ∀ r : List α, P r.reverse := by
    intro r
    induction r with
    | nil => exact h0
    | cons x r ih => rw [List.reverse_cons]; exact h1 _ _ ih
  have := this l.reverse
  rwa [List.reverse_reverse] at this
theorem fromL_none {l : List Sm} {p : Int × Int} (h : p ∉ l.map keyS) : fromL l p = 0 := by
  revert h
  refine snoc_ind (P := fun l => p ∉ l.map keyS → fromL l p = 0) (fun _ => rfl) (fun l s ih h => ?_) l
  · rw [fromL_snoc]
    rw [List.map_append, List.mem_append, not_or] at h
    unfold setF
    rw [if_neg (fun e => h.2 (by simp [e])), ih h.1]
theorem fromL_get {l : List Sm} (hd : (l.map keyS).Nodup) {s : Sm} (hs : s ∈ l) : fromL l (keyS s) = s.n := by
  revert hd hs
  refine snoc_ind (P := fun l => (l.map keyS).Nodup → s ∈ l → fromL l (keyS s) = s.n) (fun _ h => by cases h) (fun l x ih hd hs => ?_) l
  · rw [fromL_snoc]
    rw [List.map_append, List.nodup_append] at hd
    unfold setF
    rcases List.mem_append.1 hs with h | h
    · rw [if_neg (fun e => hd.2.2 _ (List.mem_map_of_mem h) _ (by simp) e), ih hd.1 h]
    · simp at h; subst h; rw [if_pos rfl]
theorem fromL_cases {l : List Sm} (hd : (l.map keyS).Nodup) (p : Int × Int) : fromL l p = 0 ∨ ∃ s ∈ l, keyS s = p ∧ fromL l p = s.n := by
  by_cases h : p ∈ l.map keyS
  · obtain ⟨s, hs, rfl⟩ := List.mem_map.1 h
    exact .inr ⟨s, hs, rfl, fromL_get hd hs⟩
  · exact .inl (fromL_none h)
theorem GoodTo.bd {t : Int} {l : List Sm} {k : Nat} (h : GoodTo t l k) (hk : k ≤ l.length) (h0 : 0 ≤ t) (p : Int × Int) : -t ≤ fromL (l.take k) p ∧ fromL (l.take k) p ≤ t := by
  rcases fromL_cases ((h.sorted hk).nodup linS) p with h1 | ⟨s, hs, _, h1⟩
  · rw [h1]; omega
  · rw [h1]
    have := (okS_iff t s).1 (h.mem hs)
    omega
theorem GoodTo.sup {t : Int} {l : List Sm} {k : Nat} (h : GoodTo t l k) (hk : k ≤ l.length) {p : Int × Int} (hp : fromL (l.take k) p ≠ 0) : 1 ≤ p.1 ∧ p.1 ≤ 64 ∧ 0 ≤ p.2 ∧ p.2 < 6 := by
  rcases fromL_cases ((h.sorted hk).nodup linS) p with h1 | ⟨s, hs, rfl, h1⟩
  · exact absurd h1 hp
  · have := (okS_iff t s).1 (h.mem hs)
    exact ⟨this.1, this.2.1, this.2.2.1, this.2.2.2.1⟩
/-- The place of a sum that comes next is empty. -/
theorem GoodTo.new {t : Int} {l : List Sm} {k : Nat} {x : Sm} (h : GoodTo t l k) (hx : l[k]? = some x) (hg : ∀ y, 0 < k → l[k - 1]? = some y → ltS (keyS y) (keyS x) = true) : fromL (l.take k) (keyS x) = 0 := by
  refine fromL_none fun hm => ?_
  have hkl := (List.getElem?_eq_some_iff.1 hx).1
  obtain ⟨s, hs, he⟩ := List.mem_map.1 hm
  obtain ⟨j, hj⟩ := List.mem_iff_getElem?.1 hs
  have hjl : j < (l.take k).length := (List.getElem?_eq_some_iff.1 hj).1
  have hjk : j < k := by rw [List.length_take] at hjl; omega
  obtain ⟨y', hy'⟩ : ∃ y', l[k - 1]? = some y' := ⟨l[k - 1], List.getElem?_eq_getElem (by omega)⟩
  have h1 := hg y' (by omega) hy'
  have hk1 : (l.take k)[k - 1]? = some y' := by rw [List.getElem?_take_of_lt (by omega)]; exact hy'
  have h2 : ltS (keyS s) (keyS x) = true := by
    rcases Nat.eq_or_lt_of_le (show j ≤ k - 1 from by omega) with e | e
    · subst e
      rw [hk1] at hj
      injection hj with hj
      rw [← hj]; exact h1
    · have hkl2 : k - 1 < (l.take k).length := (List.getElem?_eq_some_iff.1 hk1).1
      have := (List.pairwise_iff_getElem.1 (h.sorted (by omega))) j (k - 1) hjl hkl2 e
      rw [(List.getElem?_eq_some_iff.1 hj).2, (List.getElem?_eq_some_iff.1 hk1).2] at this
      exact linS.trans _ _ _ this h1
  rw [he, linS.irrefl] at h2
  cases h2

theorem sum_set_range (f : Fn) (c : Int) (p : Int × Int) (v : Int) (n : Nat) : ((List.range n).map fun a : Nat => setF f p v (c, (a : Int))).sum = ((List.range n).map fun a : Nat => f (c, (a : Int))).sum + if c = p.1 ∧ 0 ≤ p.2 ∧ p.2 < n then v - f p else 0 := by
  induction n with
  | zero =>
    have : ¬ (c = p.1 ∧ 0 ≤ p.2 ∧ p.2 < ((0 : Nat) : Int)) := by omega
    rw [if_neg this]; rfl
  | succ n ih =>
    rw [List.range_succ, List.map_append, List.map_append, List.sum_append, List.sum_append, ih]
    simp only [List.map_cons, List.map_nil, List.sum_cons, List.sum_nil]
    unfold setF
    by_cases hc : c = p.1
    · by_cases hn : p.2 = n
      · have e : (c, (n : Int)) = p := Prod.ext hc hn.symm
        rw [if_pos e, if_neg (by omega), if_pos (by omega), e]
        omega
      · have e : ¬ (c, (n : Int)) = p := fun h => hn (by rw [← h])
        rw [if_neg e]
        by_cases h2 : 0 ≤ p.2 ∧ p.2 < (n : Int)
        · rw [if_pos ⟨hc, h2⟩, if_pos (by omega)]; omega
        · rw [if_neg (fun h => h2 h.2), if_neg (by omega)]; omega
    · have e : ¬ (c, (n : Int)) = p := fun h => hc (by rw [← h])
      rw [if_neg e, if_neg (fun h => hc h.1), if_neg (fun h => hc h.1)]; omega
theorem rowF_set {f : Fn} {p : Int × Int} {v : Int} (hf : f p = 0) (h2 : 0 ≤ p.2 ∧ p.2 < 6) (c : Int) : rowF (setF f p v) c = if c = p.1 then rowF f c + v else rowF f c := by
  unfold rowF
  rw [sum_set_range, hf]
  by_cases hc : c = p.1
  · rw [if_pos ⟨hc, h2.1, by simpa using h2.2⟩, if_pos hc]; omega
  · rw [if_neg (fun h => hc h.1), if_neg hc]; omega
theorem rowF_bd {f : Fn} {t : Int} (h : ∀ p, -t ≤ f p ∧ f p ≤ t) (c : Int) : -(6 * t) ≤ rowF f c ∧ rowF f c ≤ 6 * t := by
  unfold rowF
  have h0 := h (c, 0)
  have h1 := h (c, 1)
  have h2 := h (c, 2)
  have h3 := h (c, 3)
  have h4 := h (c, 4)
  have h5 := h (c, 5)
  have e : ((List.range 6).map fun a : Nat => f (c, (a : Int))).sum = f (c, 0) + (f (c, 1) + (f (c, 2) + (f (c, 3) + (f (c, 4) + (f (c, 5) + 0))))) := rfl
  rw [e]
  omega

/-! ### What such a ledger keeps -/
def placesTo (k : Nat) : List (Int × Int) := (List.range k).flatMap fun c : Nat => (List.range 6).map fun a : Nat => ((c : Int) + 1, (a : Int))
theorem placesTo_succ (k : Nat) : placesTo (k + 1) = placesTo k ++ (List.range 6).map fun a : Nat => ((k : Int) + 1, (a : Int)) := by
  unfold placesTo
  rw [show List.range (k + 1) = List.range k ++ [k] from List.range_succ, List.flatMap_append]
  simp
theorem mem_placesTo {k : Nat} {p : Int × Int} : p ∈ placesTo k ↔ 1 ≤ p.1 ∧ p.1 ≤ k ∧ 0 ≤ p.2 ∧ p.2 < 6 := by
  unfold placesTo
  rw [List.mem_flatMap]
  constructor
  · rintro ⟨c, hc, h⟩
    obtain ⟨a, ha, rfl⟩ := List.mem_map.1 h
    rw [List.mem_range] at hc ha
    simp only
    omega
  · rintro ⟨h1, h2, h3, h4⟩
    refine ⟨(p.1 - 1).toNat, List.mem_range.2 (by omega), List.mem_map.2 ⟨p.2.toNat, List.mem_range.2 (by omega), ?_⟩⟩
    exact Prod.ext (by simp only; omega) (by simp only; omega)
theorem placesTo_nodup (k : Nat) : (placesTo k).Nodup := by
  induction k with
  | zero => simp [placesTo]
  | succ k ih =>
    rw [placesTo_succ]
    refine List.nodup_append.2 ⟨ih, ?_, fun x hx y hy e => ?_⟩
    · rw [List.nodup_iff_pairwise_ne, List.pairwise_map]
      refine List.Pairwise.imp ?_ List.nodup_range
      intro a b hab e
      simp only [Prod.mk.injEq, true_and] at e
      omega
    · have h1 := mem_placesTo.1 hx
      obtain ⟨a, _, rfl⟩ := List.mem_map.1 hy
      rw [e] at h1
      simp only at h1
      omega
theorem sum_sub {f : Fn} {S P : List (Int × Int)} (hS : S.Nodup) (hP : P.Nodup) (hs : ∀ p, f p ≠ 0 → p ∈ P) : (S.map f).sum = (P.map fun p => if p ∈ S then f p else 0).sum := by
  have e1 : (P.map fun p => if p ∈ S then f p else 0).sum = (P.map fun p => (S.map fun q => if q = p then f p else 0).sum).sum := sum_map_congr (fun p _ => by
    rw [sum_ite_nodup p (f p) hS]
    by_cases h : p ∈ S <;> simp [h])
  rw [e1, sum_swap]
  refine sum_map_congr (fun q _ => ?_)
  have e2 : (P.map fun p => if q = p then f p else 0).sum = (P.map fun p => if p = q then f q else 0).sum := sum_map_congr (fun p _ => by
    by_cases h : q = p
    · subst h; simp
    · rw [if_neg h, if_neg (fun e => h e.symm)])
  rw [e2, sum_ite_nodup q (f q) hP]
  by_cases h : q ∈ P
  · simp [h]
  · have : f q = 0 := Classical.byContradiction fun hn => h (hs q hn)
    simp [h, this]
theorem sum_places_row {f : Fn} (k : Nat) (h : ∀ c : Nat, 1 ≤ c → c ≤ k → rowF f c = 0) : ((placesTo k).map f).sum = 0 := by
  induction k with
  | zero => rfl
  | succ k ih =>
    rw [placesTo_succ, List.map_append, List.sum_append, ih (fun c h1 h2 => h c h1 (by omega)), List.map_map]
    have := h (k + 1) (by omega) (by omega)
    unfold rowF at this
    rw [show (((k + 1 : Nat)) : Int) = (k : Int) + 1 from by omega] at this
    have e : ((List.range 6).map (f ∘ fun a : Nat => ((k : Int) + 1, (a : Int)))).sum = ((List.range 6).map fun a : Nat => f ((k : Int) + 1, (a : Int))).sum := rfl
    rw [e, this]; rfl
theorem pos_places {t : Int} {l : List Sm} {k : Nat} (h : GoodTo t l k) (hk : k ≤ l.length) : ((placesTo 64).map fun p => pos (fromL (l.take k) p)).sum = debS (l.take k) := by
  induction k with
  | zero => exact sum_map_zero _ _ (fun _ _ => rfl)
  | succ k ih =>
    have hkl : k < l.length := hk
    have hG : GoodTo t l k := fun j x hj => h j x (by omega)
    have ih' := ih hG (by omega)
    obtain ⟨x, hx⟩ : ∃ x, l[k]? = some x := ⟨l[k], List.getElem?_eq_getElem hkl⟩
    have hgx := h k x (by omega) hx
    have hnew := hG.new hx hgx.lt
    have hok := (okS_iff t x).1 hgx.ok
    rw [List.take_add_one, hx]
    simp only [Option.toList_some]
    rw [fromL_snoc, debS_snoc, ← ih']
    have e : ∀ p ∈ placesTo 64, pos (setF (fromL (l.take k)) (keyS x) x.n p) = pos (fromL (l.take k) p) + if p = keyS x then pos x.n else 0 := by
      intro p _
      unfold setF
      by_cases hp : p = keyS x
      · rw [if_pos hp, if_pos hp, hp, hnew]; unfold pos; simp
      · rw [if_neg hp, if_neg hp]; omega
    rw [sum_map_congr e, sum_map_add, sum_ite_nodup _ _ (placesTo_nodup 64), if_pos (mem_placesTo.2 ⟨hok.1, hok.2.1, hok.2.2.1, hok.2.2.2.1⟩)]
theorem RestOk.inv {t : Int} {l : List Sm} (h : RestOk t l) : LInv (fromL l) t := by
  have hg := h.good
  have hs : ∀ p, fromL l p ≠ 0 → 1 ≤ p.1 ∧ p.1 ≤ 64 ∧ 0 ≤ p.2 ∧ p.2 < 6 := fun p hp => by
    have := hg.sup (Nat.le_refl _) (p := p)
    rw [List.take_length] at this
    exact this hp
  have hpos := pos_places hg (Nat.le_refl _)
  rw [List.take_length] at hpos
  have hdeb : debS l ≤ t := by
    cases hl : l.length with
    | zero =>
      have : l = [] := List.eq_nil_of_length_eq_zero hl
      rw [this]; exact h.d0
    | succ n =>
      obtain ⟨x, hx⟩ : ∃ x, l[n]? = some x := ⟨l[n], List.getElem?_eq_getElem (by omega)⟩
      have := (hg n x (by omega) hx).deb
      rw [show n + 1 = l.length from hl.symm, List.take_length] at this
      exact this
  refine ⟨h.d0, h.d1, hs, fun S hS => ?_, fun c => ?_⟩
  · have hsub := sum_sub (f := fromL l) hS (placesTo_nodup 64) (fun p hp => mem_placesTo.2 (hs p hp))
    have hz := sum_places_row (f := fromL l) 64 h.zero
    have h1 : ((placesTo 64).map fun p => if p ∈ S then fromL l p else 0).sum ≤ ((placesTo 64).map fun p => pos (fromL l p)).sum := sum_map_le _ _ _ (fun p _ => by unfold pos; split <;> split <;> omega)
    have h2 : ((placesTo 64).map fun p => fromL l p - (if p ∈ S then fromL l p else 0)).sum ≤ ((placesTo 64).map fun p => pos (fromL l p)).sum := sum_map_le _ _ _ (fun p _ => by unfold pos; split <;> split <;> omega)
    have h3 : ((placesTo 64).map fun p => fromL l p).sum = ((placesTo 64).map fun p => (if p ∈ S then fromL l p else 0) + (fromL l p - (if p ∈ S then fromL l p else 0))).sum := sum_map_congr (fun p _ => by omega)
    rw [sum_map_add] at h3
    have hz' : ((placesTo 64).map fun p => fromL l p).sum = 0 := hz
    omega
  · by_cases hc : 1 ≤ c ∧ c ≤ 64
    · have := h.zero c.toNat (by omega) (by omega)
      rw [show ((c.toNat : Nat) : Int) = c from by omega] at this
      exact this
    · refine sum_map_zero _ _ (fun a _ => Classical.byContradiction fun hn => hc ?_)
      have := hs _ hn
      exact ⟨this.1, this.2.1⟩

/-! ### The sums that a ledger tells make it again -/
theorem fromL_canon {f : Fn} {d : Int} (hI : LInv f d) : fromL (canon f) = f := by
  have hn := (canonTo_sorted f 64).nodup linS
  funext p
  rcases fromL_cases hn p with h | ⟨s, hs, rfl, h⟩
  · rw [show fromL (canonTo f 64) p = fromL (canon f) p from rfl] at h
    rw [h]
    refine Classical.byContradiction fun hne => ?_
    have hs := hI.sup p (fun e => hne e.symm)
    have hm : (⟨p.1, p.2, f p⟩ : Sm) ∈ canonTo f 64 := mem_canonTo.2 ⟨⟨hs.1, hs.2.1⟩, hs.2.2.1, hs.2.2.2, rfl, fun e => hne e.symm⟩
    have := fromL_get hn hm
    rw [show keyS (⟨p.1, p.2, f p⟩ : Sm) = p from rfl, show fromL (canonTo f 64) p = fromL (canon f) p from rfl, h] at this
    exact hne this
  · have := (mem_canonTo.1 hs).2.2.2.1
    exact h.trans this.symm
theorem deb_canon {f : Fn} {d : Int} (hI : LInv f d) (k : Nat) : debS ((canon f).take k) ≤ d := by
  have hn : (((canon f).take k).map keyS).Nodup := ((canonTo_sorted f 64).nodup linS).sublist ((List.take_sublist k (canon f)).map keyS)
  have hf : ∀ s ∈ (canon f).take k, f (keyS s) = s.n := fun s hs => (mem_canonTo.1 (List.mem_of_mem_take hs)).2.2.2.1
  generalize (canon f).take k = l at *
  have e : debS l = (((l.filter fun s => decide (0 < s.n)).map keyS).map f).sum := by
    unfold debS
    rw [List.map_map]
    clear hn
    induction l with
    | nil => rfl
    | cons s l ih =>
      rw [List.map_cons, List.sum_cons, ih (fun x hx => hf x (by simp [hx]))]
      by_cases h : 0 < s.n
      · rw [List.filter_cons_of_pos (by simpa using h), List.map_cons, List.sum_cons]
        simp only [Function.comp, hf s (by simp)]
        unfold pos
        rw [if_pos h]
      · rw [List.filter_cons_of_neg (by simpa using h)]
        unfold pos
        rw [if_neg h]; omega
  rw [e]
  exact (hI.bd _ (hn.sublist (List.Sublist.map _ List.filter_sublist))).2
theorem RestOk.canon {f : Fn} {d : Int} (hI : LInv f d) : RestOk d (canon f) := by
  refine ⟨hI.d0, hI.d1, fun j x hj hx => ⟨?_, fun y h0 hy => ?_, deb_canon hI _⟩, fun c _ _ => by rw [fromL_canon hI]; exact hI.zero c⟩
  · have h := mem_canonTo.1 (List.mem_of_getElem? hx)
    have h1 := hI.one (x.c, x.a)
    rw [h.2.2.2.1] at h1
    exact (okS_iff d x).2 ⟨h.1.1, h.1.2, h.2.1, h.2.2.1, h.2.2.2.2, h1.2, h1.1⟩
  · have hjl := (List.getElem?_eq_some_iff.1 hx).1
    have hyl := (List.getElem?_eq_some_iff.1 hy).1
    have := (List.pairwise_iff_getElem.1 (canonTo_sorted f 64)) (j - 1) j hyl hjl (by omega)
    rw [← (List.getElem?_eq_some_iff.1 hx).2, ← (List.getElem?_eq_some_iff.1 hy).2]
    exact this
theorem Led.set {m : LMap} {f : Fn} (h : Led m f) (p : Int × Int) (v : Int) (hv : v ≠ 0) : Led (mset m p v) (setF f p v) := by
  intro q
  rw [mget_mset]
  unfold setF
  by_cases e : q = p
  · rw [if_pos e, if_pos e, if_neg hv]
  · rw [if_neg e, if_neg e]; exact h q

end Go.Proofs.YthdmbbfppgenlaaGreat
