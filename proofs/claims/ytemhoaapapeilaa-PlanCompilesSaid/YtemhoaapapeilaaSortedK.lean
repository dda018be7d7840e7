/-
  Plain facts: a list in strict order of its keys, beside a map that holds the same (kept apart from the program).
-/
import Derived.Test.YtemhoaapapeilaaTouch
namespace Go.Proofs.Ytemhoaapapeilaa
set_option linter.unusedVariables false

structure LinK {κ : Type} (lt : κ → κ → Bool) : Prop where
  irrefl : ∀ a, lt a a = false
  trans : ∀ a b c, lt a b = true → lt b c = true → lt a c = true
  total : ∀ a b, lt a b = false → lt b a = false → a = b

section
variable {α κ ν : Type} {key : α → κ} {lt : κ → κ → Bool} {toA : κ × ν → α}

def SortedK (key : α → κ) (lt : κ → κ → Bool) (r : List α) : Prop := r.Pairwise (fun a b => lt (key a) (key b) = true)

theorem SortedK.perm_eq (L : LinK lt) {r s : List α} (h1 : SortedK key lt r) (h2 : SortedK key lt s) (hp : r.Perm s) : r = s := by
  refine List.Perm.eq_of_pairwise (le := fun a b => lt (key a) (key b) = true) (fun a b _ _ h g => ?_) h1 h2 hp
  have := L.trans _ _ _ h g
  rw [L.irrefl] at this
  cases this

theorem SortedK.nodup (L : LinK lt) {r : List α} (h : SortedK key lt r) : (r.map key).Nodup := by
  refine List.pairwise_map.2 (h.imp ?_)
  intro a b hab e
  rw [e, L.irrefl] at hab
  cases hab

/-- The place of a key: where it is, or where it would stand. -/
def posK (key : α → κ) (lt : κ → κ → Bool) (r : List α) (p : κ) : Nat := (r.takeWhile (fun y => lt (key y) p)).length
theorem posK_le (r : List α) (p : κ) : posK key lt r p ≤ r.length := (List.takeWhile_sublist _).length_le
theorem posK_eq {r : List α} {p : κ} {k : Nat} (hk : k ≤ r.length) (h1 : ∀ j y, j < k → r[j]? = some y → lt (key y) p = true) (h2 : ∀ y, r[k]? = some y → lt (key y) p = false) : posK key lt r p = k := by
  unfold posK
  induction r generalizing k with
  | nil => simp at hk; simp [hk]
  | cons y r ih =>
    cases k with
    | zero =>
      have := h2 y rfl
      simp [this]
    | succ k =>
      have h0 := h1 0 y (by omega) rfl
      simp only [List.takeWhile_cons, h0, if_true, List.length_cons]
      congr 1
      exact ih (by simpa using hk) (fun j z hj hz => h1 (j + 1) z (by omega) (by simpa using hz)) (fun z hz => h2 z (by simpa using hz))
theorem posK_split (r : List α) (p : κ) : r = r.take (posK key lt r p) ++ r.drop (posK key lt r p) := (List.take_append_drop _ _).symm
theorem posK_before {r : List α} {p : κ} {y : α} (h : y ∈ r.take (posK key lt r p)) : lt (key y) p = true := by
  unfold posK at h
  have e : r.take (r.takeWhile (fun y => lt (key y) p)).length = r.takeWhile (fun y => lt (key y) p) := by
    conv => lhs; arg 2; rw [← List.takeWhile_append_dropWhile (p := fun y => lt (key y) p) (l := r)]
    exact List.take_left
  rw [e] at h
  exact List.all_eq_true.1 (List.all_takeWhile (l := r) (p := fun y => lt (key y) p)) y h
theorem posK_at {r : List α} {p : κ} {y : α} (h : r[posK key lt r p]? = some y) : lt (key y) p = false := by
  unfold posK at h
  have e : r.dropWhile (fun y => lt (key y) p) = r.drop (r.takeWhile (fun y => lt (key y) p)).length := by
    conv => rhs; arg 2; rw [← List.takeWhile_append_dropWhile (p := fun y => lt (key y) p) (l := r)]
    exact List.drop_left.symm
  have h1 : (r.dropWhile (fun y => lt (key y) p))[0]? = some y := by rw [e, List.getElem?_drop]; simpa using h
  cases hd : r.dropWhile (fun y => lt (key y) p) with
  | nil => rw [hd] at h1; simp at h1
  | cons z t =>
    rw [hd] at h1
    simp only [List.getElem?_cons_zero, Option.some.injEq] at h1
    subst h1
    have := List.head?_dropWhile_not (fun y => lt (key y) p) r
    rw [hd] at this
    simpa using this

/-- The list with one more, at its place. -/
def insK (key : α → κ) (lt : κ → κ → Bool) (r : List α) (e : α) : List α := r.take (posK key lt r (key e)) ++ e :: r.drop (posK key lt r (key e))
theorem insK_sorted (L : LinK lt) {r : List α} {e : α} (h : SortedK key lt r) (hn : key e ∉ r.map key) : SortedK key lt (insK key lt r e) := by
  have h0 : SortedK key lt (r.take (posK key lt r (key e)) ++ r.drop (posK key lt r (key e))) := by rw [List.take_append_drop]; exact h
  unfold SortedK at h0
  rw [List.pairwise_append] at h0
  obtain ⟨a, b, c⟩ := h0
  have hdr : ∀ y ∈ r.drop (posK key lt r (key e)), lt (key e) (key y) = true := by
    intro y hy
    cases hl : lt (key e) (key y) with
    | true => rfl
    | false =>
      exfalso
      have hlt : posK key lt r (key e) < r.length := by
        rcases Nat.lt_or_ge (posK key lt r (key e)) r.length with h | h
        · exact h
        · rw [List.drop_eq_nil_of_le h] at hy; cases hy
      have h1 := posK_at (key := key) (lt := lt) (r := r) (p := key e) (List.getElem?_eq_getElem hlt)
      have h2 : lt (key e) (key r[posK key lt r (key e)]) = true := by
        cases hh : lt (key e) (key r[posK key lt r (key e)]) with
        | true => rfl
        | false => exact absurd (List.mem_map.2 ⟨_, List.getElem_mem hlt, (L.total _ _ h1 hh)⟩) hn
      rw [List.drop_eq_getElem_cons hlt] at hy b
      rcases List.mem_cons.1 hy with rfl | hy'
      · rw [h2] at hl; cases hl
      · have h3 := (List.pairwise_cons.1 b).1 y hy'
        have := L.trans _ _ _ h2 h3
        rw [this] at hl; cases hl
  unfold SortedK insK
  rw [List.pairwise_append]
  refine ⟨a, List.pairwise_cons.2 ⟨hdr, b⟩, fun x hx y hy => ?_⟩
  rcases List.mem_cons.1 hy with rfl | hy'
  · exact posK_before hx
  · exact c x hx y hy'
theorem insK_perm (r : List α) (e : α) : (insK key lt r e).Perm (e :: r) := by
  unfold insK
  have := List.perm_middle (a := e) (l₁ := r.take (posK key lt r (key e))) (l₂ := r.drop (posK key lt r (key e)))
  rw [List.take_append_drop] at this
  exact this
theorem insK_length (r : List α) (e : α) : (insK key lt r e).length = r.length + 1 := (insK_perm r e).length_eq
section
variable [DecidableEq κ]
/-- The list with what bears the key replaced. -/
def updK (key : α → κ) (r : List α) (e : α) : List α := r.map (fun y => if key y = key e then e else y)
def getK (key : α → κ) (r : List α) (p : κ) : Option α := r.find? (fun y => decide (key y = p))

theorem updK_length (r : List α) (e : α) : (updK key r e).length = r.length := by simp [updK]
theorem updK_sorted {r : List α} {e : α} (h : SortedK key lt r) : SortedK key lt (updK key r e) := by
  unfold SortedK updK
  rw [List.pairwise_map]
  have hk : ∀ y : α, key (if key y = key e then e else y) = key y := fun y => by split <;> simp_all
  refine h.imp ?_
  intro a b hab
  rw [hk, hk]; exact hab
/-- Replaced at its place. -/
theorem updK_set (L : LinK lt) {r : List α} {e : α} (h : SortedK key lt r) {k : Nat} {y : α} (hk : r[k]? = some y) (hy : key y = key e) : updK key r e = r.set k e := by
  unfold updK
  apply List.ext_getElem?
  intro i
  rw [List.getElem?_map, List.getElem?_set]
  have hkl := (List.getElem?_eq_some_iff.1 hk).1
  by_cases hik : k = i
  · subst hik
    rw [hk]
    simp [hy, hkl]
  · rw [if_neg hik]
    cases hi : r[i]? with
    | none => rfl
    | some z =>
      have : ¬ key z = key e := by
        intro hz
        have h1 : (r.map key)[i]? = some (key e) := by rw [List.getElem?_map, hi]; simp [hz]
        have h2 : (r.map key)[k]? = some (key e) := by rw [List.getElem?_map, hk]; simp [hy]
        exact hik ((List.getElem?_inj (by simpa using hkl) (h.nodup L)).1 (h2.trans h1.symm))
      simp [this]

/-- A map m, and the list of what it holds, in order. -/
structure RelK (key : α → κ) (lt : κ → κ → Bool) (toA : κ × ν → α) (m : List (κ × ν)) (r : List α) : Prop where
  nd : (m.map (·.1)).Nodup
  sorted : SortedK key lt r
  perm : r.Perm (m.map toA)
  keys : ∀ q : κ × ν, key (toA q) = q.1

omit [DecidableEq κ] in
theorem RelK.nil (h : ∀ q : κ × ν, key (toA q) = q.1) : RelK key lt toA [] [] := ⟨by simp, List.Pairwise.nil, List.Perm.refl _, h⟩
omit [DecidableEq κ] in
theorem RelK.len {m : List (κ × ν)} {r : List α} (h : RelK key lt toA m r) : r.length = m.length := by have := h.perm.length_eq; simpa using this
omit [DecidableEq κ] in
theorem RelK.keysPerm {m : List (κ × ν)} {r : List α} (h : RelK key lt toA m r) : (r.map key).Perm (m.map (·.1)) := by
  have := h.perm.map key
  rw [List.map_map] at this
  rw [show m.map (·.1) = m.map (key ∘ toA) from List.map_congr_left fun q _ => (h.keys q).symm]
  exact this
theorem RelK.mem {m : List (κ × ν)} {r : List α} (h : RelK key lt toA m r) {y : α} (hy : y ∈ r) : ∃ v, mget m (key y) = some v ∧ y = toA (key y, v) := by
  obtain ⟨q, hq, rfl⟩ := List.mem_map.1 (h.perm.mem_iff.1 hy)
  refine ⟨q.2, ?_, ?_⟩
  · rw [h.keys]; exact mget_of_mem h.nd hq
  · rw [h.keys]
theorem RelK.of_get {m : List (κ × ν)} {r : List α} (h : RelK key lt toA m r) {p : κ} {v : ν} (hg : mget m p = some v) : toA (p, v) ∈ r := h.perm.mem_iff.2 (List.mem_map.2 ⟨_, mget_mem hg, rfl⟩)
theorem RelK.none {m : List (κ × ν)} {r : List α} (h : RelK key lt toA m r) {p : κ} : p ∉ r.map key ↔ mget m p = none := by
  rw [h.keysPerm.mem_iff]
  constructor
  · exact mget_none
  · intro hn hin
    have := mget_isSome.2 hin
    rw [hn] at this
    cases this
/-- What stands at the place of a key. -/
theorem RelK.at_ (L : LinK lt) {m : List (κ × ν)} {r : List α} (h : RelK key lt toA m r) (p : κ) :
    (∃ v, mget m p = some v ∧ r[posK key lt r p]? = some (toA (p, v))) ∨ (mget m p = Option.none ∧ ∀ y, r[posK key lt r p]? = some y → key y ≠ p) := by
  cases hg : mget m p with
  | none =>
    right
    refine ⟨rfl, fun y hy e => ?_⟩
    exact h.none.2 hg (List.mem_map.2 ⟨y, List.mem_of_getElem? hy, e⟩)
  | some v =>
    left
    refine ⟨v, rfl, ?_⟩
    obtain ⟨i, hi⟩ := List.mem_iff_getElem?.1 (h.of_get hg)
    have hil := (List.getElem?_eq_some_iff.1 hi).1
    have : posK key lt r p = i := by
      refine posK_eq (by omega) (fun j y hj hy => ?_) (fun y hy => ?_)
      · have hjl : j < r.length := by omega
        have := (List.pairwise_iff_getElem.1 h.sorted) j i hjl hil hj
        rw [(List.getElem?_eq_some_iff.1 hy).2, (List.getElem?_eq_some_iff.1 hi).2, h.keys] at this
        exact this
      · rw [hi] at hy
        injection hy with hy
        rw [← hy, h.keys]
        exact L.irrefl _
    rw [this]; exact hi
theorem RelK.ins (L : LinK lt) {m : List (κ × ν)} {r : List α} (h : RelK key lt toA m r) {p : κ} (v : ν) (hn : mget m p = Option.none) : RelK key lt toA (mset m p v) (insK key lt r (toA (p, v))) := by
  have hk : key (toA (p, v)) = p := h.keys _
  refine ⟨mset_nodup h.nd _ _, insK_sorted L h.sorted (by rw [hk]; exact h.none.2 hn), ?_, h.keys⟩
  rw [mset_new hn, List.map_append]
  refine (insK_perm r _).trans ?_
  refine (h.perm.cons _).trans ?_
  exact (List.perm_append_singleton (toA (p, v)) (m.map toA)).symm
theorem RelK.upd {m : List (κ × ν)} {r : List α} (h : RelK key lt toA m r) {p : κ} (v : ν) {v0 : ν} (hn : mget m p = some v0) : RelK key lt toA (mset m p v) (updK key r (toA (p, v))) := by
  have hk : key (toA (p, v)) = p := h.keys _
  refine ⟨mset_nodup h.nd _ _, updK_sorted h.sorted, ?_, h.keys⟩
  have hin : p ∈ m.map (·.1) := mget_isSome.1 (by rw [hn]; rfl)
  unfold mset updK
  rw [if_pos hin]
  refine (h.perm.map _).trans (List.Perm.of_eq ?_)
  rw [List.map_map, List.map_map]
  refine List.map_congr_left fun q _ => ?_
  simp only [Function.comp, hk, h.keys]
  split <;> rfl
theorem RelK.del {m : List (κ × ν)} {r : List α} (h : RelK key lt toA m r) (p : κ) : RelK key lt toA (mdel m p) (r.filter (fun y => decide (key y ≠ p))) := by
  refine ⟨mdel_nodup h.nd _, h.sorted.sublist List.filter_sublist, ?_, h.keys⟩
  refine (h.perm.filter _).trans (List.Perm.of_eq ?_)
  unfold mdel
  rw [List.filter_map]
  congr 1
  refine List.filter_congr fun q _ => ?_
  simp [Function.comp, h.keys]
omit [DecidableEq κ] in
/-- A list of all that the map holds, sorted: it is the list. -/
theorem RelK.unique (L : LinK lt) {m : List (κ × ν)} {r l : List α} (h : RelK key lt toA m r) (hp : l.Perm (m.map toA)) (hs : SortedK key lt l) : l = r := hs.perm_eq L h.sorted (hp.trans h.perm.symm)
omit [DecidableEq κ] in
/-- Sorted loosely, and no key twice: sorted. -/
theorem sortedK_of (L : LinK lt) {l : List α} (hd : (l.map key).Nodup) (hs : l.Pairwise (fun a b => lt (key b) (key a) = false)) : SortedK key lt l := by
  have hd2 : l.Pairwise (fun a b => key a ≠ key b) := List.pairwise_map.1 hd
  refine (hs.and hd2).imp ?_
  rintro a b ⟨h1, h2⟩
  cases h3 : lt (key a) (key b) with
  | true => rfl
  | false => exact absurd (L.total _ _ h3 h1) h2
omit [DecidableEq κ] in
theorem RelK.unique' (L : LinK lt) {m : List (κ × ν)} {r l : List α} (h : RelK key lt toA m r) (hp : l.Perm (m.map toA)) (hs : l.Pairwise (fun a b => lt (key b) (key a) = false)) : l = r := by
  refine h.unique L hp (sortedK_of L ?_ hs)
  have := (hp.trans h.perm.symm).map key
  exact this.nodup_iff.2 (h.sorted.nodup L)
end
end

end Go.Proofs.Ytemhoaapapeilaa
