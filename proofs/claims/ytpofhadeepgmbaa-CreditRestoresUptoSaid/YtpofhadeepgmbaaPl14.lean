/-
  The credit book beside the document's two lists. No program.
-/
import Derived.Test.YtpofhadeepgmbaaBal14
import Derived.Test.YtpofhadeepgmbaaSortedK
namespace Go.Proofs.Ytpofhadeepgmbaa
open Go.RowKit
set_option linter.unusedVariables false

/-- A number's measure. -/
def nOf : Value → Nat | .int _ q => q.toNat | _ => 0
def ltI (a b : Int) : Bool := decide (a < b)
theorem linI : LinK ltI where
  irrefl a := by simp [ltI]
  trans a b c h g := by simp only [ltI, decide_eq_true_eq] at *; omega
  total a b h g := by simp only [ltI, decide_eq_false_iff_not] at *; omega

/-- The place of the first that fits, or -1. -/
def plc {α : Type} (p : α → Bool) (l : List α) : Int := if l.findIdx p < l.length then (l.findIdx p : Nat) else -1
theorem plc_some {α : Type} {p : α → Bool} {l : List α} {k : Nat} {y : α} (hk : l[k]? = some y) (hy : p y = true) (hb : ∀ j z, j < k → l[j]? = some z → p z = false) : plc p l = k := by
  have hl := (List.getElem?_eq_some_iff.1 hk).1
  have he := (List.getElem?_eq_some_iff.1 hk).2
  have : l.findIdx p = k := by
    rw [List.findIdx_eq hl]
    exact ⟨by rw [he]; exact hy, fun j hj => hb j _ hj (List.getElem?_eq_getElem (by omega))⟩
  unfold plc
  rw [this, if_pos hl]
theorem plc_none {α : Type} {p : α → Bool} {l : List α} (h : ∀ y ∈ l, p y = false) : plc p l = -1 := by
  unfold plc
  rw [if_neg]
  intro hlt
  have := List.findIdx_getElem (w := hlt)
  rw [h _ (List.getElem_mem hlt)] at this
  cases this
theorem plc_cases {α : Type} (p : α → Bool) (l : List α) : (∃ (k : Nat) (y : α), k < l.length ∧ l[k]? = some y ∧ p y = true ∧ plc p l = k) ∨ ((∀ y ∈ l, p y = false) ∧ plc p l = -1) := by
  by_cases h : l.findIdx p < l.length
  · left
    exact ⟨l.findIdx p, l[l.findIdx p], h, List.getElem?_eq_getElem h, List.findIdx_getElem, by unfold plc; rw [if_pos h]⟩
  · right
    have h1 : l.findIdx p = l.length := by have := List.findIdx_le_length (xs := l) (p := p); omega
    refine ⟨fun y hy => ?_, by unfold plc; rw [if_neg h]⟩
    have := List.findIdx_eq_length.1 h1 y hy
    simpa using this

structure Pa where
  i : Int
  l : Int
def enP (p : Pa) : List Value := [.int .i64 p.i, .int .i64 p.l]
theorem enP_len (p : Pa) : (enP p).length = 2 := rfl
theorem enP_one (h : Pa) : ∀ v ∈ enP h, v.oneCell' = true := by
  intro v hv
  simp only [enP, List.mem_cons, List.not_mem_nil, or_false] at hv
  rcases hv with rfl | rfl <;> rfl
def toPa (q : Int × Acc) : Pa := ⟨q.1, q.2.l⟩
def toHd (q : Int × Hd) : Hd := ⟨q.1, q.2.c, q.2.a⟩
def isP (id : Int) (y : Pa) : Bool := decide (y.i = id)
def isO (o : Int) (y : Hd) : Bool := decide (y.o = o)

/-- The book beside the document's lists. -/
structure RelB (ac : List (Int × Acc)) (hs : List (Int × Hd)) (ps : List Pa) (hr : List Hd) : Prop where
  pa : RelK Pa.i ltI toPa ac ps
  hd : RelK Hd.o ltI toHd hs hr
  ok : ∀ p ∈ hs, p.2.o = p.1
  exp : ∀ id a, mget ac id = some a → a.e = sumC (hs.map (·.2)) id ∧ a.e ≤ 1125899906842624
  lim : ∀ id a, mget ac id = some a → custOk id a.l
  amt : ∀ p ∈ hs, 0 ≤ p.2.a ∧ p.2.a ≤ 1125899906842624

theorem RelB.nil : RelB [] [] [] [] := ⟨RelK.nil (fun _ => rfl), RelK.nil (fun _ => rfl), (fun p hp => by cases hp), (fun _ _ h => by simp [mget] at h), (fun _ _ h => by simp [mget] at h), (fun p hp => by cases hp)⟩
section
variable {ac : List (Int × Acc)} {hs : List (Int × Hd)} {ps : List Pa} {hr : List Hd}
theorem RelB.toHd_map (h : RelB ac hs ps hr) : hs.map toHd = hs.map (·.2) := List.map_congr_left fun q hq => by
  have := h.ok q hq
  unfold toHd
  rw [← this]
theorem RelB.perm (h : RelB ac hs ps hr) : hr.Perm (hs.map (·.2)) := by rw [← h.toHd_map]; exact h.hd.perm
theorem RelB.sum (h : RelB ac hs ps hr) (id : Int) : sumC hr id = sumC (hs.map (·.2)) id := sumC_perm h.perm id
theorem RelB.amtR (h : RelB ac hs ps hr) : ∀ d ∈ hr, 0 ≤ d.a ∧ d.a ≤ 1125899906842624 := fun d hd => by
  obtain ⟨p, hp, rfl⟩ := List.mem_map.1 (h.perm.mem_iff.1 hd)
  exact h.amt p hp
theorem RelB.bd (h : RelB ac hs ps hr) {id : Int} {a : Acc} (ha : mget ac id = some a) : 0 ≤ a.e ∧ a.e ≤ 1125899906842624 := by
  have := (h.exp id a ha)
  have h0 := sumC_nonneg (l := hs.map (·.2)) (fun d hd => by obtain ⟨p, hp, rfl⟩ := List.mem_map.1 hd; exact (h.amt p hp).1) id
  omega
theorem RelB.few (h : RelB ac hs ps hr) : ac.length ≤ 64 := by
  have hk : ∀ k ∈ ac.map (·.1), 1 ≤ k ∧ k ≤ 64 := fun k hk => by
    obtain ⟨p, hp, rfl⟩ := List.mem_map.1 hk
    have := h.lim p.1 p.2 (mget_of_mem h.pa.nd hp)
    exact ⟨this.1, this.2.1⟩
  have hn : ((ac.map (·.1)).map Int.toNat).Nodup := by
    refine List.pairwise_map.2 ((List.Pairwise.and_mem.1 h.pa.nd).imp ?_)
    rintro a b ⟨ha, hb, hab⟩ e
    have := hk a ha; have := hk b hb
    omega
  have hsub : ((ac.map (·.1)).map Int.toNat) ⊆ List.range 65 := fun x hx => by
    obtain ⟨k, hk', rfl⟩ := List.mem_map.1 hx
    have := hk k hk'
    exact List.mem_range.2 (by omega)
  have hsub2 : ((ac.map (·.1)).map Int.toNat) ⊆ List.range' 1 64 := fun x hx => by
    obtain ⟨k, hk', rfl⟩ := List.mem_map.1 hx
    have := hk k hk'
    exact List.mem_range'_1.2 (by omega)
  have := List.Nodup.length_le_of_subset hn hsub2
  simpa using this

/-- Find, told. -/
theorem RelB.find (h : RelB ac hs ps hr) (id : Int) :
    (∃ (k : Nat) (a : Acc), mget ac id = some a ∧ k < ps.length ∧ ps[k]? = some ⟨id, a.l⟩ ∧ plc (isP id) ps = k) ∨ (mget ac id = none ∧ plc (isP id) ps = -1) := by
  rcases plc_cases (isP id) ps with ⟨k, y, hk, hy, hp, he⟩ | ⟨hn, he⟩
  · left
    obtain ⟨v, hv, hyv⟩ := h.pa.mem (List.mem_of_getElem? hy)
    have e : y.i = id := by simpa [isP] using hp
    rw [e] at hv hyv
    exact ⟨k, v, hv, hk, by rw [hy, hyv]; rfl, he⟩
  · right
    refine ⟨h.pa.none.1 fun hin => ?_, he⟩
    obtain ⟨y, hy, e⟩ := List.mem_map.1 hin
    have := hn y hy
    simp [isP, e] at this
theorem RelB.heldFor (h : RelB ac hs ps hr) (o : Int) :
    (∃ (k : Nat) (d : Hd), mget hs o = some d ∧ d.o = o ∧ k < hr.length ∧ hr[k]? = some d ∧ plc (isO o) hr = k) ∨ (mget hs o = none ∧ plc (isO o) hr = -1) := by
  rcases plc_cases (isO o) hr with ⟨k, y, hk, hy, hp, he⟩ | ⟨hn, he⟩
  · left
    obtain ⟨v, hv, hyv⟩ := h.hd.mem (List.mem_of_getElem? hy)
    have e : y.o = o := by simpa [isO] using hp
    rw [e] at hv hyv
    have h1 := h.ok _ (mget_mem hv)
    simp only at h1
    have e2 : y = v := by rw [hyv]; unfold toHd; simp only; rw [← h1]
    exact ⟨k, v, hv, h1, hk, by rw [hy, e2], he⟩
  · right
    refine ⟨h.hd.none.1 fun hin => ?_, he⟩
    obtain ⟨y, hy, e⟩ := List.mem_map.1 hin
    have := hn y hy
    simp [isO, e] at this

/-- The document's Customer. -/
def psC (ps : List Pa) (id l : Int) : List Pa := if 0 ≤ plc (isP id) ps then ps.set (plc (isP id) ps).toNat ⟨id, l⟩ else insK Pa.i ltI ps ⟨id, l⟩
theorem RelB.cust (h : RelB ac hs ps hr) (hh : ∀ p ∈ hs, ∃ a, mget ac p.2.c = some a) {id l : Int} (hok : custOk id l) (g : Nat) : RelB (custAc ac id l g) hs (psC ps id l) hr := by
  unfold custAc psC
  rcases h.find id with ⟨k, a, ha, hk, hy, he⟩ | ⟨hn, he⟩
  · rw [he, if_pos (by omega), ha]
    refine ⟨?_, h.hd, h.ok, ?_, ?_, h.amt⟩
    · have := h.pa.upd (p := id) (⟨a.g, l, a.e⟩ : Acc) ha
      rw [show toPa (id, ⟨a.g, l, a.e⟩) = ⟨id, l⟩ from rfl, updK_set linI (e := (⟨id, l⟩ : Pa)) h.pa.sorted hy rfl] at this
      exact this
    · intro i b hb
      rw [mget_mset] at hb
      split at hb
      · injection hb with hb; subst hb; rename_i e; subst e; exact h.exp _ a ha
      · exact h.exp i b hb
    · intro i b hb
      rw [mget_mset] at hb
      split at hb
      · injection hb with hb; subst hb; rename_i e; subst e; exact hok
      · exact h.lim i b hb
  · rw [he, if_neg (by omega), hn]
    refine ⟨h.pa.ins linI (p := id) (⟨g, l, 0⟩ : Acc) hn, h.hd, h.ok, ?_, ?_, h.amt⟩
    · intro i b hb
      rw [mget_mset] at hb
      split at hb
      · injection hb with hb; subst hb; rename_i e; subst e
        refine ⟨?_, by simp⟩
        have : ∀ m : List (Int × Hd), (∀ p ∈ m, p.2.c ≠ i) → sumC (m.map (·.2)) i = 0 := by
          intro m hm
          induction m with
          | nil => rfl
          | cons q m ih =>
            have h1 := hm q (by simp)
            simp only [List.map_cons, sumC]
            rw [if_neg h1, ih (fun p hp => hm p (by simp [hp]))]; rfl
        exact (this hs (fun p hp e => by obtain ⟨a, ha⟩ := hh p hp; rw [e, hn] at ha; cases ha)).symm
      · exact h.exp i b hb
    · intro i b hb
      rw [mget_mset] at hb
      split at hb
      · injection hb with hb; subst hb; rename_i e; subst e; exact hok
      · exact h.lim i b hb

/-- A hold more. -/
theorem RelB.put (h : RelB ac hs ps hr) {o c n : Int} {a : Acc} (ha : mget ac c = some a) (ho : mget hs o = none) (h0 : 0 ≤ n) (h1 : n ≤ 1125899906842624) (hle : a.e + n ≤ 1125899906842624) :
    RelB (mset ac c ⟨a.g, a.l, wrap64 (a.e + n)⟩) (mset hs o ⟨o, c, n⟩) ps (insK Hd.o ltI hr ⟨o, c, n⟩) := by
  have hb := h.bd ha
  have e2 : wrap64 (a.e + n) = a.e + n := wr_lim _ ⟨by omega, by omega⟩
  rw [e2]
  refine ⟨?_, h.hd.ins linI (p := o) (⟨o, c, n⟩ : Hd) ho, ?_, ?_, ?_, ?_⟩
  · have e : (mset ac c ⟨a.g, a.l, a.e + n⟩).map toPa = ac.map toPa := by
      have := mset_map_same (fun a : Acc => a.l) (b := (⟨a.g, a.l, a.e + n⟩ : Acc)) ha h.pa.nd rfl
      have := congrArg (List.map fun q : Int × Int => (⟨q.1, q.2⟩ : Pa)) this
      simp only [List.map_map, Function.comp_def] at this
      exact this
    exact ⟨mset_nodup h.pa.nd _ _, h.pa.sorted, by rw [e]; exact h.pa.perm, fun _ => rfl⟩
  · intro p hp
    rcases mem_mset hp with rfl | ⟨hp', _⟩
    · rfl
    · exact h.ok p hp'
  · intro id b hbm
    have es : sumC ((mset hs o ⟨o, c, n⟩).map (·.2)) id = sumC (hs.map (·.2)) id + (if c = id then n else 0) := by
      rw [mset_new ho, List.map_append, sumC_append]
      simp [sumC]
    rw [es]
    rw [mget_mset] at hbm
    split at hbm
    · injection hbm with hbm
      subst hbm
      rename_i e
      subst e
      have := h.exp _ a ha
      rw [if_pos rfl]
      exact ⟨by simp only; omega, hle⟩
    · rename_i e
      rw [if_neg (fun e' => e e'.symm), Int.add_zero]
      exact h.exp id b hbm
  · intro i b hb
    rw [mget_mset] at hb
    split at hb
    · injection hb with hb; subst hb; rename_i e; subst e; exact h.lim _ a ha
    · exact h.lim i b hb
  · intro p hp
    rcases mem_mset hp with rfl | ⟨hp', _⟩
    · exact ⟨h0, h1⟩
    · exact h.amt p hp'

theorem filter_eraseIdx {hr : List Hd} {k : Nat} {d : Hd} (hs : SortedK Hd.o ltI hr) (hk : hr[k]? = some d) : hr.filter (fun y => decide (y.o ≠ d.o)) = hr.eraseIdx k := by
  have hn := hs.nodup linI
  clear hs
  induction hr generalizing k with
  | nil => simp at hk
  | cons x t ih =>
    simp only [List.map_cons, List.nodup_cons] at hn
    cases k with
    | zero =>
      simp only [List.getElem?_cons_zero, Option.some.injEq] at hk
      subst hk
      rw [List.filter_cons_of_neg (by simp)]
      simp only [List.eraseIdx_zero, List.tail_cons]
      rw [List.filter_eq_self]
      intro y hy
      simp only [decide_eq_true_eq]
      exact fun e => hn.1 (by rw [← e]; exact List.mem_map_of_mem hy)
    | succ k =>
      simp only [List.getElem?_cons_succ] at hk
      have hne : x.o ≠ d.o := fun e => hn.1 (by rw [e]; exact List.mem_map_of_mem (List.mem_of_getElem? hk))
      rw [List.filter_cons_of_pos (by simpa using hne), ih hk hn.2]
      rfl
theorem RelB.rel (h : RelB ac hs ps hr) {o : Int} {d : Hd} {a : Acc} {k : Nat} (ha : mget ac d.c = some a) (ho : mget hs o = some d) (hk : hr[k]? = some d) :
    RelB (mset ac d.c ⟨a.g, a.l, wrap64 (a.e - d.a)⟩) (mdel hs o) ps (hr.eraseIdx k) := by
  have hb := h.bd ha
  have hp := perm_mdel h.hd.nd ho
  have ham : ∀ p ∈ mdel hs o, 0 ≤ p.2.a ∧ p.2.a ≤ 1125899906842624 := fun p hp => h.amt p (mem_mdel hp).1
  have es : ∀ id, sumC (hs.map (·.2)) id = (if d.c = id then d.a else 0) + sumC ((mdel hs o).map (·.2)) id := fun id => by
    rw [sumC_perm (hp.map (·.2)) id]
    rfl
  have h0 := h.amt (o, d) (mget_mem ho)
  simp only at h0
  have hn : ∀ id, 0 ≤ sumC ((mdel hs o).map (·.2)) id := fun id => sumC_nonneg (fun d hd => by obtain ⟨p, hp, rfl⟩ := List.mem_map.1 hd; exact (ham p hp).1) id
  have h1 := (h.exp _ a ha).1
  have h2 := es d.c
  rw [if_pos rfl] at h2
  have h3 := hn d.c
  have e2 : wrap64 (a.e - d.a) = a.e - d.a := wr_lim _ ⟨by omega, by omega⟩
  have hdo : d.o = o := h.ok _ (mget_mem ho)
  rw [e2]
  refine ⟨?_, ?_, ?_, ?_, ?_, ham⟩
  · have e : (mset ac d.c ⟨a.g, a.l, a.e - d.a⟩).map toPa = ac.map toPa := by
      have := mset_map_same (fun a : Acc => a.l) (b := (⟨a.g, a.l, a.e - d.a⟩ : Acc)) ha h.pa.nd rfl
      have := congrArg (List.map fun q : Int × Int => (⟨q.1, q.2⟩ : Pa)) this
      simp only [List.map_map, Function.comp_def] at this
      exact this
    exact ⟨mset_nodup h.pa.nd _ _, h.pa.sorted, by rw [e]; exact h.pa.perm, fun _ => rfl⟩
  · have := h.hd.del o
    rw [← hdo, filter_eraseIdx h.hd.sorted hk, hdo] at this
    exact this
  · intro p hp
    exact h.ok p (mem_mdel hp).1
  · intro id b hbm
    rw [mget_mset] at hbm
    split at hbm
    · injection hbm with hbm
      subst hbm
      rename_i e
      subst e
      exact ⟨by simp only; omega, by simp only; omega⟩
    · rename_i e
      have := h.exp id b hbm
      have h4 := es id
      rw [if_neg (fun e' => e e'.symm), Int.zero_add] at h4
      rw [← h4]
      exact this
  · intro i b hb
    rw [mget_mset] at hb
    split at hb
    · injection hb with hb; subst hb; rename_i e; subst e; exact h.lim _ a ha
    · exact h.lim i b hb
end

end Go.Proofs.Ytpofhadeepgmbaa
