/-
  The credit book in sums: an account's exposure is the sum of what is held for it. No program.
-/
import Derived.Test.YtpofhadeepgmbaaExact
import Derived.Test.YtpofhadeepgmbaaRange
namespace Go.Proofs.Ytpofhadeepgmbaa
open Go.RowKit
set_option linter.unusedVariables false

theorem perm_mdel {κ ν : Type} [DecidableEq κ] {m : List (κ × ν)} {a : κ} {b : ν} (hd : (m.map (·.1)).Nodup) (h : mget m a = some b) : m.Perm ((a, b) :: mdel m a) := by
  induction m with
  | nil => simp [mget] at h
  | cons p t ih =>
    simp only [List.map_cons, List.nodup_cons] at hd
    by_cases hp : p.1 = a
    · have e1 : mget (p :: t) a = some p.2 := by simp [mget, hp]
      rw [e1] at h
      injection h with h
      have e2 : mdel (p :: t) a = mdel t a := by simp [mdel, hp]
      rw [e2, mdel_none (by rw [← hp]; exact hd.1)]
      obtain ⟨p1, p2⟩ := p
      simp only at hp h
      rw [hp, h]
    · have e1 : mget (p :: t) a = mget t a := by simp [mget, hp]
      have e2 : mdel (p :: t) a = p :: mdel t a := by simp [mdel, hp]
      rw [e1] at h
      rw [e2]
      exact ((ih hd.2 h).cons p).trans (List.Perm.swap _ _ _)

def sumC : List Hd → Int → Int
  | [], _ => 0
  | d :: l, c => (if d.c = c then d.a else 0) + sumC l c
theorem sumC_append (l r : List Hd) (c : Int) : sumC (l ++ r) c = sumC l c + sumC r c := by
  induction l with
  | nil => simp [sumC]
  | cons d l ih => simp only [List.cons_append, sumC, ih]; omega
theorem sumC_perm {l r : List Hd} (h : l.Perm r) (c : Int) : sumC l c = sumC r c := by
  induction h with
  | nil => rfl
  | cons x _ ih => simp only [sumC, ih]
  | swap x y l => simp only [sumC]; omega
  | trans _ _ h1 h2 => exact h1.trans h2
theorem sumC_nonneg {l : List Hd} (h : ∀ d ∈ l, 0 ≤ d.a) (c : Int) : 0 ≤ sumC l c := by
  induction l with
  | nil => simp [sumC]
  | cons d l ih =>
    have h1 := h d (by simp)
    have h2 := ih (fun x hx => h x (by simp [hx]))
    simp only [sumC]
    split <;> omega

theorem hold_from {ac : List (Int × Acc)} {hs : List (Int × Hd)} {o c n : Int} (hok : 1 ≤ o ∧ 0 ≤ n ∧ n ≤ 1125899906842624) (hr : holdR ac hs o c n = 0) : ∃ a, mget ac c = some a ∧ mget hs o = none ∧ n ≤ wrap64 (a.l - a.e) := by
  unfold holdR at hr
  rw [if_pos hok] at hr
  cases hm : mget ac c with
  | none => rw [hm] at hr; simp at hr
  | some a =>
    rw [hm] at hr
    simp only at hr
    cases hn : mget hs o with
    | some d => rw [hn] at hr; simp at hr
    | none =>
      rw [hn, if_neg (by decide)] at hr
      refine ⟨a, rfl, rfl, ?_⟩
      split at hr
      · exact absurd hr (by decide)
      · omega

/-- The book's holds, in sums. -/
structure Bal (ac : List (Int × Acc)) (hs : List (Int × Hd)) : Prop where
  exp : ∀ id a, mget ac id = some a → a.e = sumC (hs.map (·.2)) id ∧ a.l ≤ 1125899906842624 ∧ a.e ≤ a.l
  amt : ∀ p ∈ hs, 0 ≤ p.2.a
  nd : (hs.map (·.1)).Nodup

theorem Bal.nonneg {ac : List (Int × Acc)} {hs : List (Int × Hd)} (h : Bal ac hs) (c : Int) : 0 ≤ sumC (hs.map (·.2)) c := sumC_nonneg (fun d hd => by obtain ⟨p, hp, rfl⟩ := List.mem_map.1 hd; exact h.amt p hp) c
theorem Bal.bd {ac : List (Int × Acc)} {hs : List (Int × Hd)} (h : Bal ac hs) {id : Int} {a : Acc} (ha : mget ac id = some a) : 0 ≤ a.e ∧ a.e ≤ a.l ∧ a.l ≤ 1125899906842624 := by
  obtain ⟨h1, h2, h3⟩ := h.exp id a ha
  have := h.nonneg id
  omega
theorem Bal.hold {ac : List (Int × Acc)} {hs : List (Int × Hd)} (h : Bal ac hs) {o c n : Int} {a : Acc} (ha : mget ac c = some a) (ho : mget hs o = none) (h0 : 0 ≤ n) (hle : n ≤ wrap64 (a.l - a.e)) :
    Bal (mset ac c ⟨a.g, a.l, wrap64 (a.e + n)⟩) (mset hs o ⟨o, c, n⟩) := by
  have hb := h.bd ha
  have e1 : wrap64 (a.l - a.e) = a.l - a.e := wr_lim _ ⟨by omega, by omega⟩
  rw [e1] at hle
  have e2 : wrap64 (a.e + n) = a.e + n := wr_lim _ ⟨by omega, by omega⟩
  rw [e2]
  refine ⟨fun id b hbm => ?_, fun p hp => ?_, mset_nodup h.nd _ _⟩
  · have es : sumC ((mset hs o ⟨o, c, n⟩).map (·.2)) id = sumC (hs.map (·.2)) id + (if c = id then n else 0) := by
      rw [mset_new ho, List.map_append, sumC_append]
      simp [sumC]
    rw [es]
    rw [mget_mset] at hbm
    split at hbm
    · injection hbm with hbm
      subst hbm
      rename_i e
      subst e
      obtain ⟨h1, h2, h3⟩ := h.exp _ a ha
      rw [if_pos rfl]
      exact ⟨by simp only; omega, h2, by simp only; omega⟩
    · rename_i e
      rw [if_neg (fun e' => e e'.symm), Int.add_zero]
      exact h.exp id b hbm
  · rcases mem_mset hp with rfl | ⟨hp', _⟩
    · exact h0
    · exact h.amt p hp'
theorem Bal.rel {ac : List (Int × Acc)} {hs : List (Int × Hd)} (h : Bal ac hs) {o : Int} {d : Hd} {a : Acc} (ha : mget ac d.c = some a) (ho : mget hs o = some d) :
    Bal (mset ac d.c ⟨a.g, a.l, wrap64 (a.e - d.a)⟩) (mdel hs o) := by
  have hb := h.bd ha
  have hp := perm_mdel h.nd ho
  have ham : ∀ p ∈ mdel hs o, 0 ≤ p.2.a := fun p hp => h.amt p (mem_mdel hp).1
  have es : ∀ id, sumC (hs.map (·.2)) id = (if d.c = id then d.a else 0) + sumC ((mdel hs o).map (·.2)) id := fun id => by
    rw [sumC_perm (hp.map (·.2)) id]
    rfl
  have h0 : 0 ≤ d.a := h.amt (o, d) (mget_mem ho)
  have hn : ∀ id, 0 ≤ sumC ((mdel hs o).map (·.2)) id := fun id => sumC_nonneg (fun d hd => by obtain ⟨p, hp, rfl⟩ := List.mem_map.1 hd; exact ham p hp) id
  have h1 := (h.exp _ a ha).1
  have h2 := es d.c
  rw [if_pos rfl] at h2
  have h3 := hn d.c
  have e2 : wrap64 (a.e - d.a) = a.e - d.a := wr_lim _ ⟨by omega, by omega⟩
  rw [e2]
  refine ⟨fun id b hbm => ?_, ham, mdel_nodup h.nd _⟩
  rw [mget_mset] at hbm
  split at hbm
  · injection hbm with hbm
    subst hbm
    rename_i e
    subst e
    exact ⟨by simp only; omega, hb.2.2, by simp only; omega⟩
  · rename_i e
    have := h.exp id b hbm
    have h4 := es id
    rw [if_neg (fun e' => e e'.symm), Int.zero_add] at h4
    rw [← h4]
    exact this

/-- What has come of the holds, in sums. -/
def PartS (hs left : List (Int × Hd)) (c s : Int) : Prop := ∃ ps : List (Int × Hd), (ps ++ left).Perm hs ∧ s = sumC (ps.map (·.2)) c
theorem PartS.start (hs : List (Int × Hd)) (c : Int) : PartS hs hs c 0 := ⟨[], List.Perm.refl _, rfl⟩
theorem PartS.step {hs left left' : List (Int × Hd)} {c s k : Int} {v : Hd} (h : PartS hs left c s) (hp : left.Perm ((k, v) :: left')) : PartS hs left' c (s + (if v.c = c then v.a else 0)) := by
  obtain ⟨ps, h1, rfl⟩ := h
  refine ⟨ps ++ [(k, v)], by rw [List.append_assoc]; exact (hp.symm.append_left ps).trans h1, ?_⟩
  rw [List.map_append, sumC_append]
  simp [sumC]
theorem PartS.done {hs : List (Int × Hd)} {c s : Int} (h : PartS hs [] c s) : s = sumC (hs.map (·.2)) c := by
  obtain ⟨ps, h1, rfl⟩ := h
  rw [List.append_nil] at h1
  exact sumC_perm (h1.map _) c
theorem PartS.bd {ac : List (Int × Acc)} {hs left : List (Int × Hd)} {c s : Int} (h : PartS hs left c s) (hB : Bal ac hs) : 0 ≤ s ∧ s ≤ sumC (hs.map (·.2)) c := by
  obtain ⟨ps, h1, rfl⟩ := h
  have e := sumC_perm (h1.map (·.2)) c
  rw [List.map_append, sumC_append] at e
  have hm : ∀ p ∈ ps ++ left, 0 ≤ p.2.a := fun p hp => hB.amt p (h1.mem_iff.1 hp)
  have a1 := sumC_nonneg (l := ps.map (·.2)) (fun d hd => by obtain ⟨p, hp, rfl⟩ := List.mem_map.1 hd; exact hm p (by simp [hp])) c
  have a2 := sumC_nonneg (l := left.map (·.2)) (fun d hd => by obtain ⟨p, hp, rfl⟩ := List.mem_map.1 hd; exact hm p (by simp [hp])) c
  omega

theorem mset_len {κ ν : Type} [DecidableEq κ] {m : List (κ × ν)} {a : κ} {b : ν} : (mset m a b).length ≤ m.length + 1 := by
  unfold mset
  split <;> simp
theorem mdel_len {κ ν : Type} [DecidableEq κ] {m : List (κ × ν)} {a : κ} : (mdel m a).length ≤ m.length := List.length_filter_le _ _

end Go.Proofs.Ytpofhadeepgmbaa
