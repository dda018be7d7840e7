/-
  Maps that the call itself made: a block of entries that reads as a list of pairs, in the order in which the keys came.
-/
import Derived.Test.YtemhoaapapeilaaBase
import Derived.Maps.OwnOps
import Derived.Maps.OwnSet
namespace Go.Proofs.Ytemhoaapapeilaa
open Go.RowKit

section
variable {κ ν : Type} [DecidableEq κ]

/-- The place of a key in a list. -/
def kpos (a : κ) : List κ → Nat → Option Nat
  | [], _ => none
  | b :: l, i => if a = b then some i else kpos a l (i + 1)

theorem kpos_none {a : κ} : ∀ {l : List κ} {i : Nat}, a ∉ l → kpos a l i = none
  | [], _, _ => rfl
  | b :: l, i, h => by
    simp only [List.mem_cons, not_or] at h
    simp only [kpos, if_neg h.1]
    exact kpos_none h.2

theorem kpos_some {a : κ} : ∀ {l : List κ} {i : Nat}, a ∈ l → ∃ j, kpos a l i = some (i + j) ∧ l[j]? = some a
  | b :: l, i, h => by
    by_cases e : a = b
    · subst e
      exact ⟨0, by simp [kpos], rfl⟩
    · have h' : a ∈ l := by simpa [e] using h
      obtain ⟨j, h1, h2⟩ := kpos_some (i := i + 1) h'
      exact ⟨j + 1, by simp only [kpos, if_neg e, h1]; congr 1; omega, by simpa using h2⟩

/-- What the map holds at a key. -/
def mget (m : List (κ × ν)) (a : κ) : Option ν := (m.find? fun p => decide (p.1 = a)).map (·.2)
/-- The map with the key's value. -/
def mset (m : List (κ × ν)) (a : κ) (b : ν) : List (κ × ν) := if a ∈ m.map (·.1) then m.map (fun p => if p.1 = a then (a, b) else p) else m ++ [(a, b)]
/-- The map without the key. -/
def mdel (m : List (κ × ν)) (a : κ) : List (κ × ν) := m.filter fun p => decide (p.1 ≠ a)

theorem mget_none {m : List (κ × ν)} {a : κ} (h : a ∉ m.map (·.1)) : mget m a = none := by
  unfold mget
  rw [List.find?_eq_none.2 (fun p hp => by simp only [decide_eq_true_eq]; rintro rfl; exact h (List.mem_map_of_mem hp))]
  rfl
theorem mget_mem {m : List (κ × ν)} {a : κ} {b : ν} (h : mget m a = some b) : (a, b) ∈ m := by
  unfold mget at h
  obtain ⟨p, h1, rfl⟩ := Option.map_eq_some_iff.1 h
  have := List.find?_some h1
  simp only [decide_eq_true_eq] at this
  subst this
  exact List.mem_of_find?_eq_some h1
theorem mget_key {m : List (κ × ν)} {a : κ} (h : a ∈ m.map (·.1)) : ∃ b, mget m a = some b := by
  obtain ⟨p, hp, rfl⟩ := List.mem_map.1 h
  unfold mget
  cases hf : m.find? fun q => decide (q.1 = p.1) with
  | none => have := List.find?_eq_none.1 hf p hp; simp at this
  | some q => exact ⟨q.2, rfl⟩
theorem mget_isSome {m : List (κ × ν)} {a : κ} : (mget m a).isSome = true ↔ a ∈ m.map (·.1) := by
  constructor
  · intro h
    obtain ⟨b, hb⟩ := Option.isSome_iff_exists.1 h
    exact List.mem_map.2 ⟨_, mget_mem hb, rfl⟩
  · intro h
    obtain ⟨b, hb⟩ := mget_key h
    simp [hb]
theorem mget_of_mem {m : List (κ × ν)} (hd : (m.map (·.1)).Nodup) {p : κ × ν} (h : p ∈ m) : mget m p.1 = some p.2 := by
  induction m with
  | nil => cases h
  | cons q m ih =>
    simp only [List.map_cons, List.nodup_cons] at hd
    cases h with
    | head => simp [mget]
    | tail _ h =>
      have hne : q.1 ≠ p.1 := fun e => hd.1 (by rw [e]; exact List.mem_map_of_mem h)
      have := ih hd.2 h
      unfold mget at this ⊢
      rw [List.find?_cons_of_neg (by simpa using hne)]
      exact this

theorem mset_keys {m : List (κ × ν)} {a : κ} {b : ν} : (mset m a b).map (·.1) = if a ∈ m.map (·.1) then m.map (·.1) else m.map (·.1) ++ [a] := by
  unfold mset
  split
  · rw [List.map_map]
    refine List.map_congr_left fun p _ => ?_
    simp only [Function.comp]
    split
    · rename_i h; exact h.symm
    · rfl
  · simp
theorem mset_nodup {m : List (κ × ν)} (hd : (m.map (·.1)).Nodup) (a : κ) (b : ν) : ((mset m a b).map (·.1)).Nodup := by
  rw [mset_keys]
  split
  · exact hd
  · rename_i h
    exact List.nodup_append.2 ⟨hd, by simp, fun x hx y hy e => h (by simp at hy; subst hy; subst e; exact hx)⟩
theorem mdel_nodup {m : List (κ × ν)} (hd : (m.map (·.1)).Nodup) (a : κ) : ((mdel m a).map (·.1)).Nodup := by
  exact hd.sublist (List.Sublist.map _ List.filter_sublist)
theorem mget_mset {m : List (κ × ν)} {a c : κ} {b : ν} : mget (mset m a b) c = if c = a then some b else mget m c := by
  unfold mset
  split
  · rename_i h
    induction m with
    | nil => simp at h
    | cons p m ih =>
      by_cases hp : p.1 = a
      · by_cases hc : c = a
        · subst hc; simp [mget, hp]
        · have hpc : ¬ p.1 = c := fun e => hc (by rw [← e, hp])
          have hac : ¬ a = c := fun e => hc e.symm
          rw [if_neg hc]
          have e1 : mget (p :: m) c = mget m c := by unfold mget; rw [List.find?_cons_of_neg (by simpa using hpc)]
          rw [e1]
          have e2 : mget ((p :: m).map fun p => if p.1 = a then (a, b) else p) c = mget (m.map fun p => if p.1 = a then (a, b) else p) c := by
            unfold mget
            rw [List.map_cons, if_pos hp, List.find?_cons_of_neg (by simpa using hac)]
          rw [e2]
          by_cases hm : a ∈ m.map (·.1)
          · rw [ih hm, if_neg hc]
          · congr 1
            rw [List.map_congr_left (g := id) (fun q hq => by
              have : ¬ q.1 = a := fun e => hm (by rw [← e]; exact List.mem_map_of_mem hq)
              simp [this])]
            simp
      · have hm : a ∈ m.map (·.1) := by
          simp only [List.map_cons, List.mem_cons] at h
          exact h.resolve_left (fun e => hp e.symm)
        by_cases hpc : p.1 = c
        · have hc : ¬ c = a := fun e => hp (by rw [hpc, e])
          rw [if_neg hc]
          unfold mget
          rw [List.map_cons, if_neg hp, List.find?_cons_of_pos (by simpa using hpc), List.find?_cons_of_pos (by simpa using hpc)]
        · have e1 : mget (p :: m) c = mget m c := by unfold mget; rw [List.find?_cons_of_neg (by simpa using hpc)]
          have e2 : mget ((p :: m).map fun p => if p.1 = a then (a, b) else p) c = mget (m.map fun p => if p.1 = a then (a, b) else p) c := by
            unfold mget
            rw [List.map_cons, if_neg hp, List.find?_cons_of_neg (by simpa using hpc)]
          rw [e1, e2, ih hm]
  · rename_i h
    unfold mget
    rw [List.find?_append]
    by_cases hc : c = a
    · subst hc
      rw [List.find?_eq_none.2 (fun p hp => by simp only [decide_eq_true_eq]; rintro rfl; exact h (List.mem_map_of_mem hp))]
      simp
    · have : ¬ a = c := fun e => hc e.symm
      rw [if_neg hc]
      simp [this]
theorem mget_mdel {m : List (κ × ν)} {a c : κ} : mget (mdel m a) c = if c = a then none else mget m c := by
  by_cases hc : c = a
  · subst hc
    rw [if_pos rfl]
    exact mget_none (by simp [mdel])
  · rw [if_neg hc]
    unfold mget mdel
    rw [List.find?_filter]
    congr 1
    refine congrArg (fun f => List.find? f m) (funext fun p => ?_)
    by_cases hp : p.1 = c
    · simp [hp, hc]
    · simp [hp]
end

/-! ### The keys' law -/

/-- What the model asks of a key: that it may be one, which entry it finds, that it stays. -/
structure KeyLaw (P : Program) (kt : TypeId) {κ : Type} [DecidableEq κ] (kE : κ → Value) : Prop where
  check : ∀ (e : Bool) (a : κ) (w : World), (Instr.checkKey e 10000 kt (kE a)).run P w = .ok () w
  find : ∀ (a : κ) (es : List MapEntry) (ks : List κ) (w : World), es.map (·.key) = ks.map kE → (Instr.findKey kt (kE a) es).run P w = .ok ((kpos a ks 0).bind fun i => (es[i]?).map fun e => (i, e.val)) w
  stays : ∀ (a : κ) (w : World), (Instr.keyThatStays (kE a) (kE a)).run P w = .ok (kE a) w

section
variable {P : Program}

theorem findAsking_run {kt : TypeId} {κ : Type} [DecidableEq κ] {kE : κ → Value} (heq : ∀ (a b : κ) (w : World), (Op.equal kt (kE a) (kE b)).run P w = .ok (decide (a = b)) w) (a : κ) :
    ∀ (es : List MapEntry) (ks : List κ) (i : Nat) (w : World), es.map (·.key) = ks.map kE →
      (Instr.findAsking kt (kE a) es i).run P w = .ok ((kpos a ks i).bind fun j => (es[j - i]?).map fun e => (j, e.val)) w
  | [], ks, i, w, h => by
    have : ks = [] := by simpa using h.symm
    subst this
    simp [Instr.findAsking, kpos]
  | e :: es, ks, i, w, h => by
    cases ks with
    | nil => simp at h
    | cons b ks =>
      simp only [List.map_cons, List.cons.injEq] at h
      unfold Instr.findAsking
      rw [Sem.run_bind, h.1, heq]
      simp only [Result.andThen_ok]
      by_cases hab : a = b
      · subst hab
        simp [kpos]
      · simp only [hab, decide_false]
        rw [show (if false = true then (pure (some (i, e.val)) : Sem _) else Instr.findAsking kt (kE a) es (i + 1)) = Instr.findAsking kt (kE a) es (i + 1) from rfl]
        rw [findAsking_run heq a es ks (i + 1) w h.2]
        simp only [kpos, if_neg hab]
        have key : ∀ (l : List κ) (s j : Nat), kpos a l s = some j → s ≤ j := by
          intro l
          induction l with
          | nil => intro s j h; simp [kpos] at h
          | cons c l ih =>
            intro s j h
            simp only [kpos] at h
            split at h
            · injection h with h; omega
            · have := ih (s + 1) j h; omega
        cases hk : kpos a ks (i + 1) with
        | none => rfl
        | some j =>
          have hj := key ks (i + 1) j hk
          simp only [Option.bind_some]
          rw [show j - i = (j - (i + 1)) + 1 from by omega, List.getElem?_cons_succ]

theorem keyLaw_of {kt : TypeId} {κ : Type} [DecidableEq κ] {kE : κ → Value} (hcheck : ∀ (e : Bool) (a : κ) (w : World), (Instr.checkKey e 10000 kt (kE a)).run P w = .ok () w)
    (heq : ∀ (a b : κ) (w : World), (Op.equal kt (kE a) (kE b)).run P w = .ok (decide (a = b)) w) (hstay : ∀ (a : κ) (w : World), (Instr.keyThatStays (kE a) (kE a)).run P w = .ok (kE a) w)
    {td : TypeDesc} (hu : P.underlying kt = some td) (hnow : ∀ a b : κ, Instr.sameNow td (kE a) (kE b) = none ∨ Instr.sameNow td (kE a) (kE b) = some (decide (a = b))) : KeyLaw P kt kE where
  check := hcheck
  stays := hstay
  find := by
    intro a es ks w h
    have hnowl : ∀ (es : List MapEntry) (ks : List κ) (i : Nat), es.map (·.key) = ks.map kE → ∀ r, Instr.findNow td (kE a) es i = some r → r = (kpos a ks i).bind fun j => (es[j - i]?).map fun e => (j, e.val) := by
      intro es
      induction es with
      | nil =>
        intro ks i h r hr
        have : ks = [] := by simpa using h.symm
        subst this
        simp [Instr.findNow] at hr
        subst hr; rfl
      | cons e es ih =>
        intro ks i h r hr
        cases ks with
        | nil => simp at h
        | cons b ks =>
          simp only [List.map_cons, List.cons.injEq] at h
          unfold Instr.findNow at hr
          rw [h.1] at hr
          rcases hnow a b with hn | hn
          · rw [hn] at hr; simp at hr
          · rw [hn] at hr
            by_cases hab : a = b
            · subst hab
              simp at hr
              subst hr
              simp [kpos]
            · simp only [hab, decide_false] at hr
              rw [ih ks (i + 1) h.2 r hr]
              simp only [kpos, if_neg hab]
              have key : ∀ (l : List κ) (s j : Nat), kpos a l s = some j → s ≤ j := by
                intro l
                induction l with
                | nil => intro s j h; simp [kpos] at h
                | cons c l ih =>
                  intro s j h
                  simp only [kpos] at h
                  split at h
                  · injection h with h; omega
                  · have := ih (s + 1) j h; omega
              cases hk : kpos a ks (i + 1) with
              | none => rfl
              | some j =>
                have hj := key ks (i + 1) j hk
                simp only [Option.bind_some]
                rw [show j - i = (j - (i + 1)) + 1 from by omega, List.getElem?_cons_succ]
    unfold Instr.findKey
    rw [Sem.run_bind, run_underlying hu]
    simp only [Result.andThen_ok]
    cases hn : Instr.findNow td (kE a) es 0 with
    | none =>
      simp only []
      rw [findAsking_run heq a es ks 0 w h]
      simp
    | some r =>
      simp only [Sem.run_pure]
      rw [hnowl es ks 0 h r hn]
      simp

theorem intKey {kt : TypeId} {k : IntKind} (hu : P.underlying kt = some (.int k)) : KeyLaw P kt (fun n : Int => Value.int k n) := by
  refine keyLaw_of ?_ ?_ ?_ hu ?_
  · intro e a w
    show (Instr.checkKey e (9999 + 1) kt (.int k a)).run P w = _
    unfold Instr.checkKey
    simp [run_underlying hu]
  · intro a b w
    show (Op.equalIn (9999 + 1) kt (.int k a) (.int k b)).run P w = _
    unfold Op.equalIn
    simp [run_underlying hu]
    rfl
  · intro a w
    show (Instr.keyThatStays (.int k a) (.int k a)).run P w = _
    unfold Instr.keyThatStays
    simp [Instr.sameBits]
  · intro a b
    right
    simp [Instr.sameNow]
    rfl
end
end Go.Proofs.Ytemhoaapapeilaa
