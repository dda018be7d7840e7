/-
  The inbox's Restore: plain facts of lists of entries.
-/
import Derived.Test.YtidjkigkfefojaaList08
import Derived.Test.YtidjkigkfefojaaAlone
namespace Go.Proofs.Ytidjkigkfefojaa
open Go.RowKit Go.WideShapes
set_option linter.unusedVariables false

def keyE (e : Ent) : Int × Int := (e.o, e.s)
/-- What a list of entries makes of an empty inbox. -/
def restM (l : List Ent) : List ((Int × Int) × Ent) := l.foldl (fun m e => mset m (keyE e) e) []
theorem restM_snoc (l : List Ent) (e : Ent) : restM (l ++ [e]) = mset (restM l) (keyE e) e := by simp [restM]

/-- May an entry stand in a list? -/
def EntOk (e : Ent) : Prop := 0 ≤ e.t ∧ (e.t = 0 → e.c = 0 ∧ e.b = true)
/-- A map whose entries bear their own keys, each well made. -/
def MapOk (m : List ((Int × Int) × Ent)) : Prop := ∀ p ∈ m, keyE p.2 = p.1 ∧ EntOk p.2

theorem fold_not {p : Int × Int} : ∀ (l : List Ent) (m0 : List ((Int × Int) × Ent)), p ∉ l.map keyE → mget (l.foldl (fun m e => mset m (keyE e) e) m0) p = mget m0 p
  | [], _, _ => rfl
  | e :: l, m0, h => by
    simp only [List.map_cons, List.mem_cons, not_or] at h
    rw [List.foldl_cons, fold_not l _ h.2, mget_mset, if_neg h.1]
theorem fold_mem {e : Ent} : ∀ (l : List Ent) (m0 : List ((Int × Int) × Ent)), (l.map keyE).Nodup → e ∈ l → mget (l.foldl (fun m e => mset m (keyE e) e) m0) (keyE e) = some e
  | [], _, _, h => by cases h
  | a :: l, m0, hd, h => by
    simp only [List.map_cons, List.nodup_cons] at hd
    rw [List.foldl_cons]
    rcases List.mem_cons.1 h with rfl | h'
    · rw [fold_not l _ hd.1, mget_mset, if_pos rfl]
    · exact fold_mem l _ hd.2 h'

theorem mapOk_keys {m : List ((Int × Int) × Ent)} (h : MapOk m) : (m.map (·.2)).map keyE = m.map (·.1) := by
  rw [List.map_map]
  exact List.map_congr_left fun p hp => (h p hp).1

/-- The list of a map's entries makes the same inbox again. -/
theorem restM_same {m : List ((Int × Int) × Ent)} {l : List Ent} (h : MapOk m) (hd : (m.map (·.1)).Nodup) (hp : l.Perm (m.map (·.2))) (p : Int × Int) : entAt (restM l) p = entAt m p := by
  have hk : (l.map keyE).Nodup := ((hp.map keyE).nodup_iff).2 (by rw [mapOk_keys h]; exact hd)
  unfold entAt
  congr 1
  by_cases hin : p ∈ m.map (·.1)
  · obtain ⟨q, hq, rfl⟩ := List.mem_map.1 hin
    have hl : q.2 ∈ l := hp.mem_iff.2 (List.mem_map_of_mem hq)
    rw [mget_of_mem hd hq, ← (h q hq).1]
    exact fold_mem l [] hk hl
  · rw [mget_none hin]
    unfold restM
    rw [fold_not l [] (by rw [(hp.map keyE).mem_iff, mapOk_keys h]; exact hin)]
    rfl

theorem mapOk_keep {m : List ((Int × Int) × Ent)} (h : MapOk m) (o s t : Int) (u : Bool) (c : Int) : MapOk (keepM m o s t u c) := by
  unfold keepM
  split
  · rename_i hf
    intro p hp
    rcases mem_mset hp with rfl | ⟨hp', _⟩
    · have he : EntOk (entAt m (o, s)) ∨ entAt m (o, s) = noEnt := by
        unfold entAt
        cases hg : mget m (o, s) with
        | none => exact .inr rfl
        | some e => exact .inl (h _ (mget_mem hg)).2
      cases u with
      | true =>
        refine ⟨rfl, ?_⟩
        simp only [keepE, if_true]
        rcases he with ⟨h1, h2⟩ | h1
        · exact ⟨h1, fun h0 => ⟨(h2 h0).1, rfl⟩⟩
        · rw [h1]; exact ⟨Int.le_refl _, fun _ => ⟨rfl, rfl⟩⟩
      | false =>
        refine ⟨rfl, ?_⟩
        have ht : 1 ≤ t := by
          unfold askF at hf
          simp only [Bool.false_eq_true, if_false] at hf
          split at hf
          · exact absurd hf (by decide)
          · split at hf
            · exact absurd hf (by decide)
            · omega
        simp only [keepE, Bool.false_eq_true, if_false]
        exact ⟨by show 0 ≤ t; omega, fun h0 => by have : t = 0 := h0; omega⟩
    · exact h p hp'
  · exact h
theorem keepM_length (m : List ((Int × Int) × Ent)) (o s t : Int) (u : Bool) (c : Int) : (keepM m o s t u c).length ≤ m.length + 1 := by
  unfold keepM
  split
  · unfold mset
    split <;> simp
  · omega

/-- Sorted, and no key twice: each comes ahead of the next. -/
theorem strict_of {m : List ((Int × Int) × Ent)} {l : List Ent} (h : MapOk m) (hd : (m.map (·.1)).Nodup) (hp : l.Perm (m.map (·.2))) (hs : l.Pairwise (fun a b => ltE b a = false)) : l.Pairwise (fun a b => ltE a b = true) := by
  have hk : (l.map keyE).Nodup := ((hp.map keyE).nodup_iff).2 (by rw [mapOk_keys h]; exact hd)
  have hk2 : l.Pairwise (fun a b => keyE a ≠ keyE b) := List.pairwise_map.1 hk
  refine (hs.and hk2).imp ?_
  rintro a b ⟨h1, h2⟩
  rw [ltE_iff]
  have h3 : ¬ (b.o < a.o ∨ (b.o = a.o ∧ b.s < a.s)) := fun e => by rw [(ltE_iff b a).2 e] at h1; cases h1
  have h4 : ¬ (a.o = b.o ∧ a.s = b.s) := fun e => h2 (by unfold keyE; rw [e.1, e.2])
  omega

end Go.Proofs.Ytidjkigkfefojaa
