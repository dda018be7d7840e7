/-
  Maps that the call itself made, continued: delete.
-/
import Derived.Test.YtemhoaapapeilaaTouch
namespace Go.Proofs.Ytemhoaapapeilaa
open Go.RowKit
set_option linter.unusedVariables false

section
variable {κ ν : Type} [DecidableEq κ] {P : Program} {w : World} {B : Nat} {kE : κ → Value} {vE : ν → Value} {m : List (κ × ν)} {kt : TypeId}

omit [DecidableEq κ] in
theorem map_eraseIdx' {α β : Type} (f : α → β) (l : List α) (j : Nat) : (l.eraseIdx j).map f = (l.map f).eraseIdx j := by
  induction l generalizing j with
  | nil => simp
  | cons x l ih => cases j with
    | zero => rfl
    | succ j => simp [ih]

theorem mdel_none {a : κ} (h : a ∉ m.map (·.1)) : mdel m a = m := by
  unfold mdel
  rw [List.filter_eq_self]
  intro p hp
  simp only [decide_eq_true_eq]
  exact fun e => h (by rw [← e]; exact List.mem_map_of_mem hp)

theorem eraseIdx_mdel {l : List (κ × ν)} (hd : (l.map (·.1)).Nodup) {j : Nat} {a : κ} {b : ν} (hj : l[j]? = some (a, b)) : mdel l a = l.eraseIdx j := by
  induction l generalizing j with
  | nil => simp at hj
  | cons p l ih =>
    simp only [List.map_cons, List.nodup_cons] at hd
    cases j with
    | zero =>
      simp only [List.getElem?_cons_zero, Option.some.injEq] at hj
      subst hj
      have := mdel_none (m := l) (a := a) hd.1
      unfold mdel at this ⊢
      rw [List.filter_cons_of_neg (by simp), this]
      rfl
    | succ j =>
      simp only [List.getElem?_cons_succ] at hj
      have hne : p.1 ≠ a := fun e => hd.1 (by rw [e]; exact List.mem_map.2 ⟨_, List.mem_of_getElem? hj, rfl⟩)
      have := ih hd.2 hj
      unfold mdel at this ⊢
      rw [List.filter_cons_of_pos (by simpa using hne), this]
      rfl

/-- What a delete leaves. -/
theorem IsMap.drop {mt et : TypeId} (h : IsMap w B kE vE m) (K : KeyLaw P kt kE) (hm : P.underlying mt = some (.map kt et)) (a : κ) (ty k2 : TypeId) :
    ∃ w', (Builtin.delete_ #[mt, k2] ty #[.map (some B), kE a]).run P w = .ok (.tuple #[]) w' ∧ IsMap w' B kE vE (mdel m a) ∧ w.grownBy w' (some B) ∧ w'.heap.size = w.heap.size := by
  obtain ⟨es, c, hb, hr, hn, hbn, hd⟩ := h
  have hlt : B < w.heap.size := by
    rcases Nat.lt_or_ge B w.heap.size with hlt | hge
    · exact hlt
    · rw [Array.getElem?_eq_none hge] at hb; cases hb
  have grown : ∀ o, w.grownBy { w with heap := w.heap.setIfInBounds B o } (some B) := fun o =>
    ⟨rfl, rfl, rfl, by simp, fun k hk hne => by
      have : k ≠ B := fun e => hne (by rw [e])
      simp [Ne.symm this]⟩
  unfold Builtin.delete_
  rcases IsMap.find K hr hd a w with ⟨ha, hf⟩ | ⟨j, b0, e, hmj, hej, hek, hev, hg, hf⟩
  · refine ⟨{ w with heap := w.heap.setIfInBounds B (.map es.toArray c) }, ?_, ?_, grown _, by simp⟩
    · simp [run_underlying hm, Sem.run, hb, K.check, hf, getObj, setObj]
    · rw [mdel_none ha]
      exact ⟨es, c, by simp [hlt], hr, hn, hbn, hd⟩
  · have hje : j < es.length := (List.getElem?_eq_some_iff.1 hej).1
    refine ⟨{ w with heap := w.heap.setIfInBounds B (.map (es.eraseIdx j).toArray c) }, ?_, ?_, grown _, by simp⟩
    · simp [run_underlying hm, Sem.run, hb, K.check, hf, getObj, setObj]
    · rw [eraseIdx_mdel hd hmj]
      refine ⟨es.eraseIdx j, c, by simp [hlt], ?_, ?_, ?_, ?_⟩
      · rw [map_eraseIdx', map_eraseIdx', hr]
      · rw [map_eraseIdx']; exact hn.sublist (List.eraseIdx_sublist _ _)
      · exact fun e0 he0 => hbn e0 ((List.eraseIdx_sublist es j).subset he0)
      · rw [map_eraseIdx']; exact hd.sublist (List.eraseIdx_sublist _ _)

theorem wpList_drop {ops : Array Oper} {rest : List Oper} {o : Oper} {a : Act} {Q : Exit → Act → World → Prop} (w : World)
    (hgd : o.guard = none) (mo xo : Operand) (mt et k2 : TypeId) (hop : o.op = Op.call { callee := Callee.builtin Builtin.delete, args := #[mo, xo], argTypes := #[mt, k2] }) (K : KeyLaw P kt kE) (hm : P.underlying mt = some (.map kt et))
    (B : Nat) (m : List (κ × ν)) (hM : a.eval mo = .map (some B)) (h : IsMap w B kE vE m) (k : κ) (hx : a.eval xo = kE k)
    (hK : ∀ w', IsMap w' B kE vE (mdel m k) → w.grownBy w' (some B) → w'.heap.size = w.heap.size → wpList P ops Q rest (a.put o.dst (.tuple #[])) w') : wpList P ops Q (o :: rest) a w := by
  refine wpList_plain hgd fun K' hK' => ?_
  obtain ⟨w', hrun, r1, r2, r3⟩ := h.drop K hm k o.type k2
  unfold Oper.wp
  simp [execOp, hop, resolve, invoke, builtin, hM, hx, hrun, Result.andThen]
  exact hK' _ _ (hK w' r1 r2 r3)
end

end Go.Proofs.Ytemhoaapapeilaa
