/-
  A plan while it is made: what lies where; what each change keeps.
-/
import Derived.Test.YtemhoaapapeilaaPd12
import Derived.Test.YtemhoaapapeilaaCe12
import Derived.Test.YtemhoaapapeilaaIns
namespace Go.Proofs.Ytemhoaapapeilaa
open Go.RowKit Go.WideShapes Go.ChangeShapes Go.ChangeAt Go.Deep
set_option linter.unusedVariables false

/-- A row of numbers in a plan. -/
structure IRow where
  A : Option Addr
  cap : Nat
  xs : List Int
def enR (b : IRow) : List Value := [.slice b.A b.xs.length b.cap]
theorem enR_len (b : IRow) : (enR b).length = 1 := rfl
def OwnR (base : Nat) (w : World) (b : IRow) : Prop := w.ownsRow base 3 1 (.slice b.A b.xs.length b.cap) b.xs.length (b.xs.flatMap en1)
theorem own_next {w w' : World} {base : Nat} {e : TypeId} {size : Nat} {v : Value} {n : Nat} {xs : List Value} (h : w.ownsRow base e size v n xs) (hb : Below w.heap.size w w') : w'.ownsRow base e size v n xs := own_touch h (Touch.of_below (S := fun _ => False) hb) (fun g _ hf => hf)
def planC (nm : ByteArray) (vS vB : Value) : Array Value := #[.string nm, vS, vB, .int .u32 0, .int .i32 0, .int .u32 0, .slice none 0 0, .int .i64 0]
structure CmS (w0 : World) (nm : ByteArray) (l : List Stp) (A : Option Addr) (cp D0 V6 P M : Nat) (am : List (ByteArray × Int)) (vS vB : Value) (Ls : List Stp) (Bs : List IRow) (w : World) : Prop where
  d : Blk w D0 24 #[.string nm, .slice A l.length cp]
  v : Blk w V6 30 #[.map (some M)]
  m : IsMap w M kS vN am
  p : Blk w P 75 (planC nm vS vB)
  os : w.ownsRow w0.heap.size 34 9 vS Ls.length (Ls.flatMap enSt)
  ob : w.ownsRow w0.heap.size 36 1 vB Bs.length (Bs.flatMap enR)
  st : ∀ s ∈ Ls, OwnSt w0.heap.size w s
  rw : ∀ b ∈ Bs, OwnR w0.heap.size w b
  bel : Below w0.heap.size w0 w
  lo : w0.heap.size ≤ P ∧ w0.heap.size ≤ M
section
variable {w0 : World} {nm : ByteArray} {l : List Stp} {A : Option Addr} {cp D0 V6 P M : Nat} {am am' : List (ByteArray × Int)} {vS vB u : Value} {Ls : List Stp} {Bs : List IRow} {w w' : World}
theorem CmS.next (h : CmS w0 nm l A cp D0 V6 P M am vS vB Ls Bs w) (hb : Below w.heap.size w w') : CmS w0 nm l A cp D0 V6 P M am vS vB Ls Bs w' :=
  ⟨h.d.next hb, h.v.next hb, h.m.next hb, h.p.next hb, own_next h.os hb, own_next h.ob hb, fun s hs => own_next (h.st s hs) hb, fun b hbb => own_next (h.rw b hbb) hb, bthen h.bel hb, h.lo⟩
theorem CmS.map (h : CmS w0 nm l A cp D0 V6 P M am vS vB Ls Bs w) (hT : Touch (· = M) w w') (hM : IsMap w' M kS vN am') : CmS w0 nm l A cp D0 V6 P M am' vS vB Ls Bs w' :=
  have no : ∀ {base : Nat} {e : TypeId} {size : Nat} {v : Value} {n : Nat} {xs : List Value}, w.ownsRow base e size v n xs → w'.ownsRow base e size v n xs := fun ho => own_touch ho hT (fun g hg e => h.m.notOwn ho (by rw [hg, e]))
  ⟨hT.blk h.d (fun e => h.m.notBlk h.d e.symm), hT.blk h.v (fun e => h.m.notBlk h.v e.symm), hM, hT.blk h.p (fun e => h.m.notBlk h.p e.symm), no h.os, no h.ob, fun s hs => no (h.st s hs), fun b hb => no (h.rw b hb), h.bel.trans (hT.below h.bel.size (fun k hk => by rw [hk]; exact h.lo.2)), h.lo⟩
/-- The row of the steps has one more. -/
theorem CmS.grewS (h : CmS w0 nm l A cp D0 V6 P M am vS vB Ls Bs w) (hT : Touch (fun k => vS.ownBlock = some k) w w') (t : Stp) (ho : w'.ownsRow w0.heap.size 34 9 u (Ls.length + 1) (Ls.flatMap enSt ++ enSt t)) (ht : OwnSt w0.heap.size w' t) :
    CmS w0 nm l A cp D0 V6 P M am u vB (Ls ++ [t]) Bs (w'.setCell ⟨P, 1, none⟩ u) := by
  have no : ∀ {base : Nat} {e : TypeId} {size : Nat} {v : Value} {n : Nat} {xs : List Value}, 34 ≠ e → w.ownsRow base e size v n xs → w'.ownsRow base e size v n xs := fun hne ho2 => own_touch ho2 hT (fun g hg e => own_other h.os ho2 hne hg e)
  have hp := hT.blk h.p (fun e => own_notBlk h.os h.p (by decide) e)
  have hT2 := Touch.setCell w' P 1 u
  have no2 : ∀ {base : Nat} {e : TypeId} {size : Nat} {v : Value} {n : Nat} {xs : List Value}, e ≠ 75 → w'.ownsRow base e size v n xs → (w'.setCell ⟨P, 1, none⟩ u).ownsRow base e size v n xs := fun hne ho2 => own_touch ho2 hT2 (fun g hg e => own_notBlk ho2 hp hne (by rw [hg, e]))
  have hd := hT.blk h.d (fun e => own_notBlk h.os h.d (by decide) e)
  have hv := hT.blk h.v (fun e => own_notBlk h.os h.v (by decide) e)
  have hm := hT.isMap h.m (fun e => h.m.notOwn h.os e.symm)
  have hb := h.bel.trans (hT.below h.bel.size (fun k hk => (h.os.lt k hk).1))
  refine ⟨hT2.blk hd (fun e => hd.ne_ hp (by decide) e), hT2.blk hv (fun e => hv.ne_ hp (by decide) e), hT2.isMap hm (fun e => hm.notBlk hp e), hp.set_ 1 u, ?_, no2 (by decide) (no (by decide) h.ob), fun s hs => ?_, fun b hbb => no2 (by decide) (no (by decide) (h.rw b hbb)), hb.trans (hT2.below hb.size (fun k hk => by rw [hk]; exact h.lo.1)), h.lo⟩
  · have := no2 (by decide) ho
    rw [List.flatMap_append, List.length_append]
    simpa using this
  · rcases List.mem_append.1 hs with hs | hs
    · exact no2 (by decide) (no (by decide) (h.st s hs))
    · simp at hs; subst hs; exact no2 (by decide) ht
/-- The row of the rows has one more. -/
theorem CmS.grewB {g0 : Option Nat} (h : CmS w0 nm l A cp D0 V6 P M am vS vB Ls Bs w) (hT : Touch (fun k => vB.ownBlock = some k ∨ g0 = some k) w w') (hg0 : ∀ k, g0 = some k → w0.heap.size ≤ k)
    (hnd : g0 ≠ some D0) (hnv : g0 ≠ some V6) (hnp : g0 ≠ some P) (hnm : g0 ≠ some M) (hns : ∀ k, vS.ownBlock = some k → g0 ≠ some k) (hnst : ∀ s ∈ Ls, ∀ k, (Value.slice s.A s.after.length s.cap).ownBlock = some k → g0 ≠ some k) (hnr : ∀ b ∈ Bs, ∀ k, (Value.slice b.A b.xs.length b.cap).ownBlock = some k → g0 ≠ some k)
    (t : IRow) (ho : w'.ownsRow w0.heap.size 36 1 u (Bs.length + 1) (Bs.flatMap enR ++ enR t)) (ht : OwnR w0.heap.size w' t) :
    CmS w0 nm l A cp D0 V6 P M am vS u Ls (Bs ++ [t]) (w'.setCell ⟨P, 2, none⟩ u) := by
  have no : ∀ {base : Nat} {e : TypeId} {size : Nat} {v : Value} {n : Nat} {xs : List Value}, 36 ≠ e → (∀ k, v.ownBlock = some k → g0 ≠ some k) → w.ownsRow base e size v n xs → w'.ownsRow base e size v n xs := fun hne hg1 ho2 => own_touch ho2 hT (fun g hg e => e.elim (fun e => own_other h.ob ho2 hne hg e) (fun e => hg1 g hg e))
  have hp := hT.blk h.p (fun e => e.elim (fun e => own_notBlk h.ob h.p (by decide) e) hnp)
  have hT2 := Touch.setCell w' P 2 u
  have no2 : ∀ {base : Nat} {e : TypeId} {size : Nat} {v : Value} {n : Nat} {xs : List Value}, e ≠ 75 → w'.ownsRow base e size v n xs → (w'.setCell ⟨P, 2, none⟩ u).ownsRow base e size v n xs := fun hne ho2 => own_touch ho2 hT2 (fun g hg e => own_notBlk ho2 hp hne (by rw [hg, e]))
  have hd := hT.blk h.d (fun e => e.elim (fun e => own_notBlk h.ob h.d (by decide) e) hnd)
  have hv := hT.blk h.v (fun e => e.elim (fun e => own_notBlk h.ob h.v (by decide) e) hnv)
  have hm := hT.isMap h.m (fun e => e.elim (fun e => h.m.notOwn h.ob e.symm) hnm)
  have hb := h.bel.trans (hT.below h.bel.size (fun k hk => hk.elim (fun hk => (h.ob.lt k hk).1) (hg0 k)))
  refine ⟨hT2.blk hd (fun e => hd.ne_ hp (by decide) e), hT2.blk hv (fun e => hv.ne_ hp (by decide) e), hT2.isMap hm (fun e => hm.notBlk hp e), hp.set_ 2 u, no2 (by decide) (no (by decide) hns h.os), ?_, fun s hs => no2 (by decide) (no (by decide) (hnst s hs) (h.st s hs)), fun b hbb => ?_, hb.trans (hT2.below hb.size (fun k hk => by rw [hk]; exact h.lo.1)), h.lo⟩
  · have := no2 (by decide) ho
    rw [List.flatMap_append, List.length_append]
    simpa using this
  · rcases List.mem_append.1 hbb with hbb | hbb
    · exact no2 (by decide) (no (by decide) (hnr b hbb) (h.rw b hbb))
    · simp at hbb; subst hbb; exact no2 (by decide) ht
end
/-- What is known of the steps that are in the plan. -/
structure PlG (l : List Stp) (ds : List Nat) (Ls : List Stp) (Bs : List IRow) : Prop where
  ls : Ls.length = ds.length
  bs : Bs.length = ds.length
  step : ∀ (p i : Nat), ds[p]? = some i → ∃ (s : Stp) (A : Option Addr) (cap : Nat), l[i]? = some s ∧ Ls[p]? = some (twn s A cap)
  row : ∀ (p i : Nat), ds[p]? = some i → ∃ b : IRow, Bs[p]? = some b ∧ BfOk (grf l) ds i b.xs
theorem PlG.nil (l : List Stp) : PlG l [] [] [] := ⟨rfl, rfl, fun p i h => by simp at h, fun p i h => by simp at h⟩
theorem PlG.snoc {l : List Stp} {ds : List Nat} {Ls : List Stp} {Bs : List IRow} (h : PlG l ds Ls Bs) (ho : OrdOk (grf l) ds) {i : Nat} {s : Stp} (hs : l[i]? = some s) (hi : ∀ k ∈ adj (grf l) i, k ∈ ds) (A : Option Addr) (cap : Nat) (b : IRow) (hb : BfOk (grf l) ds i b.xs) : PlG l (ds ++ [i]) (Ls ++ [twn s A cap]) (Bs ++ [b]) := by
  refine ⟨by simp [h.ls], by simp [h.bs], fun p j hp => ?_, fun p j hp => ?_⟩
  · by_cases hpl : p < ds.length
    · rw [List.getElem?_append_left hpl] at hp
      obtain ⟨s', A', c', h1, h2⟩ := h.step p j hp
      exact ⟨s', A', c', h1, by rw [List.getElem?_append_left (by rw [h.ls]; exact hpl)]; exact h2⟩
    · have hpe : p = ds.length := by have := (List.getElem?_eq_some_iff.1 hp).1; simp at this; omega
      subst hpe
      rw [List.getElem?_append_right (Nat.le_refl _)] at hp
      simp at hp
      subst hp
      exact ⟨s, A, cap, hs, by rw [List.getElem?_append_right (by rw [h.ls]; exact Nat.le_refl _), h.ls]; simp⟩
  · by_cases hpl : p < ds.length
    · rw [List.getElem?_append_left hpl] at hp
      obtain ⟨b', h1, h2⟩ := h.row p j hp
      refine ⟨b', by rw [List.getElem?_append_left (by rw [h.bs]; exact hpl)]; exact h1, h2.snoc (fun k hk => ?_)⟩
      exact List.mem_of_mem_take (ho.before p j hp k hk)
    · have hpe : p = ds.length := by have := (List.getElem?_eq_some_iff.1 hp).1; simp at this; omega
      subst hpe
      rw [List.getElem?_append_right (Nat.le_refl _)] at hp
      simp at hp
      subst hp
      exact ⟨b, by rw [List.getElem?_append_right (by rw [h.bs]; exact Nat.le_refl _), h.bs]; simp, hb.snoc hi⟩

end Go.Proofs.Ytemhoaapapeilaa
