/-
  What a call leaves untouched: all blocks but those of a set; and what that keeps.
-/
import Derived.Test.YtemhoaapapeilaaWords
namespace Go.Proofs.Ytemhoaapapeilaa
open Go.RowKit
set_option linter.unusedVariables false

/-- w' is w with new blocks, and writes to blocks of S alone. -/
structure Touch (S : Nat → Prop) (w w' : World) : Prop where
  os : w'.os = w.os
  tape : w'.tape = w.tape
  output : w'.output = w.output
  size : w.heap.size ≤ w'.heap.size
  block : ∀ k, k < w.heap.size → ¬ S k → w'.heap[k]? = w.heap[k]?

section
variable {S T : Nat → Prop} {w w1 w2 w' : World}
theorem Touch.of_below (h : Below w.heap.size w w') : Touch S w w' := ⟨h.os, h.tape, h.output, h.size, fun k hk _ => h.block k hk⟩
theorem Touch.of_grown {B : Nat} (h : w.grownBy w' (some B)) : Touch (· = B) w w' := ⟨h.os, h.tape, h.output, h.size, fun k hk hn => h.block k hk (fun e => hn (by injection e))⟩
theorem Touch.refl (S : Nat → Prop) (w : World) : Touch S w w := ⟨rfl, rfl, rfl, Nat.le_refl _, fun _ _ _ => rfl⟩
theorem Touch.trans (h1 : Touch S w w1) (h2 : Touch T w1 w2) (hT : ∀ k, T k → S k ∨ w.heap.size ≤ k) : Touch S w w2 :=
  ⟨h2.os.trans h1.os, h2.tape.trans h1.tape, h2.output.trans h1.output, Nat.le_trans h1.size h2.size, fun k hk hn =>
    (h2.block k (Nat.lt_of_lt_of_le hk h1.size) (fun ht => (hT k ht).elim hn (fun h => by omega))).trans (h1.block k hk hn)⟩
theorem Touch.then (h1 : Touch S w w1) (h2 : Touch S w1 w2) : Touch S w w2 := h1.trans h2 (fun _ h => .inl h)
theorem Touch.mono (h : Touch S w w') (hT : ∀ k, S k → T k) : Touch T w w' := ⟨h.os, h.tape, h.output, h.size, fun k hk hn => h.block k hk (fun hs => hn (hT k hs))⟩
theorem Touch.below {n : Nat} (h : Touch S w w') (hn : n ≤ w.heap.size) (hS : ∀ k, S k → n ≤ k) : Below n w w' :=
  ⟨h.os, h.tape, h.output, h.size, fun k hk => h.block k (by omega) (fun hs => by have := hS k hs; omega)⟩
theorem Touch.drewN (h : Touch S w w') (n : Nat) : Touch S w (w'.drewN n) := ⟨h.os, h.tape, h.output, h.size, h.block⟩
theorem Touch.drew (h : Touch S w w') : Touch S w w'.drew := ⟨h.os, h.tape, h.output, h.size, h.block⟩
theorem Touch.alloc (h : Touch S w w') (o : Obj) : Touch S w (w'.alloc o) := h.then (.of_below ((Below.refl _ _).alloc (Nat.le_refl _) o))
theorem Touch.setCell (w : World) (g i : Nat) (v : Value) : Touch (· = g) w (w.setCell ⟨g, i, none⟩ v) :=
  ⟨rfl, rfl, rfl, by simp [World.setCell], fun k hk hn => Below.heap_setCell w ⟨g, i, none⟩ v k (fun e => hn e)⟩
theorem Touch.isMap {κ ν : Type} {kE : κ → Value} {vE : ν → Value} {B : Nat} {m : List (κ × ν)} (h : Touch S w w') (hM : IsMap w B kE vE m) (hB : ¬ S B) : IsMap w' B kE vE m := hM.keep (h.block B hM.lt hB)
theorem Touch.blk {g : Nat} {t : TypeId} {cs : Array Value} (h : Touch S w w') (hg : Blk w g t cs) (hS : ¬ S g) : Blk w' g t cs := (h.block g hg.lt hS).trans hg
theorem Touch.rd {A : Option Addr} {xs : List Value} (h : Touch S w w') (hR : Rd w A xs) (hS : ∀ b, A.map (·.block) = some b → ¬ S b) : Rd w' A xs := by
  rcases hR with h0 | ⟨b, off, hA, hlt, hc⟩
  · exact .inl h0
  · have hk := h.block b hlt (hS b (by rw [hA]; rfl))
    exact .inr ⟨b, off, hA, Nat.lt_of_lt_of_le hlt h.size, fun j u hu => (World.cell?_of_block (a := ⟨b, off + j, none⟩) hk).trans (hc j u hu)⟩
end

section
variable {κ ν : Type} [DecidableEq κ] {m : List (κ × ν)} {a : κ} {b : ν}
theorem mem_mset {p : κ × ν} (h : p ∈ mset m a b) : p = (a, b) ∨ (p ∈ m ∧ p.1 ≠ a) := by
  unfold mset at h
  split at h
  · obtain ⟨q, hq, rfl⟩ := List.mem_map.1 h
    by_cases e : q.1 = a
    · simp [e]
    · simp [e, hq]
  · rename_i hn
    rcases List.mem_append.1 h with h | h
    · right
      exact ⟨h, fun e => hn (List.mem_map.2 ⟨p, h, e⟩)⟩
    · left; simpa using h
theorem mem_mdel {p : κ × ν} (h : p ∈ mdel m a) : p ∈ m ∧ p.1 ≠ a := by
  unfold mdel at h
  have := List.mem_filter.1 h
  exact ⟨this.1, by simpa using this.2⟩
/-- A place set anew that reads the same. -/
theorem mset_map_same {τ : Type} (f : ν → τ) {b0 : ν} (hm : mget m a = some b0) (hd : (m.map (·.1)).Nodup) (hf : f b = f b0) : (mset m a b).map (fun p => (p.1, f p.2)) = m.map (fun p => (p.1, f p.2)) := by
  have hk : a ∈ m.map (·.1) := mget_isSome.1 (by rw [hm]; rfl)
  unfold mset
  rw [if_pos hk, List.map_map]
  refine List.map_congr_left fun p hp => ?_
  simp only [Function.comp]
  split
  · rename_i e
    have := mget_of_mem hd hp
    rw [e, hm] at this
    injection this with this
    simp [← e, hf, this]
  · rfl
end

/-- A map that holds pointers: what they point to is not its own affair. -/
theorem IsMap.same {κ ν : Type} {w : World} {B : Nat} {kE : κ → Value} {vE : ν → Value} {m m' : List (κ × ν)} (h : IsMap w B kE vE m) (hm : m'.map (fun p => (p.1, vE p.2)) = m.map (fun p => (p.1, vE p.2))) : IsMap w B kE vE m' := by
  obtain ⟨es, c, h1, h2, h3, h4, h5⟩ := h
  refine ⟨es, c, h1, ?_, h3, h4, ?_⟩
  · rw [h2]
    have := congrArg (List.map fun (q : κ × Value) => (kE q.1, q.2)) hm
    simp only [List.map_map] at this
    exact this.symm
  · have := congrArg (List.map fun (q : κ × Value) => q.1) hm
    simp only [List.map_map] at this
    have e : m'.map (·.1) = m.map (·.1) := this
    rw [e]; exact h5

theorem mset_new {κ ν : Type} [DecidableEq κ] {m : List (κ × ν)} {a : κ} {b : ν} (h : mget m a = none) : mset m a b = m ++ [(a, b)] := by
  unfold mset
  rw [if_neg]
  intro hk
  obtain ⟨c, hc⟩ := mget_key hk
  rw [h] at hc
  cases hc

end Go.Proofs.Ytemhoaapapeilaa
