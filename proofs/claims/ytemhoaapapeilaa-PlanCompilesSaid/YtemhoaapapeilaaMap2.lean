/-
  Maps that the call itself made, continued: the block, and what look-up, store, delete, len and range do to it.
-/
import Derived.Test.YtemhoaapapeilaaMap
import Derived.Maps.RangeWalk
namespace Go.Proofs.Ytemhoaapapeilaa
open Go.RowKit

section
variable {κ ν : Type} {P : Program} {w w' : World} {B : Nat} {kE : κ → Value} {vE : ν → Value} {m : List (κ × ν)} {kt : TypeId}

/-- Block B is a map that reads as m. -/
def IsMap (w : World) (B : Nat) (kE : κ → Value) (vE : ν → Value) (m : List (κ × ν)) : Prop :=
  ∃ (es : List MapEntry) (clock : Nat), w.heap[B]? = some (.map es.toArray clock) ∧ es.map (fun e => (e.key, e.val)) = m.map (fun p => (kE p.1, vE p.2)) ∧ (es.map (·.born)).Nodup ∧ (∀ e ∈ es, e.born < clock) ∧ (m.map (·.1)).Nodup

theorem IsMap.made (w : World) (kE : κ → Value) (vE : ν → Value) : IsMap (w.alloc (.map #[] 0)) w.heap.size kE vE [] :=
  ⟨[], 0, (MapKept.heap_alloc w _).1, rfl, by simp, by simp, by simp⟩
theorem IsMap.lt (h : IsMap w B kE vE m) : B < w.heap.size := by
  obtain ⟨es, c, hb, _⟩ := h
  rcases Nat.lt_or_ge B w.heap.size with hlt | hge
  · exact hlt
  · rw [Array.getElem?_eq_none hge] at hb; cases hb
theorem IsMap.keep (h : IsMap w B kE vE m) (hk : w'.heap[B]? = w.heap[B]?) : IsMap w' B kE vE m := by
  obtain ⟨es, c, hb, r⟩ := h
  exact ⟨es, c, hk.trans hb, r⟩
theorem IsMap.below {n : Nat} (h : IsMap w B kE vE m) (hb : Below n w w') (hn : B < n) : IsMap w' B kE vE m := h.keep (hb.block B hn)
theorem IsMap.next (h : IsMap w B kE vE m) (hb : Below w.heap.size w w') : IsMap w' B kE vE m := h.keep (hb.block B h.lt)
theorem IsMap.alloc (h : IsMap w B kE vE m) (o : Obj) : IsMap (w.alloc o) B kE vE m := h.keep (Below.heap_alloc w o B h.lt)
theorem IsMap.drew (h : IsMap w B kE vE m) : IsMap w.drew B kE vE m := h
theorem IsMap.far (h : IsMap w B kE vE m) {p : Addr} (hp : B ≠ p.block) (u : Value) : IsMap (w.setCell p u) B kE vE m := h.keep (Below.heap_setCell w p u B hp)
theorem IsMap.setCell (h : IsMap w B kE vE m) (p : Addr) (u : Value) : IsMap (w.setCell p u) B kE vE m := by
  by_cases hp : B = p.block
  · refine h.keep ?_
    obtain ⟨es, c, hb, _⟩ := h
    subst hp
    simp [World.setCell, Array.getElem?_modify, hb]
  · exact h.far hp u
theorem IsMap.grown {row : Option Nat} (h : IsMap w B kE vE m) (hg : w.grownBy w' row) (hr : some B ≠ row) : IsMap w' B kE vE m := h.keep (hg.block B h.lt hr)
theorem IsMap.nodup (h : IsMap w B kE vE m) : (m.map (·.1)).Nodup := by obtain ⟨_, _, _, _, _, _, h⟩ := h; exact h
theorem IsMap.notBlk (h : IsMap w B kE vE m) {g : Nat} {t : TypeId} {cs : Array Value} (hb : Blk w g t cs) : B ≠ g := by
  rintro rfl
  obtain ⟨es, c, h1, _⟩ := h
  unfold Blk at hb
  rw [h1] at hb
  cases hb
/-- A map and a row that the call owns are not one block. -/
theorem IsMap.notOwn (h : IsMap w B kE vE m) {base : Nat} {e : TypeId} {size n : Nat} {v : Value} {xs : List Value} (ho : w.ownsRow base e size v n xs) : some B ≠ v.ownBlock := by
  intro he
  rcases ho.2 with ⟨rfl, _⟩ | ⟨g, cap, cur, rfl, _, hh, _⟩
  · simp [Value.ownBlock] at he
  · have hg : B = g := by simpa [Value.ownBlock] using he
    subst hg
    obtain ⟨es, c, h1, _⟩ := h
    rw [h1] at hh
    cases hh

theorem get_at {es : List MapEntry} {m : List (κ × ν)} (hr : es.map (fun e => (e.key, e.val)) = m.map (fun p => (kE p.1, vE p.2))) {j : Nat} {p : κ × ν} (hj : m[j]? = some p) :
    ∃ e, es[j]? = some e ∧ e.key = kE p.1 ∧ e.val = vE p.2 := by
  have h := congrArg (fun l => l[j]?) hr
  simp only [List.getElem?_map, hj, Option.map_some] at h
  obtain ⟨e, he, h2⟩ := Option.map_eq_some_iff.1 h
  simp only [Prod.mk.injEq] at h2
  exact ⟨e, he, h2.1, h2.2⟩

theorem keys_of {es : List MapEntry} {m : List (κ × ν)} (hr : es.map (fun e => (e.key, e.val)) = m.map (fun p => (kE p.1, vE p.2))) : es.map (·.key) = (m.map (·.1)).map kE := by
  have h := congrArg (List.map Prod.fst) hr
  rw [List.map_map, List.map_map] at h
  rw [List.map_map]
  exact h

variable [DecidableEq κ]

/-- Which entry a key finds. -/
theorem IsMap.find (K : KeyLaw P kt kE) {es : List MapEntry} (hr : es.map (fun e => (e.key, e.val)) = m.map (fun p => (kE p.1, vE p.2))) (hd : (m.map (·.1)).Nodup) (a : κ) (w : World) :
    (a ∉ m.map (·.1) ∧ (Instr.findKey kt (kE a) es).run P w = .ok none w) ∨ ∃ (j : Nat) (b : ν) (e : MapEntry), m[j]? = some (a, b) ∧ es[j]? = some e ∧ e.key = kE a ∧ e.val = vE b ∧ mget m a = some b ∧ (Instr.findKey kt (kE a) es).run P w = .ok (some (j, vE b)) w := by
  have hf := K.find a es (m.map (·.1)) w (keys_of hr)
  by_cases ha : a ∈ m.map (·.1)
  · right
    obtain ⟨j, h1, h2⟩ := kpos_some (i := 0) ha
    simp only [Nat.zero_add] at h1
    rw [List.getElem?_map] at h2
    obtain ⟨p, hp, hpa⟩ := Option.map_eq_some_iff.1 h2
    obtain ⟨e, he, hk, hv⟩ := get_at hr hp
    have hm := mget_of_mem hd (List.mem_of_getElem? hp)
    subst hpa
    refine ⟨j, p.2, e, hp, he, hk, hv, hm, ?_⟩
    rw [hf, h1]
    simp [he, hv]
  · left
    refine ⟨ha, ?_⟩
    rw [hf, kpos_none ha]
    rfl

/-- What is looked up. -/
def looked (z : Value) (vE : ν → Value) (m : List (κ × ν)) (a : κ) : Value := match mget m a with | some b => vE b | none => z

theorem IsMap.look {mt kt et : TypeId} (h : IsMap w B kE vE m) (K : KeyLaw P kt kE) (hm : P.underlying mt = some (.map kt et)) {z : Value} (hz : (zeroValue et).run P w = .ok z w) (a : κ) :
    (Instr.lookup mt (.map (some B)) (kE a) false).run P w = .ok (looked z vE m a) w := by
  obtain ⟨es, c, hb, hr, hn, hbn, hd⟩ := h
  unfold Instr.lookup looked
  rcases IsMap.find K hr hd a w with ⟨ha, hf⟩ | ⟨j, b, e, _, _, _, _, hg, hf⟩
  · simp [run_underlying hm, Sem.run, hb, K.check, hf, hz, mget_none ha, getObj]
  · simp [run_underlying hm, Sem.run, hb, K.check, hf, hg, getObj]

theorem IsMap.lookOk {mt kt et : TypeId} (h : IsMap w B kE vE m) (K : KeyLaw P kt kE) (hm : P.underlying mt = some (.map kt et)) {z : Value} (hz : (zeroValue et).run P w = .ok z w) (a : κ) :
    (Instr.lookup mt (.map (some B)) (kE a) true).run P w = .ok (.tuple #[looked z vE m a, .bool (mget m a).isSome]) w := by
  obtain ⟨es, c, hb, hr, hn, hbn, hd⟩ := h
  unfold Instr.lookup looked
  rcases IsMap.find K hr hd a w with ⟨ha, hf⟩ | ⟨j, b, e, _, _, _, _, hg, hf⟩
  · simp [run_underlying hm, Sem.run, hb, K.check, hf, hz, mget_none ha, getObj]
  · simp [run_underlying hm, Sem.run, hb, K.check, hf, hg, getObj]

/-- What a store leaves: the map with the key's value; no other block has turned. -/
theorem IsMap.store {mt et : TypeId} (h : IsMap w B kE vE m) (K : KeyLaw P kt kE) (hm : P.underlying mt = some (.map kt et)) (a : κ) (b : ν) :
    ∃ w', (Instr.mapUpdate mt (.map (some B)) (kE a) (vE b)).run P w = .ok () w' ∧ IsMap w' B kE vE (mset m a b) ∧ w.grownBy w' (some B) ∧ w'.heap.size = w.heap.size := by
  obtain ⟨es, c, hb, hr, hn, hbn, hd⟩ := h
  have hlt : B < w.heap.size := by
    rcases Nat.lt_or_ge B w.heap.size with hlt | hge
    · exact hlt
    · rw [Array.getElem?_eq_none hge] at hb; cases hb
  have grown : ∀ o, w.grownBy { w with heap := w.heap.setIfInBounds B o } (some B) := fun o =>
    ⟨rfl, rfl, rfl, by simp, fun k hk hne => by
      have : k ≠ B := fun e => hne (by rw [e])
      simp [Ne.symm this]⟩
  unfold Instr.mapUpdate
  rcases IsMap.find K hr hd a w with ⟨ha, hf⟩ | ⟨j, b0, e, hmj, hej, hek, hev, hg, hf⟩
  · refine ⟨{ w with heap := w.heap.setIfInBounds B (.map (es.toArray.push { key := kE a, val := vE b, born := c }) (c + 1)) }, ?_, ?_, grown _, by simp⟩
    · simp [run_underlying hm, Sem.run, hb, K.check, hf, getObj, setObj]
    · refine ⟨es ++ [{ key := kE a, val := vE b, born := c }], c + 1, ?_, ?_, ?_, ?_, ?_⟩
      · simp [hlt]
      · unfold mset
        rw [if_neg ha, List.map_append, List.map_append, hr]
        rfl
      · rw [List.map_append]
        refine List.nodup_append.2 ⟨hn, by simp, fun x hx y hy e => ?_⟩
        simp only [List.map_cons, List.map_nil, List.mem_singleton] at hy
        obtain ⟨e0, he0, rfl⟩ := List.mem_map.1 hx
        have := hbn e0 he0
        omega
      · intro e0 he0
        rcases List.mem_append.1 he0 with h1 | h1
        · have := hbn e0 h1; omega
        · simp only [List.mem_singleton] at h1; subst h1; simp
      · exact mset_nodup hd a b
  · have hje : j < es.length := (List.getElem?_eq_some_iff.1 hej).1
    refine ⟨{ w with heap := w.heap.setIfInBounds B (.map (es.toArray.modify j fun e => { e with key := kE a, val := vE b }) c) }, ?_, ?_, grown _, by simp⟩
    · simp [run_underlying hm, Sem.run, hb, K.check, hf, getObj, setObj, hej, hek, K.stays]
    · refine ⟨es.modify j fun e => { e with key := kE a, val := vE b }, c, ?_, ?_, ?_, ?_, ?_⟩
      · simp [hlt]
      · unfold mset
        have ha : a ∈ m.map (·.1) := List.mem_map.2 ⟨_, List.mem_of_getElem? hmj, rfl⟩
        rw [if_pos ha]
        apply List.ext_getElem?
        intro i
        have hi := congrArg (fun l => l[i]?) hr
        simp only [List.getElem?_map] at hi
        simp only [List.getElem?_map, List.getElem?_modify]
        by_cases hij : j = i
        · subst hij
          simp [hej, hmj]
        · cases hmi : m[i]? with
          | none => rw [hmi] at hi; simp at hi; simp [hi, hij]
          | some p =>
            obtain ⟨ei, hei, hk1, hv1⟩ := get_at hr hmi
            have hne : ¬ p.1 = a := by
              intro hpa
              have h1 : (m.map (·.1))[i]? = some a := by rw [List.getElem?_map, hmi]; simp [hpa]
              have h2 : (m.map (·.1))[j]? = some a := by rw [List.getElem?_map, hmj]; rfl
              have hjl : j < (m.map (·.1)).length := (List.getElem?_eq_some_iff.1 h2).1
              exact hij ((List.getElem?_inj hjl hd).1 (h2.trans h1.symm))
            simp [hei, hij, hne, hk1, hv1]
      · rw [show (es.modify j fun e => { e with key := kE a, val := vE b }).map (·.born) = es.map (·.born) from by
          apply List.ext_getElem?
          intro i
          simp only [List.getElem?_map, List.getElem?_modify]
          split
          · cases es[i]? <;> rfl
          · simp]
        exact hn
      · intro e0 he0
        obtain ⟨i, hi⟩ := List.mem_iff_getElem?.1 he0
        rw [List.getElem?_modify] at hi
        obtain ⟨e1, he1, rfl⟩ := Option.map_eq_some_iff.1 hi
        have := hbn e1 (List.mem_of_getElem? he1)
        split <;> simpa using this
      · exact mset_nodup hd a b

theorem wpList_store {ops : Array Oper} {rest : List Oper} {o : Oper} {a : Act} {Q : Exit → Act → World → Prop} (w : World)
    (hgd : o.guard = none) (mo xo vo : Operand) (mt et : TypeId) (hop : o.op = Op.mapUpdate mt mo xo vo) (K : KeyLaw P kt kE) (hm : P.underlying mt = some (.map kt et))
    (B : Nat) (m : List (κ × ν)) (hM : a.eval mo = .map (some B)) (h : IsMap w B kE vE m) (k : κ) (b : ν) (hx : a.eval xo = kE k) (hv : a.eval vo = vE b)
    (hK : ∀ w', IsMap w' B kE vE (mset m k b) → w.grownBy w' (some B) → w'.heap.size = w.heap.size → wpList P ops Q rest (a.put o.dst undef) w') : wpList P ops Q (o :: rest) a w := by
  refine wpList_plain hgd fun K' hK' => ?_
  obtain ⟨w', hrun, r1, r2, r3⟩ := h.store K hm k b
  unfold Oper.wp
  simp [execOp, hop, hM, hx, hv, hrun, Result.andThen]
  exact hK' _ _ (hK w' r1 r2 r3)
end
end Go.Proofs.Ytemhoaapapeilaa
