/-
  Maps that the call itself made: 'm[k] op= v' (an entry found or made, then stored into).
-/
import Derived.Test.YthdmbbfppgenlaaGreatMap3
import Derived.WideKeyEntry
namespace Go.Proofs.YthdmbbfppgenlaaGreat
open Go.RowKit
set_option linter.unusedVariables false

section
variable {κ ν : Type} [DecidableEq κ] {P : Program} {w : World} {B : Nat} {kE : κ → Value} {vE : ν → Value} {m : List (κ × ν)} {kt : TypeId}

theorem arr_findIdx {es : List MapEntry} {j : Nat} {e : MapEntry} (hn : (es.map (·.born)).Nodup) (hj : es[j]? = some e) : es.toArray.findIdx? (fun x => ((x.born : Nat) : Int) == ((e.born : Nat) : Int)) = some j := by
  rw [WideElems.findIdx_arr]
  exact WideElems.findIdx_born hn hj

/-- The entry of a key, found or made; and the store into it, while its map stands as it was left. -/
theorem IsMap.entry {mt et : TypeId} (h : IsMap w B kE vE m) (K : KeyLaw P kt kE) (hm : P.underlying mt = some (.map kt et)) (z : ν) (hz : ∀ w, (zeroValue et).run P w = .ok (vE z) w) (a : κ) :
    ∃ (st : Nat) (w1 : World), (Instr.mapEntry mt (.map (some B)) (kE a)).run P w = .ok (.tuple #[vE ((mget m a).getD z), goInt st]) w1 ∧ IsMap w1 B kE vE (mset m a ((mget m a).getD z)) ∧ w.grownBy w1 (some B) ∧ w1.heap.size = w.heap.size ∧
      ∀ (w2 : World) (b : ν), w2.heap[B]? = w1.heap[B]? → ∃ w3, (Instr.entryStore mt (.map (some B)) (goInt st) (vE b)).run P w2 = .ok () w3 ∧ IsMap w3 B kE vE (mset m a b) ∧ w2.grownBy w3 (some B) ∧ w3.heap.size = w2.heap.size := by
  obtain ⟨w0, hrun0, hS0, hg0, hs0⟩ := h.store K hm a ((mget m a).getD z)
  have hsame := h
  obtain ⟨es, c, hb, hr, hn, hbn, hd⟩ := h
  have hlt : B < w.heap.size := (Array.getElem?_eq_some_iff.1 hb).1
  have grown : ∀ (u : World) o, u.grownBy { u with heap := u.heap.setIfInBounds B o } (some B) := fun u o =>
    ⟨rfl, rfl, rfl, by simp, fun k hk hne => by
      have : k ≠ B := fun e => hne (by rw [e])
      simp [Ne.symm this]⟩
  have store : ∀ (es1 : List MapEntry) (c1 : Nat) (m1 : List (κ × ν)) (j : Nat) (e : MapEntry) (v0 : ν), es1.map (fun e => (e.key, e.val)) = m1.map (fun p => (kE p.1, vE p.2)) → (es1.map (·.born)).Nodup → (∀ e ∈ es1, e.born < c1) → (m1.map (·.1)).Nodup →
      es1[j]? = some e → m1[j]? = some (a, v0) → (∀ b, mset m1 a b = mset m a b) → ∀ (w2 : World) (b : ν), w2.heap[B]? = some (.map es1.toArray c1) → ∃ w3, (Instr.entryStore mt (.map (some B)) (goInt e.born) (vE b)).run P w2 = .ok () w3 ∧ IsMap w3 B kE vE (mset m a b) ∧ w2.grownBy w3 (some B) ∧ w3.heap.size = w2.heap.size := by
    intro es1 c1 m1 j e v0 hr1 hn1 hbn1 hd1 hj hmj hms w2 b hw2
    have hlt2 : B < w2.heap.size := (Array.getElem?_eq_some_iff.1 hw2).1
    have hidx := arr_findIdx hn1 hj
    refine ⟨{ w2 with heap := w2.heap.setIfInBounds B (.map (es1.toArray.modify j fun e => { e with val := vE b }) c1) }, ?_, ?_, grown _ _, by simp⟩
    · simp [Instr.entryStore, Sem.run, hw2, getObj, setObj, asInt, asIntOf, goInt, hidx]
    · rw [← hms b]
      refine ⟨es1.modify j fun e => { e with val := vE b }, c1, by simp [hlt2], ?_, ?_, ?_, mset_nodup hd1 a b⟩
      · unfold mset
        have ha : a ∈ m1.map (·.1) := List.mem_map.2 ⟨_, List.mem_of_getElem? hmj, rfl⟩
        rw [if_pos ha]
        apply List.ext_getElem?
        intro i
        have hi := congrArg (fun l => l[i]?) hr1
        simp only [List.getElem?_map] at hi
        simp only [List.getElem?_map, List.getElem?_modify]
        by_cases hij : j = i
        · subst hij
          rw [hj, hmj] at hi
          simp only [Option.map_some, Option.some.injEq, Prod.mk.injEq] at hi
          simp [hj, hmj, hi.1]
        · cases hmi : m1[i]? with
          | none => rw [hmi] at hi; simp at hi; simp [hi, hij]
          | some p =>
            obtain ⟨ei, hei, hk1, hv1⟩ := get_at hr1 hmi
            have hne : ¬ p.1 = a := by
              intro hpa
              have h1 : (m1.map (·.1))[i]? = some a := by rw [List.getElem?_map, hmi]; simp [hpa]
              have h2 : (m1.map (·.1))[j]? = some a := by rw [List.getElem?_map, hmj]; rfl
              have hjl : j < (m1.map (·.1)).length := (List.getElem?_eq_some_iff.1 h2).1
              exact hij ((List.getElem?_inj hjl hd1).1 (h2.trans h1.symm))
            simp [hei, hij, hne, hk1, hv1]
      · rw [show (es1.modify j fun e => { e with val := vE b }).map (·.born) = es1.map (·.born) from by
          apply List.ext_getElem?
          intro i
          simp only [List.getElem?_map, List.getElem?_modify]
          split
          · cases es1[i]? <;> rfl
          · simp]
        exact hn1
      · intro e0 he0
        obtain ⟨i, hi⟩ := List.mem_iff_getElem?.1 he0
        rw [List.getElem?_modify] at hi
        obtain ⟨e1, he1, rfl⟩ := Option.map_eq_some_iff.1 hi
        have := hbn1 e1 (List.mem_of_getElem? he1)
        split <;> simpa using this
  rcases IsMap.find K hr hd a w with ⟨ha, hf⟩ | ⟨j, b0, e, hmj, hej, hek, hev, hg, hf⟩
  · have hgn : mget m a = none := mget_none ha
    have hms : mset m a z = m ++ [(a, z)] := by unfold mset; rw [if_neg ha]
    rw [hgn]
    simp only [Option.getD_none]
    have hr1 : (es ++ [({ key := kE a, val := vE z, born := c } : MapEntry)]).map (fun e => (e.key, e.val)) = (m ++ [(a, z)]).map (fun p => (kE p.1, vE p.2)) := by rw [List.map_append, List.map_append, hr]; rfl
    have hn1 : ((es ++ [({ key := kE a, val := vE z, born := c } : MapEntry)]).map (·.born)).Nodup := by
      rw [List.map_append]
      refine List.nodup_append.2 ⟨hn, by simp, fun x hx y hy e => ?_⟩
      simp only [List.map_cons, List.map_nil, List.mem_singleton] at hy
      obtain ⟨e0, he0, rfl⟩ := List.mem_map.1 hx
      have := hbn e0 he0
      omega
    have hbn1 : ∀ e ∈ es ++ [({ key := kE a, val := vE z, born := c } : MapEntry)], e.born < c + 1 := by
      intro e0 he0
      rcases List.mem_append.1 he0 with h1 | h1
      · have := hbn e0 h1; omega
      · simp only [List.mem_singleton] at h1; subst h1; simp
    have hd1 : ((m ++ [(a, z)]).map (·.1)).Nodup := by rw [← hms]; exact mset_nodup hd a z
    have hl : es.length = m.length := by have := congrArg List.length hr; simpa using this
    refine ⟨c, { w with heap := w.heap.setIfInBounds B (.map (es ++ [({ key := kE a, val := vE z, born := c } : MapEntry)]).toArray (c + 1)) }, ?_, ?_, grown _ _, by simp, ?_⟩
    · unfold Instr.mapEntry
      simp [run_underlying hm, Sem.run, hb, K.check, hf, hz, getObj, setObj]
    · rw [hms]
      exact ⟨_, c + 1, by simp [hlt], hr1, hn1, hbn1, hd1⟩
    · intro w2 b hw2
      have hb2 : w2.heap[B]? = some (.map (es ++ [({ key := kE a, val := vE z, born := c } : MapEntry)]).toArray (c + 1)) := by rw [hw2]; simp [hlt]
      exact store _ _ (m ++ [(a, z)]) es.length ({ key := kE a, val := vE z, born := c } : MapEntry) z hr1 hn1 hbn1 hd1 (by simp) (by rw [hl]; simp) (fun b => by
        unfold mset
        rw [if_neg ha, if_pos (by simp), List.map_append]
        congr 1
        · conv => rhs; rw [← List.map_id m]
          refine List.map_congr_left fun p hp => ?_
          have : p.1 ≠ a := fun e => ha (by rw [← e]; exact List.mem_map_of_mem hp)
          simp [this]
        · simp) w2 b hb2
  · rw [hg]
    simp only [Option.getD_some]
    have hsm : mset m a b0 = m := by
      unfold mset
      rw [if_pos (List.mem_map.2 ⟨_, List.mem_of_getElem? hmj, rfl⟩)]
      conv => rhs; rw [← List.map_id m]
      refine List.map_congr_left fun p hp => ?_
      by_cases e1 : p.1 = a
      · have := mget_of_mem hd hp
        rw [e1, hg] at this
        injection this with this
        show (if p.1 = a then (a, b0) else p) = id p
        rw [if_pos e1]
        exact Prod.ext e1.symm this
      · simp [e1]
    have hmod : es.modify j (fun e => { e with key := kE a }) = es := by
      apply List.ext_getElem?
      intro i
      rw [List.getElem?_modify]
      by_cases hij : j = i
      · subst hij
        rw [hej]
        show some (if j = j then ({ e with key := kE a } : MapEntry) else e) = some e
        rw [if_pos rfl, ← hek]
      · cases es[i]? with
        | none => rfl
        | some x =>
          show some (if j = i then ({ x with key := kE a } : MapEntry) else x) = some x
          rw [if_neg hij]
    refine ⟨e.born, { w with heap := w.heap.setIfInBounds B (.map es.toArray c) }, ?_, ?_, grown _ _, by simp, ?_⟩
    · unfold Instr.mapEntry
      simp [run_underlying hm, Sem.run, hb, K.check, hf, getObj, setObj, hej, hek, K.stays, hmod]
    · rw [hsm]
      exact ⟨es, c, by simp [hlt], hr, hn, hbn, hd⟩
    · intro w2 b hw2
      have hb2 : w2.heap[B]? = some (.map es.toArray c) := by rw [hw2]; simp [hlt]
      exact store es c m j e b0 hr hn hbn hd hej hmj (fun _ => rfl) w2 b hb2

theorem wpList_entry {ops : Array Oper} {rest : List Oper} {o : Oper} {a : Act} {Q : Exit → Act → World → Prop} (w : World)
    (hgd : o.guard = none) (mo xo : Operand) (mt et : TypeId) (hop : o.op = Op.mapEntry mt mo xo) (K : KeyLaw P kt kE) (hm : P.underlying mt = some (.map kt et)) (z : ν) (hz : ∀ w, (zeroValue et).run P w = .ok (vE z) w)
    (B : Nat) (m : List (κ × ν)) (hM : a.eval mo = .map (some B)) (h : IsMap w B kE vE m) (k : κ) (hx : a.eval xo = kE k)
    (hK : ∀ (st : Nat) (w1 : World), IsMap w1 B kE vE (mset m k ((mget m k).getD z)) → w.grownBy w1 (some B) → w1.heap.size = w.heap.size →
      Hid (∀ (w2 : World) (b : ν), w2.heap[B]? = w1.heap[B]? → ∃ w3, (Instr.entryStore mt (.map (some B)) (goInt st) (vE b)).run P w2 = .ok () w3 ∧ IsMap w3 B kE vE (mset m k b) ∧ w2.grownBy w3 (some B) ∧ w3.heap.size = w2.heap.size) →
      wpList P ops Q rest (a.put o.dst (.tuple #[vE ((mget m k).getD z), goInt st])) w1) : wpList P ops Q (o :: rest) a w := by
  refine wpList_plain hgd fun K' hK' => ?_
  obtain ⟨st, w1, hrun, r1, r2, r3, r4⟩ := h.entry K hm z hz k
  unfold Oper.wp
  simp [execOp, hop, hM, hx, hrun, Result.andThen]
  exact hK' _ _ (hK st w1 r1 r2 r3 r4)

theorem wpList_entryStore {ops : Array Oper} {rest : List Oper} {o : Oper} {a : Act} {Q : Exit → Act → World → Prop} (w w1 : World)
    (hgd : o.guard = none) (mo so xo : Operand) (mt : TypeId) (hop : o.op = Op.entryStore mt mo so xo) (B st : Nat) (m : List (κ × ν)) (k : κ) (b : ν)
    (hM : a.eval mo = .map (some B)) (hs : a.eval so = goInt st) (hx : a.eval xo = vE b) (hw : w.heap[B]? = w1.heap[B]?)
    (h : Hid (∀ (w2 : World) (b : ν), w2.heap[B]? = w1.heap[B]? → ∃ w3, (Instr.entryStore mt (.map (some B)) (goInt st) (vE b)).run P w2 = .ok () w3 ∧ IsMap w3 B kE vE (mset m k b) ∧ w2.grownBy w3 (some B) ∧ w3.heap.size = w2.heap.size))
    (hK : ∀ w3, IsMap w3 B kE vE (mset m k b) → w.grownBy w3 (some B) → w3.heap.size = w.heap.size → wpList P ops Q rest (a.put o.dst undef) w3) : wpList P ops Q (o :: rest) a w := by
  refine wpList_plain hgd fun K' hK' => ?_
  obtain ⟨w3, hrun, r1, r2, r3⟩ := h.out w b hw
  unfold Oper.wp
  simp [execOp, hop, hM, hs, hx, hrun, Result.andThen]
  exact hK' _ _ (hK w3 r1 r2 r3)
end

end Go.Proofs.YthdmbbfppgenlaaGreat
