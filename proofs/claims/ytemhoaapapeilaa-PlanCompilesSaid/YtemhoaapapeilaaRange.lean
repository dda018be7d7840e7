/-
  A range over a map that the round leaves alone: which entries are still to come.
-/
import Derived.Test.YtemhoaapapeilaaMap3
import Derived.Maps.RangeWalk
namespace Go.Proofs.Ytemhoaapapeilaa
open Go.RowKit Go.MapKept Go.ChangeMaps
set_option linter.unusedVariables false

theorem perm_cons_filter {α : Type} (f : α → Nat) : ∀ {L : List α}, (L.map f).Nodup → ∀ {x : α}, x ∈ L → L.Perm (x :: L.filter (fun y => f y != f x))
  | [], _, x, hx => by cases hx
  | a :: L, hd, x, hx => by
    simp only [List.map_cons, List.nodup_cons] at hd
    rcases List.mem_cons.1 hx with rfl | hx'
    · rw [List.filter_cons_of_neg (by simp)]
      have : L.filter (fun y => f y != f x) = L := List.filter_eq_self.2 (fun y hy => by
        simp only [bne_iff_ne, ne_eq]
        exact fun e => hd.1 (by rw [← e]; exact List.mem_map_of_mem hy))
      rw [this]
    · have hne : f a ≠ f x := fun e => hd.1 (by rw [e]; exact List.mem_map_of_mem hx')
      rw [List.filter_cons_of_pos (by simpa using hne)]
      exact ((perm_cons_filter f hd.2 hx').cons a).trans (List.Perm.swap _ _ _)

section
variable {κ ν : Type} {P : Program} {w w' : World} {r B : Nat} {kE : κ → Value} {vE : ν → Value} {m left : List (κ × ν)}

/-- What is still to come of a map. -/
def toCome (es : List MapEntry) (m : List (κ × ν)) (seen : Array Nat) : List (κ × ν) := ((es.zip m).filter fun x => !seen.contains x.1.born).map (·.2)

/-- Block r ranges over the map at block B; 'left' is still to come. -/
def IsIter (w : World) (r B : Nat) (kE : κ → Value) (vE : ν → Value) (m left : List (κ × ν)) : Prop :=
  ∃ (es : List MapEntry) (clock since c0 : Nat) (seen : Array Nat), w.heap[B]? = some (.map es.toArray clock) ∧ es.map (fun e => (e.key, e.val)) = m.map (fun p => (kE p.1, vE p.2)) ∧ (es.map (·.born)).Nodup ∧ (∀ e ∈ es, e.born < since) ∧
    since ≤ c0 ∧ since ≤ clock ∧ (m.map (·.1)).Nodup ∧ w.heap[r]? = some (.mapIter (some B) since seen c0) ∧ left = toCome es m seen

theorem IsIter.isMap (h : IsIter w r B kE vE m left) : IsMap w B kE vE m := by
  obtain ⟨es, clock, since, c0, seen, h1, h2, h3, h4, h5, h6, h7, _, _⟩ := h
  exact ⟨es, clock, h1, h2, h3, fun e he => Nat.lt_of_lt_of_le (h4 e he) h6, h7⟩
theorem IsIter.ne (h : IsIter w r B kE vE m left) : r ≠ B := by
  obtain ⟨es, clock, since, c0, seen, h1, _, _, _, _, _, _, h8, _⟩ := h
  intro e
  rw [e, h1] at h8
  cases h8
theorem IsIter.lt (h : IsIter w r B kE vE m left) : r < w.heap.size := by
  obtain ⟨es, clock, since, c0, seen, _, _, _, _, _, _, _, h8, _⟩ := h
  exact (Array.getElem?_eq_some_iff.1 h8).1
theorem IsIter.keep (h : IsIter w r B kE vE m left) (h1 : w'.heap[B]? = w.heap[B]?) (h2 : w'.heap[r]? = w.heap[r]?) : IsIter w' r B kE vE m left := by
  obtain ⟨es, clock, since, c0, seen, g1, g2, g3, g4, g5, g6, g7, g8, g9⟩ := h
  exact ⟨es, clock, since, c0, seen, h1.trans g1, g2, g3, g4, g5, g6, g7, h2.trans g8, g9⟩
theorem IsIter.next_ (h : IsIter w r B kE vE m left) (hb : Below w.heap.size w w') : IsIter w' r B kE vE m left := h.keep (hb.block B h.isMap.lt) (hb.block r h.lt)
theorem IsIter.alloc (h : IsIter w r B kE vE m left) (o : Obj) : IsIter (w.alloc o) r B kE vE m left := h.next_ ((Below.refl _ _).alloc (Nat.le_refl _) o)
theorem IsIter.drew (h : IsIter w r B kE vE m left) : IsIter w.drew r B kE vE m left := h
theorem IsIter.touch {S : Nat → Prop} (h : IsIter w r B kE vE m left) (ht : Touch S w w') (h1 : ¬ S B) (h2 : ¬ S r) : IsIter w' r B kE vE m left := h.keep (ht.block B h.isMap.lt h1) (ht.block r h.lt h2)
theorem IsIter.grown {row : Option Nat} (h : IsIter w r B kE vE m left) (hg : w.grownBy w' row) (h1 : some B ≠ row) (h2 : some r ≠ row) : IsIter w' r B kE vE m left := h.keep (hg.block B h.isMap.lt h1) (hg.block r h.lt h2)
theorem IsIter.notBlk (h : IsIter w r B kE vE m left) {g : Nat} {t : TypeId} {cs : Array Value} (hb : Blk w g t cs) : r ≠ g := by
  rintro rfl
  obtain ⟨es, clock, since, c0, seen, _, _, _, _, _, _, _, h8, _⟩ := h
  unfold Blk at hb
  rw [h8] at hb
  cases hb
theorem IsIter.notOwn (h : IsIter w r B kE vE m left) {base : Nat} {e : TypeId} {size n : Nat} {v : Value} {xs : List Value} (ho : w.ownsRow base e size v n xs) : some r ≠ v.ownBlock := by
  intro he
  rcases ho.2 with ⟨rfl, _⟩ | ⟨g, cap, cur, rfl, _, hh, _⟩
  · simp [Value.ownBlock] at he
  · have hg : r = g := by simpa [Value.ownBlock] using he
    subst hg
    obtain ⟨es, clock, since, c0, seen, _, _, _, _, _, _, _, h8, _⟩ := h
    rw [h8] at hh
    cases hh

/-- 'range m'. -/
theorem IsMap.range {mt kt et : TypeId} (h : IsMap w B kE vE m) (hm : P.underlying mt = some (.map kt et)) :
    ∃ w', (Instr.range mt (.map (some B))).run P w = .ok (.pointer (some ⟨w.heap.size, 0, none⟩)) w' ∧ IsIter w' w.heap.size B kE vE m m ∧ Below w.heap.size w w' ∧ w'.heap.size = w.heap.size + 1 := by
  have hlt := h.lt
  obtain ⟨es, clock, hb, hr, hn, hbn, hd⟩ := h
  refine ⟨w.alloc (.mapIter (some B) clock #[] clock), ?_, ⟨es, clock, clock, clock, #[], ((MapKept.heap_alloc w _).2 B hlt).trans hb, hr, hn, hbn, Nat.le_refl _, Nat.le_refl _, hd, (MapKept.heap_alloc w _).1, ?_⟩, (Below.refl _ _).alloc (Nat.le_refl _) _, by simp⟩
  · exact run_range_map w mt kt et B es.toArray clock hm hb
  · have hl : es.length = m.length := by have := congrArg List.length hr; simpa using this
    unfold toCome
    rw [List.filter_eq_self.2 (by simp)]
    have : ∀ (es : List MapEntry) (m : List (κ × ν)), es.length = m.length → (es.zip m).map (·.2) = m := by
      intro es
      induction es with
      | nil => intro m hl; cases m <;> simp_all
      | cons e es ih => intro m hl; cases m with
        | nil => simp at hl
        | cons p m => simp at hl; simp [ih m hl]
    exact (this es m hl).symm

theorem zip_enc {es : List MapEntry} {m : List (κ × ν)} (hr : es.map (fun e => (e.key, e.val)) = m.map (fun p => (kE p.1, vE p.2))) : ∀ x ∈ es.zip m, x.1.key = kE x.2.1 ∧ x.1.val = vE x.2.2 := by
  induction es generalizing m with
  | nil => simp
  | cons e es ih =>
    cases m with
    | nil => simp at hr
    | cons p m =>
      simp only [List.map_cons, List.cons.injEq, Prod.mk.injEq] at hr
      intro x hx
      simp only [List.zip_cons_cons, List.mem_cons] at hx
      rcases hx with rfl | hx
      · exact hr.1
      · exact ih hr.2 x hx
theorem zip_fst {es : List MapEntry} {m : List (κ × ν)} (hl : es.length = m.length) : (es.zip m).map (·.1) = es := by
  induction es generalizing m with
  | nil => simp
  | cons e es ih => cases m with
    | nil => simp at hl
    | cons p m => simp at hl; simp [ih hl]

/-- The step. -/
theorem IsIter.step (h : IsIter w r B kE vE m left) (ty : TypeId) :
    (left = [] ∧ (Instr.next (.pointer (some ⟨r, 0, none⟩)) false ty).run P w = .ok (.tuple #[.bool false]) w) ∨
    ∃ k v left' w', left.Perm ((k, v) :: left') ∧ (Instr.next (.pointer (some ⟨r, 0, none⟩)) false ty).run P w = .ok (.tuple #[.bool true, kE k, vE v]) w' ∧ IsIter w' r B kE vE m left' ∧ w.grownBy w' (some r) ∧ w'.heap.size = w.heap.size ∧
      (Instr.entry (.pointer (some ⟨r, 0, none⟩))).run P w' = .ok (.tuple #[kE k, vE v]) w' := by
  have hne := h.ne
  obtain ⟨es, clock, since, c0, seen, hb, hr, hn, hold, hsc, hsk, hd, hit, rfl⟩ := h
  have hl : es.length = m.length := by have := congrArg List.length hr; simpa using this
  rcases run_next_at (P := P) w ty r B since c0 seen es.toArray clock hit hb (by simpa using hold) hsc with ⟨h0, hrun⟩ | ⟨e, he, w1, hal, hrun⟩
  · left
    refine ⟨?_, hrun⟩
    unfold leftOf at h0
    have h1 : es.filter (fun e => !seen.contains e.born) = [] := by
      have : (es.filter (fun e => !seen.contains e.born)).length = 0 := by
        rw [← h0]; simp
      exact List.eq_nil_of_length_eq_zero this
    unfold toCome
    rw [List.filter_eq_nil_iff.2, List.map_nil]
    intro x hx
    have := List.filter_eq_nil_iff.1 h1 x.1 (List.of_mem_zip hx).1
    exact this
  · right
    have hem : e ∈ es ∧ seen.contains e.born = false := by
      unfold leftOf at he
      simpa using he
    obtain ⟨x, hx, hxe⟩ : ∃ x ∈ es.zip m, x.1 = e := by
      have := zip_fst (m := m) hl
      rw [← this] at hem
      obtain ⟨x, hx, e1⟩ := List.mem_map.1 hem.1
      exact ⟨x, hx, e1⟩
    obtain ⟨ek, ev⟩ := zip_enc hr x hx
    have hr1 : w1.heap[r]? = some (.mapIter (some B) since seen c0) := by rcases hal with rfl | rfl <;> exact hit
    have hb1 : w1.heap[B]? = some (.map es.toArray clock) := by rcases hal with rfl | rfl <;> exact hb
    have hset := MapKept.heap_set (o' := .mapIter (some B) since (seen.push e.born) clock) hr1
    have hb' : (setBlock w1 r (.mapIter (some B) since (seen.push e.born) clock)).heap[B]? = some (.map es.toArray clock) := (hset.2 B (fun e1 => hne e1.symm)).trans hb1
    rw [hxe] at ek ev
    refine ⟨x.2.1, x.2.2, toCome es m (seen.push e.born), _, ?_, by rw [hrun, ek, ev], ⟨es, clock, since, clock, seen.push e.born, hb', hr, hn, hold, hsk, hsk, hd, hset.1, rfl⟩, ?_, ?_, ?_⟩
    · unfold toCome
      have hz : ((es.zip m).map fun y => y.1.born).Nodup := by
        have : (es.zip m).map (fun y => y.1.born) = es.map (·.born) := by
          conv => rhs; rw [← zip_fst (m := m) hl, List.map_map]
          rfl
        rw [this]; exact hn
      have hzf : (((es.zip m).filter fun y => !seen.contains y.1.born).map fun y => y.1.born).Nodup := hz.sublist (List.Sublist.map _ List.filter_sublist)
      have hxm : x ∈ (es.zip m).filter fun y => !seen.contains y.1.born := List.mem_filter.2 ⟨hx, by rw [hxe, hem.2]; rfl⟩
      have hp := (perm_cons_filter (fun y : MapEntry × (κ × ν) => y.1.born) hzf hxm).map (·.2)
      rw [List.map_cons, List.filter_filter] at hp
      refine hp.trans (List.Perm.of_eq ?_)
      congr 2
      refine List.filter_congr fun y _ => ?_
      rw [hxe, contains_push]
      cases seen.contains y.1.born <;> cases hh : (y.1.born == e.born) <;> simp_all
    · rcases hal with rfl | rfl <;> exact ⟨rfl, rfl, rfl, by simp [setBlock], fun i _ hi => hset.2 i (fun e1 => hi (by rw [e1]))⟩
    · rcases hal with rfl | rfl <;> simp [setBlock]
    · have := run_entry_at (P := P) _ r B since seen es.toArray clock e hset.1 hb' (by simpa using hem.1) (by simpa using hn)
      rw [this, ek, ev]

theorem wpList_range {ops : Array Oper} {rest : List Oper} {o : Oper} {a : Act} {Q : Exit → Act → World → Prop} (w : World)
    (hg : o.guard = none) (mo : Operand) (mt kt et : TypeId) (hop : o.op = Op.range mt mo) (hm : P.underlying mt = some (.map kt et)) (B : Nat) (m : List (κ × ν)) (hM : a.eval mo = .map (some B)) (h : IsMap w B kE vE m)
    (hK : ∀ w', IsIter w' w.heap.size B kE vE m m → Below w.heap.size w w' → w'.heap.size = w.heap.size + 1 → wpList P ops Q rest (a.put o.dst (.pointer (some ⟨w.heap.size, 0, none⟩))) w') : wpList P ops Q (o :: rest) a w := by
  refine wpList_plain hg fun K' hK' => ?_
  obtain ⟨w', hrun, r1, r2, r3⟩ := h.range hm
  unfold Oper.wp
  simp [execOp, hop, hM, hrun, Result.andThen]
  exact hK' _ _ (hK w' r1 r2 r3)

theorem wpList_next {ops : Array Oper} {rest : List Oper} {o : Oper} {a : Act} {Q : Exit → Act → World → Prop} (w : World)
    (hg : o.guard = none) (it : Operand) (hop : o.op = Op.next it false) (r B : Nat) (m left : List (κ × ν)) (hit : a.eval it = .pointer (some ⟨r, 0, none⟩)) (h : IsIter w r B kE vE m left)
    (hDone : left = [] → wpList P ops Q rest (a.put o.dst (.tuple #[.bool false])) w)
    (hMore : ∀ (k : κ) (v : ν) (left' : List (κ × ν)) (w' : World), left.Perm ((k, v) :: left') → IsIter w' r B kE vE m left' → w.grownBy w' (some r) → w'.heap.size = w.heap.size →
      (Instr.entry (.pointer (some ⟨r, 0, none⟩))).run P w' = .ok (.tuple #[kE k, vE v]) w' → wpList P ops Q rest (a.put o.dst (.tuple #[.bool true, kE k, vE v])) w') : wpList P ops Q (o :: rest) a w := by
  refine wpList_plain hg fun K' hK' => ?_
  unfold Oper.wp
  rcases h.step (P := P) o.type with ⟨h0, hrun⟩ | ⟨k, v, left', w', hp, hrun, hi, hgr, hs, hen⟩
  · simp [execOp, hop, hit, hrun, Result.andThen]
    exact hK' _ _ (hDone h0)
  · simp [execOp, hop, hit, hrun, Result.andThen]
    exact hK' _ _ (hMore k v left' w' hp hi hgr hs hen)
end

end Go.Proofs.Ytemhoaapapeilaa
