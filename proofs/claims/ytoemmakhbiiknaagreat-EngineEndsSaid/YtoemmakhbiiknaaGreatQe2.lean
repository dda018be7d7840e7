/-
  A range over a map that the round leaves alone: which entries are still to come.
  Stores into an owned row of structs: one element set, cell by cell.
  append of one element, and where the row then lies.
  Rows that the call owns, told as slices; what is left of a range. No program, no condition.
  slices.ContainsFunc, slices.Contains at numbers, with any closure.
  Maps whose keys are strings; a map literal's insert.
  Definitions of flows: which verb undoes which (printed by gen_un12.py).
  Definitions of flows: a step; may it stand by itself?
  Steps that wait for one another, plainly: what a step comes behind, cycles, an order in which each comes behind all that it waits for.
  Maps that the call itself made, continued: len.
  A region that draws its order, walked once: every operation gives one value in every world of a class, and every call stays in the class.
-/
import Derived.Test.YtoemmakhbiiknaaGreatQe1
import Derived.Maps.RangeWalk
import Derived.Laws.OwnMore
import Derived.Maps.AppendAt
import Derived.Laws.StructEq
import Derived.Deep.DeepCutAuto
import Derived.Deep.CutRange
namespace Go.Proofs.YtoemmakhbiiknaaGreat
open Go.RowKit Go.MapKept Go.ChangeMaps
set_option linter.unusedVariables false

theorem perm_cons_filter {α : Type} (f : α → Nat) : ∀ {L : List α}, (L.map f).Nodup → ∀ {x : α}, x ∈ L → L.Perm (x :: L.filter (fun y => f y != f x))
  | [], _, x, hx => by cases hx
  | a :: L, hd, x, hx => by
    simp only [List.map_cons, List.nodup_cons] at hd
    rcases List.mem_cons.1 hx with rfl | hx'
    · rw [List.filter_cons_of_neg (by simp)]
      have : L.filter (fun y => f y != f x) = L := List.filter_eq_self.2 (fun y hy => by
        simp only [bne_iff_ne, ne_eq]
        exact fun e => hd.1 (by rw [← e]; exact List.mem_map_of_mem hy))
      rw [this]
    · have hne : f a ≠ f x := fun e => hd.1 (by rw [e]; exact List.mem_map_of_mem hx')
      rw [List.filter_cons_of_pos (by simpa using hne)]
      exact ((perm_cons_filter f hd.2 hx').cons a).trans (List.Perm.swap _ _ _)

section
variable {κ ν : Type} {P : Program} {w w' : World} {r B : Nat} {kE : κ → Value} {vE : ν → Value} {m left : List (κ × ν)}

/-- What is still to come of a map. -/
def toCome (es : List MapEntry) (m : List (κ × ν)) (seen : Array Nat) : List (κ × ν) := ((es.zip m).filter fun x => !seen.contains x.1.born).map (·.2)

/-- Block r ranges over the map at block B; 'left' is still to come. -/
def IsIter (w : World) (r B : Nat) (kE : κ → Value) (vE : ν → Value) (m left : List (κ × ν)) : Prop :=
  ∃ (es : List MapEntry) (clock since c0 : Nat) (seen : Array Nat), w.heap[B]? = some (.map es.toArray clock) ∧ es.map (fun e => (e.key, e.val)) = m.map (fun p => (kE p.1, vE p.2)) ∧ (es.map (·.born)).Nodup ∧ (∀ e ∈ es, e.born < since) ∧
    since ≤ c0 ∧ since ≤ clock ∧ (m.map (·.1)).Nodup ∧ w.heap[r]? = some (.mapIter (some B) since seen c0) ∧ left = toCome es m seen

theorem IsIter.isMap (h : IsIter w r B kE vE m left) : IsMap w B kE vE m := by
  obtain ⟨es, clock, since, c0, seen, h1, h2, h3, h4, h5, h6, h7, _, _⟩ := h
  exact ⟨es, clock, h1, h2, h3, fun e he => Nat.lt_of_lt_of_le (h4 e he) h6, h7⟩
theorem IsIter.ne (h : IsIter w r B kE vE m left) : r ≠ B := by
  obtain ⟨es, clock, since, c0, seen, h1, _, _, _, _, _, _, h8, _⟩ := h
  intro e
  rw [e, h1] at h8
  cases h8
theorem IsIter.lt (h : IsIter w r B kE vE m left) : r < w.heap.size := by
  obtain ⟨es, clock, since, c0, seen, _, _, _, _, _, _, _, h8, _⟩ := h
  exact (Array.getElem?_eq_some_iff.1 h8).1
theorem IsIter.keep (h : IsIter w r B kE vE m left) (h1 : w'.heap[B]? = w.heap[B]?) (h2 : w'.heap[r]? = w.heap[r]?) : IsIter w' r B kE vE m left := by
  obtain ⟨es, clock, since, c0, seen, g1, g2, g3, g4, g5, g6, g7, g8, g9⟩ := h
  exact ⟨es, clock, since, c0, seen, h1.trans g1, g2, g3, g4, g5, g6, g7, h2.trans g8, g9⟩
theorem IsIter.next_ (h : IsIter w r B kE vE m left) (hb : Below w.heap.size w w') : IsIter w' r B kE vE m left := h.keep (hb.block B h.isMap.lt) (hb.block r h.lt)
theorem IsIter.alloc (h : IsIter w r B kE vE m left) (o : Obj) : IsIter (w.alloc o) r B kE vE m left := h.next_ ((Below.refl _ _).alloc (Nat.le_refl _) o)
theorem IsIter.drew (h : IsIter w r B kE vE m left) : IsIter w.drew r B kE vE m left := h
theorem IsIter.touch {S : Nat → Prop} (h : IsIter w r B kE vE m left) (ht : Touch S w w') (h1 : ¬ S B) (h2 : ¬ S r) : IsIter w' r B kE vE m left := h.keep (ht.block B h.isMap.lt h1) (ht.block r h.lt h2)
theorem IsIter.grown {row : Option Nat} (h : IsIter w r B kE vE m left) (hg : w.grownBy w' row) (h1 : some B ≠ row) (h2 : some r ≠ row) : IsIter w' r B kE vE m left := h.keep (hg.block B h.isMap.lt h1) (hg.block r h.lt h2)
theorem IsIter.notBlk (h : IsIter w r B kE vE m left) {g : Nat} {t : TypeId} {cs : Array Value} (hb : Blk w g t cs) : r ≠ g := by
  rintro rfl
  obtain ⟨es, clock, since, c0, seen, _, _, _, _, _, _, _, h8, _⟩ := h
  unfold Blk at hb
  rw [h8] at hb
  cases hb
theorem IsIter.notOwn (h : IsIter w r B kE vE m left) {base : Nat} {e : TypeId} {size n : Nat} {v : Value} {xs : List Value} (ho : w.ownsRow base e size v n xs) : some r ≠ v.ownBlock := by
  intro he
  rcases ho.2 with ⟨rfl, _⟩ | ⟨g, cap, cur, rfl, _, hh, _⟩
  · simp [Value.ownBlock] at he
  · have hg : r = g := by simpa [Value.ownBlock] using he
    subst hg
    obtain ⟨es, clock, since, c0, seen, _, _, _, _, _, _, _, h8, _⟩ := h
    rw [h8] at hh
    cases hh

/-- 'range m'. -/
theorem IsMap.range {mt kt et : TypeId} (h : IsMap w B kE vE m) (hm : P.underlying mt = some (.map kt et)) :
    ∃ w', (Instr.range mt (.map (some B))).run P w = .ok (.pointer (some ⟨w.heap.size, 0, none⟩)) w' ∧ IsIter w' w.heap.size B kE vE m m ∧ Below w.heap.size w w' ∧ w'.heap.size = w.heap.size + 1 := by
  have hlt := h.lt
  obtain ⟨es, clock, hb, hr, hn, hbn, hd⟩ := h
  refine ⟨w.alloc (.mapIter (some B) clock #[] clock), ?_, ⟨es, clock, clock, clock, #[], ((MapKept.heap_alloc w _).2 B hlt).trans hb, hr, hn, hbn, Nat.le_refl _, Nat.le_refl _, hd, (MapKept.heap_alloc w _).1, ?_⟩, (Below.refl _ _).alloc (Nat.le_refl _) _, by simp⟩
  · exact run_range_map w mt kt et B es.toArray clock hm hb
  · have hl : es.length = m.length := by have := congrArg List.length hr; simpa using this
    unfold toCome
    rw [List.filter_eq_self.2 (by simp)]
    have : ∀ (es : List MapEntry) (m : List (κ × ν)), es.length = m.length → (es.zip m).map (·.2) = m := by
      intro es
      induction es with
      | nil => intro m hl; cases m <;> simp_all
      | cons e es ih => intro m hl; cases m with
        | nil => simp at hl
        | cons p m => simp at hl; simp [ih m hl]
    exact (this es m hl).symm

theorem zip_enc {es : List MapEntry} {m : List (κ × ν)} (hr : es.map (fun e => (e.key, e.val)) = m.map (fun p => (kE p.1, vE p.2))) : ∀ x ∈ es.zip m, x.1.key = kE x.2.1 ∧ x.1.val = vE x.2.2 := by
  induction es generalizing m with
  | nil => simp
  | cons e es ih =>
    cases m with
    | nil => simp at hr
    | cons p m =>
      simp only [List.map_cons, List.cons.injEq, Prod.mk.injEq] at hr
      intro x hx
      simp only [List.zip_cons_cons, List.mem_cons] at hx
      rcases hx with rfl | hx
      · exact hr.1
      · exact ih hr.2 x hx
theorem zip_fst {es : List MapEntry} {m : List (κ × ν)} (hl : es.length = m.length) : (es.zip m).map (·.1) = es := by
  induction es generalizing m with
  | nil => simp
  | cons e es ih => cases m with
    | nil => simp at hl
    | cons p m => simp at hl; simp [ih hl]

/-- The step. -/
theorem IsIter.step (h : IsIter w r B kE vE m left) (ty : TypeId) :
    (left = [] ∧ (Instr.next (.pointer (some ⟨r, 0, none⟩)) false ty).run P w = .ok (.tuple #[.bool false]) w) ∨
    ∃ k v left' w', left.Perm ((k, v) :: left') ∧ (Instr.next (.pointer (some ⟨r, 0, none⟩)) false ty).run P w = .ok (.tuple #[.bool true, kE k, vE v]) w' ∧ IsIter w' r B kE vE m left' ∧ w.grownBy w' (some r) ∧ w'.heap.size = w.heap.size ∧
      (Instr.entry (.pointer (some ⟨r, 0, none⟩))).run P w' = .ok (.tuple #[kE k, vE v]) w' := by
  have hne := h.ne
  obtain ⟨es, clock, since, c0, seen, hb, hr, hn, hold, hsc, hsk, hd, hit, rfl⟩ := h
  have hl : es.length = m.length := by have := congrArg List.length hr; simpa using this
  rcases run_next_at (P := P) w ty r B since c0 seen es.toArray clock hit hb (by simpa using hold) hsc with ⟨h0, hrun⟩ | ⟨e, he, w1, hal, hrun⟩
  · left
    refine ⟨?_, hrun⟩
    unfold leftOf at h0
    have h1 : es.filter (fun e => !seen.contains e.born) = [] := by
      have : (es.filter (fun e => !seen.contains e.born)).length = 0 := by
        rw [← h0]; simp
      exact List.eq_nil_of_length_eq_zero this
    unfold toCome
    rw [List.filter_eq_nil_iff.2, List.map_nil]
    intro x hx
    have := List.filter_eq_nil_iff.1 h1 x.1 (List.of_mem_zip hx).1
    exact this
  · right
    have hem : e ∈ es ∧ seen.contains e.born = false := by
      unfold leftOf at he
      simpa using he
    obtain ⟨x, hx, hxe⟩ : ∃ x ∈ es.zip m, x.1 = e := by
      have := zip_fst (m := m) hl
      rw [← this] at hem
      obtain ⟨x, hx, e1⟩ := List.mem_map.1 hem.1
      exact ⟨x, hx, e1⟩
    obtain ⟨ek, ev⟩ := zip_enc hr x hx
    have hr1 : w1.heap[r]? = some (.mapIter (some B) since seen c0) := by rcases hal with rfl | rfl <;> exact hit
    have hb1 : w1.heap[B]? = some (.map es.toArray clock) := by rcases hal with rfl | rfl <;> exact hb
    have hset := MapKept.heap_set (o' := .mapIter (some B) since (seen.push e.born) clock) hr1
    have hb' : (setBlock w1 r (.mapIter (some B) since (seen.push e.born) clock)).heap[B]? = some (.map es.toArray clock) := (hset.2 B (fun e1 => hne e1.symm)).trans hb1
    rw [hxe] at ek ev
    refine ⟨x.2.1, x.2.2, toCome es m (seen.push e.born), _, ?_, by rw [hrun, ek, ev], ⟨es, clock, since, clock, seen.push e.born, hb', hr, hn, hold, hsk, hsk, hd, hset.1, rfl⟩, ?_, ?_, ?_⟩
    · unfold toCome
      have hz : ((es.zip m).map fun y => y.1.born).Nodup := by
        have : (es.zip m).map (fun y => y.1.born) = es.map (·.born) := by
          conv => rhs; rw [← zip_fst (m := m) hl, List.map_map]
          rfl
        rw [this]; exact hn
      have hzf : (((es.zip m).filter fun y => !seen.contains y.1.born).map fun y => y.1.born).Nodup := hz.sublist (List.Sublist.map _ List.filter_sublist)
      have hxm : x ∈ (es.zip m).filter fun y => !seen.contains y.1.born := List.mem_filter.2 ⟨hx, by rw [hxe, hem.2]; rfl⟩
      have hp := (perm_cons_filter (fun y : MapEntry × (κ × ν) => y.1.born) hzf hxm).map (·.2)
      rw [List.map_cons, List.filter_filter] at hp
      refine hp.trans (List.Perm.of_eq ?_)
      congr 2
      refine List.filter_congr fun y _ => ?_
      rw [hxe, contains_push]
      cases seen.contains y.1.born <;> cases hh : (y.1.born == e.born) <;> simp_all
    · rcases hal with rfl | rfl <;> exact ⟨rfl, rfl, rfl, by simp [setBlock], fun i _ hi => hset.2 i (fun e1 => hi (by rw [e1]))⟩
    · rcases hal with rfl | rfl <;> simp [setBlock]
    · have := run_entry_at (P := P) _ r B since seen es.toArray clock e hset.1 hb' (by simpa using hem.1) (by simpa using hn)
      rw [this, ek, ev]

theorem wpList_range {ops : Array Oper} {rest : List Oper} {o : Oper} {a : Act} {Q : Exit → Act → World → Prop} (w : World)
    (hg : o.guard = none) (mo : Operand) (mt kt et : TypeId) (hop : o.op = Op.range mt mo) (hm : P.underlying mt = some (.map kt et)) (B : Nat) (m : List (κ × ν)) (hM : a.eval mo = .map (some B)) (h : IsMap w B kE vE m)
    (hK : ∀ w', IsIter w' w.heap.size B kE vE m m → Below w.heap.size w w' → w'.heap.size = w.heap.size + 1 → wpList P ops Q rest (a.put o.dst (.pointer (some ⟨w.heap.size, 0, none⟩))) w') : wpList P ops Q (o :: rest) a w := by
  refine wpList_plain hg fun K' hK' => ?_
  obtain ⟨w', hrun, r1, r2, r3⟩ := h.range hm
  unfold Oper.wp
  simp [execOp, hop, hM, hrun, Result.andThen]
  exact hK' _ _ (hK w' r1 r2 r3)

theorem wpList_next {ops : Array Oper} {rest : List Oper} {o : Oper} {a : Act} {Q : Exit → Act → World → Prop} (w : World)
    (hg : o.guard = none) (it : Operand) (hop : o.op = Op.next it false) (r B : Nat) (m left : List (κ × ν)) (hit : a.eval it = .pointer (some ⟨r, 0, none⟩)) (h : IsIter w r B kE vE m left)
    (hDone : left = [] → wpList P ops Q rest (a.put o.dst (.tuple #[.bool false])) w)
    (hMore : ∀ (k : κ) (v : ν) (left' : List (κ × ν)) (w' : World), left.Perm ((k, v) :: left') → IsIter w' r B kE vE m left' → w.grownBy w' (some r) → w'.heap.size = w.heap.size →
      (Instr.entry (.pointer (some ⟨r, 0, none⟩))).run P w' = .ok (.tuple #[kE k, vE v]) w' → wpList P ops Q rest (a.put o.dst (.tuple #[.bool true, kE k, vE v])) w') : wpList P ops Q (o :: rest) a w := by
  refine wpList_plain hg fun K' hK' => ?_
  unfold Oper.wp
  rcases h.step (P := P) o.type with ⟨h0, hrun⟩ | ⟨k, v, left', w', hp, hrun, hi, hgr, hs, hen⟩
  · simp [execOp, hop, hit, hrun, Result.andThen]
    exact hK' _ _ (hDone h0)
  · simp [execOp, hop, hit, hrun, Result.andThen]
    exact hK' _ _ (hMore k v left' w' hp hi hgr hs hen)
end

end Go.Proofs.YtoemmakhbiiknaaGreat

namespace Go.Proofs.YtoemmakhbiiknaaGreat
open Go.RowKit Go.ChangeShapes Go.WideShapes Go.ChangeAt Go.Deep
set_option linter.unusedVariables false

/-- Cells stored one behind the other. -/
def setMany (xs : List Value) (o : Nat) : List Value → List Value
  | [] => xs
  | c :: cs => setMany (xs.set o c) (o + 1) cs
def storeMany (w : World) (g o : Nat) : List Value → World
  | [] => w
  | c :: cs => storeMany (w.setCell ⟨g, o, none⟩ c) g (o + 1) cs

theorem setMany_append_right (a b : List Value) (o : Nat) (cs : List Value) (h : a.length ≤ o) : setMany (a ++ b) o cs = a ++ setMany b (o - a.length) cs := by
  induction cs generalizing b o with
  | nil => rfl
  | cons c cs ih =>
    simp only [setMany]
    rw [List.set_append_right _ _ h, ih _ _ (by omega), show o + 1 - a.length = o - a.length + 1 from by omega]
theorem setMany_front (xs : List Value) : ∀ (ys rest done : List Value), xs.length = ys.length → setMany (done ++ (xs ++ rest)) done.length ys = done ++ (ys ++ rest) := by
  intro ys
  induction ys generalizing xs with
  | nil => intro rest done h; cases xs with
    | nil => rfl
    | cons x xs => simp at h
  | cons y ys ih =>
    intro rest done h
    cases xs with
    | nil => simp at h
    | cons x xs =>
      simp only [setMany]
      rw [List.set_append_right _ _ (Nat.le_refl _), Nat.sub_self, List.cons_append, List.set_cons_zero]
      have := ih xs rest (done ++ [y]) (by simpa using h)
      simp only [List.length_append, List.length_cons, List.length_nil, List.append_assoc, List.cons_append, List.nil_append] at this
      exact this
theorem setMany_flat {α : Type} (enc : α → List Value) (s : Nat) (hs : ∀ x, (enc x).length = s) (l : List α) (k : Nat) (x : α) (hk : k < l.length) : setMany (l.flatMap enc) (k * s) (enc x) = (l.set k x).flatMap enc := by
  induction l generalizing k with
  | nil => simp at hk
  | cons y l ih =>
    cases k with
    | zero =>
      simp only [List.flatMap_cons, Nat.zero_mul, List.set_cons_zero]
      exact setMany_front (enc y) (enc x) (l.flatMap enc) [] (by rw [hs, hs])
    | succ k =>
      simp only [List.flatMap_cons, List.set_cons_succ]
      rw [setMany_append_right _ _ _ _ (by rw [hs, Nat.succ_mul]; omega), hs, show (k + 1) * s - s = k * s from by rw [Nat.succ_mul]; omega, ih k (by simpa using hk)]
theorem set_flat {α : Type} (enc : α → List Value) (s : Nat) (hs : ∀ x, (enc x).length = s) (l : List α) (k j : Nat) (x : α) (v : Value) (hk : l[k]? = some x) (hj : j < s) (x' : α) (hx : enc x' = (enc x).set j v) : (l.flatMap enc).set (k * s + j) v = (l.set k x').flatMap enc := by
  induction l generalizing k with
  | nil => simp at hk
  | cons y l ih =>
    cases k with
    | zero =>
      simp only [List.getElem?_cons_zero, Option.some.injEq] at hk
      subst hk
      simp only [List.flatMap_cons, Nat.zero_mul, Nat.zero_add, List.set_cons_zero, hx]
      rw [List.set_append_left _ _ (by rw [hs]; exact hj)]
    | succ k =>
      simp only [List.getElem?_cons_succ] at hk
      simp only [List.flatMap_cons, List.set_cons_succ]
      rw [List.set_append_right _ _ (by rw [hs, Nat.succ_mul]; omega), hs, show (k + 1) * s + j - s = k * s + j from by rw [Nat.succ_mul]; omega, ih k hk]

theorem grown_refl (w : World) (r : Option Nat) : w.grownBy w r := ⟨rfl, rfl, rfl, Nat.le_refl _, fun _ _ _ => rfl⟩

theorem own_storeMany {w : World} {base : Nat} {e : TypeId} {size n cap g : Nat} {xs : List Value} (h : w.ownsRow base e size (.slice (some ⟨g, 0, none⟩) n cap) n xs) (o : Nat) (cs : List Value) :
    (storeMany w g o cs).ownsRow base e size (.slice (some ⟨g, 0, none⟩) n cap) n (setMany xs o cs) ∧ w.grownBy (storeMany w g o cs) (some g) := by
  induction cs generalizing w xs o with
  | nil => exact ⟨h, grown_refl _ _⟩
  | cons c cs ih =>
    obtain ⟨h1, h2⟩ := h.stored o c
    obtain ⟨h3, h4⟩ := ih h1 (o + 1)
    exact ⟨h3, grown_trans h2 h4⟩

/-- One element of an owned row of structs set whole. -/
theorem own_set {α : Type} {enc : α → List Value} {w : World} {base : Nat} {e : TypeId} {s cap g : Nat} {l : List α} (hs : ∀ x, (enc x).length = s) (h : w.ownsRow base e s (.slice (some ⟨g, 0, none⟩) l.length cap) l.length (l.flatMap enc)) {k : Nat} (hk : k < l.length) (x : α) :
    (storeMany w g (k * s) (enc x)).ownsRow base e s (.slice (some ⟨g, 0, none⟩) (l.set k x).length cap) (l.set k x).length ((l.set k x).flatMap enc) ∧ w.grownBy (storeMany w g (k * s) (enc x)) (some g) := by
  obtain ⟨h1, h2⟩ := own_storeMany h (k * s) (enc x)
  rw [setMany_flat enc s hs l k x hk] at h1
  rw [List.length_set]
  exact ⟨h1, h2⟩
/-- One field of one element. -/
theorem own_field {α : Type} {enc : α → List Value} {w : World} {base : Nat} {e : TypeId} {s cap g : Nat} {l : List α} (hs : ∀ x, (enc x).length = s) (h : w.ownsRow base e s (.slice (some ⟨g, 0, none⟩) l.length cap) l.length (l.flatMap enc)) {k j : Nat} {x : α} (hk : l[k]? = some x) (hj : j < s) (v : Value) (x' : α) (hx : enc x' = (enc x).set j v) :
    (w.setCell ⟨g, k * s + j, none⟩ v).ownsRow base e s (.slice (some ⟨g, 0, none⟩) (l.set k x').length cap) (l.set k x').length ((l.set k x').flatMap enc) ∧ w.grownBy (w.setCell ⟨g, k * s + j, none⟩ v) (some g) := by
  obtain ⟨h1, h2⟩ := h.stored (k * s + j) v
  rw [set_flat enc s hs l k j x v hk hj x' hx] at h1
  rw [List.length_set]
  exact ⟨h1, h2⟩

/-- What an owned row that is not empty looks like. -/
theorem own_form {α : Type} {enc : α → List Value} {w : World} {base : Nat} {e : TypeId} {s : Nat} {v : Value} {l : List α} (h : w.ownsRow base e s v l.length (l.flatMap enc)) (hl : 0 < l.length) :
    ∃ g cap, v = .slice (some ⟨g, 0, none⟩) l.length cap ∧ base ≤ g ∧ g < w.heap.size := by
  rcases h.2 with ⟨_, h0⟩ | ⟨g, cap, cur, rfl, hb, hg, _⟩
  · omega
  · exact ⟨g, cap, rfl, hb, (Array.getElem?_eq_some_iff.1 hg).1⟩
theorem own_cells {α : Type} {enc : α → List Value} {w : World} {base : Nat} {e : TypeId} {s n cap g : Nat} {l : List α} (hs : ∀ x, (enc x).length = s) (h : w.ownsRow base e s (.slice (some ⟨g, 0, none⟩) n cap) l.length (l.flatMap enc)) {k : Nat} {x : α} (hk : l[k]? = some x) {j : Nat} {u : Value} (hu : (enc x)[j]? = some u) :
    w.cell? ⟨g, k * s + j, none⟩ = some u := by
  have := h.cells (g := g) rfl (k * s + j) u (by rw [getElem?_flatMap enc s hs l k x hk j (by rw [← hs x]; exact (List.getElem?_eq_some_iff.1 hu).1)]; exact hu)
  rw [add_plain, Nat.zero_add] at this
  exact this
theorem own_free {w : World} {base : Nat} {e : TypeId} {s n cap g m : Nat} {xs : List Value} (h : w.ownsRow base e s (.slice (some ⟨g, 0, none⟩) n cap) m xs) (i : Nat) : w.frozen? ⟨g, i, none⟩ = false := by
  rcases h.2 with ⟨h', _⟩ | ⟨g', cap', cur, h', hb, hg, _⟩
  · simp at h'
  · simp only [Value.slice.injEq, Option.some.injEq, Addr.mk.injEq, and_true] at h'
    obtain ⟨rfl, _⟩ := h'
    simp [World.frozen?, hg]

end Go.Proofs.YtoemmakhbiiknaaGreat

namespace Go.Proofs.YtoemmakhbiiknaaGreat
open Go.RowKit Go.ChangeShapes Go.WideShapes Go.ChangeAt Go.Deep
set_option linter.unusedVariables false

/-- 'l = append(l, x)': x lies in the new block at the heap's end; the row is the call's own (or nil); where the new row lies. -/
theorem wpList_push_at {P : Program} {ops : Array Oper} {rest : List Oper} {o : Oper} {a : Act} {Q : Exit → Act → World → Prop} (w : World) (hgd : o.guard = none) (s x : Operand) (t : TypeId)
    (ho : o.op = .call { callee := .builtin .append, args := #[s, x], argTypes := #[t, t] })
    (base : Nat) (e : TypeId) (i : TypeInfo) (z : Value) (size bytes : Nat) (ht : P.underlying t = some (.slice e)) (hi : P.info? e = some i) (hz : i.zero = some z)
    (hsize : i.size = size) (hby : i.bytes = bytes) (hzs : z.cells.size = size) (hsz : 0 < size)
    (v : Value) (n : Nat) (xs : List Value) (hs : a.eval s = v) (hown : w.ownsRow base e size v n xs) (cs : Array Value) (g : Nat) (hg : g = w.heap.size)
    (hx : a.eval x = .slice (some ⟨g, 0, none⟩) 1 1) (hl : cs.size = size) (h1 : cs.toList.all Value.oneCell' = true)
    (hn : n + 1 ≤ maxLen) (hb : (n + 1) * bytes ≤ 140737488355328) (hbase : base ≤ w.heap.size)
    (h : ∀ v' w', w'.ownsRow base e size v' (n + 1) (xs ++ cs.toList) → (w.alloc (.cells cs e)).grownBy w' v.ownBlock → (v'.ownBlock = v.ownBlock ∨ v'.ownBlock = some (w.heap.size + 1)) → wpList P ops Q rest (a.put o.dst v') w') :
    wpList P ops Q (o :: rest) a (w.alloc (.cells cs e)) := by
  subst hg
  refine wpList_append_own_at _ hgd s x t ho base e i z size bytes ht hi hz hsize hby hzs hsz v n xs hs (hown.alloc _) ⟨w.heap.size, 0, none⟩ 1 1 cs.toList hx (by simp [hl]) ?_ (List.all_eq_true.1 h1) hn hb (by simp; omega) (fun v' w' h2 h3 _ h5 => h v' w' h2 h3 (by simpa using h5))
  intro j u hu
  rw [add_plain, Nat.zero_add, cell_of_row _ _ _ cs e (0, 0) (heap_alloc_new w _)]
  simpa using hu

theorem touch_row {S : Nat → Prop} {w w' : World} {row : Option Nat} (hg : w.grownBy w' row) (h : ∀ k, row = some k → S k) : Touch S w w' :=
  ⟨hg.os, hg.tape, hg.output, hg.size, fun k hk hn => hg.block k hk (fun e => hn (h k e.symm))⟩

/-- What a call may touch that has a struct at R with a row A in it. -/
def RT (n R : Nat) (A : Option Addr) : Nat → Prop := fun k => k = R ∨ A.map (·.block) = some k ∨ n ≤ k

end Go.Proofs.YtoemmakhbiiknaaGreat

namespace Go.Proofs.YtoemmakhbiiknaaGreat
open Go.RowKit Go.MapKept Go.ChangeMaps Go.WideShapes Go.ChangeShapes Go.ChangeAt Go.Deep
set_option linter.unusedVariables false

theorem IsIter.left_len {κ ν : Type} {w : World} {r B : Nat} {kE : κ → Value} {vE : ν → Value} {m left : List (κ × ν)} (h : IsIter w r B kE vE m left) : w.rangeLeft B r = left.length := by
  obtain ⟨es, clock, since, c0, seen, hb, hr, _, _, _, _, _, hit, rfl⟩ := h
  have hl : es.length = m.length := by have := congrArg List.length hr; simpa using this
  simp only [World.rangeLeft, hb, hit, leftOf]
  unfold toCome
  rw [List.length_map]
  have e1 := zip_fst (m := m) hl
  have e2 : (Array.filter (fun e => !seen.contains e.born) es.toArray).size = (es.filter fun e => !seen.contains e.born).length := by simp
  rw [e2]
  conv => lhs; rw [← e1, List.filter_map, List.length_map]
  rfl

theorem own_slice {w : World} {base : Nat} {e : TypeId} {size : Nat} {v : Value} {n : Nat} {xs : List Value} (h : w.ownsRow base e size v n xs) : ∃ A cap, v = .slice A n cap ∧ Rd w A xs := by
  have h0 := h
  obtain ⟨hl, h1 | ⟨g, cap, cur, rfl, _, hh, hn, _⟩⟩ := h
  · obtain ⟨rfl, rfl⟩ := h1
    exact ⟨none, 0, rfl, .inl (List.eq_nil_of_length_eq_zero (by simpa using hl))⟩
  · refine ⟨_, cap, rfl, ?_⟩
    rcases xs with _ | ⟨x, xs⟩
    · exact .inl rfl
    · right
      refine ⟨g, 0, rfl, (Array.getElem?_eq_some_iff.1 hh).1, fun j u hu => ?_⟩
      have := h0.cells (g := g) rfl j u hu
      rw [add_plain] at this
      exact this


theorem own_rd {w : World} {base n cap m : Nat} {e : TypeId} {size : Nat} {A : Option Addr} {xs : List Value} (h : w.ownsRow base e size (.slice A n cap) m xs) : Rd w A xs := by
  obtain ⟨A1, c1, e, hr⟩ := own_slice h
  injection e with e1 _ _
  rw [e1]; exact hr

/-- An own row's blocks. -/
theorem own_blk {w : World} {base n cap m : Nat} {e : TypeId} {size : Nat} {A : Option Addr} {xs : List Value} (h : w.ownsRow base e size (.slice A n cap) m xs) : ∀ b, A.map (·.block) = some b → base ≤ b ∧ b < w.heap.size := fun b hb => by
  refine h.lt b ?_
  cases A with
  | none => simp at hb
  | some a => simpa [Value.ownBlock] using hb
/-- What a function leaves that hands back a slice in a new row. -/
def NewRowOf {α : Type} (enc : α → List Value) (t : TypeId) (s : Nat) (r : List α) (w : World) (e : Ending) (w' : World) : Prop := ∃ A cap, e = .returned (.slice A r.length cap) ∧ w'.ownsRow w.heap.size t s (.slice A r.length cap) r.length (r.flatMap enc) ∧ Below w.heap.size w w'
theorem Rd.take {α : Type} {enc : α → List Value} {w : World} {A : Option Addr} {l : List α} (h : Rd w A (l.flatMap enc)) (k : Nat) : Rd w A ((l.take k).flatMap enc) := by
  rcases h with h0 | ⟨b, off, hA, hlt, hc⟩
  · left
    have : l.flatMap enc = (l.take k).flatMap enc ++ (l.drop k).flatMap enc := by rw [← List.flatMap_append, List.take_append_drop]
    rw [this] at h0
    exact (List.append_eq_nil_iff.1 h0).1
  · right
    refine ⟨b, off, hA, hlt, fun j u hu => hc j u ?_⟩
    have e1 : l.flatMap enc = (l.take k).flatMap enc ++ (l.drop k).flatMap enc := by rw [← List.flatMap_append, List.take_append_drop]
    rw [e1, List.getElem?_append_left (List.getElem?_eq_some_iff.1 hu).1]
    exact hu

theorem own_touch {S : Nat → Prop} {w w' : World} {base : Nat} {e : TypeId} {size : Nat} {v : Value} {n : Nat} {xs : List Value} (h : w.ownsRow base e size v n xs) (ht : Touch S w w') (hS : ∀ g, v.ownBlock = some g → ¬ S g) : w'.ownsRow base e size v n xs := by
  obtain ⟨hl, h1 | ⟨g, cap, cur, rfl, hb, hh, hr⟩⟩ := h
  · exact ⟨hl, .inl h1⟩
  · exact ⟨hl, .inr ⟨g, cap, cur, rfl, hb, (ht.block g (Array.getElem?_eq_some_iff.1 hh).1 (hS g rfl)).trans hh, hr⟩⟩
theorem own_notBlk {w : World} {base : Nat} {e t : TypeId} {size n : Nat} {v : Value} {xs : List Value} {g : Nat} {cs : Array Value} (h : w.ownsRow base e size v n xs) (hb : Blk w g t cs) (hne : e ≠ t) : v.ownBlock ≠ some g := by
  intro he
  rcases h.2 with ⟨rfl, _⟩ | ⟨g', cap, cur, rfl, _, hh, _⟩
  · simp [Value.ownBlock] at he
  · have hg : g' = g := by simpa [Value.ownBlock] using he
    subst hg
    unfold Blk at hb
    rw [hb] at hh
    injection hh with hh
    injection hh with _ h2
    exact hne h2.symm
theorem Rd.old {w : World} {A : Option Addr} {xs : List Value} (h : Rd w A xs) (hne : xs ≠ []) : ∀ b, A.map (·.block) = some b → b < w.heap.size := by
  rcases h with h | ⟨b, off, rfl, hlt, _⟩
  · exact absurd h hne
  · intro b' hb'
    simp at hb'
    omega

end Go.Proofs.YtoemmakhbiiknaaGreat

namespace Go.Proofs.YtoemmakhbiiknaaGreat
open Go.RowKit Go.WideShapes Go.ChangeShapes Go.ChangeAt Go.Deep
set_option linter.unusedVariables false

theorem plc_anyB {α : Type} (p : α → Bool) (l : List α) : decide ((0 : Int) ≤ plc p l) = l.any p := by
  rcases plc_cases p l with ⟨k, y, hk, hy, hp, e⟩ | ⟨hn, e⟩
  · rw [e, decide_eq_true (by omega)]
    exact (List.any_eq_true.2 ⟨y, List.mem_of_getElem? hy, hp⟩).symm
  · rw [e, decide_eq_false (by omega)]
    refine (List.any_eq_false.2 fun x hx => ?_).symm
    rw [hn x hx]; simp
/-- What the closure answers at each element. -/
def TestsI2 (N : FuncId) (v0 : Value) (v1 : Value) (p : Int → Bool) (l : List Int) (w : World) : Prop := ∀ y ∈ l, ∀ w', Below w.heap.size w w' → Calls Tryz.prog N #[.int .i64 y, v0, v1] w' fun e w'' => e = .returned (.bool (p y)) ∧ Below w'.heap.size w' w''
set_option maxRecDepth 100000 in
set_option maxHeartbeats 8000000 in
theorem indexI2 (l : List Int) (A : Option Addr) (cap : Nat) (N : FuncId) (v0 : Value) (v1 : Value) (p : Int → Bool) (w : World) (hR : Rd w A (l.flatMap en1)) (hl : l.length ≤ 140737488355328) (hN : ∀ (args : Array Value) (w : World), (callFunc N args).run Tryz.prog w = .ok (.enter N args) w) (hT : TestsI2 N v0 v1 p l w) :
    Calls Tryz.prog 83 #[.slice A l.length cap, .func (.func N) #[] #[v0, v1]] w fun e w' => e = .returned (.int .i64 (plc p l)) ∧ Below w.heap.size w w' := by
  have HT := hid hT
  clear hT
  go_enter Tryz.func83, Tryz.ntmps83
  go_wp2_with fail
  go_loopw [8] (fun i wr => ∃ k : Nat, k ≤ l.length ∧ i = .int .i64 k ∧ Hid (∀ j y, j < k → l[j]? = some y → p y = false) ∧ Below w.heap.size w wr) (fun i _ => l.length - nOf i)
  case atStart => exact ⟨0, Nat.zero_le _, rfl, hid (fun j y hj => by omega), Below.refl _ _⟩
  case round =>
    obtain ⟨k, hk, rfl, hP, hb⟩ := hrel
    by_cases hlt : k < l.length
    · obtain ⟨y, hy⟩ : ∃ y, l[k]? = some y := ⟨l[k], List.getElem?_eq_getElem hlt⟩
      obtain ⟨b, off, rfl, hbs, hcc⟩ := (hR.below hb).at_ 1 (fun _ => rfl) (by omega) hy
      have q0 : wr.cell? ⟨b, off + k * 1, none⟩ = some (.int .i64 y) := hcc 0 _ rfl
      rw [Nat.mul_one] at q0
      have K := hid (HT.out y (List.mem_of_getElem? hy) wr hb)
      have HY := hid hy
      clear hcc hy
      cases e : p y with
      | true =>
        rw [e] at K
        have HV := hid (plc_some (p := p) HY.out e hP.out)
        have HE := hid e
        clear e
        go_wp2_with fail
        refine K.out.mono ?_
        rintro e w5 ⟨rfl, hb5⟩
        go_wp2_with fail
        go_ret
        rw [HV.out]
        exact ⟨rfl, bthen hb hb5⟩
      | false =>
        rw [e] at K
        have HE := hid e
        clear e
        go_wp2_with fail
        refine K.out.mono ?_
        rintro e w5 ⟨rfl, hb5⟩
        go_wp2_with fail
        go_roundw
        case rel => exact ⟨k + 1, by omega, by go_num, hid (fun j z hj hz => by
          by_cases e : j = k
          · subst e; rw [HY.out] at hz; injection hz with hz; subst hz; exact HE.out
          · exact hP.out j z (by omega) hz), bthen hb hb5⟩
        case measure => simp [nOf]; omega
    · have HV := hid (plc_none (p := p) (l := l) (fun y hy => by
        obtain ⟨j, hj⟩ := List.mem_iff_getElem?.1 hy
        exact hP.out j y (by have := (List.getElem?_eq_some_iff.1 hj).1; omega) hj))
      clear hP hk
      go_wp2_with fail
      go_ret
      rw [HV.out]
      exact ⟨rfl, hb⟩
set_option maxRecDepth 100000 in
set_option maxHeartbeats 4000000 in
theorem hasI2 (l : List Int) (A : Option Addr) (cap : Nat) (N : FuncId) (v0 : Value) (v1 : Value) (p : Int → Bool) (w : World) (hR : Rd w A (l.flatMap en1)) (hl : l.length ≤ 140737488355328) (hN : ∀ (args : Array Value) (w : World), (callFunc N args).run Tryz.prog w = .ok (.enter N args) w) (hT : TestsI2 N v0 v1 p l w) :
    Calls Tryz.prog 53 #[.slice A l.length cap, .func (.func N) #[] #[v0, v1]] w fun e w' => e = .returned (.bool (l.any p)) ∧ Below w.heap.size w w' := by
  have K := hid (indexI2 l A cap N v0 v1 p w hR hl hN hT)
  have HH := hid (plc_anyB p l)
  clear hT
  generalize plc p l = z at K HH
  go_enter Tryz.func53, Tryz.ntmps53
  go_wp2_with (first | (go_at_call 83; refine K.out.mono ?_; rintro e w5 ⟨rfl, hb5⟩))
  go_ret
  rw [← HH.out]
  exact ⟨rfl, hb5⟩
/-- What the closure answers at each element. -/
def TestsM1 (N : FuncId) (v0 : Value) (p : Int → Bool) (l : List Int) (w : World) : Prop := ∀ y ∈ l, ∀ w', Below w.heap.size w w' → Calls Tryz.prog N #[.int .i64 y, v0] w' fun e w'' => e = .returned (.bool (p y)) ∧ Below w'.heap.size w' w''
set_option maxRecDepth 100000 in
set_option maxHeartbeats 8000000 in
theorem indexM1 (l : List Int) (A : Option Addr) (cap : Nat) (N : FuncId) (v0 : Value) (p : Int → Bool) (w : World) (hR : Rd w A (l.flatMap en1)) (hl : l.length ≤ 140737488355328) (hN : ∀ (args : Array Value) (w : World), (callFunc N args).run Tryz.prog w = .ok (.enter N args) w) (hT : TestsM1 N v0 p l w) :
    Calls Tryz.prog 82 #[.slice A l.length cap, .func (.func N) #[] #[v0]] w fun e w' => e = .returned (.int .i64 (plc p l)) ∧ Below w.heap.size w w' := by
  have HT := hid hT
  clear hT
  go_enter Tryz.func82, Tryz.ntmps82
  go_wp2_with fail
  go_loopw [8] (fun i wr => ∃ k : Nat, k ≤ l.length ∧ i = .int .i64 k ∧ Hid (∀ j y, j < k → l[j]? = some y → p y = false) ∧ Below w.heap.size w wr) (fun i _ => l.length - nOf i)
  case atStart => exact ⟨0, Nat.zero_le _, rfl, hid (fun j y hj => by omega), Below.refl _ _⟩
  case round =>
    obtain ⟨k, hk, rfl, hP, hb⟩ := hrel
    by_cases hlt : k < l.length
    · obtain ⟨y, hy⟩ : ∃ y, l[k]? = some y := ⟨l[k], List.getElem?_eq_getElem hlt⟩
      obtain ⟨b, off, rfl, hbs, hcc⟩ := (hR.below hb).at_ 1 (fun _ => rfl) (by omega) hy
      have q0 : wr.cell? ⟨b, off + k * 1, none⟩ = some (.int .i64 y) := hcc 0 _ rfl
      rw [Nat.mul_one] at q0
      have K := hid (HT.out y (List.mem_of_getElem? hy) wr hb)
      have HY := hid hy
      clear hcc hy
      cases e : p y with
      | true =>
        rw [e] at K
        have HV := hid (plc_some (p := p) HY.out e hP.out)
        have HE := hid e
        clear e
        go_wp2_with fail
        refine K.out.mono ?_
        rintro e w5 ⟨rfl, hb5⟩
        go_wp2_with fail
        go_ret
        rw [HV.out]
        exact ⟨rfl, bthen hb hb5⟩
      | false =>
        rw [e] at K
        have HE := hid e
        clear e
        go_wp2_with fail
        refine K.out.mono ?_
        rintro e w5 ⟨rfl, hb5⟩
        go_wp2_with fail
        go_roundw
        case rel => exact ⟨k + 1, by omega, by go_num, hid (fun j z hj hz => by
          by_cases e : j = k
          · subst e; rw [HY.out] at hz; injection hz with hz; subst hz; exact HE.out
          · exact hP.out j z (by omega) hz), bthen hb hb5⟩
        case measure => simp [nOf]; omega
    · have HV := hid (plc_none (p := p) (l := l) (fun y hy => by
        obtain ⟨j, hj⟩ := List.mem_iff_getElem?.1 hy
        exact hP.out j y (by have := (List.getElem?_eq_some_iff.1 hj).1; omega) hj))
      clear hP hk
      go_wp2_with fail
      go_ret
      rw [HV.out]
      exact ⟨rfl, hb⟩
set_option maxRecDepth 100000 in
set_option maxHeartbeats 4000000 in
theorem hasM1 (l : List Int) (A : Option Addr) (cap : Nat) (N : FuncId) (v0 : Value) (p : Int → Bool) (w : World) (hR : Rd w A (l.flatMap en1)) (hl : l.length ≤ 140737488355328) (hN : ∀ (args : Array Value) (w : World), (callFunc N args).run Tryz.prog w = .ok (.enter N args) w) (hT : TestsM1 N v0 p l w) :
    Calls Tryz.prog 52 #[.slice A l.length cap, .func (.func N) #[] #[v0]] w fun e w' => e = .returned (.bool (l.any p)) ∧ Below w.heap.size w w' := by
  have K := hid (indexM1 l A cap N v0 p w hR hl hN hT)
  have HH := hid (plc_anyB p l)
  clear hT
  generalize plc p l = z at K HH
  go_enter Tryz.func52, Tryz.ntmps52
  go_wp2_with (first | (go_at_call 82; refine K.out.mono ?_; rintro e w5 ⟨rfl, hb5⟩))
  go_ret
  rw [← HH.out]
  exact ⟨rfl, hb5⟩
/-- What the closure answers at each element. -/
def TestsM0 (N : FuncId) (p : Int → Bool) (l : List Int) (w : World) : Prop := ∀ y ∈ l, ∀ w', Below w.heap.size w w' → Calls Tryz.prog N #[.int .i64 y] w' fun e w'' => e = .returned (.bool (p y)) ∧ Below w'.heap.size w' w''
set_option maxRecDepth 100000 in
set_option maxHeartbeats 8000000 in
theorem indexM0 (l : List Int) (A : Option Addr) (cap : Nat) (N : FuncId) (p : Int → Bool) (w : World) (hR : Rd w A (l.flatMap en1)) (hl : l.length ≤ 140737488355328) (hN : ∀ (args : Array Value) (w : World), (callFunc N args).run Tryz.prog w = .ok (.enter N args) w) (hT : TestsM0 N p l w) :
    Calls Tryz.prog 82 #[.slice A l.length cap, .func (.func N) #[] #[]] w fun e w' => e = .returned (.int .i64 (plc p l)) ∧ Below w.heap.size w w' := by
  have HT := hid hT
  clear hT
  go_enter Tryz.func82, Tryz.ntmps82
  go_wp2_with fail
  go_loopw [8] (fun i wr => ∃ k : Nat, k ≤ l.length ∧ i = .int .i64 k ∧ Hid (∀ j y, j < k → l[j]? = some y → p y = false) ∧ Below w.heap.size w wr) (fun i _ => l.length - nOf i)
  case atStart => exact ⟨0, Nat.zero_le _, rfl, hid (fun j y hj => by omega), Below.refl _ _⟩
  case round =>
    obtain ⟨k, hk, rfl, hP, hb⟩ := hrel
    by_cases hlt : k < l.length
    · obtain ⟨y, hy⟩ : ∃ y, l[k]? = some y := ⟨l[k], List.getElem?_eq_getElem hlt⟩
      obtain ⟨b, off, rfl, hbs, hcc⟩ := (hR.below hb).at_ 1 (fun _ => rfl) (by omega) hy
      have q0 : wr.cell? ⟨b, off + k * 1, none⟩ = some (.int .i64 y) := hcc 0 _ rfl
      rw [Nat.mul_one] at q0
      have K := hid (HT.out y (List.mem_of_getElem? hy) wr hb)
      have HY := hid hy
      clear hcc hy
      cases e : p y with
      | true =>
        rw [e] at K
        have HV := hid (plc_some (p := p) HY.out e hP.out)
        have HE := hid e
        clear e
        go_wp2_with fail
        refine K.out.mono ?_
        rintro e w5 ⟨rfl, hb5⟩
        go_wp2_with fail
        go_ret
        rw [HV.out]
        exact ⟨rfl, bthen hb hb5⟩
      | false =>
        rw [e] at K
        have HE := hid e
        clear e
        go_wp2_with fail
        refine K.out.mono ?_
        rintro e w5 ⟨rfl, hb5⟩
        go_wp2_with fail
        go_roundw
        case rel => exact ⟨k + 1, by omega, by go_num, hid (fun j z hj hz => by
          by_cases e : j = k
          · subst e; rw [HY.out] at hz; injection hz with hz; subst hz; exact HE.out
          · exact hP.out j z (by omega) hz), bthen hb hb5⟩
        case measure => simp [nOf]; omega
    · have HV := hid (plc_none (p := p) (l := l) (fun y hy => by
        obtain ⟨j, hj⟩ := List.mem_iff_getElem?.1 hy
        exact hP.out j y (by have := (List.getElem?_eq_some_iff.1 hj).1; omega) hj))
      clear hP hk
      go_wp2_with fail
      go_ret
      rw [HV.out]
      exact ⟨rfl, hb⟩
set_option maxRecDepth 100000 in
set_option maxHeartbeats 4000000 in
theorem hasM0 (l : List Int) (A : Option Addr) (cap : Nat) (N : FuncId) (p : Int → Bool) (w : World) (hR : Rd w A (l.flatMap en1)) (hl : l.length ≤ 140737488355328) (hN : ∀ (args : Array Value) (w : World), (callFunc N args).run Tryz.prog w = .ok (.enter N args) w) (hT : TestsM0 N p l w) :
    Calls Tryz.prog 52 #[.slice A l.length cap, .func (.func N) #[] #[]] w fun e w' => e = .returned (.bool (l.any p)) ∧ Below w.heap.size w w' := by
  have K := hid (indexM0 l A cap N p w hR hl hN hT)
  have HH := hid (plc_anyB p l)
  clear hT
  generalize plc p l = z at K HH
  go_enter Tryz.func52, Tryz.ntmps52
  go_wp2_with (first | (go_at_call 82; refine K.out.mono ?_; rintro e w5 ⟨rfl, hb5⟩))
  go_ret
  rw [← HH.out]
  exact ⟨rfl, hb5⟩
/-- What the closure answers at each element. -/
def TestsI0 (N : FuncId) (p : Int → Bool) (l : List Int) (w : World) : Prop := ∀ y ∈ l, ∀ w', Below w.heap.size w w' → Calls Tryz.prog N #[.int .i64 y] w' fun e w'' => e = .returned (.bool (p y)) ∧ Below w'.heap.size w' w''
set_option maxRecDepth 100000 in
set_option maxHeartbeats 8000000 in
theorem indexI0 (l : List Int) (A : Option Addr) (cap : Nat) (N : FuncId) (p : Int → Bool) (w : World) (hR : Rd w A (l.flatMap en1)) (hl : l.length ≤ 140737488355328) (hN : ∀ (args : Array Value) (w : World), (callFunc N args).run Tryz.prog w = .ok (.enter N args) w) (hT : TestsI0 N p l w) :
    Calls Tryz.prog 83 #[.slice A l.length cap, .func (.func N) #[] #[]] w fun e w' => e = .returned (.int .i64 (plc p l)) ∧ Below w.heap.size w w' := by
  have HT := hid hT
  clear hT
  go_enter Tryz.func83, Tryz.ntmps83
  go_wp2_with fail
  go_loopw [8] (fun i wr => ∃ k : Nat, k ≤ l.length ∧ i = .int .i64 k ∧ Hid (∀ j y, j < k → l[j]? = some y → p y = false) ∧ Below w.heap.size w wr) (fun i _ => l.length - nOf i)
  case atStart => exact ⟨0, Nat.zero_le _, rfl, hid (fun j y hj => by omega), Below.refl _ _⟩
  case round =>
    obtain ⟨k, hk, rfl, hP, hb⟩ := hrel
    by_cases hlt : k < l.length
    · obtain ⟨y, hy⟩ : ∃ y, l[k]? = some y := ⟨l[k], List.getElem?_eq_getElem hlt⟩
      obtain ⟨b, off, rfl, hbs, hcc⟩ := (hR.below hb).at_ 1 (fun _ => rfl) (by omega) hy
      have q0 : wr.cell? ⟨b, off + k * 1, none⟩ = some (.int .i64 y) := hcc 0 _ rfl
      rw [Nat.mul_one] at q0
      have K := hid (HT.out y (List.mem_of_getElem? hy) wr hb)
      have HY := hid hy
      clear hcc hy
      cases e : p y with
      | true =>
        rw [e] at K
        have HV := hid (plc_some (p := p) HY.out e hP.out)
        have HE := hid e
        clear e
        go_wp2_with fail
        refine K.out.mono ?_
        rintro e w5 ⟨rfl, hb5⟩
        go_wp2_with fail
        go_ret
        rw [HV.out]
        exact ⟨rfl, bthen hb hb5⟩
      | false =>
        rw [e] at K
        have HE := hid e
        clear e
        go_wp2_with fail
        refine K.out.mono ?_
        rintro e w5 ⟨rfl, hb5⟩
        go_wp2_with fail
        go_roundw
        case rel => exact ⟨k + 1, by omega, by go_num, hid (fun j z hj hz => by
          by_cases e : j = k
          · subst e; rw [HY.out] at hz; injection hz with hz; subst hz; exact HE.out
          · exact hP.out j z (by omega) hz), bthen hb hb5⟩
        case measure => simp [nOf]; omega
    · have HV := hid (plc_none (p := p) (l := l) (fun y hy => by
        obtain ⟨j, hj⟩ := List.mem_iff_getElem?.1 hy
        exact hP.out j y (by have := (List.getElem?_eq_some_iff.1 hj).1; omega) hj))
      clear hP hk
      go_wp2_with fail
      go_ret
      rw [HV.out]
      exact ⟨rfl, hb⟩
set_option maxRecDepth 100000 in
set_option maxHeartbeats 4000000 in
theorem hasI0 (l : List Int) (A : Option Addr) (cap : Nat) (N : FuncId) (p : Int → Bool) (w : World) (hR : Rd w A (l.flatMap en1)) (hl : l.length ≤ 140737488355328) (hN : ∀ (args : Array Value) (w : World), (callFunc N args).run Tryz.prog w = .ok (.enter N args) w) (hT : TestsI0 N p l w) :
    Calls Tryz.prog 53 #[.slice A l.length cap, .func (.func N) #[] #[]] w fun e w' => e = .returned (.bool (l.any p)) ∧ Below w.heap.size w w' := by
  have K := hid (indexI0 l A cap N p w hR hl hN hT)
  have HH := hid (plc_anyB p l)
  clear hT
  generalize plc p l = z at K HH
  go_enter Tryz.func53, Tryz.ntmps53
  go_wp2_with (first | (go_at_call 83; refine K.out.mono ?_; rintro e w5 ⟨rfl, hb5⟩))
  go_ret
  rw [← HH.out]
  exact ⟨rfl, hb5⟩
set_option maxRecDepth 100000 in
set_option maxHeartbeats 8000000 in
theorem indexMk (l : List Int) (A : Option Addr) (cap : Nat) (x : Int) (w : World) (hR : Rd w A (l.flatMap en1)) (hl : l.length ≤ 140737488355328) :
    Calls Tryz.prog 124 #[.slice A l.length cap, .int .i64 x] w fun e w' => e = .returned (.int .i64 (plc (fun y => x == y) l)) ∧ Below w.heap.size w w' := by
  go_enter Tryz.func124, Tryz.ntmps124
  go_wp2_with fail
  go_loopw [8] (fun i wr => ∃ k : Nat, k ≤ l.length ∧ i = .int .i64 k ∧ Hid (∀ j y, j < k → l[j]? = some y → (x == y) = false) ∧ Below w.heap.size w wr) (fun i _ => l.length - nOf i)
  case atStart => exact ⟨0, Nat.zero_le _, rfl, hid (fun j y hj => by omega), Below.refl _ _⟩
  case round =>
    obtain ⟨k, hk, rfl, hP, hb⟩ := hrel
    by_cases hlt : k < l.length
    · obtain ⟨y, hy⟩ : ∃ y, l[k]? = some y := ⟨l[k], List.getElem?_eq_getElem hlt⟩
      obtain ⟨b, off, rfl, hbs, hcc⟩ := (hR.below hb).at_ 1 (fun _ => rfl) (by omega) hy
      have q0 : wr.cell? ⟨b, off + k * 1, none⟩ = some (.int .i64 y) := hcc 0 _ rfl
      rw [Nat.mul_one] at q0
      have HY := hid hy
      clear hcc hy
      cases e : (x == y) with
      | true =>
        have HV := hid (plc_some (p := fun y => x == y) HY.out e hP.out)
        go_wp2_with fail
        go_ret
        rw [HV.out]
        exact ⟨rfl, hb⟩
      | false =>
        have HE := hid e
        go_wp2_with fail
        go_roundw
        case rel => exact ⟨k + 1, by omega, by go_num, hid (fun j z hj hz => by
          by_cases e : j = k
          · subst e; rw [HY.out] at hz; injection hz with hz; subst hz; exact HE.out
          · exact hP.out j z (by omega) hz), hb⟩
        case measure => simp [nOf]; omega
    · have HV := hid (plc_none (p := fun y => x == y) (l := l) (fun y hy => by
        obtain ⟨j, hj⟩ := List.mem_iff_getElem?.1 hy
        exact hP.out j y (by have := (List.getElem?_eq_some_iff.1 hj).1; omega) hj))
      clear hP hk
      go_wp2_with fail
      go_ret
      rw [HV.out]
      exact ⟨rfl, hb⟩
set_option maxRecDepth 100000 in
set_option maxHeartbeats 4000000 in
theorem hasMk (l : List Int) (A : Option Addr) (cap : Nat) (x : Int) (w : World) (hR : Rd w A (l.flatMap en1)) (hl : l.length ≤ 140737488355328) :
    Calls Tryz.prog 102 #[.slice A l.length cap, .int .i64 x] w fun e w' => e = .returned (.bool (l.any fun y => x == y)) ∧ Below w.heap.size w w' := by
  have K := hid (indexMk l A cap x w hR hl)
  have HH := hid (plc_anyB (fun y => x == y) l)
  generalize plc (fun y => x == y) l = z at K HH
  go_enter Tryz.func102, Tryz.ntmps102
  go_wp2_with (first | (go_at_call 124; refine K.out.mono ?_; rintro e w5 ⟨rfl, hb5⟩))
  go_ret
  rw [← HH.out]
  exact ⟨rfl, hb5⟩

end Go.Proofs.YtoemmakhbiiknaaGreat

namespace Go.Proofs.YtoemmakhbiiknaaGreat
open Go.RowKit
set_option linter.unusedVariables false

section
variable {P : Program} {κ ν : Type} [DecidableEq κ] {kE : κ → Value} {vE : ν → Value} {w : World}
theorem bytes_beq (a b : ByteArray) : (a == b) = decide (a = b) := by
  rw [beq_toListBytes, ByteArray.toList_eq, ByteArray.toList_eq]
  obtain ⟨⟨x⟩⟩ := a
  obtain ⟨⟨y⟩⟩ := b
  by_cases e : x = y
  · subst e; simp
  · have : ¬ (ByteArray.mk ⟨x⟩ = ByteArray.mk ⟨y⟩) := fun h => e (by injection h with h; injection h)
    simp [e, this]
def kS (s : ByteArray) : Value := .string s
theorem strKey {kt : TypeId} (hu : P.underlying kt = some .string) : KeyLaw P kt kS := by
  refine keyLaw_of ?_ ?_ ?_ hu ?_
  · intro e a w
    show (Instr.checkKey e (9999 + 1) kt (.string a)).run P w = _
    unfold Instr.checkKey
    simp [run_underlying hu]
  · intro a b w
    show (Op.equalIn (9999 + 1) kt (.string a) (.string b)).run P w = _
    rw [run_equalIn_string (P := P) (w := w) 9999 kt a b hu, ← beq_toListBytes, bytes_beq]
  · intro a w
    show (Instr.keyThatStays (.string a) (.string a)).run P w = _
    unfold Instr.keyThatStays
    simp [Instr.sameBits, bytes_beq, kS]
  · intro a b
    right
    simp [Instr.sameNow, kS, bytes_beq]
theorem wpList_insert {kt : TypeId} {ops : Array Oper} {rest : List Oper} {o : Oper} {a : Act} {Q : Exit → Act → World → Prop} (w : World)
    (hgd : o.guard = none) (mo xo vo : Operand) (mt et : TypeId) (hop : o.op = Op.insert mt mo xo vo) (K : KeyLaw P kt kE) (hm : P.underlying mt = some (.map kt et))
    (B : Nat) (m : List (κ × ν)) (hM : a.eval mo = .map (some B)) (h : IsMap w B kE vE m) (k : κ) (b : ν) (hx : a.eval xo = kE k) (hv : a.eval vo = vE b)
    (hK : ∀ w', IsMap w' B kE vE (mset m k b) → w.grownBy w' (some B) → w'.heap.size = w.heap.size → wpList P ops Q rest (a.put o.dst undef) w') : wpList P ops Q (o :: rest) a w := by
  refine wpList_plain hgd fun K' hK' => ?_
  obtain ⟨w', hrun, r1, r2, r3⟩ := h.store K hm k b
  unfold Oper.wp
  simp [execOp, hop, hM, hx, hv, hrun, Result.andThen]
  exact hK' _ _ (hK w' r1 r2 r3)
end

end Go.Proofs.YtoemmakhbiiknaaGreat

namespace Go.Proofs.YtoemmakhbiiknaaGreat
open Go.RowKit Go.WideShapes Go.ChangeShapes Go.ChangeAt Go.Deep
set_option linter.unusedVariables false

/-- The verb that undoes a verb; is there such a verb, and is it a final one? -/
def undoN (v : ByteArray) : ByteArray × Bool × Bool :=
  if (v.toList == [99, 114, 101, 100, 105, 116, 46, 104, 111, 108, 100]) = true then ((⟨#[99, 114, 101, 100, 105, 116, 46, 114, 101, 108, 101, 97, 115, 101]⟩ : ByteArray), true, false) else
  if (v.toList == [115, 116, 111, 99, 107, 46, 97, 108, 108, 111, 99, 97, 116, 101]) = true then ((⟨#[115, 116, 111, 99, 107, 46, 102, 114, 101, 101]⟩ : ByteArray), true, false) else
  if (v.toList == [115, 116, 111, 99, 107, 46, 115, 104, 105, 112]) = true then ((⟨#[115, 116, 111, 99, 107, 46, 114, 101, 115, 116, 111, 99, 107]⟩ : ByteArray), true, false) else
  if (v.toList == [98, 105, 108, 108, 46, 105, 110, 118, 111, 105, 99, 101]) = true then ((⟨#[98, 105, 108, 108, 46, 99, 114, 101, 100, 105, 116]⟩ : ByteArray), true, false) else
  if (v.toList == [99, 114, 101, 100, 105, 116, 46, 99, 108, 101, 97, 114]) = true then ((⟨#[]⟩ : ByteArray), true, true) else
  if (v.toList == [115, 116, 111, 99, 107, 46, 116, 97, 107, 101, 98, 97, 99, 107]) = true then ((⟨#[]⟩ : ByteArray), true, true) else
  if (v.toList == [98, 105, 108, 108, 46, 109, 101, 109, 111]) = true then ((⟨#[]⟩ : ByteArray), true, true) else
  if (v.toList == [99, 97, 115, 104, 46, 114, 101, 102, 117, 110, 100]) = true then ((⟨#[]⟩ : ByteArray), true, true) else
  ((⟨#[]⟩ : ByteArray), false, false)
set_option maxRecDepth 100000 in
set_option maxHeartbeats 8000000 in
theorem undo_any (v : ByteArray) (w : World) : Calls Tryz.prog 111 #[.string v] w fun e w' => e = .returned (.tuple #[.string (undoN v).1, .bool (undoN v).2.1, .bool (undoN v).2.2]) ∧ w = w' := by
  cases h0 : (v.toList == [99, 114, 101, 100, 105, 116, 46, 104, 111, 108, 100]) with
  | true =>
    have HV := hid (show undoN v = ((⟨#[99, 114, 101, 100, 105, 116, 46, 114, 101, 108, 101, 97, 115, 101]⟩ : ByteArray), true, false) from by simp [undoN, h0])
    go_enter Tryz.func111, Tryz.ntmps111
    go_wp2_with fail
    refine bodyPost_ret (v := .tuple #[.string (⟨#[99, 114, 101, 100, 105, 116, 46, 114, 101, 108, 101, 97, 115, 101]⟩ : ByteArray), .bool true, .bool false]) (by simp [results, Tryz.results111, go_sem]) rfl ⟨by rw [HV.out], rfl⟩
  | false =>
    cases h1 : (v.toList == [115, 116, 111, 99, 107, 46, 97, 108, 108, 111, 99, 97, 116, 101]) with
    | true =>
      have HV := hid (show undoN v = ((⟨#[115, 116, 111, 99, 107, 46, 102, 114, 101, 101]⟩ : ByteArray), true, false) from by simp [undoN, h0, h1])
      go_enter Tryz.func111, Tryz.ntmps111
      go_wp2_with fail
      refine bodyPost_ret (v := .tuple #[.string (⟨#[115, 116, 111, 99, 107, 46, 102, 114, 101, 101]⟩ : ByteArray), .bool true, .bool false]) (by simp [results, Tryz.results111, go_sem]) rfl ⟨by rw [HV.out], rfl⟩
    | false =>
      cases h2 : (v.toList == [115, 116, 111, 99, 107, 46, 115, 104, 105, 112]) with
      | true =>
        have HV := hid (show undoN v = ((⟨#[115, 116, 111, 99, 107, 46, 114, 101, 115, 116, 111, 99, 107]⟩ : ByteArray), true, false) from by simp [undoN, h0, h1, h2])
        go_enter Tryz.func111, Tryz.ntmps111
        go_wp2_with fail
        refine bodyPost_ret (v := .tuple #[.string (⟨#[115, 116, 111, 99, 107, 46, 114, 101, 115, 116, 111, 99, 107]⟩ : ByteArray), .bool true, .bool false]) (by simp [results, Tryz.results111, go_sem]) rfl ⟨by rw [HV.out], rfl⟩
      | false =>
        cases h3 : (v.toList == [98, 105, 108, 108, 46, 105, 110, 118, 111, 105, 99, 101]) with
        | true =>
          have HV := hid (show undoN v = ((⟨#[98, 105, 108, 108, 46, 99, 114, 101, 100, 105, 116]⟩ : ByteArray), true, false) from by simp [undoN, h0, h1, h2, h3])
          go_enter Tryz.func111, Tryz.ntmps111
          go_wp2_with fail
          refine bodyPost_ret (v := .tuple #[.string (⟨#[98, 105, 108, 108, 46, 99, 114, 101, 100, 105, 116]⟩ : ByteArray), .bool true, .bool false]) (by simp [results, Tryz.results111, go_sem]) rfl ⟨by rw [HV.out], rfl⟩
        | false =>
          cases h4 : (v.toList == [99, 114, 101, 100, 105, 116, 46, 99, 108, 101, 97, 114]) with
          | true =>
            have HV := hid (show undoN v = ((⟨#[]⟩ : ByteArray), true, true) from by simp [undoN, h0, h1, h2, h3, h4])
            go_enter Tryz.func111, Tryz.ntmps111
            go_wp2_with fail
            refine bodyPost_ret (v := .tuple #[.string (⟨#[]⟩ : ByteArray), .bool true, .bool true]) (by simp [results, Tryz.results111, go_sem]) rfl ⟨by rw [HV.out], rfl⟩
          | false =>
            cases h5 : (v.toList == [115, 116, 111, 99, 107, 46, 116, 97, 107, 101, 98, 97, 99, 107]) with
            | true =>
              have HV := hid (show undoN v = ((⟨#[]⟩ : ByteArray), true, true) from by simp [undoN, h0, h1, h2, h3, h4, h5])
              go_enter Tryz.func111, Tryz.ntmps111
              go_wp2_with fail
              refine bodyPost_ret (v := .tuple #[.string (⟨#[]⟩ : ByteArray), .bool true, .bool true]) (by simp [results, Tryz.results111, go_sem]) rfl ⟨by rw [HV.out], rfl⟩
            | false =>
              cases h6 : (v.toList == [98, 105, 108, 108, 46, 109, 101, 109, 111]) with
              | true =>
                have HV := hid (show undoN v = ((⟨#[]⟩ : ByteArray), true, true) from by simp [undoN, h0, h1, h2, h3, h4, h5, h6])
                go_enter Tryz.func111, Tryz.ntmps111
                go_wp2_with fail
                refine bodyPost_ret (v := .tuple #[.string (⟨#[]⟩ : ByteArray), .bool true, .bool true]) (by simp [results, Tryz.results111, go_sem]) rfl ⟨by rw [HV.out], rfl⟩
              | false =>
                cases h7 : (v.toList == [99, 97, 115, 104, 46, 114, 101, 102, 117, 110, 100]) with
                | true =>
                  have HV := hid (show undoN v = ((⟨#[]⟩ : ByteArray), true, true) from by simp [undoN, h0, h1, h2, h3, h4, h5, h6, h7])
                  go_enter Tryz.func111, Tryz.ntmps111
                  go_wp2_with fail
                  refine bodyPost_ret (v := .tuple #[.string (⟨#[]⟩ : ByteArray), .bool true, .bool true]) (by simp [results, Tryz.results111, go_sem]) rfl ⟨by rw [HV.out], rfl⟩
                | false =>
                  have HV := hid (show undoN v = ((⟨#[]⟩ : ByteArray), false, false) from by simp [undoN, h0, h1, h2, h3, h4, h5, h6, h7])
                  go_enter Tryz.func111, Tryz.ntmps111
                  go_wp2_with fail
                  refine bodyPost_ret (v := .tuple #[.string (⟨#[]⟩ : ByteArray), .bool false, .bool false]) (by simp [results, Tryz.results111, go_sem]) rfl ⟨by rw [HV.out], rfl⟩
set_option maxRecDepth 100000 in
set_option maxHeartbeats 8000000 in
theorem rundo_any (v : ByteArray) (w : World) : Calls Tryz.prog 123 #[.string v] w fun e w' => e = .returned (.tuple #[.string (undoN v).1, .bool (undoN v).2.1, .bool (undoN v).2.2]) ∧ w = w' := by
  cases h0 : (v.toList == [99, 114, 101, 100, 105, 116, 46, 104, 111, 108, 100]) with
  | true =>
    have HV := hid (show undoN v = ((⟨#[99, 114, 101, 100, 105, 116, 46, 114, 101, 108, 101, 97, 115, 101]⟩ : ByteArray), true, false) from by simp [undoN, h0])
    go_enter Tryz.func123, Tryz.ntmps123
    go_wp2_with fail
    refine bodyPost_ret (v := .tuple #[.string (⟨#[99, 114, 101, 100, 105, 116, 46, 114, 101, 108, 101, 97, 115, 101]⟩ : ByteArray), .bool true, .bool false]) (by simp [results, Tryz.results123, go_sem]) rfl ⟨by rw [HV.out], rfl⟩
  | false =>
    cases h1 : (v.toList == [115, 116, 111, 99, 107, 46, 97, 108, 108, 111, 99, 97, 116, 101]) with
    | true =>
      have HV := hid (show undoN v = ((⟨#[115, 116, 111, 99, 107, 46, 102, 114, 101, 101]⟩ : ByteArray), true, false) from by simp [undoN, h0, h1])
      go_enter Tryz.func123, Tryz.ntmps123
      go_wp2_with fail
      refine bodyPost_ret (v := .tuple #[.string (⟨#[115, 116, 111, 99, 107, 46, 102, 114, 101, 101]⟩ : ByteArray), .bool true, .bool false]) (by simp [results, Tryz.results123, go_sem]) rfl ⟨by rw [HV.out], rfl⟩
    | false =>
      cases h2 : (v.toList == [115, 116, 111, 99, 107, 46, 115, 104, 105, 112]) with
      | true =>
        have HV := hid (show undoN v = ((⟨#[115, 116, 111, 99, 107, 46, 114, 101, 115, 116, 111, 99, 107]⟩ : ByteArray), true, false) from by simp [undoN, h0, h1, h2])
        go_enter Tryz.func123, Tryz.ntmps123
        go_wp2_with fail
        refine bodyPost_ret (v := .tuple #[.string (⟨#[115, 116, 111, 99, 107, 46, 114, 101, 115, 116, 111, 99, 107]⟩ : ByteArray), .bool true, .bool false]) (by simp [results, Tryz.results123, go_sem]) rfl ⟨by rw [HV.out], rfl⟩
      | false =>
        cases h3 : (v.toList == [98, 105, 108, 108, 46, 105, 110, 118, 111, 105, 99, 101]) with
        | true =>
          have HV := hid (show undoN v = ((⟨#[98, 105, 108, 108, 46, 99, 114, 101, 100, 105, 116]⟩ : ByteArray), true, false) from by simp [undoN, h0, h1, h2, h3])
          go_enter Tryz.func123, Tryz.ntmps123
          go_wp2_with fail
          refine bodyPost_ret (v := .tuple #[.string (⟨#[98, 105, 108, 108, 46, 99, 114, 101, 100, 105, 116]⟩ : ByteArray), .bool true, .bool false]) (by simp [results, Tryz.results123, go_sem]) rfl ⟨by rw [HV.out], rfl⟩
        | false =>
          cases h4 : (v.toList == [99, 114, 101, 100, 105, 116, 46, 99, 108, 101, 97, 114]) with
          | true =>
            have HV := hid (show undoN v = ((⟨#[]⟩ : ByteArray), true, true) from by simp [undoN, h0, h1, h2, h3, h4])
            go_enter Tryz.func123, Tryz.ntmps123
            go_wp2_with fail
            refine bodyPost_ret (v := .tuple #[.string (⟨#[]⟩ : ByteArray), .bool true, .bool true]) (by simp [results, Tryz.results123, go_sem]) rfl ⟨by rw [HV.out], rfl⟩
          | false =>
            cases h5 : (v.toList == [115, 116, 111, 99, 107, 46, 116, 97, 107, 101, 98, 97, 99, 107]) with
            | true =>
              have HV := hid (show undoN v = ((⟨#[]⟩ : ByteArray), true, true) from by simp [undoN, h0, h1, h2, h3, h4, h5])
              go_enter Tryz.func123, Tryz.ntmps123
              go_wp2_with fail
              refine bodyPost_ret (v := .tuple #[.string (⟨#[]⟩ : ByteArray), .bool true, .bool true]) (by simp [results, Tryz.results123, go_sem]) rfl ⟨by rw [HV.out], rfl⟩
            | false =>
              cases h6 : (v.toList == [98, 105, 108, 108, 46, 109, 101, 109, 111]) with
              | true =>
                have HV := hid (show undoN v = ((⟨#[]⟩ : ByteArray), true, true) from by simp [undoN, h0, h1, h2, h3, h4, h5, h6])
                go_enter Tryz.func123, Tryz.ntmps123
                go_wp2_with fail
                refine bodyPost_ret (v := .tuple #[.string (⟨#[]⟩ : ByteArray), .bool true, .bool true]) (by simp [results, Tryz.results123, go_sem]) rfl ⟨by rw [HV.out], rfl⟩
              | false =>
                cases h7 : (v.toList == [99, 97, 115, 104, 46, 114, 101, 102, 117, 110, 100]) with
                | true =>
                  have HV := hid (show undoN v = ((⟨#[]⟩ : ByteArray), true, true) from by simp [undoN, h0, h1, h2, h3, h4, h5, h6, h7])
                  go_enter Tryz.func123, Tryz.ntmps123
                  go_wp2_with fail
                  refine bodyPost_ret (v := .tuple #[.string (⟨#[]⟩ : ByteArray), .bool true, .bool true]) (by simp [results, Tryz.results123, go_sem]) rfl ⟨by rw [HV.out], rfl⟩
                | false =>
                  have HV := hid (show undoN v = ((⟨#[]⟩ : ByteArray), false, false) from by simp [undoN, h0, h1, h2, h3, h4, h5, h6, h7])
                  go_enter Tryz.func123, Tryz.ntmps123
                  go_wp2_with fail
                  refine bodyPost_ret (v := .tuple #[.string (⟨#[]⟩ : ByteArray), .bool false, .bool false]) (by simp [results, Tryz.results123, go_sem]) rfl ⟨by rw [HV.out], rfl⟩

end Go.Proofs.YtoemmakhbiiknaaGreat

namespace Go.Proofs.YtoemmakhbiiknaaGreat
open Go.RowKit Go.WideShapes Go.ChangeShapes Go.ChangeAt Go.Deep
set_option linter.unusedVariables false

/-- A step, and where the names lie that it waits for. -/
structure Stp where
  name : ByteArray
  verb : ByteArray
  undo : ByteArray
  event : ByteArray
  fin : Bool
  ret : Int
  ev : Int
  wi : Int
  A : Option Addr
  cap : Nat
  after : List ByteArray
def enSt (s : Stp) : List Value := [.string s.name, .string s.verb, .string s.undo, .string s.event, .bool s.fin, .int .i64 s.ret, .int .i64 s.ev, .int .i64 s.wi, .slice s.A s.after.length s.cap]
theorem enSt_len (s : Stp) : (enSt s).length = 9 := rfl
/-- May the step stand by itself? -/
def oneN (s : Stp) : Int :=
  if s.event.toList.isEmpty = true then
    if (undoN s.verb).2.1 = true then
      if (s.undo.toList == (undoN s.verb).1.toList) = true then (if s.fin = (undoN s.verb).2.2 then 0 else 112) else 112
    else 111
  else if (s.event.toList == [112, 97, 105, 100]) = true then 0 else 111

set_option maxRecDepth 100000 in
set_option maxHeartbeats 8000000 in
theorem step_one (s : Stp) (w : World) : Calls Tryz.prog 89 #[.agg (enSt s).toArray] w fun e w' => e = .returned (.int .i64 (oneN s)) ∧ Below w.heap.size w w' := by
  obtain ⟨xn, xv, xu, xe, xf, xr, xy, xw, xA, xc, xl⟩ := s
  have earr : (enSt ⟨xn, xv, xu, xe, xf, xr, xy, xw, xA, xc, xl⟩).toArray = #[.string xn, .string xv, .string xu, .string xe, .bool xf, .int .i64 xr, .int .i64 xy, .int .i64 xw, .slice xA xl.length xc] := rfl
  rw [earr]
  clear earr
  have HB : Hid (Below w.heap.size w (w.alloc (.cells #[.string xn, .string xv, .string xu, .string xe, .bool xf, .int .i64 xr, .int .i64 xy, .int .i64 xw, .slice xA xl.length xc] 69))) := hid ((Below.refl _ _).alloc (Nat.le_refl _) _)
  cases he : xe.toList.isEmpty with
  | false =>
    cases hp : (xe.toList == [112, 97, 105, 100]) with
    | true =>
      have HV := hid (show oneN ⟨xn, xv, xu, xe, xf, xr, xy, xw, xA, xc, xl⟩ = 0 from by simp [oneN, he, hp])
      go_enter Tryz.func89, Tryz.ntmps89
      go_wp2_with fail
      go_ret
      exact ⟨by rw [HV.out]; rfl, HB.out⟩
    | false =>
      have HV := hid (show oneN ⟨xn, xv, xu, xe, xf, xr, xy, xw, xA, xc, xl⟩ = 111 from by simp [oneN, he, hp])
      go_enter Tryz.func89, Tryz.ntmps89
      go_wp2_with fail
      go_ret
      exact ⟨by rw [HV.out]; rfl, HB.out⟩
  | true =>
    have hu' : ∃ u kn fi, undoN xv = (u, kn, fi) := ⟨_, _, _, rfl⟩
    obtain ⟨u, kn, fi, hu⟩ := hu'
    cases kn with
    | false =>
      have HV := hid (show oneN ⟨xn, xv, xu, xe, xf, xr, xy, xw, xA, xc, xl⟩ = 111 from by simp [oneN, he, hu])
      go_enter Tryz.func89, Tryz.ntmps89
      go_wp2_with fail
      refine (undo_any xv _).mono ?_
      rintro e w2 ⟨rfl, rfl⟩
      rw [hu]
      go_wp2_with fail
      go_ret
      exact ⟨by rw [HV.out]; rfl, HB.out⟩
    | true =>
      cases hq : (xu.toList == u.toList) with
      | false =>
        have HV := hid (show oneN ⟨xn, xv, xu, xe, xf, xr, xy, xw, xA, xc, xl⟩ = 112 from by simp [oneN, he, hu, hq])
        go_enter Tryz.func89, Tryz.ntmps89
        go_wp2_with fail
        refine (undo_any xv _).mono ?_
        rintro e w2 ⟨rfl, rfl⟩
        rw [hu]
        go_wp2_with fail
        go_ret
        exact ⟨by rw [HV.out]; rfl, HB.out⟩
      | true =>
        cases xf with
        | false =>
          cases fi with
          | false =>
            have HV := hid (show oneN ⟨xn, xv, xu, xe, false, xr, xy, xw, xA, xc, xl⟩ = 0 from by simp [oneN, he, hu, hq])
            go_enter Tryz.func89, Tryz.ntmps89
            go_wp2_with fail
            refine (undo_any xv _).mono ?_
            rintro e w2 ⟨rfl, rfl⟩
            rw [hu]
            go_wp2_with fail
            go_ret
            exact ⟨by rw [HV.out]; rfl, HB.out⟩
          | true =>
            have HV := hid (show oneN ⟨xn, xv, xu, xe, false, xr, xy, xw, xA, xc, xl⟩ = 112 from by simp [oneN, he, hu, hq])
            go_enter Tryz.func89, Tryz.ntmps89
            go_wp2_with fail
            refine (undo_any xv _).mono ?_
            rintro e w2 ⟨rfl, rfl⟩
            rw [hu]
            go_wp2_with fail
            go_ret
            exact ⟨by rw [HV.out]; rfl, HB.out⟩
        | true =>
          cases fi with
          | false =>
            have HV := hid (show oneN ⟨xn, xv, xu, xe, true, xr, xy, xw, xA, xc, xl⟩ = 112 from by simp [oneN, he, hu, hq])
            go_enter Tryz.func89, Tryz.ntmps89
            go_wp2_with fail
            refine (undo_any xv _).mono ?_
            rintro e w2 ⟨rfl, rfl⟩
            rw [hu]
            go_wp2_with fail
            go_ret
            exact ⟨by rw [HV.out]; rfl, HB.out⟩
          | true =>
            have HV := hid (show oneN ⟨xn, xv, xu, xe, true, xr, xy, xw, xA, xc, xl⟩ = 0 from by simp [oneN, he, hu, hq])
            go_enter Tryz.func89, Tryz.ntmps89
            go_wp2_with fail
            refine (undo_any xv _).mono ?_
            rintro e w2 ⟨rfl, rfl⟩
            rw [hu]
            go_wp2_with fail
            go_ret
            exact ⟨by rw [HV.out]; rfl, HB.out⟩
set_option maxRecDepth 100000 in
set_option maxHeartbeats 8000000 in
theorem rstep_one (s : Stp) (w : World) : Calls Tryz.prog 97 #[.agg (enSt s).toArray] w fun e w' => e = .returned (.int .i64 (oneN s)) ∧ Below w.heap.size w w' := by
  obtain ⟨xn, xv, xu, xe, xf, xr, xy, xw, xA, xc, xl⟩ := s
  have earr : (enSt ⟨xn, xv, xu, xe, xf, xr, xy, xw, xA, xc, xl⟩).toArray = #[.string xn, .string xv, .string xu, .string xe, .bool xf, .int .i64 xr, .int .i64 xy, .int .i64 xw, .slice xA xl.length xc] := rfl
  rw [earr]
  clear earr
  have HB : Hid (Below w.heap.size w (w.alloc (.cells #[.string xn, .string xv, .string xu, .string xe, .bool xf, .int .i64 xr, .int .i64 xy, .int .i64 xw, .slice xA xl.length xc] 156))) := hid ((Below.refl _ _).alloc (Nat.le_refl _) _)
  cases he : xe.toList.isEmpty with
  | false =>
    cases hp : (xe.toList == [112, 97, 105, 100]) with
    | true =>
      have HV := hid (show oneN ⟨xn, xv, xu, xe, xf, xr, xy, xw, xA, xc, xl⟩ = 0 from by simp [oneN, he, hp])
      go_enter Tryz.func97, Tryz.ntmps97
      go_wp2_with fail
      go_ret
      exact ⟨by rw [HV.out]; rfl, HB.out⟩
    | false =>
      have HV := hid (show oneN ⟨xn, xv, xu, xe, xf, xr, xy, xw, xA, xc, xl⟩ = 111 from by simp [oneN, he, hp])
      go_enter Tryz.func97, Tryz.ntmps97
      go_wp2_with fail
      go_ret
      exact ⟨by rw [HV.out]; rfl, HB.out⟩
  | true =>
    have hu' : ∃ u kn fi, undoN xv = (u, kn, fi) := ⟨_, _, _, rfl⟩
    obtain ⟨u, kn, fi, hu⟩ := hu'
    cases kn with
    | false =>
      have HV := hid (show oneN ⟨xn, xv, xu, xe, xf, xr, xy, xw, xA, xc, xl⟩ = 111 from by simp [oneN, he, hu])
      go_enter Tryz.func97, Tryz.ntmps97
      go_wp2_with fail
      refine (rundo_any xv _).mono ?_
      rintro e w2 ⟨rfl, rfl⟩
      rw [hu]
      go_wp2_with fail
      go_ret
      exact ⟨by rw [HV.out]; rfl, HB.out⟩
    | true =>
      cases hq : (xu.toList == u.toList) with
      | false =>
        have HV := hid (show oneN ⟨xn, xv, xu, xe, xf, xr, xy, xw, xA, xc, xl⟩ = 112 from by simp [oneN, he, hu, hq])
        go_enter Tryz.func97, Tryz.ntmps97
        go_wp2_with fail
        refine (rundo_any xv _).mono ?_
        rintro e w2 ⟨rfl, rfl⟩
        rw [hu]
        go_wp2_with fail
        go_ret
        exact ⟨by rw [HV.out]; rfl, HB.out⟩
      | true =>
        cases xf with
        | false =>
          cases fi with
          | false =>
            have HV := hid (show oneN ⟨xn, xv, xu, xe, false, xr, xy, xw, xA, xc, xl⟩ = 0 from by simp [oneN, he, hu, hq])
            go_enter Tryz.func97, Tryz.ntmps97
            go_wp2_with fail
            refine (rundo_any xv _).mono ?_
            rintro e w2 ⟨rfl, rfl⟩
            rw [hu]
            go_wp2_with fail
            go_ret
            exact ⟨by rw [HV.out]; rfl, HB.out⟩
          | true =>
            have HV := hid (show oneN ⟨xn, xv, xu, xe, false, xr, xy, xw, xA, xc, xl⟩ = 112 from by simp [oneN, he, hu, hq])
            go_enter Tryz.func97, Tryz.ntmps97
            go_wp2_with fail
            refine (rundo_any xv _).mono ?_
            rintro e w2 ⟨rfl, rfl⟩
            rw [hu]
            go_wp2_with fail
            go_ret
            exact ⟨by rw [HV.out]; rfl, HB.out⟩
        | true =>
          cases fi with
          | false =>
            have HV := hid (show oneN ⟨xn, xv, xu, xe, true, xr, xy, xw, xA, xc, xl⟩ = 112 from by simp [oneN, he, hu, hq])
            go_enter Tryz.func97, Tryz.ntmps97
            go_wp2_with fail
            refine (rundo_any xv _).mono ?_
            rintro e w2 ⟨rfl, rfl⟩
            rw [hu]
            go_wp2_with fail
            go_ret
            exact ⟨by rw [HV.out]; rfl, HB.out⟩
          | true =>
            have HV := hid (show oneN ⟨xn, xv, xu, xe, true, xr, xy, xw, xA, xc, xl⟩ = 0 from by simp [oneN, he, hu, hq])
            go_enter Tryz.func97, Tryz.ntmps97
            go_wp2_with fail
            refine (rundo_any xv _).mono ?_
            rintro e w2 ⟨rfl, rfl⟩
            rw [hu]
            go_wp2_with fail
            go_ret
            exact ⟨by rw [HV.out]; rfl, HB.out⟩

end Go.Proofs.YtoemmakhbiiknaaGreat

namespace Go.Proofs.YtoemmakhbiiknaaGreat
set_option linter.unusedVariables false

/-- What node i waits for. -/
def adj (G : List (List Nat)) (i : Nat) : List Nat := G.getD i []
/-- Node i comes behind node k. -/
inductive Rch (G : List (List Nat)) : Nat → Nat → Prop where
  | one {i k : Nat} (h : k ∈ adj G i) : Rch G i k
  | step {i j k : Nat} (h : j ∈ adj G i) (r : Rch G j k) : Rch G i k
theorem Rch.trans {G : List (List Nat)} {i j k : Nat} (h : Rch G i j) (g : Rch G j k) : Rch G i k := by
  induction h with
  | one h => exact .step h g
  | step h _ ih => exact .step h (ih g)
def Acy (G : List (List Nat)) : Prop := ∀ i, ¬ Rch G i i
/-- All that is waited for is there. -/
def Shut (G : List (List Nat)) : Prop := ∀ i k, k ∈ adj G i → k < G.length
theorem adj_out {G : List (List Nat)} {i : Nat} (h : G.length ≤ i) : adj G i = [] := by unfold adj; rw [List.getD_eq_getElem?_getD, List.getElem?_eq_none h]; rfl
theorem Rch.lt {G : List (List Nat)} (hs : Shut G) {i k : Nat} (h : Rch G i k) : i < G.length ∧ k < G.length := by
  have hi : ∀ {i k : Nat}, k ∈ adj G i → i < G.length := fun {i k} hk => by
    by_cases hl : i < G.length
    · exact hl
    · rw [adj_out (by omega)] at hk; cases hk
  induction h with
  | one h => exact ⟨hi h, hs _ _ h⟩
  | step h _ ih => exact ⟨hi h, ih.2⟩
open Classical in
/-- How many nodes i comes behind. -/
noncomputable def cnt (G : List (List Nat)) (i : Nat) : Nat := ((List.range G.length).filter fun k => decide (Rch G i k)).length
theorem filter_lt {α : Type} {p q : α → Bool} : ∀ {l : List α}, (∀ x ∈ l, p x = true → q x = true) → ∀ {a : α}, a ∈ l → q a = true → p a = false → (l.filter p).length < (l.filter q).length
  | [], _, _, h, _, _ => by cases h
  | x :: l, hpq, a, ha, hq, hp => by
    have hle : (l.filter p).length ≤ (l.filter q).length := by
      clear ha
      induction l with
      | nil => simp
      | cons y l ih =>
        have h1 := ih (fun z hz => hpq z (by
          rcases List.mem_cons.1 hz with h | h
          · exact h ▸ List.mem_cons_self ..
          · exact List.mem_cons_of_mem _ (List.mem_cons_of_mem _ h)))
        have h2 := hpq y (by simp)
        cases hpy : p y with
        | true => rw [List.filter_cons_of_pos hpy, List.filter_cons_of_pos (h2 hpy)]; simp; omega
        | false =>
          rw [List.filter_cons_of_neg (by rw [hpy]; simp)]
          cases hqy : q y with
          | true => rw [List.filter_cons_of_pos hqy]; simp; omega
          | false => rw [List.filter_cons_of_neg (by rw [hqy]; simp)]; exact h1
    rcases List.mem_cons.1 ha with rfl | ha'
    · rw [List.filter_cons_of_neg (by rw [hp]; simp), List.filter_cons_of_pos hq]
      simp; omega
    · have ih := filter_lt (fun z hz => hpq z (List.mem_cons_of_mem _ hz)) ha' hq hp
      cases hpx : p x with
      | true => rw [List.filter_cons_of_pos hpx, List.filter_cons_of_pos (hpq x (by simp) hpx)]; simp; omega
      | false =>
        rw [List.filter_cons_of_neg (by rw [hpx]; simp)]
        cases hqx : q x with
        | true => rw [List.filter_cons_of_pos hqx]; simp; omega
        | false => rw [List.filter_cons_of_neg (by rw [hqx]; simp)]; exact ih
theorem cnt_lt {G : List (List Nat)} (ha : Acy G) (hs : Shut G) {i j : Nat} (h : j ∈ adj G i) : cnt G j < cnt G i := by
  unfold cnt
  refine filter_lt (a := j) (fun k _ hk => ?_) (List.mem_range.2 (hs i j h)) ?_ ?_
  · simp only [decide_eq_true_eq] at hk ⊢
    exact .step h hk
  · simp only [decide_eq_true_eq]
    exact .one h
  · simp only [decide_eq_false_iff_not]
    exact ha j
/-- May node i come next? -/
def readyN (G : List (List Nat)) (done : List Nat) (i : Nat) : Bool := !(done.contains i) && (adj G i).all fun k => done.contains k
theorem readyN_iff {G : List (List Nat)} {done : List Nat} {i : Nat} : readyN G done i = true ↔ i ∉ done ∧ ∀ k ∈ adj G i, k ∈ done := by
  unfold readyN
  simp
/-- As long as one is left, one may come next. -/
theorem ready_some {G : List (List Nat)} (ha : Acy G) (hs : Shut G) {done : List Nat} {i : Nat} (hi : i < G.length) (hd : i ∉ done) : ∃ j, j < G.length ∧ readyN G done j = true := by
  generalize hn : cnt G i = n
  induction n using Nat.strongRecOn generalizing i with
  | ind n ih =>
    by_cases h : ∀ k ∈ adj G i, k ∈ done
    · exact ⟨i, hi, readyN_iff.2 ⟨hd, h⟩⟩
    · have : ∃ k ∈ adj G i, k ∉ done := by
        by_cases e : ∃ k ∈ adj G i, k ∉ done
        · exact e
        · exact absurd (fun k hk => by
            by_cases hkd : k ∈ done
            · exact hkd
            · exact absurd ⟨k, hk, hkd⟩ e) h
      obtain ⟨k, hk, hkd⟩ := this
      exact ih _ (by have := cnt_lt ha hs hk; omega) (hs i k hk) hkd rfl
/-- Which comes next. -/
def nextN (G : List (List Nat)) (done : List Nat) : Option Nat := (List.range G.length).find? (readyN G done)
theorem nextN_some {G : List (List Nat)} {done : List Nat} {i : Nat} (h : nextN G done = some i) : i < G.length ∧ i ∉ done ∧ (∀ k ∈ adj G i, k ∈ done) ∧ ∀ j, j < i → readyN G done j = false := by
  unfold nextN at h
  have h1 := List.find?_some h
  have h2 := List.mem_of_find?_eq_some h
  refine ⟨List.mem_range.1 h2, (readyN_iff.1 h1).1, (readyN_iff.1 h1).2, fun j hj => ?_⟩
  rw [List.find?_eq_some_iff_append] at h
  obtain ⟨_, us, bs, e, hall⟩ := h
  have hlen : us.length = i := by
    have h3 : (List.range G.length)[us.length]? = some i := by rw [e]; simp
    rw [List.getElem?_range (by
      have := congrArg List.length e
      simp at this
      omega)] at h3
    injection h3
  have hj2 : j ∈ us := by
    have h4 : (List.range G.length)[j]? = some j := List.getElem?_range (by have := List.mem_range.1 h2; omega)
    rw [e, List.getElem?_append_left (by omega)] at h4
    exact List.mem_of_getElem? h4
  have := hall j hj2
  simpa using this
theorem nextN_none {G : List (List Nat)} {done : List Nat} (h : nextN G done = none) : ∀ i, i < G.length → readyN G done i = false := by
  intro i hi
  unfold nextN at h
  rw [List.find?_eq_none] at h
  have := h i (List.mem_range.2 hi)
  simpa using this
/-- The order as far as k steps. -/
def ordN (G : List (List Nat)) : Nat → List Nat
  | 0 => []
  | k + 1 => match nextN G (ordN G k) with
    | some i => ordN G k ++ [i]
    | none => ordN G k
structure OrdOk (G : List (List Nat)) (l : List Nat) : Prop where
  nodup : l.Nodup
  lt : ∀ i ∈ l, i < G.length
  before : ∀ (p : Nat) (i : Nat), l[p]? = some i → ∀ k ∈ adj G i, k ∈ l.take p
theorem OrdOk.nil (G : List (List Nat)) : OrdOk G [] := ⟨List.nodup_nil, fun i h => (by cases h), fun p i h => (by simp at h)⟩
theorem OrdOk.next {G : List (List Nat)} {l : List Nat} (h : OrdOk G l) {i : Nat} (hn : nextN G l = some i) : OrdOk G (l ++ [i]) := by
  obtain ⟨h1, h2, h3, _⟩ := nextN_some hn
  refine ⟨List.nodup_append.2 ⟨h.nodup, by simp, fun a ha b hb e => ?_⟩, fun j hj => ?_, fun p j hp k hk => ?_⟩
  · simp at hb
    subst hb
    exact h2 (e ▸ ha)
  · rcases List.mem_append.1 hj with hj | hj
    · exact h.lt j hj
    · simp at hj; subst hj; exact h1
  · by_cases hpl : p < l.length
    · rw [List.getElem?_append_left hpl] at hp
      have := h.before p j hp k hk
      rw [List.take_append_of_le_length (by omega)]
      exact this
    · have hpe : p = l.length := by
        have := (List.getElem?_eq_some_iff.1 hp).1
        simp at this
        omega
      subst hpe
      rw [List.getElem?_append_right (Nat.le_refl _)] at hp
      simp at hp
      subst hp
      rw [List.take_append_of_le_length (Nat.le_refl _), List.take_length]
      exact h3 k hk
theorem ordN_ok (G : List (List Nat)) : ∀ k, OrdOk G (ordN G k)
  | 0 => OrdOk.nil G
  | k + 1 => by
    unfold ordN
    cases h : nextN G (ordN G k) with
    | none => exact ordN_ok G k
    | some i => exact (ordN_ok G k).next h
theorem nodup_lt_length {l : List Nat} {n : Nat} (hd : l.Nodup) (hl : ∀ i ∈ l, i < n) : l.length ≤ n := by
  induction n generalizing l with
  | zero =>
    cases l with
    | nil => simp
    | cons a l => have := hl a (by simp); omega
  | succ n ih =>
    have h1 := ih (l := l.filter (fun i => decide (i ≠ n))) (hd.sublist (List.filter_sublist)) (fun i hi => by
      have h2 := List.mem_filter.1 hi
      have h3 := hl i h2.1
      have h4 := h2.2
      simp at h4
      omega)
    have h2 : l.length ≤ (l.filter (fun i => decide (i ≠ n))).length + 1 := by
      clear ih hl h1
      induction l with
      | nil => simp
      | cons a l ih =>
        have hd2 := List.nodup_cons.1 hd
        by_cases e : a = n
        · subst e
          rw [List.filter_cons_of_neg (by simp)]
          have : l.filter (fun i => decide (i ≠ a)) = l := List.filter_eq_self.2 (fun i hi => by
            simp only [ne_eq, decide_not, Bool.not_eq_true', decide_eq_false_iff_not]
            intro e; subst e; exact hd2.1 hi)
          rw [this]; simp
        · rw [List.filter_cons_of_pos (by simp [e])]
          have := ih hd2.2
          rw [List.length_cons, List.length_cons]
          omega
    omega
theorem sub_len : ∀ {a b : List Nat}, a.Nodup → (∀ x ∈ a, x ∈ b) → a.length ≤ b.length
  | [], b, _, _ => by simp
  | x :: a, b, hd, hs => by
    have hd2 := List.nodup_cons.1 hd
    have h1 := sub_len (a := a) (b := b.erase x) hd2.2 (fun y hy => (List.mem_erase_of_ne (fun (e : y = x) => hd2.1 (by rw [← e]; exact hy))).2 (hs y (by simp [hy])))
    have h2 := List.length_erase_of_mem (hs x (by simp))
    have h3 := List.length_pos_of_mem (hs x (by simp))
    simp; omega
theorem ordN_len {G : List (List Nat)} (ha : Acy G) (hs : Shut G) : ∀ k, k ≤ G.length → (ordN G k).length = k
  | 0, _ => rfl
  | k + 1, hk => by
    have ih := ordN_len ha hs k (by omega)
    unfold ordN
    cases h : nextN G (ordN G k) with
    | some i => simp [ih]
    | none =>
      exfalso
      have : ∃ i, i < G.length ∧ i ∉ ordN G k := by
        by_cases e : ∃ i, i < G.length ∧ i ∉ ordN G k
        · exact e
        · exfalso
          have hall : ∀ i, i < G.length → i ∈ ordN G k := fun i hi => by
            by_cases hm : i ∈ ordN G k
            · exact hm
            · exact absurd ⟨i, hi, hm⟩ e
          have h2 : (List.range G.length).length ≤ (ordN G k).length := sub_len List.nodup_range (fun i hi => hall i (List.mem_range.1 hi))
          rw [List.length_range, ih] at h2
          omega
      obtain ⟨i, hi, hd⟩ := this
      obtain ⟨j, hj, hr⟩ := ready_some ha hs hi hd
      rw [nextN_none h j hj] at hr
      cases hr

/-! ### What a step comes behind, found step by step -/
theorem rch_iff {G : List (List Nat)} {i k : Nat} : Rch G i k ↔ ∃ j ∈ adj G i, k = j ∨ Rch G j k := by
  constructor
  · intro h
    cases h with
    | one h => exact ⟨k, h, .inl rfl⟩
    | step h r => exact ⟨_, h, .inr r⟩
  · rintro ⟨j, hj, rfl | h⟩
    · exact .one hj
    · exact .step hj h
/-- Nothing behind i comes behind itself. -/
def Clean (G : List (List Nat)) (i : Nat) : Prop := ∀ j, (j = i ∨ Rch G i j) → ¬ Rch G j j
theorem clean_of {G : List (List Nat)} {i : Nat} (h : ∀ j ∈ adj G i, Clean G j) : Clean G i := by
  have hi : ¬ Rch G i i := fun hr => by
    obtain ⟨j, hj, e | hji⟩ := rch_iff.1 hr
    · subst e
      exact h i hj i (.inl rfl) hr
    · exact h j hj j (.inl rfl) (hji.trans (.one hj))
  rintro j (rfl | hr)
  · exact hi
  · obtain ⟨c, hc, e⟩ := rch_iff.1 hr
    exact h c hc j e
theorem acy_of {G : List (List Nat)} (hs : Shut G) (h : ∀ i, i < G.length → Clean G i) : Acy G := fun i hr => h i (hr.lt hs).1 i (.inl rfl) hr
/-- What is known behind the first p of those that a step waits for. -/
def Part (G : List (List Nat)) (l : List Nat) (k : Nat) : Prop := ∃ j ∈ l, k = j ∨ Rch G j k
theorem part_nil {G : List (List Nat)} {k : Nat} : ¬ Part G [] k := fun ⟨j, hj, _⟩ => (by cases hj)
theorem part_snoc {G : List (List Nat)} {l : List Nat} {j k : Nat} : Part G (l ++ [j]) k ↔ Part G l k ∨ k = j ∨ Rch G j k := by
  unfold Part
  constructor
  · rintro ⟨c, hc, h⟩
    rcases List.mem_append.1 hc with hc | hc
    · exact .inl ⟨c, hc, h⟩
    · simp at hc; subst hc; exact .inr h
  · rintro (⟨c, hc, h⟩ | h)
    · exact ⟨c, List.mem_append_left _ hc, h⟩
    · exact ⟨j, List.mem_append_right _ (by simp), h⟩
theorem part_all {G : List (List Nat)} {i k : Nat} : Part G (adj G i) k ↔ Rch G i k := rch_iff.symm

/-! ### The table of the document -/
/-- A way from i to k whose inner nodes are below m. -/
inductive Pth (G : List (List Nat)) (m : Nat) : Nat → Nat → Prop where
  | one {i k : Nat} (h : k ∈ adj G i) : Pth G m i k
  | step {i j k : Nat} (h : j ∈ adj G i) (hj : j < m) (r : Pth G m j k) : Pth G m i k
theorem Pth.rch {G : List (List Nat)} {m i k : Nat} (h : Pth G m i k) : Rch G i k := by
  induction h with
  | one h => exact .one h
  | step h _ _ ih => exact .step h ih
theorem pth_all {G : List (List Nat)} (hs : Shut G) {i k : Nat} (h : Rch G i k) : Pth G G.length i k := by
  induction h with
  | one h => exact .one h
  | step h _ ih => exact .step h (hs _ _ h) ih
theorem pth_zero {G : List (List Nat)} {i k : Nat} : Pth G 0 i k ↔ k ∈ adj G i := by
  constructor
  · intro h
    cases h with
    | one h => exact h
    | step h hj _ => omega
  · exact .one
theorem pth_succ {G : List (List Nat)} {m i k : Nat} (h : Pth G (m + 1) i k) : Pth G m i k ∨ (Pth G m i m ∧ Pth G m m k) := by
  induction h with
  | one h => exact .inl (.one h)
  | @step i j k h hj _ ih =>
    by_cases e : j = m
    · subst e
      rcases ih with ih | ⟨_, ih⟩
      · exact .inr ⟨.one h, ih⟩
      · exact .inr ⟨.one h, ih⟩
    · have hj' : j < m := by omega
      rcases ih with ih | ⟨ih1, ih2⟩
      · exact .inl (.step h hj' ih)
      · exact .inr ⟨.step h hj' ih1, ih2⟩
/-- The table between the first and the last round. -/
structure Tab (G : List (List Nat)) (m : Nat) (T : Nat → Nat → Bool) : Prop where
  sound : ∀ i k, i < G.length → k < G.length → T i k = true → Rch G i k
  all : ∀ i k, i < G.length → k < G.length → Pth G m i k → T i k = true
theorem Tab.done {G : List (List Nat)} {T : Nat → Nat → Bool} (h : Tab G G.length T) (hs : Shut G) {i k : Nat} (hi : i < G.length) (hk : k < G.length) : T i k = true ↔ Rch G i k :=
  ⟨h.sound i k hi hk, fun hr => h.all i k hi hk (pth_all hs hr)⟩
/-- The table as far as row i, column k of round m. -/
structure TabIn (G : List (List Nat)) (m i k : Nat) (T : Nat → Nat → Bool) : Prop where
  tab : Tab G m T
  past : ∀ a b, a < G.length → b < G.length → (a < i ∨ a = i ∧ b < k) → Pth G (m + 1) a b → T a b = true
theorem TabIn.start {G : List (List Nat)} {m : Nat} {T : Nat → Nat → Bool} (h : Tab G m T) : TabIn G m 0 0 T := ⟨h, fun a b _ _ hh => by omega⟩
theorem TabIn.row {G : List (List Nat)} {m i : Nat} {T : Nat → Nat → Bool} (h : TabIn G m i G.length T) : TabIn G m (i + 1) 0 T := ⟨h.tab, fun a b ha hb hh => h.past a b ha hb (by omega)⟩
theorem TabIn.round {G : List (List Nat)} {m : Nat} {T : Nat → Nat → Bool} (h : TabIn G m G.length 0 T) : Tab G (m + 1) T := ⟨h.tab.sound, fun a b ha hb => h.past a b ha hb (.inl ha)⟩
def putT (T : Nat → Nat → Bool) (i k : Nat) : Nat → Nat → Bool := fun a b => if a = i ∧ b = k then true else T a b
theorem TabIn.cell {G : List (List Nat)} {m i k : Nat} {T : Nat → Nat → Bool} (h : TabIn G m i k T) (hm : m < G.length) (hi : i < G.length) (hk : k < G.length) : TabIn G m i (k + 1) (if (T i m && T m k) = true then putT T i k else T) := by
  have hle : ∀ a b, T a b = true → (if (T i m && T m k) = true then putT T i k else T) a b = true := fun a b e => by
    split
    · unfold putT; split
      · rfl
      · exact e
    · exact e
  refine ⟨⟨fun a b ha hb e => ?_, fun a b ha hb e => hle a b (h.tab.all a b ha hb e)⟩, fun a b ha hb hh e => ?_⟩
  · split at e
    · rename_i hc
      unfold putT at e
      split at e
      · rename_i hab
        obtain ⟨rfl, rfl⟩ := hab
        obtain ⟨c1, c2⟩ := (Bool.and_eq_true _ _).mp hc
        exact (h.tab.sound _ _ hi hm c1).trans (h.tab.sound _ _ hm hk c2)
      · exact h.tab.sound a b ha hb e
    · exact h.tab.sound a b ha hb e
  · by_cases hn : a < i ∨ a = i ∧ b < k
    · exact hle a b (h.past a b ha hb hn e)
    · obtain ⟨rfl, rfl⟩ : a = i ∧ b = k := by omega
      rcases pth_succ e with e | ⟨e1, e2⟩
      · exact hle a b (h.tab.all a b ha hb e)
      · rw [if_pos (by rw [h.tab.all _ _ ha hm e1, h.tab.all _ _ hm hb e2]; rfl)]
        simp [putT]

end Go.Proofs.YtoemmakhbiiknaaGreat

namespace Go.Proofs.YtoemmakhbiiknaaGreat
open Go.RowKit
set_option linter.unusedVariables false

section
variable {κ ν : Type} {P : Program} {w : World} {B : Nat} {kE : κ → Value} {vE : ν → Value} {m : List (κ × ν)} {kt : TypeId}
theorem IsMap.len {mt et : TypeId} (h : IsMap w B kE vE m) (hm : P.underlying mt = some (.map kt et)) (ty : TypeId) :
    (Builtin.len_ #[mt] ty #[.map (some B)]).run P w = .ok (.int .i64 m.length) w := by
  obtain ⟨es, c, hb, hr, hn, hbn, hd⟩ := h
  have hl : es.length = m.length := by have := congrArg List.length hr; simpa using this
  unfold Builtin.len_
  simp [run_underlying hm, Sem.run, hb, getObj, hl, goInt]

theorem wpList_maplen {ops : Array Oper} {rest : List Oper} {o : Oper} {a : Act} {Q : Exit → Act → World → Prop} (w : World)
    (hgd : o.guard = none) (mo : Operand) (mt et : TypeId) (hop : o.op = Op.call { callee := Callee.builtin Builtin.len, args := #[mo], argTypes := #[mt] }) (hm : P.underlying mt = some (.map kt et))
    (B : Nat) (m : List (κ × ν)) (hM : a.eval mo = .map (some B)) (h : IsMap w B kE vE m)
    (hK : wpList P ops Q rest (a.put o.dst (.int .i64 m.length)) w) : wpList P ops Q (o :: rest) a w := by
  refine wpList_plain hgd fun K' hK' => ?_
  unfold Oper.wp
  simp [execOp, hop, resolve, invoke, builtin, hM, h.len hm o.type, Result.andThen]
  exact hK' _ _ hK
end

end Go.Proofs.YtoemmakhbiiknaaGreat

namespace Go.Proofs.YtoemmakhbiiknaaGreat
open Go.RowKit
set_option linter.unusedVariables false

/-- A world of a class. -/
structure In (C : World → Prop) where
  w : World
  h : C w

theorem wp_region_in {P : Program} {id : Nat} {Q : Exit → Act → World → Prop} {a : Act} {w : World} {l : List Oper} (C : World → Prop) (hm : P.follows .mixedOrders = true) (hB : Region.lexB .any l.toArray = true) (hC : C w.drew)
    (h : Nonempty (In C) → wpQuiet P l.toArray (fun w' => ∃ p : In C, w' = p.w) (fun a' => ∀ w', C w' → Q .normal a' w') l a) : (Code.region id l.toArray true).wp P Q a w := by
  refine wp_region_quiet (C := fun w' => ∃ p : In C, w' = p.w) hm hB ⟨⟨w.drew, hC⟩, rfl⟩ ?_
  have h1 := h ⟨⟨w.drew, hC⟩⟩
  have h2 : (fun a' => ∀ w', (∃ p : In C, w' = p.w) → Q .normal a' w') = (fun a' => ∀ w', C w' → Q .normal a' w') := by
    funext a'
    apply propext
    exact ⟨fun g w' hw => g w' ⟨⟨w', hw⟩, rfl⟩, fun g w' ⟨p, hp⟩ => by subst hp; exact g _ p.h⟩
  rw [h2]
  exact h1

theorem Calls.in_of {P : Program} {f : FuncId} {args : Array Value} {C : World → Prop} {p : In C} {v : Value} (h : Calls P f args p.w fun e w' => e = .returned v ∧ C w') :
    Calls P f args p.w fun e w'' => e = .returned v ∧ ∃ q : In C, w'' = q.w := h.mono fun _ _ ⟨he, hc⟩ => ⟨he, ⟨_, hc⟩, rfl⟩

/-- The cells cs stand at place o of block b. -/
def CellsAt (w : World) (b o : Nat) (cs : List Value) : Prop := b < w.heap.size ∧ ∀ j u, cs[j]? = some u → w.cell? ⟨b, o + j, none⟩ = some u
theorem CellsAt.next {w w' : World} {b o : Nat} {cs : List Value} (h : CellsAt w b o cs) (hb : Below w.heap.size w w') : CellsAt w' b o cs := ⟨Nat.lt_of_lt_of_le h.1 hb.size, fun j u hu => (hb.cell (p := ⟨b, o + j, none⟩) h.1).trans (h.2 j u hu)⟩

end Go.Proofs.YtoemmakhbiiknaaGreat
