/-
  A region that draws its order, walked in segments: each segment's operations come up in any order, all of them ahead of what stands behind the segment; in a segment one operation may turn the world (two classes); between segments the world is known.
  Two stock books side by side: the one that Restore makes, and the sums. No walk.
  Restore of the stock book: what is good of its lists, and the sums. No walk.
  The stock book: Restore.
-/
import Derived.Test.YthfaaimmfdidnaaInTurn
import Derived.Test.YthfaaimmfdidnaaPl15
import Derived.Test.YthfaaimmfdidnaaAl15
import Derived.Test.YthfaaimmfdidnaaArg15
import Derived.Test.YthfaaimmfdidnaaSl15
import Derived.Deep.RegionHeld3
import Derived.BigQuiet
import Derived.Laws.Tables
namespace Go.Proofs.Ythfaaimmfdidnaa
open Go.RowKit
set_option linter.unusedVariables false

section
variable {P : Program} {ops : Array Oper} {md : Region.Mode} {CB : Bool → World → Prop} {m : Nat}

/-- The first k have come up. -/
def preA (ops : Array Oper) (k : Nat) : Array Bool := (Array.range ops.size).map (fun i => decide (i < k))
theorem preA_size (k : Nat) : (preA ops k).size = ops.size := by simp [preA]
theorem preA_get (k j : Nat) (hj : j < ops.size) : (preA ops k)[j]? = some (decide (j < k)) := by
  unfold preA
  simp [hj]
theorem preA_getD (k j : Nat) (hj : j < ops.size) (b : Bool) : (preA ops k).getD j b = decide (j < k) := by
  rw [Array.getD_eq_getD_getElem?, preA_get k j hj]
  rfl
theorem preA_out (k j : Nat) (hj : ops.size ≤ j) (b : Bool) : (preA ops k).getD j b = b := by
  rw [Array.getD_eq_getD_getElem?, Array.getElem?_eq_none (by rw [preA_size]; exact hj)]
  rfl
theorem preA_set (k : Nat) (hk : k < ops.size) : (preA ops k).setIfInBounds k true = preA ops (k + 1) := by
  apply Array.ext_getElem?
  intro j
  rcases Nat.lt_or_ge j ops.size with hj | hj
  · rw [preA_get (k + 1) j hj]
    by_cases e : k = j
    · subst e
      rw [Array.getElem?_setIfInBounds_self_of_lt (by rw [preA_size]; exact hk)]
      simp
    · rw [Array.getElem?_setIfInBounds_ne e, preA_get k j hj]
      congr 1
      rw [decide_eq_decide]
      omega
  · rw [Array.getElem?_eq_none (by simp [preA_size]; exact hj), Array.getElem?_eq_none (by rw [preA_size]; exact hj)]
theorem preA_zero : preA ops 0 = Array.replicate ops.size false := by
  apply Array.ext_getElem?
  intro j
  rcases Nat.lt_or_ge j ops.size with hj | hj
  · rw [preA_get 0 j hj]
    simp [hj]
  · rw [Array.getElem?_eq_none (by rw [preA_size]; exact hj), Array.getElem?_eq_none (by simpa using hj)]

def sinkS (md : Region.Mode) (ops : Array Oper) (k n : Nat) : Bool := (List.range n).all fun i => decide (i < k) || (List.range (n + 1)).any fun j => decide (i < j) && Region.waitsFor md ops j i
def treeB (md : Region.Mode) (ops : Array Oper) (n : Nat) : Bool := (List.range ops.size).all fun t => decide (t ≤ n) || (List.range t).any fun s => decide (n ≤ s) && Region.waitsFor md ops t s
def closedS (md : Region.Mode) (ops : Array Oper) (k : Nat) : Bool := (List.range k).all fun j => match ops[j]? with | some oj => oj.after.all (fun e => !(Region.binds md e) || decide (e.on < k)) | none => true
def lexS (md : Region.Mode) (ops : Array Oper) : Nat → Nat → Bool
  | 0, _ => true
  | f + 1, k => (Region.ready md ops (preA ops k)).contains k && Region.free md ops (preA ops k) k && lexS md ops f (k + 1)
/-- May k .. n be walked as a segment? -/
def segB (md : Region.Mode) (ops : Array Oper) (k n : Nat) : Bool :=
  Region.noSelect ops && decide (k ≤ n) && decide (n ≤ ops.size) && (decide (n = ops.size) || (sinkS md ops k n && treeB md ops n)) && closedS md ops k && lexS md ops (n - k) k

theorem tail_waitsS {k n : Nat} {listed : Array Bool} (hs : n = ops.size ∨ (sinkS md ops k n = true ∧ treeB md ops n = true)) (inv : HeadInv md ops n listed) :
    ∀ (d i : Nat), n - i = d → k ≤ i → i < n → listed.getD i true = false → ∀ t, n ≤ t → t ∉ Region.ready md ops listed := by
  intro d
  induction d using Nat.strongRecOn with
  | _ d ih =>
    intro i hd hki hi hun t ht hr
    obtain ⟨_, ot, hot, hall⟩ := mem_ready.1 hr
    have htlt : t < ops.size := (Array.getElem?_eq_some_iff.1 hot).1
    rcases hs with hs | ⟨hs, hc⟩
    · omega
    by_cases htn : t = n
    · subst htn
      have h1 := List.all_eq_true.1 hs i (List.mem_range.2 hi)
      simp only [Bool.or_eq_true, decide_eq_true_eq] at h1
      rcases h1 with h1 | h1
      · omega
      obtain ⟨j, hj, hj2⟩ := List.any_eq_true.1 h1
      simp only [Bool.and_eq_true, decide_eq_true_eq] at hj2
      obtain ⟨oj, hoj, e, he, hb, hon⟩ := Region.waitsFor_spec hj2.2
      have hjle : j ≤ t := by have := List.mem_range.1 hj; omega
      by_cases hjt : j = t
      · subst hjt
        have : oj = ot := Option.some.inj (hoj.symm.trans hot)
        subst this
        have h2 := hall e he hb
        rw [hon, getD_both hun] at h2
        cases h2
      · cases hl : listed.getD j false with
        | true =>
          have h2 := inv.closed j oj hoj hl e he hb
          rw [hon, getD_both hun] at h2
          cases h2
        | false =>
          have hjs : j < listed.size := by rw [inv.size]; omega
          exact ih (t - j) (by omega) j rfl (by omega) (by omega) (getD_in hjs hl) t (Nat.le_refl _) hr
    · have h1 := List.all_eq_true.1 hc t (List.mem_range.2 htlt)
      simp only [Bool.or_eq_true, decide_eq_true_eq] at h1
      rcases h1 with h1 | h1
      · omega
      · obtain ⟨s, hs1, hs2⟩ := List.any_eq_true.1 h1
        simp only [Bool.and_eq_true, decide_eq_true_eq] at hs2
        obtain ⟨o', ho', e, he, hb, hon⟩ := Region.waitsFor_spec hs2.2
        have hst := List.mem_range.1 hs1
        have : o' = ot := Option.some.inj (ho'.symm.trans hot)
        subst this
        have h2 := hall e he hb
        rw [hon, getD_both (inv.tail s hs2.1 (by omega))] at h2
        cases h2

theorem anyT_firstS {k n i : Nat} {oi : Oper} {v : Value} {L : Array Bool → Act → Prop} (hi : ops[i]? = some oi) (hsel : ∀ (j : Nat) (o : Oper) cs b, ops[j]? = some o → o.op ≠ .select cs b)
    (hs : n = ops.size ∨ (sinkS md ops k n = true ∧ treeB md ops n = true)) (hki : k ≤ i) (hin : i < n) (hdone : ∀ listed a, L listed a → ∀ j ∈ Region.ready md ops listed, n ≤ j) :
    ∀ (f : Nat) (listed : Array Bool) (a : Act), HeadInv md ops n listed →
      (∀ j oj, ops[j]? = some oj → j ≠ i → listed.getD j true = false → (∀ e ∈ oj.after, Region.binds md e = true → e.on ≠ i) → oi.apart ops oj = true) →
      i ∈ Region.ready md ops listed → yldT P md ops CB m i oi v a → anyT P md ops CB m n L f (listed.setIfInBounds i true) (a.put oi.dst v) → anyT P md ops CB m n L (f + 1) listed a := by
  intro f
  induction f with
  | zero =>
    intro listed a inv _ hr hy H
    have hun := (mem_ready.1 hr).1
    refine ⟨fun h => (by rw [h] at hr; cases hr), fun j hj => ?_⟩
    have hjn : j < n := Nat.lt_of_not_le fun h => tail_waitsS hs inv _ i rfl hki hin hun j h hj
    by_cases hji : j = i
    · subst hji
      exact ⟨hjn, oi, v, hi, hy, H⟩
    · have := hdone _ _ H j (ready_mono hj hji)
      omega
  | succ f ih =>
    intro listed a inv hfree hr hy H
    have hun := (mem_ready.1 hr).1
    refine ⟨fun h => (by rw [h] at hr; cases hr), fun j hj => ?_⟩
    have hjn : j < n := Nat.lt_of_not_le fun h => tail_waitsS hs inv _ i rfl hki hin hun j h hj
    by_cases hji : j = i
    · subst hji
      exact ⟨hjn, oi, v, hi, hy, H⟩
    · obtain ⟨_, oj', vj, hoj, hyj, hrest⟩ := H.2 j (ready_mono hj hji)
      obtain ⟨hjun, oj, hoj2, hall⟩ := mem_ready.1 hj
      obtain rfl : oj' = oj := Option.some.inj (hoj.symm.trans hoj2)
      have hno : ∀ e ∈ oj'.after, Region.binds md e = true → e.on ≠ i := fun e he hb heq => by
        have h1 := hall e he hb
        rw [heq, getD_both hun] at h1
        cases h1
      obtain ⟨a1, a2, a3⟩ := Oper.apart_spec (hfree j oj' hoj hji hjun hno)
      have hyj' : yldT P md ops CB m j oj' vj a := by
        refine hyj.same ?_ ?_
        · rw [execOp_put oj' (fun cs b => hsel j oj' cs b hoj) a oi.dst v a1]
        · rw [wanted_put oj' a oi.dst v a1]
      have hyi' : yldT P md ops CB m i oi v (a.put oj'.dst vj) := by
        refine hy.same ?_ ?_
        · exact execOp_put oi (fun cs b => hsel i oi cs b hi) a oj'.dst vj a3
        · exact wanted_put oi a oj'.dst vj a3
      refine ⟨hjn, oj', vj, hoj, hyj', ih (listed.setIfInBounds j true) (a.put oj'.dst vj) (inv.set hj hjn) (fun k ok hk hki hun' hno' => ?_) (ready_mono hr (Ne.symm hji)) hyi' ?_⟩
      · refine hfree k ok hk hki ?_ hno'
        by_cases hjk : j = k
        · subst hjk; exact hjun
        · rw [getD_set_ne true hjk] at hun'; exact hun'
      · rw [Array.setIfInBounds_comm _ _ hji, ← Act.put_comm a v vj a2]
        exact hrest

theorem anyT_lexS {k0 n : Nat} {Lq : Act → Prop} (hsel : Region.noSelect ops = true) (hs : n = ops.size ∨ (sinkS md ops k0 n = true ∧ treeB md ops n = true)) (hn : n ≤ ops.size) :
    ∀ (l : List Oper) (k : Nat) (a : Act), (∀ j, j < l.length → l[j]? = ops[k + j]?) → k0 ≤ k → k + l.length = n → HeadInv md ops n (preA ops k) → lexS md ops l.length k = true → wpT P md ops CB m Lq k l a →
    anyT P md ops CB m n (fun listed' a' => listed' = preA ops n ∧ Lq a') l.length (preA ops k) a := by
  intro l
  induction l with
  | nil =>
    intro k a _ _ hk _ hB h
    obtain rfl : k = n := by simpa using hk
    exact ⟨rfl, h⟩
  | cons o l ih =>
    intro k a hl hk0 hk inv hB h
    have h0 : ops[k]? = some o := by simpa using (hl 0 (by simp)).symm
    simp only [List.length_cons, lexS, Bool.and_eq_true] at hB
    obtain ⟨⟨hr, hf⟩, hB'⟩ := hB
    have hkn : k < n := by simp only [List.length_cons] at hk; omega
    have hr' : k ∈ Region.ready md ops (preA ops k) := by simpa using hr
    obtain ⟨v, hy, hK⟩ := h
    have hset := preA_set (ops := ops) k (by omega)
    refine anyT_firstS h0 (Region.noSelect_spec hsel) hs hk0 hkn (fun listed' a' hL j hj => ?_) l.length _ a inv (Region.free_spec h0 hf) hr' hy ?_
    · obtain ⟨rfl, _⟩ := hL
      obtain ⟨hun, oj, hoj, _⟩ := mem_ready.1 hj
      rw [preA_getD n j (Array.getElem?_eq_some_iff.1 hoj).1] at hun
      simp at hun
      exact hun
    · rw [hset]
      exact ih (k + 1) _ (fun j hj => by have := hl (j + 1) (by simp; omega); simpa [Nat.add_assoc, Nat.add_comm 1 j] using this) (by omega) (by simp only [List.length_cons] at hk; omega) (hset ▸ inv.set hr' hkn) hB' hK

/-- The region, the first n of whose operations have come up. -/
def SegAt (P : Program) (ops : Array Oper) (Q' : Exit → Act → World → Prop) (n : Nat) (a : Act) (w : World) : Prop := wpAny P .any ops Q' (ops.size - n) (preA ops n) a w

theorem seg_start {id : Nat} {Q : Exit → Act → World → Prop} {a : Act} {w : World} {l : List Oper} (hm : P.follows .mixedOrders = true) (h : SegAt P l.toArray Q 0 a w.drew) : (Code.region id l.toArray true).wp P Q a w := by
  refine wp_region_any hm ?_
  unfold SegAt at h
  rw [preA_zero, Nat.sub_zero] at h
  exact h
theorem seg_end {Q : Exit → Act → World → Prop} {a : Act} {w : World} (hr : (Region.ready .any ops (preA ops ops.size)).isEmpty = true) (h : Q .normal a w) : SegAt P ops Q ops.size a w := by
  unfold SegAt
  rw [Nat.sub_self]
  exact ⟨by simpa using hr, h⟩
theorem headInv_pre {k n : Nat} (hkn : k ≤ n) (hk : k ≤ ops.size) (hc : closedS md ops k = true) : HeadInv md ops n (preA ops k) := by
  refine ⟨preA_size k, fun j oj hj hl e he hb => ?_, fun t ht hts => by rw [preA_getD k t hts]; exact decide_eq_false (by omega)⟩
  have hjs := (Array.getElem?_eq_some_iff.1 hj).1
  rw [preA_getD k j hjs] at hl
  have hjk : j < k := of_decide_eq_true hl
  have h1 := List.all_eq_true.1 hc j (List.mem_range.2 hjk)
  rw [hj] at h1
  have h2 := Array.all_eq_true'.1 h1 e he
  simp only [hb, Bool.not_true, Bool.false_or, decide_eq_true_eq] at h2
  rw [preA_getD k e.on (by omega)]
  exact decide_eq_true h2
/-- A segment. -/
theorem seg_turn {Q' : Exit → Act → World → Prop} {a : Act} {w : World} (CB : Bool → World → Prop) (m k n : Nat) (hkm : k ≤ m) (hB : segB .any ops k n = true) (hC : CB false w)
    (h : wpT P .any ops CB m (fun a' => ∀ w', CB (decide (m < n)) w' → SegAt P ops Q' n a' w') k ((ops.toList.drop k).take (n - k)) a) : SegAt P ops Q' k a w := by
  simp only [segB, Bool.and_eq_true, decide_eq_true_eq, Bool.or_eq_true] at hB
  obtain ⟨⟨⟨⟨⟨hsel, hkn⟩, hn⟩, hs⟩, hcl⟩, hlex⟩ := hB
  have hlen : ((ops.toList.drop k).take (n - k)).length = n - k := by simp; omega
  have inv0 := headInv_pre (n := n) hkn (by omega) hcl
  have H := anyT_lexS hsel hs hn _ k a (fun j hj => by
    rw [hlen] at hj
    rw [List.getElem?_take_of_lt hj, List.getElem?_drop, Array.getElem?_toList]) (Nat.le_refl _) (by rw [hlen]; omega) inv0 (by rw [hlen]; exact hlex) h
  rw [hlen] at H
  have hgm : (preA ops k).getD m false = false := by
    rcases Nat.lt_or_ge m ops.size with hm | hm
    · rw [preA_getD k m hm]; exact decide_eq_false (by omega)
    · exact preA_out k m hm false
  have := any_of_anyT (Q' := Q') (g := ops.size - n) (fun listed a' w' inv hCw hL => by
    obtain ⟨rfl, hL⟩ := hL
    refine hL w' ?_
    rcases Nat.lt_or_ge m ops.size with hm | hm
    · rw [preA_getD n m hm] at hCw; exact hCw
    · rw [preA_out n m hm] at hCw
      rw [decide_eq_false (by omega : ¬ m < n)]
      exact hCw) (n - k) (preA ops k) a w inv0 (by rw [hgm]; exact hC) H
  unfold SegAt
  rw [show ops.size - k = n - k + (ops.size - n) from by omega]
  exact this
theorem wpIn_to {C : World → Prop} {Q R : Act → Prop} (hQ : ∀ a, Q a → R a) : ∀ {l : List Oper} {a : Act}, wpIn P ops C Q l a → wpIn P ops C R l a := by
  intro l
  induction l with
  | nil => intro a h; exact hQ a h
  | cons o l ih => intro a h; obtain ⟨v, h1, h2⟩ := h; exact ⟨v, h1, ih h2⟩
/-- A segment in which no operation turns the world. -/
theorem wpT_of_in {C : World → Prop} {Q : Act → Prop} : ∀ (l : List Oper) (i : Nat) (a : Act), i + l.length ≤ m → wpIn P ops C Q l a → wpT P md ops (fun _ => C) m Q i l a := by
  intro l
  induction l with
  | nil => intro i a _ h; exact h
  | cons o l ih =>
    intro i a hi h
    simp only [List.length_cons] at hi
    obtain ⟨v, h1, h2⟩ := h
    refine ⟨v, ?_, ih (i + 1) _ (by omega) h2⟩
    rcases h1 with ⟨hw, h1⟩ | ⟨hw, h1⟩
    · exact .inl ⟨hw, by rw [if_neg (by omega)]; exact fun _ w _ hC => h1 w hC⟩
    · exact .inr ⟨by omega, hw, h1⟩
theorem seg_in {Q' : Exit → Act → World → Prop} {a : Act} {w : World} {l : List Oper} (C : World → Prop) (k n : Nat) (hB : segB .any l.toArray k n = true) (hC : C w)
    (h : Nonempty (In C) → wpQuiet P l.toArray (fun w' => ∃ p : In C, w' = p.w) (fun a' => ∀ w', C w' → SegAt P l.toArray Q' n a' w') ((l.drop k).take (n - k)) a) : SegAt P l.toArray Q' k a w := by
  have hn : n ≤ l.length ∧ k ≤ n := by
    simp only [segB, Bool.and_eq_true, decide_eq_true_eq] at hB
    have := hB.1.1.1.2
    simp at this
    exact ⟨this, hB.1.1.1.1.2⟩
  have h1 := h ⟨⟨w, hC⟩⟩
  have h2 := wpIn_of_quiet (P := P) (ops := l.toArray) (C := fun w' => ∃ p : In C, w' = p.w) (Q := fun a' => ∀ w', C w' → SegAt P l.toArray Q' n a' w') (r := []) _ a h1
  rw [List.append_nil] at h2
  refine seg_turn (fun _ w' => ∃ p : In C, w' = p.w) n k n hn.2 hB ⟨⟨w, hC⟩, rfl⟩ ?_
  refine wpT_of_in _ _ _ ?_ (wpIn_to (fun a' g w' ⟨p, hp⟩ => by subst hp; exact g _ p.h) h2)
  simp
  omega
/-- The segment, of a list. -/
theorem seg_turnL {Q' : Exit → Act → World → Prop} {a : Act} {w : World} {l : List Oper} (CB : Bool → World → Prop) (m k n : Nat) (hkm : k ≤ m) (hB : segB .any l.toArray k n = true) (hC : CB false w)
    (h : wpT P .any l.toArray CB m (fun a' => ∀ w', CB (decide (m < n)) w' → SegAt P l.toArray Q' n a' w') k ((l.drop k).take (n - k)) a) : SegAt P l.toArray Q' k a w := seg_turn CB m k n hkm hB hC h
/-- One operation that enters a function, alone. -/
theorem seg_enter {Q' : Exit → Act → World → Prop} {a : Act} {w : World} (n : Nat) {o : Oper} (ho : ops[n]? = some o) (hr : Region.ready .any ops (preA ops n) = [n]) (hw : Region.wanted o (yielded ops a.tmps) = true) {f : FuncId} {args : Array Value}
    (he : (execOp a.eval o).run P w = .ok (.enter f args) w) (hc : Calls P f args w fun e w' => ∃ v, e = .returned v ∧ SegAt P ops Q' (n + 1) (a.put o.dst v) w') : SegAt P ops Q' n a w := by
  have hns := (Array.getElem?_eq_some_iff.1 ho).1
  unfold SegAt
  rw [show ops.size - n = (ops.size - (n + 1)) + 1 from by omega]
  refine ⟨fun h0 => (by rw [hr] at h0; cases h0), fun i hi => ?_⟩
  rw [hr] at hi
  obtain rfl : i = n := by simpa using hi
  unfold wpOp
  simp only [ho, hw, if_true]
  left
  unfold Oper.wp
  rw [he]
  simp only [Oper.upon]
  refine hc.mono ?_
  rintro e w' ⟨v, rfl, h⟩
  rw [preA_set i hns]
  exact h
end

end Go.Proofs.Ythfaaimmfdidnaa

namespace Go.Proofs.Ythfaaimmfdidnaa
open Go.RowKit Go.ChangeAt
set_option linter.unusedVariables false

/-- The book at work (X), and the sums (Y), which lie above n1. -/
structure R2 (w0 : World) (n1 X BL BG : Nat) (lv : List (Int × Lv)) (gs : List (Int × Gd)) (Y YL YG : Nat) (sm : List (Int × Lv)) (w : World) : Prop where
  b1 : IsBook w0.heap.size w X BL BG lv gs
  b2 : IsBook n1 w Y YL YG sm []
  old : X < n1 ∧ BL < n1 ∧ BG < n1 ∧ ∀ p ∈ lv, p.2.g < n1
  lo : w0.heap.size ≤ n1
  bel : Below w0.heap.size w0 w
section
variable {w0 w w' : World} {n1 X BL BG Y YL YG : Nat} {lv sm : List (Int × Lv)} {gs : List (Int × Gd)}
theorem R2.next (h : R2 w0 n1 X BL BG lv gs Y YL YG sm w) (hb : Below w.heap.size w w') : R2 w0 n1 X BL BG lv gs Y YL YG sm w' :=
  ⟨h.b1.next hb, h.b2.next hb, h.old, h.lo, bthen h.bel hb⟩
theorem R2.made (h : IsBook w0.heap.size w X BL BG lv gs) (hb0 : Below w0.heap.size w0 w) (h2 : IsBook w.heap.size w' Y YL YG sm []) (hb : Below w.heap.size w w') : R2 w0 w.heap.size X BL BG lv gs Y YL YG sm w' :=
  ⟨h.next hb, h2, ⟨h.blk.lt, h.lvs.lt, h.gds.lt, fun p hp => (h.lc p hp).lt⟩, hb0.size, bthen hb0 hb⟩
/-- What is the sums' is not the book's. -/
theorem R2.apart (h : R2 w0 n1 X BL BG lv gs Y YL YG sm w) : ¬ Own YL YG sm [] X ∧ (∀ k, Own BL BG lv gs k → ¬ Own YL YG sm [] k) ∧ ∀ p ∈ gs, ¬ Own YL YG sm [] p.2.b := by
  have big : ∀ k, Own YL YG sm [] k → n1 ≤ k := fun k hk => h.b2.own_low hk
  have ty : ∀ {g : Nat} {t : TypeId} {cs : Array Value}, Blk w g t cs → (t == 38) = false → ¬ Own YL YG sm [] g := fun hB ht hk => by
    rcases hk with e | e | ⟨p, hp, e⟩ | ⟨p, hp, _⟩
    · exact h.b2.lvs.notBlk hB e.symm
    · exact h.b2.gds.notBlk hB e.symm
    · exact hB.ne_ (h.b2.lc p hp) (by intro e2; rw [e2] at ht; simp at ht) e.symm
    · cases hp
  refine ⟨fun hk => ?_, fun k hk hs => ?_, fun p hp => ?_⟩
  · have := big _ hk; have := h.old.1; omega
  · have hb := big _ hs
    rcases hk with rfl | rfl | ⟨p, hp, rfl⟩ | ⟨p, hp, rfl⟩
    · have := h.old.2.1; omega
    · have := h.old.2.2.1; omega
    · have := h.old.2.2.2 p hp; omega
    · exact ty (h.b1.gc p hp) (by decide) hs
  · obtain ⟨_, _, cs, h3⟩ := h.b1.lns p hp
    exact ty h3 (by decide)
/-- The sums written. -/
theorem R2.sums {sm' : List (Int × Lv)} (h : R2 w0 n1 X BL BG lv gs Y YL YG sm w) (hb : IsBook n1 w' Y YL YG sm' []) (ht : Touch (Own YL YG sm []) w w') : R2 w0 n1 X BL BG lv gs Y YL YG sm' w' := by
  obtain ⟨h1, h2, h3⟩ := h.apart
  exact ⟨h.b1.touch ht h1 h2 h3, hb, h.old, h.lo, h.bel.trans (ht.below h.bel.size (fun k hk => Nat.le_trans h.lo (h.b2.own_low hk)))⟩
/-- A level of the sums written. -/
theorem R2.put2 {a a' : Lv} {id : Int} (h : R2 w0 n1 X BL BG lv gs Y YL YG sm w) (ha : mget sm id = some a) (hg : a'.g = a.g) (ht : Touch (· = a.g) w w') (hB : Blk w' a.g 38 (enV a')) : R2 w0 n1 X BL BG lv gs Y YL YG (mset sm id a') w' :=
  h.sums (h.b2.putL ha hg ht hB) (ht.mono fun k hk => by subst hk; exact .inr (.inr (.inl ⟨_, mget_mem ha, rfl⟩)))
/-- The book written, where it is old. -/
theorem R2.first {S : Nat → Prop} {lv' : List (Int × Lv)} {gs' : List (Int × Gd)} (h : R2 w0 n1 X BL BG lv gs Y YL YG sm w) (hb : IsBook w0.heap.size w' X BL BG lv' gs') (ht : Touch S w w') (hS : ∀ k, S k → k < n1 ∧ w0.heap.size ≤ k) (hold : ∀ p ∈ lv', p.2.g < n1) : R2 w0 n1 X BL BG lv' gs' Y YL YG sm w' :=
  ⟨hb, h.b2.touch ht (fun hk => by have := (hS _ hk).1; have := h.b2.low.1; omega) (fun k hk hs => by have := (hS _ hs).1; have := h.b2.own_low hk; omega) (fun p hp => by cases hp), ⟨h.old.1, h.old.2.1, h.old.2.2.1, hold⟩, h.lo, h.bel.trans (ht.below h.bel.size (fun k hk => (hS k hk).2))⟩
theorem R2.put1 {a a' : Lv} {id : Int} (h : R2 w0 n1 X BL BG lv gs Y YL YG sm w) (ha : mget lv id = some a) (hg : a'.g = a.g) (ht : Touch (· = a.g) w w') (hB : Blk w' a.g 38 (enV a')) : R2 w0 n1 X BL BG (mset lv id a') gs Y YL YG sm w' :=
  h.first (h.b1.putL ha hg ht hB) ht (fun k hk => by subst hk; exact ⟨h.old.2.2.2 _ (mget_mem ha), h.b1.low.2.2.2.1 _ (mget_mem ha)⟩) (fun p hp => by
    rcases mem_mset hp with rfl | ⟨hp', _⟩
    · show a'.g < n1
      rw [hg]; exact h.old.2.2.2 _ (mget_mem ha)
    · exact h.old.2.2.2 p hp')
theorem R2.more1 {d : Gd} {o : Int} (h : R2 w0 n1 X BL BG lv gs Y YL YG sm w) (hb : IsBook w0.heap.size w' X BL BG lv (mset gs o d)) (hgr : w.grownBy w' (some BG)) : R2 w0 n1 X BL BG lv (mset gs o d) Y YL YG sm w' :=
  h.first hb (Touch.of_grown hgr) (fun k hk => by subst hk; exact ⟨h.old.2.2.1, h.b1.low.2.2.1⟩) h.old.2.2.2
end

end Go.Proofs.Ythfaaimmfdidnaa

namespace Go.Proofs.Ythfaaimmfdidnaa
open Go.RowKit Go.ChangeAt
set_option linter.unusedVariables false

/-- Goods that an argument brings. -/
structure GA where
  o : Int
  st : Int
  A : Option Addr
  cap : Nat
  ls : List Ln
instance : Inhabited GA := ⟨⟨0, 0, none, 0, []⟩⟩
def enGA (x : GA) : List Value := [.int .i64 x.o, .int .i64 x.st, .slice x.A x.ls.length x.cap]
theorem enGA_len (x : GA) : (enGA x).length = 3 := rfl
def oddI (n : Int) : Bool := decide (n < 0) || decide (1125899906842624 < n)

/-- A level that may be. -/
def LevOk (v : Lv) : Prop := (1 ≤ v.i ∧ v.i ≤ 64) ∧ (([v.r, v.h, v.a, v.s, v.t] : List Int).any oddI = false) ∧ v.r = v.h + v.a + v.s - v.t
/-- The first k levels may be. -/
def LevsOk (vs : List Lv) (k : Nat) : Prop := ∀ j v, j < k → vs[j]? = some v → LevOk v ∧ v.i ∉ (vs.take j).map Lv.i
/-- The levels of a book that the first k make. -/
structure LvZ (vs : List Lv) (k : Nat) (lv : List (Int × Lv)) : Prop where
  keys : lv.map (·.1) = (vs.take k).map Lv.i
  zero : ∀ id a, mget lv id = some a → a = newLv a.g id ∧ 1 ≤ id ∧ id ≤ 64
theorem LvZ.nil (vs : List Lv) : LvZ vs 0 [] := ⟨by simp, fun _ _ h => by simp [mget] at h⟩
theorem LvZ.more {vs : List Lv} {k : Nat} {lv : List (Int × Lv)} {v : Lv} (h : LvZ vs k lv) (hv : vs[k]? = some v) (hm : mget lv v.i = none) (hok : 1 ≤ v.i ∧ v.i ≤ 64) (g : Nat) : LvZ vs (k + 1) (mset lv v.i (newLv g v.i)) := by
  refine ⟨?_, fun id a ha => ?_⟩
  · rw [mset_new hm, List.map_append, h.keys, List.take_add_one, hv]
    simp
  · rw [mget_mset] at ha
    split at ha
    · rename_i e
      injection ha with ha
      subst ha e
      exact ⟨rfl, hok⟩
    · exact h.zero id a ha
theorem LevsOk.more {vs : List Lv} {k : Nat} {v : Lv} (h : LevsOk vs k) (hv : vs[k]? = some v) (h1 : LevOk v) (h2 : v.i ∉ (vs.take k).map Lv.i) : LevsOk vs (k + 1) := fun j u hj hu => by
  by_cases e : j = k
  · subst e; rw [hv] at hu; injection hu with hu; subst hu; exact ⟨h1, h2⟩
  · exact h j u (by omega) hu


theorem qOf_append (l r : List Ln) (id : Int) : qOf (l ++ r) id = qOf l id + qOf r id := by
  induction l with
  | nil => simp [qOf]
  | cons x l ih => simp only [List.cons_append, qOf, ih]; omega
theorem sq_append (l r : List (Int × Gd)) (st id : Int) : sq st (l ++ r) id = sq st l id + sq st r id := by
  induction l with
  | nil => simp [sq]
  | cons x l ih => simp only [List.cons_append, sq, ih]; omega
theorem sq_new {gs : List (Int × Gd)} {o : Int} {d : Gd} (h : mget gs o = none) (st id : Int) : sq st (mset gs o d) id = sq st gs id + (if d.st = st then qOf d.ls id else 0) := by
  rw [mset_new h, sq_append]
  simp [sq]
/-- The sums of goods that an argument brings. -/
def sqA (st : Int) : List GA → Int → Int
  | [], _ => 0
  | x :: l, id => (if x.st = st then qOf x.ls id else 0) + sqA st l id
/-- The goods of the book, and those of the argument. -/
def GsI (gl : List GA) (gs : List (Int × Gd)) : Prop := gs.map (fun p => (p.1, p.2.o, p.2.st, p.2.ls)) = gl.map (fun x => (x.o, x.o, x.st, x.ls))
theorem GsI.keys {gl : List GA} {gs : List (Int × Gd)} (h : GsI gl gs) : gs.map (·.1) = gl.map GA.o := by
  have := congrArg (List.map Prod.fst) h
  simpa [List.map_map, Function.comp_def] using this
theorem GsI.sq : ∀ {gl : List GA} {gs : List (Int × Gd)}, GsI gl gs → ∀ st id, sq st gs id = sqA st gl id := by
  intro gl
  induction gl with
  | nil => intro gs h st id; unfold GsI at h; simp at h; subst h; rfl
  | cons x gl ih =>
    intro gs h st id
    cases gs with
    | nil => unfold GsI at h; simp at h
    | cons p gs =>
      unfold GsI at h
      simp only [List.map_cons, List.cons.injEq, Prod.mk.injEq] at h
      simp only [Go.Proofs.Ythfaaimmfdidnaa.sq, sqA, h.1.2.2.1, h.1.2.2.2, ih h.2]
theorem GsI.len {gl : List GA} {gs : List (Int × Gd)} (h : GsI gl gs) : gs.length = gl.length := by
  have := congrArg List.length h
  simpa using this
theorem GsI.more {gl : List GA} {gs : List (Int × Gd)} (h : GsI gl gs) {x : GA} {d : Gd} (hn : mget gs x.o = none) (h1 : d.o = x.o) (h2 : d.st = x.st) (h3 : d.ls = x.ls) : GsI (gl ++ [x]) (mset gs x.o d) := by
  unfold GsI at *
  rw [mset_new hn, List.map_append, List.map_append, h]
  simp [h1, h2, h3]
/-- What a line adds to a sum. -/
def addS (st : Int) (a : Lv) (q : Int) : Lv := ⟨a.g, a.i, a.r, a.h, if st = 1 then a.a + q else a.a, if st = 1 then a.s else a.s + q, if st = 3 then a.t + q else a.t⟩
/-- The sums: of these goods, and of lines of goods in this state. -/
def SumI (sm : List (Int × Lv)) (gs : List (Int × Gd)) (st : Int) (l : List Ln) : Prop := ∀ id a, mget sm id = some a → a.a = sq 1 gs id + (if st = 1 then qOf l id else 0) ∧ a.s = sq 2 gs id + sq 3 gs id + (if st = 1 then 0 else qOf l id) ∧ a.t = sq 3 gs id + (if st = 3 then qOf l id else 0)
section
variable {sm lv : List (Int × Lv)} {gs : List (Int × Gd)} {st : Int} {l : List Ln}
theorem SumI.any (h : SumI sm gs st []) (st' : Int) : SumI sm gs st' [] := fun id a ha => by
  have := h id a ha
  simpa [qOf] using this
theorem SumI.step (h : SumI sm gs st l) {x : Ln} {a : Lv} (ha : mget sm x.i = some a) : SumI (mset sm x.i (addS st a x.q)) gs st (l ++ [x]) := fun id b hb => by
  rw [mget_mset] at hb
  split at hb
  · rename_i e
    injection hb with hb
    subst hb e
    have := h x.i a ha
    simp only [addS, qOf_append, qOf, if_true, Int.add_zero]
    refine ⟨?_, ?_, ?_⟩ <;> split <;> rename_i e <;> simp only [e, if_true, if_false] at this ⊢ <;> omega
  · rename_i e
    have := h id b hb
    rw [qOf_append]
    simp only [qOf, if_neg (fun e' : x.i = id => e e'.symm)]
    simpa using this
theorem SumI.done (h : SumI sm gs st l) {o : Int} {d : Gd} (hn : mget gs o = none) (hd : d.st = st ∧ d.ls = l) (hst : 1 ≤ st ∧ st ≤ 3) : SumI sm (mset gs o d) 1 [] := fun id a ha => by
  have := h id a ha
  obtain ⟨rfl, rfl⟩ := hd
  rw [sq_new hn, sq_new hn, sq_new hn]
  simp only [qOf, if_true]
  rcases (show d.st = 1 ∨ d.st = 2 ∨ d.st = 3 from by omega) with e | e | e <;> simp only [e] at this ⊢ <;> simp at this ⊢ <;> omega
theorem SumI.bd (h : SumI sm gs st l) (hg : ∀ p ∈ gs, ∀ k, LnOk p.2.ls k) (hlen : gs.length ≤ 3000000000000) {id : Int} {a : Lv} (ha : mget sm id = some a) (hl : 0 ≤ qOf l id ∧ qOf l id ≤ 1000000) : (0 ≤ a.a ∧ a.a ≤ 4000000000000000000) ∧ (0 ≤ a.s ∧ a.s ≤ 8000000000000000000) ∧ 0 ≤ a.t ∧ a.t ≤ 4000000000000000000 := by
  have h0 := h id a ha
  have h1 := sq_bd hg 1 id
  have h2 := sq_bd hg 2 id
  have h3 := sq_bd hg 3 id
  refine ⟨?_, ?_, ?_⟩
  · split at h0 <;> omega
  · by_cases e : st = 1
    · simp only [e, if_true] at h0; omega
    · simp only [e, if_false] at h0; omega
  · by_cases e : st = 3
    · simp only [e, if_true] at h0; omega
    · simp only [e, if_false] at h0; omega
end
/-- The first k goods may be. -/
def GlOk (vs : List Lv) (gl : List GA) (k : Nat) : Prop := ∀ j x, j < k → gl[j]? = some x → FitOk x.o x.ls ∧ (1 ≤ x.st ∧ x.st ≤ 3) ∧ (∀ y ∈ x.ls, y.i ∈ vs.map Lv.i) ∧ x.o ∉ (gl.take j).map GA.o
theorem GlOk.more {vs : List Lv} {gl : List GA} {k : Nat} {x : GA} (h : GlOk vs gl k) (hx : gl[k]? = some x) (h1 : FitOk x.o x.ls ∧ (1 ≤ x.st ∧ x.st ≤ 3) ∧ (∀ y ∈ x.ls, y.i ∈ vs.map Lv.i) ∧ x.o ∉ (gl.take k).map GA.o) : GlOk vs gl (k + 1) := fun j u hj hu => by
  by_cases e : j = k
  · subst e; rw [hx] at hu; injection hu with hu; subst hu; exact h1
  · exact h j u (by omega) hu
/-- fit and the state's bounds, against the lists. -/
theorem fit_iff {vs : List Lv} {gl : List GA} {k : Nat} {lv : List (Int × Lv)} {gs : List (Int × Gd)} {x : GA} (hk : lv.map (·.1) = vs.map Lv.i) (hg : GsI (gl.take k) gs) : errF lv gs x.o x.ls = 0 ↔ FitOk x.o x.ls ∧ (∀ y ∈ x.ls, y.i ∈ vs.map Lv.i) ∧ x.o ∉ (gl.take k).map GA.o := by
  have e1 : (knowF lv x.ls = true) ↔ ∀ y ∈ x.ls, y.i ∈ vs.map Lv.i := by
    rw [knowF_iff]
    exact ⟨fun h y hy => by obtain ⟨a, ha⟩ := h y hy; rw [← hk]; exact mget_isSome.1 (by rw [ha]; rfl), fun h y hy => mget_key (hk ▸ h y hy)⟩
  have e2 : mget gs x.o = none ↔ x.o ∉ (gl.take k).map GA.o := by
    rw [← hg.keys]
    cases hm : mget gs x.o with
    | none => exact ⟨fun _ hin => (by obtain ⟨a, ha⟩ := mget_key hin; rw [hm] at ha; cases ha), fun _ => rfl⟩
    | some a => exact ⟨fun h => (by cases h), fun h => absurd (mget_isSome.1 (by rw [hm]; rfl)) h⟩
  rw [← e1, ← e2]
  exact ⟨errF_zero, fun ⟨h1, h2, h3⟩ => errF_ok h1 h2 (by rw [h3]; rfl)⟩
/-- The first k levels of the book are the given. -/
def LvF (vs : List Lv) (k : Nat) (lv : List (Int × Lv)) : Prop := lv.map (·.1) = vs.map Lv.i ∧ ∀ j v, j < k → vs[j]? = some v → ∃ g, mget lv v.i = some ⟨g, v.i, v.r, v.h, v.a, v.s, v.t⟩
theorem LvF.more {vs : List Lv} {k : Nat} {lv : List (Int × Lv)} {v a : Lv} (h : LvF vs k lv) (hok : LevsOk vs vs.length) (hv : vs[k]? = some v) (ha : mget lv v.i = some a) (hd : (lv.map (·.1)).Nodup) : LvF vs (k + 1) (mset lv v.i ⟨a.g, v.i, v.r, v.h, v.a, v.s, v.t⟩) := by
  refine ⟨?_, fun j u hj hu => ?_⟩
  · rw [← h.1]
    rw [mset_keys, if_pos (mget_isSome.1 (by rw [ha]; rfl))]
  · rw [mget_mset]
    by_cases e : j = k
    · subst e; rw [hv] at hu; injection hu with hu; subst hu; exact ⟨a.g, by rw [if_pos rfl]⟩
    · rw [if_neg (fun e' : u.i = v.i => ?_)]
      · exact h.2 j u (by omega) hu
      · have hk := (List.getElem?_eq_some_iff.1 hv).1
        refine (hok k v hk hv).2 (List.mem_map.2 ⟨u, List.mem_of_getElem? (i := j) ?_, e'⟩)
        rw [List.getElem?_take_of_lt (by omega), hu]
/-- Lists that Restore takes. -/
def RGood (vs : List Lv) (gl : List GA) : Prop := LevsOk vs vs.length ∧ GlOk vs gl gl.length ∧ ∀ v ∈ vs, v.a = sqA 1 gl v.i ∧ v.s = sqA 2 gl v.i + sqA 3 gl v.i ∧ v.t = sqA 3 gl v.i
theorem RGood.book {vs : List Lv} {gl : List GA} (h : RGood vs gl) {lv : List (Int × Lv)} {gs : List (Int × Gd)} (hl : LvF vs vs.length lv) (hg : GsI gl gs) (hd : (lv.map (·.1)).Nodup) (hn : (gs.map (·.1)).Nodup) : GoodB lv gs := by
  have hlv : ∀ id a, mget lv id = some a → ∃ (j : Nat) (v : Lv), vs[j]? = some v ∧ v.i = id ∧ a = ⟨a.g, v.i, v.r, v.h, v.a, v.s, v.t⟩ := fun id a ha => by
    have : id ∈ vs.map Lv.i := by rw [← hl.1]; exact mget_isSome.1 (by rw [ha]; rfl)
    obtain ⟨v, hv, rfl⟩ := List.mem_map.1 this
    obtain ⟨j, hj⟩ := List.mem_iff_getElem?.1 hv
    obtain ⟨g, hg⟩ := hl.2 j v (List.getElem?_eq_some_iff.1 hj).1 hj
    rw [hg] at ha
    injection ha with ha
    subst ha
    exact ⟨j, v, hj, rfl, rfl⟩
  have hgd : ∀ o d, mget gs o = some d → ∃ (j : Nat) (x : GA), gl[j]? = some x ∧ o = x.o ∧ d.o = x.o ∧ d.st = x.st ∧ d.ls = x.ls := fun o d hm => by
    obtain ⟨j, hj⟩ := List.mem_iff_getElem?.1 (mget_mem hm)
    have h1 : (gs.map (fun p => (p.1, p.2.o, p.2.st, p.2.ls)))[j]? = some (o, d.o, d.st, d.ls) := by rw [List.getElem?_map, hj]; rfl
    rw [show gs.map (fun p => (p.1, p.2.o, p.2.st, p.2.ls)) = _ from hg, List.getElem?_map] at h1
    cases hx : gl[j]? with
    | none => rw [hx] at h1; cases h1
    | some x =>
      rw [hx] at h1
      simp only [Option.map_some, Option.some.injEq, Prod.mk.injEq] at h1
      exact ⟨j, x, hx, h1.1.symm, h1.2.1.symm, h1.2.2.1.symm, h1.2.2.2.symm⟩
  have hbd : ∀ {v : Lv}, LevOk v → (0 ≤ v.r ∧ v.r ≤ 1125899906842624) ∧ 0 ≤ v.h := fun {v} hv => by
    have := hv.2.1
    simp only [List.any_cons, List.any_nil, oddI, Bool.or_false, Bool.or_eq_false_iff, decide_eq_false_iff_not] at this
    omega
  refine ⟨hd, hn, fun id a ha => ?_, fun o d hm => ?_, fun o d hm => ?_, fun id a ha => ?_⟩
  · obtain ⟨j, v, hj, rfl, e⟩ := hlv id a ha
    have h1 := (h.1 j v (List.getElem?_eq_some_iff.1 hj).1 hj).1
    have h2 := hbd h1
    rw [e]
    exact ⟨rfl, h1.1, h2.1⟩
  · obtain ⟨j, x, hj, rfl, h1, h2, h3⟩ := hgd o d hm
    have h4 := h.2.1 j x (List.getElem?_eq_some_iff.1 hj).1 hj
    exact ⟨h1, h3 ▸ h4.1, h2 ▸ h4.2.1⟩
  · obtain ⟨j, x, hj, rfl, h1, h2, h3⟩ := hgd o d hm
    have h4 := h.2.1 j x (List.getElem?_eq_some_iff.1 hj).1 hj
    rw [h3, knowF_iff]
    exact fun y hy => mget_key (hl.1 ▸ h4.2.2.1 y hy)
  · obtain ⟨j, v, hj, rfl, e⟩ := hlv id a ha
    have h1 := (h.1 j v (List.getElem?_eq_some_iff.1 hj).1 hj).1
    have h2 := hbd h1
    have h3 := h.2.2 v (List.mem_of_getElem? hj)
    have h4 := h1.2.2
    rw [e, hg.sq, hg.sq, hg.sq]
    simp only
    omega
theorem RGood.no1 {vs : List Lv} {gl : List GA} {k : Nat} (h : ¬ LevsOk vs (k + 1)) (hk : k < vs.length) : ¬ RGood vs gl := fun hh => h fun j v hj hv => hh.1 j v (by omega) hv
theorem RGood.no2 {vs : List Lv} {gl : List GA} {k : Nat} (h : ¬ GlOk vs gl (k + 1)) (hk : k < gl.length) : ¬ RGood vs gl := fun hh => h fun j v hj hv => hh.2.1 j v (by omega) hv
theorem LevsOk.fresh {vs : List Lv} {k : Nat} {v : Lv} {sm : List (Int × Lv)} (h : LevsOk vs vs.length) (hz : LvZ vs k sm) (hv : vs[k]? = some v) : mget sm v.i = none ∧ 1 ≤ v.i ∧ v.i ≤ 64 := by
  have h1 := h k v (List.getElem?_eq_some_iff.1 hv).1 hv
  refine ⟨?_, h1.1.1⟩
  cases hm : mget sm v.i with
  | none => rfl
  | some a => exact absurd (hz.keys ▸ mget_isSome.1 (by rw [hm]; rfl)) h1.2
theorem gs_fit {vs : List Lv} {gl : List GA} {k : Nat} {gs : List (Int × Gd)} (h : GlOk vs gl k) (hg : GsI (gl.take k) gs) : ∀ p ∈ gs, ∀ j, LnOk p.2.ls j := fun p hp j => by
  obtain ⟨i, hi⟩ := List.mem_iff_getElem?.1 hp
  have h1 : (gs.map (fun p => (p.1, p.2.o, p.2.st, p.2.ls)))[i]? = some (p.1, p.2.o, p.2.st, p.2.ls) := by rw [List.getElem?_map, hi]; rfl
  rw [show gs.map (fun p => (p.1, p.2.o, p.2.st, p.2.ls)) = _ from hg, List.getElem?_map] at h1
  cases hx : (gl.take k)[i]? with
  | none => rw [hx] at h1; cases h1
  | some x =>
    rw [hx] at h1
    simp only [Option.map_some, Option.some.injEq, Prod.mk.injEq] at h1
    rw [← h1.2.2.2]
    have h2 : i < k := by have := (List.getElem?_eq_some_iff.1 hx).1; simp at this; omega
    rw [List.getElem?_take_of_lt h2] at hx
    exact (h i x h2 hx).1.2 j
theorem gs_few {gl : List GA} {k n : Nat} {gs : List (Int × Gd)} (hg : GsI (gl.take k) gs) (hn : gl.length ≤ n) : gs.length ≤ n := by
  have := hg.len
  simp at this
  omega
theorem qOf_take {l : List Ln} (h : ∀ k, LnOk l k) (j : Nat) (id : Int) : 0 ≤ qOf (l.take j) id ∧ qOf (l.take j) id ≤ 1000000 :=
  qOf_bd (fun x hx => (lines_pw h).1 x (List.mem_of_mem_take hx)) ((lines_pw h).2.sublist (List.take_sublist _ _)) id

end Go.Proofs.Ythfaaimmfdidnaa

namespace Go.Proofs.Ythfaaimmfdidnaa
open Go.RowKit Go.WideShapes Go.ChangeShapes Go.ChangeAt Go.Deep
set_option linter.unusedVariables false

set_option maxRecDepth 100000 in
theorem odd_any (n : Int) (w : World) : Calls Try.prog 46 #[.int .i64 n] w fun e w' => e = .returned (.bool (oddI n)) ∧ w = w' := by
  rcases (show n < 0 ∨ (0 ≤ n ∧ 1125899906842624 < n) ∨ (0 ≤ n ∧ n ≤ 1125899906842624) from by omega) with h | ⟨h1, h2⟩ | ⟨h1, h2⟩
  · have hv : oddI n = true := by simp [oddI, h]
    rw [hv]
    clear hv
    go_enter Try.func46, Try.ntmps46
    go_wp2_with fail
    go_ret
    exact ⟨rfl, rfl⟩
  · have hv : oddI n = true := by simp [oddI, h2]
    rw [hv]
    clear hv
    go_enter Try.func46, Try.ntmps46
    go_wp2_with fail
    go_ret
    exact ⟨rfl, rfl⟩
  · have hv : oddI n = false := by simp [oddI]; omega
    rw [hv]
    have d1 : decide (1125899906842624 < n) = false := decide_eq_false (by omega)
    have d0 : decide (n < 0) = false := decide_eq_false (by omega)
    clear hv
    go_enter Try.func46, Try.ntmps46
    go_wp2_with fail
    go_ret
    exact ⟨rfl, rfl⟩

theorem has_plcI (p : Int → Bool) (l : List Int) : l.any p = decide (0 ≤ plc p l) := by
  rcases plc_cases p l with ⟨k, y, hk, hy, hp, he⟩ | ⟨hn, he⟩
  · rw [he, List.any_eq_true.2 ⟨y, List.mem_of_getElem? hy, hp⟩]
    simp
  · rw [he]
    cases h : l.any p with
    | false => rfl
    | true =>
      obtain ⟨y, hy, hp⟩ := List.any_eq_true.1 h
      rw [hn y hy] at hp
      cases hp
set_option maxRecDepth 100000 in
set_option maxHeartbeats 4000000 in
theorem oddIdx_any (l : List Int) (A : Option Addr) (cap : Nat) (w : World) (hR : Rd w A (l.flatMap en1)) (hl : l.length ≤ 140737488355328) :
    Calls Try.prog 60 #[.slice A l.length cap, .func (.func 46) #[] #[]] w fun e w' => e = .returned (.int .i64 (plc oddI l)) ∧ w = w' := by
  have hN : ∀ (args : Array Value) (w : World), (callFunc 46 args).run Try.prog w = .ok (.enter 46 args) w := fun _ _ => by go_simp
  go_enter Try.func60, Try.ntmps60
  go_wp2_with fail
  go_loop [8] (fun i => ∃ k : Nat, k ≤ l.length ∧ i = .int .i64 k ∧ Hid (∀ j y, j < k → l[j]? = some y → oddI y = false)) (fun i => l.length - nOf i)
  case atStart => exact ⟨0, Nat.zero_le _, rfl, hid (fun j y hj => by omega)⟩
  case round =>
    obtain ⟨k, hk, rfl, hP⟩ := hrel
    by_cases hlt : k < l.length
    · obtain ⟨y, hy⟩ : ∃ y, l[k]? = some y := ⟨l[k], List.getElem?_eq_getElem hlt⟩
      obtain ⟨b, off, rfl, hbs, hcc⟩ := hR.at_ 1 en1_len (by omega) hy
      have q0 : w.cell? ⟨b, off + k, none⟩ = some (.int .i64 y) := by have := hcc 0 _ rfl; simpa using this
      have K := odd_any y w
      have HY := hid hy
      clear hcc hy
      cases e : oddI y with
      | true =>
        rw [e] at K
        have HV := hid (plc_some (p := oddI) HY.out e hP.out)
        replace K := hid K
        clear e
        go_wp2_with fail
        refine K.out.mono ?_
        rintro e w5 ⟨rfl, rfl⟩
        go_wp2_with fail
        go_ret
        rw [HV.out]
        exact ⟨rfl, rfl⟩
      | false =>
        rw [e] at K
        have HE := hid e
        replace K := hid K
        clear e
        go_wp2_with fail
        refine K.out.mono ?_
        rintro e w5 ⟨rfl, rfl⟩
        go_wp2_with fail
        go_round
        case rel => exact ⟨k + 1, by omega, by go_num, hid (fun j z hj hz => by
          by_cases e : j = k
          · subst e; rw [HY.out] at hz; injection hz with hz; subst hz; exact HE.out
          · exact hP.out j z (by omega) hz)⟩
        case measure => simp [nOf]; omega
    · have HV := hid (plc_none (p := oddI) (l := l) (fun y hy => by
        obtain ⟨j, hj⟩ := List.mem_iff_getElem?.1 hy
        exact hP.out j y (by have := (List.getElem?_eq_some_iff.1 hj).1; omega) hj))
      have hk' : k = l.length := by omega
      subst hk'
      clear hP hk hlt
      go_wp2_with fail
      go_ret
      rw [HV.out]
      exact ⟨rfl, rfl⟩
set_option maxRecDepth 100000 in
theorem oddHas_any (l : List Int) (A : Option Addr) (cap : Nat) (w : World) (hR : Rd w A (l.flatMap en1)) (hl : l.length ≤ 140737488355328) :
    Calls Try.prog 47 #[.slice A l.length cap, .func (.func 46) #[] #[]] w fun e w' => e = .returned (.bool (l.any oddI)) ∧ w = w' := by
  have K := hid (oddIdx_any l A cap w hR hl)
  have HH := hid (has_plcI oddI l)
  go_enter Try.func47, Try.ntmps47
  go_wp2_with fail
  refine K.out.mono ?_
  rintro e w5 ⟨rfl, rfl⟩
  go_wp2_with fail
  go_ret
  rw [HH.out]
  exact ⟨rfl, rfl⟩

/-- The book at work beside the level at hand. -/
structure R1 (w0 : World) (X BL BG G : Nat) (v : Lv) (lv : List (Int × Lv)) (w : World) : Prop where
  book : IsBook w0.heap.size w X BL BG lv []
  blk : Blk w G 38 (enV v)
  bel : Below w0.heap.size w0 w
theorem R1.next {w0 w w' : World} {X BL BG G : Nat} {v : Lv} {lv : List (Int × Lv)} (h : R1 w0 X BL BG G v lv w) (hb : Below w.heap.size w w') : R1 w0 X BL BG G v lv w' := ⟨h.book.next hb, h.blk.next hb, bthen h.bel hb⟩
theorem R1.cells {w0 w : World} {X BL BG G : Nat} {v : Lv} {lv : List (Int × Lv)} (h : R1 w0 X BL BG G v lv w) : w.cell? ⟨G, 0, none⟩ = some (.int .i64 v.i) ∧ w.cell? ⟨G, 1, none⟩ = some (.int .i64 v.r) ∧ w.cell? ⟨G, 2, none⟩ = some (.int .i64 v.h) ∧ w.cell? ⟨G, 3, none⟩ = some (.int .i64 v.a) ∧ w.cell? ⟨G, 4, none⟩ = some (.int .i64 v.s) ∧ w.cell? ⟨G, 5, none⟩ = some (.int .i64 v.t) ∧ w.cell? ⟨X, 0, none⟩ = some (.map (some BL)) :=
  ⟨h.blk.cell 0, h.blk.cell 1, h.blk.cell 2, h.blk.cell 3, h.blk.cell 4, h.blk.cell 5, h.book.cellL⟩
theorem rd5 (l : List Int) (w : World) : Rd (w.alloc (.cells (l.map fun n => Value.int .i64 n).toArray 3)) (some ⟨w.heap.size, 0, none⟩) (l.flatMap en1) := by
  have e : l.flatMap en1 = l.map fun n => Value.int .i64 n := by
    induction l with
    | nil => rfl
    | cons x l ih => simp [en1] at ih ⊢; exact ih
  have hB := Blk.new w 3 (l.map fun n => Value.int .i64 n).toArray
  refine .inr ⟨w.heap.size, 0, rfl, hB.lt, fun j u hu => ?_⟩
  rw [Nat.zero_add, hB.cell j]
  rw [e] at hu
  simpa using hu

theorem Blk.setRow {w : World} {g : Nat} {t : TypeId} {cs : Array Value} (h : Blk w g t cs) (vs : Array Value) : Blk (w.setRow g vs) g t vs := by
  unfold Blk World.setRow at *
  simp [Array.getElem?_modify, h]
theorem Touch.setRow (w : World) (g : Nat) (vs : Array Value) : Touch (· = g) w (w.setRow g vs) := by
  refine ⟨rfl, rfl, rfl, ?_, fun k hk hn => ?_⟩
  · unfold World.setRow; simp
  · unfold World.setRow
    simp only [Array.getElem?_modify]
    rw [if_neg (fun e => hn e.symm)]
section
variable {w0 w w' : World} {n0 X BL BG : Nat} {vs : List Lv} {gl : List GA}
/-- What Restore leaves of bad lists. -/
def RBad (w : World) (e : Ending) (w' : World) : Prop := e = .returned (.tuple #[.pointer none, .int .i64 2]) ∧ Below w.heap.size w w'
def RPost (vs : List Lv) (gl : List GA) (w : World) (e : Ending) (w' : World) : Prop := (¬ RGood vs gl ∧ RBad w e w') ∨ (RGood vs gl ∧ ∃ (X BL BG : Nat) (lv : List (Int × Lv)) (gs : List (Int × Gd)), e = .returned (.tuple #[.pointer (some ⟨X, 0, none⟩), .int .i64 0]) ∧ IsBook w.heap.size w' X BL BG lv gs ∧ LvF vs vs.length lv ∧ GsI gl gs ∧ Below w.heap.size w w')
set_option maxRecDepth 100000 in
set_option maxHeartbeats 16000000 in
theorem restore_any (A1 : Option Addr) (c1 : Nat) (A2 : Option Addr) (c2 : Nat) (hR1 : Rd w A1 (vs.flatMap enV6)) (hR2 : Rd w A2 (gl.flatMap enGA)) (hl1 : vs.length ≤ 140737488355328) (hl2 : gl.length ≤ 3000000000000) (hR3 : ∀ x ∈ gl, Rd w x.A (x.ls.flatMap enL) ∧ x.ls.length ≤ x.cap ∧ x.cap ≤ maxLen) :
    Calls Try.prog 21 #[.slice A1 vs.length c1, .slice A2 gl.length c2] w fun e w' => RPost vs gl w e w' := by
  have HR2 := hid hR2
  have HR3 := hid hR3
  clear hR2 hR3
  go_enter Try.func21, Try.ntmps21
  go_wp2_with fail
  refine (new_any w).mono ?_
  rintro e w1 ⟨X, BL, BG, rfl, h, hb1⟩
  go_wp2_with fail
  go_loopw [24] (fun i wr => ∃ (k : Nat) (lv : List (Int × Lv)), k ≤ vs.length ∧ i = .int .i64 k ∧ Hid (LevsOk vs k ∧ LvZ vs k lv) ∧ IsBook w.heap.size wr X BL BG lv [] ∧ Below w.heap.size w wr) (fun i _ => vs.length - nOf i)
  case atStart => exact ⟨0, [], Nat.zero_le _, rfl, hid ⟨fun j v hj => by omega, LvZ.nil vs⟩, h, hb1⟩
  case round =>
    clear h hb1
    obtain ⟨k, lv, hk, rfl, hG, h, hb⟩ := hrel
    by_cases hlt : k < vs.length
    · --@1
      obtain ⟨v, hv⟩ : ∃ v, vs[k]? = some v := ⟨vs[k], List.getElem?_eq_getElem hlt⟩
      obtain ⟨b, off, rfl, hbs, hcc⟩ := (hR1.below hb).at_ 6 enV6_len (by omega) hv
      have HV := hid hv
      obtain ⟨vg, vi, vr, vh, va, vv, vt⟩ := v
      have q0 : wr.cell? ⟨b, off + k * 6, none⟩ = some (.int .i64 vi) := hcc 0 _ rfl
      have q1 : wr.cell? ⟨b, off + k * 6 + 1, none⟩ = some (.int .i64 vr) := hcc 1 _ rfl
      have q2 : wr.cell? ⟨b, off + k * 6 + 2, none⟩ = some (.int .i64 vh) := hcc 2 _ rfl
      have q3 : wr.cell? ⟨b, off + k * 6 + 3, none⟩ = some (.int .i64 va) := hcc 3 _ rfl
      have q4 : wr.cell? ⟨b, off + k * 6 + 4, none⟩ = some (.int .i64 vv) := hcc 4 _ rfl
      have q5 : wr.cell? ⟨b, off + k * 6 + 5, none⟩ = some (.int .i64 vt) := hcc 5 _ rfl
      have hwb : Below wr.heap.size wr (wr.alloc (.cells #[.int .i64 vi, .int .i64 vr, .int .i64 vh, .int .i64 va, .int .i64 vv, .int .i64 vt] 38)) := (Below.refl _ _).alloc (Nat.le_refl _) _
      have hGB := Blk.new wr 38 #[.int .i64 vi, .int .i64 vr, .int .i64 vh, .int .i64 va, .int .i64 vv, .int .i64 vt]
      have hz := h.next hwb
      have hbz := bthen hb hwb
      have hol : ∀ k, Own BL BG lv [] k → k < wr.heap.size := fun k hk => by
        rcases hk with rfl | rfl | ⟨p, hp, rfl⟩ | ⟨p, hp, _⟩
        · exact h.lvs.lt
        · exact h.gds.lt
        · exact (h.lc p hp).lt
        · cases hp
      obtain ⟨wz, hwz⟩ : ∃ wz, wz = wr.alloc (.cells #[.int .i64 vi, .int .i64 vr, .int .i64 vh, .int .i64 va, .int .i64 vv, .int .i64 vt] 38) := ⟨_, rfl⟩
      obtain ⟨G, hGe⟩ : ∃ G, G = wr.heap.size := ⟨_, rfl⟩
      have HW := hid hwz
      have HGe := hid hGe
      rw [← hwz] at hGB hz hbz
      rw [← hGe] at hGB hol
      have HZ := hid (And.intro hz (And.intro hGB (And.intro hbz hol)))
      clear hcc hbs hv h hb hwb hGB hz hbz hol hwz hGe
      have hnc : (vi ∈ (vs.take k).map Lv.i) ↔ ∃ a, mget lv vi = some a := by
        rw [← hG.out.2.keys]
        exact ⟨mget_key, fun ⟨a, ha⟩ => mget_isSome.1 (by rw [ha]; rfl)⟩
      cases hm : mget lv vi with
      | some a => as_aux_lemma => --@11
        obtain ⟨hz, hGB, hbz, _⟩ := HZ.out
        obtain ⟨C, hCd⟩ : ∃ C : World → Prop, ∀ w', C w' ↔ Below wz.heap.size wz w' := ⟨_, fun _ => Iff.rfl⟩
        have hC : C wz.drew := (hCd _).2 ((Below.refl _ _).drew)
        have g0 : ∀ p : In C, p.w.cell? ⟨G, 0, none⟩ = some (.int .i64 vi) := fun p => (hGB.next ((hCd _).1 p.h)).cell 0
        have c0 : ∀ p : In C, p.w.cell? ⟨X, 0, none⟩ = some (.map (some BL)) := fun p => (hz.next ((hCd _).1 p.h)).cellL
        have l0 : ∀ p : In C, (Instr.lookup 71 (.map (some BL)) (.int .i64 vi) false).run Try.prog p.w = .ok (.pointer (some ⟨a.g, 0, none⟩)) p.w := fun p => by
          have := (hz.next ((hCd _).1 p.h)).lookL vi
          rw [show ptrL lv vi = some ⟨a.g, 0, none⟩ from by unfold ptrL; rw [hm]; rfl] at this
          exact this
        have HCd := hid hCd
        have HBAD := hid (show ¬ LevsOk vs (k + 1) from fun hh => (hh k _ (by omega) HV.out).2 (hnc.2 ⟨a, hm⟩))
        have HBZ := hid hbz
        clear hCd hz hGB hbz hm hnc HZ
        go_wp2_with fail
        rw [← HW.out, ← HGe.out]
        refine wp_region_in C (by kernel_rfl) (by kernel_rfl) hC ?_
        intro hne
        clear hC
        repeat (first | go_big_quiet_step (fail) | quiet_step (fail))
        refine wpQuiet_nil ?_
        intro wq hq
        have hb := bthen HBZ.out ((HCd.out _).1 hq)
        clear g0 c0 l0 hne hq HCd
        go_wp2_with fail
        go_ret2
        exact .inl ⟨RGood.no1 HBAD.out hlt, rfl, hb⟩
        --@11e
      | none =>
        by_cases hok : 1 ≤ vi ∧ vi ≤ 64
        · obtain ⟨hz, hGB, hbz, hol⟩ := HZ.out
          have hP : R1 w X BL BG G ⟨vg, vi, vr, vh, va, vv, vt⟩ lv wz := ⟨hz, hGB, hbz⟩
          have hmf : ∀ (fn : Fn) (first cap : Array Value) (w : World), (Instr.makeFunc fn first cap).run Try.prog w = .ok (.func fn first cap) w := fun _ _ _ _ => rfl
          have c0 : wz.cell? ⟨X, 0, none⟩ = some (.map (some BL)) := hz.cellL
          have lX : X < wz.heap.size := hz.blk.lt
          have l0 : (Instr.lookup 71 (.map (some BL)) (.int .i64 vi) false).run Try.prog wz.drew = .ok (.pointer none) wz.drew := by
            have := (hz.next (below_drewN (Below.refl _ wz) 1)).lookL vi
            rw [show ptrL lv vi = none from by unfold ptrL; rw [hm]; rfl] at this
            exact this
          have K1 : Hid (∀ w', R1 w X BL BG G ⟨vg, vi, vr, vh, va, vv, vt⟩ lv w' → Calls Try.prog 11 #[.pointer (some ⟨X, 0, none⟩), .int .i64 vi] w' fun e w'' => e = .returned (.int .i64 0) ∧ ∃ g, R1 w X BL BG G ⟨vg, vi, vr, vh, va, vv, vt⟩ (mset lv vi (newLv g vi)) w'') :=
            hid (fun w' h => (item_new h.book h.bel.size vi hok hm).mono fun e w'' ⟨h1, ⟨g, hg, h2⟩, h3⟩ => ⟨h1, g, h2, h3.blk h.blk (fun hk => absurd (hol _ hk) (Nat.lt_irrefl _)), h.bel.trans (h3.below h.bel.size (fun k hk => h.book.own_low hk))⟩)
          have K2 : Hid (∀ w' : World, Calls Try.prog 47 #[.slice (some ⟨w'.heap.size, 0, none⟩) 5 5, .func (.func 46) #[] #[]] (w'.alloc (.cells #[.int .i64 vr, .int .i64 vh, .int .i64 va, .int .i64 vv, .int .i64 vt] 3)) fun e w'' => e = .returned (.bool (([vr, vh, va, vv, vt] : List Int).any oddI)) ∧ (w'.alloc (.cells #[.int .i64 vr, .int .i64 vh, .int .i64 va, .int .i64 vv, .int .i64 vt] 3)) = w'') :=
            hid (fun w' => oddHas_any [vr, vh, va, vv, vt] _ 5 _ (rd5 [vr, vh, va, vv, vt] w') (by simp))
          have HMM := hid hm
          have HNC := hid hnc
          clear hz hGB hbz hol hm hnc HZ
          cases hodd : ([vr, vh, va, vv, vt] : List Int).any oddI with
          | true => --@12
            rw [hodd] at K2
            have HBAD := hid (show ¬ LevsOk vs (k + 1) from fun hh => by have := (hh k _ (by omega) HV.out).1.2.1; simp only at this; rw [hodd] at this; cases this)
            clear hodd
            go_wp2_with fail
            rw [← HW.out, ← HGe.out]
            replace hP := hP.next (below_drewN (Below.refl _ _) 1)
            refine seg_start (by kernel_rfl) ?_
            obtain ⟨wd, hwd⟩ : ∃ wd, wd = wz.drew := ⟨_, rfl⟩
            have hP' : R1 w X BL BG G ⟨vg, vi, vr, vh, va, vv, vt⟩ lv wd := hwd ▸ hP
            rw [← hwd] at l0 ⊢
            obtain ⟨C, hCd⟩ : ∃ C : World → Prop, ∀ w', C w' ↔ w' = wd := ⟨_, fun _ => Iff.rfl⟩
            have g0 : ∀ p : In C, p.w.cell? ⟨G, 0, none⟩ = some (.int .i64 vi) := fun p => by rw [(hCd _).1 p.h]; exact hP'.cells.1
            have x0 : ∀ p : In C, p.w.cell? ⟨X, 0, none⟩ = some (.map (some BL)) := fun p => by rw [(hCd _).1 p.h]; exact hP'.cells.2.2.2.2.2.2
            have y0 : ∀ p : In C, (Instr.lookup 71 (.map (some BL)) (.int .i64 vi) false).run Try.prog p.w = .ok (.pointer none) p.w := fun p => by rw [(hCd _).1 p.h]; exact l0
            have HCd := hid hCd
            have HP := hid hP'
            clear hP hP' l0 c0
            refine seg_in C 0 12 (by kernel_rfl) ((HCd.out _).2 rfl) ?_
            clear hCd
            intro hne
            simp only [List.take_succ_cons, List.take_zero, List.drop_zero]
            repeat (first | go_big_quiet_step (fail) | quiet_step (fail))
            refine wpQuiet_nil ?_
            intro w' hw'
            obtain rfl := (HCd.out _).1 hw'
            clear g0 x0 y0 hne hw' HCd
            refine seg_enter (f := 11) (args := #[.pointer (some ⟨X, 0, none⟩), .int .i64 vi]) 12 (by rfl) (by kernel_rfl) (by kernel_rfl) (by go_simp) ?_
            refine (K1.out _ HP.out).mono ?_
            rintro e w7 ⟨rfl, g7, hP7⟩
            refine ⟨_, rfl, ?_⟩
            clear HP K1
            obtain ⟨w8, hw8⟩ : ∃ w8, w8 = w7.alloc (.cells #[.int .i64 vr, .int .i64 vh, .int .i64 va, .int .i64 vv, .int .i64 vt] 3) := ⟨_, rfl⟩
            have hP8 : R1 w X BL BG G ⟨vg, vi, vr, vh, va, vv, vt⟩ (mset lv vi (newLv g7 vi)) w8 := hw8 ▸ hP7.next ((Below.refl _ _).alloc (Nat.le_refl _) (.cells #[.int .i64 vr, .int .i64 vh, .int .i64 va, .int .i64 vv, .int .i64 vt] 3))
            obtain ⟨CB, hCB0, hCB1⟩ : ∃ CB : Bool → World → Prop, (∀ w', CB false w' ↔ w' = w7) ∧ (∀ w', CB true w' ↔ w' = w8) := ⟨fun b w' => if b = true then w' = w8 else w' = w7, fun w' => by simp, fun w' => by simp⟩
            have hRW : ∀ w', (∃ b, CB b w') → R1 w X BL BG G ⟨vg, vi, vr, vh, va, vv, vt⟩ (mset lv vi (newLv g7 vi)) w' := fun w' ⟨bb, hb⟩ => by
              cases bb with
              | false => exact (hCB0 _).1 hb ▸ hP7
              | true => exact (hCB1 _).1 hb ▸ hP8
            obtain ⟨C, hCd⟩ : ∃ C : World → Prop, ∀ w', C w' ↔ ∃ b, CB b w' := ⟨_, fun _ => Iff.rfl⟩
            have HCC := hid (fun b w' (h : CB b w') => (hCd w').2 ⟨b, h⟩)
            have g1 : ∀ p : In C, p.w.cell? ⟨G, 1, none⟩ = some (.int .i64 vr) := fun p => (hRW _ ((hCd _).1 p.h)).cells.2.1
            have g2 : ∀ p : In C, p.w.cell? ⟨G, 2, none⟩ = some (.int .i64 vh) := fun p => (hRW _ ((hCd _).1 p.h)).cells.2.2.1
            have g3 : ∀ p : In C, p.w.cell? ⟨G, 3, none⟩ = some (.int .i64 va) := fun p => (hRW _ ((hCd _).1 p.h)).cells.2.2.2.1
            have g4 : ∀ p : In C, p.w.cell? ⟨G, 4, none⟩ = some (.int .i64 vv) := fun p => (hRW _ ((hCd _).1 p.h)).cells.2.2.2.2.1
            have g5 : ∀ p : In C, p.w.cell? ⟨G, 5, none⟩ = some (.int .i64 vt) := fun p => (hRW _ ((hCd _).1 p.h)).cells.2.2.2.2.2.1
            have hC : CB false w7 := (hCB0 _).2 rfl
            have HC0 := hid hCB0
            have HC1 := hid hCB1
            have HP8 := hid hP8
            have HW8 := hid hw8
            clear hCB0 hCB1 hRW hCd hP7 hP8 hw8
            refine seg_turnL CB 26 13 28 (by decide) (by kernel_rfl) hC ?_
            have hne : Nonempty (In C) := ⟨⟨w7, HCC.out _ _ hC⟩⟩
            clear hC
            refine wpT_part C HCC.out 13 26 (by kernel_rfl) (by kernel_rfl) (by decide) ?_
            simp only [List.take_succ_cons, List.take_zero, List.drop_succ_cons, List.drop_zero]
            repeat (first | go_big_quiet_step (fail) | quiet_step (fail))
            refine wpQuiet_nil ?_
            refine wpT_turn (.slice (some ⟨w7.heap.size, 0, none⟩) 5 5) (by kernel_rfl) (fun wp hwp => ?_) ?_
            · obtain rfl := (HC0.out _).1 hwp
              go_simp
              exact ⟨(HC1.out _).2 HW8.out.symm, rfl⟩
            refine wpT_part C HCC.out 1 28 (by kernel_rfl) (by kernel_rfl) (by decide) ?_
            simp only [List.take_succ_cons, List.take_zero, List.drop_succ_cons, List.drop_zero]
            repeat (first | go_big_quiet_step (fail) | quiet_step (fail))
            refine wpQuiet_nil ?_
            refine wpT_nil ?_
            intro w' hw'
            obtain rfl := (HC1.out _).1 hw'
            clear g1 g2 g3 g4 g5 hne hw' HC0 HC1 HCC
            have K := K2.out w7
            rw [← HW8.out] at K
            replace K := hid K
            clear K2
            refine seg_enter (f := 47) (args := #[.slice (some ⟨w7.heap.size, 0, none⟩) 5 5, .func (.func 46) #[] #[]]) 28 (by rfl) (by kernel_rfl) (by kernel_rfl) (by go_simp) ?_
            refine K.out.mono ?_
            rintro e w9 ⟨rfl, rfl⟩
            refine ⟨_, rfl, ?_⟩
            clear K
            obtain ⟨C, hCd⟩ : ∃ C : World → Prop, ∀ w', C w' ↔ R1 w X BL BG G ⟨vg, vi, vr, vh, va, vv, vt⟩ (mset lv vi (newLv g7 vi)) w' := ⟨_, fun _ => Iff.rfl⟩
            refine seg_in C 29 46 (by kernel_rfl) ((hCd _).2 HP8.out) ?_
            have HCd := hid hCd
            clear hCd HP8 HW8
            intro hne
            simp only [List.take_succ_cons, List.take_zero, List.drop_succ_cons, List.drop_zero]
            repeat (first | go_big_quiet_step (fail) | quiet_step (fail))
            refine wpQuiet_nil ?_
            intro w' hw'
            have HE := hid ((HCd.out _).1 hw')
            clear hw' hne HCd
            refine seg_end (by kernel_rfl) ?_
            go_wp2_with fail
            go_ret2
            exact .inl ⟨RGood.no1 HBAD.out hlt, rfl, HE.out.bel⟩
            --@12e
          | false =>
            rw [hodd] at K2
            have hbd : (0 ≤ vr ∧ vr ≤ 1125899906842624) ∧ (0 ≤ vh ∧ vh ≤ 1125899906842624) ∧ (0 ≤ va ∧ va ≤ 1125899906842624) ∧ (0 ≤ vv ∧ vv ≤ 1125899906842624) ∧ (0 ≤ vt ∧ vt ≤ 1125899906842624) := by
              simp only [List.any_cons, List.any_nil, oddI, Bool.or_false, Bool.or_eq_false_iff, decide_eq_false_iff_not] at hodd
              omega
            have w1 : IntKind.i64.wrap (vh + va) = vh + va := IntWalk.i64_in _ ⟨by omega, by omega⟩
            have w2 : IntKind.i64.wrap (vh + va + vv) = vh + va + vv := IntWalk.i64_in _ ⟨by omega, by omega⟩
            have w3 : IntKind.i64.wrap (vh + va + vv - vt) = vh + va + vv - vt := IntWalk.i64_in _ ⟨by omega, by omega⟩
            have HODD := hid hodd
            clear hodd hbd
            by_cases hr : vr = vh + va + vv - vt
            · --@13
              have t1 : (vr != vh + va + vv - vt) = false := by simpa using hr
              have HR := hid hr
              have hnk : vi ∉ (vs.take k).map Lv.i := fun hin => by
                obtain ⟨a, ha⟩ := HNC.out.1 hin
                rw [HMM.out] at ha; cases ha
              have HG2 := hid (fun g => (And.intro (hG.out.1.more HV.out ⟨hok, HODD.out, hr⟩ hnk) (hG.out.2.more HV.out HMM.out hok g)))
              clear hr hnk
              go_wp2_with fail
              rw [← HW.out, ← HGe.out]
              replace hP := hP.next (below_drewN (Below.refl _ _) 1)
              go_region_held3 (fun w' => w'.cell? ⟨G, 0, none⟩ = some (.int .i64 vi) ∧ w'.cell? ⟨G, 1, none⟩ = some (.int .i64 vr) ∧ w'.cell? ⟨G, 2, none⟩ = some (.int .i64 vh) ∧ w'.cell? ⟨G, 3, none⟩ = some (.int .i64 va) ∧ w'.cell? ⟨G, 4, none⟩ = some (.int .i64 vv) ∧ w'.cell? ⟨G, 5, none⟩ = some (.int .i64 vt) ∧ w'.cell? ⟨X, 0, none⟩ = some (.map (some BL))) (first | exact hP.cells | exact hP7.cells | exact hP8.cells)
                (first
                  | (go_at_call 11; refine (K1.out _ hP).mono ?_; rintro e w7 ⟨rfl, g7, hP7⟩; clear hP; have hP8 := hP7.next ((Below.refl _ _).alloc (Nat.le_refl _) (.cells #[.int .i64 vr, .int .i64 vh, .int .i64 va, .int .i64 vv, .int .i64 vt] 3)))
                  | (go_at_call 47; refine (K2.out w7).mono ?_; rintro e w8 ⟨rfl, rfl⟩))
              all_goals
                have HE := hid hP8
                clear hP7 hP8 K1 K2
                go_wp2_with fail
                go_roundw
                case rel => exact ⟨k + 1, _, by omega, by go_num, hid (HG2.out g7), HE.out.book, HE.out.bel⟩
                case measure => simp [nOf]; omega
              --@13e
            · --@14
              have t1 : (vr != vh + va + vv - vt) = true := by simpa using hr
              have HBAD := hid (show ¬ LevsOk vs (k + 1) from fun hh => hr (hh k _ (by omega) HV.out).1.2.2)
              clear hr
              go_wp2_with fail
              rw [← HW.out, ← HGe.out]
              replace hP := hP.next (below_drewN (Below.refl _ _) 1)
              go_region_held3 (fun w' => w'.cell? ⟨G, 0, none⟩ = some (.int .i64 vi) ∧ w'.cell? ⟨G, 1, none⟩ = some (.int .i64 vr) ∧ w'.cell? ⟨G, 2, none⟩ = some (.int .i64 vh) ∧ w'.cell? ⟨G, 3, none⟩ = some (.int .i64 va) ∧ w'.cell? ⟨G, 4, none⟩ = some (.int .i64 vv) ∧ w'.cell? ⟨G, 5, none⟩ = some (.int .i64 vt) ∧ w'.cell? ⟨X, 0, none⟩ = some (.map (some BL))) (first | exact hP.cells | exact hP7.cells | exact hP8.cells)
                (first
                  | (go_at_call 11; refine (K1.out _ hP).mono ?_; rintro e w7 ⟨rfl, g7, hP7⟩; clear hP; have hP8 := hP7.next ((Below.refl _ _).alloc (Nat.le_refl _) (.cells #[.int .i64 vr, .int .i64 vh, .int .i64 va, .int .i64 vv, .int .i64 vt] 3)))
                  | (go_at_call 47; refine (K2.out w7).mono ?_; rintro e w8 ⟨rfl, rfl⟩))
              all_goals
                have HE := hid hP8
                clear hP7 hP8 K1 K2
                go_wp2_with fail
                go_ret2
                exact .inl ⟨RGood.no1 HBAD.out hlt, rfl, HE.out.bel⟩
              --@14e
        · as_aux_lemma => --@15
          obtain ⟨hz, hGB, hbz, _⟩ := HZ.out
          obtain ⟨C, hCd⟩ : ∃ C : World → Prop, ∀ w', C w' ↔ Below wz.heap.size wz w' := ⟨_, fun _ => Iff.rfl⟩
          have hC : C wz.drew := (hCd _).2 ((Below.refl _ _).drew)
          have g0 : ∀ p : In C, p.w.cell? ⟨G, 0, none⟩ = some (.int .i64 vi) := fun p => (hGB.next ((hCd _).1 p.h)).cell 0
          have c0 : ∀ p : In C, p.w.cell? ⟨X, 0, none⟩ = some (.map (some BL)) := fun p => (hz.next ((hCd _).1 p.h)).cellL
          have l0 : ∀ p : In C, (Instr.lookup 71 (.map (some BL)) (.int .i64 vi) false).run Try.prog p.w = .ok (.pointer none) p.w := fun p => by
            have := (hz.next ((hCd _).1 p.h)).lookL vi
            rw [show ptrL lv vi = none from by unfold ptrL; rw [hm]; rfl] at this
            exact this
          have O : Hid (∀ p : In C, Calls Try.prog 11 #[.pointer (some ⟨X, 0, none⟩), .int .i64 vi] p.w fun e w' => e = .returned (.int .i64 2) ∧ C w') :=
            hid (fun p => (item_no (hz.next ((hCd _).1 p.h)) vi hok).mono fun _ _ ⟨e1, e2⟩ => ⟨e1, e2 ▸ p.h⟩)
          have HCd := hid hCd
          have HBAD := hid (show ¬ LevsOk vs (k + 1) from fun hh => hok (hh k _ (by omega) HV.out).1.1)
          have HBZ := hid hbz
          clear hCd hz hGB hbz hm hnc HZ hok
          go_wp2_with fail
          rw [← HW.out, ← HGe.out]
          refine wp_region_in C (by kernel_rfl) (by kernel_rfl) hC ?_
          intro hne
          clear hC
          repeat (first | go_big_quiet_step ((go_at_call 11; exact Calls.in_of (O.out _))) | quiet_step ((go_at_call 11; exact Calls.in_of (O.out _))))
          refine wpQuiet_nil ?_
          intro wq hq
          have hb := bthen HBZ.out ((HCd.out _).1 hq)
          clear g0 c0 l0 hne hq HCd O
          go_wp2_with fail
          go_ret2
          exact .inl ⟨RGood.no1 HBAD.out hlt, rfl, hb⟩
          --@15e
      --@1e
    · have hk' : k = vs.length := by omega
      subst hk'
      have HOK := hid hG.out.1
      have HK1 := hid (show lv.map (·.1) = vs.map Lv.i from by rw [hG.out.2.keys, List.take_length])
      have HI := hid h
      have HB := hid hb
      clear hk hlt hG h hb
      go_wp2_with fail
      refine (new_any wr).mono ?_
      rintro e w2 ⟨Y, YL, YG, rfl, h2, hb2⟩
      have hR := R2.made HI.out HB.out h2 hb2
      obtain ⟨n1, hn1⟩ : ∃ n1, n1 = wr.heap.size := ⟨_, rfl⟩
      rw [← hn1] at hR
      clear h2 hb2 hn1 HI HB
      go_wp2_with fail
      go_loopw [78] (fun i wq => ∃ (k : Nat) (sm : List (Int × Lv)), k ≤ vs.length ∧ i = .int .i64 k ∧ Hid (LvZ vs k sm) ∧ R2 w n1 X BL BG lv [] Y YL YG sm wq) (fun i _ => vs.length - nOf i)
      case atStart => exact ⟨0, [], Nat.zero_le _, rfl, hid (LvZ.nil vs), hR⟩
      case round =>
        clear hR
        obtain ⟨k, sm, hk, rfl, hZ, hR⟩ := hrel
        by_cases hlt : k < vs.length
        · as_aux_lemma => --@2
          obtain ⟨v, hv⟩ : ∃ v, vs[k]? = some v := ⟨vs[k], List.getElem?_eq_getElem hlt⟩
          obtain ⟨b, off, rfl, hbs, hcc⟩ := (hR1.below hR.bel).at_ 6 enV6_len (by omega) hv
          have HF := hid (LevsOk.fresh HOK.out hZ.out hv)
          have HV := hid hv
          obtain ⟨vg, vi, vr, vh, va, vv, vt⟩ := v
          have q0 : wr.cell? ⟨b, off + k * 6, none⟩ = some (.int .i64 vi) := hcc 0 _ rfl
          have q1 : wr.cell? ⟨b, off + k * 6 + 1, none⟩ = some (.int .i64 vr) := hcc 1 _ rfl
          have q2 : wr.cell? ⟨b, off + k * 6 + 2, none⟩ = some (.int .i64 vh) := hcc 2 _ rfl
          have q3 : wr.cell? ⟨b, off + k * 6 + 3, none⟩ = some (.int .i64 va) := hcc 3 _ rfl
          have q4 : wr.cell? ⟨b, off + k * 6 + 4, none⟩ = some (.int .i64 vv) := hcc 4 _ rfl
          have q5 : wr.cell? ⟨b, off + k * 6 + 5, none⟩ = some (.int .i64 vt) := hcc 5 _ rfl
          have hz := hR.next ((Below.refl _ _).alloc (Nat.le_refl _) (.cells #[.int .i64 vi, .int .i64 vr, .int .i64 vh, .int .i64 va, .int .i64 vv, .int .i64 vt] 38))
          have K := hid (item_new hz.b2 (Nat.le_trans hz.b2.low.1 (Nat.le_of_lt hz.b2.blk.lt)) vi HF.out.2 HF.out.1)
          have HR := hid hz
          clear hcc hbs hv hR hz
          go_wp2_with fail
          refine K.out.mono ?_
          rintro e w7 ⟨rfl, ⟨g7, _, hI7⟩, hT7⟩
          have HR7 := hid (HR.out.sums hI7 hT7)
          clear hI7 hT7 K HR
          go_wp2_with fail
          go_roundw
          case rel => exact ⟨k + 1, _, by omega, by go_num, hid (hZ.out.more HV.out HF.out.1 HF.out.2 g7), HR7.out⟩
          case measure => simp [nOf]; omega
          --@2e
        · have hk' : k = vs.length := by omega
          subst hk'
          have HK2 := hid (show sm.map (·.1) = vs.map Lv.i from by rw [hZ.out.keys, List.take_length])
          have HS2 := hid (show SumI sm [] 1 [] from fun id a ha => by
            obtain ⟨e, _⟩ := hZ.out.zero id a ha
            rw [e]
            simp [newLv, sq, qOf])
          have HRR := hid hR
          clear hk hlt hZ hR
          go_wp2_with fail
          go_loopw [89] (fun i wr => ∃ (k : Nat) (gs : List (Int × Gd)) (sm : List (Int × Lv)), k ≤ gl.length ∧ i = .int .i64 k ∧ Hid (GlOk vs gl k ∧ GsI (gl.take k) gs ∧ sm.map (·.1) = vs.map Lv.i ∧ SumI sm gs 1 []) ∧ R2 w n1 X BL BG lv gs Y YL YG sm wr) (fun i _ => gl.length - nOf i)
          case atStart => exact ⟨0, [], sm, Nat.zero_le _, rfl, hid ⟨fun j x hj => by omega, by simp [GsI], HK2.out, HS2.out⟩, HRR.out⟩
          case round =>
            clear HRR HK2 HS2
            obtain ⟨k, gs, sm, hk, rfl, hZ, hR⟩ := hrel
            by_cases hlt : k < gl.length
            · as_aux_lemma => --@3
              obtain ⟨x, hx⟩ : ∃ x, gl[k]? = some x := ⟨gl[k], List.getElem?_eq_getElem hlt⟩
              obtain ⟨b, off, rfl, hbs, hcc⟩ := (HR2.out.below hR.bel).at_ 3 enGA_len (by omega) hx
              have HX := hid hx
              obtain ⟨xR, xc1, xc2⟩ := HR3.out x (List.mem_of_getElem? hx)
              have HFI := hid (fit_iff (x := x) HK1.out hZ.out.2.1)
              obtain ⟨xo, xs, xA, xc, xl⟩ := x
              have q0 : wr.cell? ⟨b, off + k * 3, none⟩ = some (.int .i64 xo) := hcc 0 _ rfl
              have q1 : wr.cell? ⟨b, off + k * 3 + 1, none⟩ = some (.int .i64 xs) := hcc 1 _ rfl
              have q2 : wr.cell? ⟨b, off + k * 3 + 2, none⟩ = some (.slice xA xl.length xc) := hcc 2 _ rfl
              have hwb : Below wr.heap.size wr (wr.alloc (.cells #[.int .i64 xo, .int .i64 xs, .slice xA xl.length xc] 45)) := (Below.refl _ _).alloc (Nat.le_refl _) _
              have hGB := Blk.new wr 45 #[.int .i64 xo, .int .i64 xs, .slice xA xl.length xc]
              have hz := hR.next hwb
              obtain ⟨wz, hwz⟩ : ∃ wz, wz = wr.alloc (.cells #[.int .i64 xo, .int .i64 xs, .slice xA xl.length xc] 45) := ⟨_, rfl⟩
              obtain ⟨G, hGe⟩ : ∃ G, G = wr.heap.size := ⟨_, rfl⟩
              have HW := hid hwz
              have HGe := hid hGe
              rw [← hwz] at hGB hz
              rw [← hGe] at hGB
              have HXR := hid xR
              have HXC := hid (And.intro xc1 xc2)
              have K := hid (fit_any hz.b1 xo xA xc xl (xR.below hz.bel) xc1 xc2)
              have HZZ := hid (And.intro hz hGB)
              clear hcc hbs hx hwb hGB hz hwz hGe hR xR xc1 xc2
              by_cases hz0 : errF lv gs xo xl = 0
              · rw [hz0] at K
                have HF0 := hid (HFI.out.1 hz0)
                have HE0 := hid hz0
                clear hz0
                rcases (show xs < 1 ∨ (1 ≤ xs ∧ 3 < xs) ∨ (1 ≤ xs ∧ xs ≤ 3) from by omega) with h1 | ⟨h1, h2⟩ | ⟨h1, h2⟩
                · have HBAD := hid (show ¬ GlOk vs gl (k + 1) from fun hh => by have := (hh k _ (by omega) HX.out).2.1; simp only at this; omega)
                  go_wp2_with fail
                  rw [← HW.out, ← HGe.out]
                  refine K.out.mono ?_
                  rintro e w5 ⟨rfl, hb5⟩
                  have g1 := (HZZ.out.2.next hb5).cell 1
                  have HB5 := hid (bthen HZZ.out.1.bel hb5)
                  clear hb5
                  go_wp2_with fail
                  go_ret2
                  exact .inl ⟨RGood.no2 HBAD.out hlt, rfl, HB5.out⟩
                · have HBAD := hid (show ¬ GlOk vs gl (k + 1) from fun hh => by have := (hh k _ (by omega) HX.out).2.1; simp only at this; omega)
                  have d1 : decide (xs < 1) = false := decide_eq_false (by omega)
                  go_wp2_with fail
                  rw [← HW.out, ← HGe.out]
                  refine K.out.mono ?_
                  rintro e w5 ⟨rfl, hb5⟩
                  have g1 := (HZZ.out.2.next hb5).cell 1
                  have HB5 := hid (bthen HZZ.out.1.bel hb5)
                  clear hb5
                  go_wp2_with fail
                  go_ret2
                  exact .inl ⟨RGood.no2 HBAD.out hlt, rfl, HB5.out⟩
                · as_aux_lemma => --@4
                  have d1 : decide (xs < 1) = false := decide_eq_false (by omega)
                  have d2 : decide (3 < xs) = false := decide_eq_false (by omega)
                  have h4 : xl.length ≤ 4 := HF0.out.1.1.2.2
                  have hp1 : 1 ≤ xl.length := HF0.out.1.1.2.1
                  obtain ⟨ab, aoff, rfl⟩ : ∃ ab aoff, xA = some ⟨ab, aoff, none⟩ := by
                    rcases HXR.out with h0 | ⟨b, off, hA, _, _⟩
                    · have := length_flatMap_const enL 2 enL_len xl
                      rw [h0] at this
                      simp at this
                      omega
                    · exact ⟨b, off, hA⟩
                  go_wp2_with fail
                  rw [← HW.out, ← HGe.out]
                  refine K.out.mono ?_
                  rintro e w5 ⟨rfl, hb5⟩
                  have hG5 := HZZ.out.2.next hb5
                  have g1 : w5.cell? ⟨G, 1, none⟩ = some (.int .i64 xs) := hG5.cell 1
                  have H6 := hid (HZZ.out.1.next hb5)
                  have HG5 := hid hG5
                  clear hb5 K HZZ q0 q1 q2 hG5
                  go_wp2_with fail
                  clear g1
                  have g0 : w5.cell? ⟨G, 0, none⟩ = some (.int .i64 xo) := HG5.out.cell 0
                  have g1 : w5.cell? ⟨G, 1, none⟩ = some (.int .i64 xs) := HG5.out.cell 1
                  have g2 : w5.cell? ⟨G, 2, none⟩ = some (.slice (some ⟨ab, aoff, none⟩) xl.length xc) := HG5.out.cell 2
                  have c0 : w5.cell? ⟨X, 1, none⟩ = some (.map (some BG)) := H6.out.b1.cellG
                  have lX : X < w5.heap.size := H6.out.b1.blk.lt
                  have hb6d : Below w5.heap.size w5 w5.drew := below_drewN (Below.refl _ _) 1
                  have KC := hid (clone_some xl ab aoff xc w5.drew ((HXR.out.below H6.out.bel).below (below_drewN (Below.refl _ _) 1)) (by omega))
                  unfold NewRowOf at KC
                  have HNONE := hid (errF_zero HE0.out).2.2
                  go_region_held3 (fun w' => w'.cell? ⟨X, 1, none⟩ = some (.map (some BG)) ∧ w'.cell? ⟨G, 0, none⟩ = some (.int .i64 xo) ∧ w'.cell? ⟨G, 1, none⟩ = some (.int .i64 xs) ∧ w'.cell? ⟨G, 2, none⟩ = some (.slice (some ⟨ab, aoff, none⟩) xl.length xc)) (first | exact ⟨c0, g0, g1, g2⟩ | exact c7 | exact c8 | exact c9)
                    (first
                      | (go_at_call 28; refine KC.out.mono ?_; rintro e w7 ⟨A7, cp7, rfl, hO7, hb7'⟩
                         obtain ⟨g7, cq7, e7, _, _⟩ := own_form hO7 (by omega)
                         injection e7 with e8 e9 e10
                         subst e8 e10
                         have hb7 := bthen hb6d hb7'
                         have hI7 := H6.out.next hb7
                         have hG7 := HG5.out.next hb7
                         have c7 : w7.cell? ⟨X, 1, none⟩ = some (.map (some BG)) ∧ w7.cell? ⟨G, 0, none⟩ = some (.int .i64 xo) ∧ w7.cell? ⟨G, 1, none⟩ = some (.int .i64 xs) ∧ w7.cell? ⟨G, 2, none⟩ = some (.slice (some ⟨ab, aoff, none⟩) xl.length xc) := ⟨hI7.b1.cellG, hG7.cell 0, hG7.cell 1, hG7.cell 2⟩
                         have hba : Below w7.heap.size w7 (w7.alloc (.cells (enG ⟨w7.heap.size, xo, xs, g7, cp7, xl⟩) 45)) := (Below.refl _ _).alloc (Nat.le_refl _) _
                         have hI8 := hI7.next hba
                         have hG8 := hG7.next hba
                         have c8 : (w7.alloc (.cells (enG ⟨w7.heap.size, xo, xs, g7, cp7, xl⟩) 45)).cell? ⟨X, 1, none⟩ = some (.map (some BG)) ∧ (w7.alloc (.cells (enG ⟨w7.heap.size, xo, xs, g7, cp7, xl⟩) 45)).cell? ⟨G, 0, none⟩ = some (.int .i64 xo) ∧ (w7.alloc (.cells (enG ⟨w7.heap.size, xo, xs, g7, cp7, xl⟩) 45)).cell? ⟨G, 1, none⟩ = some (.int .i64 xs) ∧ (w7.alloc (.cells (enG ⟨w7.heap.size, xo, xs, g7, cp7, xl⟩) 45)).cell? ⟨G, 2, none⟩ = some (.slice (some ⟨ab, aoff, none⟩) xl.length xc) := ⟨hI8.b1.cellG, hG8.cell 0, hG8.cell 1, hG8.cell 2⟩
                         obtain ⟨w9, hrun, hM9, hg9, hs9⟩ := hI8.b1.gds.store (P := Try.prog) (mt := 72) (et := 79) keyL Try.underlying72 xo (⟨w7.heap.size, xo, xs, g7, cp7, xl⟩ : Gd)
                         simp only [vGd, kI, enG] at hrun c8
                         have hO8 := hO7.kept (grown_of_below hba none) (by cases hv : (Value.slice (some ⟨g7, 0, none⟩) xl.length cp7).ownBlock <;> simp)
                         have hw7 : w.heap.size ≤ w7.heap.size := Nat.le_trans H6.out.bel.size hb7.size
                         have hI9 := hI8.b1.addG (d := ⟨w7.heap.size, xo, xs, g7, cp7, xl⟩) HNONE.out (Blk.new _ _ _) (fun p hp e => by have := (hI7.b1.gc p hp).lt; simp only at e; rw [e] at this; exact absurd this (Nat.lt_irrefl _)) hw7 (own_rd hO8) (Nat.le_trans (Nat.le_trans H6.out.bel.size hb6d.size) (hO7.lt g7 rfl).1) (rowBlk15 hO8 rfl) hM9 hg9
                         have hG9 := (Touch.of_grown hg9).blk hG8 (fun e => hI8.b1.gds.notBlk hG8 e.symm)
                         have c9 : w9.cell? ⟨X, 1, none⟩ = some (.map (some BG)) ∧ w9.cell? ⟨G, 0, none⟩ = some (.int .i64 xo) ∧ w9.cell? ⟨G, 1, none⟩ = some (.int .i64 xs) ∧ w9.cell? ⟨G, 2, none⟩ = some (.slice (some ⟨ab, aoff, none⟩) xl.length xc) := ⟨hI9.cellG, hG9.cell 0, hG9.cell 1, hG9.cell 2⟩
                         have HF := hid (And.intro (hI8.more1 hI9 hg9) hG9)
                         clear hO7 hb7 hb7' hba hI7 hI8 hM9 hg9 hs9 hO8 hI9 hG7 hG8 hG9))
                  all_goals
                    clear KC hrun c7 c8 c9 c0 hb6d g0 g1 g2
                    obtain ⟨d, hd⟩ : ∃ d, d = (⟨w7.heap.size, xo, xs, g7, cp7, xl⟩ : Gd) := ⟨_, rfl⟩
                    rw [← hd] at HF
                    have HD := hid (show d.o = xo ∧ d.st = xs ∧ d.ls = xl from by rw [hd]; exact ⟨rfl, rfl, rfl⟩)
                    have g2 : w9.cell? ⟨G, 2, none⟩ = some (.slice (some ⟨ab, aoff, none⟩) xl.length xc) := HF.out.2.cell 2
                    clear hd
                    go_wp2_with fail
                    go_loopw [128] (fun i wr => ∃ (j : Nat) (sm : List (Int × Lv)), j ≤ xl.length ∧ i = .int .i64 j ∧ Hid (sm.map (·.1) = vs.map Lv.i ∧ SumI sm gs xs (xl.take j)) ∧ R2 w n1 X BL BG lv (mset gs xo d) Y YL YG sm wr ∧ Blk wr G 45 #[.int .i64 xo, .int .i64 xs, .slice (some ⟨ab, aoff, none⟩) xl.length xc]) (fun i _ => xl.length - nOf i)
                    case atStart => exact ⟨0, sm, Nat.zero_le _, rfl, hid ⟨hZ.out.2.2.1, hZ.out.2.2.2.any xs⟩, HF.out.1, HF.out.2⟩
                    case round =>
                      clear HF g2
                      obtain ⟨j, sm', hj, rfl, hS, hR, hG⟩ := hrel
                      by_cases hjl : j < xl.length
                      · as_aux_lemma => --@5
                        obtain ⟨y, hy⟩ : ∃ y, xl[j]? = some y := ⟨xl[j], List.getElem?_eq_getElem hjl⟩
                        obtain ⟨b2, off2, e2, hbs, hcc⟩ := (HXR.out.below hR.bel).at_ 2 enL_len (by omega) hy
                        injection e2 with e2; injection e2 with e2 e3
                        subst e2 e3
                        have hmem := List.mem_of_getElem? hy
                        obtain ⟨a, ha⟩ := mget_key (hS.out.1 ▸ HF0.out.2.1 y hmem)
                        have hyq := HF0.out.1.2 j y hy
                        have HBDS := hid (hS.out.2.bd (gs_fit hZ.out.1 hZ.out.2.1) (gs_few hZ.out.2.1 hl2) ha (qOf_take HF0.out.1.2 j y.i))
                        have HST := hid (hS.out.2.step ha)
                        have htk : xl.take j ++ [y] = xl.take (j + 1) := by rw [List.take_add_one, hy]; rfl
                        rw [htk] at HST
                        have HYQ := hid (And.intro hyq.1 hyq.2.1)
                        have hkeys : (mset sm' y.i (addS xs a y.q)).map (·.1) = vs.map Lv.i := by rw [mset_keys, if_pos (mget_isSome.1 (by rw [ha]; rfl))]; exact hS.out.1
                        obtain ⟨yi, yq⟩ := y
                        have q0 : wr.cell? ⟨ab, aoff + j * 2, none⟩ = some (.int .i64 yi) := hcc 0 _ rfl
                        have q1 : wr.cell? ⟨ab, aoff + j * 2 + 1, none⟩ = some (.int .i64 yq) := hcc 1 _ rfl
                        have hwb : Below wr.heap.size wr (wr.alloc (.cells #[.int .i64 yi, .int .i64 yq] 33)) := (Below.refl _ _).alloc (Nat.le_refl _) _
                        have hLB := Blk.new wr 33 #[.int .i64 yi, .int .i64 yq]
                        obtain ⟨wz, hwz⟩ : ∃ wz, wz = wr.alloc (.cells #[.int .i64 yi, .int .i64 yq] 33) := ⟨_, rfl⟩
                        obtain ⟨L, hLe⟩ : ∃ L, L = wr.heap.size := ⟨_, rfl⟩
                        have HW2 := hid hwz
                        have HLe := hid hLe
                        have hz := hR.next hwb
                        have hGz := hG.next hwb
                        rw [← hwz] at hLB hz hGz
                        rw [← hLe] at hLB
                        obtain ⟨C, hCd⟩ : ∃ C : World → Prop, ∀ w', C w' ↔ Below wz.heap.size wz w' := ⟨_, fun _ => Iff.rfl⟩
                        have hC : C wz.drew := (hCd _).2 ((Below.refl _ _).drew)
                        have g0 : ∀ p : In C, p.w.cell? ⟨L, 0, none⟩ = some (.int .i64 yi) := fun p => (hLB.next ((hCd _).1 p.h)).cell 0
                        have c0 : ∀ p : In C, p.w.cell? ⟨Y, 0, none⟩ = some (.map (some YL)) := fun p => (hz.next ((hCd _).1 p.h)).b2.cellL
                        have l0 : ∀ p : In C, (Instr.lookup 71 (.map (some YL)) (.int .i64 yi) false).run Try.prog p.w = .ok (.pointer (some ⟨a.g, 0, none⟩)) p.w := fun p => by
                          have := (hz.next ((hCd _).1 p.h)).b2.lookL yi
                          rw [show ptrL sm' yi = some ⟨a.g, 0, none⟩ from by unfold ptrL; rw [ha]; rfl] at this
                          exact this
                        have HCd := hid hCd
                        have HZ2 := hid (And.intro hz (And.intro hLB hGz))
                        have HA := hid ha
                        have HKEYS := hid hkeys
                        clear hcc hbs hy hwb hwz hLe hz hLB hGz hCd hR hG hmem hyq htk hkeys ha
                        go_wp2_with fail
                        rw [← HW2.out, ← HLe.out]
                        refine wp_region_in C (by kernel_rfl) (by kernel_rfl) hC ?_
                        intro hne
                        clear hC
                        repeat (first | go_big_quiet_step (fail) | quiet_step (fail))
                        refine wpQuiet_nil ?_
                        intro wq hq
                        have hb := (HCd.out _).1 hq
                        clear g0 c0 l0 hne hq HCd
                        have HQ := hid (And.intro (HZ2.out.1.next hb) (And.intro (HZ2.out.2.1.next hb) (HZ2.out.2.2.next hb)))
                        clear hb HZ2
                        obtain ⟨hq, hLq, hGq⟩ := HQ.out
                        have g1 : wq.cell? ⟨G, 1, none⟩ = some (.int .i64 xs) := hGq.cell 1
                        have p1 : wq.cell? ⟨L, 1, none⟩ = some (.int .i64 yq) := hLq.cell 1
                        have hA := hq.b2.atL HA.out
                        have r3 : wq.cell? ⟨a.g, 3, none⟩ = some (.int .i64 a.a) := hA.cell 3
                        have r4 : wq.cell? ⟨a.g, 4, none⟩ = some (.int .i64 a.s) := hA.cell 4
                        have r5 : wq.cell? ⟨a.g, 5, none⟩ = some (.int .i64 a.t) := hA.cell 5
                        have f3 := hA.free 3
                        have f4 := hA.free 4
                        have f5 := hA.free 5
                        have la : a.g < wq.heap.size := hA.lt
                        have lL : L < wq.heap.size := hLq.lt
                        have hbd := HBDS.out
                        have hyb := HYQ.out
                        have w3 : IntKind.i64.wrap (a.a + yq) = a.a + yq := IntWalk.i64_in _ ⟨by omega, by omega⟩
                        have w4 : IntKind.i64.wrap (a.s + yq) = a.s + yq := IntWalk.i64_in _ ⟨by omega, by omega⟩
                        have w5 : IntKind.i64.wrap (a.t + yq) = a.t + yq := IntWalk.i64_in _ ⟨by omega, by omega⟩
                        have hb1d : Below wq.heap.size wq wq.drew := below_drewN (Below.refl _ _) 1
                        have hqd := hq.next hb1d
                        have hAd := hqd.b2.atL HA.out
                        have hGd := hGq.next hb1d
                        have hLd := hLq.next hb1d
                        clear hbd hyb q0 q1 hb1d
                        rcases (show xs = 1 ∨ xs = 2 ∨ xs = 3 from by omega) with rfl | rfl | rfl
                        · have hn := hid (hqd.put2 (a' := addS 1 a yq) HA.out rfl (Touch.setCell wq.drew a.g 3 (.int .i64 (a.a + yq))) (by simpa [enV, addS] using hAd.set_ 3 (.int .i64 (a.a + yq))))
                          have hgn := hid ((Touch.setCell wq.drew a.g 3 (.int .i64 (a.a + yq))).blk hGd (hGd.ne_ hAd (by decide)))
                          clear hq hLq hGq hA hqd hAd hGd hLd HQ
                          go_wp2_with fail
                          refine wp_tail 9 (by kernel_rfl) (by kernel_rfl) ?_
                          simp only [List.take_succ_cons, List.take_zero, List.drop_succ_cons, List.drop_zero]
                          repeat still_step
                          refine wpStill_nil ?_
                          go_wp2_with fail
                          go_roundw
                          case rel => exact ⟨j + 1, _, by omega, by go_num, hid ⟨HKEYS.out, HST.out⟩, hn.out, hgn.out⟩
                          case measure => simp [nOf]; omega
                        · have hn := hid (hqd.put2 (a' := addS 2 a yq) HA.out rfl (Touch.setCell wq.drew a.g 4 (.int .i64 (a.s + yq))) (by simpa [enV, addS] using hAd.set_ 4 (.int .i64 (a.s + yq))))
                          have hgn := hid ((Touch.setCell wq.drew a.g 4 (.int .i64 (a.s + yq))).blk hGd (hGd.ne_ hAd (by decide)))
                          clear hq hLq hGq hA hqd hAd hGd hLd HQ
                          go_wp2_with fail
                          refine wp_tail 9 (by kernel_rfl) (by kernel_rfl) ?_
                          simp only [List.take_succ_cons, List.take_zero, List.drop_succ_cons, List.drop_zero]
                          repeat still_step
                          refine wpStill_nil ?_
                          go_wp2_with fail
                          go_roundw
                          case rel => exact ⟨j + 1, _, by omega, by go_num, hid ⟨HKEYS.out, HST.out⟩, hn.out, hgn.out⟩
                          case measure => simp [nOf]; omega
                        · obtain ⟨wy, hwy⟩ : ∃ wy, wy = (wq.setCell ⟨a.g, 5, none⟩ (.int .i64 (a.t + yq))).drew := ⟨_, rfl⟩
                          have hwy2 : wy = wq.drew.setCell ⟨a.g, 5, none⟩ (.int .i64 (a.t + yq)) := by rw [hwy]; first | rfl | simp
                          have hT1 : Touch (· = a.g) wq.drew wy := by rw [hwy2]; exact Touch.setCell _ _ _ _
                          have hA1 : Blk wy a.g 38 #[.int .i64 a.i, .int .i64 a.r, .int .i64 a.h, .int .i64 a.a, .int .i64 a.s, .int .i64 (a.t + yq)] := by rw [hwy2]; simpa [enV] using hAd.set_ 5 (.int .i64 (a.t + yq))
                          have hL1 := hT1.blk hLd (hLd.ne_ hAd (by decide))
                          have hbyd : Below wy.heap.size wy wy.drew := below_drewN (Below.refl _ _) 1
                          have hT2 : Touch (· = a.g) wq.drew (wy.drew.setCell ⟨a.g, 4, none⟩ (.int .i64 (a.s + yq))) := hT1.drew.then (Touch.setCell _ _ _ _)
                          have hn := hid (hqd.put2 (a' := addS 3 a yq) HA.out rfl hT2 (by simpa [enV, addS] using (hA1.next hbyd).set_ 4 (.int .i64 (a.s + yq))))
                          have hgn := hid (hT2.blk hGd (hGd.ne_ hAd (by decide)))
                          have HW5 := hid hwy
                          have HA1 := hid (And.intro hA1 hL1)
                          clear hq hLq hGq hA hqd hAd hGd hLd HQ hT1 hA1 hL1 hbyd hT2 hwy hwy2
                          go_wp2_with fail
                          refine wp_tail 9 (by kernel_rfl) (by kernel_rfl) ?_
                          simp only [List.take_succ_cons, List.take_zero, List.drop_succ_cons, List.drop_zero]
                          repeat still_step
                          refine wpStill_nil ?_
                          go_wp2_with fail
                          rw [← HW5.out]
                          clear r3 r4 r5 f3 f4 f5 p1 la lL
                          have p1 : wy.cell? ⟨L, 1, none⟩ = some (.int .i64 yq) := HA1.out.2.cell 1
                          have r4 : wy.cell? ⟨a.g, 4, none⟩ = some (.int .i64 a.s) := HA1.out.1.cell 4
                          have f4 := HA1.out.1.free 4
                          have la : a.g < wy.heap.size := HA1.out.1.lt
                          have lL : L < wy.heap.size := HA1.out.2.lt
                          refine wp_tail 9 (by kernel_rfl) (by kernel_rfl) ?_
                          simp only [List.take_succ_cons, List.take_zero, List.drop_succ_cons, List.drop_zero]
                          repeat still_step
                          refine wpStill_nil ?_
                          go_wp2_with fail
                          go_roundw
                          case rel => exact ⟨j + 1, _, by omega, by go_num, hid ⟨HKEYS.out, HST.out⟩, hn.out, hgn.out⟩
                          case measure => simp [nOf]; omega
                        --@5e
                      · as_aux_lemma => --@6
                        have hj' : j = xl.length := by omega
                        subst hj'
                        have HN := hid (show GlOk vs gl (k + 1) ∧ GsI (gl.take (k + 1)) (mset gs xo d) ∧ sm'.map (·.1) = vs.map Lv.i ∧ SumI sm' (mset gs xo d) 1 [] from by
                          refine ⟨hZ.out.1.more HX.out ⟨HF0.out.1, ⟨h1, h2⟩, HF0.out.2.1, HF0.out.2.2⟩, ?_, hS.out.1, ?_⟩
                          · rw [List.take_add_one, HX.out]
                            exact hZ.out.2.1.more (x := ⟨xo, xs, some ⟨ab, aoff, none⟩, xc, xl⟩) HNONE.out HD.out.1 HD.out.2.1 HD.out.2.2
                          · have := hS.out.2
                            rw [List.take_length] at this
                            exact this.done HNONE.out HD.out.2 ⟨h1, h2⟩)
                        have HRR := hid hR
                        clear hj hjl hS hR hG
                        go_wp2_with fail
                        go_roundw
                        case rel => exact ⟨k + 1, _, sm', by omega, by go_num, HN, HRR.out⟩
                        case measure => simp [nOf]; omega
                        --@6e
                  --@4e
              · have HBAD := hid (show ¬ GlOk vs gl (k + 1) from fun hh => by have := hh k _ (by omega) HX.out; exact hz0 (HFI.out.2 ⟨this.1, this.2.2.1, this.2.2.2⟩))
                have hzb : (errF lv gs xo xl != 0) = true := by simpa using hz0
                clear hz0 HFI
                generalize errF lv gs xo xl = z at K hzb
                go_wp2_with fail
                rw [← HW.out, ← HGe.out]
                refine K.out.mono ?_
                rintro e w5 ⟨rfl, hb5⟩
                have HB5 := hid (bthen HZZ.out.1.bel hb5)
                clear hb5
                go_wp2_with fail
                go_ret2
                exact .inl ⟨RGood.no2 HBAD.out hlt, rfl, HB5.out⟩
              --@3e
            · as_aux_lemma => --@7
              have hk' : k = gl.length := by omega
              subst hk'
              have HG3 := hid (show GlOk vs gl gl.length ∧ GsI gl gs ∧ sm.map (·.1) = vs.map Lv.i ∧ SumI sm gs 1 [] from by
                have := hZ.out
                rw [List.take_length] at this
                exact this)
              have HRR := hid hR
              have HLF := hid (show LvF vs 0 lv from ⟨HK1.out, fun j v hj => by omega⟩)
              clear hk hlt hZ hR
              go_wp2_with fail
              go_loopw [178] (fun i wr => ∃ (k : Nat) (lv : List (Int × Lv)), k ≤ vs.length ∧ i = .int .i64 k ∧ Hid (LvF vs k lv ∧ ∀ j v, j < k → vs[j]? = some v → v.a = sqA 1 gl v.i ∧ v.s = sqA 2 gl v.i + sqA 3 gl v.i ∧ v.t = sqA 3 gl v.i) ∧ R2 w n1 X BL BG lv gs Y YL YG sm wr) (fun i _ => vs.length - nOf i)
              case atStart => exact ⟨0, lv, Nat.zero_le _, rfl, hid ⟨HLF.out, fun j v hj => by omega⟩, HRR.out⟩
              case round =>
                clear HRR HLF
                obtain ⟨k, lv, hk, rfl, hZ, hR⟩ := hrel
                by_cases hlt : k < vs.length
                · as_aux_lemma => --@8
                  obtain ⟨v, hv⟩ : ∃ v, vs[k]? = some v := ⟨vs[k], List.getElem?_eq_getElem hlt⟩
                  obtain ⟨b, off, rfl, hbs, hcc⟩ := (hR1.below hR.bel).at_ 6 enV6_len (by omega) hv
                  have hkin : v.i ∈ vs.map Lv.i := List.mem_map.2 ⟨v, List.mem_of_getElem? hv, rfl⟩
                  obtain ⟨a, ha⟩ := mget_key (HG3.out.2.2.1.symm ▸ hkin)
                  obtain ⟨c, hc⟩ := mget_key (hZ.out.1.1.symm ▸ hkin)
                  have HSM := hid (show a.a = sqA 1 gl v.i ∧ a.s = sqA 2 gl v.i + sqA 3 gl v.i ∧ a.t = sqA 3 gl v.i from by
                    have := HG3.out.2.2.2 v.i a ha
                    rw [HG3.out.2.1.sq, HG3.out.2.1.sq, HG3.out.2.1.sq] at this
                    simpa [qOf] using this)
                  have HV := hid hv
                  have HMEM := hid (List.mem_of_getElem? hv)
                  obtain ⟨vg, vi, vr, vh, va, vv, vt⟩ := v
                  obtain ⟨ag, ai, ar, ah, aa, av, at'⟩ := a
                  have q0 : wr.cell? ⟨b, off + k * 6, none⟩ = some (.int .i64 vi) := hcc 0 _ rfl
                  have q1 : wr.cell? ⟨b, off + k * 6 + 1, none⟩ = some (.int .i64 vr) := hcc 1 _ rfl
                  have q2 : wr.cell? ⟨b, off + k * 6 + 2, none⟩ = some (.int .i64 vh) := hcc 2 _ rfl
                  have q3 : wr.cell? ⟨b, off + k * 6 + 3, none⟩ = some (.int .i64 va) := hcc 3 _ rfl
                  have q4 : wr.cell? ⟨b, off + k * 6 + 4, none⟩ = some (.int .i64 vv) := hcc 4 _ rfl
                  have q5 : wr.cell? ⟨b, off + k * 6 + 5, none⟩ = some (.int .i64 vt) := hcc 5 _ rfl
                  have hwb : Below wr.heap.size wr (wr.alloc (.cells #[.int .i64 vi, .int .i64 vr, .int .i64 vh, .int .i64 va, .int .i64 vv, .int .i64 vt] 38)) := (Below.refl _ _).alloc (Nat.le_refl _) _
                  have hLB := Blk.new wr 38 #[.int .i64 vi, .int .i64 vr, .int .i64 vh, .int .i64 va, .int .i64 vv, .int .i64 vt]
                  have hz := hR.next hwb
                  obtain ⟨wz, hwz⟩ : ∃ wz, wz = wr.alloc (.cells #[.int .i64 vi, .int .i64 vr, .int .i64 vh, .int .i64 va, .int .i64 vv, .int .i64 vt] 38) := ⟨_, rfl⟩
                  obtain ⟨L, hLe⟩ : ∃ L, L = wr.heap.size := ⟨_, rfl⟩
                  have HW := hid hwz
                  have HLe := hid hLe
                  rw [← hwz] at hLB hz
                  rw [← hLe] at hLB
                  have hA := fun w' (hb : Below wz.heap.size wz w') => (hz.next hb).b2.atL ha
                  obtain ⟨C, hCd⟩ : ∃ C : World → Prop, ∀ w', C w' ↔ Below wz.heap.size wz w' := ⟨_, fun _ => Iff.rfl⟩
                  have hC : C wz.drew := (hCd _).2 ((Below.refl _ _).drew)
                  have g0 : ∀ p : In C, p.w.cell? ⟨L, 0, none⟩ = some (.int .i64 vi) := fun p => (hLB.next ((hCd _).1 p.h)).cell 0
                  have g3 : ∀ p : In C, p.w.cell? ⟨L, 3, none⟩ = some (.int .i64 va) := fun p => (hLB.next ((hCd _).1 p.h)).cell 3
                  have g4 : ∀ p : In C, p.w.cell? ⟨L, 4, none⟩ = some (.int .i64 vv) := fun p => (hLB.next ((hCd _).1 p.h)).cell 4
                  have g5 : ∀ p : In C, p.w.cell? ⟨L, 5, none⟩ = some (.int .i64 vt) := fun p => (hLB.next ((hCd _).1 p.h)).cell 5
                  have a3 : ∀ p : In C, p.w.cell? ⟨ag, 3, none⟩ = some (.int .i64 aa) := fun p => (hA _ ((hCd _).1 p.h)).cell 3
                  have a4 : ∀ p : In C, p.w.cell? ⟨ag, 4, none⟩ = some (.int .i64 av) := fun p => (hA _ ((hCd _).1 p.h)).cell 4
                  have a5 : ∀ p : In C, p.w.cell? ⟨ag, 5, none⟩ = some (.int .i64 at') := fun p => (hA _ ((hCd _).1 p.h)).cell 5
                  have c0 : ∀ p : In C, p.w.cell? ⟨Y, 0, none⟩ = some (.map (some YL)) := fun p => (hz.next ((hCd _).1 p.h)).b2.cellL
                  have l0 : ∀ p : In C, (Instr.lookup 71 (.map (some YL)) (.int .i64 vi) false).run Try.prog p.w = .ok (.pointer (some ⟨ag, 0, none⟩)) p.w := fun p => by
                    have := (hz.next ((hCd _).1 p.h)).b2.lookL vi
                    rw [show ptrL sm vi = some ⟨ag, 0, none⟩ from by unfold ptrL; rw [ha]; rfl] at this
                    exact this
                  have HCd := hid hCd
                  have HZ2 := hid (And.intro hz hLB)
                  have HC := hid hc
                  have HLV := hid hZ
                  clear hcc hbs hv hwb hwz hLe hz hLB hCd hR ha hc hkin hA hZ
                  go_wp2_with fail
                  rw [← HW.out, ← HLe.out]
                  refine wp_region_in C (by kernel_rfl) (by kernel_rfl) hC ?_
                  intro hne
                  clear hC
                  repeat (first | go_big_quiet_step (fail) | quiet_step (fail))
                  refine wpQuiet_nil ?_
                  intro wq hq
                  have hC : C wq.drew := (HCd.out _).2 (((HCd.out _).1 hq).drew)
                  clear c0 l0 g0 hq q0 q1 q2 q3 q4 q5
                  by_cases hgd : aa = va ∧ av = vv ∧ at' = vt
                  · as_aux_lemma => --@9
                    have t1 : (aa != va) = false := by simpa using hgd.1
                    have t2 : (av != vv) = false := by simpa using hgd.2.1
                    have t3 : (at' != vt) = false := by simpa using hgd.2.2
                    have HGD := hid hgd
                    clear hgd
                    go_wp2_with fail
                    refine wp_region_in C (by kernel_rfl) (by kernel_rfl) hC ?_
                    clear hne
                    intro hne
                    clear hC
                    repeat (first | go_big_quiet_step (fail) | quiet_step (fail))
                    refine wpQuiet_nil ?_
                    intro wy hy
                    have HY := hid (And.intro (HZ2.out.1.next ((HCd.out _).1 hy)) (HZ2.out.2.next ((HCd.out _).1 hy)))
                    clear g3 g4 g5 a3 a4 a5 hne HCd hy HZ2
                    obtain ⟨hy, hLy⟩ := HY.out
                    have g0 : wy.cell? ⟨L, 0, none⟩ = some (.int .i64 vi) := hLy.cell 0
                    have g1 : wy.cell? ⟨L, 1, none⟩ = some (.int .i64 vr) := hLy.cell 1
                    have g2 : wy.cell? ⟨L, 2, none⟩ = some (.int .i64 vh) := hLy.cell 2
                    have g3 : wy.cell? ⟨L, 3, none⟩ = some (.int .i64 va) := hLy.cell 3
                    have g4 : wy.cell? ⟨L, 4, none⟩ = some (.int .i64 vv) := hLy.cell 4
                    have g5 : wy.cell? ⟨L, 5, none⟩ = some (.int .i64 vt) := hLy.cell 5
                    have c0 : wy.cell? ⟨X, 0, none⟩ = some (.map (some BL)) := hy.b1.cellL
                    have hb1d : Below wy.heap.size wy wy.drew := below_drewN (Below.refl _ _) 1
                    have hyd := hy.next hb1d
                    have hA := hy.b1.atL HC.out
                    have hAd := hyd.b1.atL HC.out
                    have l1 : (Instr.lookup 71 (.map (some BL)) (.int .i64 vi) false).run Try.prog wy.drew = .ok (.pointer (some ⟨c.g, 0, none⟩)) wy.drew := by
                      have := hyd.b1.lookL vi
                      rw [show ptrL lv vi = some ⟨c.g, 0, none⟩ from by unfold ptrL; rw [HC.out]; rfl] at this
                      exact this
                    have lc : c.g < wy.heap.size := hA.lt
                    have lL : L < wy.heap.size := hLy.lt
                    have lX : X < wy.heap.size := hy.b1.blk.lt
                    have hBB := Blk.setRow hAd #[.int .i64 vi, .int .i64 vr, .int .i64 vh, .int .i64 va, .int .i64 vv, .int .i64 vt]
                    have hT := Touch.setRow wy.drew c.g #[.int .i64 vi, .int .i64 vr, .int .i64 vh, .int .i64 va, .int .i64 vv, .int .i64 vt]
                    have HAD := hid hAd
                    have hn := hid (hyd.put1 (a' := ⟨c.g, vi, vr, vh, va, vv, vt⟩) HC.out rfl hT hBB)
                    have HN := hid (show LvF vs (k + 1) (mset lv vi ⟨c.g, vi, vr, vh, va, vv, vt⟩) ∧ ∀ j v, j < k + 1 → vs[j]? = some v → v.a = sqA 1 gl v.i ∧ v.s = sqA 2 gl v.i + sqA 3 gl v.i ∧ v.t = sqA 3 gl v.i from
                      ⟨HLV.out.out.1.more HOK.out HV.out HC.out hy.b1.lvs.nodup, fun j u hj hu => by
                        by_cases e : j = k
                        · subst e
                          rw [HV.out] at hu; injection hu with hu; subst hu
                          have h1 := HSM.out
                          obtain ⟨e1, e2, e3⟩ := HGD.out
                          simp only at h1 e1 e2 e3 ⊢
                          rw [← e1, ← e2, ← e3]
                          exact h1
                        · exact HLV.out.out.2 j u (by omega) hu⟩)
                    clear hy hLy hyd hA hAd hT hBB hb1d HY
                    go_wp2_with fail
                    refine wp_tail 9 (by kernel_rfl) (by kernel_rfl) ?_
                    simp only [List.take_succ_cons, List.take_zero, List.drop_succ_cons, List.drop_zero]
                    repeat still_step
                    refine wpStill_nil ?_
                    refine wpList_store_row rfl 38 _ _ rfl c.g #[.int .i64 vi, .int .i64 vr, .int .i64 vh, .int .i64 va, .int .i64 vv, .int .i64 vt] rfl rfl 38 _ HAD.out (by kernel_rfl) (by rfl) (by simp [Value.oneCell']) ?_
                    go_wp2_with fail
                    go_roundw
                    case rel => exact ⟨k + 1, _, by omega, by go_num, HN, hn.out⟩
                    case measure => simp [nOf]; omega
                    --@9e
                  · as_aux_lemma => --@10
                    have HBAD := hid (show ¬ RGood vs gl from fun hh => hgd (by
                      have h1 := hh.2.2 _ HMEM.out
                      have h2 := HSM.out
                      simp only at h1 h2
                      exact ⟨h2.1.trans h1.1.symm, h2.2.1.trans h1.2.1.symm, h2.2.2.trans h1.2.2.symm⟩))
                    obtain ⟨t1, t2, t3, ht1, ht2, ht3⟩ : ∃ t1 t2 t3 : Bool, (aa != va) = t1 ∧ (av != vv) = t2 ∧ (at' != vt) = t3 := ⟨_, _, _, rfl, rfl, rfl⟩
                    have hor : t1 = true ∨ (t1 = false ∧ t2 = true) ∨ (t1 = false ∧ t2 = false ∧ t3 = true) := by
                      subst ht1 ht2 ht3
                      simp only [bne_iff_ne, bne_eq_false_iff_eq]
                      by_cases e1 : aa = va
                      · by_cases e2 : av = vv
                        · exact .inr (.inr ⟨e1, e2, fun e3 => hgd ⟨e1, e2, e3⟩⟩)
                        · exact .inr (.inl ⟨e1, e2⟩)
                      · exact .inl e1
                    clear hgd
                    rcases hor with rfl | ⟨rfl, rfl⟩ | ⟨rfl, rfl, rfl⟩
                    all_goals
                      go_wp2_with fail
                      refine wp_region_in C (by kernel_rfl) (by kernel_rfl) hC ?_
                      clear hne
                      intro hne
                      clear hC
                      repeat (first | go_big_quiet_step (fail) | quiet_step (fail))
                      refine wpQuiet_nil ?_
                      intro wy hy
                      have HB5 := hid (bthen HZ2.out.1.bel ((HCd.out _).1 hy))
                      clear g3 g4 g5 a3 a4 a5 hne HCd hy HZ2
                      go_wp2_with fail
                      go_ret2
                      exact .inl ⟨HBAD.out, rfl, HB5.out⟩
                    --@10e
                  --@8e
                · have hk' : k = vs.length := by omega
                  subst hk'
                  have HGOOD := hid (show RGood vs gl from ⟨HOK.out, HG3.out.1, fun v hv => by
                    obtain ⟨j, hj⟩ := List.mem_iff_getElem?.1 hv
                    exact hZ.out.2 j v (List.getElem?_eq_some_iff.1 hj).1 hj⟩)
                  have HRR := hid hR
                  have HLF := hid hZ.out.1
                  clear hk hlt hZ hR
                  go_wp2_with fail
                  go_ret2
                  exact .inr ⟨HGOOD.out, X, BL, BG, lv, gs, rfl, HRR.out.b1, HLF.out, HG3.out.2.1, HRR.out.bel⟩
              --@7e
end

end Go.Proofs.Ythfaaimmfdidnaa
