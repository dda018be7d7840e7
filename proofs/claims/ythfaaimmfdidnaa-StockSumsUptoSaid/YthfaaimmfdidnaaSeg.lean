/-
  A region that draws its order, walked in segments: each segment's operations come up in any order, all of them ahead of what stands behind the segment; in a segment one operation may turn the world (two classes); between segments the world is known.
-/
import Derived.Test.YthfaaimmfdidnaaInTurn
namespace Go.Proofs.Ythfaaimmfdidnaa
open Go.RowKit
set_option linter.unusedVariables false

section
variable {P : Program} {ops : Array Oper} {md : Region.Mode} {CB : Bool → World → Prop} {m : Nat}

/-- The first k have come up. -/
def preA (ops : Array Oper) (k : Nat) : Array Bool := (Array.range ops.size).map (fun i => decide (i < k))
theorem preA_size (k : Nat) : (preA ops k).size = ops.size := by simp [preA]
theorem preA_get (k j : Nat) (hj : j < ops.size) : (preA ops k)[j]? = some (decide (j < k)) := by
  unfold preA
  simp [hj]
theorem preA_getD (k j : Nat) (hj : j < ops.size) (b : Bool) : (preA ops k).getD j b = decide (j < k) := by
  rw [Array.getD_eq_getD_getElem?, preA_get k j hj]
  rfl
theorem preA_out (k j : Nat) (hj : ops.size ≤ j) (b : Bool) : (preA ops k).getD j b = b := by
  rw [Array.getD_eq_getD_getElem?, Array.getElem?_eq_none (by rw [preA_size]; exact hj)]
  rfl
theorem preA_set (k : Nat) (hk : k < ops.size) : (preA ops k).setIfInBounds k true = preA ops (k + 1) := by
  apply Array.ext_getElem?
  intro j
  rcases Nat.lt_or_ge j ops.size with hj | hj
  · rw [preA_get (k + 1) j hj]
    by_cases e : k = j
    · subst e
      rw [Array.getElem?_setIfInBounds_self_of_lt (by rw [preA_size]; exact hk)]
      simp
    · rw [Array.getElem?_setIfInBounds_ne e, preA_get k j hj]
      congr 1
      rw [decide_eq_decide]
      omega
  · rw [Array.getElem?_eq_none (by simp [preA_size]; exact hj), Array.getElem?_eq_none (by rw [preA_size]; exact hj)]
theorem preA_zero : preA ops 0 = Array.replicate ops.size false := by
  apply Array.ext_getElem?
  intro j
  rcases Nat.lt_or_ge j ops.size with hj | hj
  · rw [preA_get 0 j hj]
    simp [hj]
  · rw [Array.getElem?_eq_none (by rw [preA_size]; exact hj), Array.getElem?_eq_none (by simpa using hj)]

def sinkS (md : Region.Mode) (ops : Array Oper) (k n : Nat) : Bool := (List.range n).all fun i => decide (i < k) || (List.range (n + 1)).any fun j => decide (i < j) && Region.waitsFor md ops j i
def treeB (md : Region.Mode) (ops : Array Oper) (n : Nat) : Bool := (List.range ops.size).all fun t => decide (t ≤ n) || (List.range t).any fun s => decide (n ≤ s) && Region.waitsFor md ops t s
def closedS (md : Region.Mode) (ops : Array Oper) (k : Nat) : Bool := (List.range k).all fun j => match ops[j]? with | some oj => oj.after.all (fun e => !(Region.binds md e) || decide (e.on < k)) | none => true
def lexS (md : Region.Mode) (ops : Array Oper) : Nat → Nat → Bool
  | 0, _ => true
  | f + 1, k => (Region.ready md ops (preA ops k)).contains k && Region.free md ops (preA ops k) k && lexS md ops f (k + 1)
/-- May k .. n be walked as a segment? -/
def segB (md : Region.Mode) (ops : Array Oper) (k n : Nat) : Bool :=
  Region.noSelect ops && decide (k ≤ n) && decide (n ≤ ops.size) && (decide (n = ops.size) || (sinkS md ops k n && treeB md ops n)) && closedS md ops k && lexS md ops (n - k) k

theorem tail_waitsS {k n : Nat} {listed : Array Bool} (hs : n = ops.size ∨ (sinkS md ops k n = true ∧ treeB md ops n = true)) (inv : HeadInv md ops n listed) :
    ∀ (d i : Nat), n - i = d → k ≤ i → i < n → listed.getD i true = false → ∀ t, n ≤ t → t ∉ Region.ready md ops listed := by
  intro d
  induction d using Nat.strongRecOn with
  | _ d ih =>
    intro i hd hki hi hun t ht hr
    obtain ⟨_, ot, hot, hall⟩ := mem_ready.1 hr
    have htlt : t < ops.size := (Array.getElem?_eq_some_iff.1 hot).1
    rcases hs with hs | ⟨hs, hc⟩
    · omega
    by_cases htn : t = n
    · subst htn
      have h1 := List.all_eq_true.1 hs i (List.mem_range.2 hi)
      simp only [Bool.or_eq_true, decide_eq_true_eq] at h1
      rcases h1 with h1 | h1
      · omega
      obtain ⟨j, hj, hj2⟩ := List.any_eq_true.1 h1
      simp only [Bool.and_eq_true, decide_eq_true_eq] at hj2
      obtain ⟨oj, hoj, e, he, hb, hon⟩ := Region.waitsFor_spec hj2.2
      have hjle : j ≤ t := by have := List.mem_range.1 hj; omega
      by_cases hjt : j = t
      · subst hjt
        have : oj = ot := Option.some.inj (hoj.symm.trans hot)
        subst this
        have h2 := hall e he hb
        rw [hon, getD_both hun] at h2
        cases h2
      · cases hl : listed.getD j false with
        | true =>
          have h2 := inv.closed j oj hoj hl e he hb
          rw [hon, getD_both hun] at h2
          cases h2
        | false =>
          have hjs : j < listed.size := by rw [inv.size]; omega
          exact ih (t - j) (by omega) j rfl (by omega) (by omega) (getD_in hjs hl) t (Nat.le_refl _) hr
    · have h1 := List.all_eq_true.1 hc t (List.mem_range.2 htlt)
      simp only [Bool.or_eq_true, decide_eq_true_eq] at h1
      rcases h1 with h1 | h1
      · omega
      · obtain ⟨s, hs1, hs2⟩ := List.any_eq_true.1 h1
        simp only [Bool.and_eq_true, decide_eq_true_eq] at hs2
        obtain ⟨o', ho', e, he, hb, hon⟩ := Region.waitsFor_spec hs2.2
        have hst := List.mem_range.1 hs1
        have : o' = ot := Option.some.inj (ho'.symm.trans hot)
        subst this
        have h2 := hall e he hb
        rw [hon, getD_both (inv.tail s hs2.1 (by omega))] at h2
        cases h2

theorem anyT_firstS {k n i : Nat} {oi : Oper} {v : Value} {L : Array Bool → Act → Prop} (hi : ops[i]? = some oi) (hsel : ∀ (j : Nat) (o : Oper) cs b, ops[j]? = some o → o.op ≠ .select cs b)
    (hs : n = ops.size ∨ (sinkS md ops k n = true ∧ treeB md ops n = true)) (hki : k ≤ i) (hin : i < n) (hdone : ∀ listed a, L listed a → ∀ j ∈ Region.ready md ops listed, n ≤ j) :
    ∀ (f : Nat) (listed : Array Bool) (a : Act), HeadInv md ops n listed →
      (∀ j oj, ops[j]? = some oj → j ≠ i → listed.getD j true = false → (∀ e ∈ oj.after, Region.binds md e = true → e.on ≠ i) → oi.apart ops oj = true) →
      i ∈ Region.ready md ops listed → yldT P md ops CB m i oi v a → anyT P md ops CB m n L f (listed.setIfInBounds i true) (a.put oi.dst v) → anyT P md ops CB m n L (f + 1) listed a := by
  intro f
  induction f with
  | zero =>
    intro listed a inv _ hr hy H
    have hun := (mem_ready.1 hr).1
    refine ⟨fun h => (by rw [h] at hr; cases hr), fun j hj => ?_⟩
    have hjn : j < n := Nat.lt_of_not_le fun h => tail_waitsS hs inv _ i rfl hki hin hun j h hj
    by_cases hji : j = i
    · subst hji
      exact ⟨hjn, oi, v, hi, hy, H⟩
    · have := hdone _ _ H j (ready_mono hj hji)
      omega
  | succ f ih =>
    intro listed a inv hfree hr hy H
    have hun := (mem_ready.1 hr).1
    refine ⟨fun h => (by rw [h] at hr; cases hr), fun j hj => ?_⟩
    have hjn : j < n := Nat.lt_of_not_le fun h => tail_waitsS hs inv _ i rfl hki hin hun j h hj
    by_cases hji : j = i
    · subst hji
      exact ⟨hjn, oi, v, hi, hy, H⟩
    · obtain ⟨_, oj', vj, hoj, hyj, hrest⟩ := H.2 j (ready_mono hj hji)
      obtain ⟨hjun, oj, hoj2, hall⟩ := mem_ready.1 hj
      obtain rfl : oj' = oj := Option.some.inj (hoj.symm.trans hoj2)
      have hno : ∀ e ∈ oj'.after, Region.binds md e = true → e.on ≠ i := fun e he hb heq => by
        have h1 := hall e he hb
        rw [heq, getD_both hun] at h1
        cases h1
      obtain ⟨a1, a2, a3⟩ := Oper.apart_spec (hfree j oj' hoj hji hjun hno)
      have hyj' : yldT P md ops CB m j oj' vj a := by
        refine hyj.same ?_ ?_
        · rw [execOp_put oj' (fun cs b => hsel j oj' cs b hoj) a oi.dst v a1]
        · rw [wanted_put oj' a oi.dst v a1]
      have hyi' : yldT P md ops CB m i oi v (a.put oj'.dst vj) := by
        refine hy.same ?_ ?_
        · exact execOp_put oi (fun cs b => hsel i oi cs b hi) a oj'.dst vj a3
        · exact wanted_put oi a oj'.dst vj a3
      refine ⟨hjn, oj', vj, hoj, hyj', ih (listed.setIfInBounds j true) (a.put oj'.dst vj) (inv.set hj hjn) (fun k ok hk hki hun' hno' => ?_) (ready_mono hr (Ne.symm hji)) hyi' ?_⟩
      · refine hfree k ok hk hki ?_ hno'
        by_cases hjk : j = k
        · subst hjk; exact hjun
        · rw [getD_set_ne true hjk] at hun'; exact hun'
      · rw [Array.setIfInBounds_comm _ _ hji, ← Act.put_comm a v vj a2]
        exact hrest

theorem anyT_lexS {k0 n : Nat} {Lq : Act → Prop} (hsel : Region.noSelect ops = true) (hs : n = ops.size ∨ (sinkS md ops k0 n = true ∧ treeB md ops n = true)) (hn : n ≤ ops.size) :
    ∀ (l : List Oper) (k : Nat) (a : Act), (∀ j, j < l.length → l[j]? = ops[k + j]?) → k0 ≤ k → k + l.length = n → HeadInv md ops n (preA ops k) → lexS md ops l.length k = true → wpT P md ops CB m Lq k l a →
    anyT P md ops CB m n (fun listed' a' => listed' = preA ops n ∧ Lq a') l.length (preA ops k) a := by
  intro l
  induction l with
  | nil =>
    intro k a _ _ hk _ hB h
    obtain rfl : k = n := by simpa using hk
    exact ⟨rfl, h⟩
  | cons o l ih =>
    intro k a hl hk0 hk inv hB h
    have h0 : ops[k]? = some o := by simpa using (hl 0 (by simp)).symm
    simp only [List.length_cons, lexS, Bool.and_eq_true] at hB
    obtain ⟨⟨hr, hf⟩, hB'⟩ := hB
    have hkn : k < n := by simp only [List.length_cons] at hk; omega
    have hr' : k ∈ Region.ready md ops (preA ops k) := by simpa using hr
    obtain ⟨v, hy, hK⟩ := h
    have hset := preA_set (ops := ops) k (by omega)
    refine anyT_firstS h0 (Region.noSelect_spec hsel) hs hk0 hkn (fun listed' a' hL j hj => ?_) l.length _ a inv (Region.free_spec h0 hf) hr' hy ?_
    · obtain ⟨rfl, _⟩ := hL
      obtain ⟨hun, oj, hoj, _⟩ := mem_ready.1 hj
      rw [preA_getD n j (Array.getElem?_eq_some_iff.1 hoj).1] at hun
      simp at hun
      exact hun
    · rw [hset]
      exact ih (k + 1) _ (fun j hj => by have := hl (j + 1) (by simp; omega); simpa [Nat.add_assoc, Nat.add_comm 1 j] using this) (by omega) (by simp only [List.length_cons] at hk; omega) (hset ▸ inv.set hr' hkn) hB' hK

/-- The region, the first n of whose operations have come up. -/
def SegAt (P : Program) (ops : Array Oper) (Q' : Exit → Act → World → Prop) (n : Nat) (a : Act) (w : World) : Prop := wpAny P .any ops Q' (ops.size - n) (preA ops n) a w

theorem seg_start {id : Nat} {Q : Exit → Act → World → Prop} {a : Act} {w : World} {l : List Oper} (hm : P.follows .mixedOrders = true) (h : SegAt P l.toArray Q 0 a w.drew) : (Code.region id l.toArray true).wp P Q a w := by
  refine wp_region_any hm ?_
  unfold SegAt at h
  rw [preA_zero, Nat.sub_zero] at h
  exact h
theorem seg_end {Q : Exit → Act → World → Prop} {a : Act} {w : World} (hr : (Region.ready .any ops (preA ops ops.size)).isEmpty = true) (h : Q .normal a w) : SegAt P ops Q ops.size a w := by
  unfold SegAt
  rw [Nat.sub_self]
  exact ⟨by simpa using hr, h⟩
theorem headInv_pre {k n : Nat} (hkn : k ≤ n) (hk : k ≤ ops.size) (hc : closedS md ops k = true) : HeadInv md ops n (preA ops k) := by
  refine ⟨preA_size k, fun j oj hj hl e he hb => ?_, fun t ht hts => by rw [preA_getD k t hts]; exact decide_eq_false (by omega)⟩
  have hjs := (Array.getElem?_eq_some_iff.1 hj).1
  rw [preA_getD k j hjs] at hl
  have hjk : j < k := of_decide_eq_true hl
  have h1 := List.all_eq_true.1 hc j (List.mem_range.2 hjk)
  rw [hj] at h1
  have h2 := Array.all_eq_true'.1 h1 e he
  simp only [hb, Bool.not_true, Bool.false_or, decide_eq_true_eq] at h2
  rw [preA_getD k e.on (by omega)]
  exact decide_eq_true h2
/-- A segment. -/
theorem seg_turn {Q' : Exit → Act → World → Prop} {a : Act} {w : World} (CB : Bool → World → Prop) (m k n : Nat) (hkm : k ≤ m) (hB : segB .any ops k n = true) (hC : CB false w)
    (h : wpT P .any ops CB m (fun a' => ∀ w', CB (decide (m < n)) w' → SegAt P ops Q' n a' w') k ((ops.toList.drop k).take (n - k)) a) : SegAt P ops Q' k a w := by
  simp only [segB, Bool.and_eq_true, decide_eq_true_eq, Bool.or_eq_true] at hB
  obtain ⟨⟨⟨⟨⟨hsel, hkn⟩, hn⟩, hs⟩, hcl⟩, hlex⟩ := hB
  have hlen : ((ops.toList.drop k).take (n - k)).length = n - k := by simp; omega
  have inv0 := headInv_pre (n := n) hkn (by omega) hcl
  have H := anyT_lexS hsel hs hn _ k a (fun j hj => by
    rw [hlen] at hj
    rw [List.getElem?_take_of_lt hj, List.getElem?_drop, Array.getElem?_toList]) (Nat.le_refl _) (by rw [hlen]; omega) inv0 (by rw [hlen]; exact hlex) h
  rw [hlen] at H
  have hgm : (preA ops k).getD m false = false := by
    rcases Nat.lt_or_ge m ops.size with hm | hm
    · rw [preA_getD k m hm]; exact decide_eq_false (by omega)
    · exact preA_out k m hm false
  have := any_of_anyT (Q' := Q') (g := ops.size - n) (fun listed a' w' inv hCw hL => by
    obtain ⟨rfl, hL⟩ := hL
    refine hL w' ?_
    rcases Nat.lt_or_ge m ops.size with hm | hm
    · rw [preA_getD n m hm] at hCw; exact hCw
    · rw [preA_out n m hm] at hCw
      rw [decide_eq_false (by omega : ¬ m < n)]
      exact hCw) (n - k) (preA ops k) a w inv0 (by rw [hgm]; exact hC) H
  unfold SegAt
  rw [show ops.size - k = n - k + (ops.size - n) from by omega]
  exact this
theorem wpIn_to {C : World → Prop} {Q R : Act → Prop} (hQ : ∀ a, Q a → R a) : ∀ {l : List Oper} {a : Act}, wpIn P ops C Q l a → wpIn P ops C R l a := by
  intro l
  induction l with
  | nil => intro a h; exact hQ a h
  | cons o l ih => intro a h; obtain ⟨v, h1, h2⟩ := h; exact ⟨v, h1, ih h2⟩
/-- A segment in which no operation turns the world. -/
theorem wpT_of_in {C : World → Prop} {Q : Act → Prop} : ∀ (l : List Oper) (i : Nat) (a : Act), i + l.length ≤ m → wpIn P ops C Q l a → wpT P md ops (fun _ => C) m Q i l a := by
  intro l
  induction l with
  | nil => intro i a _ h; exact h
  | cons o l ih =>
    intro i a hi h
    simp only [List.length_cons] at hi
    obtain ⟨v, h1, h2⟩ := h
    refine ⟨v, ?_, ih (i + 1) _ (by omega) h2⟩
    rcases h1 with ⟨hw, h1⟩ | ⟨hw, h1⟩
    · exact .inl ⟨hw, by rw [if_neg (by omega)]; exact fun _ w _ hC => h1 w hC⟩
    · exact .inr ⟨by omega, hw, h1⟩
theorem seg_in {Q' : Exit → Act → World → Prop} {a : Act} {w : World} {l : List Oper} (C : World → Prop) (k n : Nat) (hB : segB .any l.toArray k n = true) (hC : C w)
    (h : Nonempty (In C) → wpQuiet P l.toArray (fun w' => ∃ p : In C, w' = p.w) (fun a' => ∀ w', C w' → SegAt P l.toArray Q' n a' w') ((l.drop k).take (n - k)) a) : SegAt P l.toArray Q' k a w := by
  have hn : n ≤ l.length ∧ k ≤ n := by
    simp only [segB, Bool.and_eq_true, decide_eq_true_eq] at hB
    have := hB.1.1.1.2
    simp at this
    exact ⟨this, hB.1.1.1.1.2⟩
  have h1 := h ⟨⟨w, hC⟩⟩
  have h2 := wpIn_of_quiet (P := P) (ops := l.toArray) (C := fun w' => ∃ p : In C, w' = p.w) (Q := fun a' => ∀ w', C w' → SegAt P l.toArray Q' n a' w') (r := []) _ a h1
  rw [List.append_nil] at h2
  refine seg_turn (fun _ w' => ∃ p : In C, w' = p.w) n k n hn.2 hB ⟨⟨w, hC⟩, rfl⟩ ?_
  refine wpT_of_in _ _ _ ?_ (wpIn_to (fun a' g w' ⟨p, hp⟩ => by subst hp; exact g _ p.h) h2)
  simp
  omega
/-- The segment, of a list. -/
theorem seg_turnL {Q' : Exit → Act → World → Prop} {a : Act} {w : World} {l : List Oper} (CB : Bool → World → Prop) (m k n : Nat) (hkm : k ≤ m) (hB : segB .any l.toArray k n = true) (hC : CB false w)
    (h : wpT P .any l.toArray CB m (fun a' => ∀ w', CB (decide (m < n)) w' → SegAt P l.toArray Q' n a' w') k ((l.drop k).take (n - k)) a) : SegAt P l.toArray Q' k a w := seg_turn CB m k n hkm hB hC h
/-- One operation that enters a function, alone. -/
theorem seg_enter {Q' : Exit → Act → World → Prop} {a : Act} {w : World} (n : Nat) {o : Oper} (ho : ops[n]? = some o) (hr : Region.ready .any ops (preA ops n) = [n]) (hw : Region.wanted o (yielded ops a.tmps) = true) {f : FuncId} {args : Array Value}
    (he : (execOp a.eval o).run P w = .ok (.enter f args) w) (hc : Calls P f args w fun e w' => ∃ v, e = .returned v ∧ SegAt P ops Q' (n + 1) (a.put o.dst v) w') : SegAt P ops Q' n a w := by
  have hns := (Array.getElem?_eq_some_iff.1 ho).1
  unfold SegAt
  rw [show ops.size - n = (ops.size - (n + 1)) + 1 from by omega]
  refine ⟨fun h0 => (by rw [hr] at h0; cases h0), fun i hi => ?_⟩
  rw [hr] at hi
  obtain rfl : i = n := by simpa using hi
  unfold wpOp
  simp only [ho, hw, if_true]
  left
  unfold Oper.wp
  rw [he]
  simp only [Oper.upon]
  refine hc.mono ?_
  rintro e w' ⟨v, rfl, h⟩
  rw [preA_set i hns]
  exact h
end

end Go.Proofs.Ythfaaimmfdidnaa
