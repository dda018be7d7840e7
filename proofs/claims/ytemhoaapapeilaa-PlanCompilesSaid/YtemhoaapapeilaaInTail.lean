/-
  A region that draws its order: reads, calls and writes that keep to a class of worlds, in whatever order; then what comes last, walked in every world of the class.
-/
import Derived.Test.YtemhoaapapeilaaIn
import Derived.StillTail
namespace Go.Proofs.Ytemhoaapapeilaa
open Go.RowKit
set_option linter.unusedVariables false

section
variable {P : Program} {ops : Array Oper} {md : Region.Mode} {C : World → Prop}

/-- What an operation does in a world of the class: v, and a world of the class. -/
def inUpon (P : Program) (C : World → Prop) (v : Value) : Result Next → Prop
  | .ok (.value u) w' => C w' ∧ u = v
  | .ok .skip w' => C w' ∧ v = undef
  | .ok (.enter f args) w' => Calls P f args w' (fun e w'' => e = .returned v ∧ C w'')
  | _ => False
def inAt (P : Program) (C : World → Prop) (o : Oper) (a : Act) (v : Value) : Prop := ∀ w, C w → inUpon P C v ((execOp a.eval o).run P w)
def yld (P : Program) (ops : Array Oper) (C : World → Prop) (o : Oper) (v : Value) (a : Act) : Prop :=
  (Region.wanted o (yielded ops a.tmps) = true ∧ inAt P C o a v) ∨ (Region.wanted o (yielded ops a.tmps) = false ∧ v = undef)

theorem yld.same {o : Oper} {v : Value} {a a' : Act} (h : yld P ops C o v a) (he : execOp a'.eval o = execOp a.eval o) (hw : Region.wanted o (yielded ops a'.tmps) = Region.wanted o (yielded ops a.tmps)) : yld P ops C o v a' := by
  unfold yld inAt at *
  rw [he, hw]
  exact h

/-- Any order of the operations ahead of number n. -/
def anyC (P : Program) (md : Region.Mode) (ops : Array Oper) (C : World → Prop) (n : Nat) (L : Array Bool → Act → Prop) : Nat → Array Bool → Act → Prop
  | 0, listed, a => L listed a
  | f + 1, listed, a => Region.ready md ops listed ≠ [] ∧ ∀ i ∈ Region.ready md ops listed, i < n ∧ ∃ o v, ops[i]? = some o ∧ yld P ops C o v a ∧ anyC P md ops C n L f (listed.setIfInBounds i true) (a.put o.dst v)

theorem wp_of_yld {o : Oper} {v : Value} {a : Act} {w : World} {i : Nat} {K : Act → World → Prop} {Q' : Exit → Act → World → Prop} (hi : ops[i]? = some o) (hC : C w) (hy : yld P ops C o v a) (hK : ∀ w', C w' → K (a.put o.dst v) w') : wpOp P ops Q' i K a w := by
  unfold wpOp
  simp only [hi]
  rcases hy with ⟨hw, hv⟩ | ⟨hw, rfl⟩
  · simp only [hw, if_true]
    left
    have h1 := hv w hC
    unfold Oper.wp
    generalize (execOp a.eval o).run P w = r at *
    cases r with
    | ok n w' =>
      cases n <;> simp only [inUpon] at h1 <;> simp only [Oper.upon]
      case value u => obtain ⟨c1, rfl⟩ := h1; exact hK _ c1
      case skip => obtain ⟨c1, rfl⟩ := h1; exact hK _ c1
      case enter f args => exact h1.mono fun e w'' ⟨he, hw''⟩ => by subst he; exact hK _ hw''
    | halt x w' => simp only [inUpon] at h1
  · simp only [hw, Bool.false_eq_true, if_false]
    exact hK _ hC

theorem any_of_anyC {n g : Nat} {L : Array Bool → Act → Prop} {Q' : Exit → Act → World → Prop} (hL : ∀ listed a w, C w → L listed a → wpAny P md ops Q' g listed a w) :
    ∀ (f : Nat) (listed : Array Bool) (a : Act) (w : World), C w → anyC P md ops C n L f listed a → wpAny P md ops Q' (f + g) listed a w := by
  intro f
  induction f with
  | zero => intro listed a w hC h; rw [Nat.zero_add]; exact hL _ _ _ hC h
  | succ f ih =>
    intro listed a w hC h
    rw [show f + 1 + g = (f + g) + 1 from by omega]
    refine ⟨fun h0 => absurd h0 h.1, fun i hi => ?_⟩
    obtain ⟨_, o, v, h1, h2, h3⟩ := h.2 i hi
    exact wp_of_yld h1 hC h2 (fun w' hw' => ih _ _ _ hw' h3)

theorem anyC_first {n i : Nat} {oi : Oper} {v : Value} {L : Array Bool → Act → Prop} (hi : ops[i]? = some oi) (hsel : ∀ (j : Nat) (o : Oper) cs b, ops[j]? = some o → o.op ≠ .select cs b)
    (hs : Region.sinkB md ops n = true) (hc : Region.chainB md ops n = true) (hn : n < ops.size) (hin : i < n) (hdone : ∀ listed a, L listed a → ∀ j ∈ Region.ready md ops listed, n ≤ j) :
    ∀ (f : Nat) (listed : Array Bool) (a : Act), HeadInv md ops n listed →
      (∀ j oj, ops[j]? = some oj → j ≠ i → listed.getD j true = false → (∀ e ∈ oj.after, Region.binds md e = true → e.on ≠ i) → oi.apart ops oj = true) →
      i ∈ Region.ready md ops listed → yld P ops C oi v a → anyC P md ops C n L f (listed.setIfInBounds i true) (a.put oi.dst v) → anyC P md ops C n L (f + 1) listed a := by
  intro f
  induction f with
  | zero =>
    intro listed a inv _ hr hy H
    have hun := (mem_ready.1 hr).1
    refine ⟨fun h => (by rw [h] at hr; cases hr), fun j hj => ?_⟩
    have hjn : j < n := Nat.lt_of_not_le fun h => tail_waits hs hc hn inv _ i rfl hin hun j h hj
    by_cases hji : j = i
    · subst hji
      exact ⟨hjn, oi, v, hi, hy, H⟩
    · have := hdone _ _ H j (ready_mono hj hji)
      omega
  | succ f ih =>
    intro listed a inv hfree hr hy H
    have hun := (mem_ready.1 hr).1
    refine ⟨fun h => (by rw [h] at hr; cases hr), fun j hj => ?_⟩
    have hjn : j < n := Nat.lt_of_not_le fun h => tail_waits hs hc hn inv _ i rfl hin hun j h hj
    by_cases hji : j = i
    · subst hji
      exact ⟨hjn, oi, v, hi, hy, H⟩
    · obtain ⟨_, oj', vj, hoj, hyj, hrest⟩ := H.2 j (ready_mono hj hji)
      obtain ⟨hjun, oj, hoj2, hall⟩ := mem_ready.1 hj
      obtain rfl : oj' = oj := Option.some.inj (hoj.symm.trans hoj2)
      have hno : ∀ e ∈ oj'.after, Region.binds md e = true → e.on ≠ i := fun e he hb heq => by
        have h1 := hall e he hb
        rw [heq, getD_both hun] at h1
        cases h1
      obtain ⟨a1, a2, a3⟩ := Oper.apart_spec (hfree j oj' hoj hji hjun hno)
      have hyj' : yld P ops C oj' vj a := by
        refine hyj.same ?_ ?_
        · rw [execOp_put oj' (fun cs b => hsel j oj' cs b hoj) a oi.dst v a1]
        · rw [wanted_put oj' a oi.dst v a1]
      have hyi' : yld P ops C oi v (a.put oj'.dst vj) := by
        refine hy.same ?_ ?_
        · exact execOp_put oi (fun cs b => hsel i oi cs b hi) a oj'.dst vj a3
        · exact wanted_put oi a oj'.dst vj a3
      refine ⟨hjn, oj', vj, hoj, hyj', ih (listed.setIfInBounds j true) (a.put oj'.dst vj) (inv.set hj hjn) (fun k ok hk hki hun' hno' => ?_) (ready_mono hr (Ne.symm hji)) hyi' ?_⟩
      · refine hfree k ok hk hki ?_ hno'
        by_cases hjk : j = k
        · subst hjk; exact hjun
        · rw [getD_set_ne true hjk] at hun'; exact hun'
      · rw [Array.setIfInBounds_comm _ _ hji, ← Act.put_comm a v vj a2]
        exact hrest

/-- The walk in the text's order. -/
def wpIn (P : Program) (ops : Array Oper) (C : World → Prop) (Q : Act → Prop) : List Oper → Act → Prop
  | [], a => Q a
  | o :: rest, a => ∃ v, yld P ops C o v a ∧ wpIn P ops C Q rest (a.put o.dst v)

theorem wpIn_of_quiet {Q : Act → Prop} {r : List Oper} : ∀ (l : List Oper) (a : Act), wpQuiet P ops C (wpIn P ops C Q r) l a → wpIn P ops C Q (l ++ r) a := by
  intro l
  induction l with
  | nil => intro a h; exact h
  | cons o l ih =>
    intro a h
    simp only [wpQuiet] at h
    by_cases hw : Region.wanted o (yielded ops a.tmps) = true
    · simp only [hw, if_true] at h
      obtain ⟨v, h1, h2⟩ := h
      refine ⟨v, .inl ⟨hw, fun w hC => ?_⟩, ih _ h2⟩
      have h3 := h1 w hC
      unfold Oper.quietAt at h3
      generalize (execOp a.eval o).run P w = r' at *
      cases r' with
      | ok n w' =>
        cases n <;> simp only [Oper.quietUpon] at h3 <;> simp only [inUpon]
        case value u => obtain ⟨rfl, rfl⟩ := h3; exact ⟨hC, rfl⟩
        case skip => obtain ⟨rfl, rfl⟩ := h3; exact ⟨hC, rfl⟩
        case enter f args => obtain ⟨rfl, h4⟩ := h3; exact h4
      | halt x w' => simp only [Oper.quietUpon] at h3
    · simp only [hw] at h
      exact ⟨undef, .inr ⟨by simpa using hw, rfl⟩, ih _ h⟩

theorem anyC_lex {n g : Nat} {Lq : Act → Prop} (hsel : Region.noSelect ops = true) (hs : Region.sinkB md ops n = true) (hc : Region.chainB md ops n = true) (hn : n < ops.size) :
    ∀ (l : List Oper) (k : Nat) (listed : Array Bool) (a : Act), (∀ j, j < l.length → l[j]? = ops[k + j]?) → k + l.length = n → HeadInv md ops n listed → Region.lexHead md ops g l.length k listed = true → wpIn P ops C Lq l a →
    anyC P md ops C n (fun listed' a' => Region.seqB md ops g n listed' = true ∧ Lq a') l.length listed a := by
  intro l
  induction l with
  | nil =>
    intro k listed a _ hk _ hB h
    obtain rfl : k = n := by simpa using hk
    exact ⟨by simpa [Region.lexHead] using hB, h⟩
  | cons o l ih =>
    intro k listed a hl hk inv hB h
    have h0 : ops[k]? = some o := by simpa using (hl 0 (by simp)).symm
    simp only [List.length_cons, Region.lexHead, Bool.and_eq_true] at hB
    obtain ⟨⟨hr, hf⟩, hB'⟩ := hB
    have hkn : k < n := by simp only [List.length_cons] at hk; omega
    have hr' : k ∈ Region.ready md ops listed := by simpa using hr
    obtain ⟨v, hy, hK⟩ := h
    exact anyC_first h0 (Region.noSelect_spec hsel) hs hc hn hkn (fun listed' a' hL => seqB_ready hL.1) l.length listed a inv (Region.free_spec h0 hf) hr' hy
      (ih (k + 1) _ _ (fun j hj => by have := hl (j + 1) (by simp; omega); simpa [Nat.add_assoc, Nat.add_comm 1 j] using this) (by simp only [List.length_cons] at hk; omega) (inv.set hr' hkn) hB' hK)

/-- The region: ahead of number n all keeps to the class; from n on one behind the other. -/
theorem wp_region_in_tail {id : Nat} {Q : Exit → Act → World → Prop} {a : Act} {w : World} {l : List Oper} (C : World → Prop) (n : Nat) (hm : P.follows .mixedOrders = true) (hB : Region.lexTailB .any l.toArray n = true) (hC : C w.drew)
    (h : Nonempty (In C) → wpIn P l.toArray (fun w' => ∃ p : In C, w' = p.w) (fun a' => ∀ w', C w' → wpList P l.toArray Q (l.drop n) a' w') (l.take n) a) : (Code.region id l.toArray true).wp P Q a w := by
  have h1 := h ⟨⟨w.drew, hC⟩⟩
  simp only [Region.lexTailB, Bool.and_eq_true, decide_eq_true_eq] at hB
  obtain ⟨⟨⟨⟨hsel, hn⟩, hs⟩, hc⟩, hlex⟩ := hB
  have hn' : n < l.length := by simpa using hn
  have htl : (l.take n).length = n := by simp; omega
  have hdl : (l.drop n).length = l.toArray.size - n := by simp
  have inv0 : HeadInv .any l.toArray n (Array.replicate l.toArray.size false) :=
    ⟨by simp, fun j oj _ hl => (by rw [getD_replicate_false] at hl; cases hl), fun t _ ht => getD_in (by simpa using ht) (getD_replicate_false _ _)⟩
  have H := anyC_lex (md := .any) (g := l.toArray.size - n) hsel hs hc hn (l.take n) 0 _ a (fun j hj => by
    have hj' : j < n := by rw [htl] at hj; exact hj
    simp [hj']) (by simpa using htl) inv0 (by rw [htl]; exact hlex) h1
  refine wp_region_any hm ?_
  have := any_of_anyC (Q' := Q) (g := l.toArray.size - n) (fun listed a' w' hw' hL => by
    obtain ⟨p, rfl⟩ := hw'
    have := wpAny_of_seq (md := .any) (Q' := Q) (l.drop n) n listed a' p.w (fun j => by simp [List.getElem?_drop]) (by rw [hdl]; exact hL.1) (hL.2 _ p.h)
    rwa [hdl] at this) _ _ _ _ ⟨⟨w.drew, hC⟩, rfl⟩ H
  rw [htl, show n + (l.toArray.size - n) = l.toArray.size from by omega] at this
  exact this

theorem wpIn_nil {Q : Act → Prop} {a : Act} (h : Q a) : wpIn P ops C Q [] a := h
/-- One operation of the walk by a law: in every world of the class v, and a world of the class. -/
theorem wpIn_law {Q : Act → Prop} {a : Act} {o : Oper} {rest : List Oper} (hg : o.guard = none) (v : Value) (h : ∀ w, C w → ∃ w', C w' ∧ (execOp a.eval o).run P w = .ok (.value v) w') (hK : wpIn P ops C Q rest (a.put o.dst v)) : wpIn P ops C Q (o :: rest) a :=
  ⟨v, .inl ⟨by simp [Region.wanted, hg], fun w hC => by obtain ⟨w', h1, h2⟩ := h w hC; rw [h2]; exact ⟨h1, rfl⟩⟩, hK⟩
/-- A store: it gives nothing, and keeps to the class. -/
theorem wpIn_skip {Q : Act → Prop} {a : Act} {o : Oper} {rest : List Oper} (hg : o.guard = none) (h : ∀ w, C w → ∃ w', C w' ∧ (execOp a.eval o).run P w = .ok .skip w') (hK : wpIn P ops C Q rest (a.put o.dst undef)) : wpIn P ops C Q (o :: rest) a :=
  ⟨undef, .inl ⟨by simp [Region.wanted, hg], fun w hC => by obtain ⟨w', h1, h2⟩ := h w hC; rw [h2]; exact ⟨h1, rfl⟩⟩, hK⟩
/-- All ahead of the tail by quiet steps. -/
theorem wpIn_quiet {Q : Act → Prop} {a : Act} {l : List Oper} (h : wpQuiet P ops C Q l a) : wpIn P ops C Q l a := by
  have := wpIn_of_quiet (r := []) (Q := Q) l a h
  rwa [List.append_nil] at this
theorem wpIn_part {Q : Act → Prop} {a : Act} {l : List Oper} (k : Nat) (h : wpQuiet P ops C (wpIn P ops C Q (l.drop k)) (l.take k) a) : wpIn P ops C Q l a := by
  have := wpIn_of_quiet (r := l.drop k) (Q := Q) (l.take k) a h
  rwa [List.take_append_drop] at this
end

end Go.Proofs.Ytemhoaapapeilaa
