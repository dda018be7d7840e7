/-
  A region that draws its order, and in which ONE operation (a call) turns the world; all others read, or call what leaves the world's kind as it is: two classes of worlds, ahead of it and behind it.
-/
import Derived.Test.YtemhoaapapeilaaInTail
namespace Go.Proofs.Ytemhoaapapeilaa
open Go.RowKit
set_option linter.unusedVariables false

section
variable {P : Program} {ops : Array Oper} {md : Region.Mode} {CB : Bool → World → Prop} {m : Nat}

def yldT (P : Program) (md : Region.Mode) (ops : Array Oper) (CB : Bool → World → Prop) (m i : Nat) (o : Oper) (v : Value) (a : Act) : Prop :=
  (Region.wanted o (yielded ops a.tmps) = true ∧ if i = m then (∀ w, CB false w → inUpon P (CB true) v ((execOp a.eval o).run P w)) else ∀ b w, (b = true → Region.waitsFor md ops m i = false) → CB b w → inUpon P (CB b) v ((execOp a.eval o).run P w)) ∨
  (i ≠ m ∧ Region.wanted o (yielded ops a.tmps) = false ∧ v = undef)

theorem yldT.same {i : Nat} {o : Oper} {v : Value} {a a' : Act} (h : yldT P md ops CB m i o v a) (he : execOp a'.eval o = execOp a.eval o) (hw : Region.wanted o (yielded ops a'.tmps) = Region.wanted o (yielded ops a.tmps)) : yldT P md ops CB m i o v a' := by
  unfold yldT at *
  rw [he, hw]
  exact h

def anyT (P : Program) (md : Region.Mode) (ops : Array Oper) (CB : Bool → World → Prop) (m n : Nat) (L : Array Bool → Act → Prop) : Nat → Array Bool → Act → Prop
  | 0, listed, a => L listed a
  | f + 1, listed, a => Region.ready md ops listed ≠ [] ∧ ∀ i ∈ Region.ready md ops listed, i < n ∧ ∃ o v, ops[i]? = some o ∧ yldT P md ops CB m i o v a ∧ anyT P md ops CB m n L f (listed.setIfInBounds i true) (a.put o.dst v)

theorem wp_of_upon {o : Oper} {v : Value} {a : Act} {w : World} {C : World → Prop} {K : Act → World → Prop} {Q' : Exit → Act → World → Prop} (h1 : inUpon P C v ((execOp a.eval o).run P w)) (hK : ∀ w', C w' → K (a.put o.dst v) w') : Oper.wp P o a w K Q' := by
  unfold Oper.wp
  generalize (execOp a.eval o).run P w = r at *
  cases r with
  | ok n w' =>
    cases n <;> simp only [inUpon] at h1 <;> simp only [Oper.upon]
    case value u => obtain ⟨c1, rfl⟩ := h1; exact hK _ c1
    case skip => obtain ⟨c1, rfl⟩ := h1; exact hK _ c1
    case enter f args => exact h1.mono fun e w'' ⟨he, hw''⟩ => by subst he; exact hK _ hw''
  | halt x w' => simp only [inUpon] at h1

theorem any_of_anyT {n g : Nat} {L : Array Bool → Act → Prop} {Q' : Exit → Act → World → Prop} (hL : ∀ listed a w, HeadInv md ops n listed → CB (listed.getD m false) w → L listed a → wpAny P md ops Q' g listed a w) :
    ∀ (f : Nat) (listed : Array Bool) (a : Act) (w : World), HeadInv md ops n listed → CB (listed.getD m false) w → anyT P md ops CB m n L f listed a → wpAny P md ops Q' (f + g) listed a w := by
  intro f
  induction f with
  | zero => intro listed a w inv hC h; rw [Nat.zero_add]; exact hL _ _ _ inv hC h
  | succ f ih =>
    intro listed a w inv hC h
    rw [show f + 1 + g = (f + g) + 1 from by omega]
    refine ⟨fun h0 => absurd h0 h.1, fun i hi => ?_⟩
    obtain ⟨hin, o, v, h1, h2, h3⟩ := h.2 i hi
    have h4 := fun w' hC' => ih _ _ w' (inv.set hi hin) hC' h3
    have hun := (mem_ready.1 hi).1
    have hsz : i < listed.size := by rw [inv.size]; exact (Array.getElem?_eq_some_iff.1 h1).1
    unfold wpOp
    simp only [h1]
    rcases h2 with ⟨hw, hv⟩ | ⟨hne, hw, rfl⟩
    · simp only [hw, if_true]
      left
      by_cases him : i = m
      · rw [if_pos him] at hv
        subst him
        rw [getD_both hun] at hC
        rw [show (listed.setIfInBounds i true).getD i false = true from by simp [hsz]] at h4
        exact wp_of_upon (hv w hC) h4
      · rw [if_neg him] at hv
        rw [getD_set_ne false him] at h4
        refine wp_of_upon (hv _ w (fun hb => ?_) hC) h4
        cases hwf : Region.waitsFor md ops m i with
        | false => rfl
        | true =>
          obtain ⟨oj, hoj, e, he, hbd, hon⟩ := Region.waitsFor_spec hwf
          have := inv.closed m oj hoj hb e he hbd
          rw [hon, getD_both hun] at this
          cases this
    · simp only [hw, Bool.false_eq_true, if_false]
      rw [getD_set_ne false hne] at h4
      exact h4 w hC

theorem anyT_first {n i : Nat} {oi : Oper} {v : Value} {L : Array Bool → Act → Prop} (hi : ops[i]? = some oi) (hsel : ∀ (j : Nat) (o : Oper) cs b, ops[j]? = some o → o.op ≠ .select cs b)
    (hs : Region.sinkB md ops n = true) (hc : Region.chainB md ops n = true) (hn : n < ops.size) (hin : i < n) (hdone : ∀ listed a, L listed a → ∀ j ∈ Region.ready md ops listed, n ≤ j) :
    ∀ (f : Nat) (listed : Array Bool) (a : Act), HeadInv md ops n listed →
      (∀ j oj, ops[j]? = some oj → j ≠ i → listed.getD j true = false → (∀ e ∈ oj.after, Region.binds md e = true → e.on ≠ i) → oi.apart ops oj = true) →
      i ∈ Region.ready md ops listed → yldT P md ops CB m i oi v a → anyT P md ops CB m n L f (listed.setIfInBounds i true) (a.put oi.dst v) → anyT P md ops CB m n L (f + 1) listed a := by
  intro f
  induction f with
  | zero =>
    intro listed a inv _ hr hy H
    have hun := (mem_ready.1 hr).1
    refine ⟨fun h => (by rw [h] at hr; cases hr), fun j hj => ?_⟩
    have hjn : j < n := Nat.lt_of_not_le fun h => tail_waits hs hc hn inv _ i rfl hin hun j h hj
    by_cases hji : j = i
    · subst hji
      exact ⟨hjn, oi, v, hi, hy, H⟩
    · have := hdone _ _ H j (ready_mono hj hji)
      omega
  | succ f ih =>
    intro listed a inv hfree hr hy H
    have hun := (mem_ready.1 hr).1
    refine ⟨fun h => (by rw [h] at hr; cases hr), fun j hj => ?_⟩
    have hjn : j < n := Nat.lt_of_not_le fun h => tail_waits hs hc hn inv _ i rfl hin hun j h hj
    by_cases hji : j = i
    · subst hji
      exact ⟨hjn, oi, v, hi, hy, H⟩
    · obtain ⟨_, oj', vj, hoj, hyj, hrest⟩ := H.2 j (ready_mono hj hji)
      obtain ⟨hjun, oj, hoj2, hall⟩ := mem_ready.1 hj
      obtain rfl : oj' = oj := Option.some.inj (hoj.symm.trans hoj2)
      have hno : ∀ e ∈ oj'.after, Region.binds md e = true → e.on ≠ i := fun e he hb heq => by
        have h1 := hall e he hb
        rw [heq, getD_both hun] at h1
        cases h1
      obtain ⟨a1, a2, a3⟩ := Oper.apart_spec (hfree j oj' hoj hji hjun hno)
      have hyj' : yldT P md ops CB m j oj' vj a := by
        refine hyj.same ?_ ?_
        · rw [execOp_put oj' (fun cs b => hsel j oj' cs b hoj) a oi.dst v a1]
        · rw [wanted_put oj' a oi.dst v a1]
      have hyi' : yldT P md ops CB m i oi v (a.put oj'.dst vj) := by
        refine hy.same ?_ ?_
        · exact execOp_put oi (fun cs b => hsel i oi cs b hi) a oj'.dst vj a3
        · exact wanted_put oi a oj'.dst vj a3
      refine ⟨hjn, oj', vj, hoj, hyj', ih (listed.setIfInBounds j true) (a.put oj'.dst vj) (inv.set hj hjn) (fun k ok hk hki hun' hno' => ?_) (ready_mono hr (Ne.symm hji)) hyi' ?_⟩
      · refine hfree k ok hk hki ?_ hno'
        by_cases hjk : j = k
        · subst hjk; exact hjun
        · rw [getD_set_ne true hjk] at hun'; exact hun'
      · rw [Array.setIfInBounds_comm _ _ hji, ← Act.put_comm a v vj a2]
        exact hrest

/-- The walk in the text's order, from operation number i on. -/
def wpT (P : Program) (md : Region.Mode) (ops : Array Oper) (CB : Bool → World → Prop) (m : Nat) (Q : Act → Prop) : Nat → List Oper → Act → Prop
  | _, [], a => Q a
  | i, o :: rest, a => ∃ v, yldT P md ops CB m i o v a ∧ wpT P md ops CB m Q (i + 1) rest (a.put o.dst v)

theorem anyT_lex {n g : Nat} {Lq : Act → Prop} (hsel : Region.noSelect ops = true) (hs : Region.sinkB md ops n = true) (hc : Region.chainB md ops n = true) (hn : n < ops.size) :
    ∀ (l : List Oper) (k : Nat) (listed : Array Bool) (a : Act), (∀ j, j < l.length → l[j]? = ops[k + j]?) → k + l.length = n → HeadInv md ops n listed → Region.lexHead md ops g l.length k listed = true → wpT P md ops CB m Lq k l a →
    anyT P md ops CB m n (fun listed' a' => Region.seqB md ops g n listed' = true ∧ Lq a') l.length listed a := by
  intro l
  induction l with
  | nil =>
    intro k listed a _ hk _ hB h
    obtain rfl : k = n := by simpa using hk
    exact ⟨by simpa [Region.lexHead] using hB, h⟩
  | cons o l ih =>
    intro k listed a hl hk inv hB h
    have h0 : ops[k]? = some o := by simpa using (hl 0 (by simp)).symm
    simp only [List.length_cons, Region.lexHead, Bool.and_eq_true] at hB
    obtain ⟨⟨hr, hf⟩, hB'⟩ := hB
    have hkn : k < n := by simp only [List.length_cons] at hk; omega
    have hr' : k ∈ Region.ready md ops listed := by simpa using hr
    obtain ⟨v, hy, hK⟩ := h
    exact anyT_first h0 (Region.noSelect_spec hsel) hs hc hn hkn (fun listed' a' hL => seqB_ready hL.1) l.length listed a inv (Region.free_spec h0 hf) hr' hy
      (ih (k + 1) _ _ (fun j hj => by have := hl (j + 1) (by simp; omega); simpa [Nat.add_assoc, Nat.add_comm 1 j] using this) (by simp only [List.length_cons] at hk; omega) (inv.set hr' hkn) hB' hK)

/-- The region: operation m (ahead of n) turns a world of the first class into one of the second; from n on one behind the other, in each world of the second. -/
theorem wp_region_turn {id : Nat} {Q : Exit → Act → World → Prop} {a : Act} {w : World} {l : List Oper} (CB : Bool → World → Prop) (m n : Nat) (hmn : m < n) (hm : P.follows .mixedOrders = true) (hB : Region.lexTailB .any l.toArray n = true) (hC : CB false w.drew)
    (h : wpT P .any l.toArray CB m (fun a' => ∀ w', CB true w' → wpList P l.toArray Q (l.drop n) a' w') 0 (l.take n) a) : (Code.region id l.toArray true).wp P Q a w := by
  simp only [Region.lexTailB, Bool.and_eq_true, decide_eq_true_eq] at hB
  obtain ⟨⟨⟨⟨hsel, hn⟩, hs⟩, hc⟩, hlex⟩ := hB
  have hn' : n < l.length := by simpa using hn
  have htl : (l.take n).length = n := by simp; omega
  have hdl : (l.drop n).length = l.toArray.size - n := by simp
  have inv0 : HeadInv .any l.toArray n (Array.replicate l.toArray.size false) :=
    ⟨by simp, fun j oj _ hl => (by rw [getD_replicate_false] at hl; cases hl), fun t _ ht => getD_in (by simpa using ht) (getD_replicate_false _ _)⟩
  have H := anyT_lex (md := .any) (g := l.toArray.size - n) hsel hs hc hn (l.take n) 0 _ a (fun j hj => by
    have hj' : j < n := by rw [htl] at hj; exact hj
    simp [hj']) (by simpa using htl) inv0 (by rw [htl]; exact hlex) h
  refine wp_region_any hm ?_
  have := any_of_anyT (Q' := Q) (g := l.toArray.size - n) (fun listed a' w' inv hCw hL => by
    have hd : listed.getD m false = true := by
      cases hh : listed.getD m false with
      | true => rfl
      | false =>
        exfalso
        have hms : m < listed.size := by rw [inv.size]; omega
        have h1 := hL.1
        rw [← hdl] at h1
        have hg : (l.drop n).length ≠ 0 := by rw [List.length_drop]; omega
        obtain ⟨g, hg'⟩ := Nat.exists_eq_succ_of_ne_zero hg
        rw [hg'] at h1
        simp only [Region.seqB, Bool.and_eq_true, decide_eq_true_eq] at h1
        exact tail_waits hs hc hn inv _ m rfl hmn (getD_in hms hh) n (Nat.le_refl _) (by rw [h1.1]; simp)
    rw [hd] at hCw
    have := wpAny_of_seq (md := .any) (Q' := Q) (l.drop n) n listed a' w' (fun j => by simp [List.getElem?_drop]) (by rw [hdl]; exact hL.1) (hL.2 _ hCw)
    rwa [hdl] at this) _ _ _ _ inv0 (by rw [getD_replicate_false]; exact hC) H
  rw [htl, show n + (l.toArray.size - n) = l.toArray.size from by omega] at this
  exact this

/-- An operation that enters no function. -/
def plainB : Op → Bool
  | .move _ | .assign _ | .pick _ _ _ | .load _ _ | .fieldAddr _ _ _ | .indexAddr _ _ _ | .binOp _ _ _ _ _ | .unOp _ _ _ | .extract _ _ | .build _ _ => true
  | _ => false
theorem val_only {α : Type} {s : Sem α} {g : α → Value} {w w' : World} {n : Next} (e : (s >>= fun x => pure (Next.value (g x)) : Sem Next).run P w = .ok n w') : ∃ u, n = .value u := by
  rw [Sem.run_bind] at e
  cases hs : s.run P w with
  | ok u w1 => rw [hs] at e; simp [Result.andThen] at e; exact ⟨_, e.1.symm⟩
  | halt x w1 => rw [hs] at e; simp [Result.andThen] at e
theorem plain_value {o : Oper} (h : plainB o.op = true) {ρ : Operand → Value} {w w' : World} {n : Next} (e : (execOp ρ o).run P w = .ok n w') : ∃ u, n = .value u := by
  unfold execOp at e
  cases ho : o.op <;> rw [ho] at h e <;> first | (simp only [plainB, Bool.false_eq_true] at h; done) | exact val_only e | (simp at e; exact ⟨_, e.1.symm⟩)

theorem wpT_of_quiet {Q : Act → Prop} {r : List Oper} (C : World → Prop) (hCC : ∀ b w, CB b w → C w) : ∀ (l : List Oper) (i : Nat) (a : Act), l.all (fun o => plainB o.op) = true → (i + l.length ≤ m ∨ m < i) → wpQuiet P ops (fun w => ∃ p : In C, w = p.w) (wpT P md ops CB m Q (i + l.length) r) l a → wpT P md ops CB m Q i (l ++ r) a := by
  intro l
  induction l with
  | nil => intro i a _ _ h; exact h
  | cons o l ih =>
    intro i a hp him h
    simp only [List.all_cons, Bool.and_eq_true] at hp
    have him' : i ≠ m := by simp only [List.length_cons] at him; omega
    have hnext : i + 1 + l.length ≤ m ∨ m < i + 1 := by simp only [List.length_cons] at him; omega
    have hlen : i + (o :: l).length = i + 1 + l.length := by simp only [List.length_cons]; omega
    rw [hlen] at h
    simp only [wpQuiet] at h
    by_cases hw : Region.wanted o (yielded ops a.tmps) = true
    · simp only [hw, if_true] at h
      obtain ⟨v, h1, h2⟩ := h
      have hall : ∀ b w, CB b w → inUpon P (CB b) v ((execOp a.eval o).run P w) := by
        intro b w hC
        have h3 := h1 w ⟨⟨w, hCC b w hC⟩, rfl⟩
        unfold Oper.quietAt at h3
        cases hr : (execOp a.eval o).run P w with
        | ok n w' =>
          rw [hr] at h3
          obtain ⟨u, rfl⟩ := plain_value hp.1 hr
          simp only [Oper.quietUpon] at h3
          obtain ⟨rfl, rfl⟩ := h3
          exact ⟨hC, rfl⟩
        | halt x w' => rw [hr] at h3; simp only [Oper.quietUpon] at h3
      exact ⟨v, .inl ⟨hw, by rw [if_neg him']; exact fun b w _ hC => hall b w hC⟩, ih (i + 1) _ hp.2 hnext h2⟩
    · simp only [hw] at h
      exact ⟨undef, .inr ⟨him', by simpa using hw, rfl⟩, ih (i + 1) _ hp.2 hnext h⟩
/-- k operations that read. -/
theorem wpT_part {Q : Act → Prop} {a : Act} {l : List Oper} {i : Nat} (C : World → Prop) (hCC : ∀ b w, CB b w → C w) (k j : Nat) (hp : (l.take k).all (fun o => plainB o.op) = true) (hj : i + (l.take k).length = j) (him : j ≤ m ∨ m < i) (h : wpQuiet P ops (fun w => ∃ p : In C, w = p.w) (wpT P md ops CB m Q j (l.drop k)) (l.take k) a) : wpT P md ops CB m Q i l a := by
  subst hj
  have := wpT_of_quiet (r := l.drop k) (Q := Q) C hCC (l.take k) i a hp him h
  rwa [List.take_append_drop] at this
/-- k operations that the turning one waits for: they are walked in the first class alone. -/
theorem wpT_of_quiet0 {Q : Act → Prop} {r : List Oper} (C : World → Prop) (hCC : ∀ w, CB false w → C w) : ∀ (l : List Oper) (i : Nat) (a : Act), l.all (fun o => plainB o.op) = true → i + l.length ≤ m → (List.range l.length).all (fun j => Region.waitsFor md ops m (i + j)) = true → wpQuiet P ops (fun w => ∃ p : In C, w = p.w) (wpT P md ops CB m Q (i + l.length) r) l a → wpT P md ops CB m Q i (l ++ r) a := by
  intro l
  induction l with
  | nil => intro i a _ _ _ h; exact h
  | cons o l ih =>
    intro i a hp him hwt h
    simp only [List.all_cons, Bool.and_eq_true] at hp
    have him' : i ≠ m := by simp only [List.length_cons] at him; omega
    have hnext : i + 1 + l.length ≤ m := by simp only [List.length_cons] at him; omega
    have hlen : i + (o :: l).length = i + 1 + l.length := by simp only [List.length_cons]; omega
    have hw0 : Region.waitsFor md ops m i = true := by
      have := List.all_eq_true.1 hwt 0 (by simp)
      simpa using this
    have hwn : (List.range l.length).all (fun j => Region.waitsFor md ops m (i + 1 + j)) = true := by
      rw [List.all_eq_true]
      intro j hj
      have := List.all_eq_true.1 hwt (j + 1) (by simp at hj ⊢; omega)
      rw [show i + 1 + j = i + (j + 1) from by omega]
      exact this
    rw [hlen] at h
    simp only [wpQuiet] at h
    by_cases hw : Region.wanted o (yielded ops a.tmps) = true
    · simp only [hw, if_true] at h
      obtain ⟨v, h1, h2⟩ := h
      have hall : ∀ b w, (b = true → Region.waitsFor md ops m i = false) → CB b w → inUpon P (CB b) v ((execOp a.eval o).run P w) := by
        intro b w hb hC
        cases b with
        | true => rw [hw0] at hb; exact absurd (hb rfl) (by simp)
        | false =>
          have h3 := h1 w ⟨⟨w, hCC w hC⟩, rfl⟩
          unfold Oper.quietAt at h3
          cases hr : (execOp a.eval o).run P w with
          | ok n w' =>
            rw [hr] at h3
            obtain ⟨u, rfl⟩ := plain_value hp.1 hr
            simp only [Oper.quietUpon] at h3
            obtain ⟨rfl, rfl⟩ := h3
            exact ⟨hC, rfl⟩
          | halt x w' => rw [hr] at h3; simp only [Oper.quietUpon] at h3
      exact ⟨v, .inl ⟨hw, by rw [if_neg him']; exact hall⟩, ih (i + 1) _ hp.2 hnext hwn h2⟩
    · simp only [hw] at h
      exact ⟨undef, .inr ⟨him', by simpa using hw, rfl⟩, ih (i + 1) _ hp.2 hnext hwn h⟩
theorem wpT_part0 {Q : Act → Prop} {a : Act} {l : List Oper} {i : Nat} (C : World → Prop) (hCC : ∀ w, CB false w → C w) (k j : Nat) (hp : (l.take k).all (fun o => plainB o.op) = true) (hj : i + (l.take k).length = j) (him : j ≤ m) (hwt : (List.range (l.take k).length).all (fun j => Region.waitsFor md ops m (i + j)) = true) (h : wpQuiet P ops (fun w => ∃ p : In C, w = p.w) (wpT P md ops CB m Q j (l.drop k)) (l.take k) a) : wpT P md ops CB m Q i l a := by
  subst hj
  have := wpT_of_quiet0 (r := l.drop k) (Q := Q) C hCC (l.take k) i a hp him hwt h
  rwa [List.take_append_drop] at this
theorem wpT_nil {Q : Act → Prop} {a : Act} {i : Nat} (h : Q a) : wpT P md ops CB m Q i [] a := h
/-- The operation that turns the world. -/
theorem wpT_turn {Q : Act → Prop} {a : Act} {o : Oper} {rest : List Oper} (v : Value) (hw : Region.wanted o (yielded ops a.tmps) = true) (h : ∀ w, CB false w → inUpon P (CB true) v ((execOp a.eval o).run P w)) (hK : wpT P md ops CB m Q (m + 1) rest (a.put o.dst v)) : wpT P md ops CB m Q m (o :: rest) a :=
  ⟨v, .inl ⟨hw, by rw [if_pos rfl]; exact h⟩, hK⟩
/-- A call that keeps to each class. -/
theorem wpT_call {Q : Act → Prop} {a : Act} {o : Oper} {rest : List Oper} {i : Nat} (him : (i == m) = false) (v : Value) (hw : Region.wanted o (yielded ops a.tmps) = true) (h : ∀ b w, CB b w → inUpon P (CB b) v ((execOp a.eval o).run P w)) (hK : wpT P md ops CB m Q (i + 1) rest (a.put o.dst v)) : wpT P md ops CB m Q i (o :: rest) a :=
  ⟨v, .inl ⟨hw, by rw [if_neg (by simpa using him)]; exact fun b w _ hC => h b w hC⟩, hK⟩
/-- What does not come up. -/
theorem wpT_skip {Q : Act → Prop} {a : Act} {o : Oper} {rest : List Oper} {i : Nat} (him : (i == m) = false) (hw : Region.wanted o (yielded ops a.tmps) = false) (hK : wpT P md ops CB m Q (i + 1) rest (a.put o.dst undef)) : wpT P md ops CB m Q i (o :: rest) a :=
  ⟨undef, .inr ⟨by simpa using him, hw, rfl⟩, hK⟩
end

end Go.Proofs.Ytemhoaapapeilaa
