/-
  A region that draws its order and in whose head ONE operation turns the world (an entry of a map that is made); all others only read, in the world ahead of it and in the one behind it alike.
-/
import Derived.Test.YthdmbbfppgenlaaGreatInTail
import Derived.Test.YthdmbbfppgenlaaGreatEntry
namespace Go.Proofs.YthdmbbfppgenlaaGreat
open Go.RowKit
set_option linter.unusedVariables false

section
variable {P : Program} {ops : Array Oper} {md : Region.Mode} {w0 w1 : World} {m : Nat}

/-- The world: as the operation m has come up or not. -/
def wAt (w0 w1 : World) (b : Bool) : World := if b then w1 else w0

def yldE (P : Program) (ops : Array Oper) (w0 w1 : World) (m i : Nat) (o : Oper) (v : Value) (a : Act) : Prop :=
  (Region.wanted o (yielded ops a.tmps) = true ∧ if i = m then (execOp a.eval o).run P w0 = .ok (.value v) w1 else ∀ b, (execOp a.eval o).run P (wAt w0 w1 b) = .ok (.value v) (wAt w0 w1 b)) ∨
  (i ≠ m ∧ Region.wanted o (yielded ops a.tmps) = false ∧ v = undef)

theorem yldE.same {i : Nat} {o : Oper} {v : Value} {a a' : Act} (h : yldE P ops w0 w1 m i o v a) (he : execOp a'.eval o = execOp a.eval o) (hw : Region.wanted o (yielded ops a'.tmps) = Region.wanted o (yielded ops a.tmps)) : yldE P ops w0 w1 m i o v a' := by
  unfold yldE at *
  rw [he, hw]
  exact h

def anyE (P : Program) (md : Region.Mode) (ops : Array Oper) (w0 w1 : World) (m n : Nat) (L : Array Bool → Act → Prop) : Nat → Array Bool → Act → Prop
  | 0, listed, a => L listed a
  | f + 1, listed, a => Region.ready md ops listed ≠ [] ∧ ∀ i ∈ Region.ready md ops listed, i < n ∧ ∃ o v, ops[i]? = some o ∧ yldE P ops w0 w1 m i o v a ∧ anyE P md ops w0 w1 m n L f (listed.setIfInBounds i true) (a.put o.dst v)

theorem any_of_anyE {n g : Nat} {L : Array Bool → Act → Prop} {Q' : Exit → Act → World → Prop} (hL : ∀ listed a, HeadInv md ops n listed → L listed a → wpAny P md ops Q' g listed a (wAt w0 w1 (listed.getD m false))) :
    ∀ (f : Nat) (listed : Array Bool) (a : Act), HeadInv md ops n listed → anyE P md ops w0 w1 m n L f listed a → wpAny P md ops Q' (f + g) listed a (wAt w0 w1 (listed.getD m false)) := by
  intro f
  induction f with
  | zero => intro listed a inv h; rw [Nat.zero_add]; exact hL _ _ inv h
  | succ f ih =>
    intro listed a inv h
    rw [show f + 1 + g = (f + g) + 1 from by omega]
    refine ⟨fun h0 => absurd h0 h.1, fun i hi => ?_⟩
    obtain ⟨hin, o, v, h1, h2, h3⟩ := h.2 i hi
    have h4 := ih _ _ (inv.set hi hin) h3
    have hun := (mem_ready.1 hi).1
    have hsz : i < listed.size := by rw [inv.size]; exact (Array.getElem?_eq_some_iff.1 h1).1
    unfold wpOp
    simp only [h1]
    rcases h2 with ⟨hw, hv⟩ | ⟨hne, hw, rfl⟩
    · simp only [hw, if_true]
      left
      unfold Oper.wp
      by_cases him : i = m
      · rw [if_pos him] at hv
        subst him
        rw [getD_both hun, show wAt w0 w1 false = w0 from rfl, hv]
        rw [show (listed.setIfInBounds i true).getD i false = true from by simp [hsz]] at h4
        exact h4
      · rw [if_neg him] at hv
        rw [hv]
        rw [getD_set_ne false him] at h4
        exact h4
    · simp only [hw, Bool.false_eq_true, if_false]
      rw [getD_set_ne false hne] at h4
      exact h4

theorem anyE_first {n i : Nat} {oi : Oper} {v : Value} {L : Array Bool → Act → Prop} (hi : ops[i]? = some oi) (hsel : ∀ (j : Nat) (o : Oper) cs b, ops[j]? = some o → o.op ≠ .select cs b)
    (hs : Region.sinkB md ops n = true) (hc : Region.chainB md ops n = true) (hn : n < ops.size) (hin : i < n) (hdone : ∀ listed a, L listed a → ∀ j ∈ Region.ready md ops listed, n ≤ j) :
    ∀ (f : Nat) (listed : Array Bool) (a : Act), HeadInv md ops n listed →
      (∀ j oj, ops[j]? = some oj → j ≠ i → listed.getD j true = false → (∀ e ∈ oj.after, Region.binds md e = true → e.on ≠ i) → oi.apart ops oj = true) →
      i ∈ Region.ready md ops listed → yldE P ops w0 w1 m i oi v a → anyE P md ops w0 w1 m n L f (listed.setIfInBounds i true) (a.put oi.dst v) → anyE P md ops w0 w1 m n L (f + 1) listed a := by
  intro f
  induction f with
  | zero =>
    intro listed a inv _ hr hy H
    have hun := (mem_ready.1 hr).1
    refine ⟨fun h => (by rw [h] at hr; cases hr), fun j hj => ?_⟩
    have hjn : j < n := Nat.lt_of_not_le fun h => tail_waits hs hc hn inv _ i rfl hin hun j h hj
    by_cases hji : j = i
    · subst hji
      exact ⟨hjn, oi, v, hi, hy, H⟩
    · have := hdone _ _ H j (ready_mono hj hji)
      omega
  | succ f ih =>
    intro listed a inv hfree hr hy H
    have hun := (mem_ready.1 hr).1
    refine ⟨fun h => (by rw [h] at hr; cases hr), fun j hj => ?_⟩
    have hjn : j < n := Nat.lt_of_not_le fun h => tail_waits hs hc hn inv _ i rfl hin hun j h hj
    by_cases hji : j = i
    · subst hji
      exact ⟨hjn, oi, v, hi, hy, H⟩
    · obtain ⟨_, oj', vj, hoj, hyj, hrest⟩ := H.2 j (ready_mono hj hji)
      obtain ⟨hjun, oj, hoj2, hall⟩ := mem_ready.1 hj
      obtain rfl : oj' = oj := Option.some.inj (hoj.symm.trans hoj2)
      have hno : ∀ e ∈ oj'.after, Region.binds md e = true → e.on ≠ i := fun e he hb heq => by
        have h1 := hall e he hb
        rw [heq, getD_both hun] at h1
        cases h1
      obtain ⟨a1, a2, a3⟩ := Oper.apart_spec (hfree j oj' hoj hji hjun hno)
      have hyj' : yldE P ops w0 w1 m j oj' vj a := by
        refine hyj.same ?_ ?_
        · rw [execOp_put oj' (fun cs b => hsel j oj' cs b hoj) a oi.dst v a1]
        · rw [wanted_put oj' a oi.dst v a1]
      have hyi' : yldE P ops w0 w1 m i oi v (a.put oj'.dst vj) := by
        refine hy.same ?_ ?_
        · exact execOp_put oi (fun cs b => hsel i oi cs b hi) a oj'.dst vj a3
        · exact wanted_put oi a oj'.dst vj a3
      refine ⟨hjn, oj', vj, hoj, hyj', ih (listed.setIfInBounds j true) (a.put oj'.dst vj) (inv.set hj hjn) (fun k ok hk hki hun' hno' => ?_) (ready_mono hr (Ne.symm hji)) hyi' ?_⟩
      · refine hfree k ok hk hki ?_ hno'
        by_cases hjk : j = k
        · subst hjk; exact hjun
        · rw [getD_set_ne true hjk] at hun'; exact hun'
      · rw [Array.setIfInBounds_comm _ _ hji, ← Act.put_comm a v vj a2]
        exact hrest

/-- The walk in the text's order, from operation number i on. -/
def wpE (P : Program) (ops : Array Oper) (w0 w1 : World) (m : Nat) (Q : Act → Prop) : Nat → List Oper → Act → Prop
  | _, [], a => Q a
  | i, o :: rest, a => ∃ v, yldE P ops w0 w1 m i o v a ∧ wpE P ops w0 w1 m Q (i + 1) rest (a.put o.dst v)

theorem anyE_lex {n g : Nat} {Lq : Act → Prop} (hsel : Region.noSelect ops = true) (hs : Region.sinkB md ops n = true) (hc : Region.chainB md ops n = true) (hn : n < ops.size) :
    ∀ (l : List Oper) (k : Nat) (listed : Array Bool) (a : Act), (∀ j, j < l.length → l[j]? = ops[k + j]?) → k + l.length = n → HeadInv md ops n listed → Region.lexHead md ops g l.length k listed = true → wpE P ops w0 w1 m Lq k l a →
    anyE P md ops w0 w1 m n (fun listed' a' => Region.seqB md ops g n listed' = true ∧ Lq a') l.length listed a := by
  intro l
  induction l with
  | nil =>
    intro k listed a _ hk _ hB h
    obtain rfl : k = n := by simpa using hk
    exact ⟨by simpa [Region.lexHead] using hB, h⟩
  | cons o l ih =>
    intro k listed a hl hk inv hB h
    have h0 : ops[k]? = some o := by simpa using (hl 0 (by simp)).symm
    simp only [List.length_cons, Region.lexHead, Bool.and_eq_true] at hB
    obtain ⟨⟨hr, hf⟩, hB'⟩ := hB
    have hkn : k < n := by simp only [List.length_cons] at hk; omega
    have hr' : k ∈ Region.ready md ops listed := by simpa using hr
    obtain ⟨v, hy, hK⟩ := h
    exact anyE_first h0 (Region.noSelect_spec hsel) hs hc hn hkn (fun listed' a' hL => seqB_ready hL.1) l.length listed a inv (Region.free_spec h0 hf) hr' hy
      (ih (k + 1) _ _ (fun j hj => by have := hl (j + 1) (by simp; omega); simpa [Nat.add_assoc, Nat.add_comm 1 j] using this) (by simp only [List.length_cons] at hk; omega) (inv.set hr' hkn) hB' hK)

/-- The region: operation m (ahead of n) turns w0 into w1; from n on one behind the other, in w1. -/
theorem wp_region_entry {id : Nat} {Q : Exit → Act → World → Prop} {a : Act} {w : World} {l : List Oper} (m n : Nat) (w1 : World) (hmn : m < n) (hm : P.follows .mixedOrders = true) (hB : Region.lexTailB .any l.toArray n = true)
    (h : wpE P l.toArray w.drew w1 m (fun a' => wpList P l.toArray Q (l.drop n) a' w1) 0 (l.take n) a) : (Code.region id l.toArray true).wp P Q a w := by
  simp only [Region.lexTailB, Bool.and_eq_true, decide_eq_true_eq] at hB
  obtain ⟨⟨⟨⟨hsel, hn⟩, hs⟩, hc⟩, hlex⟩ := hB
  have hn' : n < l.length := by simpa using hn
  have htl : (l.take n).length = n := by simp; omega
  have hdl : (l.drop n).length = l.toArray.size - n := by simp
  have inv0 : HeadInv .any l.toArray n (Array.replicate l.toArray.size false) :=
    ⟨by simp, fun j oj _ hl => (by rw [getD_replicate_false] at hl; cases hl), fun t _ ht => getD_in (by simpa using ht) (getD_replicate_false _ _)⟩
  have H := anyE_lex (md := .any) (g := l.toArray.size - n) hsel hs hc hn (l.take n) 0 _ a (fun j hj => by
    have hj' : j < n := by rw [htl] at hj; exact hj
    simp [hj']) (by simpa using htl) inv0 (by rw [htl]; exact hlex) h
  refine wp_region_any hm ?_
  have := any_of_anyE (Q' := Q) (g := l.toArray.size - n) (fun listed a' inv hL => by
    have hd : listed.getD m false = true := by
      cases hh : listed.getD m false with
      | true => rfl
      | false =>
        exfalso
        have hms : m < listed.size := by rw [inv.size]; omega
        have h1 := hL.1
        rw [← hdl] at h1
        have hg : (l.drop n).length ≠ 0 := by rw [List.length_drop]; omega
        obtain ⟨g, hg'⟩ := Nat.exists_eq_succ_of_ne_zero hg
        rw [hg'] at h1
        simp only [Region.seqB, Bool.and_eq_true, decide_eq_true_eq] at h1
        exact tail_waits hs hc hn inv _ m rfl hmn (getD_in hms hh) n (Nat.le_refl _) (by rw [h1.1]; simp)
    rw [hd]
    have := wpAny_of_seq (md := .any) (Q' := Q) (l.drop n) n listed a' w1 (fun j => by simp [List.getElem?_drop]) (by rw [hdl]; exact hL.1) hL.2
    rwa [hdl] at this) _ _ _ inv0 H
  rw [htl, show n + (l.toArray.size - n) = l.toArray.size from by omega, getD_replicate_false] at this
  exact this

theorem wpE_nil {Q : Act → Prop} {a : Act} {i : Nat} (h : ∀ K : Act → Prop, (∀ a, Q a → K a) → K a) : wpE P ops w0 w1 m Q i [] a := h Q (fun _ h => h)
/-- One operation that only reads. -/
theorem wpE_read {Q : Act → Prop} {a : Act} {o : Oper} {rest : List Oper} {i : Nat} (hg : o.guard = none) (him : (i == m) = false) (v : Value) (h : ∀ b, (execOp a.eval o).run P (wAt w0 w1 b) = .ok (.value v) (wAt w0 w1 b)) (hK : wpE P ops w0 w1 m Q (i + 1) rest (a.put o.dst v)) : wpE P ops w0 w1 m Q i (o :: rest) a :=
  ⟨v, .inl ⟨by simp [Region.wanted, hg], by rw [if_neg (by simpa using him)]; exact h⟩, hK⟩
/-- The one that turns the world. -/
theorem wpE_turn {Q : Act → Prop} {a : Act} {o : Oper} {rest : List Oper} (hg : o.guard = none) (v : Value) (h : (execOp a.eval o).run P w0 = .ok (.value v) w1) (hK : wpE P ops w0 w1 m Q (m + 1) rest (a.put o.dst v)) : wpE P ops w0 w1 m Q m (o :: rest) a :=
  ⟨v, .inl ⟨by simp [Region.wanted, hg], by rw [if_pos rfl]; exact h⟩, hK⟩
end

end Go.Proofs.YthdmbbfppgenlaaGreat
