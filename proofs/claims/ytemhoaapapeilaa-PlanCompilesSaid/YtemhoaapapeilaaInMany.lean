/-
  A region that draws its order, and in which several operations make memory: each yields one of many values (where its block lies hangs on the order); what each has made is known at the end.
-/
import Derived.Test.YtemhoaapapeilaaInTurn
namespace Go.Proofs.Ytemhoaapapeilaa
open Go.RowKit
set_option linter.unusedVariables false

section
variable {P : Program} {ops : Array Oper} {md : Region.Mode} {C : World → Prop} {V : Nat → Option Value}

/-- What an operation may have yielded, seen from a later world. -/
def can (P : Program) (C : World → Prop) (o : Oper) (a : Act) (u : Value) (w' : World) : Prop := ∃ w0 w1, C w0 ∧ (execOp a.eval o).run P w0 = .ok (.value u) w1 ∧ Below w1.heap.size w1 w'
def gets (P : Program) (C : World → Prop) (V : Nat → Option Value) (i : Nat) (o : Oper) (a : Act) (u : Value) (w' : World) : Prop :=
  match V i with
  | none => can P C o a u w'
  | some v => u = v
def yldM (P : Program) (ops : Array Oper) (C : World → Prop) (V : Nat → Option Value) (i : Nat) (o : Oper) (a : Act) : Prop :=
  Region.wanted o (yielded ops a.tmps) = true ∧ match V i with
    | none => ∀ w, C w → ∃ u w', (execOp a.eval o).run P w = .ok (.value u) w' ∧ C w' ∧ Below w.heap.size w w'
    | some v => ∀ w, C w → ∃ f args, (execOp a.eval o).run P w = .ok (.enter f args) w ∧ Calls P f args w fun e w'' => e = .returned v ∧ C w'' ∧ Below w.heap.size w w''
theorem gets.same {i : Nat} {o : Oper} {a a' : Act} (he : execOp a'.eval o = execOp a.eval o) : gets P C V i o a' = gets P C V i o a := by
  funext u w'
  unfold gets can
  rw [he]
theorem yldM.same {i : Nat} {o : Oper} {a a' : Act} (h : yldM P ops C V i o a) (he : execOp a'.eval o = execOp a.eval o) (hw : Region.wanted o (yielded ops a'.tmps) = Region.wanted o (yielded ops a.tmps)) : yldM P ops C V i o a' := by
  unfold yldM at *
  rw [he, hw]
  exact h
theorem gets.stable {i : Nat} {o : Oper} {a : Act} {u : Value} {w w' : World} (h : gets P C V i o a u w) (hb : Below w.heap.size w w') : gets P C V i o a u w' := by
  unfold gets at *
  split at h
  · obtain ⟨w0, w1, h1, h2, h3⟩ := h
    exact ⟨w0, w1, h1, h2, bthen h3 hb⟩
  · exact h
theorem yldM.some {i : Nat} {o : Oper} {a : Act} (h : yldM P ops C V i o a) (hC : ∃ w, C w) : ∃ u w', gets P C V i o a u w' := by
  unfold yldM at h
  unfold gets
  obtain ⟨w, hw⟩ := hC
  cases hv : V i with
  | none =>
    simp only [hv] at h ⊢
    obtain ⟨u, w', h1, h2, h3⟩ := h.2 w hw
    exact ⟨u, w', w, w', hw, h1, Below.refl _ _⟩
  | some v => exact ⟨v, w, rfl⟩

/-- Any order of the operations ahead of number n; D: what is known of the world by then. -/
def anyM (P : Program) (md : Region.Mode) (ops : Array Oper) (C : World → Prop) (V : Nat → Option Value) (n : Nat) (L : Array Bool → Act → (World → Prop) → Prop) : Nat → (World → Prop) → Array Bool → Act → Prop
  | 0, D, listed, a => L listed a D
  | f + 1, D, listed, a => Region.ready md ops listed ≠ [] ∧ ∀ i ∈ Region.ready md ops listed, i < n ∧ ∃ o, ops[i]? = some o ∧ yldM P ops C V i o a ∧ ∀ u, (∃ w', gets P C V i o a u w') → anyM P md ops C V n L f (fun w => D w ∧ gets P C V i o a u w) (listed.setIfInBounds i true) (a.put o.dst u)

theorem any_of_anyM {n g : Nat} {L : Array Bool → Act → (World → Prop) → Prop} {Q' : Exit → Act → World → Prop} (hL : ∀ listed a D w, C w → D w → L listed a D → wpAny P md ops Q' g listed a w) :
    ∀ (f : Nat) (D : World → Prop) (listed : Array Bool) (a : Act) (w : World), C w → D w → (∀ w w', D w → Below w.heap.size w w' → D w') → anyM P md ops C V n L f D listed a → wpAny P md ops Q' (f + g) listed a w := by
  intro f
  induction f with
  | zero => intro D listed a w hC hD _ h; rw [Nat.zero_add]; exact hL _ _ _ _ hC hD h
  | succ f ih =>
    intro D listed a w hC hD hst h
    rw [show f + 1 + g = (f + g) + 1 from by omega]
    refine ⟨fun h0 => absurd h0 h.1, fun i hi => ?_⟩
    obtain ⟨_, o, h1, h2, h3⟩ := h.2 i hi
    have next : ∀ u w', C w' → Below w.heap.size w w' → gets P C V i o a u w' → wpAny P md ops Q' (f + g) (listed.setIfInBounds i true) (a.put o.dst u) w' := fun u w' hC' hb hg =>
      ih _ _ _ _ hC' ⟨hst _ _ hD hb, hg⟩ (fun w1 w2 hh hb' => ⟨hst _ _ hh.1 hb', hh.2.stable hb'⟩) (h3 u ⟨w', hg⟩)
    unfold wpOp
    simp only [h1]
    unfold yldM at h2
    obtain ⟨hw, h2⟩ := h2
    simp only [hw, if_true]
    left
    unfold Oper.wp
    cases hv : V i with
    | none =>
      simp only [hv] at h2
      obtain ⟨u, w', hr, hC', hb⟩ := h2 w hC
      rw [hr]
      simp only [Oper.upon]
      exact next u w' hC' hb (by unfold gets; rw [hv]; exact ⟨w, w', hC, hr, Below.refl _ _⟩)
    | some v =>
      simp only [hv] at h2
      obtain ⟨f', args, hr, hc⟩ := h2 w hC
      rw [hr]
      simp only [Oper.upon]
      exact hc.mono fun e w'' ⟨he, hC', hb⟩ => by subst he; exact next v w'' hC' hb (by unfold gets; rw [hv])

theorem anyM_first {n i : Nat} {oi : Oper} {L : Array Bool → Act → (World → Prop) → Prop} (hCn : ∃ w, C w) (hi : ops[i]? = some oi) (hsel : ∀ (j : Nat) (o : Oper) cs b, ops[j]? = some o → o.op ≠ .select cs b)
    (hs : Region.sinkB md ops n = true) (hc : Region.chainB md ops n = true) (hn : n < ops.size) (hin : i < n) (hdone : ∀ listed a D, L listed a D → ∀ j ∈ Region.ready md ops listed, n ≤ j) :
    ∀ (f : Nat) (D : World → Prop) (listed : Array Bool) (a : Act), HeadInv md ops n listed →
      (∀ j oj, ops[j]? = some oj → j ≠ i → listed.getD j true = false → (∀ e ∈ oj.after, Region.binds md e = true → e.on ≠ i) → oi.apart ops oj = true) →
      i ∈ Region.ready md ops listed → yldM P ops C V i oi a → (∀ u, (∃ w', gets P C V i oi a u w') → anyM P md ops C V n L f (fun w => D w ∧ gets P C V i oi a u w) (listed.setIfInBounds i true) (a.put oi.dst u)) → anyM P md ops C V n L (f + 1) D listed a := by
  intro f
  induction f with
  | zero =>
    intro D listed a inv _ hr hy H
    have hun := (mem_ready.1 hr).1
    refine ⟨fun h => (by rw [h] at hr; cases hr), fun j hj => ?_⟩
    have hjn : j < n := Nat.lt_of_not_le fun h => tail_waits hs hc hn inv _ i rfl hin hun j h hj
    by_cases hji : j = i
    · subst hji
      exact ⟨hjn, oi, hi, hy, H⟩
    · obtain ⟨u0, hu0⟩ := hy.some hCn
      have := hdone _ _ _ (H u0 hu0) j (ready_mono hj hji)
      omega
  | succ f ih =>
    intro D listed a inv hfree hr hy H
    have hun := (mem_ready.1 hr).1
    refine ⟨fun h => (by rw [h] at hr; cases hr), fun j hj => ?_⟩
    have hjn : j < n := Nat.lt_of_not_le fun h => tail_waits hs hc hn inv _ i rfl hin hun j h hj
    by_cases hji : j = i
    · subst hji
      exact ⟨hjn, oi, hi, hy, H⟩
    · obtain ⟨hjun, oj, hoj, hall⟩ := mem_ready.1 hj
      have hno : ∀ e ∈ oj.after, Region.binds md e = true → e.on ≠ i := fun e he hb heq => by
        have h1 := hall e he hb
        rw [heq, getD_both hun] at h1
        cases h1
      obtain ⟨a1, a2, a3⟩ := Oper.apart_spec (hfree j oj hoj hji hjun hno)
      have ej : ∀ u, execOp (a.put oi.dst u).eval oj = execOp a.eval oj := fun u => execOp_put oj (fun cs b => hsel j oj cs b hoj) a oi.dst u a1
      have ei : ∀ u, execOp (a.put oj.dst u).eval oi = execOp a.eval oi := fun u => execOp_put oi (fun cs b => hsel i oi cs b hi) a oj.dst u a3
      have hyj : yldM P ops C V j oj a := by
        obtain ⟨u0, hu0⟩ := hy.some hCn
        obtain ⟨_, oj', hoj', hyj, _⟩ := (H u0 hu0).2 j (ready_mono hj hji)
        obtain rfl : oj' = oj := Option.some.inj (hoj'.symm.trans hoj)
        exact hyj.same (ej u0).symm (wanted_put oj' a oi.dst u0 a1).symm
      refine ⟨hjn, oj, hoj, hyj, fun uj huj => ?_⟩
      refine ih _ (listed.setIfInBounds j true) (a.put oj.dst uj) (inv.set hj hjn) (fun k ok hk hki hun' hno' => ?_) (ready_mono hr (Ne.symm hji)) (hy.same (ei uj) (wanted_put oi a oj.dst uj a3)) (fun ui hui => ?_)
      · refine hfree k ok hk hki ?_ hno'
        by_cases hjk : j = k
        · subst hjk; exact hjun
        · rw [getD_set_ne true hjk] at hun'; exact hun'
      · rw [gets.same (ei uj)] at hui
        obtain ⟨_, oj', hoj', _, hrest⟩ := (H ui hui).2 j (ready_mono hj hji)
        obtain rfl : oj' = oj := Option.some.inj (hoj'.symm.trans hoj)
        have h1 := hrest uj (by rw [gets.same (ej ui)]; exact huj)
        rw [gets.same (ej ui)] at h1
        have e1 : (fun w => (D w ∧ gets P C V i oi a ui w) ∧ gets P C V j oj' a uj w) = (fun w => (D w ∧ gets P C V j oj' a uj w) ∧ gets P C V i oi (a.put oj'.dst uj) ui w) := by
          funext w
          rw [gets.same (ei uj)]
          exact propext ⟨fun ⟨⟨x, y⟩, z⟩ => ⟨⟨x, z⟩, y⟩, fun ⟨⟨x, y⟩, z⟩ => ⟨⟨x, z⟩, y⟩⟩
        rw [e1] at h1
        rw [Array.setIfInBounds_comm _ _ hji, ← Act.put_comm a ui uj a2]
        exact h1

/-- The walk in the text's order. -/
def wpM (P : Program) (ops : Array Oper) (C : World → Prop) (V : Nat → Option Value) (Q : Act → (World → Prop) → Prop) : Nat → List Oper → (World → Prop) → Act → Prop
  | _, [], D, a => Q a D
  | i, o :: rest, D, a => yldM P ops C V i o a ∧ ∀ u, (∃ w', gets P C V i o a u w') → wpM P ops C V Q (i + 1) rest (fun w => D w ∧ gets P C V i o a u w) (a.put o.dst u)

theorem anyM_lex {n g : Nat} {Lq : Act → (World → Prop) → Prop} (hCn : ∃ w, C w) (hsel : Region.noSelect ops = true) (hs : Region.sinkB md ops n = true) (hc : Region.chainB md ops n = true) (hn : n < ops.size) :
    ∀ (l : List Oper) (k : Nat) (D : World → Prop) (listed : Array Bool) (a : Act), (∀ j, j < l.length → l[j]? = ops[k + j]?) → k + l.length = n → HeadInv md ops n listed → Region.lexHead md ops g l.length k listed = true → wpM P ops C V Lq k l D a →
    anyM P md ops C V n (fun listed' a' D' => Region.seqB md ops g n listed' = true ∧ Lq a' D') l.length D listed a := by
  intro l
  induction l with
  | nil =>
    intro k D listed a _ hk _ hB h
    obtain rfl : k = n := by simpa using hk
    exact ⟨by simpa [Region.lexHead] using hB, h⟩
  | cons o l ih =>
    intro k D listed a hl hk inv hB h
    have h0 : ops[k]? = some o := by simpa using (hl 0 (by simp)).symm
    simp only [List.length_cons, Region.lexHead, Bool.and_eq_true] at hB
    obtain ⟨⟨hr, hf⟩, hB'⟩ := hB
    have hkn : k < n := by simp only [List.length_cons] at hk; omega
    have hr' : k ∈ Region.ready md ops listed := by simpa using hr
    obtain ⟨hy, hK⟩ := h
    exact anyM_first hCn h0 (Region.noSelect_spec hsel) hs hc hn hkn (fun listed' a' D' hL => seqB_ready hL.1) l.length D listed a inv (Region.free_spec h0 hf) hr' hy
      (fun u hu => ih (k + 1) _ _ _ (fun j hj => by have := hl (j + 1) (by simp; omega); simpa [Nat.add_assoc, Nat.add_comm 1 j] using this) (by simp only [List.length_cons] at hk; omega) (inv.set hr' hkn) hB' (hK u hu))

/-- The region: ahead of number n all keeps to the class and only makes memory; from n on one behind the other, in every world of which D is known. -/
theorem wp_region_many {id : Nat} {Q : Exit → Act → World → Prop} {a : Act} {w : World} {l : List Oper} (C : World → Prop) (V : Nat → Option Value) (n : Nat) (hm : P.follows .mixedOrders = true) (hB : Region.lexTailB .any l.toArray n = true) (hC : C w.drew)
    (h : wpM P l.toArray C V (fun a' D => ∀ w', C w' → D w' → wpList P l.toArray Q (l.drop n) a' w') 0 (l.take n) (fun _ => True) a) : (Code.region id l.toArray true).wp P Q a w := by
  simp only [Region.lexTailB, Bool.and_eq_true, decide_eq_true_eq] at hB
  obtain ⟨⟨⟨⟨hsel, hn⟩, hs⟩, hc⟩, hlex⟩ := hB
  have hn' : n < l.length := by simpa using hn
  have htl : (l.take n).length = n := by simp; omega
  have hdl : (l.drop n).length = l.toArray.size - n := by simp
  have inv0 : HeadInv .any l.toArray n (Array.replicate l.toArray.size false) :=
    ⟨by simp, fun j oj _ hl => (by rw [getD_replicate_false] at hl; cases hl), fun t _ ht => getD_in (by simpa using ht) (getD_replicate_false _ _)⟩
  have H := anyM_lex (md := .any) (g := l.toArray.size - n) ⟨_, hC⟩ hsel hs hc hn (l.take n) 0 _ _ a (fun j hj => by
    have hj' : j < n := by rw [htl] at hj; exact hj
    simp [hj']) (by simpa using htl) inv0 (by rw [htl]; exact hlex) h
  refine wp_region_any hm ?_
  have := any_of_anyM (Q' := Q) (g := l.toArray.size - n) (fun listed a' D' w' hw' hD' hL => by
    have := wpAny_of_seq (md := .any) (Q' := Q) (l.drop n) n listed a' w' (fun j => by simp [List.getElem?_drop]) (by rw [hdl]; exact hL.1) (hL.2 _ hw' hD')
    rwa [hdl] at this) _ _ _ _ _ hC trivial (fun _ _ h _ => h) H
  rw [htl, show n + (l.toArray.size - n) = l.toArray.size from by omega] at this
  exact this

theorem wpM_mono {Q : Act → (World → Prop) → Prop} (hQ : ∀ a D D', (∀ w, D' w → D w) → Q a D → Q a D') : ∀ (l : List Oper) (i : Nat) (D D' : World → Prop) (a : Act), (∀ w, D' w → D w) → wpM P ops C V Q i l D a → wpM P ops C V Q i l D' a := by
  intro l
  induction l with
  | nil => intro i D D' a hD h; exact hQ a D D' hD h
  | cons o l ih => intro i D D' a hD h; exact ⟨h.1, fun u hu => ih _ _ _ _ (fun w hw => ⟨hD w hw.1, hw.2⟩) (h.2 u hu)⟩
/-- The last: what is known is used. -/
theorem wpM_nil {Q : Act → (World → Prop) → Prop} {D : World → Prop} {a : Act} {i : Nat} (h : Q a D) : wpM P ops C V Q i [] D a := h
/-- One value in every world. -/
theorem wpM_one {Q : Act → (World → Prop) → Prop} (hQ : ∀ a D D', (∀ w, D' w → D w) → Q a D → Q a D') {D : World → Prop} {a : Act} {o : Oper} {rest : List Oper} {i : Nat} (hv : V i = none) (hw : Region.wanted o (yielded ops a.tmps) = true) (v : Value) (h : ∀ w, C w → (execOp a.eval o).run P w = .ok (.value v) w)
    (hK : wpM P ops C V Q (i + 1) rest D (a.put o.dst v)) : wpM P ops C V Q i (o :: rest) D a := by
  refine ⟨⟨hw, ?_⟩, fun u hu => ?_⟩
  · rw [hv]
    exact fun w hC => ⟨v, w, h w hC, hC, Below.refl _ _⟩
  · unfold gets at hu
    rw [hv] at hu
    obtain ⟨w', w0, w1, h1, h2, _⟩ := hu
    rw [h w0 h1] at h2
    simp only [Result.ok.injEq, Next.value.injEq] at h2
    rw [← h2.1]
    exact wpM_mono hQ _ _ _ _ _ (fun w hw => hw.1) hK
/-- A call, whose value is told ahead. -/
theorem wpM_call {Q : Act → (World → Prop) → Prop} (hQ : ∀ a D D', (∀ w, D' w → D w) → Q a D → Q a D') {D : World → Prop} {a : Act} {o : Oper} {rest : List Oper} {i : Nat} {v : Value} (hv : V i = some v) (hw : Region.wanted o (yielded ops a.tmps) = true) (h : ∀ w, C w → ∃ f args, (execOp a.eval o).run P w = .ok (.enter f args) w ∧ Calls P f args w fun e w'' => e = .returned v ∧ C w'' ∧ Below w.heap.size w w'')
    (hK : wpM P ops C V Q (i + 1) rest D (a.put o.dst v)) : wpM P ops C V Q i (o :: rest) D a := by
  refine ⟨⟨hw, ?_⟩, fun u hu => ?_⟩
  · rw [hv]; exact h
  · unfold gets at hu
    rw [hv] at hu
    obtain ⟨_, rfl⟩ := hu
    exact wpM_mono hQ _ _ _ _ _ (fun w hw => hw.1) hK
/-- Memory made: R tells what is known of it, whatever comes behind. -/
theorem wpM_many {Q : Act → (World → Prop) → Prop} (hQ : ∀ a D D', (∀ w, D' w → D w) → Q a D → Q a D') {D : World → Prop} {a : Act} {o : Oper} {rest : List Oper} {i : Nat} (hv : V i = none) (hw : Region.wanted o (yielded ops a.tmps) = true) (R : Value → World → Prop) (hR : ∀ u w w', R u w → Below w.heap.size w w' → R u w')
    (h : ∀ w, C w → ∃ u w', (execOp a.eval o).run P w = .ok (.value u) w' ∧ C w' ∧ Below w.heap.size w w' ∧ R u w') (hK : ∀ u, (∃ w, R u w) → wpM P ops C V Q (i + 1) rest (fun w => D w ∧ R u w) (a.put o.dst u)) : wpM P ops C V Q i (o :: rest) D a := by
  refine ⟨⟨hw, ?_⟩, fun u hu => ?_⟩
  · rw [hv]
    exact fun w hC => by obtain ⟨u, w', h1, h2, h3, _⟩ := h w hC; exact ⟨u, w', h1, h2, h3⟩
  · unfold gets at hu ⊢
    rw [hv] at hu
    have key : ∀ w', can P C o a u w' → R u w' := fun w' ⟨w0, w1, h1, h2, h3⟩ => by
      obtain ⟨u', w2, g1, _, _, g4⟩ := h w0 h1
      rw [h2] at g1
      simp only [Result.ok.injEq, Next.value.injEq] at g1
      obtain ⟨rfl, rfl⟩ := g1
      exact hR _ _ _ g4 h3
    obtain ⟨w', hu⟩ := hu
    refine wpM_mono hQ _ _ _ _ _ (fun w hw => ⟨hw.1, ?_⟩) (hK u ⟨w', key w' hu⟩)
    have := hw.2
    simp only [hv] at this
    exact key w this
theorem wpM_of_quiet {Q : Act → (World → Prop) → Prop} (hQ : ∀ a D D', (∀ w, D' w → D w) → Q a D → Q a D') (hCn : ∃ w, C w) {D : World → Prop} {r : List Oper} : ∀ (l : List Oper) (i : Nat) (a : Act), l.all (fun o => plainB o.op && o.guard.isNone) = true → (∀ j, j < l.length → V (i + j) = none) → wpQuiet P ops (fun w => ∃ p : In C, w = p.w) (wpM P ops C V Q (i + l.length) r D) l a → wpM P ops C V Q i (l ++ r) D a := by
  intro l
  induction l with
  | nil => intro i a _ _ h; exact h
  | cons o l ih =>
    intro i a hp hV h
    simp only [List.all_cons, Bool.and_eq_true] at hp
    obtain ⟨⟨hp1, hp2⟩, hp3⟩ := hp
    have hw : Region.wanted o (yielded ops a.tmps) = true := by
      unfold Region.wanted
      rw [Option.isNone_iff_eq_none.1 hp2]
    simp only [wpQuiet] at h
    simp only [hw, if_true] at h
    obtain ⟨v, h1, h2⟩ := h
    have hone : ∀ w, C w → (execOp a.eval o).run P w = .ok (.value v) w := fun w hC => by
      have h3 := h1 w ⟨⟨w, hC⟩, rfl⟩
      unfold Oper.quietAt at h3
      generalize hr : (execOp a.eval o).run P w = r' at *
      cases r' with
      | ok n w' =>
        obtain ⟨u, rfl⟩ := plain_value hp1 hr
        simp only [Oper.quietUpon] at h3
        obtain ⟨rfl, rfl⟩ := h3
        rfl
      | halt x w' => simp only [Oper.quietUpon] at h3
    refine wpM_one hQ (by have := hV 0 (by simp); simpa using this) hw v hone ?_
    refine ih (i + 1) _ hp3 (fun j hj => by have := hV (j + 1) (by simp; omega); rwa [show i + (j + 1) = i + 1 + j from by omega] at this) ?_
    rw [List.length_cons, show i + (l.length + 1) = i + 1 + l.length from by omega] at h2
    exact h2
/-- The next k operations, of which each gives one value and turns nothing, by quiet steps; they end at number j. -/
theorem wpM_part {Q : Act → (World → Prop) → Prop} (hQ : ∀ a D D', (∀ w, D' w → D w) → Q a D → Q a D') (hCn : ∃ w, C w) {D : World → Prop} {a : Act} {l : List Oper} {i : Nat} (k j : Nat) (hp : (l.take k).all (fun o => plainB o.op && o.guard.isNone) = true) (hj : i + (l.take k).length = j) (hV : (List.range (l.take k).length).all (fun j => (V (i + j)).isNone) = true) (h : wpQuiet P ops (fun w => ∃ p : In C, w = p.w) (wpM P ops C V Q j (l.drop k) D) (l.take k) a) : wpM P ops C V Q i l D a := by
  subst hj
  have := wpM_of_quiet (r := l.drop k) hQ hCn (l.take k) i a hp (fun j hj => by
    have := List.all_eq_true.1 hV j (List.mem_range.2 hj)
    exact Option.isNone_iff_eq_none.1 this) h
  rwa [List.take_append_drop] at this
end

end Go.Proofs.Ytemhoaapapeilaa
