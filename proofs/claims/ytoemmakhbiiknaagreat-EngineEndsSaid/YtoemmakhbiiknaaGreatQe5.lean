/-
  A region that draws its order: operations and calls that make memory (each yields one of many values), and ONE operation, number m, that turns what was there (an append, a store); what each has yielded is known at the end.
  KM: what m must know of the value in slot d0, which operation j0 has made.
  CB false, CB true: the worlds ahead of it and behind it; E: what the turning may do (it holds Below); V i = some R: operation i is a call, R is what is known of what it gives.
  Parts of a plan: plan.twin; the two closures of plan.Compile; the place of the next step.
  A region that draws its order, and in which several operations make memory: each yields one of many values (where its block lies hangs on the order); what each has made is known at the end.
-/
import Derived.Test.YtoemmakhbiiknaaGreatQe4
import Derived.Deep.AppendLies
import Derived.Laws.Tables
namespace Go.Proofs.YtoemmakhbiiknaaGreat
open Go.RowKit
set_option linter.unusedVariables false

section
variable {P : Program} {ops : Array Oper} {md : Region.Mode} {CB : Bool → Bool → World → Prop} {E F : World → World → Prop} {m c j0 d0 : Nat} {KM : Value → World → Prop} {V : Nat → Option (Value → World → Prop)}

/-- Does operation m wait for operation i, over some f others? -/
def waitsT (md : Region.Mode) (ops : Array Oper) : Nat → Nat → Nat → Bool
  | 0, m, i => Region.waitsFor md ops m i
  | f + 1, m, i => Region.waitsFor md ops m i || (List.range ops.size).any fun k => Region.waitsFor md ops m k && waitsT md ops f k i
theorem waitsT_listed {n : Nat} {listed : Array Bool} (inv : HeadInv md ops n listed) : ∀ (f m i : Nat), listed.getD m false = true → waitsT md ops f m i = true → listed.getD i true = true := by
  have one : ∀ m i, listed.getD m false = true → Region.waitsFor md ops m i = true → listed.getD i true = true := fun m i hl hw => by
    obtain ⟨oj, hoj, e, he, hbd, hon⟩ := Region.waitsFor_spec hw
    have := inv.closed m oj hoj hl e he hbd
    rw [hon] at this
    cases h : listed.getD i true with
    | true => rfl
    | false => rw [getD_both h] at this; cases this
  intro f
  induction f with
  | zero => exact one
  | succ f ih =>
    intro m i hl hw
    simp only [waitsT, Bool.or_eq_true, List.any_eq_true, Bool.and_eq_true] at hw
    rcases hw with hw | ⟨k, hk, h1, h2⟩
    · exact one m i hl hw
    · have h3 := one m k hl h1
      refine ih k i ?_ h2
      have hks : k < listed.size := by rw [inv.size]; exact List.mem_range.1 hk
      cases h : listed.getD k false with
      | true => rfl
      | false => rw [getD_in hks h] at h3; cases h3
theorem waitsT_of {m i : Nat} (h : Region.waitsFor md ops m i = true) (f : Nat) : waitsT md ops f m i = true := by
  cases f with
  | zero => exact h
  | succ f => simp [waitsT, h]
/-- At which stages may operation i come up? b: m has come up; b': so has c. -/
def stOk (md : Region.Mode) (ops : Array Oper) (m c i : Nat) (b b' : Bool) : Prop := (b = true → waitsT md ops 2 m i = false) ∧ (b' = true → waitsT md ops 2 c i = false) ∧ (waitsT md ops 2 i c = true → b' = true)
def cIn (ops : Array Oper) (c : Nat) : Bool := decide (c < ops.size)
/-- What is asked of E. -/
structure Grow (E F : World → World → Prop) (c : Nat) (V : Nat → Option (Value → World → Prop)) (KM : Value → World → Prop) : Prop where
  km : ∀ u w w', KM u w → E w w' → KM u w'
  below : ∀ w w', Below w.heap.size w w' → F w w'
  sub : ∀ w w', F w w' → E w w'
  trans : ∀ w w' w'', E w w' → E w' w'' → E w w''
  calls : ∀ i R, V i = some R → i ≠ c → ∀ u w w', R u w → E w w' → R u w'
  callc : ∀ R, V c = some R → ∀ u w w', R u w → F w w' → R u w'
def getsG (P : Program) (md : Region.Mode) (ops : Array Oper) (CB : Bool → Bool → World → Prop) (E F : World → World → Prop) (m c j0 d0 : Nat) (KM : Value → World → Prop) (V : Nat → Option (Value → World → Prop)) (i : Nat) (o : Oper) (a : Act) (u : Value) (w' : World) : Prop :=
  if i = m then ∃ w0 w1, CB false (cIn ops c) w0 ∧ KM (a.eval (.tmp d0)) w0 ∧ (execOp a.eval o).run P w0 = .ok (.value u) w1 ∧ Below w1.heap.size w1 w'
  else match V i with
    | none => ∃ b b' w0 w1, stOk md ops m c i b b' ∧ CB b b' w0 ∧ (execOp a.eval o).run P w0 = .ok (.value u) w1 ∧ E w1 w'
    | some R => R u w'
def yldG (P : Program) (md : Region.Mode) (ops : Array Oper) (CB : Bool → Bool → World → Prop) (E F : World → World → Prop) (m c j0 d0 : Nat) (KM : Value → World → Prop) (V : Nat → Option (Value → World → Prop)) (i : Nat) (o : Oper) (a : Act) : Prop :=
  Region.wanted o (yielded ops a.tmps) = true ∧ if i = m then ∀ w, CB false (cIn ops c) w → KM (a.eval (.tmp d0)) w → ∃ u w', (execOp a.eval o).run P w = .ok (.value u) w' ∧ CB true (cIn ops c) w' ∧ F w w'
  else if i = c then ∃ R, V i = some R ∧ ∀ w, CB false false w → ∃ f args, (execOp a.eval o).run P w = .ok (.enter f args) w ∧ Calls P f args w fun e w'' => ∃ u, e = .returned u ∧ CB false true w'' ∧ E w w'' ∧ R u w'' ∧ (i = j0 → KM u w'')
  else match V i with
    | none => ∀ b b' w, stOk md ops m c i b b' → CB b b' w → ∃ u w', (execOp a.eval o).run P w = .ok (.value u) w' ∧ CB b b' w' ∧ Below w.heap.size w w' ∧ (i = j0 → KM u w')
    | some R => ∀ b b' w, stOk md ops m c i b b' → CB b b' w → ∃ f args, (execOp a.eval o).run P w = .ok (.enter f args) w ∧ Calls P f args w fun e w'' => ∃ u, e = .returned u ∧ CB b b' w'' ∧ Below w.heap.size w w'' ∧ R u w'' ∧ (i = j0 → KM u w'')
theorem getsG.same {i : Nat} {o : Oper} {a a' : Act} (he : execOp a'.eval o = execOp a.eval o) (hd : i = m → a'.eval (.tmp d0) = a.eval (.tmp d0)) : getsG P md ops CB E F m c j0 d0 KM V i o a' = getsG P md ops CB E F m c j0 d0 KM V i o a := by
  funext u w'
  unfold getsG
  rw [he]
  by_cases hi : i = m
  · rw [if_pos hi, if_pos hi, hd hi]
  · rw [if_neg hi, if_neg hi]
theorem yldG.same {i : Nat} {o : Oper} {a a' : Act} (h : yldG P md ops CB E F m c j0 d0 KM V i o a) (he : execOp a'.eval o = execOp a.eval o) (hw : Region.wanted o (yielded ops a'.tmps) = Region.wanted o (yielded ops a.tmps)) (hd : i = m → a'.eval (.tmp d0) = a.eval (.tmp d0)) : yldG P md ops CB E F m c j0 d0 KM V i o a' := by
  unfold yldG at *
  rw [he, hw]
  by_cases hi : i = m
  · rw [if_pos hi] at h ⊢
    rw [hd hi]
    exact h
  · rw [if_neg hi] at h ⊢
    exact h
theorem getsG.stable (G : Grow E F c V KM) {i : Nat} {o : Oper} {a : Act} {u : Value} {w w' : World} (h : getsG P md ops CB E F m c j0 d0 KM V i o a u w) (hb : Below w.heap.size w w') : getsG P md ops CB E F m c j0 d0 KM V i o a u w' := by
  unfold getsG at *
  split at h
  · rename_i hi
    rw [if_pos hi]
    obtain ⟨w0, w1, h1, hk, h2, h3⟩ := h
    exact ⟨w0, w1, h1, hk, h2, bthen h3 hb⟩
  · rename_i hi
    rw [if_neg hi]
    cases hv : V i with
    | none =>
      simp only [hv] at h ⊢
      obtain ⟨b, b', w0, w1, h0, h1, h2, h3⟩ := h
      exact ⟨b, b', w0, w1, h0, h1, h2, G.trans _ _ _ h3 (G.sub _ _ (G.below _ _ hb))⟩
    | some R =>
      simp only [hv] at h ⊢
      by_cases hic : i = c
      · subst hic; exact G.callc R hv _ _ _ h (G.below _ _ hb)
      · exact G.calls i R hv hic _ _ _ h (G.sub _ _ (G.below _ _ hb))
theorem getsG.turned (G : Grow E F c V KM) {i : Nat} {o : Oper} {a : Act} {u : Value} {w w' : World} (hi : i ≠ m) (hic : i ≠ c) (h : getsG P md ops CB E F m c j0 d0 KM V i o a u w) (hb : E w w') : getsG P md ops CB E F m c j0 d0 KM V i o a u w' := by
  unfold getsG at *
  rw [if_neg hi] at h ⊢
  cases hv : V i with
  | none =>
    simp only [hv] at h ⊢
    obtain ⟨b, b', w0, w1, h0, h1, h2, h3⟩ := h
    exact ⟨b, b', w0, w1, h0, h1, h2, G.trans _ _ _ h3 hb⟩
  | some R =>
    simp only [hv] at h ⊢
    exact G.calls i R hv hic _ _ _ h hb
theorem getsG.turnedF (G : Grow E F c V KM) {i : Nat} {o : Oper} {a : Act} {u : Value} {w w' : World} (hi : i ≠ m) (h : getsG P md ops CB E F m c j0 d0 KM V i o a u w) (hb : F w w') : getsG P md ops CB E F m c j0 d0 KM V i o a u w' := by
  by_cases hic : i = c
  · subst hic
    unfold getsG at *
    rw [if_neg hi] at h ⊢
    cases hv : V i with
    | none =>
      simp only [hv] at h ⊢
      obtain ⟨b, b', w0, w1, h0, h1, h2, h3⟩ := h
      exact ⟨b, b', w0, w1, h0, h1, h2, G.trans _ _ _ h3 (G.sub _ _ hb)⟩
    | some R =>
      simp only [hv] at h ⊢
      exact G.callc R hv _ _ _ h hb
  · exact h.turned G hi hic (G.sub _ _ hb)
theorem yldG.some (G : Grow E F c V KM) {i : Nat} {o : Oper} {a : Act} (h : yldG P md ops CB E F m c j0 d0 KM V i o a) (hC : ∀ b', ∃ w, CB false b' w) (hci : waitsT md ops 2 c i = true → waitsT md ops 2 i c = false) (hKn : i = m → ∃ w, CB false (cIn ops c) w ∧ KM (a.eval (.tmp d0)) w) : ∃ u w', getsG P md ops CB E F m c j0 d0 KM V i o a u w' := by
  unfold yldG at h
  unfold getsG
  by_cases hi : i = m
  · simp only [hi, if_true] at h ⊢
    obtain ⟨w, hw, hk⟩ := hKn hi
    obtain ⟨u, w', h1, h2, h3⟩ := h.2 w hw hk
    exact ⟨u, w', w, w', hw, hk, h1, Below.refl _ _⟩
  · simp only [hi, if_false] at h ⊢
    by_cases hic : i = c
    · simp only [hic, if_true] at h ⊢
      obtain ⟨_, R, hv, h⟩ := h
      obtain ⟨w, hw⟩ := hC false
      obtain ⟨f, args, _, hc⟩ := h w hw
      obtain ⟨e, w', fr, ⟨u, _, _, _, hR, _⟩, _⟩ := hc []
      simp only [hv]
      exact ⟨u, w', hR⟩
    · simp only [hic, if_false] at h
      obtain ⟨w, hw⟩ := hC (waitsT md ops 2 i c)
      have hst2 : waitsT md ops 2 i c = true → waitsT md ops 2 c i = false := fun h => by
        cases hh : waitsT md ops 2 c i with
        | false => rfl
        | true => rw [hci hh] at h; cases h
      have hst : stOk md ops m c i false (waitsT md ops 2 i c) := ⟨fun h => (by cases h), hst2, fun h => h⟩
      cases hv : V i with
      | none =>
        simp only [hv] at h ⊢
        obtain ⟨u, w', h1, h2, h3, _⟩ := h.2 false _ w hst hw
        exact ⟨u, w', false, _, w, w', hst, hw, h1, G.sub _ _ (G.below _ _ (Below.refl _ _))⟩
      | some R =>
        simp only [hv] at h ⊢
        obtain ⟨f, args, _, hc⟩ := h.2 false _ w hst hw
        obtain ⟨e, w', fr, ⟨u, _, _, _, hR, _⟩, _⟩ := hc []
        exact ⟨u, w', hR⟩
/-- What is asked of the places: operation m waits for operation j0 and looks at its slot d0; nobody else writes that slot. -/
def knowsB (md : Region.Mode) (ops : Array Oper) (m c j0 d0 : Nat) : Bool :=
  ((if cIn ops c then waitsT md ops 2 m c && m != c else (List.range ops.size).all fun i => !waitsT md ops 2 i c) && (List.range ops.size).all fun i => !(waitsT md ops 2 c i && waitsT md ops 2 i c)) &&
  (Region.waitsFor md ops m j0 && ((ops[m]?).map fun o => (o.looksAt ops).contains d0) == some true && ((ops[j0]?).map (·.dst)) == some (some d0) && (List.range ops.size).all fun i => i == j0 || ((ops[i]?).map fun o => o.dst != some d0).getD true)
theorem waitsT_ready {n i : Nat} {listed : Array Bool} (inv : HeadInv md ops n listed) (hi : i ∈ Region.ready md ops listed) (c : Nat) (h : waitsT md ops 2 i c = true) : listed.getD c true = true := by
  obtain ⟨_, oi, hoi, hall⟩ := mem_ready.1 hi
  have one : ∀ k, Region.waitsFor md ops i k = true → listed.getD k false = true := fun k hk => by
    obtain ⟨oj, hoj, e, he, hbd, hon⟩ := Region.waitsFor_spec hk
    obtain rfl : oi = oj := Option.some.inj (hoi.symm.trans hoj)
    have := hall e he hbd
    rwa [hon] at this
  have two : ∀ k, listed.getD k false = true → listed.getD k true = true := fun k hk => by
    cases hh : listed.getD k true with
    | true => rfl
    | false => rw [getD_both hh] at hk; cases hk
  simp only [waitsT, Bool.or_eq_true, List.any_eq_true, Bool.and_eq_true] at h
  rcases h with h | ⟨k, hk, h1, h2⟩
  · exact two c (one c h)
  · refine waitsT_listed inv 1 k c (one k h1) ?_
    simp only [waitsT, Bool.or_eq_true, List.any_eq_true, Bool.and_eq_true]
    exact h2
theorem eval_put_ne {a : Act} {dst : Option Tmp} {v : Value} {d0 : Nat} (h : dst ≠ some d0) : (a.put dst v).eval (.tmp d0) = a.eval (.tmp d0) := Act.eval_put (fun d hd he => h (by rw [hd]; injection he with he; rw [he]))
theorem eval_put_same {a : Act} {v : Value} {d0 : Nat} (h : d0 < a.tmps.size) : (a.put (some d0) v).eval (.tmp d0) = v := by
  simp [Act.put, Act.eval, h]
theorem size_put {a : Act} {dst : Option Tmp} {v : Value} : (a.put dst v).tmps.size = a.tmps.size := by
  cases dst <;> simp [Act.put]

/-- Any order of the operations ahead of number n; D: what is known of the world by then. -/
def anyG (P : Program) (md : Region.Mode) (ops : Array Oper) (CB : Bool → Bool → World → Prop) (E F : World → World → Prop) (m c j0 d0 : Nat) (KM : Value → World → Prop) (V : Nat → Option (Value → World → Prop)) (n : Nat) (L : Array Bool → Act → (World → Prop) → Prop) : Nat → (World → Prop) → Array Bool → Act → Prop
  | 0, D, listed, a => L listed a D
  | f + 1, D, listed, a => Region.ready md ops listed ≠ [] ∧ ∀ i ∈ Region.ready md ops listed, i < n ∧ ∃ o, ops[i]? = some o ∧ yldG P md ops CB E F m c j0 d0 KM V i o a ∧ ∀ u, (∃ w', getsG P md ops CB E F m c j0 d0 KM V i o a u w') → anyG P md ops CB E F m c j0 d0 KM V n L f (fun w => D w ∧ getsG P md ops CB E F m c j0 d0 KM V i o a u w) (listed.setIfInBounds i true) (a.put o.dst u)

theorem any_of_anyG (G : Grow E F c V KM) {n g : Nat} {L : Array Bool → Act → (World → Prop) → Prop} {Q' : Exit → Act → World → Prop} (hkn : knowsB md ops m c j0 d0 = true) (hL : ∀ listed a D w, HeadInv md ops n listed → CB (listed.getD m false) (listed.getD c false) w → D w → L listed a D → wpAny P md ops Q' g listed a w) :
    ∀ (f : Nat) (D : World → Prop) (listed : Array Bool) (a : Act) (w : World), HeadInv md ops n listed → d0 < a.tmps.size → (listed.getD j0 false = true → KM (a.eval (.tmp d0)) w) → CB (listed.getD m false) (listed.getD c false) w → D w → (∀ w w', D w → Below w.heap.size w w' → D w') → (listed.getD m false = false → listed.getD c false = false → ∀ w w', D w → E w w' → D w') → (listed.getD m false = false → ∀ w w', D w → F w w' → D w') → anyG P md ops CB E F m c j0 d0 KM V n L f D listed a → wpAny P md ops Q' (f + g) listed a w := by
  intro f
  induction f with
  | zero => intro D listed a w inv _ _ hC hD _ _ _ h; rw [Nat.zero_add]; exact hL _ _ _ _ inv hC hD h
  | succ f ih =>
    intro D listed a w inv hds hkm hC hD hst hsE hsF h
    have hkn' := hkn
    simp only [knowsB, Bool.and_eq_true, beq_iff_eq] at hkn'
    obtain ⟨⟨k0, k5⟩, ⟨⟨k1, k2⟩, k3⟩, k4⟩ := hkn'
    rw [show f + 1 + g = (f + g) + 1 from by omega]
    refine ⟨fun h0 => absurd h0 h.1, fun i hi => ?_⟩
    obtain ⟨hin, o, h1, h2, h3⟩ := h.2 i hi
    have hun := (mem_ready.1 hi).1
    have hsz : i < listed.size := by rw [inv.size]; exact (Array.getElem?_eq_some_iff.1 h1).1
    have hwt : ∀ b, listed.getD m false = b → i ≠ m → (b = true → waitsT md ops 2 m i = false) := fun b hb him hbt => by
      cases hwf : waitsT md ops 2 m i with
      | false => rfl
      | true =>
        have := waitsT_listed inv 2 m i (by rw [hb]; exact hbt) hwf
        rw [hun] at this
        cases this
    have hcs : c < ops.size ∨ (cIn ops c = false ∧ listed.getD c false = false ∧ ∀ i, i < ops.size → waitsT md ops 2 i c = false) := by
      by_cases hc : c < ops.size
      · exact .inl hc
      · right
        have hci : cIn ops c = false := by simp [cIn, hc]
        rw [hci] at k0
        refine ⟨hci, by simp [Array.getElem?_eq_none (show listed.size ≤ c by rw [inv.size]; omega)], fun j hj => ?_⟩
        have := List.all_eq_true.1 k0 j (List.mem_range.2 hj)
        simpa using this
    have hisz : i < ops.size := (Array.getElem?_eq_some_iff.1 h1).1
    have hcl : ∀ j, waitsT md ops 2 j c = true → (listed.getD j false = true ∨ j ∈ Region.ready md ops listed) → j < ops.size → listed.getD c false = true := fun j hw hj hjs => by
      have h5 : listed.getD c true = true := hj.elim (fun hj => waitsT_listed inv 2 j c hj hw) (fun hj => waitsT_ready inv hj c hw)
      rcases hcs with hc | ⟨_, _, hc⟩
      · cases hh : listed.getD c false with
        | true => rfl
        | false => rw [getD_in (by rw [inv.size]; exact hc) hh] at h5; cases h5
      · rw [hc j hjs] at hw; cases hw
    have hstc : listed.getD c false = true → waitsT md ops 2 c i = false := fun hb => by
      cases hwf : waitsT md ops 2 c i with
      | false => rfl
      | true =>
        have := waitsT_listed inv 2 c i hb hwf
        rw [hun] at this
        cases this
    have hstk : i ≠ m → stOk md ops m c i (listed.getD m false) (listed.getD c false) := fun him => ⟨hwt _ rfl him, hstc, fun hw => hcl i hw (.inr hi) hisz⟩
    have next : ∀ u w', CB ((listed.setIfInBounds i true).getD m false) ((listed.setIfInBounds i true).getD c false) w' → D w' → E w w' → (i = j0 → KM u w') → getsG P md ops CB E F m c j0 d0 KM V i o a u w' → wpAny P md ops Q' (f + g) (listed.setIfInBounds i true) (a.put o.dst u) w' := fun u w' hC' hD' hE' hku hg => by
      refine ih _ _ _ _ (inv.set hi hin) (by rw [size_put]; exact hds) (fun hlj => ?_) hC' ⟨hD', hg⟩ (fun w1 w2 hh hb' => ⟨hst _ _ hh.1 hb', hh.2.stable G hb'⟩) (fun hl hlc w1 w2 hh hE => ?_) (fun hl w1 w2 hh hF => ?_) (h3 u ⟨w', hg⟩)
      · by_cases hij : i = j0
        · subst hij
          have : o.dst = some d0 := by rw [h1] at k3; simpa using k3
          rw [this, eval_put_same hds]
          exact hku rfl
        · have hdn : o.dst ≠ some d0 := by
            have := List.all_eq_true.1 k4 i (List.mem_range.2 (Array.getElem?_eq_some_iff.1 h1).1)
            rw [h1] at this
            simpa [hij] using this
          rw [eval_put_ne hdn]
          rw [getD_set_ne false hij] at hlj
          exact G.km _ _ _ (hkm hlj) hE'
      · by_cases him : i = m
        · subst him
          simp [hsz] at hl
        · by_cases hic : i = c
          · subst hic
            simp [hsz] at hlc
          · rw [getD_set_ne false him] at hl
            rw [getD_set_ne false hic] at hlc
            exact ⟨hsE hl hlc _ _ hh.1 hE, hh.2.turned G him hic hE⟩
      · by_cases him : i = m
        · subst him
          simp [hsz] at hl
        · rw [getD_set_ne false him] at hl
          exact ⟨hsF hl _ _ hh.1 hF, hh.2.turnedF G him hF⟩
    unfold wpOp
    simp only [h1]
    unfold yldG at h2
    obtain ⟨hw, h2⟩ := h2
    simp only [hw, if_true]
    left
    unfold Oper.wp
    by_cases him : i = m
    · subst him
      rw [if_pos rfl] at h2
      have hcc : listed.getD c false = cIn ops c := by
        rcases hcs with hc | ⟨hc1, hc2, _⟩
        · have hci : cIn ops c = true := by simp [cIn, hc]
          rw [hci] at k0 ⊢
          simp only [if_true, Bool.and_eq_true] at k0
          exact hcl i k0.1 (.inr hi) hisz
        · rw [hc1, hc2]
      have hic : i ≠ c := fun e => by
        subst e
        rcases hcs with hc | ⟨hc1, _, _⟩
        · have hci : cIn ops i = true := by simp [cIn, hc]
          rw [hci] at k0
          simp at k0
        · simp [cIn, hisz] at hc1
      rw [getD_both hun, hcc] at hC
      have hlj : listed.getD j0 false = true := by
        obtain ⟨oj, hoj, e, he, hbd, hon⟩ := Region.waitsFor_spec k1
        obtain ⟨_, oj', hoj', hall⟩ := mem_ready.1 hi
        obtain rfl : oj' = oj := Option.some.inj (hoj'.symm.trans hoj)
        have h9 := hall e he hbd
        rw [hon] at h9
        exact h9
      have hk := hkm hlj
      have hij : i ≠ j0 := fun e => by subst e; rw [getD_both hun] at hlj; cases hlj
      obtain ⟨u, w', hr, hC', hE⟩ := h2 w hC hk
      rw [hr]
      simp only [Oper.upon]
      exact next u w' (by rw [show (listed.setIfInBounds i true).getD i false = true from by simp [hsz], getD_set_ne false hic, hcc]; exact hC') (hsF (getD_both hun) _ _ hD hE) (G.sub _ _ hE) (fun e => absurd e hij) (by unfold getsG; rw [if_pos rfl]; exact ⟨w, w', hC, hk, hr, Below.refl _ _⟩)
    · rw [if_neg him] at h2
      by_cases hic : i = c
      · subst hic
        rw [if_pos rfl] at h2
        obtain ⟨R, hv, h2⟩ := h2
        have hci : cIn ops i = true := by simp [cIn, hisz]
        rw [hci] at k0
        simp only [if_true, Bool.and_eq_true] at k0
        have hlm : listed.getD m false = false := by
          cases hh : listed.getD m false with
          | false => rfl
          | true =>
            have := waitsT_listed inv 2 m i hh k0.1
            rw [hun] at this; cases this
        rw [hlm, getD_both hun] at hC
        obtain ⟨f', args, hr, hc⟩ := h2 w hC
        rw [hr]
        simp only [Oper.upon]
        exact hc.mono fun e w'' ⟨u, he, hC', hE', hR, hku⟩ => by subst he; exact next u w'' (by rw [getD_set_ne false him, hlm, show (listed.setIfInBounds i true).getD i false = true from by simp [hsz]]; exact hC') (hsE hlm (getD_both hun) _ _ hD hE') hE' hku (by unfold getsG; rw [if_neg him, hv]; exact hR)
      · rw [if_neg hic] at h2
        cases hv : V i with
        | none =>
          simp only [hv] at h2
          obtain ⟨u, w', hr, hC', hb, hku⟩ := h2 _ _ w (hstk him) hC
          rw [hr]
          simp only [Oper.upon]
          exact next u w' (by rw [getD_set_ne false him, getD_set_ne false hic]; exact hC') (hst _ _ hD hb) (G.sub _ _ (G.below _ _ hb)) hku (by unfold getsG; rw [if_neg him, hv]; exact ⟨_, _, w, w', hstk him, hC, hr, G.sub _ _ (G.below _ _ (Below.refl _ _))⟩)
        | some R =>
          simp only [hv] at h2
          obtain ⟨f', args, hr, hc⟩ := h2 _ _ w (hstk him) hC
          rw [hr]
          simp only [Oper.upon]
          exact hc.mono fun e w'' ⟨u, he, hC', hb, hR, hku⟩ => by subst he; exact next u w'' (by rw [getD_set_ne false him, getD_set_ne false hic]; exact hC') (hst _ _ hD hb) (G.sub _ _ (G.below _ _ hb)) hku (by unfold getsG; rw [if_neg him, hv]; exact hR)

theorem anyG_first (G : Grow E F c V KM) (hkn : knowsB md ops m c j0 d0 = true) {n i : Nat} {oi : Oper} {L : Array Bool → Act → (World → Prop) → Prop} (hCn : ∀ b', ∃ w, CB false b' w) (hi : ops[i]? = some oi) (hsel : ∀ (j : Nat) (o : Oper) cs b, ops[j]? = some o → o.op ≠ .select cs b)
    (hs : Region.sinkB md ops n = true) (hc : Region.chainB md ops n = true) (hn : n < ops.size) (hin : i < n) (hdone : ∀ listed a D, L listed a D → ∀ j ∈ Region.ready md ops listed, n ≤ j) :
    ∀ (f : Nat) (D : World → Prop) (listed : Array Bool) (a : Act), (i = m → ∃ w, CB false (cIn ops c) w ∧ KM (a.eval (.tmp d0)) w) → HeadInv md ops n listed →
      (∀ j oj, ops[j]? = some oj → j ≠ i → listed.getD j true = false → (∀ e ∈ oj.after, Region.binds md e = true → e.on ≠ i) → oi.apart ops oj = true) →
      i ∈ Region.ready md ops listed → yldG P md ops CB E F m c j0 d0 KM V i oi a → (∀ u, (∃ w', getsG P md ops CB E F m c j0 d0 KM V i oi a u w') → anyG P md ops CB E F m c j0 d0 KM V n L f (fun w => D w ∧ getsG P md ops CB E F m c j0 d0 KM V i oi a u w) (listed.setIfInBounds i true) (a.put oi.dst u)) → anyG P md ops CB E F m c j0 d0 KM V n L (f + 1) D listed a := by
  have hci : waitsT md ops 2 c i = true → waitsT md ops 2 i c = false := fun h => by
    simp only [knowsB, Bool.and_eq_true, beq_iff_eq] at hkn
    have := List.all_eq_true.1 hkn.1.2 i (List.mem_range.2 (Array.getElem?_eq_some_iff.1 hi).1)
    rw [h] at this
    simpa using this
  intro f
  induction f with
  | zero =>
    intro D listed a hKn inv _ hr hy H
    have hun := (mem_ready.1 hr).1
    refine ⟨fun h => (by rw [h] at hr; cases hr), fun j hj => ?_⟩
    have hjn : j < n := Nat.lt_of_not_le fun h => tail_waits hs hc hn inv _ i rfl hin hun j h hj
    by_cases hji : j = i
    · subst hji
      exact ⟨hjn, oi, hi, hy, H⟩
    · obtain ⟨u0, hu0⟩ := hy.some G hCn hci hKn
      have := hdone _ _ _ (H u0 hu0) j (ready_mono hj hji)
      omega
  | succ f ih =>
    intro D listed a hKn inv hfree hr hy H
    have hkn' := hkn
    simp only [knowsB, Bool.and_eq_true, beq_iff_eq] at hkn'
    obtain ⟨⟨k0, k5⟩, ⟨⟨k1, k2⟩, k3⟩, k4⟩ := hkn'
    have hlm : ∀ o, ops[m]? = some o → d0 ∈ o.looksAt ops := fun o ho => by rw [ho] at k2; simpa using k2
    have hun := (mem_ready.1 hr).1
    refine ⟨fun h => (by rw [h] at hr; cases hr), fun j hj => ?_⟩
    have hjn : j < n := Nat.lt_of_not_le fun h => tail_waits hs hc hn inv _ i rfl hin hun j h hj
    by_cases hji : j = i
    · subst hji
      exact ⟨hjn, oi, hi, hy, H⟩
    · obtain ⟨hjun, oj, hoj, hall⟩ := mem_ready.1 hj
      have hno : ∀ e ∈ oj.after, Region.binds md e = true → e.on ≠ i := fun e he hb heq => by
        have h1 := hall e he hb
        rw [heq, getD_both hun] at h1
        cases h1
      obtain ⟨a1, a2, a3⟩ := Oper.apart_spec (hfree j oj hoj hji hjun hno)
      have ej : ∀ u, execOp (a.put oi.dst u).eval oj = execOp a.eval oj := fun u => execOp_put oj (fun cs b => hsel j oj cs b hoj) a oi.dst u a1
      have ei : ∀ u, execOp (a.put oj.dst u).eval oi = execOp a.eval oi := fun u => execOp_put oi (fun cs b => hsel i oi cs b hi) a oj.dst u a3
      have dj : ∀ u, j = m → (a.put oi.dst u).eval (.tmp d0) = a.eval (.tmp d0) := fun u e => eval_put_ne (fun h => a1 d0 h (hlm oj (by rw [← e]; exact hoj)))
      have di : ∀ u, i = m → (a.put oj.dst u).eval (.tmp d0) = a.eval (.tmp d0) := fun u e => eval_put_ne (fun h => a3 d0 h (hlm oi (by rw [← e]; exact hi)))
      have hyj : yldG P md ops CB E F m c j0 d0 KM V j oj a := by
        obtain ⟨u0, hu0⟩ := hy.some G hCn hci hKn
        obtain ⟨_, oj', hoj', hyj, _⟩ := (H u0 hu0).2 j (ready_mono hj hji)
        obtain rfl : oj' = oj := Option.some.inj (hoj'.symm.trans hoj)
        exact hyj.same (ej u0).symm (wanted_put oj' a oi.dst u0 a1).symm (fun e => (dj u0 e).symm)
      refine ⟨hjn, oj, hoj, hyj, fun uj huj => ?_⟩
      refine ih _ (listed.setIfInBounds j true) (a.put oj.dst uj) (fun e => by rw [di uj e]; exact hKn e) (inv.set hj hjn) (fun k ok hk hki hun' hno' => ?_) (ready_mono hr (Ne.symm hji)) (hy.same (ei uj) (wanted_put oi a oj.dst uj a3) (di uj)) (fun ui hui => ?_)
      · refine hfree k ok hk hki ?_ hno'
        by_cases hjk : j = k
        · subst hjk; exact hjun
        · rw [getD_set_ne true hjk] at hun'; exact hun'
      · rw [getsG.same (ei uj) (di uj)] at hui
        obtain ⟨_, oj', hoj', _, hrest⟩ := (H ui hui).2 j (ready_mono hj hji)
        obtain rfl : oj' = oj := Option.some.inj (hoj'.symm.trans hoj)
        have h1 := hrest uj (by rw [getsG.same (ej ui) (dj ui)]; exact huj)
        rw [getsG.same (ej ui) (dj ui)] at h1
        have e1 : (fun w => (D w ∧ getsG P md ops CB E F m c j0 d0 KM V i oi a ui w) ∧ getsG P md ops CB E F m c j0 d0 KM V j oj' a uj w) = (fun w => (D w ∧ getsG P md ops CB E F m c j0 d0 KM V j oj' a uj w) ∧ getsG P md ops CB E F m c j0 d0 KM V i oi (a.put oj'.dst uj) ui w) := by
          funext w
          rw [getsG.same (ei uj) (di uj)]
          exact propext ⟨fun ⟨⟨x, y⟩, z⟩ => ⟨⟨x, z⟩, y⟩, fun ⟨⟨x, y⟩, z⟩ => ⟨⟨x, z⟩, y⟩⟩
        rw [e1] at h1
        rw [Array.setIfInBounds_comm _ _ hji, ← Act.put_comm a ui uj a2]
        exact h1

/-- The walk in the text's order. -/
def wpG (P : Program) (md : Region.Mode) (ops : Array Oper) (CB : Bool → Bool → World → Prop) (E F : World → World → Prop) (m c j0 d0 : Nat) (KM : Value → World → Prop) (V : Nat → Option (Value → World → Prop)) (Q : Act → (World → Prop) → Prop) : Nat → List Oper → (World → Prop) → Act → Prop
  | _, [], D, a => Q a D
  | i, o :: rest, D, a => (i = m → ∃ w, CB false (cIn ops c) w ∧ KM (a.eval (.tmp d0)) w) ∧ yldG P md ops CB E F m c j0 d0 KM V i o a ∧ ∀ u, (∃ w', getsG P md ops CB E F m c j0 d0 KM V i o a u w') → wpG P md ops CB E F m c j0 d0 KM V Q (i + 1) rest (fun w => D w ∧ getsG P md ops CB E F m c j0 d0 KM V i o a u w) (a.put o.dst u)

theorem anyG_lex (G : Grow E F c V KM) (hkB : knowsB md ops m c j0 d0 = true) {n g : Nat} {Lq : Act → (World → Prop) → Prop} (hCn : ∀ b', ∃ w, CB false b' w) (hsel : Region.noSelect ops = true) (hs : Region.sinkB md ops n = true) (hc : Region.chainB md ops n = true) (hn : n < ops.size) :
    ∀ (l : List Oper) (k : Nat) (D : World → Prop) (listed : Array Bool) (a : Act), (∀ j, j < l.length → l[j]? = ops[k + j]?) → k + l.length = n → HeadInv md ops n listed → Region.lexHead md ops g l.length k listed = true → wpG P md ops CB E F m c j0 d0 KM V Lq k l D a →
    anyG P md ops CB E F m c j0 d0 KM V n (fun listed' a' D' => Region.seqB md ops g n listed' = true ∧ Lq a' D') l.length D listed a := by
  intro l
  induction l with
  | nil =>
    intro k D listed a _ hk _ hB h
    obtain rfl : k = n := by simpa using hk
    exact ⟨by simpa [Region.lexHead] using hB, h⟩
  | cons o l ih =>
    intro k D listed a hl hk inv hB h
    have h0 : ops[k]? = some o := by simpa using (hl 0 (by simp)).symm
    simp only [List.length_cons, Region.lexHead, Bool.and_eq_true] at hB
    obtain ⟨⟨hr, hf⟩, hB'⟩ := hB
    have hkn : k < n := by simp only [List.length_cons] at hk; omega
    have hr' : k ∈ Region.ready md ops listed := by simpa using hr
    obtain ⟨hKn, hy, hK⟩ := h
    exact anyG_first G hkB hCn h0 (Region.noSelect_spec hsel) hs hc hn hkn (fun listed' a' D' hL => seqB_ready hL.1) l.length D listed a hKn inv (Region.free_spec h0 hf) hr' hy
      (fun u hu => ih (k + 1) _ _ _ (fun j hj => by have := hl (j + 1) (by simp; omega); simpa [Nat.add_assoc, Nat.add_comm 1 j] using this) (by simp only [List.length_cons] at hk; omega) (inv.set hr' hkn) hB' (hK u hu))

/-- The region: ahead of number n as said; from n on one behind the other, in every world of which D is known. -/
theorem wp_region_grow {id : Nat} {Q : Exit → Act → World → Prop} {a : Act} {w : World} {l : List Oper} (CB : Bool → Bool → World → Prop) (E F : World → World → Prop) (V : Nat → Option (Value → World → Prop)) (KM : Value → World → Prop) (m c n j0 d0 : Nat) (hmn : m < n) (G : Grow E F c V KM) (hkn : knowsB .any l.toArray m c j0 d0 = true) (hds : d0 < a.tmps.size) (hm : P.follows .mixedOrders = true) (hB : Region.lexTailB .any l.toArray n = true) (hC : CB false false w.drew) (hCt : ∃ w, CB false true w)
    (h : wpG P .any l.toArray CB E F m c j0 d0 KM V (fun a' D => ∀ w', CB true (cIn l.toArray c) w' → D w' → wpList P l.toArray Q (l.drop n) a' w') 0 (l.take n) (fun _ => True) a) : (Code.region id l.toArray true).wp P Q a w := by
  simp only [Region.lexTailB, Bool.and_eq_true, decide_eq_true_eq] at hB
  obtain ⟨⟨⟨⟨hsel, hn⟩, hs⟩, hc⟩, hlex⟩ := hB
  have hn' : n < l.length := by simpa using hn
  have htl : (l.take n).length = n := by simp; omega
  have hdl : (l.drop n).length = l.toArray.size - n := by simp
  have inv0 : HeadInv .any l.toArray n (Array.replicate l.toArray.size false) :=
    ⟨by simp, fun j oj _ hl => (by rw [getD_replicate_false] at hl; cases hl), fun t _ ht => getD_in (by simpa using ht) (getD_replicate_false _ _)⟩
  have H := anyG_lex (md := .any) (g := l.toArray.size - n) G hkn (fun b' => by cases b' with | false => exact ⟨_, hC⟩ | true => exact hCt) hsel hs hc hn (l.take n) 0 _ _ a (fun j hj => by
    have hj' : j < n := by rw [htl] at hj; exact hj
    simp [hj']) (by simpa using htl) inv0 (by rw [htl]; exact hlex) h
  refine wp_region_any hm ?_
  have := any_of_anyG (Q' := Q) (g := l.toArray.size - n) G hkn (fun listed a' D' w' inv' hw' hD' hL => by
    have hlm : listed.getD m false = true := by
      cases hh : listed.getD m false with
      | true => rfl
      | false =>
        exfalso
        have hms : m < listed.size := by rw [inv'.size]; omega
        have h1 := hL.1
        rw [← hdl] at h1
        have hg : (l.drop n).length ≠ 0 := by rw [List.length_drop]; omega
        obtain ⟨g, hg'⟩ := Nat.exists_eq_succ_of_ne_zero hg
        rw [hg'] at h1
        simp only [Region.seqB, Bool.and_eq_true, decide_eq_true_eq] at h1
        exact tail_waits hs hc hn inv' _ m rfl hmn (getD_in hms hh) n (Nat.le_refl _) (by rw [h1.1]; simp)
    have hlc : listed.getD c false = cIn l.toArray c := by
      simp only [knowsB, Bool.and_eq_true] at hkn
      have k0 := hkn.1.1
      by_cases hcc : c < l.toArray.size
      · have hci : cIn l.toArray c = true := by simp only [cIn, decide_eq_true_eq]; exact hcc
        rw [hci] at k0 ⊢
        simp only [if_true, Bool.and_eq_true] at k0
        have h5 := waitsT_listed inv' 2 m c hlm k0.1
        cases hh : listed.getD c false with
        | true => rfl
        | false => rw [getD_in (by rw [inv'.size]; exact hcc) hh] at h5; cases h5
      · have hci : cIn l.toArray c = false := by simp only [cIn, decide_eq_false_iff_not]; exact hcc
        rw [hci]
        have : listed.size ≤ c := by rw [inv'.size]; omega
        simp [Array.getElem?_eq_none this]
    rw [hlm, hlc] at hw'
    have := wpAny_of_seq (md := .any) (Q' := Q) (l.drop n) n listed a' w' (fun j => by simp [List.getElem?_drop]) (by rw [hdl]; exact hL.1) (hL.2 _ hw' hD')
    rwa [hdl] at this) _ _ _ _ _ inv0 hds (fun h => by rw [getD_replicate_false] at h; cases h) (by rw [getD_replicate_false, getD_replicate_false]; exact hC) trivial (fun _ _ h _ => h) (fun _ _ _ _ h _ => h) (fun _ _ _ h _ => h) H
  rw [htl, show n + (l.toArray.size - n) = l.toArray.size from by omega] at this
  exact this
end

section
variable {P : Program} {ops : Array Oper} {md : Region.Mode} {CB : Bool → Bool → World → Prop} {E F : World → World → Prop} {m c j0 d0 : Nat} {KM : Value → World → Prop} {V : Nat → Option (Value → World → Prop)}
theorem wpG_mono {Q : Act → (World → Prop) → Prop} (hQ : ∀ a D D', (∀ w, D' w → D w) → Q a D → Q a D') : ∀ (l : List Oper) (i : Nat) (D D' : World → Prop) (a : Act), (∀ w, D' w → D w) → wpG P md ops CB E F m c j0 d0 KM V Q i l D a → wpG P md ops CB E F m c j0 d0 KM V Q i l D' a := by
  intro l
  induction l with
  | nil => intro i D D' a hD h; exact hQ a D D' hD h
  | cons o l ih => intro i D D' a hD h; exact ⟨h.1, h.2.1, fun u hu => ih _ _ _ _ (fun w hw => ⟨hD w hw.1, hw.2⟩) (h.2.2 u hu)⟩
theorem wpG_nil {Q : Act → (World → Prop) → Prop} {D : World → Prop} {a : Act} {i : Nat} (h : Q a D) : wpG P md ops CB E F m c j0 d0 KM V Q i [] D a := h
/-- One value in every world. -/
theorem wpG_one {Q : Act → (World → Prop) → Prop} (hQ : ∀ a D D', (∀ w, D' w → D w) → Q a D → Q a D') {D : World → Prop} {a : Act} {o : Oper} {rest : List Oper} {i : Nat} (him : (i == m || i == c || i == j0) = false) (hv : (V i).isNone = true) (hw : Region.wanted o (yielded ops a.tmps) = true) (v : Value) (h : ∀ b b' w, stOk md ops m c i b b' → CB b b' w → (execOp a.eval o).run P w = .ok (.value v) w)
    (hK : wpG P md ops CB E F m c j0 d0 KM V Q (i + 1) rest D (a.put o.dst v)) : wpG P md ops CB E F m c j0 d0 KM V Q i (o :: rest) D a := by
  have him2 : (i ≠ m ∧ i ≠ c) ∧ i ≠ j0 := by simpa using him
  have him' := him2.1.1
  have hic := him2.1.2
  have hv' := Option.isNone_iff_eq_none.1 hv
  refine ⟨fun e => absurd e him', ⟨hw, ?_⟩, fun u hu => ?_⟩
  · rw [if_neg him', if_neg hic, hv']
    exact fun b b' w hb hC => ⟨v, w, h b b' w hb hC, hC, Below.refl _ _, fun e => absurd e him2.2⟩
  · obtain ⟨w', hu⟩ := hu
    unfold getsG at hu
    rw [if_neg him', hv'] at hu
    obtain ⟨b, b', w0, w1, h0, h1, h2, _⟩ := hu
    rw [h b b' w0 h0 h1] at h2
    simp only [Result.ok.injEq, Next.value.injEq] at h2
    rw [← h2.1]
    exact wpG_mono hQ _ _ _ _ _ (fun w hw => hw.1) hK
/-- A call: what is known of its value is told ahead. -/
theorem wpG_call {Q : Act → (World → Prop) → Prop} {D : World → Prop} {a : Act} {o : Oper} {rest : List Oper} {i : Nat} (him : (i == m || i == c || i == j0) = false) {R : Value → World → Prop} (hv : V i = some R) (hw : Region.wanted o (yielded ops a.tmps) = true) (h : ∀ b b' w, stOk md ops m c i b b' → CB b b' w → ∃ f args, (execOp a.eval o).run P w = .ok (.enter f args) w ∧ Calls P f args w fun e w'' => ∃ u, e = .returned u ∧ CB b b' w'' ∧ Below w.heap.size w w'' ∧ R u w'')
    (hK : ∀ u, (∃ w, R u w) → wpG P md ops CB E F m c j0 d0 KM V Q (i + 1) rest (fun w => D w ∧ R u w) (a.put o.dst u)) : wpG P md ops CB E F m c j0 d0 KM V Q i (o :: rest) D a := by
  have him2 : (i ≠ m ∧ i ≠ c) ∧ i ≠ j0 := by simpa using him
  have him' := him2.1.1
  have hic := him2.1.2
  have e : ∀ u, getsG P md ops CB E F m c j0 d0 KM V i o a u = R u := fun u => by
    funext w'
    unfold getsG
    rw [if_neg him', hv]
  refine ⟨fun e => absurd e him', ⟨hw, ?_⟩, fun u hu => ?_⟩
  · rw [if_neg him', if_neg hic, hv]
    intro b b' w hb hC
    obtain ⟨f, args, h1, h2⟩ := h b b' w hb hC
    exact ⟨f, args, h1, h2.mono fun e w'' ⟨u, g1, g2, g3, g4⟩ => ⟨u, g1, g2, g3, g4, fun e => absurd e him2.2⟩⟩
  · rw [e] at hu ⊢
    exact hK u hu
/-- Memory made: R tells what is known of it, whatever comes behind. -/
theorem wpG_many {Q : Act → (World → Prop) → Prop} (hQ : ∀ a D D', (∀ w, D' w → D w) → Q a D → Q a D') {D : World → Prop} {a : Act} {o : Oper} {rest : List Oper} {i : Nat} (him : (i == m || i == c || i == j0) = false) (hv : (V i).isNone = true) (hw : Region.wanted o (yielded ops a.tmps) = true) (R : Value → World → Prop) (hR : ∀ u w w', R u w → E w w' → R u w')
    (h : ∀ b b' w, stOk md ops m c i b b' → CB b b' w → ∃ u w', (execOp a.eval o).run P w = .ok (.value u) w' ∧ CB b b' w' ∧ Below w.heap.size w w' ∧ R u w') (hK : ∀ u, (∃ w, R u w) → wpG P md ops CB E F m c j0 d0 KM V Q (i + 1) rest (fun w => D w ∧ R u w) (a.put o.dst u)) : wpG P md ops CB E F m c j0 d0 KM V Q i (o :: rest) D a := by
  have him2 : (i ≠ m ∧ i ≠ c) ∧ i ≠ j0 := by simpa using him
  have him' := him2.1.1
  have hic := him2.1.2
  have hv' := Option.isNone_iff_eq_none.1 hv
  refine ⟨fun e => absurd e him', ⟨hw, ?_⟩, fun u hu => ?_⟩
  · rw [if_neg him', if_neg hic, hv']
    exact fun b b' w hb hC => by obtain ⟨u, w', h1, h2, h3, _⟩ := h b b' w hb hC; exact ⟨u, w', h1, h2, h3, fun e => absurd e him2.2⟩
  · have key : ∀ w', getsG P md ops CB E F m c j0 d0 KM V i o a u w' → R u w' := fun w' hg => by
      unfold getsG at hg
      rw [if_neg him', hv'] at hg
      obtain ⟨b, b', w0, w1, h0, h1, h2, h3⟩ := hg
      obtain ⟨u', w2, g1, _, _, g4⟩ := h b b' w0 h0 h1
      rw [h2] at g1
      simp only [Result.ok.injEq, Next.value.injEq] at g1
      obtain ⟨rfl, rfl⟩ := g1
      exact hR _ _ _ g4 h3
    obtain ⟨w', hu⟩ := hu
    exact wpG_mono hQ _ _ _ _ _ (fun w hw => ⟨hw.1, key w hw.2⟩) (hK u ⟨w', key w' hu⟩)
/-- The call that turns first. -/
theorem wpG_turnc {Q : Act → (World → Prop) → Prop} {D : World → Prop} {a : Act} {o : Oper} {rest : List Oper} (him : (c == m || c == j0) = false) {R : Value → World → Prop} (hv : V c = some R) (hw : Region.wanted o (yielded ops a.tmps) = true) (h : ∀ w, CB false false w → ∃ f args, (execOp a.eval o).run P w = .ok (.enter f args) w ∧ Calls P f args w fun e w'' => ∃ u, e = .returned u ∧ CB false true w'' ∧ E w w'' ∧ R u w'')
    (hK : ∀ u, (∃ w, R u w) → wpG P md ops CB E F m c j0 d0 KM V Q (c + 1) rest (fun w => D w ∧ R u w) (a.put o.dst u)) : wpG P md ops CB E F m c j0 d0 KM V Q c (o :: rest) D a := by
  have him2 : c ≠ m ∧ c ≠ j0 := by simpa using him
  have e : ∀ u, getsG P md ops CB E F m c j0 d0 KM V c o a u = R u := fun u => by
    funext w'
    unfold getsG
    rw [if_neg him2.1, hv]
  refine ⟨fun e => absurd e him2.1, ⟨hw, ?_⟩, fun u hu => ?_⟩
  · rw [if_neg him2.1, if_pos rfl]
    refine ⟨R, hv, fun w hC => ?_⟩
    obtain ⟨f, args, h1, h2⟩ := h w hC
    exact ⟨f, args, h1, h2.mono fun e w'' ⟨u, g1, g2, g3, g4⟩ => ⟨u, g1, g2, g3, g4, fun e => absurd e him2.2⟩⟩
  · rw [e] at hu ⊢
    exact hK u hu
/-- .. operation j0: what the turning one must know. -/
theorem wpG_key {Q : Act → (World → Prop) → Prop} (hQ : ∀ a D D', (∀ w, D' w → D w) → Q a D → Q a D') (hkn : knowsB md ops m c j0 d0 = true) {D : World → Prop} {a : Act} {o : Oper} {rest : List Oper} (him : (j0 == m || j0 == c) = false) (hbc : (!cIn ops c || waitsT md ops 2 j0 c) = true) (hv : (V j0).isNone = true) (hw : Region.wanted o (yielded ops a.tmps) = true)
    (R : Value → World → Prop) (hR : ∀ u w w', R u w → E w w' → R u w')
    (h : ∀ w, CB false (cIn ops c) w → ∃ u w', (execOp a.eval o).run P w = .ok (.value u) w' ∧ CB false (cIn ops c) w' ∧ Below w.heap.size w w' ∧ KM u w' ∧ R u w') (h0 : ∀ w, CB false true w → cIn ops c = false → CB false false w) (h0' : ∀ w, CB false false w → cIn ops c = false → CB false true w) (hK : ∀ u, (∃ w, CB false (cIn ops c) w ∧ KM u w ∧ R u w) → wpG P md ops CB E F m c j0 d0 KM V Q (j0 + 1) rest (fun w => D w ∧ R u w) (a.put o.dst u)) : wpG P md ops CB E F m c j0 d0 KM V Q j0 (o :: rest) D a := by
  have him2 : j0 ≠ m ∧ j0 ≠ c := by simpa using him
  have him' := him2.1
  have hv' := Option.isNone_iff_eq_none.1 hv
  simp only [knowsB, Bool.and_eq_true, beq_iff_eq] at hkn
  obtain ⟨⟨k0, k5⟩, ⟨⟨k1, k2⟩, k3⟩, k4⟩ := hkn
  have hbf : ∀ b b', stOk md ops m c j0 b b' → b = false := fun b b' hb => by
    cases b with
    | false => rfl
    | true => have := hb.1 rfl; rw [waitsT_of k1 2] at this; cases this
  have hbt : ∀ b b', stOk md ops m c j0 b b' → cIn ops c = true → b' = true := fun b b' hb hc => hb.2.2 (by rw [hc] at hbc; simpa using hbc)
  have key2 : ∀ b b' w, stOk md ops m c j0 b b' → CB b b' w → CB false (cIn ops c) w := fun b b' w hb hC => by
    have e1 := hbf b b' hb
    subst e1
    cases hc : cIn ops c with
    | true => have e2 := hbt _ _ hb hc; subst e2; exact hC
    | false =>
      cases b' with
      | false => exact hC
      | true => exact h0 w hC hc
  have key3 : ∀ b b' w, stOk md ops m c j0 b b' → CB false (cIn ops c) w → CB b b' w := fun b b' w hb hC => by
    have e1 := hbf b b' hb
    subst e1
    cases hc : cIn ops c with
    | true => have e2 := hbt _ _ hb hc; subst e2; rwa [hc] at hC
    | false =>
      rw [hc] at hC
      cases b' with
      | false => exact hC
      | true => exact h0' w hC hc
  refine ⟨fun e => absurd e him', ⟨hw, ?_⟩, fun u hu => ?_⟩
  · rw [if_neg him', if_neg him2.2, hv']
    exact fun b b' w hb hC => by
      obtain ⟨u, w', h1, h2, h3, h4, _⟩ := h w (key2 b b' w hb hC)
      exact ⟨u, w', h1, key3 b b' w' hb h2, h3, fun _ => h4⟩
  · have key : ∀ w', getsG P md ops CB E F m c j0 d0 KM V j0 o a u w' → R u w' ∧ ∃ w, CB false (cIn ops c) w ∧ KM u w ∧ R u w := fun w' hg => by
      unfold getsG at hg
      rw [if_neg him', hv'] at hg
      obtain ⟨b, b', w0, w1, h0, h1, h2, h3⟩ := hg
      obtain ⟨u', w2, g1, g2, _, g4, g5⟩ := h w0 (key2 b b' w0 h0 h1)
      rw [h2] at g1
      simp only [Result.ok.injEq, Next.value.injEq] at g1
      obtain ⟨rfl, rfl⟩ := g1
      exact ⟨hR _ _ _ g5 h3, w1, g2, g4, g5⟩
    obtain ⟨w', hu⟩ := hu
    exact wpG_mono hQ _ _ _ _ _ (fun w hw => ⟨hw.1, (key w hw.2).1⟩) (hK u (key w' hu).2)
/-- The operation that turns what was there. -/
theorem wpG_turn {Q : Act → (World → Prop) → Prop} (hQ : ∀ a D D', (∀ w, D' w → D w) → Q a D → Q a D') {D : World → Prop} {a : Act} {o : Oper} {rest : List Oper} {v0 : Value} (hv0 : a.eval (.tmp d0) = v0) (hKn : ∃ w, CB false (cIn ops c) w ∧ KM v0 w) (hw : Region.wanted o (yielded ops a.tmps) = true) (R : Value → World → Prop) (hR : ∀ u w w', R u w → Below w.heap.size w w' → R u w')
    (h : ∀ w, CB false (cIn ops c) w → KM v0 w → ∃ u w', (execOp a.eval o).run P w = .ok (.value u) w' ∧ CB true (cIn ops c) w' ∧ F w w' ∧ R u w') (hK : ∀ u, (∃ w, R u w) → wpG P md ops CB E F m c j0 d0 KM V Q (m + 1) rest (fun w => D w ∧ R u w) (a.put o.dst u)) : wpG P md ops CB E F m c j0 d0 KM V Q m (o :: rest) D a := by
  subst hv0
  refine ⟨fun _ => hKn, ⟨hw, ?_⟩, fun u hu => ?_⟩
  · rw [if_pos rfl]
    exact fun w hC hk => by obtain ⟨u, w', h1, h2, h3, _⟩ := h w hC hk; exact ⟨u, w', h1, h2, h3⟩
  · have key : ∀ w', getsG P md ops CB E F m c j0 d0 KM V m o a u w' → R u w' := fun w' hg => by
      unfold getsG at hg
      rw [if_pos rfl] at hg
      obtain ⟨w0, w1, h1, hk, h2, h3⟩ := hg
      obtain ⟨u', w2, g1, _, _, g4⟩ := h w0 h1 hk
      rw [h2] at g1
      simp only [Result.ok.injEq, Next.value.injEq] at g1
      obtain ⟨rfl, rfl⟩ := g1
      exact hR _ _ _ g4 h3
    obtain ⟨w', hu⟩ := hu
    exact wpG_mono hQ _ _ _ _ _ (fun w hw => ⟨hw.1, key w hw.2⟩) (hK u ⟨w', key w' hu⟩)
theorem wpG_of_quiet {Q : Act → (World → Prop) → Prop} (hQ : ∀ a D D', (∀ w, D' w → D w) → Q a D → Q a D') (C : World → Prop) (hCC : ∀ b b' w, CB b b' w → C w) (hCn : ∃ w, CB false false w) {D : World → Prop} {r : List Oper} : ∀ (l : List Oper) (i : Nat) (a : Act), l.all (fun o => plainB o.op && o.guard.isNone) = true → (∀ j, j < l.length → V (i + j) = none ∧ (i + j ≠ m ∧ i + j ≠ c) ∧ i + j ≠ j0) → wpQuiet P ops (fun w => ∃ p : In C, w = p.w) (wpG P md ops CB E F m c j0 d0 KM V Q (i + l.length) r D) l a → wpG P md ops CB E F m c j0 d0 KM V Q i (l ++ r) D a := by
  intro l
  induction l with
  | nil => intro i a _ _ h; exact h
  | cons o l ih =>
    intro i a hp hV h
    simp only [List.all_cons, Bool.and_eq_true] at hp
    obtain ⟨⟨hp1, hp2⟩, hp3⟩ := hp
    have hw : Region.wanted o (yielded ops a.tmps) = true := by
      unfold Region.wanted
      rw [Option.isNone_iff_eq_none.1 hp2]
    simp only [wpQuiet] at h
    simp only [hw, if_true] at h
    obtain ⟨v, h1, h2⟩ := h
    have hone : ∀ b b' w, stOk md ops m c i b b' → CB b b' w → (execOp a.eval o).run P w = .ok (.value v) w := fun b b' w _ hC => by
      have h3 := h1 w ⟨⟨w, hCC b b' w hC⟩, rfl⟩
      unfold Oper.quietAt at h3
      generalize hr : (execOp a.eval o).run P w = r' at *
      cases r' with
      | ok n w' =>
        obtain ⟨u, rfl⟩ := plain_value hp1 hr
        simp only [Oper.quietUpon] at h3
        obtain ⟨rfl, rfl⟩ := h3
        rfl
      | halt x w' => simp only [Oper.quietUpon] at h3
    have hv0 := hV 0 (by simp)
    rw [Nat.add_zero] at hv0
    refine wpG_one hQ (by simpa using hv0.2) (by rw [hv0.1]; rfl) hw v hone ?_
    refine ih (i + 1) _ hp3 (fun j hj => by have := hV (j + 1) (by simp; omega); rwa [show i + (j + 1) = i + 1 + j from by omega] at this) ?_
    rw [List.length_cons, show i + (l.length + 1) = i + 1 + l.length from by omega] at h2
    exact h2
/-- The next k operations, of which each gives one value and turns nothing, by quiet steps; they end at number j. -/
theorem wpG_part {Q : Act → (World → Prop) → Prop} (hQ : ∀ a D D', (∀ w, D' w → D w) → Q a D → Q a D') (C : World → Prop) (hCC : ∀ b b' w, CB b b' w → C w) (hCn : ∃ w, CB false false w) {D : World → Prop} {a : Act} {l : List Oper} {i : Nat} (k j : Nat) (hp : (l.take k).all (fun o => plainB o.op && o.guard.isNone) = true) (hj : i + (l.take k).length = j) (hV : (List.range (l.take k).length).all (fun j => (V (i + j)).isNone && (!(i + j == m) && !(i + j == c)) && !(i + j == j0)) = true) (h : wpQuiet P ops (fun w => ∃ p : In C, w = p.w) (wpG P md ops CB E F m c j0 d0 KM V Q j (l.drop k) D) (l.take k) a) : wpG P md ops CB E F m c j0 d0 KM V Q i l D a := by
  subst hj
  have := wpG_of_quiet (r := l.drop k) hQ C hCC hCn (l.take k) i a hp (fun j hj => by
    have := List.all_eq_true.1 hV j (List.mem_range.2 hj)
    simp only [Bool.and_eq_true, Bool.not_eq_true', beq_eq_false_iff_ne, ne_eq] at this
    exact ⟨Option.isNone_iff_eq_none.1 this.1.1, this.1.2, this.2⟩) h
  rwa [List.take_append_drop] at this
end

/-- append, as an operation's run: a row of the call's own and a slice that lies there. -/
theorem exec_append_own {P : Program} {w : World} {o : Oper} {a : Act} (s x : Operand) (t : TypeId)
    (ho : o.op = .call { callee := .builtin .append, args := #[s, x], argTypes := #[t, t] })
    (base : Nat) (e : TypeId) (i : TypeInfo) (z : Value) (size bytes : Nat) (ht : P.underlying t = some (.slice e)) (hi : P.info? e = some i) (hz : i.zero = some z)
    (hsize : i.size = size) (hby : i.bytes = bytes) (hzs : z.cells.size = size) (hsz : 0 < size)
    (v : Value) (n : Nat) (xs : List Value) (hs : a.eval s = v) (hown : w.ownsRow base e size v n xs)
    (ad : Addr) (m c : Nat) (news : List Value) (hx : a.eval x = .slice (some ad) m c) (hl : news.length = m * size) (hnews : ∀ j u, news[j]? = some u → w.cell? (ad.add j) = some u) (h1 : ∀ u ∈ news, u.oneCell' = true)
    (h63 : n + m ≤ maxLen) (hbytes : (n + m) * bytes ≤ 140737488355328) (hbase : base ≤ w.heap.size) :
    ∃ v' w', (execOp a.eval o).run P w = .ok (.value v') w' ∧ w'.ownsRow base e size v' (n + m) (xs ++ news) ∧ w.grownBy w' v.ownBlock := by
  obtain ⟨v', w', hr, h2, h3, _⟩ := run_append_own (P := P) w base t o.type e i z size bytes ht hi hz hsize hby hzs hsz v n xs hown ad m c news hl hnews h1 h63 hbytes hbase
  refine ⟨v', w', ?_, h2, h3⟩
  unfold execOp
  simp only [ho, resolve, invoke, builtin, Sem.run_bind, Sem.run_pure, Result.andThen_ok, List.map_toArray, List.map_cons, List.map_nil, hs, hx, hr]

theorem exec_append_then {P : Program} {w : World} {o : Oper} {a : Act} {X : Value → World → Prop} (s x : Operand) (t : TypeId)
    (ho : o.op = .call { callee := .builtin .append, args := #[s, x], argTypes := #[t, t] })
    (base : Nat) (e : TypeId) (i : TypeInfo) (z : Value) (size bytes : Nat) (ht : P.underlying t = some (.slice e)) (hi : P.info? e = some i) (hz : i.zero = some z)
    (hsize : i.size = size) (hby : i.bytes = bytes) (hzs : z.cells.size = size) (hsz : 0 < size)
    (v : Value) (n : Nat) (xs : List Value) (hs : a.eval s = v) (hown : w.ownsRow base e size v n xs)
    (ad : Addr) (m c : Nat) (news : List Value) (hx : a.eval x = .slice (some ad) m c) (hl : news.length = m * size) (hnews : ∀ j u, news[j]? = some u → w.cell? (ad.add j) = some u) (h1 : ∀ u ∈ news, u.oneCell' = true)
    (h63 : n + m ≤ maxLen) (hbytes : (n + m) * bytes ≤ 140737488355328) (hbase : base ≤ w.heap.size)
    (h : ∀ v' w', w'.ownsRow base e size v' (n + m) (xs ++ news) → w.grownBy w' v.ownBlock → X v' w') : ∃ v' w', (execOp a.eval o).run P w = .ok (.value v') w' ∧ X v' w' := by
  obtain ⟨v', w', h1', h2, h3⟩ := exec_append_own s x t ho base e i z size bytes ht hi hz hsize hby hzs hsz v n xs hs hown ad m c news hx hl hnews h1 h63 hbytes hbase
  exact ⟨v', w', h1', h v' w' h2 h3⟩
/-- .. and where the row lies then: where it lay, or in the new block. -/
theorem exec_append_lies {P : Program} {w : World} {o : Oper} {a : Act} {X : Value → World → Prop} (s x : Operand) (t : TypeId)
    (ho : o.op = .call { callee := .builtin .append, args := #[s, x], argTypes := #[t, t] })
    (base : Nat) (e : TypeId) (i : TypeInfo) (z : Value) (size bytes : Nat) (ht : P.underlying t = some (.slice e)) (hi : P.info? e = some i) (hz : i.zero = some z)
    (hsize : i.size = size) (hby : i.bytes = bytes) (hzs : z.cells.size = size) (hsz : 0 < size)
    (v : Value) (n : Nat) (xs : List Value) (hs : a.eval s = v) (hown : w.ownsRow base e size v n xs)
    (ad : Addr) (m c : Nat) (news : List Value) (hx : a.eval x = .slice (some ad) m c) (hl : news.length = m * size) (hnews : ∀ j u, news[j]? = some u → w.cell? (ad.add j) = some u) (h1 : ∀ u ∈ news, u.oneCell' = true)
    (hm : 0 < m) (h63 : n + m ≤ maxLen) (hbytes : (n + m) * bytes ≤ 140737488355328) (hbase : base ≤ w.heap.size)
    (h : ∀ g cap w', w'.ownsRow base e size (.slice (some ⟨g, 0, none⟩) (n + m) cap) (n + m) (xs ++ news) → w.grownBy w' v.ownBlock → (v.ownBlock = some g ∨ g = w.heap.size) → X (.slice (some ⟨g, 0, none⟩) (n + m) cap) w') : ∃ v' w', (execOp a.eval o).run P w = .ok (.value v') w' ∧ X v' w' := by
  obtain ⟨g, cap, w', hr, h2, h3, h4, _⟩ := run_append_lies (P := P) w t o.type base e i z size bytes ht hi hz hsize hby hzs hsz v n xs hown ad m c news hl hnews h1 hm h63 hbytes hbase _ rfl
  refine ⟨_, w', ?_, h g cap w' h2 h3 h4⟩
  unfold execOp
  simp only [ho, resolve, invoke, builtin, Sem.run_bind, Sem.run_pure, Result.andThen_ok, List.map_toArray, List.map_cons, List.map_nil, hs, hx, hr]
theorem blk_news {w : World} {g : Nat} {t : TypeId} {cs : Array Value} (h : Blk w g t cs) : ∀ j u, cs.toList[j]? = some u → w.cell? ((⟨g, 0, none⟩ : Addr).add j) = some u := fun j u hu => by
  have hadd : (⟨g, 0, none⟩ : Addr).add j = ⟨g, j, none⟩ := by unfold Addr.add; split <;> simp_all
  rw [hadd, h.cell]
  simpa using hu

end Go.Proofs.YtoemmakhbiiknaaGreat

namespace Go.Proofs.YtoemmakhbiiknaaGreat
open Go.RowKit Go.WideShapes Go.ChangeShapes Go.ChangeAt Go.Deep
set_option linter.unusedVariables false

theorem Blk.setRow {w : World} {g : Nat} {t : TypeId} {cs : Array Value} (h : Blk w g t cs) (vs : Array Value) : Blk (w.setRow g vs) g t vs := by
  unfold Blk World.setRow at *
  simp [Array.getElem?_modify, h]
theorem Touch.setRow (w : World) (g : Nat) (vs : Array Value) : Touch (· = g) w (w.setRow g vs) := by
  refine ⟨rfl, rfl, rfl, ?_, fun k hk hn => ?_⟩
  · unfold World.setRow; simp
  · unfold World.setRow
    simp only [Array.getElem?_modify]
    rw [if_neg (fun e => hn e.symm)]

theorem own_base {w : World} {base base' n : Nat} {e : TypeId} {size : Nat} {v : Value} {xs : List Value} (h : w.ownsRow base e size v n xs) (hb : base' ≤ base) : w.ownsRow base' e size v n xs := by
  obtain ⟨hl, h1 | ⟨g, cap, cur, rfl, h2, hh, hr⟩⟩ := h
  · exact ⟨hl, .inl h1⟩
  · exact ⟨hl, .inr ⟨g, cap, cur, rfl, Nat.le_trans hb h2, hh, hr⟩⟩
/-- The step, its names in another row. -/
def twn (s : Stp) (A : Option Addr) (cap : Nat) : Stp := ⟨s.name, s.verb, s.undo, s.event, s.fin, s.ret, s.ev, s.wi, A, cap, s.after⟩
/-- The step's row of names is one of the call's own. -/
def OwnSt (base : Nat) (w : World) (s : Stp) : Prop := w.ownsRow base 9 1 (.slice s.A s.after.length s.cap) s.after.length (s.after.flatMap enB)
theorem info_step12 : (Tryz.prog.info? 69).map (fun i => (i.zero, i.size, i.bytes)) = some (some (.agg #[.string ⟨#[]⟩, .string ⟨#[]⟩, .string ⟨#[]⟩, .string ⟨#[]⟩, .bool false, .int .i64 0, .int .i64 0, .int .i64 0, .slice none 0 0]), 9, 120) := by kernel_rfl

set_option maxRecDepth 100000 in
set_option maxHeartbeats 8000000 in
theorem twin_any (s : Stp) (w : World) (hok : OkSt w s) : Calls Tryz.prog 49 #[.agg (enSt s).toArray] w fun e w' => ∃ A cap, e = .returned (.agg (enSt (twn s A cap)).toArray) ∧ OwnSt w.heap.size w' (twn s A cap) ∧ Below w.heap.size w w' := by
  have HOK := hid hok
  clear hok
  obtain ⟨xn, xv, xu, xe, xf, xr, xy, xw, xA, xc, xl⟩ := s
  have earr : (enSt ⟨xn, xv, xu, xe, xf, xr, xy, xw, xA, xc, xl⟩).toArray = #[.string xn, .string xv, .string xu, .string xe, .bool xf, .int .i64 xr, .int .i64 xy, .int .i64 xw, .slice xA xl.length xc] := rfl
  rw [earr]
  clear earr
  have hwa : Below w.heap.size w ((w.alloc (.cells #[.string xn, .string xv, .string xu, .string xe, .bool xf, .int .i64 xr, .int .i64 xy, .int .i64 xw, .slice xA xl.length xc] 69)).alloc (.cells #[.string ⟨#[]⟩, .string ⟨#[]⟩, .string ⟨#[]⟩, .string ⟨#[]⟩, .bool false, .int .i64 0, .int .i64 0, .int .i64 0, .slice none 0 0] 69)) := ((Below.refl _ _).alloc (Nat.le_refl _) _).alloc (by simp) _
  have hB0 := (Blk.new w 69 #[.string xn, .string xv, .string xu, .string xe, .bool xf, .int .i64 xr, .int .i64 xy, .int .i64 xw, .slice xA xl.length xc]).alloc (.cells #[.string ⟨#[]⟩, .string ⟨#[]⟩, .string ⟨#[]⟩, .string ⟨#[]⟩, .bool false, .int .i64 0, .int .i64 0, .int .i64 0, .slice none 0 0] 69)
  have hB1 := Blk.new (w.alloc (.cells #[.string xn, .string xv, .string xu, .string xe, .bool xf, .int .i64 xr, .int .i64 xy, .int .i64 xw, .slice xA xl.length xc] 69)) 69 #[.string ⟨#[]⟩, .string ⟨#[]⟩, .string ⟨#[]⟩, .string ⟨#[]⟩, .bool false, .int .i64 0, .int .i64 0, .int .i64 0, .slice none 0 0]
  rw [World.size_alloc] at hB1
  obtain ⟨W, hW⟩ : ∃ W, W = (w.alloc (.cells #[.string xn, .string xv, .string xu, .string xe, .bool xf, .int .i64 xr, .int .i64 xy, .int .i64 xw, .slice xA xl.length xc] 69)).alloc (.cells #[.string ⟨#[]⟩, .string ⟨#[]⟩, .string ⟨#[]⟩, .string ⟨#[]⟩, .bool false, .int .i64 0, .int .i64 0, .int .i64 0, .slice none 0 0] 69) := ⟨_, rfl⟩
  obtain ⟨G, hG⟩ : ∃ G, G = w.heap.size := ⟨_, rfl⟩
  rw [← hW] at hwa hB0 hB1
  rw [← hG] at hB0 hB1
  have KC := hid (cloneB_any xl xA xc W (HOK.out.row.below hwa) HOK.out.len)
  have HW := hid (And.intro hB0 (And.intro hB1 hwa))
  have HWG := hid (And.intro hW hG)
  have g8 : W.cell? ⟨G, 8, none⟩ = some (.slice xA xl.length xc) := hB0.cell 8
  have lG := hB0.lt
  clear hwa hB0 hB1 hW hG
  go_enter Tryz.func49, Tryz.ntmps49
  go_upto_region 1 with fail
  rw [← HWG.out.1, ← HWG.out.2]
  go_wp2_with fail
  refine KC.out.mono ?_
  rintro e w3 ⟨A, cap, rfl, hO, hb3⟩
  have HB3 := hid (And.intro (HW.out.1.next hb3) (And.intro (HW.out.2.1.next hb3) (bthen HW.out.2.2 hb3)))
  clear g8 lG KC hb3
  have q0 : w3.cell? ⟨G, 0, none⟩ = some (.string xn) := HB3.out.1.cell 0
  have q1 : w3.cell? ⟨G, 1, none⟩ = some (.string xv) := HB3.out.1.cell 1
  have q2 : w3.cell? ⟨G, 2, none⟩ = some (.string xu) := HB3.out.1.cell 2
  have q3 : w3.cell? ⟨G, 3, none⟩ = some (.string xe) := HB3.out.1.cell 3
  have q4 : w3.cell? ⟨G, 4, none⟩ = some (.bool xf) := HB3.out.1.cell 4
  have q5 : w3.cell? ⟨G, 5, none⟩ = some (.int .i64 xr) := HB3.out.1.cell 5
  have q6 : w3.cell? ⟨G, 6, none⟩ = some (.int .i64 xy) := HB3.out.1.cell 6
  have q7 : w3.cell? ⟨G, 7, none⟩ = some (.int .i64 xw) := HB3.out.1.cell 7
  have q8 : w3.cell? ⟨G, 8, none⟩ = some (.slice xA xl.length xc) := HB3.out.1.cell 8
  have f8 := HB3.out.1.free 8
  have lG := HB3.out.1.lt
  go_upto_region 2 with fail
  have hT4 := Touch.setCell w3 G 8 (.slice A xl.length cap)
  have hB4 := HB3.out.1.set_ 8 (.slice A xl.length cap)
  have hC4 := HB3.out.2.1.far (p := ⟨G, 8, none⟩) (by simp) (.slice A xl.length cap)
  have hO4 := own_touch hO hT4 (fun g hg e => own_notBlk hO HB3.out.1 (by decide) (by rw [hg, e]))
  have hb4 := HB3.out.2.2.trans (hT4.below HB3.out.2.2.size (fun k hk => by rw [hk]; have := HWG.out.2; omega))
  obtain ⟨w4, hw4⟩ : ∃ w4, w4 = w3.setCell ⟨G, 8, none⟩ (.slice A xl.length cap) := ⟨_, rfl⟩
  rw [← hw4] at hB4 hC4 hO4 hb4
  rw [← hw4]
  have hB5 : Blk w4 G 69 #[.string xn, .string xv, .string xu, .string xe, .bool xf, .int .i64 xr, .int .i64 xy, .int .i64 xw, .slice A xl.length cap] := hB4
  clear q0 q1 q2 q3 q4 q5 q6 q7 q8 f8 lG hT4 hw4 hO hB4
  have q0 : w4.cell? ⟨G, 0, none⟩ = some (.string xn) := hB5.cell 0
  have q1 : w4.cell? ⟨G, 1, none⟩ = some (.string xv) := hB5.cell 1
  have q2 : w4.cell? ⟨G, 2, none⟩ = some (.string xu) := hB5.cell 2
  have q3 : w4.cell? ⟨G, 3, none⟩ = some (.string xe) := hB5.cell 3
  have q4 : w4.cell? ⟨G, 4, none⟩ = some (.bool xf) := hB5.cell 4
  have q5 : w4.cell? ⟨G, 5, none⟩ = some (.int .i64 xr) := hB5.cell 5
  have q6 : w4.cell? ⟨G, 6, none⟩ = some (.int .i64 xy) := hB5.cell 6
  have q7 : w4.cell? ⟨G, 7, none⟩ = some (.int .i64 xw) := hB5.cell 7
  have q8 : w4.cell? ⟨G, 8, none⟩ = some (.slice A xl.length cap) := hB5.cell 8
  have lG := hB5.lt
  have hT5 := Touch.setRow w4 (G + 1) #[.string xn, .string xv, .string xu, .string xe, .bool xf, .int .i64 xr, .int .i64 xy, .int .i64 xw, .slice A xl.length cap]
  have hC5 := hC4.setRow #[.string xn, .string xv, .string xu, .string xe, .bool xf, .int .i64 xr, .int .i64 xy, .int .i64 xw, .slice A xl.length cap]
  have hO5 := own_touch hO4 hT5 (fun g hg e => own_notBlk hO4 hC4 (by decide) (by rw [hg, e]))
  have hb5 := hb4.trans (hT5.below hb4.size (fun k hk => by rw [hk]; have := HWG.out.2; omega))
  obtain ⟨w5, hw5⟩ : ∃ w5, w5 = w4.setRow (G + 1) #[.string xn, .string xv, .string xu, .string xe, .bool xf, .int .i64 xr, .int .i64 xy, .int .i64 xw, .slice A xl.length cap] := ⟨_, rfl⟩
  rw [← hw5] at hC5 hO5 hb5
  have HW5 := hid hw5
  have HF := hid (And.intro hO5 hb5)
  have r0 : w5.cell? ⟨G + 1, 0, none⟩ = some (.string xn) := hC5.cell 0
  have r1 : w5.cell? ⟨G + 1, 1, none⟩ = some (.string xv) := hC5.cell 1
  have r2 : w5.cell? ⟨G + 1, 2, none⟩ = some (.string xu) := hC5.cell 2
  have r3 : w5.cell? ⟨G + 1, 3, none⟩ = some (.string xe) := hC5.cell 3
  have r4 : w5.cell? ⟨G + 1, 4, none⟩ = some (.bool xf) := hC5.cell 4
  have r5 : w5.cell? ⟨G + 1, 5, none⟩ = some (.int .i64 xr) := hC5.cell 5
  have r6 : w5.cell? ⟨G + 1, 6, none⟩ = some (.int .i64 xy) := hC5.cell 6
  have r7 : w5.cell? ⟨G + 1, 7, none⟩ = some (.int .i64 xw) := hC5.cell 7
  have r8 : w5.cell? ⟨G + 1, 8, none⟩ = some (.slice A xl.length cap) := hC5.cell 8
  have lG5 := hC5.lt
  have HC4 := hid hC4
  clear hT5 hC5 hO5 hb5 hw5 hC4 hO4 hb4 hB5
  go_wp2_with (first
    | (refine wpList_store_row rfl 69 _ _ rfl (G + 1) #[.string xn, .string xv, .string xu, .string xe, .bool xf, .int .i64 xr, .int .i64 xy, .int .i64 xw, .slice A xl.length cap] rfl rfl 69 _ HC4.out (by kernel_rfl) (by rfl) (by simp [Value.oneCell']) ?_; rw [← HW5.out]; clear q0 q1 q2 q3 q4 q5 q6 q7 q8 lG))
  refine bodyPost_ret (v := .agg #[.string xn, .string xv, .string xu, .string xe, .bool xf, .int .i64 xr, .int .i64 xy, .int .i64 xw, .slice A xl.length cap]) (by simp [results, Tryz.results49, go_sem, r0, r1, r2, r3, r4, r5, r6, r7, r8]) rfl ?_
  have hsz := HWG.out.2
  have hF := HF.out
  have hbW := HW.out.2.2
  refine ⟨A, cap, rfl, ?_, hF.2⟩
  have : w.heap.size ≤ W.heap.size := hbW.size
  exact own_base hF.1 this

/-- Is the name not in the map? -/
def noN (am : List (ByteArray × Int)) (a : ByteArray) : Bool := !(mget am a).isSome
set_option maxRecDepth 100000 in
set_option maxHeartbeats 4000000 in
theorem cmp11_any (am : List (ByteArray × Int)) (V6 M : Nat) (a : ByteArray) (w : World) (hV : Blk w V6 147 #[.map (some M)]) (hM : IsMap w M kS vN am) :
    Calls Tryz.prog 65 #[.string a, .pointer (some ⟨V6, 0, none⟩)] w fun e w' => e = .returned (.bool (noN am a)) ∧ Below w.heap.size w w' := by
  have c6 : w.cell? ⟨V6, 0, none⟩ = some (.map (some M)) := hV.cell 0
  have l6 := hV.lt
  have lk : (Instr.lookup 147 (.map (some M)) (.string a) true).run Tryz.prog w = .ok (.tuple #[looked (vN 0) vN am a, .bool (mget am a).isSome]) w := hM.lookOk keyStr12 Tryz.underlying147 (zeroN _) a
  have HV := hid (show noN am a = !(mget am a).isSome from rfl)
  clear hV hM
  generalize (mget am a).isSome = b at lk HV
  go_enter Tryz.func65, Tryz.ntmps65
  go_wp2_with fail
  go_ret
  exact ⟨by rw [HV.out]; rfl, Below.refl _ _⟩
/-- May the step come next? -/
def nxtB (am : List (ByteArray × Int)) (s : Stp) : Bool := !(mget am s.name).isSome && !(s.after.any (noN am))
set_option maxRecDepth 100000 in
set_option maxHeartbeats 8000000 in
theorem cmp1_any (am : List (ByteArray × Int)) (V6 M : Nat) (s : Stp) (w : World) (hok : OkSt w s) (hV : Blk w V6 147 #[.map (some M)]) (hM : IsMap w M kS vN am) :
    Calls Tryz.prog 63 #[.agg (enSt s).toArray, .pointer (some ⟨V6, 0, none⟩)] w fun e w' => e = .returned (.bool (nxtB am s)) ∧ Below w.heap.size w w' := by
  have HOK := hid hok
  clear hok
  obtain ⟨xn, xv, xu, xe, xf, xr, xy, xw, xA, xc, xl⟩ := s
  have earr : (enSt ⟨xn, xv, xu, xe, xf, xr, xy, xw, xA, xc, xl⟩).toArray = #[.string xn, .string xv, .string xu, .string xe, .bool xf, .int .i64 xr, .int .i64 xy, .int .i64 xw, .slice xA xl.length xc] := rfl
  rw [earr]
  clear earr
  have hwa : Below w.heap.size w (w.alloc (.cells #[.string xn, .string xv, .string xu, .string xe, .bool xf, .int .i64 xr, .int .i64 xy, .int .i64 xw, .slice xA xl.length xc] 69)) := (Below.refl _ _).alloc (Nat.le_refl _) _
  have hB := Blk.new w 69 #[.string xn, .string xv, .string xu, .string xe, .bool xf, .int .i64 xr, .int .i64 xy, .int .i64 xw, .slice xA xl.length xc]
  have hV2 := hV.next hwa
  have hM2 := hM.next hwa
  obtain ⟨W, hW⟩ : ∃ W, W = w.alloc (.cells #[.string xn, .string xv, .string xu, .string xe, .bool xf, .int .i64 xr, .int .i64 xy, .int .i64 xw, .slice xA xl.length xc] 69) := ⟨_, rfl⟩
  obtain ⟨G, hG⟩ : ∃ G, G = w.heap.size := ⟨_, rfl⟩
  rw [← hW] at hwa hB hV2 hM2
  rw [← hG] at hB
  have HWG := hid (And.intro hW hG)
  have HB := hid hwa
  have g0 : W.cell? ⟨G, 0, none⟩ = some (.string xn) := hB.cell 0
  have g8 : W.cell? ⟨G, 8, none⟩ = some (.slice xA xl.length xc) := hB.cell 8
  have lG := hB.lt
  have c6 : W.cell? ⟨V6, 0, none⟩ = some (.map (some M)) := hV2.cell 0
  have l6 := hV2.lt
  have lk : (Instr.lookup 147 (.map (some M)) (.string xn) true).run Tryz.prog W = .ok (.tuple #[looked (vN 0) vN am xn, .bool (mget am xn).isSome]) W := hM2.lookOk keyStr12 Tryz.underlying147 (zeroN _) xn
  have KC := hid (containsB1_any xl xA xc 65 (.pointer (some ⟨V6, 0, none⟩)) (noN am) W (HOK.out.row.below hwa) (by have := HOK.out.len; simp only at this; omega) (fun _ _ => by go_simp) (fun y hy w' hb' => cmp11_any am V6 M y w' (hV2.next hb') (hM2.next hb')))
  have HV := hid (show nxtB am ⟨xn, xv, xu, xe, xf, xr, xy, xw, xA, xc, xl⟩ = (!(mget am xn).isSome && !(xl.any (noN am))) from rfl)
  rw [HV.out]
  clear hV hM hV2 hM2 hwa hB hW hG HV HOK
  generalize looked (vN 0) vN am xn = lv at lk
  generalize (mget am xn).isSome = b at lk
  generalize xl.any (noN am) = c at KC
  go_enter Tryz.func63, Tryz.ntmps63
  go_upto_region 1 with fail
  rw [← HWG.out.1, ← HWG.out.2]
  cases b with
  | true =>
    go_wp2_with fail
    go_ret
    exact ⟨by simp, HB.out⟩
  | false =>
    go_wp2_with fail
    refine KC.out.mono ?_
    rintro e w3 ⟨rfl, hb3⟩
    have HB3 := hid (bthen HB.out hb3)
    clear KC hb3 g0 g8 lG c6 l6 lk
    go_wp2_with fail
    go_ret
    exact ⟨by simp, HB3.out⟩

/-- Which names the map of the numbers holds, behind the steps ds. -/
def AtM (l : List Stp) (ds : List Nat) (am : List (ByteArray × Int)) : Prop := ∀ i s, l[i]? = some s → mget am s.name = if i ∈ ds then some ((ds.idxOf i : Nat) : Int) else none

theorem NamesOk.inj {l : List Stp} (h : NamesOk l) {i j : Nat} {s t : Stp} (hi : l[i]? = some s) (hj : l[j]? = some t) (e : s.name = t.name) : i = j := by
  have h1 : (l.map Stp.name)[i]? = some s.name := by rw [List.getElem?_map, hi]; rfl
  have h2 : (l.map Stp.name)[j]? = some s.name := by rw [List.getElem?_map, hj, e]; rfl
  exact (List.getElem?_inj (by have := (List.getElem?_eq_some_iff.1 hi).1; simpa using this) h.1).1 (h1.trans h2.symm)
theorem AtM.nil (l : List Stp) : AtM l [] [] := fun i s hs => by simp [mget]
theorem AtM.snoc {l : List Stp} {ds : List Nat} {am : List (ByteArray × Int)} (hN : NamesOk l) (h : AtM l ds am) {i : Nat} {s : Stp} (hs : l[i]? = some s) (hi : i ∉ ds) : AtM l (ds ++ [i]) (mset am s.name (ds.length : Int)) := by
  intro j t ht
  rw [mget_mset]
  by_cases e : t.name = s.name
  · have hij := hN.inj ht hs e
    subst hij
    rw [if_pos e, if_pos (by simp), List.idxOf_append, if_neg hi]
    simp
  · rw [if_neg e, h j t ht]
    have hij : j ≠ i := fun e' => by
      subst e'
      rw [hs] at ht
      injection ht with ht
      exact e (by rw [ht])
    by_cases hj : j ∈ ds
    · rw [if_pos hj, if_pos (by simp [hj]), List.idxOf_append, if_pos hj]
    · rw [if_neg hj, if_neg (by simp [hj, hij])]
theorem AtM.name {l : List Stp} {ds : List Nat} {am : List (ByteArray × Int)} (hN : NamesOk l) (h : AtM l ds am) {a : ByteArray} (ha : a ∈ l.map Stp.name) : mget am a = if l.findIdx (isNm a) ∈ ds then some ((ds.idxOf (l.findIdx (isNm a)) : Nat) : Int) else none := by
  obtain ⟨t, h1, h2, _⟩ := hN.idx ha
  rw [← h _ t h1, h2]
theorem nxtB_ready {l : List Stp} {ds : List Nat} {am : List (ByteArray × Int)} (hN : NamesOk l) (h : AtM l ds am) {i : Nat} {s : Stp} (hs : l[i]? = some s) : nxtB am s = readyN (grf l) ds i := by
  apply Bool.eq_iff_iff.2
  rw [readyN_iff, grf_adj hs]
  unfold nxtB
  simp only [Bool.and_eq_true, Bool.not_eq_true', List.any_eq_false]
  have h1 : (mget am s.name).isSome = false ↔ i ∉ ds := by
    rw [h i s hs]
    by_cases e : i ∈ ds <;> simp [e]
  rw [h1]
  refine and_congr_right fun _ => ?_
  have hin := hN.2 s (List.mem_of_getElem? hs)
  constructor
  · intro hh k hk
    obtain ⟨a, ha, rfl⟩ := List.mem_map.1 hk
    have := hh a ha
    unfold noN at this
    rw [h.name hN (hin a ha)] at this
    by_cases e : l.findIdx (isNm a) ∈ ds
    · exact e
    · simp [e] at this
  · intro hh a ha
    unfold noN
    rw [h.name hN (hin a ha), if_pos (hh _ (List.mem_map_of_mem ha))]
    simp
theorem plc_next {l : List Stp} {ds : List Nat} {am : List (ByteArray × Int)} (hN : NamesOk l) (h : AtM l ds am) {i : Nat} (hi : nextN (grf l) ds = some i) : ∃ s, l[i]? = some s ∧ plc (nxtB am) l = (i : Int) := by
  obtain ⟨h1, h2, h3, h4⟩ := nextN_some hi
  rw [grf_len] at h1
  refine ⟨l[i], List.getElem?_eq_getElem h1, ?_⟩
  refine plc_some (List.getElem?_eq_getElem h1) ?_ (fun j y hj hy => ?_)
  · rw [nxtB_ready hN h (List.getElem?_eq_getElem h1)]
    exact readyN_iff.2 ⟨h2, h3⟩
  · rw [nxtB_ready hN h hy]
    exact h4 j hj
/-- The numbers of the steps that step i waits for, rising, each once. -/
def BfOk (G : List (List Nat)) (ds : List Nat) (i : Nat) (xs : List Int) : Prop := xs.Pairwise (· < ·) ∧ ∀ x, x ∈ xs ↔ ∃ k ∈ adj G i, x = ((ds.idxOf k : Nat) : Int)
theorem bfOk_made (G : List (List Nat)) (ds : List Nat) (i : Nat) : BfOk G ds i (Lib.compact (srtI ((adj G i).map fun k => ((ds.idxOf k : Nat) : Int)))) := by
  obtain ⟨h1, h2⟩ := compact_rise (srtI_sorted ((adj G i).map fun k => ((ds.idxOf k : Nat) : Int)))
  refine ⟨h1, fun x => ?_⟩
  rw [h2, srtI_mem, List.mem_map]
  exact ⟨fun ⟨k, hk, e⟩ => ⟨k, hk, e.symm⟩, fun ⟨k, hk, e⟩ => ⟨k, hk, e.symm⟩⟩
theorem BfOk.snoc {G : List (List Nat)} {ds r : List Nat} {i : Nat} {xs : List Int} (h : BfOk G ds i xs) (hi : ∀ k ∈ adj G i, k ∈ ds) : BfOk G (ds ++ r) i xs := by
  refine ⟨h.1, fun x => ?_⟩
  rw [h.2]
  constructor
  · rintro ⟨k, hk, e⟩
    exact ⟨k, hk, by rw [e, List.idxOf_append, if_pos (hi k hk)]⟩
  · rintro ⟨k, hk, e⟩
    exact ⟨k, hk, by rw [e, List.idxOf_append, if_pos (hi k hk)]⟩

end Go.Proofs.YtoemmakhbiiknaaGreat

namespace Go.Proofs.YtoemmakhbiiknaaGreat
open Go.RowKit
set_option linter.unusedVariables false

section
variable {P : Program} {ops : Array Oper} {md : Region.Mode} {C : World → Prop} {V : Nat → Option Value}

/-- What an operation may have yielded, seen from a later world. -/
def can (P : Program) (C : World → Prop) (o : Oper) (a : Act) (u : Value) (w' : World) : Prop := ∃ w0 w1, C w0 ∧ (execOp a.eval o).run P w0 = .ok (.value u) w1 ∧ Below w1.heap.size w1 w'
def gets (P : Program) (C : World → Prop) (V : Nat → Option Value) (i : Nat) (o : Oper) (a : Act) (u : Value) (w' : World) : Prop :=
  match V i with
  | none => can P C o a u w'
  | some v => u = v
def yldM (P : Program) (ops : Array Oper) (C : World → Prop) (V : Nat → Option Value) (i : Nat) (o : Oper) (a : Act) : Prop :=
  Region.wanted o (yielded ops a.tmps) = true ∧ match V i with
    | none => ∀ w, C w → ∃ u w', (execOp a.eval o).run P w = .ok (.value u) w' ∧ C w' ∧ Below w.heap.size w w'
    | some v => ∀ w, C w → ∃ f args, (execOp a.eval o).run P w = .ok (.enter f args) w ∧ Calls P f args w fun e w'' => e = .returned v ∧ C w'' ∧ Below w.heap.size w w''
theorem gets.same {i : Nat} {o : Oper} {a a' : Act} (he : execOp a'.eval o = execOp a.eval o) : gets P C V i o a' = gets P C V i o a := by
  funext u w'
  unfold gets can
  rw [he]
theorem yldM.same {i : Nat} {o : Oper} {a a' : Act} (h : yldM P ops C V i o a) (he : execOp a'.eval o = execOp a.eval o) (hw : Region.wanted o (yielded ops a'.tmps) = Region.wanted o (yielded ops a.tmps)) : yldM P ops C V i o a' := by
  unfold yldM at *
  rw [he, hw]
  exact h
theorem gets.stable {i : Nat} {o : Oper} {a : Act} {u : Value} {w w' : World} (h : gets P C V i o a u w) (hb : Below w.heap.size w w') : gets P C V i o a u w' := by
  unfold gets at *
  split at h
  · obtain ⟨w0, w1, h1, h2, h3⟩ := h
    exact ⟨w0, w1, h1, h2, bthen h3 hb⟩
  · exact h
theorem yldM.some {i : Nat} {o : Oper} {a : Act} (h : yldM P ops C V i o a) (hC : ∃ w, C w) : ∃ u w', gets P C V i o a u w' := by
  unfold yldM at h
  unfold gets
  obtain ⟨w, hw⟩ := hC
  cases hv : V i with
  | none =>
    simp only [hv] at h ⊢
    obtain ⟨u, w', h1, h2, h3⟩ := h.2 w hw
    exact ⟨u, w', w, w', hw, h1, Below.refl _ _⟩
  | some v => exact ⟨v, w, rfl⟩

/-- Any order of the operations ahead of number n; D: what is known of the world by then. -/
def anyM (P : Program) (md : Region.Mode) (ops : Array Oper) (C : World → Prop) (V : Nat → Option Value) (n : Nat) (L : Array Bool → Act → (World → Prop) → Prop) : Nat → (World → Prop) → Array Bool → Act → Prop
  | 0, D, listed, a => L listed a D
  | f + 1, D, listed, a => Region.ready md ops listed ≠ [] ∧ ∀ i ∈ Region.ready md ops listed, i < n ∧ ∃ o, ops[i]? = some o ∧ yldM P ops C V i o a ∧ ∀ u, (∃ w', gets P C V i o a u w') → anyM P md ops C V n L f (fun w => D w ∧ gets P C V i o a u w) (listed.setIfInBounds i true) (a.put o.dst u)

theorem any_of_anyM {n g : Nat} {L : Array Bool → Act → (World → Prop) → Prop} {Q' : Exit → Act → World → Prop} (hL : ∀ listed a D w, C w → D w → L listed a D → wpAny P md ops Q' g listed a w) :
    ∀ (f : Nat) (D : World → Prop) (listed : Array Bool) (a : Act) (w : World), C w → D w → (∀ w w', D w → Below w.heap.size w w' → D w') → anyM P md ops C V n L f D listed a → wpAny P md ops Q' (f + g) listed a w := by
  intro f
  induction f with
  | zero => intro D listed a w hC hD _ h; rw [Nat.zero_add]; exact hL _ _ _ _ hC hD h
  | succ f ih =>
    intro D listed a w hC hD hst h
    rw [show f + 1 + g = (f + g) + 1 from by omega]
    refine ⟨fun h0 => absurd h0 h.1, fun i hi => ?_⟩
    obtain ⟨_, o, h1, h2, h3⟩ := h.2 i hi
    have next : ∀ u w', C w' → Below w.heap.size w w' → gets P C V i o a u w' → wpAny P md ops Q' (f + g) (listed.setIfInBounds i true) (a.put o.dst u) w' := fun u w' hC' hb hg =>
      ih _ _ _ _ hC' ⟨hst _ _ hD hb, hg⟩ (fun w1 w2 hh hb' => ⟨hst _ _ hh.1 hb', hh.2.stable hb'⟩) (h3 u ⟨w', hg⟩)
    unfold wpOp
    simp only [h1]
    unfold yldM at h2
    obtain ⟨hw, h2⟩ := h2
    simp only [hw, if_true]
    left
    unfold Oper.wp
    cases hv : V i with
    | none =>
      simp only [hv] at h2
      obtain ⟨u, w', hr, hC', hb⟩ := h2 w hC
      rw [hr]
      simp only [Oper.upon]
      exact next u w' hC' hb (by unfold gets; rw [hv]; exact ⟨w, w', hC, hr, Below.refl _ _⟩)
    | some v =>
      simp only [hv] at h2
      obtain ⟨f', args, hr, hc⟩ := h2 w hC
      rw [hr]
      simp only [Oper.upon]
      exact hc.mono fun e w'' ⟨he, hC', hb⟩ => by subst he; exact next v w'' hC' hb (by unfold gets; rw [hv])

theorem anyM_first {n i : Nat} {oi : Oper} {L : Array Bool → Act → (World → Prop) → Prop} (hCn : ∃ w, C w) (hi : ops[i]? = some oi) (hsel : ∀ (j : Nat) (o : Oper) cs b, ops[j]? = some o → o.op ≠ .select cs b)
    (hs : Region.sinkB md ops n = true) (hc : Region.chainB md ops n = true) (hn : n < ops.size) (hin : i < n) (hdone : ∀ listed a D, L listed a D → ∀ j ∈ Region.ready md ops listed, n ≤ j) :
    ∀ (f : Nat) (D : World → Prop) (listed : Array Bool) (a : Act), HeadInv md ops n listed →
      (∀ j oj, ops[j]? = some oj → j ≠ i → listed.getD j true = false → (∀ e ∈ oj.after, Region.binds md e = true → e.on ≠ i) → oi.apart ops oj = true) →
      i ∈ Region.ready md ops listed → yldM P ops C V i oi a → (∀ u, (∃ w', gets P C V i oi a u w') → anyM P md ops C V n L f (fun w => D w ∧ gets P C V i oi a u w) (listed.setIfInBounds i true) (a.put oi.dst u)) → anyM P md ops C V n L (f + 1) D listed a := by
  intro f
  induction f with
  | zero =>
    intro D listed a inv _ hr hy H
    have hun := (mem_ready.1 hr).1
    refine ⟨fun h => (by rw [h] at hr; cases hr), fun j hj => ?_⟩
    have hjn : j < n := Nat.lt_of_not_le fun h => tail_waits hs hc hn inv _ i rfl hin hun j h hj
    by_cases hji : j = i
    · subst hji
      exact ⟨hjn, oi, hi, hy, H⟩
    · obtain ⟨u0, hu0⟩ := hy.some hCn
      have := hdone _ _ _ (H u0 hu0) j (ready_mono hj hji)
      omega
  | succ f ih =>
    intro D listed a inv hfree hr hy H
    have hun := (mem_ready.1 hr).1
    refine ⟨fun h => (by rw [h] at hr; cases hr), fun j hj => ?_⟩
    have hjn : j < n := Nat.lt_of_not_le fun h => tail_waits hs hc hn inv _ i rfl hin hun j h hj
    by_cases hji : j = i
    · subst hji
      exact ⟨hjn, oi, hi, hy, H⟩
    · obtain ⟨hjun, oj, hoj, hall⟩ := mem_ready.1 hj
      have hno : ∀ e ∈ oj.after, Region.binds md e = true → e.on ≠ i := fun e he hb heq => by
        have h1 := hall e he hb
        rw [heq, getD_both hun] at h1
        cases h1
      obtain ⟨a1, a2, a3⟩ := Oper.apart_spec (hfree j oj hoj hji hjun hno)
      have ej : ∀ u, execOp (a.put oi.dst u).eval oj = execOp a.eval oj := fun u => execOp_put oj (fun cs b => hsel j oj cs b hoj) a oi.dst u a1
      have ei : ∀ u, execOp (a.put oj.dst u).eval oi = execOp a.eval oi := fun u => execOp_put oi (fun cs b => hsel i oi cs b hi) a oj.dst u a3
      have hyj : yldM P ops C V j oj a := by
        obtain ⟨u0, hu0⟩ := hy.some hCn
        obtain ⟨_, oj', hoj', hyj, _⟩ := (H u0 hu0).2 j (ready_mono hj hji)
        obtain rfl : oj' = oj := Option.some.inj (hoj'.symm.trans hoj)
        exact hyj.same (ej u0).symm (wanted_put oj' a oi.dst u0 a1).symm
      refine ⟨hjn, oj, hoj, hyj, fun uj huj => ?_⟩
      refine ih _ (listed.setIfInBounds j true) (a.put oj.dst uj) (inv.set hj hjn) (fun k ok hk hki hun' hno' => ?_) (ready_mono hr (Ne.symm hji)) (hy.same (ei uj) (wanted_put oi a oj.dst uj a3)) (fun ui hui => ?_)
      · refine hfree k ok hk hki ?_ hno'
        by_cases hjk : j = k
        · subst hjk; exact hjun
        · rw [getD_set_ne true hjk] at hun'; exact hun'
      · rw [gets.same (ei uj)] at hui
        obtain ⟨_, oj', hoj', _, hrest⟩ := (H ui hui).2 j (ready_mono hj hji)
        obtain rfl : oj' = oj := Option.some.inj (hoj'.symm.trans hoj)
        have h1 := hrest uj (by rw [gets.same (ej ui)]; exact huj)
        rw [gets.same (ej ui)] at h1
        have e1 : (fun w => (D w ∧ gets P C V i oi a ui w) ∧ gets P C V j oj' a uj w) = (fun w => (D w ∧ gets P C V j oj' a uj w) ∧ gets P C V i oi (a.put oj'.dst uj) ui w) := by
          funext w
          rw [gets.same (ei uj)]
          exact propext ⟨fun ⟨⟨x, y⟩, z⟩ => ⟨⟨x, z⟩, y⟩, fun ⟨⟨x, y⟩, z⟩ => ⟨⟨x, z⟩, y⟩⟩
        rw [e1] at h1
        rw [Array.setIfInBounds_comm _ _ hji, ← Act.put_comm a ui uj a2]
        exact h1

/-- The walk in the text's order. -/
def wpM (P : Program) (ops : Array Oper) (C : World → Prop) (V : Nat → Option Value) (Q : Act → (World → Prop) → Prop) : Nat → List Oper → (World → Prop) → Act → Prop
  | _, [], D, a => Q a D
  | i, o :: rest, D, a => yldM P ops C V i o a ∧ ∀ u, (∃ w', gets P C V i o a u w') → wpM P ops C V Q (i + 1) rest (fun w => D w ∧ gets P C V i o a u w) (a.put o.dst u)

theorem anyM_lex {n g : Nat} {Lq : Act → (World → Prop) → Prop} (hCn : ∃ w, C w) (hsel : Region.noSelect ops = true) (hs : Region.sinkB md ops n = true) (hc : Region.chainB md ops n = true) (hn : n < ops.size) :
    ∀ (l : List Oper) (k : Nat) (D : World → Prop) (listed : Array Bool) (a : Act), (∀ j, j < l.length → l[j]? = ops[k + j]?) → k + l.length = n → HeadInv md ops n listed → Region.lexHead md ops g l.length k listed = true → wpM P ops C V Lq k l D a →
    anyM P md ops C V n (fun listed' a' D' => Region.seqB md ops g n listed' = true ∧ Lq a' D') l.length D listed a := by
  intro l
  induction l with
  | nil =>
    intro k D listed a _ hk _ hB h
    obtain rfl : k = n := by simpa using hk
    exact ⟨by simpa [Region.lexHead] using hB, h⟩
  | cons o l ih =>
    intro k D listed a hl hk inv hB h
    have h0 : ops[k]? = some o := by simpa using (hl 0 (by simp)).symm
    simp only [List.length_cons, Region.lexHead, Bool.and_eq_true] at hB
    obtain ⟨⟨hr, hf⟩, hB'⟩ := hB
    have hkn : k < n := by simp only [List.length_cons] at hk; omega
    have hr' : k ∈ Region.ready md ops listed := by simpa using hr
    obtain ⟨hy, hK⟩ := h
    exact anyM_first hCn h0 (Region.noSelect_spec hsel) hs hc hn hkn (fun listed' a' D' hL => seqB_ready hL.1) l.length D listed a inv (Region.free_spec h0 hf) hr' hy
      (fun u hu => ih (k + 1) _ _ _ (fun j hj => by have := hl (j + 1) (by simp; omega); simpa [Nat.add_assoc, Nat.add_comm 1 j] using this) (by simp only [List.length_cons] at hk; omega) (inv.set hr' hkn) hB' (hK u hu))

/-- The region: ahead of number n all keeps to the class and only makes memory; from n on one behind the other, in every world of which D is known. -/
theorem wp_region_many {id : Nat} {Q : Exit → Act → World → Prop} {a : Act} {w : World} {l : List Oper} (C : World → Prop) (V : Nat → Option Value) (n : Nat) (hm : P.follows .mixedOrders = true) (hB : Region.lexTailB .any l.toArray n = true) (hC : C w.drew)
    (h : wpM P l.toArray C V (fun a' D => ∀ w', C w' → D w' → wpList P l.toArray Q (l.drop n) a' w') 0 (l.take n) (fun _ => True) a) : (Code.region id l.toArray true).wp P Q a w := by
  simp only [Region.lexTailB, Bool.and_eq_true, decide_eq_true_eq] at hB
  obtain ⟨⟨⟨⟨hsel, hn⟩, hs⟩, hc⟩, hlex⟩ := hB
  have hn' : n < l.length := by simpa using hn
  have htl : (l.take n).length = n := by simp; omega
  have hdl : (l.drop n).length = l.toArray.size - n := by simp
  have inv0 : HeadInv .any l.toArray n (Array.replicate l.toArray.size false) :=
    ⟨by simp, fun j oj _ hl => (by rw [getD_replicate_false] at hl; cases hl), fun t _ ht => getD_in (by simpa using ht) (getD_replicate_false _ _)⟩
  have H := anyM_lex (md := .any) (g := l.toArray.size - n) ⟨_, hC⟩ hsel hs hc hn (l.take n) 0 _ _ a (fun j hj => by
    have hj' : j < n := by rw [htl] at hj; exact hj
    simp [hj']) (by simpa using htl) inv0 (by rw [htl]; exact hlex) h
  refine wp_region_any hm ?_
  have := any_of_anyM (Q' := Q) (g := l.toArray.size - n) (fun listed a' D' w' hw' hD' hL => by
    have := wpAny_of_seq (md := .any) (Q' := Q) (l.drop n) n listed a' w' (fun j => by simp [List.getElem?_drop]) (by rw [hdl]; exact hL.1) (hL.2 _ hw' hD')
    rwa [hdl] at this) _ _ _ _ _ hC trivial (fun _ _ h _ => h) H
  rw [htl, show n + (l.toArray.size - n) = l.toArray.size from by omega] at this
  exact this

theorem wpM_mono {Q : Act → (World → Prop) → Prop} (hQ : ∀ a D D', (∀ w, D' w → D w) → Q a D → Q a D') : ∀ (l : List Oper) (i : Nat) (D D' : World → Prop) (a : Act), (∀ w, D' w → D w) → wpM P ops C V Q i l D a → wpM P ops C V Q i l D' a := by
  intro l
  induction l with
  | nil => intro i D D' a hD h; exact hQ a D D' hD h
  | cons o l ih => intro i D D' a hD h; exact ⟨h.1, fun u hu => ih _ _ _ _ (fun w hw => ⟨hD w hw.1, hw.2⟩) (h.2 u hu)⟩
/-- The last: what is known is used. -/
theorem wpM_nil {Q : Act → (World → Prop) → Prop} {D : World → Prop} {a : Act} {i : Nat} (h : Q a D) : wpM P ops C V Q i [] D a := h
/-- One value in every world. -/
theorem wpM_one {Q : Act → (World → Prop) → Prop} (hQ : ∀ a D D', (∀ w, D' w → D w) → Q a D → Q a D') {D : World → Prop} {a : Act} {o : Oper} {rest : List Oper} {i : Nat} (hv : V i = none) (hw : Region.wanted o (yielded ops a.tmps) = true) (v : Value) (h : ∀ w, C w → (execOp a.eval o).run P w = .ok (.value v) w)
    (hK : wpM P ops C V Q (i + 1) rest D (a.put o.dst v)) : wpM P ops C V Q i (o :: rest) D a := by
  refine ⟨⟨hw, ?_⟩, fun u hu => ?_⟩
  · rw [hv]
    exact fun w hC => ⟨v, w, h w hC, hC, Below.refl _ _⟩
  · unfold gets at hu
    rw [hv] at hu
    obtain ⟨w', w0, w1, h1, h2, _⟩ := hu
    rw [h w0 h1] at h2
    simp only [Result.ok.injEq, Next.value.injEq] at h2
    rw [← h2.1]
    exact wpM_mono hQ _ _ _ _ _ (fun w hw => hw.1) hK
/-- A call, whose value is told ahead. -/
theorem wpM_call {Q : Act → (World → Prop) → Prop} (hQ : ∀ a D D', (∀ w, D' w → D w) → Q a D → Q a D') {D : World → Prop} {a : Act} {o : Oper} {rest : List Oper} {i : Nat} {v : Value} (hv : V i = some v) (hw : Region.wanted o (yielded ops a.tmps) = true) (h : ∀ w, C w → ∃ f args, (execOp a.eval o).run P w = .ok (.enter f args) w ∧ Calls P f args w fun e w'' => e = .returned v ∧ C w'' ∧ Below w.heap.size w w'')
    (hK : wpM P ops C V Q (i + 1) rest D (a.put o.dst v)) : wpM P ops C V Q i (o :: rest) D a := by
  refine ⟨⟨hw, ?_⟩, fun u hu => ?_⟩
  · rw [hv]; exact h
  · unfold gets at hu
    rw [hv] at hu
    obtain ⟨_, rfl⟩ := hu
    exact wpM_mono hQ _ _ _ _ _ (fun w hw => hw.1) hK
/-- Memory made: R tells what is known of it, whatever comes behind. -/
theorem wpM_many {Q : Act → (World → Prop) → Prop} (hQ : ∀ a D D', (∀ w, D' w → D w) → Q a D → Q a D') {D : World → Prop} {a : Act} {o : Oper} {rest : List Oper} {i : Nat} (hv : V i = none) (hw : Region.wanted o (yielded ops a.tmps) = true) (R : Value → World → Prop) (hR : ∀ u w w', R u w → Below w.heap.size w w' → R u w')
    (h : ∀ w, C w → ∃ u w', (execOp a.eval o).run P w = .ok (.value u) w' ∧ C w' ∧ Below w.heap.size w w' ∧ R u w') (hK : ∀ u, (∃ w, R u w) → wpM P ops C V Q (i + 1) rest (fun w => D w ∧ R u w) (a.put o.dst u)) : wpM P ops C V Q i (o :: rest) D a := by
  refine ⟨⟨hw, ?_⟩, fun u hu => ?_⟩
  · rw [hv]
    exact fun w hC => by obtain ⟨u, w', h1, h2, h3, _⟩ := h w hC; exact ⟨u, w', h1, h2, h3⟩
  · unfold gets at hu ⊢
    rw [hv] at hu
    have key : ∀ w', can P C o a u w' → R u w' := fun w' ⟨w0, w1, h1, h2, h3⟩ => by
      obtain ⟨u', w2, g1, _, _, g4⟩ := h w0 h1
      rw [h2] at g1
      simp only [Result.ok.injEq, Next.value.injEq] at g1
      obtain ⟨rfl, rfl⟩ := g1
      exact hR _ _ _ g4 h3
    obtain ⟨w', hu⟩ := hu
    refine wpM_mono hQ _ _ _ _ _ (fun w hw => ⟨hw.1, ?_⟩) (hK u ⟨w', key w' hu⟩)
    have := hw.2
    simp only [hv] at this
    exact key w this
theorem wpM_of_quiet {Q : Act → (World → Prop) → Prop} (hQ : ∀ a D D', (∀ w, D' w → D w) → Q a D → Q a D') (hCn : ∃ w, C w) {D : World → Prop} {r : List Oper} : ∀ (l : List Oper) (i : Nat) (a : Act), l.all (fun o => plainB o.op && o.guard.isNone) = true → (∀ j, j < l.length → V (i + j) = none) → wpQuiet P ops (fun w => ∃ p : In C, w = p.w) (wpM P ops C V Q (i + l.length) r D) l a → wpM P ops C V Q i (l ++ r) D a := by
  intro l
  induction l with
  | nil => intro i a _ _ h; exact h
  | cons o l ih =>
    intro i a hp hV h
    simp only [List.all_cons, Bool.and_eq_true] at hp
    obtain ⟨⟨hp1, hp2⟩, hp3⟩ := hp
    have hw : Region.wanted o (yielded ops a.tmps) = true := by
      unfold Region.wanted
      rw [Option.isNone_iff_eq_none.1 hp2]
    simp only [wpQuiet] at h
    simp only [hw, if_true] at h
    obtain ⟨v, h1, h2⟩ := h
    have hone : ∀ w, C w → (execOp a.eval o).run P w = .ok (.value v) w := fun w hC => by
      have h3 := h1 w ⟨⟨w, hC⟩, rfl⟩
      unfold Oper.quietAt at h3
      generalize hr : (execOp a.eval o).run P w = r' at *
      cases r' with
      | ok n w' =>
        obtain ⟨u, rfl⟩ := plain_value hp1 hr
        simp only [Oper.quietUpon] at h3
        obtain ⟨rfl, rfl⟩ := h3
        rfl
      | halt x w' => simp only [Oper.quietUpon] at h3
    refine wpM_one hQ (by have := hV 0 (by simp); simpa using this) hw v hone ?_
    refine ih (i + 1) _ hp3 (fun j hj => by have := hV (j + 1) (by simp; omega); rwa [show i + (j + 1) = i + 1 + j from by omega] at this) ?_
    rw [List.length_cons, show i + (l.length + 1) = i + 1 + l.length from by omega] at h2
    exact h2
/-- The next k operations, of which each gives one value and turns nothing, by quiet steps; they end at number j. -/
theorem wpM_part {Q : Act → (World → Prop) → Prop} (hQ : ∀ a D D', (∀ w, D' w → D w) → Q a D → Q a D') (hCn : ∃ w, C w) {D : World → Prop} {a : Act} {l : List Oper} {i : Nat} (k j : Nat) (hp : (l.take k).all (fun o => plainB o.op && o.guard.isNone) = true) (hj : i + (l.take k).length = j) (hV : (List.range (l.take k).length).all (fun j => (V (i + j)).isNone) = true) (h : wpQuiet P ops (fun w => ∃ p : In C, w = p.w) (wpM P ops C V Q j (l.drop k) D) (l.take k) a) : wpM P ops C V Q i l D a := by
  subst hj
  have := wpM_of_quiet (r := l.drop k) hQ hCn (l.take k) i a hp (fun j hj => by
    have := List.all_eq_true.1 hV j (List.mem_range.2 hj)
    exact Option.isNone_iff_eq_none.1 this) h
  rwa [List.take_append_drop] at this
end

end Go.Proofs.YtoemmakhbiiknaaGreat
