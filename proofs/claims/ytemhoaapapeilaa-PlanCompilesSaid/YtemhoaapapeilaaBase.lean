/-
  Words and lemmas for every seat of the set: a slice that reads as a list, arguments that are slices of flat structs, and the frame of a law's row (kept apart from the program).
-/
import Derived.Test.YtemhoaapapeilaaRows
import Derived.WalkKit
import Derived.ProofKit
import Derived.OpenShut
import Derived.SizedLaws
import Derived.JoinedCond
import Derived.Deep.CondSized
import Derived.Deep.Slices
import Derived.Deep.Fields
namespace Go.Proofs.Ytemhoaapapeilaa
open Go.ChangeShapes Go.WideShapes Go.ChangeAt Go.RowKit Go.Deep

/-- A fact kept from the walk. -/
theorem hid {p : Prop} (h : p) : Hid p := h

/-- One call behind the other. -/
theorem bthen {w w1 w2 : World} (h : Below w.heap.size w w1) (h2 : Below w1.heap.size w1 w2) : Below w.heap.size w w2 := h.trans (h2.mono h.size)

theorem ret3 {a b c a' b' c' : Int} {k1 k2 k3 : IntKind} (h1 : a = a') (h2 : b = b') (h3 : c = c') : Ending.returned (.tuple #[.int k1 a, .int k2 b, .int k3 c]) = .returned (.tuple #[.int k1 a', .int k2 b', .int k3 c']) := by rw [h1, h2, h3]

/-! ### A slice that reads as a list of cells -/

/-- The slice at address A reads, cell by cell, as xs. -/
def Rd (w : World) (A : Option Addr) (xs : List Value) : Prop :=
  xs = [] ∨ ∃ b off, A = some ⟨b, off, none⟩ ∧ b < w.heap.size ∧ ∀ j u, xs[j]? = some u → w.cell? ⟨b, off + j, none⟩ = some u

theorem Rd.nil (w : World) (A : Option Addr) : Rd w A [] := .inl rfl

theorem Rd.below {w w' : World} {A : Option Addr} {xs : List Value} (h : Rd w A xs) (hb : Below w.heap.size w w') : Rd w' A xs := by
  rcases h with h | ⟨b, off, hA, hlt, hc⟩
  · exact .inl h
  · exact .inr ⟨b, off, hA, by have := hb.size; omega, fun j u hu => (hb.cell (p := ⟨b, off + j, none⟩) hlt).trans (hc j u hu)⟩

theorem getElem?_flatMap {α : Type} (enc : α → List Value) (s : Nat) (hs : ∀ x, (enc x).length = s) (l : List α) (k : Nat) (x : α) (hk : l[k]? = some x) (j : Nat) (hj : j < s) : (l.flatMap enc)[k * s + j]? = (enc x)[j]? := by
  induction l generalizing k with
  | nil => simp at hk
  | cons y l ih =>
    cases k with
    | zero =>
      simp only [List.getElem?_cons_zero, Option.some.injEq] at hk
      subst hk
      simp only [List.flatMap_cons, Nat.zero_mul, Nat.zero_add]
      rw [List.getElem?_append_left (by rw [hs]; exact hj)]
    | succ k =>
      simp only [List.getElem?_cons_succ] at hk
      simp only [List.flatMap_cons]
      rw [List.getElem?_append_right (by rw [hs, Nat.succ_mul]; omega), hs, ← ih k hk]
      congr 1
      rw [Nat.succ_mul]; omega

theorem length_flatMap_const {α : Type} (enc : α → List Value) (s : Nat) (hs : ∀ x, (enc x).length = s) (l : List α) : (l.flatMap enc).length = l.length * s := by
  induction l with
  | nil => simp
  | cons y l ih => simp only [List.flatMap_cons, List.length_append, hs, ih, List.length_cons, Nat.succ_mul]; omega

/-- Element k of a slice of structs: its address and its cells. -/
theorem Rd.at_ {α : Type} {enc : α → List Value} {w : World} {A : Option Addr} {l : List α} (h : Rd w A (l.flatMap enc)) (s : Nat) (hs : ∀ x, (enc x).length = s) (hpos : 0 < s) {k : Nat} {x : α} (hk : l[k]? = some x) :
    ∃ b off, A = some ⟨b, off, none⟩ ∧ b < w.heap.size ∧ ∀ j u, (enc x)[j]? = some u → w.cell? ⟨b, off + k * s + j, none⟩ = some u := by
  rcases h with h | ⟨b, off, hA, hlt, hc⟩
  · have h1 : (l.flatMap enc)[k * s + 0]? = (enc x)[0]? := getElem?_flatMap enc s hs l k x hk 0 hpos
    rw [h, List.getElem?_eq_getElem (l := enc x) (by rw [hs]; exact hpos)] at h1
    simp at h1
  · refine ⟨b, off, hA, hlt, fun j u hu => ?_⟩
    have hj : j < s := by rw [← hs x]; exact (List.getElem?_eq_some_iff.1 hu).1
    rw [Nat.add_assoc]
    exact hc _ u ((getElem?_flatMap enc s hs l k x hk j hj).trans hu)

/-! ### A block that is known whole -/

/-- Block g is just the cells cs, of element type t; none is frozen. -/
def Blk (w : World) (g : Nat) (t : TypeId) (cs : Array Value) : Prop := w.heap[g]? = some (.cells cs t (0, 0))

section
variable {w w' : World} {g : Nat} {t : TypeId} {cs : Array Value}
theorem Blk.lt (h : Blk w g t cs) : g < w.heap.size := by
  rcases Nat.lt_or_ge g w.heap.size with hlt | hge
  · exact hlt
  · unfold Blk at h; rw [Array.getElem?_eq_none hge] at h; cases h
theorem Blk.cell (h : Blk w g t cs) (i : Nat) : w.cell? ⟨g, i, none⟩ = cs[i]? := cell_of_row w g i cs t (0, 0) h
theorem Blk.free (h : Blk w g t cs) (i : Nat) : w.frozen? ⟨g, i, none⟩ = false := by
  unfold Blk at h
  simp [World.frozen?, h]
theorem Blk.new (w : World) (t : TypeId) (cs : Array Value) : Blk (w.alloc (.cells cs t)) w.heap.size t cs := heap_alloc_new w _
theorem Blk.alloc (h : Blk w g t cs) (o : Obj) : Blk (w.alloc o) g t cs := (Below.heap_alloc w o g h.lt).trans h
theorem Blk.set_ (h : Blk w g t cs) (i : Nat) (u : Value) : Blk (w.setCell ⟨g, i, none⟩ u) g t (cs.setIfInBounds i u) := by
  unfold Blk at h ⊢
  simp [World.setCell, Array.getElem?_modify, h]
theorem Blk.far (h : Blk w g t cs) {p : Addr} (hp : g ≠ p.block) (u : Value) : Blk (w.setCell p u) g t cs := (Below.heap_setCell w p u g hp).trans h
theorem Blk.below {B : Nat} (h : Blk w g t cs) (hb : Below B w w') (hg : g < B) : Blk w' g t cs := (hb.block g hg).trans h
theorem Blk.next (h : Blk w g t cs) (hb : Below w.heap.size w w') : Blk w' g t cs := h.below hb h.lt
theorem Blk.grown {row : Option Nat} (h : Blk w g t cs) (hb : w.grownBy w' row) (hg : some g ≠ row) : Blk w' g t cs := (hb.block g h.lt hg).trans h
theorem Blk.ne_ {g' : Nat} {t' : TypeId} {cs' : Array Value} (h : Blk w g t cs) (h' : Blk w g' t' cs') (hne : t ≠ t') : g ≠ g' := by
  rintro rfl
  unfold Blk at h h'
  rw [h] at h'
  injection h' with h'
  injection h' with _ ht
  exact hne ht
end

/-! ### append of one element -/

/-- 'l = append(l, x)': x lies in the new block at the heap's end; the row is the call's own (or nil). -/
theorem wpList_push {P : Program} {ops : Array Oper} {rest : List Oper} {o : Oper} {a : Act} {Q : Exit → Act → World → Prop} (w : World) (hgd : o.guard = none) (s x : Operand) (t : TypeId)
    (ho : o.op = .call { callee := .builtin .append, args := #[s, x], argTypes := #[t, t] })
    (base : Nat) (e : TypeId) (i : TypeInfo) (z : Value) (size bytes : Nat) (ht : P.underlying t = some (.slice e)) (hi : P.info? e = some i) (hz : i.zero = some z)
    (hsize : i.size = size) (hby : i.bytes = bytes) (hzs : z.cells.size = size) (hsz : 0 < size)
    (v : Value) (n : Nat) (xs : List Value) (hs : a.eval s = v) (hown : w.ownsRow base e size v n xs) (cs : Array Value) (g : Nat) (hg : g = w.heap.size)
    (hx : a.eval x = .slice (some ⟨g, 0, none⟩) 1 1) (hl : cs.size = size) (h1 : cs.toList.all Value.oneCell' = true)
    (hn : n + 1 ≤ maxLen) (hb : (n + 1) * bytes ≤ 140737488355328) (hbase : base ≤ w.heap.size)
    (h : ∀ v' w', w'.ownsRow base e size v' (n + 1) (xs ++ cs.toList) → (w.alloc (.cells cs e)).grownBy w' v.ownBlock → wpList P ops Q rest (a.put o.dst v') w') :
    wpList P ops Q (o :: rest) a (w.alloc (.cells cs e)) := by
  subst hg
  refine wpList_append_own _ hgd s x t ho base e i z size bytes ht hi hz hsize hby hzs hsz v n xs hs (hown.alloc _) ⟨w.heap.size, 0, none⟩ 1 1 cs.toList hx (by simp [hl]) ?_ (List.all_eq_true.1 h1) hn hb (by simp; omega) (fun v' w' h2 h3 _ => h v' w' h2 h3)
  intro j u hu
  rw [add_plain, Nat.zero_add, cell_of_row _ _ _ cs e (0, 0) (heap_alloc_new w _)]
  simpa using hu

/-! ### Arguments: slices of flat structs -/

inductive SK where
  | int (k : IntKind)
  | bool
  | str

def SK.ok : SK → Value → Prop
  | .int k, v => ∃ n, v = .int k n ∧ (Lit.int k n).wf = true
  | .bool, v => ∃ b, v = .bool b
  | .str, v => ∃ s : ByteArray, v = .string s ∧ s.size ≤ maxLen

def SK.of (P : Program) (t : TypeId) : Option SK :=
  match P.underlying t with
  | some (.int k) => some (.int k)
  | some .bool => some .bool
  | some .string => some .str
  | _ => none

section
variable {H : Type} {enc : TypeId × Value → H} {P : Program} {w : World} {base : Nat} {spare : Nat → Bool} {held : Bool}

theorem trod_scalar {t : TypeId} {k : SK} (hk : SK.of P t = some k) {fuel : Nat} {v : Value} {x : DataW H × List MemPlace} (h : DataW.trod enc P w base spare held fuel t [v] = some x) : k.ok v := by
  unfold SK.of at hk
  split at hk
  · rename_i k' hu
    injection hk with hk
    subst hk
    obtain ⟨n, hv, _, hw⟩ := DataW.trod_int hu h
    simp only [List.cons.injEq, and_true] at hv
    exact ⟨n, hv, hw⟩
  · rename_i hu
    injection hk with hk
    subst hk
    obtain ⟨b, hv, _⟩ := DataW.trod_bool hu h
    simp only [List.cons.injEq, and_true] at hv
    exact ⟨b, hv⟩
  · rename_i hu
    injection hk with hk
    subst hk
    obtain ⟨s, hv, _, hw⟩ := DataW.trod_string hu h
    simp only [List.cons.injEq, and_true] at hv
    exact ⟨s, hv, hw⟩
  · cases hk

theorem cells_none {a : Addr} {n : Nat} {cs : List Value} (hn : 0 < n) (h : ∀ j, j < n → w.cell? (a.add j) = cs[j]?) (hl : cs.length = n) : a.spot = none := by
  have h0 := h 0 hn
  rw [List.getElem?_eq_getElem (by omega)] at h0
  simpa [Addr.add] using World.cell?_spot h0

/-- The cells of an element of type e, as flat scalars. -/
def Flat (P : Program) (e : TypeId) (ks : List SK) : Prop :=
  P.cellsOf e = ks.length ∧ ∀ {H : Type} (enc : TypeId × Value → H) (w : World) (base : Nat) (spare : Nat → Bool) (held : Bool) (fuel : Nat) (cs : List Value) (x : DataW H × List MemPlace), cs.length = ks.length →
    DataW.trod enc P w base spare held fuel e cs = some x → ∀ (j : Nat) (u : Value), cs[j]? = some u → ∃ k : SK, ks[j]? = some k ∧ k.ok u

theorem flat_scalar {e : TypeId} {k : SK} (hk : SK.of P e = some k) (hc : P.cellsOf e = 1) : Flat P e [k] := by
  refine ⟨hc, fun enc w base spare held fuel cs x hl h j u hu => ?_⟩
  match cs, hl with
  | [v], _ =>
    have hj : j = 0 := by have := (List.getElem?_eq_some_iff.1 hu).1; simp at this; exact this
    subst hj
    simp at hu
    subst hu
    exact ⟨k, rfl, trod_scalar hk h⟩

theorem flat_struct {e : TypeId} {fs : Array Field} {ks : List SK} (he : P.underlying e = some (.struct fs)) (hone : oneCellFields P fs = true) (hC : P.cellsOf e = fs.size)
    (hks : (fs.toList.map fun f => SK.of P f.type) = ks.map some) : Flat P e ks := by
  have hsz : fs.size = ks.length := by have := congrArg List.length hks; simpa using this
  refine ⟨hC.trans hsz, fun enc w base spare held fuel cs x hl h j u hu => ?_⟩
  obtain ⟨ys, n', hn', hy, hlen, hyl, hf⟩ := DataW.trod_struct he h
  have hjl : j < cs.length := (List.getElem?_eq_some_iff.1 hu).1
  have hjs : j < fs.size := by omega
  have hfj : fs[j]? = some fs[j] := Array.getElem?_eq_getElem hjs
  obtain ⟨ho, hk1⟩ := hone_of hone j _ hfj
  have h1 := hf j _ hfj
  rw [ho, hk1] at h1
  have hone' : (cs.drop j).take 1 = [u] := by
    rw [List.drop_eq_getElem_cons hjl]
    rw [List.getElem?_eq_getElem hjl] at hu
    injection hu with hu
    rw [hu]
    rfl
  rw [hone', List.getElem?_eq_getElem (by omega)] at h1
  have hkj : ks[j]? = some (ks[j]'(by omega)) := List.getElem?_eq_getElem (by omega)
  refine ⟨_, hkj, trod_scalar ?_ h1⟩
  have e1 := congrArg (fun l => l[j]?) hks
  simp only [List.getElem?_map] at e1
  rw [hkj, show fs.toList[j]? = some fs[j] from by simp [hfj]] at e1
  simpa using e1

/-- A SLICE OF FLAT ELEMENTS, OPENED: its cells, all of them scalars of the field's kind; how long its datum is. -/
theorem open_flat {t e : TypeId} {ks : List SK} (ht : P.underlying t = some (.slice e)) (hF : Flat P e ks) (hpos : 0 < ks.length) {fuel : Nat} {cs : List Value} {x : DataW H × List MemPlace} (h : DataW.trod enc P w base spare held fuel t cs = some x) :
    ∃ (A : Option Addr) (len cap : Nat) (xs : List Value), cs = [.slice A len cap] ∧ len ≤ cap ∧ cap ≤ maxLen ∧ xs.length = len * ks.length ∧ Rd w A xs ∧
      (∀ i, i < len → ∀ j, j < ks.length → ∃ (u : Value) (k : SK), xs[i * ks.length + j]? = some u ∧ ks[j]? = some k ∧ k.ok u) ∧
      (len = 0 ∨ ∃ elems sp, x.1 = .slice elems sp ∧ elems.length = len) := by
  obtain ⟨hC, hF⟩ := hF
  rcases open_slice ht h with ⟨h0, _⟩ | ⟨a, len, cap, m, n, D, Pl, hcs, hb, hl, hm, hmm, hx, hi⟩
  · exact ⟨none, 0, 0, [], h0, Nat.le_refl _, Nat.zero_le _, by simp, .inl rfl, fun i hi => absurd hi (Nat.not_lt_zero _), .inl rfl⟩
  · have hlm : len ≤ m := by rw [hmm]; split <;> omega
    rw [hC] at hi
    have each : ∀ i, i < len → ∃ cs' : List Value, cs'.length = ks.length ∧ (∀ j, j < ks.length → w.cell? (a.add (i * ks.length + j)) = cs'[j]?) ∧ ∀ (j : Nat) (u : Value), cs'[j]? = some u → ∃ k : SK, ks[j]? = some k ∧ k.ok u := by
      intro i hil
      obtain ⟨cs', hc, ht'⟩ := hi i (by omega)
      obtain ⟨_, hcl, hat⟩ := World.cells?_some hc
      exact ⟨cs', hcl, fun j hj => by rw [← hat j hj, Go.Deep.add_add], hF _ _ _ _ _ _ _ _ hcl ht'⟩
    obtain ⟨f, hf⟩ := choose_lt (α := List Value) each
    refine ⟨some a, len, cap, (List.range len).flatMap f, hcs, hl, hm, ?_, ?_, ?_, .inr ⟨_, _, by rw [hx], by simp⟩⟩
    · have : ∀ n, n ≤ len → ((List.range n).flatMap f).length = n * ks.length := by
        intro n hn
        induction n with
        | zero => simp
        | succ n ih => rw [List.range_succ, List.flatMap_append, List.length_append, ih (by omega)]; simp [(hf n (by omega)).1, Nat.succ_mul]
      exact this len (Nat.le_refl _)
    · rcases Nat.eq_zero_or_pos len with h0 | h0
      · left; simp [h0]
      · right
        obtain ⟨b, off, spot⟩ := a
        have hsp : spot = none := cells_none (a := ⟨b, off, spot⟩) (n := ks.length) (cs := f 0) hpos (fun j hj => by have := (hf 0 h0).2.1 j hj; simpa using this) (hf 0 h0).1
        subst hsp
        have e0 := (hf 0 h0).2.1 0 hpos
        rw [List.getElem?_eq_getElem (by rw [(hf 0 h0).1]; exact hpos)] at e0
        refine ⟨b, off, rfl, by simpa [Addr.add] using World.block_lt_of_cell? _ _ e0, ?_⟩
        have key : ∀ n, n ≤ len → ∀ j u, ((List.range n).flatMap f)[j]? = some u → w.cell? ⟨b, off + j, none⟩ = some u := by
          intro n hn
          induction n with
          | zero => intro j u hu; simp at hu
          | succ n ih =>
            intro j u hu
            have hln : ((List.range n).flatMap f).length = n * ks.length := by
              have : ∀ n, n ≤ len → ((List.range n).flatMap f).length = n * ks.length := by
                intro n hn
                induction n with
                | zero => simp
                | succ n ih => rw [List.range_succ, List.flatMap_append, List.length_append, ih (by omega)]; simp [(hf n (by omega)).1, Nat.succ_mul]
              exact this n (by omega)
            rw [List.range_succ, List.flatMap_append] at hu
            by_cases hj : j < n * ks.length
            · rw [List.getElem?_append_left (by omega)] at hu
              exact ih (by omega) j u hu
            · rw [List.getElem?_append_right (by omega), hln] at hu
              simp only [List.flatMap_cons, List.flatMap_nil, List.append_nil] at hu
              have hjk : j - n * ks.length < ks.length := Nat.lt_of_lt_of_eq (List.getElem?_eq_some_iff.1 hu).1 (hf n (by omega)).1
              have := (hf n (by omega)).2.1 (j - n * ks.length) hjk
              rw [hu, show n * ks.length + (j - n * ks.length) = j from by omega] at this
              simpa [add_plain] using this
        exact key len (Nat.le_refl _)
    · intro i hil j hj
      have hidx : ∀ n, i < n → n ≤ len → ((List.range n).flatMap f)[i * ks.length + j]? = (f i)[j]? := by
        intro n hin hn
        induction n with
        | zero => omega
        | succ n ih =>
          have hln : ∀ n, n ≤ len → ((List.range n).flatMap f).length = n * ks.length := by
            intro n hn
            induction n with
            | zero => simp
            | succ n ih => rw [List.range_succ, List.flatMap_append, List.length_append, ih (by omega)]; simp [(hf n (by omega)).1, Nat.succ_mul]
          rw [List.range_succ, List.flatMap_append]
          by_cases e : i = n
          · subst e
            rw [List.getElem?_append_right (by rw [hln i (by omega)]; omega), hln i (by omega)]
            simp
          · have : (i + 1) * ks.length ≤ n * ks.length := Nat.mul_le_mul_right _ (by omega)
            rw [Nat.succ_mul] at this
            rw [List.getElem?_append_left (by rw [hln n (by omega)]; omega)]
            exact ih (by omega) (by omega)
      have hjl : j < (f i).length := by rw [(hf i hil).1]; exact hj
      obtain ⟨k, hk, hok⟩ := (hf i hil).2.2 j _ (List.getElem?_eq_getElem hjl)
      exact ⟨_, k, (hidx len hil (Nat.le_refl _)).trans (List.getElem?_eq_getElem hjl), hk, hok⟩

/-- .. AND AS A LIST OF THINGS: 'dec' tells from one element's cells what it is. -/
theorem flat_list {α : Type} {en : α → List Value} {ok : α → Prop} {ks : List SK} (hdec : ∀ vs : List Value, vs.length = ks.length → (∀ j, j < ks.length → ∃ (u : Value) (k : SK), vs[j]? = some u ∧ ks[j]? = some k ∧ k.ok u) → ∃ x, vs = en x ∧ ok x) :
    ∀ (len : Nat) (xs : List Value), xs.length = len * ks.length → (∀ i, i < len → ∀ j, j < ks.length → ∃ (u : Value) (k : SK), xs[i * ks.length + j]? = some u ∧ ks[j]? = some k ∧ k.ok u) → ∃ l : List α, xs = l.flatMap en ∧ l.length = len ∧ ∀ x ∈ l, ok x := by
  intro len
  induction len with
  | zero => intro xs hl _; exact ⟨[], by simp at hl; simp [hl], rfl, fun x hx => by cases hx⟩
  | succ n ih =>
    intro xs hl hall
    have hsz : ks.length ≤ xs.length := by rw [hl, Nat.succ_mul]; omega
    obtain ⟨x, hx, hokx⟩ := hdec (xs.take ks.length) (by simp; omega) (fun j hj => by
      obtain ⟨u, k, h1, h2⟩ := hall 0 (by omega) j hj
      refine ⟨u, k, ?_, h2⟩
      rw [List.getElem?_take, if_pos hj, ← h1]; simp)
    obtain ⟨l, h1, h2, h3⟩ := ih (xs.drop ks.length) (by rw [List.length_drop, hl, Nat.succ_mul]; omega) (fun i hi j hj => by
      obtain ⟨u, k, g1, g2⟩ := hall (i + 1) (by omega) j hj
      refine ⟨u, k, ?_, g2⟩
      rw [List.getElem?_drop, ← g1]; congr 1; rw [Nat.succ_mul]; omega)
    refine ⟨x :: l, ?_, by simp [h2], ?_⟩
    · rw [List.flatMap_cons, ← hx, ← h1, List.take_append_drop]
    · intro y hy
      cases hy with
      | head => exact hokx
      | tail _ hy => exact h3 y hy
end

/-- A struct of flat fields, by value. -/
theorem open_agg_flat {H : Type} {enc : TypeId × Value → H} {P : Program} {w : World} {base : Nat} {spare : Nat → Bool} {held : Bool} {α : Type} {en : α → List Value} {ok : α → Prop} {ks : List SK} {t : TypeId} {fs : Array Field} {r : Reach} {b0 : Nat} {v : Value} {d : DataW H} {p : List MemPlace}
    (hs : P.underlying t = some (.struct fs)) (hF : Flat P t ks) (hv : Value.okWide P w r b0 t v) (h : DataW.Trod enc P w base spare held t v d p)
    (hdec : ∀ vs : List Value, vs.length = ks.length → (∀ j, j < ks.length → ∃ (u : Value) (k : SK), vs[j]? = some u ∧ ks[j]? = some k ∧ k.ok u) → ∃ x, vs = en x ∧ ok x) :
    ∃ x : α, v = .agg (en x).toArray ∧ ok x := by
  obtain ⟨cs, rfl, hsz⟩ := okWide_struct hs hv
  obtain ⟨fuel, hf⟩ := h
  have hl : cs.toList.length = ks.length := by simpa using hsz.trans hF.1
  have := hF.2 enc w base spare held fuel cs.toList _ hl hf
  obtain ⟨x, hx, hok⟩ := hdec cs.toList hl (fun j hj => by
    obtain ⟨k, h1, h2⟩ := this j _ (List.getElem?_eq_getElem (by omega))
    exact ⟨_, k, List.getElem?_eq_getElem (by omega), h1, h2⟩)
  exact ⟨x, by rw [← hx], hok⟩

/-! ### Pairs and quadruples of numbers -/
def I64 (n : Int) : Prop := (Lit.int .i64 n).wf = true
theorem I64.bd {n : Int} (h : I64 n) : -9223372036854775808 ≤ n ∧ n ≤ 9223372036854775807 := by
  simpa [I64, Lit.wf, IntKind.min, IntKind.max, IntKind.signed, IntKind.bits] using h

theorem u64_bd {n : Int} (h : (Lit.int .u64 n).wf = true) : 0 ≤ n ∧ n < 18446744073709551616 := by
  have : 0 ≤ n ∧ n ≤ 18446744073709551615 := by simpa [Lit.wf, IntKind.min, IntKind.max, IntKind.signed, IntKind.bits] using h
  omega

/-- A pair of numbers as two cells. -/
def en2 (x : Int × Int) : List Value := [.int .i64 x.1, .int .i64 x.2]
theorem en2_len (x : Int × Int) : (en2 x).length = 2 := rfl
def ok2 (x : Int × Int) : Prop := I64 x.1 ∧ I64 x.2
theorem dec2 (vs : List Value) (hl : vs.length = 2) (h : ∀ j, j < 2 → ∃ (u : Value) (k : SK), vs[j]? = some u ∧ ([SK.int .i64, .int .i64] : List SK)[j]? = some k ∧ k.ok u) : ∃ x : Int × Int, vs = en2 x ∧ ok2 x := by
  match vs, hl with
  | [a, b], _ =>
    obtain ⟨u, k, h1, h2, h3⟩ := h 0 (by omega)
    obtain ⟨u', k', g1, g2, g3⟩ := h 1 (by omega)
    simp at h1 h2 g1 g2
    subst h1 h2 g1 g2
    obtain ⟨n, rfl, hn⟩ := h3
    obtain ⟨m, rfl, hm⟩ := g3
    exact ⟨(n, m), rfl, hn, hm⟩

def en1 (x : Int) : List Value := [.int .i64 x]
theorem en1_len (x : Int) : (en1 x).length = 1 := rfl
def ok1 (x : Int) : Prop := I64 x
theorem dec1 (vs : List Value) (hl : vs.length = 1) (h : ∀ j, j < 1 → ∃ (u : Value) (k : SK), vs[j]? = some u ∧ ([SK.int .i64] : List SK)[j]? = some k ∧ k.ok u) : ∃ x : Int, vs = en1 x ∧ ok1 x := by
  match vs, hl with
  | [a], _ =>
    obtain ⟨u, k, h1, h2, h3⟩ := h 0 (by omega)
    simp at h1 h2
    subst h1 h2
    obtain ⟨n, rfl, hn⟩ := h3
    exact ⟨n, rfl, hn⟩

structure Quad where
  a : Int
  b : Int
  c : Int
  d : Int
def en4 (x : Quad) : List Value := [.int .i64 x.a, .int .i64 x.b, .int .i64 x.c, .int .i64 x.d]
theorem en4_len (x : Quad) : (en4 x).length = 4 := rfl
def ok4 (x : Quad) : Prop := I64 x.a ∧ I64 x.b ∧ I64 x.c ∧ I64 x.d
theorem dec4 (vs : List Value) (hl : vs.length = 4) (h : ∀ j, j < 4 → ∃ (u : Value) (k : SK), vs[j]? = some u ∧ ([SK.int .i64, .int .i64, .int .i64, .int .i64] : List SK)[j]? = some k ∧ k.ok u) : ∃ x : Quad, vs = en4 x ∧ ok4 x := by
  match vs, hl with
  | [a, b, c, d], _ =>
    obtain ⟨u0, k0, a0, b0, c0⟩ := h 0 (by omega)
    obtain ⟨u1, k1, a1, b1, c1⟩ := h 1 (by omega)
    obtain ⟨u2, k2, a2, b2, c2⟩ := h 2 (by omega)
    obtain ⟨u3, k3, a3, b3, c3⟩ := h 3 (by omega)
    simp at a0 b0 a1 b1 a2 b2 a3 b3
    subst a0 b0 a1 b1 a2 b2 a3 b3
    obtain ⟨n0, rfl, g0⟩ := c0
    obtain ⟨n1, rfl, g1⟩ := c1
    obtain ⟨n2, rfl, g2⟩ := c2
    obtain ⟨n3, rfl, g3⟩ := c3
    exact ⟨⟨n0, n1, n2, n3⟩, rfl, g0, g1, g2, g3⟩

/-! ### The frame of a law's row -/

section
variable {H : Type} {enc : TypeId × Value → H} {P : Program}

theorem trodAll_again (hl : laidOutB P = true) {W W' : World} (hb : Below W.heap.size W W') :
    ∀ (ts : List TypeId) (vs : List Value) (ds : List (DataW H)) (ps : List MemPlace), (∀ t ∈ ts, P.readableRec t = true ∧ t < P.types.size) → (∀ x ∈ ps, x.block < W.heap.size) →
      DataW.TrodAll enc P W 0 (fun _ => true) true ts vs ds ps → DataW.TrodAll enc P W' 0 (fun b => decide (b < W.heap.size)) true ts vs ds ps := by
  intro ts
  induction ts with
  | nil =>
    intro vs ds ps _ _ h
    cases vs <;> cases ds <;> simp_all [DataW.TrodAll]
  | cons t ts ih =>
    intro vs ds ps hr hp h
    cases vs with
    | nil => simp [DataW.TrodAll] at h
    | cons v vs =>
      cases ds with
      | nil => simp [DataW.TrodAll] at h
      | cons d ds =>
        obtain ⟨p, q, h1, h2, rfl⟩ := h
        exact ⟨p, q, Below.trod hl (hr t (by simp)).1 (hr t (by simp)).2 h1 hb (fun x hx => hp x (by simp [hx])), ih vs ds q (fun t' ht' => hr t' (by simp [ht'])) (fun x hx => hp x (by simp [hx])) h2, rfl⟩

/-- WHAT A LAW LEAVES: true, and of what was there when the call began nothing has turned. -/
def Law (w : World) (e : Ending) (w' : World) : Prop := e = .returned (.bool true) ∧ Below w.heap.size w w'

theorem law_post {fn : Func} {s : ChangeSpec} {W W' : World} {args : Array Value} {ds gs : List (DataW H)} {before : List MemPlace} {tb : TypeId} (hl : laidOutB P = true) (hv : s.vars = [])
    (hfn : ∀ ds : List (DataW H), ds.length = fn.params.toList.length → (s.fn H (ds ++ [])).results = [.lit (.bool true)] ∧ (s.fn H (ds ++ [])).args = ds ∧ (s.fn H (ds ++ [])).vars = [])
    (hr : ∀ t ∈ fn.params.toList, P.readableRec t = true ∧ t < P.types.size) (hres : fn.resultTypes = #[tb]) (htb : P.underlying tb = some .bool)
    (hW : DataW.Whole enc P fn.params.toList s.vars false W args.toList ds gs before) {e : Ending} (h : Law W e W') :
    ∃ v, e = .returned v ∧ s.post enc P fn false true false false W args v W' := by
  obtain ⟨rfl, hb⟩ := h
  refine ⟨_, rfl, ?_⟩
  have hW' := hW
  obtain ⟨p, q, hA, hV, rfl, _, _⟩ := hW
  rw [hv] at hV
  have hgs : gs = [] ∧ q = [] := by
    cases gs with
    | nil => exact ⟨rfl, hV⟩
    | cons g gs => simp [DataW.TrodVars] at hV
  obtain ⟨rfl, rfl⟩ := hgs
  have hlen : ∀ (ts : List TypeId) (vs : List Value) (ds : List (DataW H)) (ps : List MemPlace), DataW.TrodAll enc P W 0 (fun _ => true) true ts vs ds ps → ds.length = ts.length := by
    intro ts
    induction ts with
    | nil => intro vs ds ps h; cases vs <;> cases ds <;> simp_all [DataW.TrodAll]
    | cons t ts ih =>
      intro vs ds ps h
      cases vs with
      | nil => simp [DataW.TrodAll] at h
      | cons v vs =>
        cases ds with
        | nil => simp [DataW.TrodAll] at h
        | cons d ds =>
          obtain ⟨p, q, h1, h2, rfl⟩ := h
          simp [ih vs ds q h2]
  obtain ⟨h1, h2, h3⟩ := hfn ds (hlen _ _ _ _ hA)
  refine ⟨_, _, _, [], p, [], hW', ?_, ?_, ?_, hb.frame _, fun h => by cases h⟩
  · rw [h1, hres]
    exact trodAll_mk1 (shut_bool htb true)
  · rw [h2]
    exact trodAll_again hl hb _ _ _ _ hr (fun x hx => by simpa using hW'.lt x (by simpa using hx)) hA
  · rw [hv, h3]; rfl

end
end Go.Proofs.Ytemhoaapapeilaa
