/-
  Layer 19: what Restore takes: plain facts. No program.
-/
import Derived.Test.YtdgoifnhlpjnpaaPlA19
namespace Go.Proofs.Ytdgoifnhlpjnpaa
open Go.RowKit Go.WideShapes Go.ChangeShapes Go.ChangeAt Go.Deep
set_option linter.unusedVariables false

/-- An order that is given, and where its lines lie. -/
structure OrdA where
  i : Int
  c : Int
  f : ByteArray
  A : Option Addr
  cap : Nat
  ls : List Ln
  n : Int
  t : Int
def enA (o : OrdA) : List Value := [.int .i64 o.i, .int .i64 o.c, .string o.f, .slice o.A o.ls.length o.cap, .int .i64 o.n, .int .i64 o.t]
theorem enA_len (o : OrdA) : (enA o).length = 6 := rfl
structure OkA (w : World) (o : OrdA) : Prop where
  rd : Rd w o.A (o.ls.flatMap enL)
  len : o.ls.length * 16 ≤ 140737488351232
  room : o.ls.length ≤ o.cap
  cap : o.cap ≤ maxLen
  flow : o.f.size ≤ maxLen
theorem OkA.next {w w' : World} {o : OrdA} (h : OkA w o) (hb : Below w.heap.size w w') : OkA w' o := ⟨h.rd.below hb, h.len, h.room, h.cap, h.flow⟩
def bareA (o : OrdA) : Od := ⟨o.i, o.c, o.f, 0, 0, o.ls, o.n, o.t⟩

def moneyOk (n : Int) : Prop := 0 ≤ n ∧ n ≤ 281474976710656
def GoodI (il : List (Int × Int)) (k : Nat) : Prop := ∀ q, il[k]? = some q → itemOk q.1 q.2 ∧ ∀ p, 0 < k → il[k - 1]? = some p → p.1 < q.1
def GoodO (il : List (Int × Int)) (ol : List OrdA) (k : Nat) : Prop := ∀ o, ol[k]? = some o → (∀ p, 0 < k → ol[k - 1]? = some p → p.i < o.i) ∧ OrdOk o.i o.c o.f o.ls ∧ knowB il o.ls = true ∧ moneyOk o.n ∧ moneyOk o.t
def GoodR (il : List (Int × Int)) (ol : List OrdA) : Prop := (∀ k, GoodI il k) ∧ ∀ k, GoodO il ol k

theorem take_rise {α : Type} {key : α → Int} {l : List α} {k : Nat} (h : ∀ j, j < k → ∀ q, l[j]? = some q → ∀ p, 0 < j → l[j - 1]? = some p → key p < key q) : (l.take k).Pairwise (fun a b => key a < key b) := by
  have step : ∀ d i p q, i + d + 1 < k → l[i]? = some p → l[i + d + 1]? = some q → key p < key q := by
    intro d
    induction d with
    | zero => intro i p q hk hp hq; exact h (i + 1) hk q hq p (by omega) hp
    | succ d ih =>
      intro i p q hk hp hq
      have hl := (List.getElem?_eq_some_iff.1 hq).1
      obtain ⟨r, hr⟩ : ∃ r, l[i + d + 1]? = some r := ⟨l[i + d + 1], List.getElem?_eq_getElem (by omega)⟩
      have h1 := ih i p r (by omega) hp hr
      have h2 := h (i + (d + 1) + 1) hk q hq r (by omega) hr
      omega
  rw [List.pairwise_iff_getElem]
  intro i j hi hj hij
  simp only [List.length_take] at hi hj
  obtain ⟨d, rfl⟩ : ∃ d, j = i + d + 1 := ⟨j - i - 1, by omega⟩
  refine step d i _ _ (by omega) ?_ ?_
  · rw [← List.getElem?_eq_getElem (l := l.take k) (by simp; omega), List.getElem?_take_of_lt (by omega)]
  · rw [← List.getElem?_eq_getElem (l := l.take k) (by simp; omega), List.getElem?_take_of_lt (by omega)]
theorem take_last {α : Type} {key : α → Int} {l : List α} {k : Nat} {x : α} (h : (l.take (k + 1)).Pairwise (fun a b => key a < key b)) (hx : l[k]? = some x) : ∀ y ∈ l.take k, key y < key x := by
  rw [List.take_add_one, hx] at h
  intro y hy
  exact (List.pairwise_append.1 h).2.2 y hy x (by simp)
theorem takeA_snoc {α : Type} {l : List α} {k : Nat} {x : α} (hx : l[k]? = some x) : l.take (k + 1) = l.take k ++ [x] := by rw [List.take_add_one, hx]; rfl

theorem insK_last {α : Type} {key : α → Int} {r : List α} {e : α} (h : ∀ y ∈ r, key y < key e) : insK key ltI r e = r ++ [e] := by
  have hp : posK key ltI r (key e) = r.length := posK_eq (Nat.le_refl _) (fun j y _ hy => by simp only [ltI, decide_eq_true_eq]; exact h y (List.mem_of_getElem? hy)) (fun y hy => by rw [List.getElem?_eq_none (Nat.le_refl _)] at hy; cases hy)
  unfold insK
  rw [hp, List.take_length, List.drop_length]

section
variable {il : List (Int × Int)} {ol : List OrdA} {k : Nat}
theorem goodI_rise (h : ∀ j, j < k → GoodI il j) : (il.take k).Pairwise (fun a b => a.1 < b.1) := take_rise (key := Prod.fst) (fun j hj q hq p h0 hp => (h j hj q hq).2 p h0 hp)
theorem goodO_rise (h : ∀ j, j < k → GoodO il ol j) : (ol.take k).Pairwise (fun a b => a.i < b.i) := take_rise (key := OrdA.i) (fun j hj q hq p h0 hp => (h j hj q hq).1 p h0 hp)
theorem goodI_ok (h : ∀ j, j < k → GoodI il j) : PrOk (il.take k) := fun i q hq => by
  have hm := mget_mem hq
  obtain ⟨j, hj⟩ := List.mem_iff_getElem?.1 hm
  have hjk : j < k := by have := (List.getElem?_eq_some_iff.1 hj).1; simp at this; omega
  rw [List.getElem?_take_of_lt hjk] at hj
  exact (h j hjk _ hj).1
theorem few_good (h : ∀ j, j < k → GoodI il j) : (il.take k).length ≤ 64 := by
  have hr := goodI_rise h
  have := keys_few (l := (il.take k).map (·.1)) (n := 64) (by
    rw [List.Nodup, List.pairwise_map]
    exact hr.imp (fun h => by omega)) (fun i hi => by
    obtain ⟨p, hp, rfl⟩ := List.mem_map.1 hi
    obtain ⟨j, hj⟩ := List.mem_iff_getElem?.1 hp
    have hjk : j < k := by have := (List.getElem?_eq_some_iff.1 hj).1; simp at this; omega
    rw [List.getElem?_take_of_lt hjk] at hj
    have := (h j hjk _ hj).1
    exact ⟨this.1, by have := this.2.1; omega⟩)
  simpa using this
theorem fewO_good (h : ∀ j, j < k → GoodO il ol j) : (ol.take k).length ≤ 256 := by
  have hr := goodO_rise h
  have := keys_few (l := (ol.take k).map OrdA.i) (n := 256) (by
    rw [List.Nodup, List.pairwise_map]
    exact hr.imp (fun h => by omega)) (fun i hi => by
    obtain ⟨p, hp, rfl⟩ := List.mem_map.1 hi
    obtain ⟨j, hj⟩ := List.mem_iff_getElem?.1 hp
    have hjk : j < k := by have := (List.getElem?_eq_some_iff.1 hj).1; simp at this; omega
    rw [List.getElem?_take_of_lt hjk] at hj
    have := (h j hjk _ hj).2.1.1
    exact ⟨this.1, by have := this.2.1; omega⟩)
  simpa using this
theorem below_take (h : ∀ j, j < k → GoodI il j) {q : Int × Int} (hq : il[k]? = some q) (hr : ∀ p, 0 < k → il[k - 1]? = some p → p.1 < q.1) : ∀ y ∈ il.take k, y.1 < q.1 :=
  take_last (key := Prod.fst) (take_rise (key := Prod.fst) (fun j hj q' hq' p h0 hp => by
    by_cases e : j = k
    · subst e; rw [hq] at hq'; injection hq' with hq'; subst hq'; exact hr p h0 hp
    · exact (h j (by omega) q' hq').2 p h0 hp)) hq
theorem belowO_take (h : ∀ j, j < k → GoodO il ol j) {q : OrdA} (hq : ol[k]? = some q) (hr : ∀ p, 0 < k → ol[k - 1]? = some p → p.i < q.i) : ∀ y ∈ ol.take k, y.i < q.i :=
  take_last (key := OrdA.i) (take_rise (key := OrdA.i) (fun j hj q' hq' p h0 hp => by
    by_cases e : j = k
    · subst e; rw [hq] at hq'; injection hq' with hq'; subst hq'; exact hr p h0 hp
    · exact (h j (by omega) q' hq').1 p h0 hp)) hq
theorem none_of_below {ν : Type} {m : List (Int × ν)} {id : Int} (h : ∀ y ∈ m.map (·.1), y < id) : mget m id = none := by
  cases hm : mget m id with
  | none => rfl
  | some v => exact absurd (h id (List.mem_map.2 ⟨_, mget_mem hm, rfl⟩)) (by omega)
theorem mset_items (h : ∀ j, j < k → GoodI il j) {id p : Int} (hq : il[k]? = some (id, p)) (hr : ∀ p', 0 < k → il[k - 1]? = some p' → p'.1 < id) : mset (il.take k) id p = il.take (k + 1) := by
  have hb := below_take h hq hr
  rw [mset_new (none_of_below (fun y hy => by obtain ⟨q, hq', rfl⟩ := List.mem_map.1 hy; exact hb q hq')), takeA_snoc hq]
theorem isC_items (h : ∀ j, j < k → GoodI il j) {id p : Int} (hq : il[k]? = some (id, p)) (hr : ∀ p', 0 < k → il[k - 1]? = some p' → p'.1 < id) : isC (il.take k) id p = il.take (k + 1) := by
  have hb := below_take h hq hr
  have hp : plc (isI id) (il.take k) = -1 := plc_none (fun y hy => by have := hb y hy; simp only [isI, decide_eq_false_iff_not]; simp only at this; omega)
  unfold isC
  rw [hp, if_neg (by omega), insK_last (key := Prod.fst) hb, takeA_snoc hq]
theorem relO_of {os : List (Int × Od)} {rs : List Od} (h1 : il.Pairwise (fun a b => a.1 < b.1)) (h2 : os.Pairwise (fun a b => a.1 < b.1)) (h3 : os.map toBare = rs.map bare) : RelO il os il rs := by
  refine ⟨⟨?_, ?_, ?_, fun _ => rfl⟩, ⟨?_, ?_, ?_, fun _ => rfl⟩⟩
  · rw [List.Nodup, List.pairwise_map]; exact h1.imp (fun h => by omega)
  · exact h1.imp (fun h => by simp only [ltI, decide_eq_true_eq]; exact h)
  · simp
  · rw [List.Nodup, List.pairwise_map]; exact h2.imp (fun h => by omega)
  · rw [← h3]
    unfold SortedK
    rw [List.pairwise_map]
    exact h2.imp (fun h => by simp only [ltI, decide_eq_true_eq]; exact h)
  · rw [h3]
theorem keysA_of {os : List (Int × Od)} {l : List OrdA} (h : os.map toBare = l.map bareA) : os.map (·.1) = l.map OrdA.i := by
  have := congrArg (List.map Od.i) h
  rw [List.map_map, List.map_map] at this
  exact this
theorem rise_of {os : List (Int × Od)} {l : List OrdA} (h : os.map toBare = l.map bareA) (hr : l.Pairwise (fun a b => a.i < b.i)) : os.Pairwise (fun a b => a.1 < b.1) := by
  have h1 : (l.map OrdA.i).Pairwise (fun a b => a < b) := by rw [List.pairwise_map]; exact hr
  rw [← keysA_of h, List.pairwise_map] at h1
  exact h1
/-- The document's list, as a map. -/
def asMap (rs : List Od) : List (Int × Od) := rs.map fun o => (o.i, o)
theorem asMap_bare (rs : List Od) : (asMap rs).map toBare = rs.map bare := by
  unfold asMap
  rw [List.map_map]
  rfl
theorem rel_ref {rs : List Od} {l : List OrdA} (h1 : il.Pairwise (fun a b => a.1 < b.1)) (h : rs.map bare = l.map bareA) (hr : l.Pairwise (fun a b => a.i < b.i)) : RelO il (asMap rs) il rs :=
  relO_of h1 (rise_of (by rw [asMap_bare]; exact h) hr) (asMap_bare rs)
theorem rel_of {os : List (Int × Od)} {rs : List Od} {l : List OrdA} (h1 : il.Pairwise (fun a b => a.1 < b.1)) (ho : os.map toBare = l.map bareA) (h : rs.map bare = l.map bareA) (hr : l.Pairwise (fun a b => a.i < b.i)) : RelO il os il rs :=
  relO_of h1 (rise_of ho hr) (by rw [ho, h])
theorem goodR_all (h1 : ∀ j, j < il.length → GoodI il j) (h2 : ∀ j, j < ol.length → GoodO il ol j) : GoodR il ol :=
  ⟨fun j => by
    by_cases hj : j < il.length
    · exact h1 j hj
    · (intro q hq; rw [List.getElem?_eq_none (by omega)] at hq; cases hq), fun j => by
    by_cases hj : j < ol.length
    · exact h2 j hj
    · (intro q hq; rw [List.getElem?_eq_none (by omega)] at hq; cases hq)⟩
theorem good_next {P : Nat → Prop} (h : ∀ j, j < k → P j) (hk : P k) : ∀ j, j < k + 1 → P j := fun j hj => (Nat.lt_succ_iff_lt_or_eq.1 hj).elim (fun h' => h j h') (fun e => by subst e; exact hk)
end

end Go.Proofs.Ytdgoifnhlpjnpaa
