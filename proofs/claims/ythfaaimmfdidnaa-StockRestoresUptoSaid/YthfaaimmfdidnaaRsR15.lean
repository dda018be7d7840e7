/-
  Structs of scalars compared: field by field.
  The document's Restore of a stock book: what is good of its lists. No walk.
  The document's Restore of a stock book: the walk.
-/
import Derived.Test.YthfaaimmfdidnaaAggSame
import Derived.Test.YthfaaimmfdidnaaRst15
import Derived.Test.YthfaaimmfdidnaaPs15
import Derived.Test.YthfaaimmfdidnaaSl15
import Derived.Test.YthfaaimmfdidnaaRo15
import Derived.Test.YthfaaimmfdidnaaInTail
import Derived.BigQuiet
namespace Go.Proofs.Ythfaaimmfdidnaa
open Go.RowKit
set_option linter.unusedVariables false

/-- A scalar's field, read out of two structs, compares as this. -/
def CmpAt (P : Program) (d : Nat) (xs ys : Array Value) (t : TypeId) (o : Nat) (b : Bool) : Prop := ∃ u v, (∀ w, (part t xs o).run P w = .ok u w) ∧ (∀ w, (part t ys o).run P w = .ok v w) ∧ ∀ w, (Op.equalIn d t u v).run P w = .ok b w
theorem cmpAt_int {P : Program} {xs ys : Array Value} {t : TypeId} {o : Nat} {k k' : IntKind} {n m : Int} (hu : P.underlying t = some (.int k')) (ha : ∀ w, (isAgg t).run P w = .ok false w) (hx : xs[o]? = some (.int k n)) (hy : ys[o]? = some (.int k m)) : CmpAt P 9999 xs ys t o (n == m) :=
  ⟨.int k n, .int k m, fun w => by unfold part; simp [ha, hx], fun w => by unfold part; simp [ha, hy], fun w => by
    have := run_equalIn_int (P := P) w 9998 t k k' n m hu
    simpa using this⟩
theorem cmpAt_bool {P : Program} {xs ys : Array Value} {t : TypeId} {o : Nat} {a b : Bool} (hu : P.underlying t = some .bool) (ha : ∀ w, (isAgg t).run P w = .ok false w) (hx : xs[o]? = some (.bool a)) (hy : ys[o]? = some (.bool b)) : CmpAt P 9999 xs ys t o (a == b) :=
  ⟨.bool a, .bool b, fun w => by unfold part; simp [ha, hx], fun w => by unfold part; simp [ha, hy], fun w => by
    have := run_equalIn_bool' (P := P) w 9998 t a b hu
    simpa using this⟩

theorem eqFields_cmp {P : Program} {d : Nat} {xs ys : Array Value} : ∀ (fs : List Field) (bs : List Bool), (∀ f ∈ fs, f.name ≠ "_") → (∀ (j : Nat) (f : Field) (b : Bool), fs[j]? = some f → bs[j]? = some b → CmpAt P d xs ys f.type f.offset b) → fs.length = bs.length → ∀ w, (Op.eqFields d xs ys fs).run P w = .ok (bs.all id) w
  | [], [], _, _, _, w => by simp [Op.eqFields]
  | [], _ :: _, _, _, hl, w => by simp at hl
  | _ :: _, [], _, _, hl, w => by simp at hl
  | f :: fs, b :: bs, hn, h, hl, w => by
    obtain ⟨u, v, h1, h2, h3⟩ := h 0 f b rfl rfl
    have ih := eqFields_cmp fs bs (fun g hg => hn g (by simp [hg])) (fun j g c hj hc => h (j + 1) g c hj hc) (by simpa using hl)
    simp only [Op.eqFields, hn f (by simp), ne_eq, not_false_eq_true, if_true, Sem.run_bind, h1, h2, h3, Result.andThen_ok]
    cases b with
    | true => simp [ih]
    | false => simp

theorem agg_eq {P : Program} {t : TypeId} {xs ys : Array Value} (L : List (TypeId × Nat)) (bs : List Bool) (ht : P.underlying t = some (.struct (P.fieldsOf t))) (hp : P.stoodInHeld t = false) (hL : (P.fieldsOf t).toList.map (fun f => (f.type, f.offset)) = L) (hn : (P.fieldsOf t).toList.all (fun f => f.name != "_") = true)
    (h : ∀ (j : Nat) (q : TypeId × Nat) (b : Bool), L[j]? = some q → bs[j]? = some b → CmpAt P 9999 xs ys q.1 q.2 b) (hl : L.length = bs.length) (w : World) :
    (Op.equalIn 10000 t (.agg xs) (.agg ys)).run P w = .ok (bs.all id) w := by
  have := run_equalIn_struct (P := P) w 9999 t xs ys ht hp
  rw [this]
  refine eqFields_cmp _ bs (fun f hf => ?_) (fun j f b hj hb => ?_) (by rw [← hl, ← hL]; simp) w
  · have := List.all_eq_true.1 hn f hf
    simpa using this
  · exact h j (f.type, f.offset) b (by rw [← hL, List.getElem?_map, hj]; rfl) hb

end Go.Proofs.Ythfaaimmfdidnaa

namespace Go.Proofs.Ythfaaimmfdidnaa
open Go.RowKit Go.ChangeAt
set_option linter.unusedVariables false

theorem mset_twice {κ ν : Type} [DecidableEq κ] {m : List (κ × ν)} {a : κ} {b c : ν} (h : mget m a = none) : mset (mset m a b) a c = mset m a c := by
  have hn : a ∉ m.map (·.1) := fun hin => by obtain ⟨x, hx⟩ := mget_key hin; rw [h] at hx; cases hx
  rw [mset_new h, mset_new h]
  unfold mset
  rw [if_pos (by simp)]
  rw [List.map_append]
  congr 1
  · conv => rhs; rw [← List.map_id m]
    refine List.map_congr_left fun p hp => ?_
    rw [if_neg (fun e => hn (List.mem_map.2 ⟨p, hp, e⟩))]
    rfl
  · simp
/-- The first k levels, by their items. -/
def lvD (vs : List Lv) (k : Nat) : List (Int × Lv) := (vs.take k).map fun v => (v.i, v)
/-- The first k levels may be, as the document's first loop asks. -/
def LevD (vs : List Lv) (k : Nat) : Prop := ∀ (j : Nat) (v : Lv), j < k → vs[j]? = some v → (1 ≤ v.i ∧ v.i ≤ 64) ∧ (0 ≤ v.r ∧ v.r ≤ 1125899906842624) ∧ v.i ∉ (vs.take j).map Lv.i
section
variable {vs : List Lv} {gl : List GA} {k : Nat} {lv : List (Int × Lv)} {gs : List (Int × Gd)} {is : List (Int × Int)} {rs : List Gd}
theorem lvD_keys : (lvD vs k).map (·.1) = (vs.take k).map Lv.i := by
  unfold lvD
  rw [List.map_map]
  rfl
theorem lvD_none {id : Int} : mget (lvD vs k) id = none ↔ id ∉ (vs.take k).map Lv.i := by
  rw [← lvD_keys]
  cases hm : mget (lvD vs k) id with
  | none => exact ⟨fun _ hin => (by obtain ⟨a, ha⟩ := mget_key hin; rw [hm] at ha; cases ha), fun _ => rfl⟩
  | some a => exact ⟨fun h => (by cases h), fun h => absurd (mget_isSome.1 (by rw [hm]; rfl)) h⟩
theorem lvD_get {id : Int} {v : Lv} (h : mget (lvD vs k) id = some v) : ∃ j, j < k ∧ vs[j]? = some v ∧ v.i = id := by
  have := mget_mem h
  unfold lvD at this
  obtain ⟨u, hu, e⟩ := List.mem_map.1 this
  injection e with e1 e2
  subst e2
  obtain ⟨j, hj⟩ := List.mem_iff_getElem?.1 hu
  have hjk : j < k := by have := (List.getElem?_eq_some_iff.1 hj).1; simp at this; omega
  rw [List.getElem?_take_of_lt hjk] at hj
  exact ⟨j, hjk, hj, e1⟩
theorem lvD_step {v : Lv} (hv : vs[k]? = some v) (hn : mget (lvD vs k) v.i = none) : mset (lvD vs k) v.i v = lvD vs (k + 1) := by
  rw [mset_new hn]
  unfold lvD
  rw [List.take_add_one, hv]
  simp
theorem LevD.more {v : Lv} (h : LevD vs k) (hv : vs[k]? = some v) (h1 : 1 ≤ v.i ∧ v.i ≤ 64) (h2 : 0 ≤ v.r ∧ v.r ≤ 1125899906842624) (hn : mget (lvD vs k) v.i = none) : LevD vs (k + 1) := fun j u hj hu => by
  by_cases e : j = k
  · subst e; rw [hv] at hu; injection hu with hu; subst hu; exact ⟨h1, h2, lvD_none.1 hn⟩
  · exact h j u (by omega) hu
theorem LevD.few (h : LevD vs k) (hk : k ≤ vs.length) : k ≤ 64 := by
  have hl : ((vs.take k).map Lv.i).length = k := by simp; omega
  have hnd : ((vs.take k).map Lv.i).Nodup := by
    rw [List.nodup_iff_pairwise_ne, List.pairwise_iff_getElem]
    intro a b ha hb hab e
    simp only [List.length_map, List.length_take] at ha hb
    rw [List.getElem_map, List.getElem_map, List.getElem_take, List.getElem_take] at e
    have h1 := (h b vs[b] (by omega) (List.getElem?_eq_getElem (by omega))).2.2
    exact h1 (List.mem_map.2 ⟨vs[a], List.mem_iff_getElem?.2 ⟨a, by rw [List.getElem?_take_of_lt hab]; exact List.getElem?_eq_getElem (by omega)⟩, e⟩)
  have := keys_few (n := 64) hnd (fun x hx => by
    obtain ⟨v, hv, rfl⟩ := List.mem_map.1 hx
    obtain ⟨j, hj⟩ := List.mem_iff_getElem?.1 hv
    have hjk : j < k := by have := (List.getElem?_eq_some_iff.1 hj).1; simp at this; omega
    rw [List.getElem?_take_of_lt hjk] at hj
    exact (h j v hjk hj).1)
  omega
theorem RelS.setR (h : RelS lv gs is rs) {id : Int} {a b : Lv} {k : Nat} (hm : mget lv id = some a) (hk : is[k]? = some (id, a.r)) : RelS (mset lv id b) gs (is.set k (id, b.r)) rs := by
  refine ⟨?_, h.gds⟩
  have := h.its.upd b hm
  rw [show toGot (id, b) = (id, b.r) from rfl, updK_set (e := (id, b.r)) linI h.its.sorted hk rfl] at this
  exact this
theorem RelS.putR (h : RelS lv gs is rs) {o : Int} {d d' : Gd} (hm : mget gs o = none) (h1 : d'.o = o) (h2 : d'.st = d.st) (h3 : d'.ls = d.ls) : RelS lv (mset gs o d) is (insK Gd.o ltI rs d') := by
  refine ⟨h.its, ?_⟩
  have := h.gds.ins linI d hm
  rw [map_insK]
  have e : toBareG (o, d) = bareG d' := by simp [toBareG, bareG, h1, h2, h3]
  rw [e] at this
  exact this
theorem RelS.sumsW (h : RelS lv gs is rs) (st id : Int) : sqL st rs id = sq st gs id := by
  rw [← sqL_bare, sqL_perm h.gds.perm, sq_sqL]
  clear h
  induction gs with
  | nil => rfl
  | cons p gs ih =>
    simp only [List.map_cons, sqL, ih]
    rfl
/-- The same goods, told by another map. -/
theorem RelS.goodsOf (h : RelS lv gs is rs) {gs' : List (Int × Gd)} (e : gs'.map toBareG = gs.map toBareG) (hn : (gs'.map (·.1)).Nodup) : RelS lv gs' is rs :=
  ⟨h.its, ⟨hn, h.gds.sorted, by rw [e]; exact h.gds.perm, h.gds.keys⟩⟩
theorem GsI.bare {gl : List GA} {gs gs' : List (Int × Gd)} (h : GsI gl gs) (h' : GsI gl gs') : gs'.map toBareG = gs.map toBareG := by
  have e := h'.trans h.symm
  have := congrArg (List.map fun q : Int × Int × Int × List Ln => (⟨0, q.1, q.2.2.1, 0, 0, q.2.2.2⟩ : Gd)) e
  rw [List.map_map, List.map_map] at this
  exact this

theorem sqA_bd : ∀ {gl : List GA}, (∀ x ∈ gl, ∀ k, LnOk x.ls k) → ∀ st id, 0 ≤ sqA st gl id ∧ sqA st gl id ≤ 1000000 * gl.length := by
  intro gl
  induction gl with
  | nil => intro _ st id; simp [sqA]
  | cons x gl ih =>
    intro h st id
    have h1 := ih (fun y hy => h y (List.mem_cons_of_mem _ hy)) st id
    have h2 := lines_pw (h x List.mem_cons_self)
    have h3 := qOf_bd h2.1 h2.2 id
    simp only [sqA, List.length_cons]
    split <;> omega
theorem GlOk.lines (h : GlOk vs gl gl.length) : ∀ x ∈ gl, ∀ k, LnOk x.ls k := fun x hx k => by
  obtain ⟨j, hj⟩ := List.mem_iff_getElem?.1 hx
  exact (h j x (List.getElem?_eq_some_iff.1 hj).1 hj).1.2 k
/-- The level that the document reckons is this one, and may be. -/
def EndD (gl : List GA) (v : Lv) : Prop := (v.h = v.r - sqA 1 gl v.i - sqA 2 gl v.i ∧ v.a = sqA 1 gl v.i ∧ v.s = sqA 2 gl v.i + sqA 3 gl v.i ∧ v.t = sqA 3 gl v.i) ∧ 0 ≤ v.h ∧ v.s ≤ 1125899906842624
theorem good_of (h1 : LevD vs vs.length) (h2 : GlOk vs gl gl.length) (h3 : ∀ v ∈ vs, EndD gl v) : RGood vs gl := by
  refine ⟨fun j v hj hv => ?_, h2, fun v hv => ⟨(h3 v hv).1.2.1, (h3 v hv).1.2.2.1, (h3 v hv).1.2.2.2⟩⟩
  have a1 := h1 j v hj hv
  obtain ⟨⟨e1, e2, e3, e4⟩, e5, e6⟩ := h3 v (List.mem_of_getElem? hv)
  have b1 := sqA_bd h2.lines 1 v.i
  have b2 := sqA_bd h2.lines 2 v.i
  have b3 := sqA_bd h2.lines 3 v.i
  refine ⟨⟨a1.1, ?_, by omega⟩, a1.2.2⟩
  simp only [List.any_cons, List.any_nil, oddI, Bool.or_false, Bool.or_eq_false_iff, decide_eq_false_iff_not]
  omega
theorem RGood.parts (h : RGood vs gl) : LevD vs vs.length ∧ GlOk vs gl gl.length ∧ ∀ v ∈ vs, EndD gl v := by
  have hbd : ∀ {v : Lv}, LevOk v → (0 ≤ v.r ∧ v.r ≤ 1125899906842624) ∧ 0 ≤ v.h ∧ v.s ≤ 1125899906842624 := fun {v} hv => by
    have := hv.2.1
    simp only [List.any_cons, List.any_nil, oddI, Bool.or_false, Bool.or_eq_false_iff, decide_eq_false_iff_not] at this
    omega
  refine ⟨fun j v hj hv => ?_, h.2.1, fun v hv => ?_⟩
  · have a1 := h.1 j v hj hv
    exact ⟨a1.1.1, (hbd a1.1).1, a1.2⟩
  · obtain ⟨j, hj⟩ := List.mem_iff_getElem?.1 hv
    have a1 := h.1 j v (List.getElem?_eq_some_iff.1 hj).1 hj
    have a2 := h.2.2 v hv
    have a3 := hbd a1.1
    have a4 := a1.1.2.2
    exact ⟨⟨by omega, a2.1, a2.2.1, a2.2.2⟩, a3.2⟩
theorem noD1 (h : ¬ LevD vs (k + 1)) (hk : k < vs.length) : ¬ RGood vs gl := fun hh => h fun j v hj hv => hh.parts.1 j v (by omega) hv
theorem noD3 {v : Lv} (h : ¬ EndD gl v) (hv : v ∈ vs) : ¬ RGood vs gl := fun hh => h (hh.parts.2.2 v hv)
theorem GlOk.same {gl gl' : List GA} (h : GlOk vs gl gl.length) (e : gl'.map (fun x => (x.o, x.st, x.ls)) = gl.map (fun x => (x.o, x.st, x.ls))) : GlOk vs gl' gl'.length := fun j x hj hx => by
  have hl : gl'.length = gl.length := by simpa using congrArg List.length e
  have h1 := congrArg (fun l => l[j]?) e
  simp only [List.getElem?_map, hx, Option.map_some] at h1
  cases hy : gl[j]? with
  | none => rw [hy] at h1; cases h1
  | some y =>
    rw [hy] at h1
    simp only [Option.map_some, Option.some.injEq, Prod.mk.injEq] at h1
    have h2 := h j y (by omega) hy
    have h3 : (gl'.take j).map GA.o = (gl.take j).map GA.o := by
      have := congrArg (fun l => (l.take j).map Prod.fst) e
      simp only [← List.map_take, List.map_map] at this
      exact this
    rw [h1.1, h1.2.1, h1.2.2, h3]
    exact h2
theorem sqA_same {gl gl' : List GA} (e : gl'.map (fun x => (x.o, x.st, x.ls)) = gl.map (fun x => (x.o, x.st, x.ls))) (st id : Int) : sqA st gl' id = sqA st gl id := by
  induction gl generalizing gl' with
  | nil => simp at e; subst e; rfl
  | cons y gl ih =>
    cases gl' with
    | nil => simp at e
    | cons x gl' =>
      simp only [List.map_cons, List.cons.injEq, Prod.mk.injEq] at e
      simp only [sqA, ih e.2, e.1.2.1, e.1.2.2]
/-- Restore asks only for what the goods are, not for where they lie. -/
theorem RGood.same {gl gl' : List GA} (h : RGood vs gl) (e : gl'.map (fun x => (x.o, x.st, x.ls)) = gl.map (fun x => (x.o, x.st, x.ls))) : RGood vs gl' :=
  ⟨h.1, h.2.1.same e, fun v hv => by rw [sqA_same e, sqA_same e, sqA_same e]; exact h.2.2 v hv⟩
end

end Go.Proofs.Ythfaaimmfdidnaa

namespace Go.Proofs.Ythfaaimmfdidnaa
open Go.RowKit Go.WideShapes Go.ChangeShapes Go.ChangeAt Go.Deep
set_option linter.unusedVariables false

theorem IsRef.rt_below {base R c1 c2 n0 : Nat} {A1 A2 : Option Addr} {is : List (Int × Int)} {rs : List Gd} {w w' : World} (h : IsRef base w R A1 c1 is A2 c2 rs) (hT : Touch (RT w.heap.size R A1) w w') (h1 : n0 ≤ R) (hn : n0 ≤ w.heap.size) : Below n0 w w' :=
  hT.below hn (fun k hk => by
    rcases hk with rfl | e | e
    · exact h1
    · have := (h.own1.lt k (by cases A1 with | none => simp at e | some a => simpa [Value.ownBlock] using e)).1
      have := h.lt; omega
    · omega)
theorem IsRef.rt_below2 {base R c1 c2 n0 : Nat} {A1 A2 : Option Addr} {is : List (Int × Int)} {rs : List Gd} {w w' : World} (h : IsRef base w R A1 c1 is A2 c2 rs) (hT : Touch (RT w.heap.size R A2) w w') (h1 : n0 ≤ R) (hn : n0 ≤ w.heap.size) : Below n0 w w' :=
  hT.below hn (fun k hk => by
    rcases hk with rfl | e | e
    · exact h1
    · have := (h.own2.lt k (by cases A2 with | none => simp at e | some a => simpa [Value.ownBlock] using e)).1
      have := h.lt; omega
    · omega)
/-- A block of another kind stays where an item is written. -/
theorem IsRef.rt_blk {base R c1 c2 : Nat} {A1 A2 : Option Addr} {is : List (Int × Int)} {rs : List Gd} {w w' : World} {g : Nat} {t : TypeId} {cs : Array Value} (h : IsRef base w R A1 c1 is A2 c2 rs) (hT : Touch (RT w.heap.size R A1) w w') (hB : Blk w g t cs) (h1 : t ≠ 54) (h2 : t ≠ 102) : Blk w' g t cs :=
  hT.blk hB (rt_not h.blk h.own1 hB h1 h2)
theorem Rd.at_in {α : Type} {enc : α → List Value} {w w' : World} {b off : Nat} {l : List α} (h : Rd w (some ⟨b, off, none⟩) (l.flatMap enc)) (hb : Below w.heap.size w w') (s : Nat) (hs : ∀ x, (enc x).length = s) (hpos : 0 < s) {k : Nat} {x : α} (hk : l[k]? = some x) (j : Nat) (u : Value) (hu : (enc x)[j]? = some u) : w'.cell? ⟨b, off + k * s + j, none⟩ = some u := by
  obtain ⟨b', off', e, _, hcc⟩ := (h.below hb).at_ s hs hpos hk
  injection e with e
  injection e with e1 e2 _
  subst e1 e2
  exact hcc j u hu

theorem eq_lev (a b : Lv) (w : World) : (Op.equalIn 10000 63 (.agg #[.int .i64 a.i, .int .i64 a.r, .int .i64 a.h, .int .i64 a.a, .int .i64 a.s, .int .i64 a.t]) (.agg #[.int .i64 b.i, .int .i64 b.r, .int .i64 b.h, .int .i64 b.a, .int .i64 b.s, .int .i64 b.t])).run Try.prog w = .ok ([a.i == b.i, a.r == b.r, a.h == b.h, a.a == b.a, a.s == b.s, a.t == b.t].all id) w := by
  refine agg_eq [(3, 0), (3, 1), (3, 2), (3, 3), (3, 4), (3, 5)] _ (by kernel_rfl) (by kernel_rfl) (by kernel_rfl) (by kernel_rfl) ?_ rfl w
  intro j q b' hq hb
  match j, hq, hb with
  | 0, hq, hb => injection hq with hq; injection hb with hb; subst hq hb; exact cmpAt_int Try.underlying3 isAgg_int rfl rfl
  | 1, hq, hb => injection hq with hq; injection hb with hb; subst hq hb; exact cmpAt_int Try.underlying3 isAgg_int rfl rfl
  | 2, hq, hb => injection hq with hq; injection hb with hb; subst hq hb; exact cmpAt_int Try.underlying3 isAgg_int rfl rfl
  | 3, hq, hb => injection hq with hq; injection hb with hb; subst hq hb; exact cmpAt_int Try.underlying3 isAgg_int rfl rfl
  | 4, hq, hb => injection hq with hq; injection hb with hb; subst hq hb; exact cmpAt_int Try.underlying3 isAgg_int rfl rfl
  | 5, hq, hb => injection hq with hq; injection hb with hb; subst hq hb; exact cmpAt_int Try.underlying3 isAgg_int rfl rfl
  | (n + 6), hq, _ => simp at hq
theorem guard_rlev : Try.prog.eqGuardType Try.prog.depth 63 = false := by kernel_rfl

/-- What the document's Restore leaves. -/
def RsBad (w : World) (e : Ending) (w' : World) : Prop := e = .returned (.tuple #[.pointer none, .int .i64 2]) ∧ Below w.heap.size w w'
def RsPost (vs : List Lv) (gl : List GA) (w : World) (e : Ending) (w' : World) : Prop := (¬ RGood vs gl ∧ RsBad w e w') ∨ (RGood vs gl ∧ ∃ (base R c1 c2 : Nat) (A1 A2 : Option Addr) (is : List (Int × Int)) (rs : List Gd) (gs : List (Int × Gd)), e = .returned (.tuple #[.pointer (some ⟨R, 0, none⟩), .int .i64 0]) ∧ IsRef base w' R A1 c1 is A2 c2 rs ∧ RelS (lvD vs vs.length) gs is rs ∧ GsI gl gs ∧ w.heap.size ≤ R ∧ base ≤ w'.heap.size ∧ Below w.heap.size w w')

section
variable {w w' : World} {vs : List Lv} {gl : List GA}
set_option maxRecDepth 100000 in
set_option maxHeartbeats 16000000 in
theorem rrestore_any (A1 : Option Addr) (c1 : Nat) (A2 : Option Addr) (c2 : Nat) (hR1 : Rd w A1 (vs.flatMap enV6)) (hR2 : Rd w A2 (gl.flatMap enGA)) (hl1 : vs.length ≤ 1048576) (hl2 : gl.length ≤ 1048576) (hR3 : ∀ x ∈ gl, Rd w x.A (x.ls.flatMap enL)) :
    Calls Try.prog 24 #[.slice A1 vs.length c1, .slice A2 gl.length c2] w fun e w' => RsPost vs gl w e w' := by
  have HR1 := hid hR1
  have HR2 := hid hR2
  have HR3 := hid hR3
  obtain ⟨i0, hi, hz0, hz1, hz2⟩ := info_parts info_rl
  have hwb : Below w.heap.size w (w.alloc (.cells #[.slice none 0 0, .slice none 0 0] 54)) := (Below.refl _ _).alloc (Nat.le_refl _) _
  have hI0 : IsRef (w.heap.size + 1) (w.alloc (.cells #[.slice none 0 0, .slice none 0 0] 54)) w.heap.size none 0 [] none 0 [] :=
    ⟨Blk.new _ _ _, World.ownsRow_nil _ _ _ _, World.ownsRow_nil _ _ _ _, (fun _ h => (by cases h)), Nat.lt_succ_self _⟩
  have hs0 : w.heap.size + 1 ≤ (w.alloc (.cells #[.slice none 0 0, .slice none 0 0] 54)).heap.size := by simp
  obtain ⟨w0, hw0⟩ : ∃ w0, w0 = w.alloc (.cells #[.slice none 0 0, .slice none 0 0] 54) := ⟨_, rfl⟩
  obtain ⟨R, hR⟩ : ∃ R, R = w.heap.size := ⟨_, rfl⟩
  obtain ⟨base, hbase⟩ : ∃ base, base = w.heap.size + 1 := ⟨_, rfl⟩
  have HW0 := hid hw0
  have HRE := hid hR
  rw [← hw0, ← hbase] at hI0 hs0
  rw [← hw0] at hwb
  rw [← hR] at hI0
  have hlo : w.heap.size ≤ R := by omega
  have H0 := hid (And.intro hI0 (And.intro hwb hs0))
  clear hR1 hR2 hR3 hwb hI0 hw0 hR hs0 hbase
  go_enter Try.func24, Try.ntmps24
  go_wp2_with fail
  rw [← HW0.out, ← HRE.out]
  obtain ⟨hI, hb, hs⟩ := H0.out
  clear HW0 H0
  go_loopw [7] (fun i wr => ∃ (k : Nat) (A1 : Option Addr) (c1 : Nat) (is : List (Int × Int)), k ≤ vs.length ∧ i = .int .i64 k ∧ Hid (LevD vs k ∧ RelS (lvD vs k) [] is []) ∧ IsRef base wr R A1 c1 is none 0 [] ∧ Below w.heap.size w wr ∧ base ≤ wr.heap.size) (fun i _ => vs.length - nOf i)
  case atStart => exact ⟨0, none, 0, [], Nat.zero_le _, rfl, hid ⟨fun j v hj => by omega, RelS.nil⟩, hI, hb, hs⟩
  case round =>
    clear hI hb hs
    obtain ⟨k, B1, d1, is, hk, rfl, hZ, hI, hb, hs⟩ := hrel
    by_cases hlt : k < vs.length
    · --@1
      obtain ⟨v, hv⟩ : ∃ v, vs[k]? = some v := ⟨vs[k], List.getElem?_eq_getElem hlt⟩
      obtain ⟨b, off, hAA, hbs, hcc⟩ := (HR1.out.below hb).at_ 6 enV6_len (by omega) hv
      have HV := hid hv
      have hfew := hZ.out.1.few (by omega)
      have hlen : is.length ≤ 64 := by
        have := hZ.out.2.lenI
        simp [lvD] at this
        omega
      obtain ⟨vg, vi, vr, vh, va, vv, vt⟩ := v
      have q0 : wr.cell? ⟨b, off + k * 6, none⟩ = some (.int .i64 vi) := hcc 0 _ rfl
      have q1 : wr.cell? ⟨b, off + k * 6 + 1, none⟩ = some (.int .i64 vr) := hcc 1 _ rfl
      have q2 : wr.cell? ⟨b, off + k * 6 + 2, none⟩ = some (.int .i64 vh) := hcc 2 _ rfl
      have q3 : wr.cell? ⟨b, off + k * 6 + 3, none⟩ = some (.int .i64 va) := hcc 3 _ rfl
      have q4 : wr.cell? ⟨b, off + k * 6 + 4, none⟩ = some (.int .i64 vv) := hcc 4 _ rfl
      have q5 : wr.cell? ⟨b, off + k * 6 + 5, none⟩ = some (.int .i64 vt) := hcc 5 _ rfl
      have hwb : Below wr.heap.size wr (wr.alloc (.cells #[.int .i64 vi, .int .i64 vr, .int .i64 vh, .int .i64 va, .int .i64 vv, .int .i64 vt] 63)) := (Below.refl _ _).alloc (Nat.le_refl _) _
      have hGB := Blk.new wr 63 #[.int .i64 vi, .int .i64 vr, .int .i64 vh, .int .i64 va, .int .i64 vv, .int .i64 vt]
      have hz := hI.next hwb
      have hbz := bthen hb hwb
      have hsz := Nat.le_trans hs hwb.size
      obtain ⟨wz, hwz⟩ : ∃ wz, wz = wr.alloc (.cells #[.int .i64 vi, .int .i64 vr, .int .i64 vh, .int .i64 va, .int .i64 vv, .int .i64 vt] 63) := ⟨_, rfl⟩
      obtain ⟨G, hGe⟩ : ∃ G, G = wr.heap.size := ⟨_, rfl⟩
      have HW := hid hwz
      have HGe := hid hGe
      rw [← hwz] at hGB hz hbz hsz
      rw [← hGe] at hGB
      subst hAA
      have F := rfind_any hz vi (by omega)
      have HZZ := hid (And.intro hz (And.intro hGB (And.intro hbz hsz)))
      clear hcc hbs hv hwb hGB hz hbz hsz hwz hGe hI hb hs
      rcases hZ.out.2.item vi with ⟨j, a, hj, hy, hm, he⟩ | ⟨hm, hn, he⟩
      · rw [he] at F
        obtain ⟨j', hj', hv', hi'⟩ := lvD_get hm
        have hok := (hZ.out.1 j' a hj' hv').1
        rw [hi'] at hok
        have K := hid (ritem_old HZZ.out.1 vi hok (by omega) he)
        have HF := hid F
        have HBAD := hid (show ¬ LevD vs (k + 1) from fun hh => (hh k _ (by omega) HV.out).2.2 (List.mem_map.2 ⟨a, List.mem_iff_getElem?.2 ⟨j', by rw [List.getElem?_take_of_lt hj']; exact hv'⟩, hi'⟩))
        have g0 : wz.cell? ⟨G, 0, none⟩ = some (.int .i64 vi) := HZZ.out.2.1.cell 0
        clear hm he hy hj' hv' hi' hok F
        go_wp2_with fail
        rw [← HW.out, ← HGe.out]
        refine HF.out.mono ?_
        rintro e w5 ⟨rfl, rfl⟩
        go_wp2_with fail
        refine K.out.mono ?_
        rintro e w6 ⟨rfl, rfl⟩
        go_wp2_with fail
        go_ret2
        exact .inl ⟨noD1 HBAD.out hlt, rfl, HZZ.out.2.2.1⟩
      · rw [he] at F
        by_cases hok : 1 ≤ vi ∧ vi ≤ 64
        · have K := hid (ritem_new HZZ.out.1 hZ.out.2.sortI vi hok hn (by omega) HZZ.out.2.2.2)
          have HF := hid F
          have HOK := hid hok
          have HM := hid hm
          have g0 : wz.cell? ⟨G, 0, none⟩ = some (.int .i64 vi) := HZZ.out.2.1.cell 0
          clear hm he hn hok F
          go_wp2_with fail
          rw [← HW.out, ← HGe.out]
          refine HF.out.mono ?_
          rintro e w5 ⟨rfl, rfl⟩
          go_wp2_with fail
          refine K.out.mono ?_
          rintro e w6 ⟨B6, d6, rfl, hI6, hT6⟩
          have hb6 : Below w.heap.size w w6 := HZZ.out.2.2.1.trans (HZZ.out.1.rt_below (n0 := w.heap.size) hT6 hlo HZZ.out.2.2.1.size)
          have hG6 := HZZ.out.1.rt_blk hT6 HZZ.out.2.1 (by decide) (by decide)
          have hs6 := Nat.le_trans HZZ.out.2.2.2 hT6.size
          have g1 : w6.cell? ⟨G, 1, none⟩ = some (.int .i64 vr) := hG6.cell 1
          have z0 : w6.cell? ⟨G, 0, none⟩ = some (.int .i64 vi) := hG6.cell 0
          have lG := hG6.lt
          have H6 := hid (And.intro hI6 (And.intro hG6 (And.intro hb6 hs6)))
          clear K hI6 hG6 hb6 hs6 hT6 HF g0 q0 q1 q2 q3 q4 q5 HW HGe HZZ
          by_cases hr : 0 ≤ vr ∧ vr ≤ 1125899906842624
          · obtain ⟨r1, r2⟩ := hr
            have d1 : decide (vr < 0) = false := decide_eq_false (by omega)
            have d2 : decide (1125899906842624 < vr) = false := decide_eq_false (by omega)
            have hrel := hZ.out.2.itemR HM.out 0
            have hl6 : (insK Prod.fst ltI is (vi, 0)).length ≤ 65 := by rw [insK_length]; omega
            have F := rfind_any H6.out.1 vi (by omega)
            rcases hrel.item vi with ⟨j, a, hj, hy, hm, he⟩ | ⟨hm, hn, he⟩
            · rw [he] at F
              have hm' : a = newLv 0 vi := by rw [mget_mset, if_pos rfl] at hm; injection hm with hm; exact hm.symm
              have hr0 : a.r = 0 := by rw [hm']; rfl
              rw [hr0] at hy
              have hstep := hrel.setR (b := ⟨vg, vi, vr, vh, va, vv, vt⟩) hm (by rw [hr0]; exact hy)
              rw [mset_twice HM.out, lvD_step HV.out HM.out] at hstep
              have HN := hid (show LevD vs (k + 1) ∧ RelS (lvD vs (k + 1)) [] ((insK Prod.fst ltI is (vi, 0)).set j (vi, vr)) [] from ⟨hZ.out.1.more HV.out HOK.out ⟨r1, r2⟩ HM.out, hstep⟩)
              obtain ⟨g, rfl, hbg, hpr⟩ := H6.out.1.elem1 hy
              have c0 := H6.out.1.cell0
              have z1 : w6.cell? ⟨g, j * 2 + 1, none⟩ = some (.int .i64 0) := hpr.2 1 _ rfl
              have f1 : w6.frozen? ⟨g, j * 2 + 1, none⟩ = false := own_free H6.out.1.own1 _
              have hI : InsRow en2 2 102 base g d6 w6 (insK Prod.fst ltI is (vi, 0)) w6 := ⟨H6.out.1.own1, Touch.refl _ _⟩
              have hJ := hI.field (k := j) (j := 1) (x' := (vi, vr)) (v := .int .i64 vr) en2_len hy (by omega) rfl
              have hB : Blk w6 R 54 #[.slice (some ⟨g, 0, none⟩) ((insK Prod.fst ltI is (vi, 0)).set j (vi, vr)).length d6, .slice none 0 0] := by rw [List.length_set]; exact H6.out.1.blk
              have hX := H6.out.1.ins1 hJ hB (Touch.refl _ _) (.inr (.inl rfl)) (by have := H6.out.1.lt; omega) trivial
              have hbX : Below w.heap.size w _ := H6.out.2.2.1.trans (H6.out.1.rt_below (n0 := w.heap.size) hX.2 hlo H6.out.2.2.1.size)
              have HX := hid (And.intro hX.1 (And.intro hbX (Nat.le_trans H6.out.2.2.2 hX.2.size)))
              have HF := hid F
              have lR : R < w6.heap.size := H6.out.1.blk.lt
              have lg : g < w6.heap.size := hpr.1
              clear F he hy hpr hm hm' hr0 hstep hrel hI hJ hB hX hbX H6 hbg hlen hfew
              generalize (insK Prod.fst ltI is (vi, 0)) = is6 at *
              go_wp2_with fail
              refine HF.out.mono ?_
              rintro e w7 ⟨rfl, rfl⟩
              go_wp2_with fail
              refine wp_tail 9 (by kernel_rfl) (by kernel_rfl) ?_
              simp only [List.take_succ_cons, List.take_zero, List.drop_succ_cons, List.drop_zero]
              repeat still_step
              refine wpStill_nil ?_
              go_wp2_with fail
              go_roundw
              case rel => exact ⟨k + 1, _, _, _, by omega, by go_num, HN, HX.out.1.next (below_drewN (Below.refl _ _) 1), HX.out.2.1.drew, HX.out.2.2⟩
              case measure => simp [nOf]; omega
            · rw [mget_mset, if_pos rfl] at hm
              cases hm
          · have HBAD := hid (show ¬ LevD vs (k + 1) from fun hh => hr (hh k _ (by omega) HV.out).2.1)
            rcases (show vr < 0 ∨ (0 ≤ vr ∧ 1125899906842624 < vr) from by omega) with h1 | ⟨h1, h2⟩
            · clear hr
              go_wp2_with fail
              go_ret2
              exact .inl ⟨noD1 HBAD.out hlt, rfl, H6.out.2.2.1⟩
            · clear hr
              have d1 : decide (vr < 0) = false := decide_eq_false (by omega)
              go_wp2_with fail
              go_ret2
              exact .inl ⟨noD1 HBAD.out hlt, rfl, H6.out.2.2.1⟩
        · have K := hid (ritem_no (w := wz) vi hok (.pointer (some ⟨R, 0, none⟩)))
          have HF := hid F
          have HBAD := hid (show ¬ LevD vs (k + 1) from fun hh => hok (hh k _ (by omega) HV.out).1)
          have g0 : wz.cell? ⟨G, 0, none⟩ = some (.int .i64 vi) := HZZ.out.2.1.cell 0
          clear hm he hn hok F
          go_wp2_with fail
          rw [← HW.out, ← HGe.out]
          refine HF.out.mono ?_
          rintro e w5 ⟨rfl, rfl⟩
          go_wp2_with fail
          refine K.out.mono ?_
          rintro e w6 ⟨rfl, rfl⟩
          go_wp2_with fail
          go_ret2
          exact .inl ⟨noD1 HBAD.out hlt, rfl, HZZ.out.2.2.1⟩
      --@1e
    · have hk' : k = vs.length := by omega
      subst hk'
      have HD1 := hid hZ.out.1
      have HM1 := hid hZ.out.2
      have hfew := hZ.out.1.few (Nat.le_refl _)
      have hlen : is.length ≤ 64 := by
        have := hZ.out.2.lenI
        simp [lvD] at this
        omega
      clear hk hlt hZ
      go_wp2_with fail
      go_loopw [11] (fun i wr => ∃ (k : Nat) (B2 : Option Addr) (d2 : Nat) (gs : List (Int × Gd)) (rs : List Gd), k ≤ gl.length ∧ i = .int .i64 k ∧ Hid (GlOk vs gl k ∧ GsI (gl.take k) gs ∧ RelS (lvD vs vs.length) gs is rs) ∧ IsRef base wr R B1 d1 is B2 d2 rs ∧ Below w.heap.size w wr ∧ base ≤ wr.heap.size) (fun i _ => gl.length - nOf i)
      case atStart => exact ⟨0, none, 0, [], [], Nat.zero_le _, rfl, hid ⟨fun j x hj => by omega, by simp [GsI], HM1.out⟩, hI, hb, hs⟩
      case round =>
        clear hI hb hs
        obtain ⟨k, B2, d2, gs, rs, hk, rfl, hZ, hI, hb, hs⟩ := hrel
        have hrl : rs.length ≤ 1048576 := by
          have h1 := hZ.out.2.2.lenG
          have h2 := hZ.out.2.1.len
          simp at h2
          omega
        by_cases hlt : k < gl.length
        · as_aux_lemma => --@2
          obtain ⟨x, hx⟩ : ∃ x, gl[k]? = some x := ⟨gl[k], List.getElem?_eq_getElem hlt⟩
          have hRg := HR2.out.below hb
          obtain ⟨b, off, hAA, hbs, hcc⟩ := hRg.at_ 3 enGA_len (by omega) hx
          have HX := hid hx
          have xR := (HR3.out x (List.mem_of_getElem? hx)).below hb
          have HFI := hid (fit_iff (x := x) (k := k) (show (lvD vs vs.length).map (·.1) = vs.map Lv.i from by rw [lvD_keys, List.take_length]) hZ.out.2.1)
          obtain ⟨xo, xs, xA, xc, xl⟩ := x
          subst hAA
          have HQ := hid (fun (w' : World) (hb' : Below wr.heap.size wr w') => And.intro (hRg.at_in hb' 3 enGA_len (by omega) hx 0 (.int .i64 xo) rfl) (And.intro (hRg.at_in hb' 3 enGA_len (by omega) hx 1 (.int .i64 xs) rfl) (hRg.at_in hb' 3 enGA_len (by omega) hx 2 (.slice xA xl.length xc) rfl)))
          obtain ⟨C, hCd⟩ : ∃ C : World → Prop, ∀ w', C w' ↔ Below wr.heap.size wr w' := ⟨_, fun _ => Iff.rfl⟩
          have hC : C wr.drew := (hCd _).2 ((Below.refl _ _).drew)
          have q0 : ∀ p : In C, p.w.cell? ⟨b, off + k * 3, none⟩ = some (.int .i64 xo) := fun p => (HQ.out _ ((hCd _).1 p.h)).1
          have q2 : ∀ p : In C, p.w.cell? ⟨b, off + k * 3 + 2, none⟩ = some (.slice xA xl.length xc) := fun p => (HQ.out _ ((hCd _).1 p.h)).2.2
          have O : Hid (∀ p : In C, Calls Try.prog 52 #[.pointer (some ⟨R, 0, none⟩), .int .i64 xo, .slice xA xl.length xc] p.w fun e w' => e = .returned (.int .i64 (errF (lvD vs vs.length) gs xo xl)) ∧ C w') :=
            hid (fun p => (rfit_anyW (hI.next ((hCd _).1 p.h)) hZ.out.2.2 hlen (by omega) xo xA xc xl (xR.below ((hCd _).1 p.h))).mono fun _ _ ⟨e1, e2⟩ => ⟨e1, (hCd _).2 (bthen ((hCd _).1 p.h) e2)⟩)
          have HCd := hid hCd
          have HI := hid (And.intro hI (And.intro hb (And.intro hs xR)))
          clear hcc hbs hx hRg hCd hI hb hs xR
          go_upto_region 15 with fail
          refine wp_region_in C (by kernel_rfl) (by kernel_rfl) hC ?_
          intro hne
          clear hC
          repeat (first | go_big_quiet_step ((go_at_call 52; exact Calls.in_of (O.out _))) | quiet_step ((go_at_call 52; exact Calls.in_of (O.out _))))
          refine wpQuiet_nil ?_
          intro wq hq
          have hbq := (HCd.out _).1 hq
          have HI2 := hid (And.intro (HI.out.1.next hbq) (And.intro (bthen HI.out.2.1 hbq) (And.intro (Nat.le_trans HI.out.2.2.1 hbq.size) (HI.out.2.2.2.below hbq))))
          have HQ2 := hid (fun (w' : World) (hb' : Below wq.heap.size wq w') => HQ.out w' (bthen hbq hb'))
          have hqq := HQ.out _ hbq
          clear q0 q2 hne hq HCd O HI HQ hbq
          have q1 : wq.cell? ⟨b, off + k * 3 + 1, none⟩ = some (.int .i64 xs) := hqq.2.1
          by_cases hz0 : errF (lvD vs vs.length) gs xo xl = 0
          · rw [hz0]
            have HF0 := hid (HFI.out.1 hz0)
            have HE0 := hid hz0
            clear hz0
            rcases (show xs < 1 ∨ (1 ≤ xs ∧ 3 < xs) ∨ (1 ≤ xs ∧ xs ≤ 3) from by omega) with h1 | ⟨h1, h2⟩ | ⟨h1, h2⟩
            · have HBAD := hid (show ¬ GlOk vs gl (k + 1) from fun hh => by have := (hh k _ (by omega) HX.out).2.1; simp only at this; omega)
              clear hqq
              go_wp2_with fail
              go_ret2
              exact .inl ⟨RGood.no2 HBAD.out hlt, rfl, HI2.out.2.1⟩
            · have HBAD := hid (show ¬ GlOk vs gl (k + 1) from fun hh => by have := (hh k _ (by omega) HX.out).2.1; simp only at this; omega)
              have dd1 : decide (xs < 1) = false := decide_eq_false (by omega)
              clear hqq
              go_wp2_with fail
              go_ret2
              exact .inl ⟨RGood.no2 HBAD.out hlt, rfl, HI2.out.2.1⟩
            · --@3
              have dd1 : decide (xs < 1) = false := decide_eq_false (by omega)
              have dd2 : decide (3 < xs) = false := decide_eq_false (by omega)
              have h4 : xl.length ≤ 4 := HF0.out.1.1.2.2
              have hp1 : 1 ≤ xl.length := HF0.out.1.1.2.1
              obtain ⟨ab, aoff, rfl⟩ : ∃ ab aoff, xA = some ⟨ab, aoff, none⟩ := by
                rcases HI2.out.2.2.2 with h0 | ⟨b, off, hA, _, _⟩
                · have := length_flatMap_const enL 2 enL_len xl
                  rw [h0] at this
                  simp at this
                  omega
                · exact ⟨b, off, hA⟩
              clear hqq
              go_wp2_with fail
              clear q1
              go_loopw [14, 13] (fun i v wr => ∃ j : Nat, j ≤ xl.length ∧ i = .int .i64 j ∧ wr.ownsRow wq.heap.size 96 2 v j ((xl.take j).flatMap enL) ∧ Below wq.heap.size wq wr) (fun i _ _ => xl.length - nOf i)
              case atStart => exact ⟨0, Nat.zero_le _, rfl, World.ownsRow_nil _ _ _ _, Below.refl _ _⟩
              case round =>
                obtain ⟨j, hj, rfl, hO, hb⟩ := hrel
                have hwz : wq.heap.size ≤ wr.heap.size := hb.size
                have q2 : wr.cell? ⟨b, off + k * 3 + 2, none⟩ = some (.slice (some ⟨ab, aoff, none⟩) xl.length xc) := (HQ2.out _ hb).2.2
                by_cases hjl : j < xl.length
                · obtain ⟨y, hy⟩ : ∃ y, xl[j]? = some y := ⟨xl[j], List.getElem?_eq_getElem hjl⟩
                  have hp := HI2.out.2.2.2.at_in hb 2 enL_len (by omega) hy
                  have HT := hid (show xl.take (j + 1) = xl.take j ++ [y] from by rw [List.take_add_one, hy]; rfl)
                  obtain ⟨yi, yq⟩ := y
                  have p0 : wr.cell? ⟨ab, aoff + j * 2, none⟩ = some (.int .i64 yi) := hp 0 _ rfl
                  have p1 : wr.cell? ⟨ab, aoff + j * 2 + 1, none⟩ = some (.int .i64 yq) := hp 1 _ rfl
                  have HO := hid hO
                  have hb3 := hid (hb.alloc hb.size (.cells #[.int .i64 yi, .int .i64 yq] 96))
                  clear hp hy hO hb
                  go_wp2_with (first
                    | (at_builtin; refine wpList_push _ rfl _ _ 64 rfl wq.heap.size 96 i0 _ 2 16 Try.underlying64 hi hz0 hz1 hz2 rfl (by decide) _ _ _ (by rfl) HO.out #[.int .i64 yi, .int .i64 yq] wr.heap.size (by simp) (by rfl) (by rfl) (by rfl) (by unfold maxLen; omega) (by omega) hwz ?_; intro v' w3 hO4 hg4))
                  have hb4 := hb3.out.grown hg4 (by simp; omega) (fun k hk => (HO.out.lt k hk).1)
                  have hO5 : w3.ownsRow wq.heap.size 96 2 v' (j + 1) ((xl.take (j + 1)).flatMap enL) := by
                    rw [HT.out, List.flatMap_append]
                    simpa [enL] using hO4
                  clear hO4 hg4 HO hb3
                  go_roundw
                  case rel => exact ⟨j + 1, by omega, by go_num, hO5, hb4⟩
                  case measure => simp [nOf]; omega
                · --@4
                  have hj' : j = xl.length := by omega
                  subst hj'
                  rw [List.take_length] at hO
                  obtain ⟨A', cap', rfl, _⟩ := own_slice hO
                  obtain ⟨g, cq, e7, hg1, _⟩ := own_form hO (by omega)
                  injection e7 with e8 e9 e10
                  subst e8 e10
                  have hLns : LnsAt base wr ⟨0, xo, xs, g, cap', xl⟩ := ⟨own_rd hO, Nat.le_trans HI2.out.2.2.1 hg1, rowBlk15 hO rfl⟩
                  have hno : xo ∉ rs.map Gd.o := fun hin => by
                    rcases hZ.out.2.2.goodsW xo with ⟨_, _, d, _, _, hm, _⟩ | ⟨_, hn, _⟩
                    · rw [(errF_zero HE0.out).2.2] at hm; cases hm
                    · obtain ⟨y, hy, e⟩ := List.mem_map.1 hin
                      exact hn y hy e
                  obtain ⟨C, hCd⟩ : ∃ C : World → Prop, ∀ w', C w' ↔ w' = wr.drew := ⟨_, fun _ => Iff.rfl⟩
                  have hC : C wr.drew := (hCd _).2 rfl
                  have q0 : ∀ p : In C, p.w.cell? ⟨b, off + k * 3, none⟩ = some (.int .i64 xo) := fun p => by rw [(hCd _).1 p.h]; exact (HQ2.out _ (hb.drew)).1
                  have q1 : ∀ p : In C, p.w.cell? ⟨b, off + k * 3 + 1, none⟩ = some (.int .i64 xs) := fun p => by rw [(hCd _).1 p.h]; exact (HQ2.out _ (hb.drew)).2.1
                  have HCd := hid hCd
                  have hbd : Below wr.heap.size wr wr.drew := below_drewN (Below.refl _ _) 1
                  have hId := (HI2.out.1.next hb).next hbd
                  have hLd : LnsAt base wr.drew ⟨0, xo, xs, g, cap', xl⟩ := hLns.touch (S := fun _ => False) (.of_below hbd) (fun h => h)
                  have hbs : base ≤ wr.drew.heap.size := Nat.le_trans HI2.out.2.2.1 (bthen hb hbd).size
                  have K := hid (rput_any hId hZ.out.2.2.sortG ⟨0, xo, xs, g, cap', xl⟩ hno hLd (by omega) hbs)
                  have HB := hid (And.intro hId (And.intro (bthen HI2.out.2.1 (bthen hb hbd)) hbs))
                  have HN := hid (show GlOk vs gl (k + 1) ∧ GsI (gl.take (k + 1)) (mset gs xo ⟨0, xo, xs, 0, 0, xl⟩) ∧ RelS (lvD vs vs.length) (mset gs xo ⟨0, xo, xs, 0, 0, xl⟩) is (insK Gd.o ltI rs ⟨0, xo, xs, g, cap', xl⟩) from by
                    refine ⟨hZ.out.1.more HX.out ⟨HF0.out.1, ⟨h1, h2⟩, HF0.out.2.1, HF0.out.2.2⟩, ?_, hZ.out.2.2.putR (errF_zero HE0.out).2.2 rfl rfl rfl⟩
                    rw [List.take_add_one, HX.out]
                    exact hZ.out.2.1.more (x := ⟨xo, xs, some ⟨ab, aoff, none⟩, xc, xl⟩) (errF_zero HE0.out).2.2 rfl rfl rfl)
                  clear hO hLns hno hb hj hjl hbd hId hLd hbs hZ hCd
                  go_upto_region 23 with fail
                  refine wp_region_in_tail C 13 (by kernel_rfl) (by kernel_rfl) hC ?_
                  intro hne
                  clear hC q2
                  refine wpIn_quiet ?_
                  simp only [List.take_succ_cons, List.take_zero, List.drop_succ_cons, List.drop_zero]
                  repeat (first | go_big_quiet_step (fail) | quiet_step (fail))
                  refine wpQuiet_nil ?_
                  intro wp hwp
                  obtain rfl := (HCd.out _).1 hwp
                  clear q0 q1 hne hwp HCd
                  go_wp2_with fail
                  refine K.out.mono ?_
                  rintro e w8 ⟨A8, c8, rfl, hI8, hT8⟩
                  have HE := hid (And.intro hI8 (And.intro (HB.out.2.1.trans (HB.out.1.rt_below2 (n0 := w.heap.size) hT8 hlo HB.out.2.1.size)) (Nat.le_trans HB.out.2.2 hT8.size)))
                  clear K hI8 hT8 HB
                  go_wp2_with fail
                  go_roundw
                  case rel => exact ⟨k + 1, _, _, _, _, by omega, by go_num, HN, HE.out.1, HE.out.2.1, HE.out.2.2⟩
                  case measure => simp [nOf]; omega
                  --@4e
              --@3e
          · have HBAD := hid (show ¬ GlOk vs gl (k + 1) from fun hh => by have := hh k _ (by omega) HX.out; exact hz0 (HFI.out.2 ⟨this.1, this.2.2.1, this.2.2.2⟩))
            have hzb : (errF (lvD vs vs.length) gs xo xl != 0) = true := by simpa using hz0
            clear hz0 HFI hqq
            generalize errF (lvD vs vs.length) gs xo xl = z at hzb ⊢
            go_wp2_with fail
            go_ret2
            exact .inl ⟨RGood.no2 HBAD.out hlt, rfl, HI2.out.2.1⟩
          --@2e
        · as_aux_lemma => --@5
          have hk' : k = gl.length := by omega
          subst hk'
          rw [List.take_length] at hZ
          clear hk hlt
          go_wp2_with fail
          go_loopw [15] (fun i wr => ∃ (k : Nat), k ≤ vs.length ∧ i = .int .i64 k ∧ Hid (∀ (j : Nat) (v : Lv), j < k → vs[j]? = some v → EndD gl v) ∧ IsRef base wr R B1 d1 is B2 d2 rs ∧ Below w.heap.size w wr ∧ base ≤ wr.heap.size) (fun i _ => vs.length - nOf i)
          case atStart => exact ⟨0, Nat.zero_le _, rfl, hid (fun j v hj => by omega), hI, hb, hs⟩
          case round =>
            clear hI hb hs
            obtain ⟨k, hk, rfl, hP, hI, hb, hs⟩ := hrel
            by_cases hlt : k < vs.length
            · --@6
              obtain ⟨v, hv⟩ : ∃ v, vs[k]? = some v := ⟨vs[k], List.getElem?_eq_getElem hlt⟩
              have hRg := HR1.out.below hb
              obtain ⟨b, off, hAA, hbs, hcc⟩ := hRg.at_ 6 enV6_len (by omega) hv
              subst hAA
              have HV := hid hv
              have hlev := HD1.out k v hlt hv
              have hm : mget (lvD vs vs.length) v.i = some v := mget_of_mem (p := (v.i, v)) hZ.out.2.2.its.nd (List.mem_map.2 ⟨v, by rw [List.take_length]; exact List.mem_of_getElem? hv, rfl⟩)
              have F := rfind_any hI v.i (by omega)
              rcases hZ.out.2.2.item v.i with ⟨j, a, hj, hy, hm2, he⟩ | ⟨hm2, hn, he⟩
              · rw [hm] at hm2
                injection hm2 with hm2
                subst hm2
                rw [he] at F
                have L := rlevelOf_any hI j v.i v.r hy hlev.2.1 (fun d hd => ?_) (by omega) (by omega)
                · rw [hZ.out.2.2.sumsW, hZ.out.2.2.sumsW, hZ.out.2.2.sumsW, hZ.out.2.1.sq, hZ.out.2.1.sq, hZ.out.2.1.sq] at L
                  have HQ := hid (fun (w' : World) (hb' : Below wr.heap.size wr w') => hRg.at_in hb' 6 enV6_len (by omega) hv)
                  have hcc' : ∀ (j : Nat) (u : Value), (enV6 v)[j]? = some u → wr.cell? ⟨b, off + k * 6 + j, none⟩ = some u := fun j u hu => HQ.out _ (Below.refl _ _) j u hu
                  obtain ⟨s1, hs1⟩ : ∃ s1, s1 = sqA 1 gl v.i := ⟨_, rfl⟩
                  obtain ⟨s2, hs2⟩ : ∃ s2, s2 = sqA 2 gl v.i := ⟨_, rfl⟩
                  obtain ⟨s3, hs3⟩ : ∃ s3, s3 = sqA 3 gl v.i := ⟨_, rfl⟩
                  rw [← hs1, ← hs2, ← hs3] at L
                  have HS := hid (And.intro hs1 (And.intro hs2 hs3))
                  have HEQ := hid (fun (w' : World) => eq_lev ⟨0, v.i, v.r, v.r - s1 - s2, s1, s2 + s3, s3⟩ v w')
                  have hend : EndD gl v ↔ ([v.i == v.i, v.r == v.r, v.r - s1 - s2 == v.h, s1 == v.a, s2 + s3 == v.s, s3 == v.t].all id = true ∧ 0 ≤ v.h ∧ v.s ≤ 1125899906842624) := by
                    unfold EndD
                    rw [← hs1, ← hs2, ← hs3]
                    simp only [List.all_cons, List.all_nil, id, beq_self_eq_true, Bool.true_and, Bool.and_true, Bool.and_eq_true, beq_iff_eq]
                    omega
                  have HEND := hid hend
                  have HMEM := hid (List.mem_of_getElem? hv)
                  have HF := hid F
                  unfold lvC at L
                  have HL := hid L
                  have HI := hid (And.intro hI (And.intro hb hs))
                  obtain ⟨vg, vi, vr, vh, va, vv, vt⟩ := v
                  have q0 : wr.cell? ⟨b, off + k * 6, none⟩ = some (.int .i64 vi) := hcc' 0 _ rfl
                  clear hcc hcc' hbs hv hRg hlev hm F L hs1 hs2 hs3 hend hI hb hs he hy
                  go_wp2_with fail
                  refine HF.out.mono ?_
                  rintro e w5 ⟨rfl, rfl⟩
                  go_wp2_with fail
                  refine HL.out.mono ?_
                  rintro e w6 ⟨rfl, hb6⟩
                  have hwb : Below w6.heap.size w6 (w6.alloc (.cells #[.int .i64 vi, .int .i64 vr, .int .i64 (vr - s1 - s2), .int .i64 s1, .int .i64 (s2 + s3), .int .i64 s3] 63)) := (Below.refl _ _).alloc (Nat.le_refl _) _
                  have hGB := Blk.new w6 63 #[.int .i64 vi, .int .i64 vr, .int .i64 (vr - s1 - s2), .int .i64 s1, .int .i64 (s2 + s3), .int .i64 s3]
                  have hbz := bthen hb6 hwb
                  obtain ⟨wz, hwz⟩ : ∃ wz, wz = w6.alloc (.cells #[.int .i64 vi, .int .i64 vr, .int .i64 (vr - s1 - s2), .int .i64 s1, .int .i64 (s2 + s3), .int .i64 s3] 63) := ⟨_, rfl⟩
                  obtain ⟨G, hGe⟩ : ∃ G, G = w6.heap.size := ⟨_, rfl⟩
                  have HW := hid hwz
                  have HGe := hid hGe
                  rw [← hwz] at hGB hbz
                  rw [← hGe] at hGB
                  have HZ2 := hid (And.intro (HI.out.1.next hbz) (And.intro (bthen HI.out.2.1 hbz) (Nat.le_trans HI.out.2.2 hbz.size)))
                  obtain ⟨C, hCd⟩ : ∃ C : World → Prop, ∀ w', C w' ↔ Below wz.heap.size wz w' := ⟨_, fun _ => Iff.rfl⟩
                  have hC : C wz.drew := (hCd _).2 ((Below.refl _ _).drew)
                  have g0 : ∀ p : In C, p.w.cell? ⟨G, 0, none⟩ = some (.int .i64 vi) := fun p => (hGB.next ((hCd _).1 p.h)).cell 0
                  have g1 : ∀ p : In C, p.w.cell? ⟨G, 1, none⟩ = some (.int .i64 vr) := fun p => (hGB.next ((hCd _).1 p.h)).cell 1
                  have g2 : ∀ p : In C, p.w.cell? ⟨G, 2, none⟩ = some (.int .i64 (vr - s1 - s2)) := fun p => (hGB.next ((hCd _).1 p.h)).cell 2
                  have g3 : ∀ p : In C, p.w.cell? ⟨G, 3, none⟩ = some (.int .i64 s1) := fun p => (hGB.next ((hCd _).1 p.h)).cell 3
                  have g4 : ∀ p : In C, p.w.cell? ⟨G, 4, none⟩ = some (.int .i64 (s2 + s3)) := fun p => (hGB.next ((hCd _).1 p.h)).cell 4
                  have g5 : ∀ p : In C, p.w.cell? ⟨G, 5, none⟩ = some (.int .i64 s3) := fun p => (hGB.next ((hCd _).1 p.h)).cell 5
                  have p0 : ∀ p : In C, p.w.cell? ⟨b, off + k * 6, none⟩ = some (.int .i64 vi) := fun p => HQ.out _ (bthen hbz ((hCd _).1 p.h)) 0 _ rfl
                  have p1 : ∀ p : In C, p.w.cell? ⟨b, off + k * 6 + 1, none⟩ = some (.int .i64 vr) := fun p => HQ.out _ (bthen hbz ((hCd _).1 p.h)) 1 _ rfl
                  have p2 : ∀ p : In C, p.w.cell? ⟨b, off + k * 6 + 2, none⟩ = some (.int .i64 vh) := fun p => HQ.out _ (bthen hbz ((hCd _).1 p.h)) 2 _ rfl
                  have p3 : ∀ p : In C, p.w.cell? ⟨b, off + k * 6 + 3, none⟩ = some (.int .i64 va) := fun p => HQ.out _ (bthen hbz ((hCd _).1 p.h)) 3 _ rfl
                  have p4 : ∀ p : In C, p.w.cell? ⟨b, off + k * 6 + 4, none⟩ = some (.int .i64 vv) := fun p => HQ.out _ (bthen hbz ((hCd _).1 p.h)) 4 _ rfl
                  have p5 : ∀ p : In C, p.w.cell? ⟨b, off + k * 6 + 5, none⟩ = some (.int .i64 vt) := fun p => HQ.out _ (bthen hbz ((hCd _).1 p.h)) 5 _ rfl
                  have HCd := hid hCd
                  obtain ⟨bb, hbb⟩ : ∃ bb, bb = [vi == vi, vr == vr, vr - s1 - s2 == vh, s1 == va, s2 + s3 == vv, s3 == vt].all id := ⟨_, rfl⟩
                  have heq := HEQ.out
                  rw [← hbb] at heq
                  have hend := HEND.out
                  rw [← hbb] at hend
                  have HEND2 := hid hend
                  have gg := guard_rlev
                  have hop : bb = false ∨ (bb = true ∧ vh < 0) ∨ (bb = true ∧ 0 ≤ vh ∧ 1125899906842624 < vv) ∨ (bb = true ∧ 0 ≤ vh ∧ vv ≤ 1125899906842624) := by
                    cases bb with
                    | false => exact .inl rfl
                    | true =>
                      rcases (show vh < 0 ∨ (0 ≤ vh ∧ 1125899906842624 < vv) ∨ (0 ≤ vh ∧ vv ≤ 1125899906842624) from by omega) with h1 | h1 | h1
                      · exact .inr (.inl ⟨rfl, h1⟩)
                      · exact .inr (.inr (.inl ⟨rfl, h1⟩))
                      · exact .inr (.inr (.inr ⟨rfl, h1⟩))
                  have hhs : bb = true → vr - s1 - s2 = vh ∧ s2 + s3 = vv := fun e => by
                    rw [hbb] at e
                    simp only [List.all_cons, List.all_nil, id, beq_self_eq_true, Bool.true_and, Bool.and_true, Bool.and_eq_true, beq_iff_eq] at e
                    exact ⟨e.1, e.2.2.1⟩
                  clear hwb hGB hbz hwz hGe hCd hbb HEQ HEND hend HQ HI hb6 HF HL q0 HS
                  go_wp2_with fail
                  rw [← HW.out, ← HGe.out]
                  rcases hop with rfl | ⟨rfl, hv1⟩ | ⟨rfl, hv1, hv2⟩ | ⟨rfl, hv1, hv2⟩
                  · clear hhs
                    refine wp_region_in C (by kernel_rfl) (by kernel_rfl) hC ?_
                    intro hne
                    clear hC
                    repeat (first | go_big_quiet_step (fail) | quiet_step (fail))
                    refine wpQuiet_nil ?_
                    intro wq hq
                    have HB5 := hid (bthen HZ2.out.2.1 ((HCd.out _).1 hq))
                    have HBAD := hid (noD3 (fun h => by have := (HEND2.out.1 h).1; cases this) HMEM.out)
                    clear g0 g1 g2 g3 g4 g5 p0 p1 p2 p3 p4 p5 heq hne HCd hq HZ2
                    go_wp2_with fail
                    go_ret2
                    exact .inl ⟨HBAD.out, rfl, HB5.out⟩
                  · obtain ⟨e1, e2⟩ := hhs rfl
                    have t1 : decide (vr - s1 - s2 < 0) = true := decide_eq_true (by omega)
                    have HBAD := hid (noD3 (fun h => by have := (HEND2.out.1 h).2.1; omega) HMEM.out)
                    clear hhs e1 e2
                    refine wp_region_in C (by kernel_rfl) (by kernel_rfl) hC ?_
                    intro hne
                    clear hC
                    repeat (first | go_big_quiet_step (fail) | quiet_step (fail))
                    refine wpQuiet_nil ?_
                    intro wq hq
                    have HB5 := hid (bthen HZ2.out.2.1 ((HCd.out _).1 hq))
                    clear g0 g1 g2 g3 g4 g5 p0 p1 p2 p3 p4 p5 heq hne HCd hq HZ2
                    go_wp2_with fail
                    go_ret2
                    exact .inl ⟨HBAD.out, rfl, HB5.out⟩
                  · obtain ⟨e1, e2⟩ := hhs rfl
                    have t1 : decide (vr - s1 - s2 < 0) = false := decide_eq_false (by omega)
                    have t2 : decide (1125899906842624 < s2 + s3) = true := decide_eq_true (by omega)
                    have HBAD := hid (noD3 (fun h => by have := (HEND2.out.1 h).2.2; omega) HMEM.out)
                    clear hhs e1 e2
                    refine wp_region_in C (by kernel_rfl) (by kernel_rfl) hC ?_
                    intro hne
                    clear hC
                    repeat (first | go_big_quiet_step (fail) | quiet_step (fail))
                    refine wpQuiet_nil ?_
                    intro wq hq
                    have HB5 := hid (bthen HZ2.out.2.1 ((HCd.out _).1 hq))
                    clear g0 g1 g2 g3 g4 g5 p0 p1 p2 p3 p4 p5 heq hne HCd hq HZ2
                    go_wp2_with fail
                    go_ret2
                    exact .inl ⟨HBAD.out, rfl, HB5.out⟩
                  · obtain ⟨e1, e2⟩ := hhs rfl
                    have t1 : decide (vr - s1 - s2 < 0) = false := decide_eq_false (by omega)
                    have t2 : decide (1125899906842624 < s2 + s3) = false := decide_eq_false (by omega)
                    have HGD := hid (HEND2.out.2 ⟨rfl, hv1, hv2⟩)
                    clear hhs e1 e2
                    refine wp_region_in C (by kernel_rfl) (by kernel_rfl) hC ?_
                    intro hne
                    clear hC
                    repeat (first | go_big_quiet_step (fail) | quiet_step (fail))
                    refine wpQuiet_nil ?_
                    intro wq hq
                    have hbq := (HCd.out _).1 hq
                    have HB5 := hid (And.intro (HZ2.out.1.next hbq) (And.intro (bthen HZ2.out.2.1 hbq) (Nat.le_trans HZ2.out.2.2 hbq.size)))
                    clear g0 g1 g2 g3 g4 g5 p0 p1 p2 p3 p4 p5 heq hne HCd hq HZ2 hbq
                    go_wp2_with fail
                    go_roundw
                    case rel => exact ⟨k + 1, by omega, by go_num, hid (fun j u hj hu => by
                      by_cases e : j = k
                      · subst e; rw [HV.out] at hu; injection hu with hu; subst hu; exact HGD.out
                      · exact hP.out j u (by omega) hu), HB5.out.1, HB5.out.2.1, HB5.out.2.2⟩
                    case measure => simp [nOf]; omega
                · obtain ⟨q, hq1, hq2⟩ := List.mem_map.1 (hZ.out.2.2.gds.perm.mem_iff.1 (List.mem_map.2 ⟨d, hd, rfl⟩))
                  obtain ⟨i, hi'⟩ := List.mem_iff_getElem?.1 hq1
                  have h1 : (gs.map (fun p => (p.1, p.2.o, p.2.st, p.2.ls)))[i]? = some (q.1, q.2.o, q.2.st, q.2.ls) := by rw [List.getElem?_map, hi']; rfl
                  rw [show (gs.map (fun p => (p.1, p.2.o, p.2.st, p.2.ls))) = _ from hZ.out.2.1, List.getElem?_map] at h1
                  cases hx : gl[i]? with
                  | none => rw [hx] at h1; cases h1
                  | some x =>
                    rw [hx] at h1
                    simp only [Option.map_some, Option.some.injEq, Prod.mk.injEq] at h1
                    have h2 := hZ.out.1 i x (List.getElem?_eq_some_iff.1 hx).1 hx
                    have e1 : d.ls = x.ls := by rw [h1.2.2.2]; exact (congrArg Gd.ls hq2).symm
                    have e2 : d.st = x.st := by rw [h1.2.2.1]; exact (congrArg Gd.st hq2).symm
                    rw [e1, e2]
                    exact ⟨h2.1.1.2.2, h2.1.2, h2.2.1⟩
              · rw [hm] at hm2; cases hm2
              --@6e
            · have hk' : k = vs.length := by omega
              subst hk'
              have HGOOD := hid (good_of HD1.out hZ.out.1 (fun v hv => by
                obtain ⟨j, hj⟩ := List.mem_iff_getElem?.1 hv
                exact hP.out j v (List.getElem?_eq_some_iff.1 hj).1 hj))
              have HI := hid (And.intro hI (And.intro hb hs))
              clear hk hlt hP hI hb hs
              go_wp2_with fail
              go_ret2
              exact .inr ⟨HGOOD.out, base, R, d1, d2, B1, B2, is, rs, gs, rfl, HI.out.1, hZ.out.2.2, hZ.out.2.1, hlo, HI.out.2.2, HI.out.2.1⟩
          --@5e
end

end Go.Proofs.Ythfaaimmfdidnaa
