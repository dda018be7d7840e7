/-
  The stock book beside the document's two lists. No program.
-/
import Derived.Test.YthfaaimmfdidnaaRf15
import Derived.Test.YthfaaimmfdidnaaPl15
namespace Go.Proofs.Ythfaaimmfdidnaa
open Go.RowKit
set_option linter.unusedVariables false

def toGot (q : Int × Lv) : Int × Int := (q.1, q.2.r)
def toBareG (q : Int × Gd) : Gd := { bareG q.2 with o := q.1 }
/-- The maps of the book, and the document's lists. -/
structure RelS (lv : List (Int × Lv)) (gs : List (Int × Gd)) (is : List (Int × Int)) (rs : List Gd) : Prop where
  its : RelK Prod.fst ltI toGot lv is
  gds : RelK Gd.o ltI toBareG gs (rs.map bareG)
section
variable {lv : List (Int × Lv)} {gs : List (Int × Gd)} {is : List (Int × Int)} {rs : List Gd}
theorem RelS.nil : RelS [] [] [] [] := ⟨RelK.nil (fun _ => rfl), RelK.nil (fun _ => rfl)⟩
theorem RelS.sortI (h : RelS lv gs is rs) : SortedK Prod.fst ltI is := h.its.sorted
theorem RelS.sortG (h : RelS lv gs is rs) : SortedK Gd.o ltI rs := by
  have := h.gds.sorted
  unfold SortedK at this ⊢
  rw [List.pairwise_map] at this
  exact this
theorem RelS.lenI (h : RelS lv gs is rs) : is.length = lv.length := h.its.len
theorem RelS.lenG (h : RelS lv gs is rs) : rs.length = gs.length := by have := h.gds.len; simpa using this
theorem RelS.item (h : RelS lv gs is rs) (id : Int) :
    (∃ (k : Nat) (a : Lv), k < is.length ∧ is[k]? = some (id, a.r) ∧ mget lv id = some a ∧ plc (isI id) is = k) ∨ (mget lv id = none ∧ (∀ y ∈ is, isI id y = false) ∧ plc (isI id) is = -1) := by
  rcases plc_cases (isI id) is with ⟨k, y, hk, hy, hp, he⟩ | ⟨hn, he⟩
  · have e : y.1 = id := by simpa [isI] using hp
    obtain ⟨v, h1, h2⟩ := h.its.mem (List.mem_of_getElem? hy)
    rw [e] at h1 h2
    exact .inl ⟨k, v, hk, by rw [hy, h2]; rfl, h1, he⟩
  · refine .inr ⟨h.its.none.1 (fun hin => ?_), hn, he⟩
    obtain ⟨y, hy, e⟩ := List.mem_map.1 hin
    have := hn y hy
    simp [isI] at this
    exact this e
theorem RelS.goodsW (h : RelS lv gs is rs) (o : Int) :
    (∃ (k : Nat) (d' d : Gd), k < rs.length ∧ rs[k]? = some d' ∧ mget gs o = some d ∧ d'.o = o ∧ d'.st = d.st ∧ d'.ls = d.ls ∧ plc (isD o) rs = k) ∨ (mget gs o = none ∧ (∀ y ∈ rs, y.o ≠ o) ∧ plc (isD o) rs = -1) := by
  rcases plc_cases (isD o) rs with ⟨k, y, hk, hy, hp, he⟩ | ⟨hn, he⟩
  · have e : y.o = o := by simpa [isD] using hp
    obtain ⟨v, h1, h2⟩ := h.gds.mem (List.mem_map_of_mem (f := bareG) (List.mem_of_getElem? hy))
    rw [show (bareG y).o = o from e] at h1 h2
    refine .inl ⟨k, y, v, hk, hy, h1, e, ?_, ?_, he⟩
    · have := congrArg Gd.st h2; exact this
    · have := congrArg Gd.ls h2; exact this
  · have hn' : ∀ y ∈ rs, y.o ≠ o := fun y hy e => by
      have := hn y hy
      simp [isD] at this
      exact this e
    refine .inr ⟨h.gds.none.1 (fun hin => ?_), hn', he⟩
    rw [List.map_map] at hin
    obtain ⟨y, hy, e⟩ := List.mem_map.1 hin
    exact hn' y hy e
theorem RelS.goods (h : RelS lv gs is rs) (hG : GoodB lv gs) (o : Int) :
    (∃ (k : Nat) (d' d : Gd), k < rs.length ∧ rs[k]? = some d' ∧ mget gs o = some d ∧ d'.o = o ∧ d'.st = d.st ∧ d'.ls = d.ls ∧ plc (isD o) rs = k) ∨ (mget gs o = none ∧ (∀ y ∈ rs, y.o ≠ o) ∧ plc (isD o) rs = -1) := h.goodsW o
theorem toBareG_bare {q : Int × Gd} (h : q.2.o = q.1) : toBareG q = bareG q.2 := by
  unfold toBareG
  rw [← h]
  rfl
theorem RelS.perm (h : RelS lv gs is rs) (hG : GoodB lv gs) : (rs.map bareG).Perm (gs.map (fun p => bareG p.2)) := by
  refine h.gds.perm.trans (List.Perm.of_eq (List.map_congr_left fun q hq => toBareG_bare (hG.gm q hq).1))
/-- The sums of the two books are one. -/
theorem RelS.sums (h : RelS lv gs is rs) (hG : GoodB lv gs) (st id : Int) : sqL st rs id = sq st gs id := by
  rw [← sqL_bare, sqL_perm (h.perm hG), sq_sqL, ← sqL_bare st (gs.map (·.2)), List.map_map]
  rfl
theorem RelS.rsOk (h : RelS lv gs is rs) (hG : GoodB lv gs) : ∀ d ∈ rs, FitOk d.o d.ls ∧ 1 ≤ d.st ∧ d.st ≤ 3 := fun d hd => by
  obtain ⟨p, hp, e⟩ := List.mem_map.1 ((h.perm hG).mem_iff.1 (List.mem_map_of_mem (f := bareG) hd))
  have h1 := hG.gm p hp
  have e1 : p.2.o = d.o := by have := congrArg Gd.o e; exact this
  have e2 : p.2.st = d.st := by have := congrArg Gd.st e; exact this
  have e3 : p.2.ls = d.ls := by have := congrArg Gd.ls e; exact this
  rw [← e1, ← e2, ← e3, h1.1]
  exact h1.2

theorem map_insK {r : List Gd} {o : Gd} : (insK Gd.o ltI r o).map bareG = insK Gd.o ltI (r.map bareG) (bareG o) := by
  have hp : ∀ p, posK Gd.o ltI (r.map bareG) p = posK Gd.o ltI r p := fun p => by
    unfold posK
    rw [List.takeWhile_map, List.length_map]
    rfl
  unfold insK
  rw [show (bareG o).o = o.o from rfl, hp, List.map_append, List.map_cons, List.map_take, List.map_drop]
/-- Levels that keep what came in. -/
theorem RelK.levels {lv' : List (Int × Lv)} (h : RelK Prod.fst ltI toGot lv is) (he : lv'.map (fun p => (p.1, p.2.r)) = lv.map (fun p => (p.1, p.2.r))) : RelK Prod.fst ltI toGot lv' is := by
  have hk : lv'.map (·.1) = lv.map (·.1) := by
    have := congrArg (List.map Prod.fst) he
    rw [List.map_map, List.map_map] at this
    exact this
  refine ⟨by rw [hk]; exact h.nd, h.sorted, ?_, fun _ => rfl⟩
  have : lv'.map toGot = lv.map toGot := he
  rw [this]
  exact h.perm
theorem RelS.mv (h : RelS lv gs is rs) {f : Lv → Int → Lv} (hf : ∀ a q, (f a q).r = a.r) (ls : List Ln) : RelK Prod.fst ltI toGot (mvL f lv ls) is :=
  h.its.levels (mvL_same (f := f) Lv.r hf (ls := ls) h.its.nd)
theorem RelS.itemR (h : RelS lv gs is rs) {id : Int} (hm : mget lv id = none) (g : Nat) : RelS (mset lv id (newLv g id)) gs (insK Prod.fst ltI is (id, 0)) rs :=
  ⟨h.its.ins linI (newLv g id) hm, h.gds⟩
theorem RelS.recvR (h : RelS lv gs is rs) {id q : Int} {a : Lv} {k : Nat} (hm : mget lv id = some a) (hk : is[k]? = some (id, a.r)) : RelS (mset lv id ⟨a.g, a.i, a.r + q, a.h + q, a.a, a.s, a.t⟩) gs (is.set k (id, a.r + q)) rs := by
  refine ⟨?_, h.gds⟩
  have := h.its.upd (⟨a.g, a.i, a.r + q, a.h + q, a.a, a.s, a.t⟩ : Lv) hm
  rw [show toGot (id, (⟨a.g, a.i, a.r + q, a.h + q, a.a, a.s, a.t⟩ : Lv)) = (id, a.r + q) from rfl, updK_set (e := (id, a.r + q)) linI h.its.sorted hk rfl] at this
  exact this
theorem RelS.allocR (h : RelS lv gs is rs) {o : Int} {ls : List Ln} {d d' : Gd} (hm : mget gs o = none) (hd : d.o = o ∧ d.st = 1 ∧ d.ls = ls) (hd' : d'.o = o ∧ d'.st = 1 ∧ d'.ls = ls) : RelS (mvL allocL lv ls) (mset gs o d) is (insK Gd.o ltI rs d') := by
  refine ⟨h.mv (f := allocL) (fun _ _ => rfl) ls, ?_⟩
  have := h.gds.ins linI d hm
  rw [map_insK]
  have e : toBareG (o, d) = bareG d' := by
    obtain ⟨a1, a2, a3⟩ := hd
    obtain ⟨b1, b2, b3⟩ := hd'
    simp [toBareG, bareG, a2, a3, b1, b2, b3]
  rw [e] at this
  exact this
theorem filter_eraseG {r : List Gd} {k : Nat} {d : Gd} (hs : SortedK Gd.o ltI r) (hk : r[k]? = some d) : r.filter (fun y => decide (y.o ≠ d.o)) = r.eraseIdx k := by
  have hn := hs.nodup linI
  clear hs
  induction r generalizing k with
  | nil => simp at hk
  | cons x t ih =>
    simp only [List.map_cons, List.nodup_cons] at hn
    cases k with
    | zero =>
      simp only [List.getElem?_cons_zero, Option.some.injEq] at hk
      subst hk
      rw [List.filter_cons_of_neg (by simp)]
      simp only [List.eraseIdx_zero, List.tail_cons]
      rw [List.filter_eq_self]
      intro y hy
      simp only [decide_eq_true_eq]
      exact fun e => hn.1 (by rw [← e]; exact List.mem_map_of_mem hy)
    | succ k =>
      simp only [List.getElem?_cons_succ] at hk
      have hne : x.o ≠ d.o := fun e => hn.1 (by rw [e]; exact List.mem_map_of_mem (List.mem_of_getElem? hk))
      rw [List.filter_cons_of_pos (by simpa using hne), ih hk hn.2]
      rfl
theorem map_eraseG (l : List Gd) (j : Nat) : (l.eraseIdx j).map bareG = (l.map bareG).eraseIdx j := by
  induction l generalizing j with
  | nil => rfl
  | cons x l ih => cases j with
    | zero => rfl
    | succ j => simp [ih]
theorem RelS.freeR (h : RelS lv gs is rs) {o : Int} {d' : Gd} {k : Nat} (hk : rs[k]? = some d') (ho : d'.o = o) (ls : List Ln) : RelS (mvL freeL lv ls) (mdel gs o) is (rs.eraseIdx k) := by
  refine ⟨h.mv (f := freeL) (fun _ _ => rfl) ls, ?_⟩
  have := h.gds.del o
  rw [map_eraseG]
  have e := filter_eraseG (r := rs.map bareG) (k := k) (d := bareG d') h.gds.sorted (by rw [List.getElem?_map, hk]; rfl)
  rw [show (bareG d').o = o from ho] at e
  rw [← e]
  exact this
theorem RelS.goR (h : RelS lv gs is rs) {f : Lv → Int → Lv} (hf : ∀ a q, (f a q).r = a.r) {o : Int} {d' d : Gd} {k : Nat} (hk : rs[k]? = some d') (ho : d'.o = o) (hm : mget gs o = some d) (hs : d'.st = d.st) (hl : d'.ls = d.ls) (ls : List Ln) {st : Int} (hst : st = d.st + 1) :
    RelS (mvL f lv ls) (mset gs o (nextG d)) is (rs.set k ⟨d'.g, d'.o, st, d'.b, d'.cap, d'.ls⟩) := by
  refine ⟨h.mv hf ls, ?_⟩
  have := h.gds.upd (nextG d) hm
  have e : toBareG (o, nextG d) = bareG ⟨d'.g, d'.o, st, d'.b, d'.cap, d'.ls⟩ := by simp [toBareG, bareG, nextG, ho, hl, hst]
  rw [e, updK_set (k := k) (y := bareG d') (e := bareG ⟨d'.g, d'.o, st, d'.b, d'.cap, d'.ls⟩) linI h.gds.sorted (by rw [List.getElem?_map, hk]; rfl) rfl] at this
  rw [List.map_set]
  exact this
end

end Go.Proofs.Ythfaaimmfdidnaa
