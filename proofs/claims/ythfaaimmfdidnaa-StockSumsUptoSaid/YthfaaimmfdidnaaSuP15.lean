/-
  StockSums: what came in, and the lists that a good book tells are lists that Restore takes. No walk.
-/
import Derived.Test.YthfaaimmfdidnaaRtp15
import Derived.Test.YthfaaimmfdidnaaRf15
import Derived.Test.YthfaaimmfdidnaaOnw15
namespace Go.Proofs.Ythfaaimmfdidnaa
open Go.RowKit Go.ChangeAt
set_option linter.unusedVariables false

def rOf (lv : List (Int × Lv)) (id : Int) : Int := match mget lv id with | some a => a.r | none => 0
/-- The law's own count of what came in. -/
def GotI (lv : List (Int × Lv)) (m : List (Int × Int)) : Prop := ∀ id, (mget m id).getD 0 = rOf lv id
section
variable {lv lv' : List (Int × Lv)} {gs gs' : List (Int × Gd)} {m : List (Int × Int)}
theorem GotI.nil : GotI [] [] := fun _ => rfl
theorem rOf_some {id : Int} {a : Lv} (h : mget lv id = some a) : rOf lv id = a.r := by unfold rOf; rw [h]
theorem GotI.same (h : GotI lv m) (hs : ∀ id, rOf lv' id = rOf lv id) : GotI lv' m := fun id => by rw [hs]; exact h id
theorem rOf_mv {f : Lv → Int → Lv} (f0 : ∀ a, f a 0 = a) (fa : ∀ a p q, f (f a p) q = f a (p + q)) (hf : ∀ a q, (f a q).r = a.r) (ls : List Ln) (id : Int) : rOf (mvL f lv ls) id = rOf lv id := by
  unfold rOf
  rw [mvL_all f0 fa]
  cases mget lv id with
  | none => rfl
  | some a => exact hf a _
theorem GotI.itemR (h : GotI lv m) {id : Int} (hR : ItemR lv gs id lv' gs') : GotI lv' m := by
  obtain ⟨_, ⟨_, rfl⟩ | ⟨_, _, rfl⟩ | ⟨_, hm, g, rfl⟩⟩ := hR
  · exact h
  · exact h
  · refine h.same fun k => ?_
    unfold rOf
    rw [mget_mset]
    by_cases e : k = id
    · subst e; rw [if_pos rfl, hm]; rfl
    · rw [if_neg e]
theorem GotI.recvNo (h : GotI lv m) {id q : Int} (hR : RecvR lv gs id q lv' gs') (hz : recvZ lv id q ≠ 0) : GotI lv' m := by
  obtain ⟨_, ⟨_, rfl⟩ | ⟨h0, _⟩⟩ := hR
  · exact h
  · exact absurd h0 hz
theorem GotI.recvYes (h : GotI lv m) {id q : Int} (hR : RecvR lv gs id q lv' gs') (hz : recvZ lv id q = 0) : GotI lv' (mset m id ((mget m id).getD 0 + q)) ∧ 1 ≤ q ∧ 0 + (mget m id).getD 0 + q ≤ 1125899906842624 := by
  obtain ⟨_, ⟨h0, _⟩ | ⟨_, hq, a, ha, hle, rfl⟩⟩ := hR
  · exact absurd hz h0
  · have e := h id
    rw [rOf_some ha] at e
    refine ⟨fun k => ?_, hq.1, by omega⟩
    unfold rOf
    rw [mget_mset, mget_mset]
    by_cases ek : k = id
    · subst ek; rw [if_pos rfl, if_pos rfl]; simp only [Option.getD_some]; omega
    · rw [if_neg ek, if_neg ek]; exact h k
theorem GotI.allocR (h : GotI lv m) {o : Int} {ls : List Ln} (hR : AllocR lv gs o ls lv' gs') : GotI lv' m := by
  rcases hR with ⟨_, rfl, _⟩ | ⟨_, _, _, rfl, _⟩
  · exact h
  · exact h.same (rOf_mv allocL_0 allocL_a (fun _ _ => rfl) ls)
theorem GotI.freeR (h : GotI lv m) {o : Int} (hR : FreeR lv gs o lv' gs') : GotI lv' m := by
  rcases hR with ⟨_, rfl, _⟩ | ⟨_, d, _, _, rfl, _⟩
  · exact h
  · exact h.same (rOf_mv freeL_0 freeL_a (fun _ _ => rfl) _)
theorem GotI.shipR (h : GotI lv m) {o : Int} (hR : ShipR lv gs o lv' gs') : GotI lv' m := by
  rcases hR with ⟨_, rfl, _⟩ | ⟨_, d, _, _, rfl, _⟩
  · exact h
  · exact h.same (rOf_mv shipL_0 shipL_a (fun _ _ => rfl) _)
theorem GotI.restockR (h : GotI lv m) {o : Int} (hR : RestockR lv gs o lv' gs') : GotI lv' m := by
  rcases hR with ⟨_, rfl, _⟩ | ⟨_, d, _, _, rfl, _⟩
  · exact h
  · exact h.same (rOf_mv restockL_0 restockL_a (fun _ _ => rfl) _)

/-- Goods that All tells, as Restore takes them. -/
def toGA (d : Gd) : GA := ⟨d.o, d.st, some ⟨d.b, 0, none⟩, d.cap, d.ls⟩
theorem en_toGA (l : List Gd) : (l.map toGA).flatMap enGA = l.flatMap enG3 := by
  rw [List.flatMap_map]
  rfl
theorem sqA_toGA (st : Int) (l : List Gd) (id : Int) : sqA st (l.map toGA) id = sqL st l id := by
  induction l with
  | nil => rfl
  | cons x l ih => simp only [List.map_cons, sqA, sqL, ih]; rfl
theorem lvAt_get {id : Int} {a : Lv} (h : mget lv id = some a) : lvAt lv id = a := by unfold lvAt; rw [h]; rfl
theorem lvAt_ids (hG : GoodB lv gs) {ids : List Int} (hp : ∀ id ∈ ids, id ∈ lv.map (·.1)) : (ids.map (lvAt lv)).map Lv.i = ids := by
  rw [List.map_map]
  conv => rhs; rw [← List.map_id ids]
  refine List.map_congr_left fun i hi => ?_
  obtain ⟨a, ha⟩ := mget_key (hp i hi)
  show (lvAt lv i).i = i
  rw [lvAt_get ha]
  exact (hG.lk i a ha).1
theorem RGood.told (hG : GoodB lv gs) (hn : gs.length ≤ 500000000) {ids : List Int} (hp : ids.Perm (lv.map (·.1))) (hr : ids.Pairwise (fun a b => a < b)) {l : List Gd} (hpl : (l.map bareG).Perm (gs.map (fun p => bareG p.2))) : RGood (ids.map (lvAt lv)) (l.map toGA) := by
  have hin : ∀ id ∈ ids, id ∈ lv.map (·.1) := fun id h => hp.mem_iff.1 h
  have hids := lvAt_ids hG hin
  have hlv : ∀ (j : Nat) (v : Lv), (ids.map (lvAt lv))[j]? = some v → ∃ id, ids[j]? = some id ∧ mget lv id = some v ∧ v.i = id := fun j v hj => by
    rw [List.getElem?_map] at hj
    cases hi : ids[j]? with
    | none => rw [hi] at hj; cases hj
    | some id =>
      rw [hi] at hj
      simp only [Option.map_some, Option.some.injEq] at hj
      obtain ⟨a, ha⟩ := mget_key (hin id (List.mem_of_getElem? hi))
      rw [lvAt_get ha] at hj
      subst hj
      exact ⟨id, rfl, ha, (hG.lk id a ha).1⟩
  have hsq : ∀ st id, sqA st (l.map toGA) id = sq st gs id := fun st id => by
    rw [sqA_toGA, ← sqL_bare, sqL_perm hpl, show (gs.map fun p => bareG p.2) = (gs.map (·.2)).map bareG from by rw [List.map_map]; rfl, sqL_bare, ← sq_sqL]
  have hgd : ∀ d ∈ l, ∃ p ∈ gs, bareG p.2 = bareG d := fun d hd => by
    have := hpl.mem_iff.1 (List.mem_map.2 ⟨d, hd, rfl⟩)
    obtain ⟨p, hp, e⟩ := List.mem_map.1 this
    exact ⟨p, hp, e⟩
  have hos : (l.map Gd.o).Nodup := by
    have h1 : (l.map Gd.o) = (l.map bareG).map Gd.o := by rw [List.map_map]; rfl
    have h2 : ((gs.map fun p => bareG p.2).map Gd.o) = gs.map (·.1) := by
      rw [List.map_map]
      refine List.map_congr_left fun p hp => ?_
      exact (hG.gm p hp).1
    rw [h1, (hpl.map Gd.o).nodup_iff, h2]
    exact hG.ng
  refine ⟨fun j v hj hv => ?_, fun j x hj hx => ?_, fun v hv => ?_⟩
  · obtain ⟨id, hi, ha, e⟩ := hlv j v hv
    have h1 := hG.lk id v ha
    have h2 := hG.sm id v ha
    have q1 := hG.sq 1 id
    have q2 := hG.sq 2 id
    have q3 := hG.sq 3 id
    refine ⟨⟨by rw [e]; exact h1.2.1, ?_, by omega⟩, ?_⟩
    · simp only [List.any_cons, List.any_nil, oddI, Bool.or_false, Bool.or_eq_false_iff, decide_eq_false_iff_not]
      omega
    · rw [List.map_take, hids, e]
      intro hm
      obtain ⟨k, hk⟩ := List.mem_iff_getElem?.1 hm
      have hkj : k < j := by have := (List.getElem?_eq_some_iff.1 hk).1; simp at this; omega
      rw [List.getElem?_take_of_lt hkj] at hk
      have := List.pairwise_iff_getElem.1 hr k j (List.getElem?_eq_some_iff.1 hk).1 (List.getElem?_eq_some_iff.1 hi).1 hkj
      rw [(List.getElem?_eq_some_iff.1 hk).2, (List.getElem?_eq_some_iff.1 hi).2] at this
      omega
  · rw [List.getElem?_map] at hx
    cases hi : l[j]? with
    | none => rw [hi] at hx; cases hx
    | some d =>
      rw [hi] at hx
      simp only [Option.map_some, Option.some.injEq] at hx
      subst hx
      obtain ⟨p, hp', e⟩ := hgd d (List.mem_of_getElem? hi)
      have h1 := hG.gm p hp'
      unfold bareG at e
      injection e with e0 e1 e2 e3 e4 e5
      simp only [toGA]
      refine ⟨by rw [← e1, ← e5, h1.1]; exact h1.2.1, by rw [← e2]; exact h1.2.2, fun y hy => ?_, ?_⟩
      · rw [hids, hp.mem_iff]
        have hk := hG.kn p.1 p.2 (mget_of_mem hG.ng hp')
        rw [knowF_iff] at hk
        obtain ⟨a, ha⟩ := hk y (by rw [e5]; exact hy)
        exact mget_isSome.1 (by rw [ha]; rfl)
      · rw [← List.map_take, List.map_map]
        intro hm
        obtain ⟨d', hd', e'⟩ := List.mem_map.1 hm
        simp only [Function.comp, toGA] at e'
        obtain ⟨k, hk⟩ := List.mem_iff_getElem?.1 hd'
        have hkj : k < j := by have := (List.getElem?_eq_some_iff.1 hk).1; simp at this; omega
        rw [List.getElem?_take_of_lt hkj] at hk
        have h3 : (l.map Gd.o)[k]? = some d.o := by rw [List.getElem?_map, hk]; simp [e']
        have h4 : (l.map Gd.o)[j]? = some d.o := by rw [List.getElem?_map, hi]; rfl
        have h5 := (List.getElem?_inj (List.getElem?_eq_some_iff.1 h3).1 hos).1 (h3.trans h4.symm)
        omega
  · obtain ⟨j, hj⟩ := List.mem_iff_getElem?.1 hv
    obtain ⟨id, hi, ha, e⟩ := hlv j v hj
    rw [hsq, hsq, hsq, e]
    have := hG.sm id v ha
    exact ⟨this.1, this.2.1, this.2.2.1⟩
end

end Go.Proofs.Ythfaaimmfdidnaa
