/-
  The stock book in sums: what is good of a book, and what each call makes of it. No program.
  The stock book: each call at a good book, told at once.
-/
import Derived.Test.YthfaaimmfdidnaaSo15
namespace Go.Proofs.Ythfaaimmfdidnaa
open Go.RowKit
set_option linter.unusedVariables false

theorem perm_mdel {κ ν : Type} [DecidableEq κ] {m : List (κ × ν)} {a : κ} {b : ν} (hd : (m.map (·.1)).Nodup) (h : mget m a = some b) : m.Perm ((a, b) :: mdel m a) := by
  induction m with
  | nil => simp [mget] at h
  | cons p t ih =>
    simp only [List.map_cons, List.nodup_cons] at hd
    by_cases hp : p.1 = a
    · have e1 : mget (p :: t) a = some p.2 := by simp [mget, hp]
      rw [e1] at h
      injection h with h
      have e2 : mdel (p :: t) a = mdel t a := by simp [mdel, hp]
      rw [e2, mdel_none (by rw [← hp]; exact hd.1)]
      obtain ⟨p1, p2⟩ := p
      simp only at hp h
      rw [hp, h]
    · have e1 : mget (p :: t) a = mget t a := by simp [mget, hp]
      have e2 : mdel (p :: t) a = p :: mdel t a := by simp [mdel, hp]
      rw [e1] at h
      rw [e2]
      exact ((ih hd.2 h).cons p).trans (List.Perm.swap _ _ _)
theorem mdel_mset {κ ν : Type} [DecidableEq κ] (m : List (κ × ν)) (a : κ) (b : ν) : mdel (mset m a b) a = mdel m a := by
  unfold mset
  split
  · unfold mdel
    induction m with
    | nil => rfl
    | cons p t ih =>
      rename_i hin
      simp only [List.map_cons]
      by_cases hp : p.1 = a
      · rw [if_pos hp, List.filter_cons_of_neg (by simp), List.filter_cons_of_neg (by simp [hp])]
        by_cases h2 : a ∈ t.map (·.1)
        · exact ih h2
        · have : t.map (fun p => if p.1 = a then (a, b) else p) = t := by
            conv => rhs; rw [← List.map_id t]
            refine List.map_congr_left fun q hq => ?_
            rw [if_neg (fun e => h2 (List.mem_map.2 ⟨q, hq, e⟩))]; rfl
          rw [this]
      · rw [if_neg hp, List.filter_cons_of_pos (by simpa using hp), List.filter_cons_of_pos (by simpa using hp)]
        congr 1
        refine ih ?_
        simp only [List.map_cons, List.mem_cons] at hin
        rcases hin with e | e
        · exact absurd e.symm hp
        · exact e
  · unfold mdel
    rw [List.filter_append]
    simp
theorem perm_mset {κ ν : Type} [DecidableEq κ] {m : List (κ × ν)} {a : κ} (b : ν) (hd : (m.map (·.1)).Nodup) : (mset m a b).Perm ((a, b) :: mdel m a) := by
  have := perm_mdel (mset_nodup hd a b) (show mget (mset m a b) a = some b from by rw [mget_mset, if_pos rfl])
  rw [mdel_mset] at this
  exact this
theorem mset_len {κ ν : Type} [DecidableEq κ] {m : List (κ × ν)} {a : κ} {b : ν} : (mset m a b).length ≤ m.length + 1 := by
  unfold mset
  split <;> simp
theorem mdel_len {κ ν : Type} [DecidableEq κ] {m : List (κ × ν)} {a : κ} : (mdel m a).length ≤ m.length := List.length_filter_le _ _

/-- How many of an item the lines say. -/
def qOf : List Ln → Int → Int
  | [], _ => 0
  | x :: l, id => (if x.i = id then x.q else 0) + qOf l id
/-- How many of an item the goods in this state are. -/
def sq (st : Int) : List (Int × Gd) → Int → Int
  | [], _ => 0
  | p :: l, id => (if p.2.st = st then qOf p.2.ls id else 0) + sq st l id
theorem sq_perm {l r : List (Int × Gd)} (h : l.Perm r) (st id : Int) : sq st l id = sq st r id := by
  induction h with
  | nil => rfl
  | cons x _ ih => simp only [sq, ih]
  | swap x y l => simp only [sq]; omega
  | trans _ _ h1 h2 => exact h1.trans h2
theorem qOf_zero {l : List Ln} {id : Int} (h : ∀ x ∈ l, x.i ≠ id) : qOf l id = 0 := by
  induction l with
  | nil => rfl
  | cons x l ih =>
    simp only [qOf]
    rw [if_neg (h x (by simp)), ih (fun y hy => h y (by simp [hy]))]; rfl
theorem lines_pw {ls : List Ln} (h : ∀ k, LnOk ls k) : (∀ x ∈ ls, 1 ≤ x.q ∧ x.q ≤ 1000000) ∧ ls.Pairwise (fun x y => x.i ≠ y.i) := by
  refine ⟨fun x hx => ?_, List.pairwise_iff_getElem.2 fun i j hi hj hij e => ?_⟩
  · obtain ⟨k, hk⟩ := List.mem_iff_getElem?.1 hx
    have := h k x hk
    exact ⟨this.1, this.2.1⟩
  · have h1 := (h j _ (List.getElem?_eq_getElem hj)).2.2
    unfold hasI at h1
    rw [List.any_eq_false] at h1
    have h2 : ls[i] ∈ ls.take j := List.mem_of_getElem? (i := i) (by rw [List.getElem?_take_of_lt hij]; exact List.getElem?_eq_getElem hi)
    have := h1 _ h2
    simp at this
    exact this e
theorem qOf_bd {ls : List Ln} (h : ∀ x ∈ ls, 1 ≤ x.q ∧ x.q ≤ 1000000) (hp : ls.Pairwise (fun x y => x.i ≠ y.i)) (id : Int) : 0 ≤ qOf ls id ∧ qOf ls id ≤ 1000000 := by
  induction ls with
  | nil => simp [qOf]
  | cons x l ih =>
    rw [List.pairwise_cons] at hp
    have h1 := h x (by simp)
    simp only [qOf]
    split
    · rename_i e
      rw [qOf_zero (fun y hy e' => hp.1 y hy (e.trans e'.symm))]
      omega
    · have := ih (fun y hy => h y (by simp [hy])) hp.2
      omega
theorem qOf_mem {ls : List Ln} (hp : ls.Pairwise (fun x y => x.i ≠ y.i)) {x : Ln} (hx : x ∈ ls) : qOf ls x.i = x.q := by
  induction ls with
  | nil => cases hx
  | cons y l ih =>
    rw [List.pairwise_cons] at hp
    simp only [qOf]
    rcases List.mem_cons.1 hx with rfl | hx'
    · rw [if_pos rfl, qOf_zero (fun y hy e' => hp.1 y hy e'.symm)]; omega
    · rw [if_neg (hp.1 x hx'), ih hp.2 hx']; omega

/-- A move, told at each item. -/
theorem mvL_all {f : Lv → Int → Lv} (f0 : ∀ a, f a 0 = a) (fa : ∀ a p q, f (f a p) q = f a (p + q)) {ls : List Ln} {id : Int} : ∀ {lv : List (Int × Lv)}, mget (mvL f lv ls) id = (mget lv id).map (fun a => f a (qOf ls id)) := by
  induction ls with
  | nil =>
    intro lv
    simp only [mvL, qOf]
    cases mget lv id with
    | none => rfl
    | some a => simp [f0]
  | cons x l ih =>
    intro lv
    simp only [mvL]
    rw [ih]
    cases hm : mget lv x.i with
    | none =>
      simp only [qOf]
      by_cases e : x.i = id
      · subst e; rw [hm]; rfl
      · rw [if_neg e, Int.zero_add]
    | some a =>
      simp only [qOf]
      rw [mget_mset]
      by_cases e : x.i = id
      · subst e
        rw [if_pos rfl, if_pos rfl, hm]
        simp [fa]
      · rw [if_neg (fun e' => e e'.symm), if_neg e, Int.zero_add]
theorem allocL_0 (a : Lv) : allocL a 0 = a := by simp [allocL]
theorem freeL_0 (a : Lv) : freeL a 0 = a := by simp [freeL]
theorem shipL_0 (a : Lv) : shipL a 0 = a := by simp [shipL]
theorem restockL_0 (a : Lv) : restockL a 0 = a := by simp [restockL]
theorem allocL_a (a : Lv) (p q : Int) : allocL (allocL a p) q = allocL a (p + q) := by simp [allocL]; omega
theorem freeL_a (a : Lv) (p q : Int) : freeL (freeL a p) q = freeL a (p + q) := by simp [freeL]; omega
theorem shipL_a (a : Lv) (p q : Int) : shipL (shipL a p) q = shipL a (p + q) := by simp [shipL]; omega
theorem restockL_a (a : Lv) (p q : Int) : restockL (restockL a p) q = restockL a (p + q) := by simp [restockL]; omega
theorem mvL_keys {f : Lv → Int → Lv} (hf : ∀ a q, (f a q).g = a.g) {ls : List Ln} {lv : List (Int × Lv)} (hd : (lv.map (·.1)).Nodup) : (mvL f lv ls).map (·.1) = lv.map (·.1) := by
  have := congrArg (List.map Prod.fst) (mvL_same (f := f) Lv.g hf (ls := ls) hd)
  rw [List.map_map, List.map_map] at this
  exact this

/-- A good book. -/
structure GoodB (lv : List (Int × Lv)) (gs : List (Int × Gd)) : Prop where
  nl : (lv.map (·.1)).Nodup
  ng : (gs.map (·.1)).Nodup
  lk : ∀ id a, mget lv id = some a → a.i = id ∧ (1 ≤ id ∧ id ≤ 64) ∧ 0 ≤ a.r ∧ a.r ≤ 1125899906842624
  gk : ∀ o d, mget gs o = some d → d.o = o ∧ FitOk o d.ls ∧ 1 ≤ d.st ∧ d.st ≤ 3
  kn : ∀ o d, mget gs o = some d → knowF lv d.ls = true
  sm : ∀ id a, mget lv id = some a → a.a = sq 1 gs id ∧ a.s = sq 2 gs id + sq 3 gs id ∧ a.t = sq 3 gs id ∧ a.h = a.r - sq 1 gs id - sq 2 gs id ∧ 0 ≤ a.h

theorem GoodB.nil : GoodB [] [] := ⟨by simp, by simp, fun _ _ h => by simp [mget] at h, fun _ _ h => by simp [mget] at h, fun _ _ h => by simp [mget] at h, fun _ _ h => by simp [mget] at h⟩
section
variable {lv : List (Int × Lv)} {gs : List (Int × Gd)}
theorem knowF_iff {ls : List Ln} : knowF lv ls = true ↔ ∀ x ∈ ls, ∃ a, mget lv x.i = some a := by
  unfold knowF
  rw [List.all_eq_true]
  exact ⟨fun h x hx => Option.isSome_iff_exists.1 (h x hx), fun h x hx => Option.isSome_iff_exists.2 (h x hx)⟩
theorem knowF_keys {lv' : List (Int × Lv)} {ls : List Ln} (h : knowF lv ls = true) (hk : ∀ k ∈ lv.map (·.1), k ∈ lv'.map (·.1)) : knowF lv' ls = true := knowF_iff.2 fun x hx => by
  obtain ⟨a, ha⟩ := knowF_iff.1 h x hx
  exact mget_key (hk _ (mget_isSome.1 (by rw [ha]; rfl)))
theorem GoodB.fit (h : GoodB lv gs) {o : Int} {d : Gd} (hm : mget gs o = some d) : (∀ x ∈ d.ls, 1 ≤ x.q ∧ x.q ≤ 1000000) ∧ d.ls.Pairwise (fun x y => x.i ≠ y.i) := lines_pw (h.gk o d hm).2.1.2
theorem sq_bd : ∀ {l : List (Int × Gd)}, (∀ p ∈ l, ∀ k, LnOk p.2.ls k) → ∀ st id, 0 ≤ sq st l id ∧ sq st l id ≤ 1000000 * l.length := by
  intro l
  induction l with
  | nil => intro _ st id; simp [sq]
  | cons p l ih =>
    intro h st id
    have h1 := ih (fun q hq => h q (by simp [hq])) st id
    have h2 := lines_pw (h p (by simp))
    have h3 := qOf_bd h2.1 h2.2 id
    simp only [sq, List.length_cons]
    split <;> omega
theorem GoodB.gm (h : GoodB lv gs) : ∀ p ∈ gs, p.2.o = p.1 ∧ FitOk p.1 p.2.ls ∧ 1 ≤ p.2.st ∧ p.2.st ≤ 3 := fun p hp => h.gk p.1 p.2 (mget_of_mem h.ng hp)
theorem GoodB.sq (h : GoodB lv gs) (st id : Int) : 0 ≤ sq st gs id ∧ sq st gs id ≤ 1000000 * gs.length := sq_bd (fun p hp => (h.gm p hp).2.1.2) st id
theorem GoodB.bd (h : GoodB lv gs) (hn : gs.length ≤ 3000000000000) : ∀ p ∈ lv, LvB p.2 := fun p hp => by
  have h1 := h.sm p.1 p.2 (mget_of_mem h.nl hp)
  have h2 := h.lk p.1 p.2 (mget_of_mem h.nl hp)
  have a1 := h.sq 1 p.1
  have a2 := h.sq 2 p.1
  have a3 := h.sq 3 p.1
  unfold LvB
  omega
theorem GoodB.few (h : GoodB lv gs) : lv.length ≤ 64 := by
  have hn : ((lv.map (·.1)).map Int.toNat).Nodup := by
    refine List.pairwise_map.2 ((List.Pairwise.and_mem.1 h.nl).imp ?_)
    rintro a b ⟨ha, hb, hab⟩ e
    obtain ⟨x, hx⟩ := mget_key ha
    obtain ⟨y, hy⟩ := mget_key hb
    have := (h.lk a x hx).2.1; have := (h.lk b y hy).2.1
    omega
  have hsub : ((lv.map (·.1)).map Int.toNat) ⊆ List.range' 1 64 := fun x hx => by
    obtain ⟨k, hk', rfl⟩ := List.mem_map.1 hx
    obtain ⟨y, hy⟩ := mget_key hk'
    have := (h.lk k y hy).2.1
    exact List.mem_range'_1.2 (by omega)
  have := List.Nodup.length_le_of_subset hn hsub
  simpa using this
theorem GoodB.four (h : GoodB lv gs) : ∀ p ∈ gs, 1 ≤ p.2.ls.length ∧ p.2.ls.length ≤ 4 := fun p hp => (h.gm p hp).2.1.1.2
theorem GoodB.unknown (h : GoodB lv gs) {id : Int} (hm : mget lv id = none) (st : Int) : Go.Proofs.Ythfaaimmfdidnaa.sq st gs id = 0 := by
  have : ∀ l : List (Int × Gd), (∀ p ∈ l, knowF lv p.2.ls = true) → Go.Proofs.Ythfaaimmfdidnaa.sq st l id = 0 := by
    intro l
    induction l with
    | nil => intro _; rfl
    | cons p l ih =>
      intro hk
      have h1 := knowF_iff.1 (hk p (by simp))
      simp only [Go.Proofs.Ythfaaimmfdidnaa.sq]
      rw [ih (fun q hq => hk q (by simp [hq])), qOf_zero (fun x hx e => by obtain ⟨a, ha⟩ := h1 x hx; rw [e, hm] at ha; cases ha)]
      split <;> rfl
  exact this gs (fun p hp => h.kn p.1 p.2 (mget_of_mem h.ng hp))

theorem GoodB.item (h : GoodB lv gs) {id : Int} (hm : mget lv id = none) (hok : 1 ≤ id ∧ id ≤ 64) (g : Nat) : GoodB (mset lv id (newLv g id)) gs := by
  refine ⟨mset_nodup h.nl _ _, h.ng, fun i a ha => ?_, h.gk, fun o d hd => knowF_keys (h.kn o d hd) (fun k hk => ?_), fun i a ha => ?_⟩
  · rw [mget_mset] at ha
    split at ha
    · rename_i e
      injection ha with ha
      subst ha e
      exact ⟨rfl, hok, by simp [newLv], by simp [newLv]⟩
    · exact h.lk i a ha
  · obtain ⟨b, hb⟩ := mget_key hk
    refine mget_isSome.1 ?_
    rw [mget_mset]
    split
    · rfl
    · rw [hb]; rfl
  · rw [mget_mset] at ha
    split at ha
    · rename_i e
      injection ha with ha
      subst ha e
      rw [h.unknown hm, h.unknown hm, h.unknown hm]
      simp [newLv]
    · exact h.sm i a ha
theorem GoodB.recv (h : GoodB lv gs) {id q : Int} {a : Lv} (hm : mget lv id = some a) (hq : 1 ≤ q) (hr : a.r + q ≤ 1125899906842624) : GoodB (mset lv id ⟨a.g, a.i, a.r + q, a.h + q, a.a, a.s, a.t⟩) gs := by
  have h0 := h.lk id a hm
  have h1 := h.sm id a hm
  refine ⟨mset_nodup h.nl _ _, h.ng, fun i b hb => ?_, h.gk, fun o d hd => knowF_keys (h.kn o d hd) (fun k hk => ?_), fun i b hb => ?_⟩
  · rw [mget_mset] at hb
    split at hb
    · rename_i e
      injection hb with hb
      subst hb e
      exact ⟨h0.1, h0.2.1, by simp only; omega, by simp only; omega⟩
    · exact h.lk i b hb
  · obtain ⟨b, hb⟩ := mget_key hk
    refine mget_isSome.1 ?_
    rw [mget_mset]
    split
    · rfl
    · rw [hb]; rfl
  · rw [mget_mset] at hb
    split at hb
    · rename_i e
      injection hb with hb
      subst hb e
      simp only
      omega
    · exact h.sm i b hb

/-- The sums behind a change at one order. -/
theorem sq_put (hn : (gs.map (·.1)).Nodup) {o : Int} (d : Gd) (st id : Int) : sq st (mset gs o d) id = (if d.st = st then qOf d.ls id else 0) + sq st (mdel gs o) id := sq_perm (perm_mset d hn) st id
theorem sq_out (hn : (gs.map (·.1)).Nodup) {o : Int} {d : Gd} (hm : mget gs o = some d) (st id : Int) : sq st gs id = (if d.st = st then qOf d.ls id else 0) + sq st (mdel gs o) id := sq_perm (perm_mdel hn hm) st id
theorem mdel_no {o : Int} (hm : mget gs o = none) : mdel gs o = gs := mdel_none (fun hin => by obtain ⟨b, hb⟩ := mget_key hin; rw [hm] at hb; cases hb)

/-- One move of goods, told at once. -/
theorem GoodB.moved (h : GoodB lv gs) {f : Lv → Int → Lv} (f0 : ∀ a, f a 0 = a) (fa : ∀ a p q, f (f a p) q = f a (p + q)) (fg : ∀ a q, (f a q).g = a.g) (fi : ∀ a q, (f a q).i = a.i ∧ (f a q).r = a.r) {ls : List Ln} {gs' : List (Int × Gd)} (hn : (gs'.map (·.1)).Nodup)
    (hg : ∀ o d, mget gs' o = some d → d.o = o ∧ FitOk o d.ls ∧ 1 ≤ d.st ∧ d.st ≤ 3) (hk : ∀ o d, mget gs' o = some d → knowF lv d.ls = true)
    (hs : ∀ id a, mget lv id = some a → (f a (qOf ls id)).a = Go.Proofs.Ythfaaimmfdidnaa.sq 1 gs' id ∧ (f a (qOf ls id)).s = Go.Proofs.Ythfaaimmfdidnaa.sq 2 gs' id + Go.Proofs.Ythfaaimmfdidnaa.sq 3 gs' id ∧ (f a (qOf ls id)).t = Go.Proofs.Ythfaaimmfdidnaa.sq 3 gs' id ∧ (f a (qOf ls id)).h = a.r - Go.Proofs.Ythfaaimmfdidnaa.sq 1 gs' id - Go.Proofs.Ythfaaimmfdidnaa.sq 2 gs' id ∧ 0 ≤ (f a (qOf ls id)).h) : GoodB (mvL f lv ls) gs' := by
  have hkeys := mvL_keys (f := f) fg (ls := ls) h.nl
  refine ⟨by rw [hkeys]; exact h.nl, hn, fun i b hb => ?_, hg, fun o d hd => knowF_keys (hk o d hd) (fun k hk => by rw [hkeys]; exact hk), fun i b hb => ?_⟩
  · rw [mvL_all f0 fa] at hb
    obtain ⟨a, ha, rfl⟩ := Option.map_eq_some_iff.1 hb
    have := h.lk i a ha
    rw [(fi a _).1, (fi a _).2]
    exact this
  · rw [mvL_all f0 fa] at hb
    obtain ⟨a, ha, rfl⟩ := Option.map_eq_some_iff.1 hb
    have := hs i a ha
    rw [(fi a _).2]
    exact this

theorem GoodB.alloc (h : GoodB lv gs) {o : Int} {ls : List Ln} (he : errF lv gs o ls = 0) (hs : ls.any (shortL lv) = false) {d : Gd} (hd : d.o = o ∧ d.st = 1 ∧ d.ls = ls) : GoodB (mvL allocL lv ls) (mset gs o d) := by
  obtain ⟨h1, h2, h3⟩ := errF_zero he
  obtain ⟨d1, d2, rfl⟩ := hd
  obtain ⟨p1, p2⟩ := lines_pw h1.2
  refine h.moved allocL_0 allocL_a (fun _ _ => rfl) (fun _ _ => ⟨rfl, rfl⟩) (mset_nodup h.ng _ _) (fun o' d' hd' => ?_) (fun o' d' hd' => ?_) (fun id a ha => ?_)
  · rw [mget_mset] at hd'
    split at hd'
    · rename_i e
      injection hd' with hd'
      subst hd' e
      exact ⟨d1, h1, by omega, by omega⟩
    · exact h.gk o' d' hd'
  · rw [mget_mset] at hd'
    split at hd'
    · injection hd' with hd'
      subst hd'
      exact h2
    · exact h.kn o' d' hd'
  · have hb := h.sm id a ha
    rw [sq_put h.ng, sq_put h.ng, sq_put h.ng, mdel_no h3, d2, if_pos rfl, if_neg (by omega), if_neg (by omega)]
    have hq := qOf_bd p1 p2 id
    have hle : qOf d.ls id ≤ a.h := by
      by_cases hx : ∃ x ∈ d.ls, x.i = id
      · obtain ⟨x, hx, rfl⟩ := hx
        rw [qOf_mem p2 hx]
        rw [List.any_eq_false] at hs
        have := hs x hx
        unfold shortL at this
        rw [ha] at this
        simp at this
        exact this
      · rw [qOf_zero (fun x hx' e => hx ⟨x, hx', e⟩)]
        exact hb.2.2.2.2
    simp only [allocL]
    omega
theorem GoodB.free (h : GoodB lv gs) {o : Int} {d : Gd} (hm : mget gs o = some d) (hs : d.st = 1) : GoodB (mvL freeL lv d.ls) (mdel gs o) := by
  obtain ⟨p1, p2⟩ := h.fit hm
  refine h.moved freeL_0 freeL_a (fun _ _ => rfl) (fun _ _ => ⟨rfl, rfl⟩) (mdel_nodup h.ng _) (fun o' d' hd' => ?_) (fun o' d' hd' => ?_) (fun id a ha => ?_)
  · rw [mget_mdel] at hd'
    split at hd'
    · cases hd'
    · exact h.gk o' d' hd'
  · rw [mget_mdel] at hd'
    split at hd'
    · cases hd'
    · exact h.kn o' d' hd'
  · have hb := h.sm id a ha
    rw [sq_out h.ng hm, sq_out h.ng hm, sq_out h.ng hm, hs, if_pos rfl, if_neg (by omega), if_neg (by omega)] at hb
    have hq := qOf_bd p1 p2 id
    simp only [freeL]
    omega
theorem GoodB.ship (h : GoodB lv gs) {o : Int} {d : Gd} (hm : mget gs o = some d) (hs : d.st = 1) : GoodB (mvL shipL lv d.ls) (mset gs o (nextG d)) := by
  obtain ⟨p1, p2⟩ := h.fit hm
  have hg := h.gk o d hm
  refine h.moved shipL_0 shipL_a (fun _ _ => rfl) (fun _ _ => ⟨rfl, rfl⟩) (mset_nodup h.ng _ _) (fun o' d' hd' => ?_) (fun o' d' hd' => ?_) (fun id a ha => ?_)
  · rw [mget_mset] at hd'
    split at hd'
    · rename_i e
      injection hd' with hd'
      subst hd' e
      exact ⟨hg.1, hg.2.1, by simp only [nextG]; omega, by simp only [nextG]; omega⟩
    · exact h.gk o' d' hd'
  · rw [mget_mset] at hd'
    split at hd'
    · injection hd' with hd'
      subst hd'
      exact h.kn o d hm
    · exact h.kn o' d' hd'
  · have hb := h.sm id a ha
    rw [sq_out h.ng hm, sq_out h.ng hm, sq_out h.ng hm, hs, if_pos rfl, if_neg (by omega), if_neg (by omega)] at hb
    have hn : (nextG d).st = 2 := by simp only [nextG]; omega
    rw [sq_put h.ng, sq_put h.ng, sq_put h.ng, hn, if_neg (by omega), if_pos rfl, if_neg (by omega)]
    have hq := qOf_bd p1 p2 id
    simp only [shipL, nextG]
    omega
theorem GoodB.restock (h : GoodB lv gs) {o : Int} {d : Gd} (hm : mget gs o = some d) (hs : d.st = 2) : GoodB (mvL restockL lv d.ls) (mset gs o (nextG d)) := by
  obtain ⟨p1, p2⟩ := h.fit hm
  have hg := h.gk o d hm
  refine h.moved restockL_0 restockL_a (fun _ _ => rfl) (fun _ _ => ⟨rfl, rfl⟩) (mset_nodup h.ng _ _) (fun o' d' hd' => ?_) (fun o' d' hd' => ?_) (fun id a ha => ?_)
  · rw [mget_mset] at hd'
    split at hd'
    · rename_i e
      injection hd' with hd'
      subst hd' e
      exact ⟨hg.1, hg.2.1, by simp only [nextG]; omega, by simp only [nextG]; omega⟩
    · exact h.gk o' d' hd'
  · rw [mget_mset] at hd'
    split at hd'
    · injection hd' with hd'
      subst hd'
      exact h.kn o d hm
    · exact h.kn o' d' hd'
  · have hb := h.sm id a ha
    rw [sq_out h.ng hm, sq_out h.ng hm, sq_out h.ng hm, hs, if_neg (by omega), if_pos rfl, if_neg (by omega)] at hb
    have hn : (nextG d).st = 3 := by simp only [nextG]; omega
    rw [sq_put h.ng, sq_put h.ng, sq_put h.ng, hn, if_neg (by omega), if_neg (by omega), if_pos rfl]
    have hq := qOf_bd p1 p2 id
    simp only [restockL, nextG]
    omega
end

end Go.Proofs.Ythfaaimmfdidnaa

namespace Go.Proofs.Ythfaaimmfdidnaa
open Go.RowKit Go.WideShapes Go.ChangeShapes Go.ChangeAt Go.Deep
set_option linter.unusedVariables false

theorem Touch.old {S T : Nat → Prop} {w w' : World} (h : Touch S w w') (hT : ∀ k, k < w.heap.size → S k → T k) : Touch T w w' := ⟨h.os, h.tape, h.output, h.size, fun k hk hn => h.block k hk (fun hs => hn (hT k hk hs))⟩

def itemZ (id : Int) : Int := if 1 ≤ id ∧ id ≤ 64 then 0 else 2
def recvZ (lv : List (Int × Lv)) (id q : Int) : Int := if 1 ≤ q ∧ q ≤ 1000000 then (match mget lv id with | none => 70 | some a => if 1125899906842624 - q < a.r then 72 else 0) else 2
noncomputable def allocZ (lv : List (Int × Lv)) (gs : List (Int × Gd)) (o : Int) (ls : List Ln) : Int := if errF lv gs o ls = 0 then (if ls.any (shortL lv) = true then 150 else 0) else errF lv gs o ls
def freeZ (gs : List (Int × Gd)) (o : Int) : Int := match mget gs o with | none => 70 | some d => if d.st = 2 then 130 else 0
def goZ (gs : List (Int × Gd)) (o st : Int) : Int := match mget gs o with | none => 70 | some d => if d.st = st then 0 else 130

/-- What a call makes of the maps. -/
abbrev MapRel := List (Int × Lv) → List (Int × Gd) → Prop
def ItemR (lv : List (Int × Lv)) (gs : List (Int × Gd)) (id : Int) : MapRel := fun lv' gs' => gs' = gs ∧ ((¬ (1 ≤ id ∧ id ≤ 64) ∧ lv' = lv) ∨ ((1 ≤ id ∧ id ≤ 64) ∧ (∃ a, mget lv id = some a) ∧ lv' = lv) ∨ ((1 ≤ id ∧ id ≤ 64) ∧ mget lv id = none ∧ ∃ g, lv' = mset lv id (newLv g id)))
def RecvR (lv : List (Int × Lv)) (gs : List (Int × Gd)) (id q : Int) : MapRel := fun lv' gs' => gs' = gs ∧ ((recvZ lv id q ≠ 0 ∧ lv' = lv) ∨ (recvZ lv id q = 0 ∧ (1 ≤ q ∧ q ≤ 1000000) ∧ ∃ a, mget lv id = some a ∧ a.r + q ≤ 1125899906842624 ∧ lv' = mset lv id ⟨a.g, a.i, a.r + q, a.h + q, a.a, a.s, a.t⟩))
def AllocR (lv : List (Int × Lv)) (gs : List (Int × Gd)) (o : Int) (ls : List Ln) : MapRel := fun lv' gs' => (allocZ lv gs o ls ≠ 0 ∧ lv' = lv ∧ gs' = gs) ∨ (allocZ lv gs o ls = 0 ∧ errF lv gs o ls = 0 ∧ ls.any (shortL lv) = false ∧ lv' = mvL allocL lv ls ∧ ∃ d : Gd, (d.o = o ∧ d.st = 1 ∧ d.ls = ls) ∧ gs' = mset gs o d)
def FreeR (lv : List (Int × Lv)) (gs : List (Int × Gd)) (o : Int) : MapRel := fun lv' gs' => ((∀ d, mget gs o = some d → d.st ≠ 1) ∧ lv' = lv ∧ gs' = gs) ∨ (freeZ gs o = 0 ∧ ∃ d, mget gs o = some d ∧ d.st = 1 ∧ lv' = mvL freeL lv d.ls ∧ gs' = mdel gs o)
def ShipR (lv : List (Int × Lv)) (gs : List (Int × Gd)) (o : Int) : MapRel := fun lv' gs' => (goZ gs o 1 ≠ 0 ∧ lv' = lv ∧ gs' = gs) ∨ (goZ gs o 1 = 0 ∧ ∃ d, mget gs o = some d ∧ d.st = 1 ∧ lv' = mvL shipL lv d.ls ∧ gs' = mset gs o (nextG d))
def RestockR (lv : List (Int × Lv)) (gs : List (Int × Gd)) (o : Int) : MapRel := fun lv' gs' => (goZ gs o 2 ≠ 0 ∧ lv' = lv ∧ gs' = gs) ∨ (goZ gs o 2 = 0 ∧ ∃ d, mget gs o = some d ∧ d.st = 2 ∧ lv' = mvL restockL lv d.ls ∧ gs' = mset gs o (nextG d))

/-- What a call leaves. -/
def StepPost (n0 X BL BG : Nat) (lv : List (Int × Lv)) (gs : List (Int × Gd)) (z : Int) (R : MapRel) (w : World) (e : Ending) (w' : World) : Prop :=
  ∃ lv' gs', e = .returned (.int .i64 z) ∧ IsBook n0 w' X BL BG lv' gs' ∧ GoodB lv' gs' ∧ R lv' gs' ∧ gs'.length ≤ gs.length + 1 ∧ Touch (Own BL BG lv gs) w w'

section
variable {n0 : Nat} {w w' : World} {X BL BG : Nat} {lv : List (Int × Lv)} {gs : List (Int × Gd)}
theorem StepPost.same {z : Int} {R : MapRel} {e : Ending} (h : IsBook n0 w X BL BG lv gs) (hG : GoodB lv gs) (hR : R lv gs) (he : e = .returned (.int .i64 z)) (hb : Below w.heap.size w w') : StepPost n0 X BL BG lv gs z R w e w' :=
  ⟨lv, gs, he, h.next hb, hG, hR, by omega, .of_below hb⟩

theorem item_step (h : IsBook n0 w X BL BG lv gs) (hG : GoodB lv gs) (hn : n0 ≤ w.heap.size) (id : Int) :
    Calls Try.prog 11 #[.pointer (some ⟨X, 0, none⟩), .int .i64 id] w (StepPost n0 X BL BG lv gs (itemZ id) (ItemR lv gs id) w) := by
  by_cases hok : 1 ≤ id ∧ id ≤ 64
  · have hz : itemZ id = 0 := if_pos hok
    rw [hz]
    cases hm : mget lv id with
    | some a => exact (item_old h id hok hm).mono fun e w' ⟨h1, h2⟩ => h2 ▸ .same h hG ⟨rfl, .inr (.inl ⟨hok, ⟨a, hm⟩, rfl⟩)⟩ h1 (Below.refl _ _)
    | none =>
      refine (item_new h hn id hok hm).mono ?_
      rintro e w' ⟨h1, ⟨g, _, h2⟩, h3⟩
      exact ⟨_, _, h1, h2, hG.item hm hok g, ⟨rfl, .inr (.inr ⟨hok, hm, g, rfl⟩)⟩, by omega, h3⟩
  · have hz : itemZ id = 2 := if_neg hok
    rw [hz]
    exact (item_no h id hok).mono fun e w' ⟨h1, h2⟩ => h2 ▸ .same h hG ⟨rfl, .inl ⟨hok, rfl⟩⟩ h1 (Below.refl _ _)
theorem recv_step (h : IsBook n0 w X BL BG lv gs) (hG : GoodB lv gs) (hl : gs.length ≤ 3000000000000) (id q : Int) :
    Calls Try.prog 12 #[.pointer (some ⟨X, 0, none⟩), .int .i64 id, .int .i64 q] w (StepPost n0 X BL BG lv gs (recvZ lv id q) (RecvR lv gs id q) w) := by
  by_cases hok : 1 ≤ q ∧ q ≤ 1000000
  · cases hm : mget lv id with
    | none =>
      have hz : recvZ lv id q = 70 := by unfold recvZ; rw [if_pos hok, hm]
      have hR : RecvR lv gs id q lv gs := ⟨rfl, .inl ⟨by rw [hz]; decide, rfl⟩⟩
      rw [hz]
      exact (recv_none h id q hok hm).mono fun e w' ⟨h1, h2⟩ => h2 ▸ .same h hG hR h1 (Below.refl _ _)
    | some a =>
      by_cases hb : 1125899906842624 - q < a.r
      · have hz : recvZ lv id q = 72 := by unfold recvZ; rw [if_pos hok, hm]; simp only; rw [if_pos hb]
        have hR : RecvR lv gs id q lv gs := ⟨rfl, .inl ⟨by rw [hz]; decide, rfl⟩⟩
        rw [hz]
        exact (recv_many h id q hok hm hb).mono fun e w' ⟨h1, h2⟩ => h2 ▸ .same h hG hR h1 (Below.refl _ _)
      · have hz : recvZ lv id q = 0 := by unfold recvZ; rw [if_pos hok, hm]; simp only; rw [if_neg hb]
        have hR : RecvR lv gs id q (mset lv id ⟨a.g, a.i, a.r + q, a.h + q, a.a, a.s, a.t⟩) gs := ⟨rfl, .inr ⟨hz, hok, a, hm, by omega, rfl⟩⟩
        rw [hz]
        refine (recv_yes h id q hok hm (by omega) (hG.bd hl _ (mget_mem hm))).mono ?_
        rintro e w' ⟨h1, h2, h3⟩
        exact ⟨_, _, h1, h2, hG.recv hm hok.1 (by omega), hR, by omega, h3⟩
  · have hz : recvZ lv id q = 2 := if_neg hok
    have hR : RecvR lv gs id q lv gs := ⟨rfl, .inl ⟨by rw [hz]; decide, rfl⟩⟩
    rw [hz]
    exact (recv_arg h id q hok).mono fun e w' ⟨h1, h2⟩ => h2 ▸ .same h hG hR h1 (Below.refl _ _)
theorem alloc_stepB (h : IsBook n0 w X BL BG lv gs) (hG : GoodB lv gs) (hn : n0 ≤ w.heap.size) (hbd : ∀ p ∈ lv, LvB p.2) (o : Int) (A : Option Addr) (cap : Nat) (ls : List Ln) (hR : Rd w A (ls.flatMap enL)) (hcap : ls.length ≤ cap) (hcm : cap ≤ maxLen) :
    Calls Try.prog 13 #[.pointer (some ⟨X, 0, none⟩), .int .i64 o, .slice A ls.length cap] w (StepPost n0 X BL BG lv gs (allocZ lv gs o ls) (AllocR lv gs o ls) w) := by
  by_cases hz : errF lv gs o ls = 0
  · refine (alloc_fit h hn o A cap ls hR hcap hcm hz hbd).mono ?_
    rintro e w' (⟨hs, h1, h2⟩ | ⟨hs, d, h1, h2, hd, hdg, hdb, h3⟩)
    · have hzz : allocZ lv gs o ls = 150 := by unfold allocZ; rw [if_pos hz, if_pos hs]
      have hRR : AllocR lv gs o ls lv gs := .inl ⟨by rw [hzz]; decide, rfl, rfl⟩
      rw [hzz]
      exact .same h hG hRR h1 h2
    · have hzz : allocZ lv gs o ls = 0 := by unfold allocZ; rw [if_pos hz, hs]; rfl
      have hRR : AllocR lv gs o ls (mvL allocL lv ls) (mset gs o d) := .inr ⟨hzz, hz, hs, rfl, d, hd, rfl⟩
      rw [hzz]
      refine ⟨_, _, h1, h2, hG.alloc hz hs hd, hRR, mset_len, h3.old fun k hk hS => ?_⟩
      rcases hS with e | e | e | ⟨p, hp, e⟩
      · exact .inl e
      · exact .inr (.inl e)
      · exact .inr (.inr (.inl e))
      · rcases mem_mset hp with rfl | ⟨hp', _⟩
        · simp only at e; omega
        · exact .inr (.inr (.inr ⟨p, hp', e⟩))
  · have hzz : allocZ lv gs o ls = errF lv gs o ls := if_neg hz
    have hRR : AllocR lv gs o ls lv gs := .inl ⟨by rw [hzz]; exact hz, rfl, rfl⟩
    rw [hzz]
    exact (alloc_no h o A cap ls hR hcap hcm hz).mono fun e w' ⟨h1, h2⟩ => .same h hG hRR h1 h2
theorem alloc_step (h : IsBook n0 w X BL BG lv gs) (hG : GoodB lv gs) (hn : n0 ≤ w.heap.size) (hl : gs.length ≤ 3000000000000) (o : Int) (A : Option Addr) (cap : Nat) (ls : List Ln) (hR : Rd w A (ls.flatMap enL)) (hcap : ls.length ≤ cap) (hcm : cap ≤ maxLen) :
    Calls Try.prog 13 #[.pointer (some ⟨X, 0, none⟩), .int .i64 o, .slice A ls.length cap] w (StepPost n0 X BL BG lv gs (allocZ lv gs o ls) (AllocR lv gs o ls) w) := alloc_stepB h hG hn (hG.bd hl) o A cap ls hR hcap hcm
theorem free_step (h : IsBook n0 w X BL BG lv gs) (hG : GoodB lv gs) (hl : gs.length ≤ 3000000000000) (o : Int) :
    Calls Try.prog 16 #[.pointer (some ⟨X, 0, none⟩), .int .i64 o] w (StepPost n0 X BL BG lv gs (freeZ gs o) (FreeR lv gs o) w) := by
  cases hm : mget gs o with
  | none =>
    have hz : freeZ gs o = 70 := by unfold freeZ; rw [hm]
    rw [hz]
    exact (free_none h o hm).mono fun e w' ⟨h1, h2⟩ => h2 ▸ .same h hG (.inl ⟨fun d hd => by (rw [hm] at hd; cases hd), rfl, rfl⟩) h1 (Below.refl _ _)
  | some d =>
    have hg := hG.gk o d hm
    rcases (show d.st = 1 ∨ d.st = 2 ∨ d.st = 3 from by omega) with hs | hs | hs
    · have hz : freeZ gs o = 0 := by unfold freeZ; rw [hm]; simp only; rw [if_neg (by omega)]
      have hRR : FreeR lv gs o (mvL freeL lv d.ls) (mdel gs o) := .inr ⟨hz, d, hm, hs, rfl, rfl⟩
      rw [hz]
      refine (free_yes h o hm hs hg.2.1.1.2.2 hg.2.1.2 (hG.kn o d hm) (hG.bd hl)).mono ?_
      rintro e w' ⟨h1, h2, h3⟩
      exact ⟨_, _, h1, h2, hG.free hm hs, hRR, Nat.le_trans mdel_len (by omega), h3⟩
    · have hz : freeZ gs o = 130 := by unfold freeZ; rw [hm]; simp only; rw [if_pos hs]
      rw [hz]
      exact (free_gone h o hm hs).mono fun e w' ⟨h1, h2⟩ => h2 ▸ .same h hG (.inl ⟨fun d' hd => by (rw [hm] at hd; injection hd with hd; subst hd; omega), rfl, rfl⟩) h1 (Below.refl _ _)
    · have hz : freeZ gs o = 0 := by unfold freeZ; rw [hm]; simp only; rw [if_neg (by omega)]
      rw [hz]
      exact (free_back h o hm hs).mono fun e w' ⟨h1, h2⟩ => h2 ▸ .same h hG (.inl ⟨fun d' hd => by (rw [hm] at hd; injection hd with hd; subst hd; omega), rfl, rfl⟩) h1 (Below.refl _ _)
theorem ship_step (h : IsBook n0 w X BL BG lv gs) (hG : GoodB lv gs) (hl : gs.length ≤ 3000000000000) (o : Int) :
    Calls Try.prog 17 #[.pointer (some ⟨X, 0, none⟩), .int .i64 o] w (StepPost n0 X BL BG lv gs (goZ gs o 1) (ShipR lv gs o) w) := by
  cases hm : mget gs o with
  | none =>
    have hz : goZ gs o 1 = 70 := by unfold goZ; rw [hm]
    have hRR : ShipR lv gs o lv gs := .inl ⟨by rw [hz]; decide, rfl, rfl⟩
    rw [hz]
    exact (ship_not h o (.inl ⟨hm, rfl⟩)).mono fun e w' ⟨h1, h2⟩ => h2 ▸ .same h hG hRR h1 (Below.refl _ _)
  | some d =>
    have hg := hG.gk o d hm
    by_cases hs : d.st = 1
    · have hz : goZ gs o 1 = 0 := by unfold goZ; rw [hm]; simp only; rw [if_pos hs]
      have hRR : ShipR lv gs o (mvL shipL lv d.ls) (mset gs o (nextG d)) := .inr ⟨hz, d, hm, hs, rfl, rfl⟩
      rw [hz]
      refine (ship_yes h o hm hs hg.2.1.1.2.2 hg.2.1.2 (hG.kn o d hm) (hG.bd hl)).mono ?_
      rintro e w' ⟨h1, h2, h3⟩
      exact ⟨_, _, h1, h2, hG.ship hm hs, hRR, mset_len, h3⟩
    · have hz : goZ gs o 1 = 130 := by unfold goZ; rw [hm]; simp only; rw [if_neg hs]
      have hRR : ShipR lv gs o lv gs := .inl ⟨by rw [hz]; decide, rfl, rfl⟩
      rw [hz]
      exact (ship_not h o (.inr ⟨d, hm, hs, rfl⟩)).mono fun e w' ⟨h1, h2⟩ => h2 ▸ .same h hG hRR h1 (Below.refl _ _)
theorem restock_step (h : IsBook n0 w X BL BG lv gs) (hG : GoodB lv gs) (hl : gs.length ≤ 3000000000000) (o : Int) :
    Calls Try.prog 18 #[.pointer (some ⟨X, 0, none⟩), .int .i64 o] w (StepPost n0 X BL BG lv gs (goZ gs o 2) (RestockR lv gs o) w) := by
  cases hm : mget gs o with
  | none =>
    have hz : goZ gs o 2 = 70 := by unfold goZ; rw [hm]
    have hRR : RestockR lv gs o lv gs := .inl ⟨by rw [hz]; decide, rfl, rfl⟩
    rw [hz]
    exact (restock_not h o (.inl ⟨hm, rfl⟩)).mono fun e w' ⟨h1, h2⟩ => h2 ▸ .same h hG hRR h1 (Below.refl _ _)
  | some d =>
    have hg := hG.gk o d hm
    by_cases hs : d.st = 2
    · have hz : goZ gs o 2 = 0 := by unfold goZ; rw [hm]; simp only; rw [if_pos hs]
      have hRR : RestockR lv gs o (mvL restockL lv d.ls) (mset gs o (nextG d)) := .inr ⟨hz, d, hm, hs, rfl, rfl⟩
      rw [hz]
      refine (restock_yes h o hm hs hg.2.1.1.2.2 hg.2.1.2 (hG.kn o d hm) (hG.bd hl)).mono ?_
      rintro e w' ⟨h1, h2, h3⟩
      exact ⟨_, _, h1, h2, hG.restock hm hs, hRR, mset_len, h3⟩
    · have hz : goZ gs o 2 = 130 := by unfold goZ; rw [hm]; simp only; rw [if_neg hs]
      have hRR : RestockR lv gs o lv gs := .inl ⟨by rw [hz]; decide, rfl, rfl⟩
      rw [hz]
      exact (restock_not h o (.inr ⟨d, hm, hs, rfl⟩)).mono fun e w' ⟨h1, h2⟩ => h2 ▸ .same h hG hRR h1 (Below.refl _ _)
end

end Go.Proofs.Ythfaaimmfdidnaa
