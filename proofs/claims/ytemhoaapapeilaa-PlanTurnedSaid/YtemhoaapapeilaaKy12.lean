/-
  Counting in maps; the pairs of a plan by names; what turning a definition round leaves as it was: plainly.
-/
import Derived.Test.YtemhoaapapeilaaFp12
namespace Go.Proofs.Ytemhoaapapeilaa
open Go.RowKit Go.WideShapes Go.ChangeShapes Go.ChangeAt Go.Deep
set_option linter.unusedVariables false

section
variable {κ : Type} [DecidableEq κ]
/-- A map that counts: one more of a key. -/
def cntS (m : List (κ × Int)) (a : κ) : List (κ × Int) := mset m a ((mget m a).getD 0 + 1)
def cntL (ks : List κ) : List (κ × Int) := ks.foldl cntS []
theorem cntL_snoc (ks : List κ) (a : κ) : cntL (ks ++ [a]) = cntS (cntL ks) a := by unfold cntL; rw [List.foldl_append]; rfl
theorem cnt_fold (m : List (κ × Int)) : ∀ (ks : List κ), ks.foldl cntS m = ks.foldl cntS m := fun _ => rfl
theorem get_fold (a : κ) : ∀ (ks : List κ) (m : List (κ × Int)), mget (ks.foldl cntS m) a = if ks.count a = 0 then mget m a else some ((mget m a).getD 0 + ((ks.count a : Nat) : Int))
  | [], m => by simp
  | b :: ks, m => by
    rw [List.foldl_cons, get_fold a ks]
    unfold cntS
    rw [mget_mset, List.count_cons]
    by_cases e : a = b
    · subst e
      simp only [if_true, beq_self_eq_true, Option.getD_some]
      rw [if_neg (show ¬ ks.count a + 1 = 0 by omega)]
      by_cases h0 : ks.count a = 0
      · simp [h0]
      · rw [if_neg h0]
        congr 1
        omega
    · have e' : ¬ b = a := fun h => e h.symm
      simp [e, e']
theorem cntL_get (ks : List κ) (a : κ) : mget (cntL ks) a = if ks.count a = 0 then none else some ((ks.count a : Nat) : Int) := by
  unfold cntL
  rw [get_fold]
  simp [mget]
theorem cntL_getD (ks : List κ) (a : κ) : (mget (cntL ks) a).getD 0 = ((ks.count a : Nat) : Int) := by
  rw [cntL_get]
  split
  · rename_i h; simp [h]
  · rfl
theorem cntL_nodup (ks : List κ) : ((cntL ks).map (·.1)).Nodup := by
  unfold cntL
  have : ∀ (ks : List κ) (m : List (κ × Int)), (m.map (·.1)).Nodup → ((ks.foldl cntS m).map (·.1)).Nodup := fun ks => by
    induction ks with
    | nil => intro m h; exact h
    | cons b ks ih => intro m h; exact ih _ (mset_nodup h _ _)
  exact this ks [] (by simp)
theorem cntL_key (ks : List κ) (a : κ) : a ∈ (cntL ks).map (·.1) ↔ a ∈ ks := by
  rw [← mget_isSome, cntL_get]
  by_cases h : a ∈ ks
  · have := List.count_pos_iff.2 h
    rw [if_neg (by omega)]
    simp [h]
  · rw [if_pos (List.count_eq_zero.2 h)]
    simp [h]
theorem cntL_perm {ks js : List κ} (h : ks.Perm js) : (cntL ks).length = (cntL js).length ∧ ∀ a, (mget (cntL ks) a).getD 0 = (mget (cntL js) a).getD 0 := by
  refine ⟨?_, fun a => by rw [cntL_getD, cntL_getD, h.count_eq]⟩
  have h1 : ((cntL ks).map (·.1)).Perm ((cntL js).map (·.1)) := (List.perm_ext_iff_of_nodup (cntL_nodup ks) (cntL_nodup js)).2 (fun a => by rw [cntL_key, cntL_key]; exact h.mem_iff)
  simpa using h1.length_eq
/-- What stands in the map: the count. -/
theorem cntL_mem {ks : List κ} {a : κ} {n : Int} (h : (a, n) ∈ cntL ks) : n = ((ks.count a : Nat) : Int) := by
  have h1 := mget_of_mem (cntL_nodup ks) h
  have h2 := cntL_getD ks a
  simp only at h1
  rw [h1] at h2
  exact h2
/-- How often a key stands in the list. -/
def kcnt (ks : List κ) (a : κ) : Nat := ks.count a
theorem cntL_kcnt (ks : List κ) (a : κ) : (mget (cntL ks) a).getD 0 = ((kcnt ks a : Nat) : Int) := cntL_getD ks a
theorem kcnt_le (ks : List κ) (a : κ) : kcnt ks a ≤ ks.length := List.count_le_length
theorem kcnt_one {ks : List κ} (h : ks.Nodup) {a : κ} (ha : a ∈ ks) : kcnt ks a = 1 := by
  have h1 := List.count_pos_iff.2 ha
  have h2 := List.nodup_iff_count.1 h a
  unfold kcnt
  omega
theorem kcnt_perm {ks js : List κ} (h : ks.Perm js) (a : κ) : kcnt ks a = kcnt js a := h.count_eq a
/-- No key twice, and where it stands first. -/
def dd : List κ → List κ
  | [] => []
  | a :: l => if a ∈ l then dd l else a :: dd l
theorem dd_mem {a : κ} : ∀ {l : List κ}, a ∈ dd l ↔ a ∈ l
  | [] => Iff.rfl
  | b :: l => by
    unfold dd
    split
    · rename_i h
      rw [dd_mem (l := l), List.mem_cons]
      exact ⟨.inr, fun e => e.elim (fun e => e ▸ h) id⟩
    · rw [List.mem_cons, List.mem_cons, dd_mem (l := l)]
theorem dd_nodup : ∀ (l : List κ), (dd l).Nodup
  | [] => List.nodup_nil
  | b :: l => by
    unfold dd
    split
    · exact dd_nodup l
    · rename_i h
      exact List.nodup_cons.2 ⟨fun e => h (dd_mem.1 e), dd_nodup l⟩
end
theorem perm_flat {α β : Type} {f g : α → List β} : ∀ {l : List α}, (∀ a ∈ l, (f a).Perm (g a)) → (l.flatMap f).Perm (l.flatMap g)
  | [], _ => by simp
  | a :: l, h => by
    rw [List.flatMap_cons, List.flatMap_cons]
    exact (h a (by simp)).append (perm_flat fun b hb => h b (by simp [hb]))

/-! ### Names -/
/-- The step named a comes behind the one named b. -/
inductive NRch (l : List Stp) : ByteArray → ByteArray → Prop where
  | one {s : Stp} {b : ByteArray} (hs : s ∈ l) (h : b ∈ s.after) : NRch l s.name b
  | step {s : Stp} {a b : ByteArray} (hs : s ∈ l) (h : a ∈ s.after) (r : NRch l a b) : NRch l s.name b
theorem NRch.perm {l l' : List Stp} (hp : l.Perm l') {a b : ByteArray} (h : NRch l a b) : NRch l' a b := by
  induction h with
  | one hs h => exact .one (hp.mem_iff.1 hs) h
  | step hs h _ ih => exact .step (hp.mem_iff.1 hs) h ih
theorem NamesOk.find {l : List Stp} (h : NamesOk l) {i : Nat} {s : Stp} (hs : l[i]? = some s) : l.findIdx (isNm s.name) = i := by
  obtain ⟨s', h1, h2, _⟩ := h.idx (List.mem_map_of_mem (List.mem_of_getElem? hs))
  exact h.inj h1 hs h2
theorem rch_names {l : List Stp} (h : NamesOk l) {i k : Nat} (hr : Rch (grf l) i k) : ∀ {s t : Stp}, l[i]? = some s → l[k]? = some t → NRch l s.name t.name := by
  induction hr with
  | @one i k hk =>
    intro s t hs ht
    rw [grf_adj hs] at hk
    obtain ⟨a, ha, e⟩ := List.mem_map.1 hk
    obtain ⟨t', h1, h2, _⟩ := h.idx (h.2 s (List.mem_of_getElem? hs) a ha)
    rw [e, ht] at h1
    injection h1 with h1
    subst h1
    rw [h2]
    exact .one (List.mem_of_getElem? hs) ha
  | @step i j k hj _ ih =>
    intro s t hs ht
    rw [grf_adj hs] at hj
    obtain ⟨a, ha, e⟩ := List.mem_map.1 hj
    obtain ⟨u, h1, h2, _⟩ := h.idx (h.2 s (List.mem_of_getElem? hs) a ha)
    rw [e] at h1
    have := ih h1 ht
    rw [h2] at this
    exact .step (List.mem_of_getElem? hs) ha this
theorem names_rch {l : List Stp} (h : NamesOk l) {a b : ByteArray} (hr : NRch l a b) : Rch (grf l) (l.findIdx (isNm a)) (l.findIdx (isNm b)) := by
  have key : ∀ {s : Stp} {c : ByteArray}, s ∈ l → c ∈ s.after → l.findIdx (isNm c) ∈ adj (grf l) (l.findIdx (isNm s.name)) := fun {s c} hs hc => by
    obtain ⟨i, hi⟩ := List.mem_iff_getElem?.1 hs
    rw [h.find hi, grf_adj hi]
    exact List.mem_map_of_mem hc
  induction hr with
  | one hs hb => exact .one (key hs hb)
  | step hs hb _ ih => exact .step (key hs hb) ih
theorem NamesOk.perm {l l' : List Stp} (hp : l.Perm l') (h : NamesOk l) : NamesOk l' :=
  ⟨(hp.map Stp.name).nodup_iff.1 h.1, fun s hs a ha => (hp.map Stp.name).mem_iff.1 (h.2 s (hp.mem_iff.2 hs) a ha)⟩
theorem acy_perm {l l' : List Stp} (hp : l.Perm l') (h : NamesOk l) (hA : Acy (grf l)) : Acy (grf l') := fun i hr => by
  have h' := h.perm hp
  have hi : i < l'.length := by have := (hr.lt (grf_shut h')).1; rwa [grf_len] at this
  have h1 := rch_names h' hr (List.getElem?_eq_getElem hi) (List.getElem?_eq_getElem hi)
  exact hA _ (names_rch h (h1.perm hp.symm))
theorem finBad_perm {l l' : List Stp} (hp : l.Perm l') (h : NamesOk l) (hF : FinBad l) : FinBad l' := by
  have h' := h.perm hp
  obtain ⟨i, s, hs, hf, x, hx, hxf, hn⟩ := hF
  obtain ⟨i', hi'⟩ := List.mem_iff_getElem?.1 (hp.mem_iff.1 (List.mem_of_getElem? hs))
  refine ⟨i', s, hi', hf, x, hp.mem_iff.1 hx, hxf, fun hr => hn ?_⟩
  obtain ⟨j', hj'⟩ := List.mem_iff_getElem?.1 (hp.mem_iff.1 hx)
  rw [h'.find hj'] at hr
  have h1 := names_rch h ((rch_names h' hr hi' hj').perm hp.symm)
  rw [h.find hs] at h1
  exact h1
theorem check_perm {l l' : List Stp} (hp : l.Perm l') : checkN l = 0 ↔ checkN l' = 0 := by
  have key : ∀ {l l' : List Stp}, l.Perm l' → checkN l = 0 → checkN l' = 0 := fun {l l'} hp h => by
    obtain ⟨h1, h2, h3, h4⟩ := checkN_zero h
    refine checkN_zero_iff.2 ⟨h1.perm hp, acy_perm hp h1 h2, fun hf => h3 (finBad_perm hp.symm (h1.perm hp) hf), fun s hs => h4 s (hp.mem_iff.2 hs)⟩
  exact ⟨key hp, key hp.symm⟩

/-! ### The pairs of a plan -/
/-- Two names, with something between. -/
def glue (c : ByteArray) (a b : ByteArray) : ByteArray := a ++ c ++ b
def keyR (c : ByteArray) (Ls : List Stp) (p : Nat) (xs : List Int) : List ByteArray := xs.map fun x => glue c (stepAt Ls x).name (stepAt Ls (p : Int)).name
/-- The pairs of the first p rows. -/
def keyB (c : ByteArray) (Ls : List Stp) (Bs : List IRow) (p : Nat) : List ByteArray := (List.range p).flatMap fun q => keyR c Ls q (rowAt Bs (q : Int))
theorem keyB_succ (c : ByteArray) (Ls : List Stp) (Bs : List IRow) (p : Nat) : keyB c Ls Bs (p + 1) = keyB c Ls Bs p ++ keyR c Ls p (rowAt Bs (p : Int)) := by
  unfold keyB
  rw [List.range_succ, List.flatMap_append]
  simp
/-- The pairs, by the steps themselves. -/
def keyS (c : ByteArray) (s : Stp) : List ByteArray := (dd s.after).map fun a => glue c a s.name
theorem keyR_perm {c : ByteArray} {l : List Stp} {ds : List Nat} {Ls : List Stp} {Bs : List IRow} (hN : NamesOk l) (h : PlG l ds Ls Bs) (ho : OrdOk (grf l) ds) {p i : Nat} {s : Stp} (hp : ds[p]? = some i) (hs : l[i]? = some s) : (keyR c Ls p (rowAt Bs (p : Int))).Perm (keyS c s) := by
  obtain ⟨b, hb, hb1, hb2⟩ := h.row p i hp
  obtain ⟨s', A', c', h1, h2⟩ := h.step p i hp
  rw [hs] at h1
  injection h1 with h1
  subst h1
  rw [rowAt_in hb]
  unfold keyR keyS
  rw [stepAt_in h2]
  have e : b.xs.map (fun x => glue c (stepAt Ls x).name (twn s A' c').name) = (b.xs.map fun x => (stepAt Ls x).name).map fun a => glue c a s.name := by rw [List.map_map]; rfl
  rw [e]
  refine List.Perm.map _ ?_
  have hnm : ∀ x ∈ b.xs, ∃ k a, k ∈ adj (grf l) i ∧ a ∈ s.after ∧ k = l.findIdx (isNm a) ∧ x = ((ds.idxOf k : Nat) : Int) ∧ (stepAt Ls x).name = a := fun x hx => by
    obtain ⟨k, hk, rfl⟩ := (hb2 x).1 hx
    have hkd : k ∈ ds := List.mem_of_mem_take (ho.before p i hp k hk)
    have hk' := hk
    rw [grf_adj hs] at hk'
    obtain ⟨a, ha, e⟩ := List.mem_map.1 hk'
    obtain ⟨t, ht, htn, _⟩ := hN.idx (hN.2 s (List.mem_of_getElem? hs) a ha)
    rw [e] at ht
    have hix : ds[ds.idxOf k]? = some k := by
      have hlt := List.idxOf_lt_length_of_mem hkd
      rw [List.getElem?_eq_getElem hlt, List.getElem_idxOf hlt]
    obtain ⟨t', A2, c2, g1, g2⟩ := h.step _ k hix
    rw [ht] at g1
    injection g1 with g1
    subst g1
    exact ⟨k, a, hk, ha, e.symm, rfl, by rw [stepAt_in g2]; exact htn⟩
  refine (List.perm_ext_iff_of_nodup ?_ (dd_nodup _)).2 fun a => ?_
  · refine List.pairwise_map.2 (hb1.imp_of_mem fun {x y} hx hy hxy e => ?_)
    obtain ⟨k1, a1, _, _, e1, x1, n1⟩ := hnm x hx
    obtain ⟨k2, a2, _, _, e2, x2, n2⟩ := hnm y hy
    have : a1 = a2 := by rw [← n1, ← n2]; exact e
    rw [this, ← e2] at e1
    rw [x1, x2, e1] at hxy
    omega
  · rw [dd_mem, List.mem_map]
    constructor
    · rintro ⟨x, hx, rfl⟩
      obtain ⟨k1, a1, _, ha1, e1, x1, n1⟩ := hnm x hx
      rw [n1]
      exact ha1
    · intro ha
      have hk : l.findIdx (isNm a) ∈ adj (grf l) i := by rw [grf_adj hs]; exact List.mem_map_of_mem ha
      have hx : ((ds.idxOf (l.findIdx (isNm a)) : Nat) : Int) ∈ b.xs := (hb2 _).2 ⟨_, hk, rfl⟩
      refine ⟨_, hx, ?_⟩
      obtain ⟨k1, a1, _, ha1, e1, x1, n1⟩ := hnm _ hx
      have hkd : l.findIdx (isNm a) ∈ ds := List.mem_of_mem_take (ho.before p i hp _ hk)
      have hk1d : k1 ∈ ds := List.mem_of_mem_take (ho.before p i hp _ ‹_›)
      have hidx : l.findIdx (isNm a) = k1 := by
        have e3 : ds.idxOf (l.findIdx (isNm a)) = ds.idxOf k1 := by omega
        have q1 := List.getElem_idxOf (List.idxOf_lt_length_of_mem hkd)
        have q2 := List.getElem_idxOf (List.idxOf_lt_length_of_mem hk1d)
        rw [← q1, ← q2]
        simp only [e3]
      rw [n1]
      obtain ⟨t1, u1, v1, _⟩ := hN.idx (hN.2 s (List.mem_of_getElem? hs) a1 ha1)
      obtain ⟨t2, u2, v2, _⟩ := hN.idx (hN.2 s (List.mem_of_getElem? hs) a ha)
      rw [hidx, e1, u1] at u2
      injection u2 with u2
      rw [← v1, ← v2, u2]
theorem ord_perm {l : List Stp} (hN : NamesOk l) (hA : Acy (grf l)) : (ordN (grf l) l.length).Perm (List.range l.length) := by
  have ho := ordN_ok (grf l) l.length
  have hl : (ordN (grf l) l.length).length = l.length := ordN_len hA (grf_shut hN) l.length (by rw [grf_len]; exact Nat.le_refl _)
  refine (List.perm_ext_iff_of_nodup ho.nodup List.nodup_range).2 fun i => ?_
  constructor
  · intro hi
    have := ho.lt i hi
    rw [grf_len] at this
    exact List.mem_range.2 this
  · intro hi
    by_cases hm : i ∈ ordN (grf l) l.length
    · exact hm
    · exfalso
      have h2 := sub_len (a := i :: ordN (grf l) l.length) (b := List.range l.length) (List.nodup_cons.2 ⟨hm, ho.nodup⟩) (fun x hx => by
        rcases List.mem_cons.1 hx with rfl | hx
        · exact hi
        · have := ho.lt x hx
          rw [grf_len] at this
          exact List.mem_range.2 this)
      rw [List.length_range, List.length_cons] at h2
      omega
theorem keyB_perm {c : ByteArray} {l : List Stp} {Ls : List Stp} {Bs : List IRow} (hN : NamesOk l) (hA : Acy (grf l)) (h : PlG l (ordN (grf l) l.length) Ls Bs) : (keyB c Ls Bs Ls.length).Perm (l.flatMap (keyS c)) := by
  have ho := ordN_ok (grf l) l.length
  have hl : (ordN (grf l) l.length).length = l.length := ordN_len hA (grf_shut hN) l.length (by rw [grf_len]; exact Nat.le_refl _)
  generalize hds : ordN (grf l) l.length = ds at ho hl h
  have hpd : ds.Perm (List.range l.length) := by rw [← hds]; exact ord_perm hN hA
  have h1 : (keyB c Ls Bs Ls.length).Perm ((List.range ds.length).flatMap fun q => keyS c ((l[(ds[q]?).getD 0]?).getD zeroSt)) := by
    unfold keyB
    rw [h.ls]
    refine perm_flat fun q hq => ?_
    have hq := List.mem_range.1 hq
    have hdq : ds[q]? = some ds[q] := List.getElem?_eq_getElem hq
    have hlt : ds[q] < l.length := by have := ho.lt ds[q] (List.getElem_mem hq); rwa [grf_len] at this
    rw [hdq]
    simp only [Option.getD_some]
    rw [List.getElem?_eq_getElem hlt]
    exact keyR_perm hN h ho hdq (List.getElem?_eq_getElem hlt)
  refine h1.trans ?_
  have h2 : ((List.range ds.length).flatMap fun q => keyS c ((l[(ds[q]?).getD 0]?).getD zeroSt)) = ds.flatMap fun i => keyS c ((l[i]?).getD zeroSt) := by
    have : ds = (List.range ds.length).map fun q => (ds[q]?).getD 0 := by
      apply List.ext_getElem?
      intro i
      rw [List.getElem?_map]
      by_cases hi : i < ds.length
      · rw [List.getElem?_range hi, List.getElem?_eq_getElem hi]; simp [hi]
      · rw [List.getElem?_eq_none (by omega), List.getElem?_eq_none (by simp; omega)]; rfl
    conv => rhs; rw [this]
    rw [List.flatMap_map]
  rw [h2]
  refine (hpd.flatMap_right _).trans ?_
  have h3 : l = (List.range l.length).map fun i => (l[i]?).getD zeroSt := by
    apply List.ext_getElem?
    intro i
    rw [List.getElem?_map]
    by_cases hi : i < l.length
    · rw [List.getElem?_range hi, List.getElem?_eq_getElem hi]; simp [hi]
    · rw [List.getElem?_eq_none (by omega), List.getElem?_eq_none (by simp; omega)]; rfl
  have h4 : ((List.range l.length).flatMap fun i => keyS c ((l[i]?).getD zeroSt)) = ((List.range l.length).map fun i => (l[i]?).getD zeroSt).flatMap (keyS c) := by rw [List.flatMap_map]
  rw [h4, ← h3]

end Go.Proofs.Ytemhoaapapeilaa
