/-
  PlanCompiles: the definition copied twice (the walk's first part).
-/
import Derived.Test.YtemhoaapapeilaaPr12
import Derived.Test.YtemhoaapapeilaaWa12
import Derived.Deep.RegionHeld3
namespace Go.Proofs.Ytemhoaapapeilaa
open Go.RowKit Go.MapKept Go.ChangeMaps Go.WideShapes Go.ChangeShapes Go.ChangeAt Go.Deep
set_option linter.unusedVariables false

/-- While the definition is copied. -/
structure GvS (w0 : World) (bR bG G T R3 : Nat) (nm : ByteArray) (A : Option Addr) (n cp : Nat) (S3 : Option Addr) (c3 : Nat) (lr : List Stp) (TA : Option Addr) (tc : Nat) (Tl : List Stp) (w : World) : Prop where
  d : Blk w G 24 #[.string nm, .slice A n cp]
  t : Blk w T 24 #[.string nm, .slice TA Tl.length tc]
  ne : G ≠ T
  r3 : Blk w R3 47 #[.string nm, .slice S3 lr.length c3]
  ro : w.ownsRow bR 40 9 (.slice S3 lr.length c3) lr.length (lr.flatMap enSt)
  rs : ∀ s ∈ lr, OwnSt bR w s
  ra : ∀ s ∈ lr, ∀ g, (Value.slice s.A s.after.length s.cap).ownBlock = some g → g < bG
  os : w.ownsRow bG 34 9 (.slice TA Tl.length tc) Tl.length (Tl.flatMap enSt)
  st : ∀ s ∈ Tl, OwnSt bG w s
  bel : Below w0.heap.size w0 w
  lo : w0.heap.size ≤ bG ∧ bG ≤ T
section
variable {w0 : World} {bR bG G T R3 : Nat} {nm : ByteArray} {A : Option Addr} {n cp : Nat} {S3 : Option Addr} {c3 : Nat} {lr : List Stp} {TA : Option Addr} {tc : Nat} {Tl : List Stp} {w w' : World}
theorem GvS.next (h : GvS w0 bR bG G T R3 nm A n cp S3 c3 lr TA tc Tl w) (hb : Below w.heap.size w w') : GvS w0 bR bG G T R3 nm A n cp S3 c3 lr TA tc Tl w' :=
  ⟨h.d.next hb, h.t.next hb, h.ne, h.r3.next hb, own_next h.ro hb, fun s hs => own_next (h.rs s hs) hb, h.ra, own_next h.os hb, fun s hs => own_next (h.st s hs) hb, bthen h.bel hb, h.lo⟩
theorem GvS.grew {g cap : Nat} (h : GvS w0 bR bG G T R3 nm A n cp S3 c3 lr TA tc Tl w) (hg : w.grownBy w' (Value.slice TA Tl.length tc).ownBlock) (t : Stp) (ho : w'.ownsRow bG 34 9 (.slice (some ⟨g, 0, none⟩) (Tl.length + 1) cap) (Tl.length + 1) (Tl.flatMap enSt ++ enSt t)) (ht : OwnSt bG w t) :
    GvS w0 bR bG G T R3 nm A n cp S3 c3 lr (some ⟨g, 0, none⟩) cap (Tl ++ [t]) (w'.setCell ⟨T, 1, none⟩ (.slice (some ⟨g, 0, none⟩) (Tl.length + 1) cap)) := by
  have hT := touch_own hg
  have hd := hT.blk h.d (fun e => own_notBlk h.os h.d (by decide) e)
  have ht1 := hT.blk h.t (fun e => own_notBlk h.os h.t (by decide) e)
  have hr3 := hT.blk h.r3 (fun e => own_notBlk h.os h.r3 (by decide) e)
  have hT2 := Touch.setCell w' T 1 (.slice (some ⟨g, 0, none⟩) (Tl.length + 1) cap)
  have no : ∀ {base : Nat} {e : TypeId} {size : Nat} {v : Value} {n : Nat} {xs : List Value}, 34 ≠ e → w.ownsRow base e size v n xs → w'.ownsRow base e size v n xs := fun hne ho2 => own_touch ho2 hT (fun g hg e => own_other h.os ho2 hne hg e)
  have no2 : ∀ {base : Nat} {e : TypeId} {size : Nat} {v : Value} {n : Nat} {xs : List Value}, e ≠ 24 → w'.ownsRow base e size v n xs → (w'.setCell ⟨T, 1, none⟩ (.slice (some ⟨g, 0, none⟩) (Tl.length + 1) cap)).ownsRow base e size v n xs := fun hne ho2 => own_touch ho2 hT2 (fun g hg e => own_notBlk ho2 ht1 hne (by rw [hg, e]))
  have hb := h.bel.trans (hT.below h.bel.size (fun k hk => Nat.le_trans h.lo.1 (h.os.lt k hk).1))
  have hl : (Tl ++ [t]).length = Tl.length + 1 := by simp
  refine ⟨hT2.blk hd (fun e => h.ne e), ?_, h.ne, hT2.blk hr3 (fun e => hr3.ne_ ht1 (by decide) e), no2 (by decide) (no (by decide) h.ro), fun s hs => no2 (by decide) (no (by decide) (h.rs s hs)), h.ra, ?_, fun s hs => ?_, hb.trans (hT2.below hb.size (fun k hk => by rw [hk]; exact Nat.le_trans h.lo.1 h.lo.2)), h.lo⟩
  · rw [hl]; exact ht1.set_ 1 _
  · have := no2 (by decide) ho
    rw [List.flatMap_append, hl]
    simpa using this
  · rcases List.mem_append.1 hs with hs | hs
    · exact no2 (by decide) (no (by decide) (h.st s hs))
    · simp at hs; subst hs; exact no2 (by decide) (no (by decide) ht)
end
theorem Twins.mem {l Ls : List Stp} (h : Twins l Ls) {t : Stp} (ht : t ∈ Ls) : ∃ s A c, s ∈ l ∧ t = twn s A c := by
  obtain ⟨i, hi⟩ := List.mem_iff_getElem?.1 ht
  have hil : i < l.length := by rw [← h.len]; exact (List.getElem?_eq_some_iff.1 hi).1
  obtain ⟨A, c, h1⟩ := h.at_ i _ (List.getElem?_eq_getElem hil)
  rw [hi] at h1
  injection h1 with h1
  exact ⟨_, A, c, List.getElem_mem hil, h1⟩
theorem wb_twn_len {l : List Stp} {Ls : List Stp} (h : Twins l Ls) : Ls.length = l.length := h.len

theorem own_max {w : World} {base n cap : Nat} {e : TypeId} {size : Nat} {A : Option Addr} {xs : List Value} (h : w.ownsRow base e size (.slice A n cap) n xs) : n ≤ maxLen := by
  rcases h.2 with ⟨_, h0⟩ | ⟨g', cap', cur, h, hb, hg, hnc, hcm, hcs, htk⟩
  · omega
  · omega
theorem ints_same (xs : List Int) (A B : Option Addr) (ca cb : Nat) (w : World) (hA : Rd w A (xs.flatMap en1)) (hB : Rd w B (xs.flatMap en1)) (hl : xs.length ≤ 140737488355328) : Calls Try.prog 17 #[.slice A xs.length ca, .slice B xs.length cb] w fun e w' => e = .returned (.bool true) ∧ Below w.heap.size w w' := by
  have h := ints12_any xs xs A B ca cb w hA hB hl
  rw [show decide (xs = xs) = true from decide_eq_true rfl] at h
  exact h
abbrev markB : ByteArray := ⟨#[109, 97, 114, 107]⟩
def mkd (s : Stp) : Stp := ⟨markB, s.verb, s.undo, s.event, s.fin, s.ret, s.ev, s.wi, s.A, s.cap, s.after⟩
/-- While the copy is written over. -/
structure MkS (bG bP T : Nat) (nm : ByteArray) (TA : Option Addr) (n tc : Nat) (lm : List Stp) (w : World) : Prop where
  t : Blk w T 24 #[.string nm, .slice TA n tc]
  len : lm.length = n
  os : w.ownsRow bG 34 9 (.slice TA lm.length tc) lm.length (lm.flatMap enSt)
  ob : ∀ g, (Value.slice TA n tc).ownBlock = some g → g < bP
  st : ∀ s ∈ lm, StrR bG w s.A s.after.length s.cap
  sb : ∀ s ∈ lm, ∀ g, (Value.slice s.A s.after.length s.cap).ownBlock = some g → g < bP
section
variable {bG bP T : Nat} {nm : ByteArray} {TA : Option Addr} {n tc : Nat} {lm : List Stp} {w w' : World}
theorem MkS.next (h : MkS bG bP T nm TA n tc lm w) (hb : Below w.heap.size w w') : MkS bG bP T nm TA n tc lm w' :=
  ⟨h.t.next hb, h.len, own_next h.os hb, h.ob, fun s hs => (h.st s hs).touch (Touch.of_below (S := fun _ => False) hb) (fun _ _ hf => hf), h.sb⟩
theorem MkS.row (h : MkS bG bP T nm TA n tc lm w) {i : Nat} {s : Stp} (hs : lm[i]? = some s) : ∃ g, TA = some ⟨g, 0, none⟩ ∧ bG ≤ g ∧ g < bP ∧ g < w.heap.size ∧ w.cell? ⟨g, i * 9, none⟩ = some (.string s.name) ∧ w.frozen? ⟨g, i * 9, none⟩ = false ∧ w.cell? ⟨g, i * 9 + 8, none⟩ = some (.slice s.A s.after.length s.cap) := by
  have hi : i < lm.length := (List.getElem?_eq_some_iff.1 hs).1
  have ho := h.os
  obtain ⟨g, rfl⟩ := own_formR ho hi
  have hl := ho.lt g rfl
  have h0 := getElem?_flatMap enSt 9 enSt_len lm i s hs 0 (by omega)
  have h8 := getElem?_flatMap enSt 9 enSt_len lm i s hs 8 (by omega)
  refine ⟨g, rfl, hl.1, h.ob g rfl, hl.2, ?_, ho.frozenAt _, ?_⟩
  · rw [ho.cellAt (i * 9) (by omega)]; simpa [enSt] using h0
  · rw [ho.cellAt (i * 9 + 8) (by omega)]; simpa [enSt] using h8
theorem MkS.name (h : MkS bG bP T nm TA n tc lm w) {i g : Nat} {s : Stp} (hs : lm[i]? = some s) (hg : TA = some ⟨g, 0, none⟩) : MkS bG bP T nm TA n tc (lm.set i (mkd s)) (w.setCell ⟨g, i * 9, none⟩ (.string markB)) := by
  subst hg
  obtain ⟨h1, h2⟩ := own_field enSt_len h.os hs (j := 0) (by omega) (.string markB) (mkd s) rfl
  rw [Nat.add_zero] at h1 h2
  have hT := Touch.of_grown h2
  have hl : (lm.set i (mkd s)).length = lm.length := List.length_set ..
  refine ⟨hT.blk h.t (fun e => own_notBlk h.os h.t (by decide) (by rw [e]; rfl)), by rw [hl]; exact h.len, h1, h.ob, fun t ht => ?_, fun t ht => ?_⟩
  · rcases List.mem_or_eq_of_mem_set ht with ht | rfl
    · obtain ⟨xs, q1, q2⟩ := h.st t ht
      exact ⟨xs, q1, own_touch q2 hT (fun q hq e => own_other h.os q2 (by decide) hq (by rw [e]; rfl))⟩
    · obtain ⟨xs, q1, q2⟩ := h.st s (List.mem_of_getElem? hs)
      exact ⟨xs, q1, own_touch q2 hT (fun q hq e => own_other h.os q2 (by decide) hq (by rw [e]; rfl))⟩
  · rcases List.mem_or_eq_of_mem_set ht with ht | rfl
    · exact h.sb t ht
    · exact h.sb s (List.mem_of_getElem? hs)
theorem MkS.after (h : MkS bG bP T nm TA n tc lm w) {g o : Nat} {s : Stp} (hs : s ∈ lm) (hg : s.A = some ⟨g, 0, none⟩) : MkS bG bP T nm TA n tc lm (w.setCell ⟨g, o, none⟩ (.string markB)) := by
  have hT := Touch.setCell w g o (.string markB)
  obtain ⟨xs, q1, q2⟩ := h.st s hs
  rw [hg] at q2
  refine ⟨hT.blk h.t (fun e => own_notBlk q2 h.t (by decide) (by rw [e]; rfl)), h.len, own_touch h.os hT (fun q hq e => own_other q2 h.os (by decide) hq (by rw [e]; rfl)), h.ob, fun t ht => (h.st t ht).put g o markB, h.sb⟩
end

/-- A round's answers, while they are written over. -/
structure RoS (n0 n1 n2 : Nat) (w0 : World) (bG base : Nat) (nm : ByteArray) (P : Nat) (vS vB : Value) (Ls : List Stp) (Bs : List IRow) (base2 R : Nat) (SA : Option Addr) (sc : Nat) (Lr : List Stp) (vH : Value) (Hs : List IRow) (ask : Int) (V : Nat) (cs : Array Value) (As : Option Addr) (m c1 : Nat) (Ab : Option Addr) (nb c2 : Nat) (Ac : Option Addr) (nc c3 : Nat) (w : World) : Prop where
  c : PcS w0 bG base nm P vS vB Ls Bs base2 R SA sc Lr vH Hs true ask w
  pm : PcM n0 n1 n2 P vS vB Ls Bs R SA sc Lr vH Hs bG
  v : Blk w V 34 cs
  s : StrR n0 w As m c1
  sl : ∀ g, (Value.slice As m c1).ownBlock = some g → g < n1
  b : IntR n0 w Ab nb c2
  bl : ∀ g, (Value.slice Ab nb c2).ownBlock = some g → g < n1
  q : IntR n2 w Ac nc c3
section
variable {n0 n1 n2 : Nat} {w0 : World} {bG base : Nat} {nm : ByteArray} {P : Nat} {vS vB : Value} {Ls : List Stp} {Bs : List IRow} {base2 R : Nat} {SA : Option Addr} {sc : Nat} {Lr : List Stp} {vH : Value} {Hs : List IRow} {ask : Int} {V : Nat} {cs : Array Value} {As : Option Addr} {m c1 : Nat} {Ab : Option Addr} {nb c2 : Nat} {Ac : Option Addr} {nc c3 : Nat} {w w' : World}
theorem RoS.next (h : RoS n0 n1 n2 w0 bG base nm P vS vB Ls Bs base2 R SA sc Lr vH Hs ask V cs As m c1 Ab nb c2 Ac nc c3 w) (hb : Below w.heap.size w w') : RoS n0 n1 n2 w0 bG base nm P vS vB Ls Bs base2 R SA sc Lr vH Hs ask V cs As m c1 Ab nb c2 Ac nc c3 w' :=
  ⟨h.c.next hb, h.pm, h.v.next hb, h.s.touch (Touch.of_below (S := fun _ => False) hb) (fun _ _ hf => hf), h.sl, h.b.touch (Touch.of_below (S := fun _ => False) hb) (fun _ _ hf => hf), h.bl, h.q.touch (Touch.of_below (S := fun _ => False) hb) (fun _ _ hf => hf)⟩
theorem RoS.putS (h : RoS n0 n1 n2 w0 bG base nm P vS vB Ls Bs base2 R SA sc Lr vH Hs ask V cs As m c1 Ab nb c2 Ac nc c3 w) {g : Nat} (hg : As = some ⟨g, 0, none⟩) (o : Nat) : RoS n0 n1 n2 w0 bG base nm P vS vB Ls Bs base2 R SA sc Lr vH Hs ask V cs As m c1 Ab nb c2 Ac nc c3 (w.setCell ⟨g, o, none⟩ (.string markB)) := by
  have hT := Touch.setCell w g o (.string markB)
  obtain ⟨xs, x1, x2⟩ := h.s
  have hgo : (Value.slice As m c1).ownBlock = some g := by rw [hg]; rfl
  have h0 := (x2.lt g hgo).1
  have h1 := h.sl g hgo
  obtain ⟨bs, b1, b2⟩ := h.b
  obtain ⟨qs, q1, q2⟩ := h.q
  exact ⟨h.c.mark h.pm hT (fun k hk => by rw [hk]; exact .inl ⟨h0, h1⟩), h.pm, hT.blk h.v (fun e => own_notBlk x2 h.v (by decide) (by rw [e]; exact hgo)), h.s.put g o markB, h.sl, ⟨bs, b1, own_touch b2 hT (fun k hk e => own_other x2 b2 (by decide) hk (by rw [e]; exact hgo))⟩, h.bl, ⟨qs, q1, own_touch q2 hT (fun k hk e => own_other x2 q2 (by decide) hk (by rw [e]; exact hgo))⟩⟩
theorem RoS.putB (h : RoS n0 n1 n2 w0 bG base nm P vS vB Ls Bs base2 R SA sc Lr vH Hs ask V cs As m c1 Ab nb c2 Ac nc c3 w) {g : Nat} (hg : Ab = some ⟨g, 0, none⟩) (o : Nat) (z : Int) : RoS n0 n1 n2 w0 bG base nm P vS vB Ls Bs base2 R SA sc Lr vH Hs ask V cs As m c1 Ab nb c2 Ac nc c3 (w.setCell ⟨g, o, none⟩ (.int .i64 z)) := by
  have hT := Touch.setCell w g o (.int .i64 z)
  obtain ⟨bs, b1, b2⟩ := h.b
  have hgo : (Value.slice Ab nb c2).ownBlock = some g := by rw [hg]; rfl
  have h0 := (b2.lt g hgo).1
  have h1 := h.bl g hgo
  obtain ⟨xs, x1, x2⟩ := h.s
  obtain ⟨qs, q1, q2⟩ := h.q
  have hle := h.pm.le
  exact ⟨h.c.mark h.pm hT (fun k hk => by rw [hk]; exact .inl ⟨h0, h1⟩), h.pm, hT.blk h.v (fun e => own_notBlk b2 h.v (by decide) (by rw [e]; exact hgo)), ⟨xs, x1, own_touch x2 hT (fun k hk e => own_other b2 x2 (by decide) hk (by rw [e]; exact hgo))⟩, h.sl, h.b.put g o z, h.bl, ⟨qs, q1, own_touch q2 hT (fun k hk e => by have := (q2.lt k hk).1; omega)⟩⟩
theorem RoS.putC (h : RoS n0 n1 n2 w0 bG base nm P vS vB Ls Bs base2 R SA sc Lr vH Hs ask V cs As m c1 Ab nb c2 Ac nc c3 w) {g : Nat} (hg : Ac = some ⟨g, 0, none⟩) (o : Nat) (z : Int) : RoS n0 n1 n2 w0 bG base nm P vS vB Ls Bs base2 R SA sc Lr vH Hs ask V cs As m c1 Ab nb c2 Ac nc c3 (w.setCell ⟨g, o, none⟩ (.int .i64 z)) := by
  have hT := Touch.setCell w g o (.int .i64 z)
  obtain ⟨qs, q1, q2⟩ := h.q
  have hgo : (Value.slice Ac nc c3).ownBlock = some g := by rw [hg]; rfl
  have h0 := (q2.lt g hgo).1
  obtain ⟨xs, x1, x2⟩ := h.s
  obtain ⟨bs, b1, b2⟩ := h.b
  have hle := h.pm.le
  exact ⟨h.c.mark h.pm hT (fun k hk => by rw [hk]; exact .inr h0), h.pm, hT.blk h.v (fun e => own_notBlk q2 h.v (by decide) (by rw [e]; exact hgo)), ⟨xs, x1, own_touch x2 hT (fun k hk e => own_other q2 x2 (by decide) hk (by rw [e]; exact hgo))⟩, h.sl, ⟨bs, b1, own_touch b2 hT (fun k hk e => by have := h.bl k hk; omega)⟩, h.bl, h.q.put g o z⟩
end

set_option maxRecDepth 100000 in
set_option maxHeartbeats 64000000 in
theorem planCompiles_walk (nm : ByteArray) (l : List Stp) (A : Option Addr) (cp : Nat) (w : World) (hR : Rd w A (l.flatMap enSt)) (hok : ∀ s ∈ l, OkSt w s) :
    Calls Try.prog 7 #[.agg #[.string nm, .slice A l.length cp]] w (Law w) := by
  have HOK := hid hok
  have HR := hid hR
  clear hok hR
  have hB0 := Blk.new w 24 #[.string nm, .slice A l.length cp]
  have hwa : Below w.heap.size w (w.alloc (.cells #[.string nm, .slice A l.length cp] 24)) := (Below.refl _ _).alloc (Nat.le_refl _) _
  obtain ⟨W, hW⟩ : ∃ W, W = w.alloc (.cells #[.string nm, .slice A l.length cp] 24) := ⟨_, rfl⟩
  obtain ⟨G, hG⟩ : ∃ G, G = w.heap.size := ⟨_, rfl⟩
  rw [← hW] at hB0 hwa
  rw [← hG] at hB0
  have HWG := hid (And.intro hW hG)
  have HB0 := hid (And.intro hB0 hwa)
  have d0 : W.cell? ⟨G, 0, none⟩ = some (.string nm) := hB0.cell 0
  have d1 : W.cell? ⟨G, 1, none⟩ = some (.slice A l.length cp) := hB0.cell 1
  have lG := hB0.lt
  clear hB0 hwa hW hG
  go_enter Try.func7, Try.ntmps7
  go_upto_region 1 with fail
  rw [← HWG.out.1, ← HWG.out.2]
  by_cases h60 : (60 : Int) < l.length
  · go_wp2_with fail
    refine (wakes12 W).mono ?_
    rintro e w2 ⟨rfl, hb⟩
    have HF := hid (bthen HB0.out.2 hb)
    clear hb d0 d1
    go_wp2_with fail
    go_ret
    exact ⟨rfl, HF.out⟩
  have hl : l.length ≤ 60 := by omega
  have KF := hid (ref_any nm l A cp W (HR.out.below HB0.out.2) (fun s hs => (HOK.out s hs).next HB0.out.2) (by omega))
  go_wp2_with fail
  refine KF.out.mono ?_
  rintro e w1 ⟨S3, c3, lr, rfl, hTr, hro, hrs, hb1⟩
  have hr3 := Blk.new w1 47 #[.string nm, .slice S3 lr.length c3]
  have b2 : Below w1.heap.size w1 (w1.alloc (.cells #[.string nm, .slice S3 lr.length c3] 47)) := (Below.refl _ _).alloc (Nat.le_refl _) _
  obtain ⟨w2, e2⟩ : ∃ w2, w2 = w1.alloc (.cells #[.string nm, .slice S3 lr.length c3] 47) := ⟨_, rfl⟩
  obtain ⟨R3, g2⟩ : ∃ R3, R3 = w1.heap.size := ⟨_, rfl⟩
  rw [← e2] at hr3 b2
  rw [← g2] at hr3
  have hT0 := Blk.new w2 24 #[.string nm, .slice none 0 0]
  have b3 : Below w2.heap.size w2 (w2.alloc (.cells #[.string nm, .slice none 0 0] 24)) := (Below.refl _ _).alloc (Nat.le_refl _) _
  obtain ⟨w3, e3⟩ : ∃ w3, w3 = w2.alloc (.cells #[.string nm, .slice none 0 0] 24) := ⟨_, rfl⟩
  obtain ⟨T, g3⟩ : ∃ T, T = w2.heap.size := ⟨_, rfl⟩
  rw [← e3] at hT0 b3
  rw [← g3] at hT0
  have hG1 := HB0.out.1.next hb1
  have hS : GvS w W.heap.size w2.heap.size G T R3 nm A l.length cp S3 c3 lr none 0 [] w3 :=
    ⟨(hG1.next b2).next b3, hT0, (by have := (hG1.next b2).lt; omega), hr3.next b3, own_next (own_next hro b2) b3, fun s hs => own_next (own_next (hrs s hs) b2) b3, (fun s hs g hg => Nat.lt_of_lt_of_le ((hrs s hs).lt g hg).2 b2.size), World.ownsRow_nil _ _ _ _, (fun s hs => by cases hs), bthen (bthen (bthen HB0.out.2 hb1) b2) b3, ⟨Nat.le_trans HB0.out.2.size (Nat.le_trans hb1.size b2.size), by omega⟩⟩
  have HS := hid hS
  have HTR := hid hTr
  have HE := hid (And.intro e2 (And.intro g2 (And.intro e3 g3)))
  have HT0 := hid (show Twins (l.take 0) [] from ⟨by simp, fun k s h => by simp at h⟩)
  have c0 : w2.cell? ⟨G, 0, none⟩ = some (.string nm) := (hG1.next b2).cell 0
  have lG2 := (hG1.next b2).lt
  obtain ⟨bG, hbG⟩ : ∃ bG, bG = w2.heap.size := ⟨_, rfl⟩
  obtain ⟨bR, hbR⟩ : ∃ bR, bR = W.heap.size := ⟨_, rfl⟩
  rw [← hbG, ← hbR] at HS
  clear hr3 b2 e2 g2 hT0 b3 e3 g3 hG1 hS hro hrs hb1 hTr d0 d1 lG KF h60 hbG hbR
  obtain ⟨n, hn⟩ : ∃ n, n = l.length := ⟨_, rfl⟩
  have HN := hid hn
  rw [← hn] at HS hl
  go_upto_region 4 with fail
  rw [← HE.out.1, ← HE.out.2.1]
  go_upto_region 5 with fail
  rw [← HE.out.2.2.1, ← HE.out.2.2.2]
  rw [← hn]
  clear HE c0 lG2 hn
  have d1 : w3.cell? ⟨G, 1, none⟩ = some (.slice A n cp) := HS.out.d.cell 1
  have lG := HS.out.d.lt
  obtain ⟨i1, hi, hz0, hz1, hz2⟩ := info_parts info_str12
  obtain ⟨i2, hj, hy0, hy1, hy2⟩ := info_parts info_step12
  go_wp2_with fail
  go_loopw [33] (fun i wr => ∃ (k : Nat) (TA : Option Addr) (tc : Nat) (Tl : List Stp), k ≤ n ∧ i = .int .i64 k ∧ Hid (GvS w bR bG G T R3 nm A n cp S3 c3 lr TA tc Tl wr) ∧ Hid (Twins (l.take k) Tl)) (fun i _ => n - nOf i)
  case atStart => exact ⟨0, none, 0, [], Nat.zero_le _, rfl, HS, HT0⟩
  case round =>
    clear HS HT0 d1 lG
    obtain ⟨k, TA, tc, Tl, hk, rfl, HS, HT⟩ := hrel
    by_cases hlt : k < n
    · obtain ⟨s, hs⟩ : ∃ s, l[k]? = some s := ⟨l[k]'(by rw [← HN.out]; exact hlt), List.getElem?_eq_getElem _⟩
      obtain ⟨b, o, hAA, hbs, hcc⟩ := (HR.out.below HS.out.bel).at_ 9 enSt_len (by omega) hs
      have HTS := hid (fun (A' : Option Addr) (c' : Nat) => HT.out.snoc hs A' c')
      have HOS := hid ((HOK.out s (List.mem_of_getElem? hs)).next HS.out.bel)
      have hLk : Tl.length = k := by have := HT.out.len; rw [List.length_take, Nat.min_eq_left (by rw [← HN.out]; omega)] at this; exact this
      obtain ⟨xn, xv, xu, xe, xf, xr, xy, xw, xA, xc, xl⟩ := s
      have q0 : wr.cell? ⟨b, o + k * 9, none⟩ = some (.string xn) := hcc 0 _ rfl
      have q1 : wr.cell? ⟨b, o + k * 9 + 1, none⟩ = some (.string xv) := hcc 1 _ rfl
      have q2 : wr.cell? ⟨b, o + k * 9 + 2, none⟩ = some (.string xu) := hcc 2 _ rfl
      have q3 : wr.cell? ⟨b, o + k * 9 + 3, none⟩ = some (.string xe) := hcc 3 _ rfl
      have q4 : wr.cell? ⟨b, o + k * 9 + 4, none⟩ = some (.bool xf) := hcc 4 _ rfl
      have q5 : wr.cell? ⟨b, o + k * 9 + 5, none⟩ = some (.int .i64 xr) := hcc 5 _ rfl
      have q6 : wr.cell? ⟨b, o + k * 9 + 6, none⟩ = some (.int .i64 xy) := hcc 6 _ rfl
      have q7 : wr.cell? ⟨b, o + k * 9 + 7, none⟩ = some (.int .i64 xw) := hcc 7 _ rfl
      have q8 : wr.cell? ⟨b, o + k * 9 + 8, none⟩ = some (.slice xA xl.length xc) := hcc 8 _ rfl
      have hvb := Blk.new wr 34 #[.string xn, .string xv, .string xu, .string xe, .bool xf, .int .i64 xr, .int .i64 xy, .int .i64 xw, .slice xA xl.length xc]
      have hwa : Below wr.heap.size wr (wr.alloc (.cells #[.string xn, .string xv, .string xu, .string xe, .bool xf, .int .i64 xr, .int .i64 xy, .int .i64 xw, .slice xA xl.length xc] 34)) := (Below.refl _ _).alloc (Nat.le_refl _) _
      have hOS3 := HOS.out.next hwa
      have hOw := hid (And.intro HS.out.os.lt (Nat.le_refl wr.heap.size))
      obtain ⟨w4, hw4⟩ : ∃ w4, w4 = wr.alloc (.cells #[.string xn, .string xv, .string xu, .string xe, .bool xf, .int .i64 xr, .int .i64 xy, .int .i64 xw, .slice xA xl.length xc] 34) := ⟨_, rfl⟩
      obtain ⟨V, hV⟩ : ∃ V, V = wr.heap.size := ⟨_, rfl⟩
      rw [← hw4] at hvb hOS3 hwa
      rw [← hV] at hvb
      have HW4 := hid (And.intro hw4 hV)
      have HOS4 := hid hOS3
      have HVB := hid hvb
      have HWA := hid hwa
      have hlen := hOS3.len
      have hrow := hOS3.row
      simp only at hlen hrow
      have HLk := hid hLk
      clear hw4 hV hvb hOS3 hwa hcc hs HOS HT hLk
      subst hAA
      go_upto_region 8 with fail
      rw [← HW4.out.1, ← HW4.out.2]
      clear q0 q1 q2 q3 q4 q5 q6 q7 q8 hbs
      have v8 : w4.cell? ⟨V, 8, none⟩ = some (.slice xA xl.length xc) := HVB.out.cell 8
      have lV := HVB.out.lt
      go_upto_region 9 with (first
        | (at_builtin; refine wpList_append_any _ rfl _ _ 32 rfl 9 i1 _ 1 16 Try.underlying32 hi hz0 hz1 hz2 rfl (by decide) rfl xA xl.length xc (xl.flatMap enB) rfl (flat_enB_len xl) hrow (enB_one xl) (by unfold maxLen; omega) hlen ?_; intro v7 w7 hO7 hb7; obtain ⟨A7, cap7, hv7, _⟩ := own_slice hO7; subst hv7; have c8 := (HVB.out.next hb7).cell 8; have f8 := (HVB.out.next hb7).free 8; have l8 := (HVB.out.next hb7).lt))
      have hV8 : Blk (w7.setCell ⟨V, 8, none⟩ (.slice A7 xl.length cap7)) V 34 #[.string xn, .string xv, .string xu, .string xe, .bool xf, .int .i64 xr, .int .i64 xy, .int .i64 xw, .slice A7 xl.length cap7] := (HVB.out.next hb7).set_ 8 _
      have hTV := Touch.setCell w7 V 8 (.slice A7 xl.length cap7)
      have hb07 := bthen HWA.out hb7
      have hb8 : Below wr.heap.size wr (w7.setCell ⟨V, 8, none⟩ (.slice A7 xl.length cap7)) := hb07.trans (hTV.below hb07.size (fun k hk => by rw [hk, HW4.out.2]; exact Nat.le_refl _))
      have hO8 : OwnSt bG (w7.setCell ⟨V, 8, none⟩ (.slice A7 xl.length cap7)) (twn (⟨xn, xv, xu, xe, xf, xr, xy, xw, xA, xc, xl⟩ : Stp) A7 cap7) := own_base (own_touch hO7 hTV (fun g hg e => own_notBlk hO7 (HVB.out.next hb7) (by decide) (by rw [← e]; exact hg))) (by have := HS.out.lo.2; have := HS.out.t.lt; have := HWA.out.size; omega)
      obtain ⟨w8, hw8⟩ : ∃ w8, w8 = w7.setCell ⟨V, 8, none⟩ (.slice A7 xl.length cap7) := ⟨_, rfl⟩
      rw [← hw8] at hV8 hb8 hO8 ⊢
      have HV8 := hid hV8
      have HS8 := hid (HS.out.next hb8)
      have HO8 := hid hO8
      clear hw8 hV8 hTV hb07 hb8 hO8 hO7 hb7 c8 f8 l8 v8 lV hlen hrow HW4 HOS4 HVB HWA HS
      have v0 : w8.cell? ⟨V, 0, none⟩ = some (.string xn) := HV8.out.cell 0
      have v1 : w8.cell? ⟨V, 1, none⟩ = some (.string xv) := HV8.out.cell 1
      have v2 : w8.cell? ⟨V, 2, none⟩ = some (.string xu) := HV8.out.cell 2
      have v3 : w8.cell? ⟨V, 3, none⟩ = some (.string xe) := HV8.out.cell 3
      have v4 : w8.cell? ⟨V, 4, none⟩ = some (.bool xf) := HV8.out.cell 4
      have v5 : w8.cell? ⟨V, 5, none⟩ = some (.int .i64 xr) := HV8.out.cell 5
      have v6 : w8.cell? ⟨V, 6, none⟩ = some (.int .i64 xy) := HV8.out.cell 6
      have v7 : w8.cell? ⟨V, 7, none⟩ = some (.int .i64 xw) := HV8.out.cell 7
      have v8 : w8.cell? ⟨V, 8, none⟩ = some (.slice A7 xl.length cap7) := HV8.out.cell 8
      have lV := HV8.out.lt
      have t1 : w8.cell? ⟨T, 1, none⟩ = some (.slice TA k tc) := by have := HS8.out.t.cell 1; rw [HLk.out] at this; exact this
      have lT := HS8.out.t.lt
      have hbase : bG ≤ w8.heap.size := by have := HS8.out.lo.2; omega
      have HE8 := hid (Blk.new w8 34 #[.string xn, .string xv, .string xu, .string xe, .bool xf, .int .i64 xr, .int .i64 xy, .int .i64 xw, .slice A7 xl.length cap7])
      have HAL := hid (show Below w8.heap.size w8 (w8.alloc (.cells #[.string xn, .string xv, .string xu, .string xe, .bool xf, .int .i64 xr, .int .i64 xy, .int .i64 xw, .slice A7 xl.length cap7] 34)) from (Below.refl _ _).alloc (Nat.le_refl _) _)
      obtain ⟨w9, hw9⟩ : ∃ w9, w9 = w8.alloc (.cells #[.string xn, .string xv, .string xu, .string xe, .bool xf, .int .i64 xr, .int .i64 xy, .int .i64 xw, .slice A7 xl.length cap7] 34) := ⟨_, rfl⟩
      obtain ⟨g, hg⟩ : ∃ g, g = w8.heap.size := ⟨_, rfl⟩
      rw [← hw9] at HE8 HAL
      rw [← hg] at HE8
      have HW9 := hid (And.intro hw9 hg)
      have hS9 := HS8.out.next HAL.out
      have HS9 := hid hS9
      have hOS := hS9.os
      rw [HLk.out] at hOS
      have HOS9 := hid hOS
      have hOo := hS9.t
      rw [HLk.out] at hOo
      have HOo := hid hOo
      have HN5 := hid (show (∀ A2 c2, enSt (twn (⟨xn, xv, xu, xe, xf, xr, xy, xw, xA, xc, xl⟩ : Stp) A2 c2) = [.string xn, .string xv, .string xu, .string xe, .bool xf, .int .i64 xr, .int .i64 xy, .int .i64 xw, .slice A2 xl.length c2]) from fun _ _ => rfl)
      have hbase9 : bG ≤ w9.heap.size := Nat.le_trans hbase HAL.out.size
      clear hw9 hg hS9 hOS hOo
      go_wp2_with (first
        | (at_builtin; (try rw [← HW9.out.1]); (try rw [← HW9.out.2]); refine wpList_append_lies _ rfl _ _ _ rfl bG 34 i2 _ 9 120 Try.underlying22 hj hy0 hy1 hy2 rfl (by decide) (.slice TA k tc) k (Tl.flatMap enSt) rfl HOS9.out ⟨g, 0, none⟩ 1 1 [.string xn, .string xv, .string xu, .string xe, .bool xf, .int .i64 xr, .int .i64 xy, .int .i64 xw, .slice A7 xl.length cap7] rfl rfl (blk_news HE8.out) (by rw [← HN5.out]; exact enSt_one _) (by omega) (by unfold maxLen; omega) (by omega) hbase9 _ rfl ?_; intro g9 c9 wA hOA hgA hatA hlA; have hBA := HOo.out.grown hgA (fun e => own_notBlk HOS9.out HOo.out (by decide) e.symm); have o1 := hBA.cell 1; have o2 := hBA.free 1; have o3 := hBA.lt))
      have hfin := HS9.out.grew (g := g9) (cap := c9) (w' := wA) (by rw [HLk.out]; exact hgA) (twn (⟨xn, xv, xu, xe, xf, xr, xy, xw, xA, xc, xl⟩ : Stp) A7 cap7) (by rw [HLk.out, HN5.out]; exact hOA) (own_next HO8.out HAL.out)
      rw [HLk.out] at hfin
      go_roundw
      case rel => exact ⟨k + 1, _, _, _, by omega, by go_num, hid hfin, hid (HTS.out A7 cap7)⟩
      case measure => simp [nOf]; omega
    · have hk' : k = n := by omega
      have HTT := hid (show Twins l Tl from by have := HT.out; rw [hk', HN.out, List.take_length] at this; exact this)
      have hTl : Tl.length = n := by rw [HTT.out.len, ← HN.out]
      have hLr : lr.length = n := by rw [HTR.out.len, ← HN.out]
      have HLL := hid (And.intro hTl hLr)
      have HLEN := hid (show (∀ t ∈ Tl, t.after.length * 16 ≤ 140737488355328) ∧ ∀ t ∈ lr, t.after.length * 16 ≤ 140737488355328 from ⟨fun t ht => by obtain ⟨s, A, c, hs, rfl⟩ := HTT.out.mem ht; exact (HOK.out s hs).len, fun t ht => by obtain ⟨s, A, c, hs, rfl⟩ := HTR.out.mem ht; exact (HOK.out s hs).len⟩)
      have t0 : wr.cell? ⟨T, 0, none⟩ = some (.string nm) := HS.out.t.cell 0
      have t1 : wr.cell? ⟨T, 1, none⟩ = some (.slice TA n tc) := by have := HS.out.t.cell 1; rw [hTl] at this; exact this
      have lT := HS.out.t.lt
      have KC := hid (compile_any nm Tl TA tc wr (own_rd HS.out.os) (fun s hs => ⟨own_rd (HS.out.st s hs), HLEN.out.1 s hs⟩) (by rw [hTl]; omega))
      rw [hTl] at KC
      clear HT hTl hLr hk
      go_wp2_with fail
      clear hk' hlt
      refine KC.out.mono ?_
      rintro e w4 ⟨hb4, hc4⟩
      rw [check_twins HTT.out] at hc4
      have HC4 := hid hc4
      have hS4 := HS.out.next hb4
      have HS4 := hid hS4
      have HB4 := hid hb4
      have r0 : w4.cell? ⟨R3, 0, none⟩ = some (.string nm) := hS4.r3.cell 0
      have r1 : w4.cell? ⟨R3, 1, none⟩ = some (.slice S3 n c3) := by have := hS4.r3.cell 1; rw [HLL.out.2] at this; exact this
      have lR := hS4.r3.lt
      have KC2 := hid (rcompile_any nm lr S3 c3 w4 (own_rd hS4.ro) (fun s hs => ⟨own_rd (hS4.rs s hs), HLEN.out.2 s hs⟩) (by rw [HLL.out.2]; omega))
      rw [HLL.out.2] at KC2
      clear hS4 hb4 t0 t1 lT KC
      obtain ⟨hc, rfl⟩ | ⟨hc, P, vS, vB, Ls, Bs, rfl, hp, hg⟩ := hc4
      · have HCN := hid hc
        have tc0 : (checkN l != 0) = true := by simpa using hc
        clear hc
        go_wp2_with fail
        refine KC2.out.mono ?_
        rintro e w5 ⟨hb5, hc5⟩
        rw [check_twins HTR.out] at hc5
        obtain ⟨_, rfl⟩ | ⟨hc, _⟩ := hc5
        · have HF := hid (bthen HS4.out.bel hb5)
          clear hb5 KC2 r0 r1 lR HC4
          generalize checkN l = c at tc0 ⊢
          have tcc : (c != c) = false := by simp
          go_wp2_with fail
          refine (wakes12 w5).mono ?_
          rintro e w6 ⟨rfl, hb6⟩
          have HF := hid (bthen HF.out hb6)
          clear hb6
          go_wp2_with fail
          go_ret
          exact ⟨rfl, HF.out⟩
        · exact absurd hc HCN.out
      · have HCN := hid hc
        clear hc
        have HPB := hid (And.intro hp hg)
        clear hp hg
        go_wp2_with fail
        refine KC2.out.mono ?_
        rintro e w5 ⟨hb5, hc5⟩
        rw [check_twins HTR.out] at hc5
        obtain ⟨hc, _⟩ | ⟨hc, R, SA, sc, Lr, rfl, hrp, hord, hRle⟩ := hc5
        · exact absurd HCN.out hc
        · have hgl := HPB.out.2
          have hAs := (made_as (w0 := w) (by rw [check_twins HTT.out]; exact HCN.out) HPB.out.1 hgl (by rw [HLL.out.1]; omega) HLEN.out.1 HS4.out.bel HS.out.bel.size)
          have hTw : T < wr.heap.size := HS.out.t.lt
          have hGT := HS.out.lo.2
          have HRN := hid (show Ls.length = n from by rw [hAs.2, HLL.out.1])
          have hS5 := HS4.out.next hb5
          have hPC : PcS w bG wr.heap.size nm P vS vB Ls Bs w4.heap.size R SA sc Lr (.slice none 0 0) [] false 0 w5 :=
            ⟨HPB.out.1.plw.next hb5, (fun e => by cases e), (fun _ => rfl), hAs.1.rows, hAs.1.aft, hrp, (fun s hs b hb => by
              obtain ⟨i, _, hi⟩ := hord.mem (fun i hi => by have := (ordN_ok (grf lr) lr.length).lt i hi; rwa [grf_len] at this) hs
              cases hA : s.A with
              | none => rw [hA] at hb; cases hb
              | some a =>
                rw [hA] at hb
                simp only [Option.map_some, Option.some.injEq] at hb
                exact HS4.out.ra s (List.mem_of_getElem? hi) b (by rw [hA, ← hb]; rfl)), bthen HS4.out.bel hb5, HS.out.lo.1, by omega, ⟨by have := HB4.out.size; omega, hRle⟩⟩
          have hMK : MkS bG wr.heap.size T nm TA n tc Tl w5 :=
            ⟨by have := hS5.t; rw [HLL.out.1] at this; exact this, HLL.out.1, hS5.os, fun g hg => (HS.out.os.lt g (by rw [HLL.out.1]; exact hg)).2, fun s hs => ⟨s.after, rfl, hS5.st s hs⟩, fun s hs g hg => ((HS.out.st s hs).lt g hg).2⟩
          have HPC := hid (And.intro hPC hMK)
          have HORD := hid (show PlG Tl (ordN (grf l) l.length) Ls Bs ∧ OrdL lr (ordN (grf l) l.length) Lr from ⟨by rw [← grf_twins HTT.out, ← HTT.out.len]; exact hgl, by rw [← grf_twins HTR.out, ← HTR.out.len]; exact hord⟩)
          have HZ := hid (checkN_zero HCN.out)
          have HRL := hid (show Lr.length = n from by rw [HORD.out.2.len, ← HORD.out.1.ls]; exact HRN.out)
          have HLE := hid (And.intro (Nat.le_refl wr.heap.size) HB4.out.size)
          obtain ⟨bP, hbP⟩ : ∃ bP, bP = wr.heap.size := ⟨_, rfl⟩
          obtain ⟨b2, hb2⟩ : ∃ b2, b2 = w4.heap.size := ⟨_, rfl⟩
          rw [← hbP, ← hb2] at HPC HLE
          clear hgl hAs hTw hGT hS5 hPC hMK hord hrp hRle hbP hb2 hb5 KC2 r0 r1 lR HPB HC4 HS4 HB4 HS hc
          go_wp2_with fail
          refine (wakes12 w5).mono ?_
          rintro e w6 ⟨rfl, hb6⟩
          have HPC := hid (And.intro (HPC.out.1.next hb6) (HPC.out.2.next hb6))
          have t1 : w6.cell? ⟨T, 1, none⟩ = some (.slice TA n tc) := HPC.out.2.t.cell 1
          have lT := HPC.out.2.t.lt
          clear hb6
          go_wp2_with fail
          go_loopw [77] (fun i wq => ∃ (k : Nat) (lm : List Stp), k ≤ n ∧ i = .int .i64 k ∧ Hid (PcS w bG bP nm P vS vB Ls Bs b2 R SA sc Lr (.slice none 0 0) [] false 0 wq ∧ MkS bG bP T nm TA n tc lm wq)) (fun i _ => n - nOf i)
          case atStart => exact ⟨0, Tl, Nat.zero_le _, rfl, HPC⟩
          case round =>
            clear HPC t1 lT
            obtain ⟨k, lm, hk, rfl, HPC⟩ := hrel
            have t1 : wr.cell? ⟨T, 1, none⟩ = some (.slice TA n tc) := HPC.out.2.t.cell 1
            have lT := HPC.out.2.t.lt
            by_cases hlt : k < n
            · obtain ⟨s, hs⟩ : ∃ s, lm[k]? = some s := ⟨lm[k]'(by rw [HPC.out.2.len]; exact hlt), List.getElem?_eq_getElem _⟩
              obtain ⟨g, hTA, hg1, hg2, hgl, q0, f0, q8⟩ := HPC.out.2.row hs
              have HMN := hid (HPC.out.2.name hs hTA)
              have HSM := hid (show (lm.set k (mkd s))[k]? = some (mkd s) from by rw [List.getElem?_set]; simp [(List.getElem?_eq_some_iff.1 hs).1])
              have HPT := hid (HPC.out.1.touchG (bP := bP) ((Touch.setCell wr g (k * 9) (.string markB)).mono (fun q hq => by rw [hq]; exact ⟨hg1, hg2⟩)) (Nat.le_refl _) HLE.out.2)
              subst hTA
              obtain ⟨wm, hwm⟩ : ∃ wm, wm = wr.setCell ⟨g, k * 9, none⟩ (.string markB) := ⟨_, rfl⟩
              rw [← hwm] at HMN HPT
              have HWM := hid hwm
              clear hs q8 hwm
              go_upto_region 21 with fail
              rw [← HWM.out]
              have t1 : wm.cell? ⟨T, 1, none⟩ = some (.slice (some ⟨g, 0, none⟩) n tc) := HMN.out.t.cell 1
              have lT := HMN.out.t.lt
              obtain ⟨g', e, _, _, hgl2, _, _, q8⟩ := HMN.out.row HSM.out
              simp only [Option.some.injEq, Addr.mk.injEq, and_true] at e
              subst e
              obtain ⟨ms, hms⟩ : ∃ ms, ms = mkd s := ⟨_, rfl⟩
              rw [← hms] at q8 HSM HMN
              obtain ⟨lm2, hlm2⟩ : ∃ lm2, lm2 = lm.set k ms := ⟨_, rfl⟩
              rw [← hlm2] at HSM HMN
              have HPM := hid (And.intro HPT.out HMN.out)
              have hal : ms.after.length ≤ maxLen := by
                obtain ⟨xs, e1, e2⟩ := HMN.out.st ms (List.mem_of_getElem? HSM.out)
                exact own_max e2
              clear hms hlm2 HPT HMN HWM HPC q0 f0 hgl
              have HAL := hid hal
              unfold maxLen at hal
              go_wp2_with fail
              have HPM2 := HPM
              go_loopw [92] (fun i wq => ∃ j : Nat, j ≤ ms.after.length ∧ i = .int .i64 j ∧ Hid (PcS w bG bP nm P vS vB Ls Bs b2 R SA sc Lr (.slice none 0 0) [] false 0 wq ∧ MkS bG bP T nm (some ⟨g, 0, none⟩) n tc lm2 wq)) (fun i _ => ms.after.length - nOf i)
              case atStart => exact ⟨0, Nat.zero_le _, rfl, HPM2⟩
              case round =>
                clear HPM HPM2 t1 lT q8 hgl2
                obtain ⟨j, hj, rfl, HPM⟩ := hrel
                have t1 : wr.cell? ⟨T, 1, none⟩ = some (.slice (some ⟨g, 0, none⟩) n tc) := HPM.out.2.t.cell 1
                have lT := HPM.out.2.t.lt
                obtain ⟨g', e, _, _, hgl2, _, _, q8⟩ := HPM.out.2.row HSM.out
                simp only [Option.some.injEq, Addr.mk.injEq, and_true] at e
                subst e
                by_cases hjl : j < ms.after.length
                · have hmem := List.mem_of_getElem? HSM.out
                  obtain ⟨q, a, hA, hq1, hq2, c0, f0⟩ := (HPM.out.2.st ms hmem).at_ hjl
                  have hq3 := HPM.out.2.sb ms hmem q (by rw [hA]; rfl)
                  have HMA := hid (And.intro (HPM.out.1.touchG (bP := bP) ((Touch.setCell wr q j (.string markB)).mono (fun x hx => by rw [hx]; exact ⟨hq1, hq3⟩)) (Nat.le_refl _) HLE.out.2) (HPM.out.2.after (o := j) hmem hA))
                  generalize ms.A = mA at q8 hA
                  subst hA
                  clear hmem
                  go_wp2_with fail
                  go_roundw
                  case rel => exact ⟨j + 1, by omega, by go_num, HMA⟩
                  case measure => simp [nOf]; omega
                · go_wp2_with fail
                  go_roundw
                  case rel => exact ⟨k + 1, lm2, by omega, by go_num, HPM⟩
                  case measure => simp [nOf]; omega
            · have HPC2 := hid HPC.out.1
              clear HPC t1 lT
              obtain ⟨C, hCd⟩ : ∃ C : World → Prop, ∀ w', C w' ↔ Below wr.heap.size wr w' := ⟨_, fun _ => Iff.rfl⟩
              have hC : C wr.drew := (hCd _).2 (Below.refl _ _).drew
              have r0 : ∀ p : In C, p.w.cell? ⟨R, 0, none⟩ = some (.string nm) := fun p => (HPC2.out.next ((hCd _).1 p.h)).r.p.cell 0
              have r1 : ∀ p : In C, p.w.cell? ⟨R, 1, none⟩ = some (.slice SA n sc) := fun p => by have := (HPC2.out.next ((hCd _).1 p.h)).r.p.cell 1; rw [HRL.out] at this; exact this
              have lR : ∀ p : In C, R < p.w.heap.size := fun p => (HPC2.out.next ((hCd _).1 p.h)).r.p.lt
              have O1 : Hid (∀ p : In C, Calls Try.prog 22 #[.pointer (some ⟨P, 0, none⟩)] p.w fun e w' => e = .returned (.string nm) ∧ C w') := hid (fun p => (HPC2.out.next ((hCd _).1 p.h)).as.name.mono fun _ _ ⟨e1, e2⟩ => ⟨e1, by rw [e2]; exact p.h⟩)
              have O2 : Hid (∀ p : In C, Calls Try.prog 11 #[.pointer (some ⟨P, 0, none⟩)] p.w fun e w' => e = .returned (.int .i64 (n : Int)) ∧ C w') := hid (fun p => by
                have h1 := (HPC2.out.next ((hCd _).1 p.h)).as.len
                rw [HRN.out] at h1
                exact h1.mono fun _ _ ⟨e1, e2⟩ => ⟨e1, by rw [e2]; exact p.h⟩)
              have tn : (nm.toList == nm.toList) = true := by simp
              have ti : ((n : Int) != (n : Int)) = false := by simp
              have HCd := hid hCd
              clear hCd
              go_upto_region 27 with fail
              refine wp_region_in C (by kernel_rfl) (by kernel_rfl) hC ?_
              intro hne
              clear hC
              repeat (first | go_big_quiet_step ((first | (go_at_call 22; exact Calls.in_of (O1.out _)) | (go_at_call 11; exact Calls.in_of (O2.out _)))) | quiet_step ((first | (go_at_call 22; exact Calls.in_of (O1.out _)) | (go_at_call 11; exact Calls.in_of (O2.out _)))))
              refine wpQuiet_nil ?_
              intro wz hz
              have HPC := hid (HPC2.out.next ((HCd.out _).1 hz))
              clear r0 r1 lR O1 O2 tn ti hne hz HCd HPC2
              have r1 : wz.cell? ⟨R, 1, none⟩ = some (.slice SA n sc) := by have := HPC.out.r.p.cell 1; rw [HRL.out] at this; exact this
              have lR := HPC.out.r.p.lt
              go_wp2_with fail
              clear r1 lR
              go_loopw [127] (fun i wq => ∃ (k : Nat) (vH : Value) (Hs : List IRow) (dn : Bool), k ≤ n ∧ i = .int .i64 k ∧ Hid (PcS w bG bP nm P vS vB Ls Bs b2 R SA sc Lr vH Hs dn (2 * (k : Int)) wq)) (fun i _ => n - nOf i)
              case atStart => exact ⟨0, _, _, _, Nat.zero_le _, rfl, HPC⟩
              case round =>
                clear HPC
                obtain ⟨k, vH, Hs, dn, hk, rfl, HPC⟩ := hrel
                by_cases hlt : k < n
                · obtain ⟨s, A1, c1, A2, c2, hsl, hs1, hs2, _⟩ := two_steps HORD.out.1 HORD.out.2 HTT.out HTR.out (i := k) (by rw [HRN.out]; exact hlt)
                  have hbe := same_before HZ.out.1 (ordN_ok _ _) HORD.out.1 HORD.out.2 HTT.out HTR.out (i := k) (by rw [HRN.out]; exact hlt) hs2
                  have hbh := same_behind HZ.out.1 (ordN_ok _ _) HPC.out.rows HORD.out.1 HORD.out.2 HTT.out HTR.out (i := k) (by rw [HRN.out]; exact hlt) hs2
                  have HST := hid (And.intro hs1 (And.intro hs2 (HOK.out s hsl).len))
                  have HBE := hid (And.intro hbe hbh)
                  clear hsl hs1 hs2 hbe hbh
                  go_wp2_with fail
                  have HPD := HPC
                  go_loopw [130] (fun i wq => ∃ (t : Nat) (vH : Value) (Hs : List IRow) (dn : Bool), t ≤ 2 ∧ i = .int .i64 t ∧ Hid (PcS w bG bP nm P vS vB Ls Bs b2 R SA sc Lr vH Hs dn (2 * (k : Int) + (t : Int)) wq)) (fun i _ => 2 - nOf i)
                  case atStart => exact ⟨0, _, _, _, by omega, rfl, hid (by have := HPD.out; simpa using this)⟩
                  case round =>
                    clear HPD HPC
                    obtain ⟨t, vH, Hs, dn, ht, rfl, HPC⟩ := hrel
                    by_cases ht2 : t < 2
                    · have tt : (t : Int) < 2 := by omega
                      obtain ⟨xn, xv, xu, xe, xf, xr, xy, xw, xA, xc, xl⟩ := s
                      have hlen := HST.out.2.2
                      simp only at hlen
                      have KS : Hid (Calls Try.prog 12 #[.pointer (some ⟨P, 0, none⟩), .int .i64 (k : Int)] wr fun e w' => ∃ A7 c7, e = .returned (.agg #[.string xn, .string xv, .string xu, .string xe, .bool xf, .int .i64 xr, .int .i64 xy, .int .i64 xw, .slice A7 xl.length c7]) ∧ OwnSt wr.heap.size w' (twn (⟨xn, xv, xu, xe, xf, xr, xy, xw, xA, xc, xl⟩ : Stp) A7 c7) ∧ Below wr.heap.size wr w') := hid ((HPC.out.as.step (k : Int)).mono (fun e w' ⟨A7, c7, he, hO, hb⟩ => ⟨A7, c7, by rw [he, HST.out.1]; rfl, by rw [HST.out.1] at hO; exact hO, hb⟩))
                      obtain ⟨xb, hxb⟩ : ∃ xb, xb = pickL (fun t => waitB (twn (⟨xn, xv, xu, xe, xf, xr, xy, xw, xA, xc, xl⟩ : Stp) A2 c2) t) Lr Lr.length := ⟨_, rfl⟩
                      obtain ⟨xh, hxh⟩ : ∃ xh, xh = pickL (fun t => waitB t (twn (⟨xn, xv, xu, xe, xf, xr, xy, xw, xA, xc, xl⟩ : Stp) A2 c2)) Lr Lr.length := ⟨_, rfl⟩
                      have hpl1 := pickL_len (fun t => waitB (twn (⟨xn, xv, xu, xe, xf, xr, xy, xw, xA, xc, xl⟩ : Stp) A2 c2) t) Lr Lr.length
                      have hpl2 := pickL_len (fun t => waitB t (twn (⟨xn, xv, xu, xe, xf, xr, xy, xw, xA, xc, xl⟩ : Stp) A2 c2)) Lr Lr.length
                      rw [← hxb] at HBE hpl1
                      rw [← hxh] at HBE hpl2
                      have HXX := hid (And.intro hxb hxh)
                      clear hxb hxh
                      have HN0 := hid (show (∀ g, PlU P vS vB vH Ls Bs Hs dn g → g < wr.heap.size) ∧ R < wr.heap.size ∧ (∀ g, (Value.slice SA Lr.length sc).ownBlock = some g → g < wr.heap.size) ∧ bG ≤ wr.heap.size from ⟨fun g hg => (HPC.out.p.use hg).2, HPC.out.r.p.lt, fun g hg => (HPC.out.r.os.lt g hg).2, by have := HPC.out.lp; have := HPC.out.p.lo; have := HPC.out.p.p.lt; omega⟩)
                      go_wp2_with fail
                      refine KS.out.mono ?_
                      rintro e wb ⟨A7, c7, rfl, hO7, hbb⟩
                      have HO7 := hid hO7
                      have HPb := hid (HPC.out.next hbb)
                      have HBb := hid hbb
                      have KB := hid (HPb.out.as.before (k : Int))
                      rw [HBE.out.1] at KB
                      clear hO7 hbb KS
                      go_wp2_with fail
                      refine KB.out.mono ?_
                      rintro e wc ⟨Ab, cb, rfl, hOb, hbc⟩
                      have HPc := hid (HPb.out.next hbc)
                      have HOb := hid (And.intro hOb (own_next HO7.out hbc))
                      have HBc := hid (And.intro hbc (bthen HBb.out hbc))
                      have KH := hid (HPc.out.behind (k : Int) ⟨by omega, by omega⟩ wr.heap.size HN0.out.1 HN0.out.2.1 HN0.out.2.2.1 HN0.out.2.2.2 HBc.out.2.size)
                      rw [HBE.out.2] at KH
                      clear hOb hbc KB HPb
                      go_wp2_with fail
                      refine KH.out.mono ?_
                      rintro e wd ⟨n2, Ac, cc, vH', Hs', rfl, hOc, hPd, hPm, hTd⟩
                      have hVb := Blk.new wd 34 #[.string xn, .string xv, .string xu, .string xe, .bool xf, .int .i64 xr, .int .i64 xy, .int .i64 xw, .slice A7 xl.length c7]
                      have hVw : Below wd.heap.size wd (wd.alloc (.cells #[.string xn, .string xv, .string xu, .string xe, .bool xf, .int .i64 xr, .int .i64 xy, .int .i64 xw, .slice A7 xl.length c7] 34)) := (Below.refl _ _).alloc (Nat.le_refl _) _
                      obtain ⟨wV, hwV⟩ : ∃ wV, wV = wd.alloc (.cells #[.string xn, .string xv, .string xu, .string xe, .bool xf, .int .i64 xr, .int .i64 xy, .int .i64 xw, .slice A7 xl.length c7] 34) := ⟨_, rfl⟩
                      obtain ⟨V, hV⟩ : ∃ V, V = wd.heap.size := ⟨_, rfl⟩
                      rw [← hwV] at hVb hVw
                      rw [← hV] at hVb
                      have HWV := hid (And.intro hwV hV)
                      have hpP := HPc.out.p.p
                      have hsd := own_touch HOb.out.2 hTd (fun g hg e => own_notBlk HOb.out.2 hpP (by decide) (by rw [← e]; exact hg))
                      have hbd := own_touch HOb.out.1 hTd (fun g hg e => own_notBlk HOb.out.1 hpP (by decide) (by rw [← e]; exact hg))
                      have hRo : RoS wr.heap.size wc.heap.size n2 w bG bP nm P vS vB Ls Bs b2 R SA sc Lr vH' Hs' (2 * (k : Int) + (t : Int) + 1) V #[.string xn, .string xv, .string xu, .string xe, .bool xf, .int .i64 xr, .int .i64 xy, .int .i64 xw, .slice A7 xl.length c7] A7 xl.length c7 Ab xb.length cb Ac xh.length cc wV :=
                        ⟨hPd.next hVw, hPm, hVb, ⟨xl, rfl, own_next hsd hVw⟩, fun g hg => Nat.lt_of_lt_of_le (HO7.out.lt g hg).2 HBc.out.1.size, ⟨_, rfl, own_base (own_next hbd hVw) HBb.out.size⟩, fun g hg => (HOb.out.1.lt g hg).2, ⟨_, rfl, own_next hOc hVw⟩⟩
                      have HRo := hid hRo
                      have HRD := hid (show Rd wV A7 (xl.flatMap enB) ∧ Rd wV Ab (xb.flatMap en1) ∧ Rd wV Ac (xh.flatMap en1) from ⟨own_rd (own_next hsd hVw), own_rd (own_next hbd hVw), own_rd (own_next hOc hVw)⟩)
                      have hRt := hRo.c.r
                      obtain ⟨gr, gq, hSA, _, _⟩ := (own_rd hRt.os).at_ 9 enSt_len (by omega) HST.out.2.1
                      have HCELL := hid (show ∀ w', Below wV.heap.size wV w' → (w'.cell? ⟨V, 0, none⟩ = some (.string xn) ∧ w'.cell? ⟨V, 1, none⟩ = some (.string xv) ∧ w'.cell? ⟨V, 2, none⟩ = some (.string xu) ∧ w'.cell? ⟨V, 3, none⟩ = some (.string xe) ∧ w'.cell? ⟨V, 4, none⟩ = some (.bool xf) ∧ w'.cell? ⟨V, 5, none⟩ = some (.int .i64 xr) ∧ w'.cell? ⟨V, 6, none⟩ = some (.int .i64 xy) ∧ w'.cell? ⟨V, 7, none⟩ = some (.int .i64 xw) ∧ w'.cell? ⟨V, 8, none⟩ = some (.slice A7 xl.length c7) ∧ w'.cell? ⟨R, 1, none⟩ = some (.slice (some ⟨gr, gq, none⟩) n sc) ∧ w'.cell? ⟨gr, gq + k * 9, none⟩ = some (.string xn) ∧ w'.cell? ⟨gr, gq + k * 9 + 1, none⟩ = some (.string xv) ∧ w'.cell? ⟨gr, gq + k * 9 + 2, none⟩ = some (.string xu) ∧ w'.cell? ⟨gr, gq + k * 9 + 3, none⟩ = some (.string xe) ∧ w'.cell? ⟨gr, gq + k * 9 + 4, none⟩ = some (.bool xf) ∧ w'.cell? ⟨gr, gq + k * 9 + 5, none⟩ = some (.int .i64 xr) ∧ w'.cell? ⟨gr, gq + k * 9 + 6, none⟩ = some (.int .i64 xy) ∧ w'.cell? ⟨gr, gq + k * 9 + 7, none⟩ = some (.int .i64 xw) ∧ w'.cell? ⟨gr, gq + k * 9 + 8, none⟩ = some (.slice A2 xl.length c2)) from fun w' hb => by
                        have hv := (hVb.next hb)
                        have hr := (hRt.next hb)
                        obtain ⟨gr', gq', e, _, hc⟩ := (own_rd hr.os).at_ 9 enSt_len (by omega) HST.out.2.1
                        rw [hSA] at e
                        simp only [Option.some.injEq, Addr.mk.injEq, and_true] at e
                        obtain ⟨rfl, rfl⟩ := e
                        have h1 := hr.p.cell 1
                        rw [HRL.out, hSA] at h1
                        exact ⟨hv.cell 0, hv.cell 1, hv.cell 2, hv.cell 3, hv.cell 4, hv.cell 5, hv.cell 6, hv.cell 7, hv.cell 8, h1, hc 0 _ rfl, hc 1 _ rfl, hc 2 _ rfl, hc 3 _ rfl, hc 4 _ rfl, hc 5 _ rfl, hc 6 _ rfl, hc 7 _ rfl, hc 8 _ rfl⟩)
                      have K1 : Hid (∀ w', Below wV.heap.size wV w' → Calls Try.prog 16 #[.agg #[.string xn, .string xv, .string xu, .string xe, .bool xf, .int .i64 xr, .int .i64 xy, .int .i64 xw, .slice A7 xl.length c7]] w' fun e w'' => ∃ A8 c8, e = .returned (.agg #[.string xn, .string xv, .string xu, .string xe, .bool xf, .int .i64 xr, .int .i64 xy, .int .i64 xw, .slice A8 xl.length c8]) ∧ Rd w'' A8 (xl.flatMap enB) ∧ Below w'.heap.size w' w'') := hid (fun w' hb => rstep_any (twn (⟨xn, xv, xu, xe, xf, xr, xy, xw, xA, xc, xl⟩ : Stp) A7 c7) w' ⟨HRD.out.1.below hb, hlen⟩)
                      have K2 : Hid (∀ w', Below wV.heap.size wV w' → ∀ (A8 : Option Addr) (c8 : Nat), Rd w' A8 (xl.flatMap enB) → Calls Try.prog 15 #[.agg #[.string xn, .string xv, .string xu, .string xe, .bool xf, .int .i64 xr, .int .i64 xy, .int .i64 xw, .slice A8 xl.length c8], .agg #[.string xn, .string xv, .string xu, .string xe, .bool xf, .int .i64 xr, .int .i64 xy, .int .i64 xw, .slice A2 xl.length c2]] w' fun e w'' => e = .returned (.bool true) ∧ Below w'.heap.size w' w'') := hid (fun w' hb A8 c8 hR8 => steps_same (⟨xn, xv, xu, xe, xf, xr, xy, xw, xA, xc, xl⟩ : Stp) A8 A2 c8 c2 w' hR8 ((hRt.next hb).ok _ (List.mem_of_getElem? HST.out.2.1)).row (by show xl.length ≤ _; omega))
                      have K3 : Hid (∀ w', Below wV.heap.size wV w' → Calls Try.prog 23 #[.pointer (some ⟨R, 0, none⟩), .int .i64 (k : Int)] w' (NewRowOf en1 3 1 xb w')) := hid (fun w' hb => by rw [HXX.out.1]; exact rbefore_any (hRt.next hb) HST.out.2.1)
                      have K5 : Hid (∀ w', Below wV.heap.size wV w' → Calls Try.prog 24 #[.pointer (some ⟨R, 0, none⟩), .int .i64 (k : Int)] w' (NewRowOf en1 3 1 xh w')) := hid (fun w' hb => by rw [HXX.out.2]; exact rbehind_any (hRt.next hb) HST.out.2.1)
                      have hrn := hRt.n
                      have hx4 : xb.length ≤ 140737488355328 := Nat.le_trans hpl1 (Nat.le_trans hrn (by decide))
                      have hx6 : xh.length ≤ 140737488355328 := Nat.le_trans hpl2 (Nat.le_trans hrn (by decide))
                      have K4 : Hid (∀ w', Below wV.heap.size wV w' → ∀ (A9 : Option Addr) (c9 : Nat), Rd w' A9 (xb.flatMap en1) → Calls Try.prog 17 #[.slice Ab xb.length cb, .slice A9 xb.length c9] w' fun e w'' => e = .returned (.bool true) ∧ Below w'.heap.size w' w'') := hid (fun w' hb A9 c9 hR9 => ints_same xb Ab A9 cb c9 w' (HRD.out.2.1.below hb) hR9 hx4)
                      have K6 : Hid (∀ w', Below wV.heap.size wV w' → ∀ (A9 : Option Addr) (c9 : Nat), Rd w' A9 (xh.flatMap en1) → Calls Try.prog 17 #[.slice Ac xh.length cc, .slice A9 xh.length c9] w' fun e w'' => e = .returned (.bool true) ∧ Below w'.heap.size w' w'') := hid (fun w' hb A9 c9 hR9 => ints_same xh Ac A9 cc c9 w' (HRD.out.2.2.below hb) hR9 hx6)
                      clear hx4 hx6 hpl1 hpl2
                      have lV := hVb.lt
                      have lR := hRt.p.lt
                      clear hVb hVw hwV hV hpP hsd hbd hRo hRt hOc hPd hPm hTd KH hSA HN0
                      go_upto_region 35 with fail
                      rw [← HWV.out.1, ← HWV.out.2]
                      have cW := HCELL.out wV.drew (Below.refl _ _).drew
                      have HA0 := hid (show Below wV.heap.size wV wV.drew from (Below.refl _ _).drew)
                      clear HPC HPc HO7 HOb HBb HBc HBE HST hlen hrn
                      go_region_held3 (fun w' => w'.cell? ⟨V, 0, none⟩ = some (.string xn) ∧ w'.cell? ⟨V, 1, none⟩ = some (.string xv) ∧ w'.cell? ⟨V, 2, none⟩ = some (.string xu) ∧ w'.cell? ⟨V, 3, none⟩ = some (.string xe) ∧ w'.cell? ⟨V, 4, none⟩ = some (.bool xf) ∧ w'.cell? ⟨V, 5, none⟩ = some (.int .i64 xr) ∧ w'.cell? ⟨V, 6, none⟩ = some (.int .i64 xy) ∧ w'.cell? ⟨V, 7, none⟩ = some (.int .i64 xw) ∧ w'.cell? ⟨V, 8, none⟩ = some (.slice A7 xl.length c7) ∧ w'.cell? ⟨R, 1, none⟩ = some (.slice (some ⟨gr, gq, none⟩) n sc) ∧ w'.cell? ⟨gr, gq + k * 9, none⟩ = some (.string xn) ∧ w'.cell? ⟨gr, gq + k * 9 + 1, none⟩ = some (.string xv) ∧ w'.cell? ⟨gr, gq + k * 9 + 2, none⟩ = some (.string xu) ∧ w'.cell? ⟨gr, gq + k * 9 + 3, none⟩ = some (.string xe) ∧ w'.cell? ⟨gr, gq + k * 9 + 4, none⟩ = some (.bool xf) ∧ w'.cell? ⟨gr, gq + k * 9 + 5, none⟩ = some (.int .i64 xr) ∧ w'.cell? ⟨gr, gq + k * 9 + 6, none⟩ = some (.int .i64 xy) ∧ w'.cell? ⟨gr, gq + k * 9 + 7, none⟩ = some (.int .i64 xw) ∧ w'.cell? ⟨gr, gq + k * 9 + 8, none⟩ = some (.slice A2 xl.length c2)) (first | exact c16 | exact c15 | exact c14 | exact c13 | exact c12 | exact c11 | exact cW)
                        (first
                          | (go_at_call 16; refine (K1.out _ HA0.out).mono ?_; rintro e w11 ⟨A8, c8, rfl, hR8, hb11⟩; (have hx11 := bthen HA0.out hb11); (have c11 := HCELL.out w11 hx11); clear K1)
                          | (go_at_call 15; refine (K2.out _ hx11 A8 c8 hR8).mono ?_; rintro e w12 ⟨rfl, hb12⟩; (have hx12 := bthen hx11 hb12); (have c12 := HCELL.out w12 hx12); clear K2)
                          | (go_at_call 23; refine (K3.out _ hx12).mono ?_; rintro e w13 ⟨A9, c9, rfl, hO9, hb13⟩; (have hx13 := bthen hx12 hb13); (have c13 := HCELL.out w13 hx13); clear K3)
                          | (go_at_call 17; refine (K4.out _ hx13 A9 c9 (own_rd hO9)).mono ?_; rintro e w14 ⟨rfl, hb14⟩; (have hx14 := bthen hx13 hb14); (have c14 := HCELL.out w14 hx14); clear K4)
                          | (go_at_call 24; refine (K5.out _ hx14).mono ?_; rintro e w15 ⟨B9, d9, rfl, hQ9, hb15⟩; (have hx15 := bthen hx14 hb15); (have c15 := HCELL.out w15 hx15); clear K5)
                          | (go_at_call 17; refine (K6.out _ hx15 B9 d9 (own_rd hQ9)).mono ?_; rintro e w16 ⟨rfl, hb16⟩; (have hx16 := bthen hx15 hb16); (have c16 := HCELL.out w16 hx16); clear K6))
                      all_goals
                        obtain ⟨KR, hKR⟩ : ∃ KR : World → Prop, ∀ w', KR w' ↔ (RoS wr.heap.size wc.heap.size n2 w bG bP nm P vS vB Ls Bs b2 R SA sc Lr vH' Hs' (2 * (k : Int) + (t : Int) + 1) V #[.string xn, .string xv, .string xu, .string xe, .bool xf, .int .i64 xr, .int .i64 xy, .int .i64 xw, .slice A7 xl.length c7] A7 xl.length c7 Ab xb.length cb Ac xh.length cc w') := ⟨_, fun _ => Iff.rfl⟩
                        have HK0 := hid ((hKR _).2 (HRo.out.next hx16))
                        have KV := hid (fun w' (h : KR w') => And.intro (((hKR _).1 h).v.cell 8) ((hKR _).1 h).v.lt)
                        have KA := hid (fun w' (h : KR w') (j : Nat) (hj : j < xl.length) => show ∃ g a, A7 = some ⟨g, 0, none⟩ ∧ g < w'.heap.size ∧ w'.cell? ⟨g, j, none⟩ = some (.string a) ∧ w'.frozen? ⟨g, j, none⟩ = false ∧ KR (w'.setCell ⟨g, j, none⟩ (.string markB)) from by
                          have h1 := (hKR _).1 h
                          obtain ⟨g, a, q1, q2, q3, q4, q5⟩ := h1.s.at_ hj
                          exact ⟨g, a, q1, q3, q4, q5, (hKR _).2 (h1.putS q1 j)⟩)
                        have KB := hid (fun w' (h : KR w') (j : Nat) (hj : j < xb.length) => show ∃ g a, Ab = some ⟨g, 0, none⟩ ∧ g < w'.heap.size ∧ w'.cell? ⟨g, j, none⟩ = some (.int .i64 a) ∧ w'.frozen? ⟨g, j, none⟩ = false ∧ KR (w'.setCell ⟨g, j, none⟩ (.int .i64 (-1))) from by
                          have h1 := (hKR _).1 h
                          obtain ⟨g, a, q1, q2, q3, q4, q5⟩ := h1.b.at_ hj
                          exact ⟨g, a, q1, q3, q4, q5, (hKR _).2 (h1.putB q1 j (-1))⟩)
                        have KC := hid (fun w' (h : KR w') (j : Nat) (hj : j < xh.length) => show ∃ g a, Ac = some ⟨g, 0, none⟩ ∧ g < w'.heap.size ∧ w'.cell? ⟨g, j, none⟩ = some (.int .i64 a) ∧ w'.frozen? ⟨g, j, none⟩ = false ∧ KR (w'.setCell ⟨g, j, none⟩ (.int .i64 (-1))) from by
                          have h1 := (hKR _).1 h
                          obtain ⟨g, a, q1, q2, q3, q4, q5⟩ := h1.q.at_ hj
                          exact ⟨g, a, q1, q3, q4, q5, (hKR _).2 (h1.putC q1 j (-1))⟩)
                        have KF := hid (fun w' (h : KR w') => ((hKR _).1 h).c)
                        have hmx : xl.length ≤ maxLen ∧ xb.length ≤ maxLen ∧ xh.length ≤ maxLen := by
                          have h1 := (hKR _).1 HK0.out
                          obtain ⟨_, _, q1⟩ := h1.s
                          obtain ⟨_, _, q2⟩ := h1.b
                          obtain ⟨_, _, q3⟩ := h1.q
                          exact ⟨own_max q1, own_max q2, own_max q3⟩
                        obtain ⟨hm1, hm2, hm3⟩ := hmx
                        unfold maxLen at hm1 hm2 hm3
                        clear hKR HRo HRD HCELL hR8 hb11 hx11 c11 hb12 hx12 c12 hO9 hb13 hx13 c13 hb14 hx14 c14 hQ9 hb15 hx15 c15 hb16 hx16 c16 cW HA0 lV lR
                        obtain ⟨v8, lV⟩ := KV.out _ HK0.out
                        have v8 : w16.cell? ⟨V, 8, none⟩ = some (.slice A7 xl.length c7) := v8
                        go_wp2_with fail
                        go_loopw [171] (fun i wq => ∃ j : Nat, j ≤ xl.length ∧ i = .int .i64 j ∧ Hid (KR wq)) (fun i _ => xl.length - nOf i)
                        case atStart => exact ⟨0, Nat.zero_le _, rfl, HK0⟩
                        case round =>
                          clear HK0 v8 lV
                          obtain ⟨j, hj, rfl, HK⟩ := hrel
                          by_cases hjl : j < xl.length
                          · obtain ⟨v8, lV⟩ := KV.out _ HK.out
                            have v8 : wr.cell? ⟨V, 8, none⟩ = some (.slice A7 xl.length c7) := v8
                            obtain ⟨g, a, hA, hgl, c0, f0, hk2⟩ := KA.out _ HK.out j hjl
                            have HK2 := hid hk2
                            clear hk2
                            have KA2 := KA
                            subst hA
                            go_wp2_with fail
                            go_roundw
                            case rel => exact ⟨j + 1, by omega, by go_num, HK2⟩
                            case measure => simp [nOf]; omega
                          · obtain ⟨wq, hwq⟩ : ∃ wq, wq = wr := ⟨_, rfl⟩
                            rw [← hwq] at HK ⊢
                            clear hwq KA
                            have HKb := HK
                            go_wp2_with fail
                            clear hj hjl HK
                            go_loopw [181] (fun i wq => ∃ j : Nat, j ≤ xb.length ∧ i = .int .i64 j ∧ Hid (KR wq)) (fun i _ => xb.length - nOf i)
                            case atStart => exact ⟨0, Nat.zero_le _, rfl, HKb⟩
                            case round =>
                              clear HKb
                              obtain ⟨j, hj, rfl, HK⟩ := hrel
                              by_cases hjl : j < xb.length
                              · obtain ⟨g, a, hA, hgl, c0, f0, hk2⟩ := KB.out _ HK.out j hjl
                                have HK2 := hid hk2
                                clear hk2
                                subst hA
                                go_wp2_with fail
                                go_roundw
                                case rel => exact ⟨j + 1, by omega, by go_num, HK2⟩
                                case measure => simp [nOf]; omega
                              · obtain ⟨wq, hwq⟩ : ∃ wq, wq = wr := ⟨_, rfl⟩
                                rw [← hwq] at HK ⊢
                                clear hwq KB
                                have HKc := HK
                                go_wp2_with fail
                                clear hj hjl HK
                                go_loopw [190] (fun i wq => ∃ j : Nat, j ≤ xh.length ∧ i = .int .i64 j ∧ Hid (KR wq)) (fun i _ => xh.length - nOf i)
                                case atStart => exact ⟨0, Nat.zero_le _, rfl, HKc⟩
                                case round =>
                                  clear HKc
                                  obtain ⟨j, hj, rfl, HK⟩ := hrel
                                  by_cases hjl : j < xh.length
                                  · obtain ⟨g, a, hA, hgl, c0, f0, hk2⟩ := KC.out _ HK.out j hjl
                                    have HK2 := hid hk2
                                    clear hk2
                                    subst hA
                                    go_wp2_with fail
                                    go_roundw
                                    case rel => exact ⟨j + 1, by omega, by go_num, HK2⟩
                                    case measure => simp [nOf]; omega
                                  · have HPN := hid (KF.out _ HK.out)
                                    go_wp2_with fail
                                    go_roundw
                                    case rel => exact ⟨t + 1, _, _, _, by omega, by go_num, hid (by have := HPN.out; push_cast; rw [show 2 * (k : Int) + ((t : Int) + 1) = 2 * (k : Int) + (t : Int) + 1 from by omega]; exact this)⟩
                                    case measure => simp [nOf]; omega
                    · have ht' : t = 2 := by omega
                      have HPE := hid (show PcS w bG bP nm P vS vB Ls Bs b2 R SA sc Lr vH Hs dn (2 * ((k + 1 : Nat) : Int)) wr from by have := HPC.out; rw [ht'] at this; push_cast; rw [show 2 * ((k : Int) + 1) = 2 * (k : Int) + 2 from by omega]; exact this)
                      have tt : ¬ (t : Int) < 2 := by omega
                      clear HPC
                      go_wp2_with fail
                      go_roundw
                      case rel => exact ⟨k + 1, _, _, _, by omega, by go_num, HPE⟩
                      case measure => simp [nOf]; omega
                · have hk' : k = n := by omega
                  have te : (2 * (k : Int) == 2 * (n : Int)) = true := by rw [hk']; simp
                  obtain ⟨C, hCd⟩ : ∃ C : World → Prop, ∀ w', C w' ↔ Below wr.heap.size wr w' := ⟨_, fun _ => Iff.rfl⟩
                  have hC : C wr.drew := (hCd _).2 (Below.refl _ _).drew
                  have r1 : ∀ p : In C, p.w.cell? ⟨R, 1, none⟩ = some (.slice SA n sc) := fun p => by have := (HPC.out.next ((hCd _).1 p.h)).r.p.cell 1; rw [HRL.out] at this; exact this
                  have lR : ∀ p : In C, R < p.w.heap.size := fun p => (HPC.out.next ((hCd _).1 p.h)).r.p.lt
                  have O : Hid (∀ p : In C, Calls Try.prog 18 #[.pointer (some ⟨P, 0, none⟩)] p.w fun e w' => e = .returned (.int .i64 (2 * (k : Int))) ∧ C w') := hid (fun p => (HPC.out.next ((hCd _).1 p.h)).as.asked.mono fun _ _ ⟨e1, e2⟩ => ⟨e1, by rw [e2]; exact p.h⟩)
                  have HCd := hid hCd
                  clear hCd hk'
                  go_upto_region 54 with fail
                  refine wp_region_in C (by kernel_rfl) (by kernel_rfl) hC ?_
                  intro hne
                  clear hC
                  repeat (first | go_big_quiet_step ((go_at_call 18; exact Calls.in_of (O.out _))) | quiet_step ((go_at_call 18; exact Calls.in_of (O.out _))))
                  refine wpQuiet_nil ?_
                  intro wz hz
                  have HF := hid (bthen HPC.out.bel ((HCd.out _).1 hz))
                  clear r1 lR O hne hz HCd HPC
                  go_wp2_with fail
                  go_ret
                  exact ⟨rfl, HF.out⟩

end Go.Proofs.Ytemhoaapapeilaa
