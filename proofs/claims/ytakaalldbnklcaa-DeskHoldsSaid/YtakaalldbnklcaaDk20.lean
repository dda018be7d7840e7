/-
  The desk: its books, and a request to hold credit.
-/
import Derived.Test.YtakaalldbnklcaaDkFind
import Derived.Test.YtakaalldbnklcaaCrBook3
import Derived.Test.YtakaalldbnklcaaOrOg
import Derived.Test.YtakaalldbnklcaaInInbox3
import Derived.Test.YtakaalldbnklcaaInTail
import Derived.BigQuiet
import Derived.Deep.RegionHeld3
namespace Go.Proofs.Ytakaalldbnklcaa
open Go.RowKit Go.WideShapes Go.ChangeShapes Go.ChangeAt Go.Deep
set_option linter.unusedVariables false

theorem Cr.not_blk {n0 : Nat} {w : World} {X BA BH g : Nat} {ac : List (Int × Cr.Acc)} {hs : List (Int × Cr.Hd)} {t : TypeId} {cs : Array Value} (h : Cr.IsBook n0 w X BA BH ac hs) (hB : Blk w g t cs) (ht : t ≠ 72) : ¬ Cr.Own BA BH ac g := by
  rintro (e | e | ⟨p, hp, e⟩)
  · exact h.acs.notBlk hB e.symm
  · exact h.hds.notBlk hB e.symm
  · exact hB.ne_ (h.cells p hp) ht e.symm
theorem Cr.not_map {n0 : Nat} {w : World} {X BA BH B : Nat} {ac : List (Int × Cr.Acc)} {hs : List (Int × Cr.Hd)} {κ ν : Type} [DecidableEq κ] {kE : κ → Value} {vE : ν → Value} {m : List (κ × ν)} (h : Cr.IsBook n0 w X BA BH ac hs) (hM : IsMap w B kE vE m) (h1 : BA ≠ B) (h2 : BH ≠ B) : ¬ Cr.Own BA BH ac B := by
  rintro (e | e | ⟨p, hp, e⟩)
  · exact h1 e.symm
  · exact h2 e.symm
  · exact hM.notBlk (h.cells p hp) e.symm

/-- The desk at block D, with its credit book, its orders and its inbox; stock and cash lie beside. -/
structure DS (w0 w : World) (D XC BA BH XO BP BO XI BI XS XM : Nat) (ac : List (Int × Cr.Acc)) (hs : List (Int × Cr.Hd)) (pr : List (Int × Int)) (os : List (Int × Or.Od)) (m : List ((Int × Int) × In.Ent)) : Prop where
  blk : Blk w D 32 #[.pointer (some ⟨XC, 0, none⟩), .pointer (some ⟨XS, 0, none⟩), .pointer (some ⟨XM, 0, none⟩), .pointer (some ⟨XO, 0, none⟩), .pointer (some ⟨XI, 0, none⟩)]
  cr : Cr.IsBook w0.heap.size w XC BA BH ac hs
  od : Or.IsBook w0.heap.size w XO BP BO pr os
  ib : In.IsBox w XI BI m
  maps : BA ≠ BP ∧ BA ≠ BO ∧ BA ≠ BI ∧ BH ≠ BP ∧ BH ≠ BO ∧ BH ≠ BI ∧ BP ≠ BI ∧ BO ≠ BI
  lo : w0.heap.size ≤ BI
  bel : Below w0.heap.size w0 w
section
variable {w0 w w' : World} {D XC BA BH XO BP BO XI BI XS XM : Nat} {ac ac' : List (Int × Cr.Acc)} {hs hs' : List (Int × Cr.Hd)} {pr pr' : List (Int × Int)} {os os' : List (Int × Or.Od)} {m m' : List ((Int × Int) × In.Ent)}
theorem DS.next (h : DS w0 w D XC BA BH XO BP BO XI BI XS XM ac hs pr os m) (hb : Below w.heap.size w w') : DS w0 w' D XC BA BH XO BP BO XI BI XS XM ac hs pr os m :=
  ⟨h.blk.next hb, h.cr.next hb, h.od.next hb, h.ib.next hb, h.maps, h.lo, bthen h.bel hb⟩
theorem DS.credit (h : DS w0 w D XC BA BH XO BP BO XI BI XS XM ac hs pr os m) (hI : Cr.IsBook w0.heap.size w' XC BA BH ac' hs') (hT : Touch (Cr.Own BA BH ac) w w') : DS w0 w' D XC BA BH XO BP BO XI BI XS XM ac' hs' pr os m := by
  obtain ⟨m1, m2, m3, m4, m5, m6, m7, m8⟩ := h.maps
  refine ⟨hT.blk h.blk (Cr.not_blk h.cr h.blk (by decide)), hI, h.od.touch hT (Cr.not_blk h.cr h.od.blk (by decide)) ⟨Cr.not_map h.cr h.od.prs m1 m4, Cr.not_map h.cr h.od.ods m2 m5⟩ (fun p hp => ?_), ⟨hT.blk h.ib.1 (Cr.not_blk h.cr h.ib.1 (by decide)), hT.isMap h.ib.2 (Cr.not_map h.cr h.ib.2 m3 m6)⟩, h.maps, h.lo, h.bel.trans (hT.below h.bel.size (fun k hk => h.cr.own_low hk))⟩
  obtain ⟨_, _, cs, hb⟩ := h.od.lns p hp
  exact Cr.not_blk h.cr hb (by decide)
theorem DS.orders (h : DS w0 w D XC BA BH XO BP BO XI BI XS XM ac hs pr os m) (hI : Or.IsBook w0.heap.size w' XO BP BO pr' os') (hT : Touch (Or.Own BP BO) w w') : DS w0 w' D XC BA BH XO BP BO XI BI XS XM ac hs pr' os' m := by
  obtain ⟨m1, m2, m3, m4, m5, m6, m7, m8⟩ := h.maps
  have nb : ∀ {g : Nat} {t : TypeId} {cs : Array Value}, Blk w g t cs → ¬ Or.Own BP BO g := fun hb hk => by
    rcases hk with e | e
    · exact h.od.prs.notBlk hb e.symm
    · exact h.od.ods.notBlk hb e.symm
  refine ⟨hT.blk h.blk (nb h.blk), h.cr.touch hT (nb h.cr.blk) (fun k hk hk2 => ?_), hI, ⟨hT.blk h.ib.1 (nb h.ib.1), hT.isMap h.ib.2 (fun hk => ?_)⟩, h.maps, h.lo, h.bel.trans (hT.below h.bel.size (fun k hk => h.od.own_low hk))⟩
  · rcases hk2 with rfl | rfl
    · exact Cr.not_map h.cr h.od.prs m1 m4 hk
    · exact Cr.not_map h.cr h.od.ods m2 m5 hk
  · rcases hk with e | e
    · exact m7 e.symm
    · exact m8 e.symm
theorem DS.inbox (h : DS w0 w D XC BA BH XO BP BO XI BI XS XM ac hs pr os m) (hI : In.IsBox w' XI BI m') (hg : w.grownBy w' (some BI)) : DS w0 w' D XC BA BH XO BP BO XI BI XS XM ac hs pr os m' := by
  obtain ⟨m1, m2, m3, m4, m5, m6, m7, m8⟩ := h.maps
  have hT := Touch.of_grown hg
  have nb : ∀ {g : Nat} {t : TypeId} {cs : Array Value}, Blk w g t cs → ¬ g = BI := fun hb e => h.ib.2.notBlk hb e.symm
  refine ⟨hT.blk h.blk (nb h.blk), h.cr.touch hT (nb h.cr.blk) (fun k hk e => ?_), h.od.touch hT (nb h.od.blk) ⟨m7, m8⟩ (fun p hp => ?_), hI, h.maps, h.lo, h.bel.trans (hT.below h.bel.size (fun k hk => by have := h.lo; omega))⟩
  · subst e
    exact Cr.not_map h.cr h.ib.2 m3 m6 hk
  · obtain ⟨_, _, cs, hb⟩ := h.od.lns p hp
    exact nb hb
end

theorem DS.beside {w0 w w' : World} {D XC BA BH XO BP BO XI BI XS XM G : Nat} {ac : List (Int × Cr.Acc)} {hs : List (Int × Cr.Hd)} {pr : List (Int × Int)} {os : List (Int × Or.Od)} {m : List ((Int × Int) × In.Ent)} {cs : Array Value} (h : DS w0 w D XC BA BH XO BP BO XI BI XS XM ac hs pr os m) (hB : Blk w G 35 cs) (hT : Touch (· = G) w w') (hlo : w0.heap.size ≤ G) : DS w0 w' D XC BA BH XO BP BO XI BI XS XM ac hs pr os m := by
  have nm : ∀ {κ ν : Type} [DecidableEq κ] {kE : κ → Value} {vE : ν → Value} {m : List (κ × ν)} {B : Nat}, IsMap w B kE vE m → ¬ B = G := fun hM e => hM.notBlk hB e
  refine ⟨hT.blk h.blk (h.blk.ne_ hB (by decide)), h.cr.touch hT (h.cr.blk.ne_ hB (by decide)) (fun k hk e => ?_), h.od.touch hT (h.od.blk.ne_ hB (by decide)) ⟨nm h.od.prs, nm h.od.ods⟩ (fun p hp => ?_), ⟨hT.blk h.ib.1 (h.ib.1.ne_ hB (by decide)), hT.isMap h.ib.2 (nm h.ib.2)⟩, h.maps, h.lo, h.bel.trans (hT.below h.bel.size (fun k hk => by omega))⟩
  · subst e
    exact Cr.not_blk h.cr hB (by decide) hk
  · obtain ⟨_, _, cs, hb⟩ := h.od.lns p hp
    exact hb.ne_ hB (by decide)

/-- What Hold makes of the book. -/
def HoldRel (ac : List (Int × Cr.Acc)) (hs : List (Int × Cr.Hd)) (o c n : Int) (ac' : List (Int × Cr.Acc)) (hs' : List (Int × Cr.Hd)) : Prop :=
  (Cr.holdR ac hs o c n ≠ 0 ∧ ac' = ac ∧ hs' = hs) ∨ (Cr.holdR ac hs o c n = 0 ∧ ∃ a, mget ac c = some a ∧ n ≤ wrap64 (a.l - a.e) ∧ ac' = mset ac c ⟨a.g, a.l, wrap64 (a.e + n)⟩ ∧ hs' = mset hs o ⟨o, c, n⟩)
theorem hold_any {n0 : Nat} {w : World} {X BA BH : Nat} {ac : List (Int × Cr.Acc)} {hs : List (Int × Cr.Hd)} (h : Cr.IsBook n0 w X BA BH ac hs) (o c n : Int) :
    Calls Try.prog 33 #[.pointer (some ⟨X, 0, none⟩), .int .i64 o, .int .i64 c, .int .i64 n] w fun e w' => e = .returned (.int .i64 (Cr.holdR ac hs o c n)) ∧ ∃ ac' hs', Cr.IsBook n0 w' X BA BH ac' hs' ∧ HoldRel ac hs o c n ac' hs' ∧ Touch (Cr.Own BA BH ac) w w' := by
  by_cases hok : 1 ≤ o ∧ 0 ≤ n ∧ n ≤ 1125899906842624
  · by_cases hr : Cr.holdR ac hs o c n = 0
    · have hr' := hr
      unfold Cr.holdR at hr
      rw [if_pos hok] at hr
      cases ha : mget ac c with
      | none => rw [ha] at hr; simp at hr
      | some a =>
        rw [ha] at hr
        simp only at hr
        cases hm : mget hs o with
        | some d => rw [hm] at hr; simp at hr
        | none =>
          rw [hm] at hr
          simp only [Option.isSome_none, Bool.false_eq_true, if_false] at hr
          have hle : n ≤ wrap64 (a.l - a.e) := by
            by_cases hlt : wrap64 (a.l - a.e) < n
            · rw [if_pos hlt] at hr; cases hr
            · omega
          refine (Cr.hold_ok h o c n hok a ha hm hle).mono ?_
          rintro e w' ⟨h1, h2, h3⟩
          exact ⟨by rw [h1, hr'], _, _, h2, .inr ⟨hr', a, ha, hle, rfl, rfl⟩, h3⟩
    · refine (Cr.hold_no h o c n hok hr).mono ?_
      rintro e w' ⟨h1, hb⟩
      exact ⟨h1, ac, hs, h.next hb, .inl ⟨hr, rfl, rfl⟩, .of_below hb⟩
  · have hr : Cr.holdR ac hs o c n = 2 := by unfold Cr.holdR; rw [if_neg hok]
    refine (Cr.hold_arg h o c n hok).mono ?_
    rintro e w' ⟨h1, rfl⟩
    exact ⟨by rw [h1, hr], ac, hs, h, .inl ⟨by rw [hr]; decide, rfl, rfl⟩, .refl _ _⟩

section
variable {w0 w w' : World} {D XC BA BH XO BP BO XI BI XS XM : Nat} {ac ac' : List (Int × Cr.Acc)} {hs hs' : List (Int × Cr.Hd)} {pr pr' : List (Int × Int)} {os os' : List (Int × Or.Od)} {m m' : List ((Int × Int) × In.Ent)}
set_option maxRecDepth 100000 in
set_option maxHeartbeats 4000000 in
theorem find1_any (h : DS w0 w D XC BA BH XO BP BO XI BI XS XM ac hs pr os m) (o : Or.Od) (hn : -4611686018427387904 ≤ o.n + o.t ∧ o.n + o.t ≤ 4611686018427387904) :
    Calls Try.prog 32 #[.pointer (some ⟨D, 0, none⟩), Or.enO o] w fun e w' => e = .returned (.tuple #[.bool false, .int .i64 (Cr.holdR ac hs o.i o.c (o.n + o.t))]) ∧ ∃ ac' hs', HoldRel ac hs o.i o.c (o.n + o.t) ac' hs' ∧ DS w0 w' D XC BA BH XO BP BO XI BI XS XM ac' hs' pr os m ∧ Touch (Cr.Own BA BH ac) w w' := by
  obtain ⟨oi, oc, of, ob, ocp, ols, on, ot⟩ := o
  simp only [Or.enO] at hn ⊢
  have ws : IntKind.i64.wrap (on + ot) = on + ot := IntWalk.i64_in _ ⟨by omega, by omega⟩
  have hwb : Below w.heap.size w (w.alloc (.cells #[.int .i64 oi, .int .i64 oc, .string of, .slice (some ⟨ob, 0, none⟩) ols.length ocp, .int .i64 on, .int .i64 ot] 47)) := (Below.refl _ _).alloc (Nat.le_refl _) _
  have hGB := Blk.new w 47 #[.int .i64 oi, .int .i64 oc, .string of, .slice (some ⟨ob, 0, none⟩) ols.length ocp, .int .i64 on, .int .i64 ot]
  have hz := h.next hwb
  obtain ⟨wz, hwz⟩ : ∃ wz, wz = w.alloc (.cells #[.int .i64 oi, .int .i64 oc, .string of, .slice (some ⟨ob, 0, none⟩) ols.length ocp, .int .i64 on, .int .i64 ot] 47) := ⟨_, rfl⟩
  obtain ⟨G, hGe⟩ : ∃ G, G = w.heap.size := ⟨_, rfl⟩
  have HW := hid hwz
  have HGe := hid hGe
  rw [← hwz] at hGB hz hwb
  rw [← hGe] at hGB
  have hbd : Below wz.heap.size wz wz.drew := below_drewN (Below.refl _ _) 1
  have hzd := hz.next hbd
  have hGd := hGB.next hbd
  have K := hid (hold_any hzd.cr oi oc (on + ot))
  have c0 : wz.drew.cell? ⟨D, 0, none⟩ = some (.pointer (some ⟨XC, 0, none⟩)) := hzd.blk.cell 0
  have g0 : wz.drew.cell? ⟨G, 0, none⟩ = some (.int .i64 oi) := hGd.cell 0
  have g1 : wz.drew.cell? ⟨G, 1, none⟩ = some (.int .i64 oc) := hGd.cell 1
  have g4 : wz.drew.cell? ⟨G, 4, none⟩ = some (.int .i64 on) := hGd.cell 4
  have g5 : wz.drew.cell? ⟨G, 5, none⟩ = some (.int .i64 ot) := hGd.cell 5
  obtain ⟨C, hCd⟩ : ∃ C : World → Prop, ∀ w', C w' ↔ w' = wz.drew := ⟨_, fun _ => Iff.rfl⟩
  have hC : C wz.drew := (hCd _).2 rfl
  have f0 : ∀ p : In C, p.w.cell? ⟨D, 0, none⟩ = some (.pointer (some ⟨XC, 0, none⟩)) := fun p => by rw [(hCd _).1 p.h]; exact c0
  have f1 : ∀ p : In C, p.w.cell? ⟨G, 0, none⟩ = some (.int .i64 oi) := fun p => by rw [(hCd _).1 p.h]; exact g0
  have f2 : ∀ p : In C, p.w.cell? ⟨G, 1, none⟩ = some (.int .i64 oc) := fun p => by rw [(hCd _).1 p.h]; exact g1
  have f3 : ∀ p : In C, p.w.cell? ⟨G, 4, none⟩ = some (.int .i64 on) := fun p => by rw [(hCd _).1 p.h]; exact g4
  have f4 : ∀ p : In C, p.w.cell? ⟨G, 5, none⟩ = some (.int .i64 ot) := fun p => by rw [(hCd _).1 p.h]; exact g5
  have HCd := hid hCd
  have HZ := hid (And.intro hzd (Touch.of_below (S := Cr.Own BA BH ac) (hwb.trans (hbd.mono hwb.size))))
  clear h hwb hGB hz hwz hGe hbd hzd hGd c0 g0 g1 g4 g5 hCd hn
  go_enter Try.func32, Try.ntmps32
  go_wp2_with fail
  rw [← HW.out, ← HGe.out]
  refine wp_region_in_tail C 13 (by kernel_rfl) (by kernel_rfl) hC ?_
  intro hne
  clear hC
  refine wpIn_quiet ?_
  simp only [List.take_succ_cons, List.take_zero, List.drop_succ_cons, List.drop_zero]
  repeat (first | go_big_quiet_step (fail) | quiet_step (fail))
  refine wpQuiet_nil ?_
  intro wp hwp
  obtain rfl := (HCd.out _).1 hwp
  clear f0 f1 f2 f3 f4 hne hwp HCd
  go_wp2_with fail
  refine K.out.mono ?_
  rintro e w5 ⟨rfl, ac', hs', hI, hR, hT⟩
  have HF := hid (And.intro hR (And.intro (HZ.out.1.credit hI hT) (HZ.out.2.then hT)))
  clear K hI hR hT HZ
  go_wp2_with fail
  go_ret2
  exact ⟨rfl, ac', hs', HF.out.1, HF.out.2.1, HF.out.2.2⟩
set_option maxRecDepth 100000 in
set_option maxHeartbeats 4000000 in
theorem runHold_any (h : DS w0 w D XC BA BH XO BP BO XI BI XS XM ac hs pr os m) (hq : ∀ p ∈ os, 1 ≤ p.2.ls.length ∧ p.2.ls.length ≤ 4) (key : Int) (hk : 0 ≤ key) (o : Or.Od) (ho : mget os key = some o) (hn : -4611686018427387904 ≤ o.n + o.t ∧ o.n + o.t ≤ 4611686018427387904) :
    Calls Try.prog 15 #[.pointer (some ⟨D, 0, none⟩), .int .i64 key, .string vb0] w fun e w' => e = .returned (.tuple #[.bool false, .int .i64 (Cr.holdR ac hs o.i o.c (o.n + o.t))]) ∧ ∃ ac' hs', HoldRel ac hs o.i o.c (o.n + o.t) ac' hs' ∧ DS w0 w' D XC BA BH XO BP BO XI BI XS XM ac' hs' pr os m ∧ Touch (Cr.Own BA BH ac) w w' := by
  have F := hid (find_any vb0 w)
  have H := hid h
  have d1 : decide (key < 0) = false := decide_eq_false (by omega)
  clear h
  go_enter Try.func15, Try.ntmps15
  go_wp2_with fail
  refine F.out.mono ?_
  rintro e w1 ⟨v, rfl, hsv, hb1⟩
  have hv : v = .func (.func 32) #[] #[] := by
    rw [show svc vb0 = 1 from by decide] at hsv
    rcases hsv with ⟨h, _⟩ | ⟨_, h⟩ | ⟨h, _⟩ | ⟨h, _⟩ | ⟨g, u, _, _, h⟩
    · cases h
    · exact h
    · cases h
    · cases h
    · omega
  subst hv
  have h1 := H.out.next hb1
  have G := hid (Or.get_any h1.od hq key)
  have c3 : w1.cell? ⟨D, 3, none⟩ = some (.pointer (some ⟨XO, 0, none⟩)) := h1.blk.cell 3
  have H1 := hid (And.intro h1 hb1)
  have hne : ∀ w : World, (binOp BinOp.eql 92 (.func (.func 32) #[] #[]) .nilFunc).run Try.prog w = .ok (.bool false) w := fun w => by kernel_rfl
  clear F hsv hb1 h1 H
  go_wp2_with fail
  refine G.out.mono ?_
  rintro e w2 ⟨_, hg, hb2⟩
  obtain ⟨b, cap, rfl, _⟩ := hg o ho
  have h2 := H1.out.1.next hb2
  obtain ⟨oi, oc, of, ob, ocp, ols, on, ot⟩ := o
  have hwb : Below w2.heap.size w2 (w2.alloc (.cells #[.int .i64 oi, .int .i64 oc, .string of, .slice (some ⟨b, 0, none⟩) ols.length cap, .int .i64 on, .int .i64 ot] 47)) := (Below.refl _ _).alloc (Nat.le_refl _) _
  have K := hid (find1_any (h2.next hwb) ⟨oi, oc, of, b, cap, ols, on, ot⟩ hn)
  have HT := hid (Touch.of_below (S := Cr.Own BA BH ac) (bthen (bthen H1.out.2 hb2) hwb))
  simp only [Or.enO] at K ⊢
  clear G c3 H1 hg hb2 h2 hwb hn
  go_wp2_with fail
  refine K.out.mono ?_
  rintro e w5 ⟨rfl, ac', hs', hR, hD, hT⟩
  have HF := hid (And.intro hR (And.intro hD (HT.out.then hT)))
  clear K hR hD hT
  go_wp2_with fail
  go_ret2
  exact ⟨rfl, ac', hs', HF.out.1, HF.out.2.1, HF.out.2.2⟩

/-- An answer that is told. -/
def vAns (t : Bool) (c : Int) (p i : Bool) : Value := .agg #[.bool t, .int .i64 c, .bool p, .bool i]
set_option maxRecDepth 100000 in
set_option maxHeartbeats 4000000 in
theorem doKnown_any (h : DS w0 w D XC BA BH XO BP BO XI BI XS XM ac hs pr os m) (key s t : Int) (u : Bool) (v : ByteArray) (c : Int) (ha : In.askF (In.entAt m (key, s)) t u = (1, c)) :
    Calls Try.prog 6 #[.pointer (some ⟨D, 0, none⟩), .int .i64 key, .int .i64 s, .int .i64 t, .string v, .bool u] w fun e w' => e = .returned (vAns true c false false) ∧ Below w.heap.size w w' := by
  have hwb : Below w.heap.size w (w.alloc (.cells #[.bool false, .int .i64 0, .bool false, .bool false] 35)) := (Below.refl _ _).alloc (Nat.le_refl _) _
  have hGB := Blk.new w 35 #[.bool false, .int .i64 0, .bool false, .bool false]
  have hz := h.next hwb
  obtain ⟨wz, hwz⟩ : ∃ wz, wz = w.alloc (.cells #[.bool false, .int .i64 0, .bool false, .bool false] 35) := ⟨_, rfl⟩
  obtain ⟨G, hGe⟩ : ∃ G, G = w.heap.size := ⟨_, rfl⟩
  have HW := hid hwz
  have HGe := hid hGe
  rw [← hwz] at hGB hz hwb
  rw [← hGe] at hGB
  have K := hid (In.ask_is wz hz.ib ha)
  have c4 : w.cell? ⟨D, 4, none⟩ = some (.pointer (some ⟨XI, 0, none⟩)) := h.blk.cell 4
  have lD : D < w.heap.size := h.blk.lt
  have HZ := hid (And.intro hwb hGB)
  have HLO := hid (show w.heap.size ≤ G from by rw [hGe]; exact Nat.le_refl _)
  clear h hwb hGB hz hwz hGe ha
  go_enter Try.func6, Try.ntmps6
  go_wp2_with fail
  rw [← HW.out, ← HGe.out]
  refine K.out.mono ?_
  rintro e w1 ⟨rfl, hb1⟩
  have hG1 := HZ.out.2.next hb1
  have hD1 := bthen HZ.out.1 hb1
  have g0 : w1.cell? ⟨G, 0, none⟩ = some (.bool false) := hG1.cell 0
  have g1 : w1.cell? ⟨G, 1, none⟩ = some (.int .i64 0) := hG1.cell 1
  have g2 : w1.cell? ⟨G, 2, none⟩ = some (.bool false) := hG1.cell 2
  have g3 : w1.cell? ⟨G, 3, none⟩ = some (.bool false) := hG1.cell 3
  have f0 := hG1.free 0
  have f1 := hG1.free 1
  have f2 := hG1.free 2
  have f3 := hG1.free 3
  have lG := hG1.lt
  have HZ1 := hid (And.intro hD1 hG1)
  clear K HZ HW HGe c4 hb1 hG1 hD1
  go_wp2_with fail
  have hT := (((Touch.setCell w1 G 0 (.bool true)).then (Touch.setCell _ G 1 (.int .i64 c))).then (Touch.setCell _ G 2 (.bool false))).then (Touch.setCell _ G 3 (.bool false))
  have hB := (((HZ1.out.2.set_ 0 (.bool true)).set_ 1 (.int .i64 c)).set_ 2 (.bool false)).set_ 3 (.bool false)
  have HD := hid (HZ1.out.1.trans (hT.below HZ1.out.1.size (fun k hk => by have := HLO.out; omega)))
  generalize (((w1.setCell ⟨G, 0, none⟩ (.bool true)).setCell ⟨G, 1, none⟩ (.int .i64 c)).setCell ⟨G, 2, none⟩ (.bool false)).setCell ⟨G, 3, none⟩ (.bool false) = wf at *
  have e0 : wf.cell? ⟨G, 0, none⟩ = some (.bool true) := hB.cell 0
  have e1 : wf.cell? ⟨G, 1, none⟩ = some (.int .i64 c) := hB.cell 1
  have e2 : wf.cell? ⟨G, 2, none⟩ = some (.bool false) := hB.cell 2
  have e3 : wf.cell? ⟨G, 3, none⟩ = some (.bool false) := hB.cell 3
  refine bodyPost_ret (v := vAns true c false false) (by simp [results, Try.results6, go_sem, e0, e1, e2, e3]; rfl) rfl ⟨rfl, HD.out⟩

set_option maxRecDepth 100000 in
set_option maxHeartbeats 4000000 in
theorem doHold_any (h : DS w0 w D XC BA BH XO BP BO XI BI XS XM ac hs pr os m) (hq : ∀ p ∈ os, 1 ≤ p.2.ls.length ∧ p.2.ls.length ≤ 4) (key s t : Int) (hk : 0 ≤ key) (ha : In.askF (In.entAt m (key, s)) t false = (0, 0)) (o : Or.Od) (ho : mget os key = some o) (hn : -4611686018427387904 ≤ o.n + o.t ∧ o.n + o.t ≤ 4611686018427387904) :
    Calls Try.prog 6 #[.pointer (some ⟨D, 0, none⟩), .int .i64 key, .int .i64 s, .int .i64 t, .string vb0, .bool false] w fun e w' => e = .returned (vAns true (Cr.holdR ac hs o.i o.c (o.n + o.t)) false false) ∧ ∃ ac' hs', HoldRel ac hs o.i o.c (o.n + o.t) ac' hs' ∧
      DS w0 w' D XC BA BH XO BP BO XI BI XS XM ac' hs' pr os (mset m (key, s) (In.keepE (In.entAt m (key, s)) key s t false (Cr.holdR ac hs o.i o.c (o.n + o.t)))) ∧ Touch (fun k => Cr.Own BA BH ac k ∨ k = BI) w w' := by
  obtain ⟨z, hz0⟩ : ∃ z, z = Cr.holdR ac hs o.i o.c (o.n + o.t) := ⟨_, rfl⟩
  rw [← hz0]
  have HZ0 := hid hz0
  clear hz0
  have hwb : Below w.heap.size w (w.alloc (.cells #[.bool false, .int .i64 0, .bool false, .bool false] 35)) := (Below.refl _ _).alloc (Nat.le_refl _) _
  have hGB := Blk.new w 35 #[.bool false, .int .i64 0, .bool false, .bool false]
  have hz := h.next hwb
  obtain ⟨wz, hwz⟩ : ∃ wz, wz = w.alloc (.cells #[.bool false, .int .i64 0, .bool false, .bool false] 35) := ⟨_, rfl⟩
  obtain ⟨G, hGe⟩ : ∃ G, G = w.heap.size := ⟨_, rfl⟩
  have HW := hid hwz
  have HGe := hid hGe
  rw [← hwz] at hGB hz hwb
  rw [← hGe] at hGB
  have K := hid (In.ask_is wz hz.ib ha)
  have c4 : w.cell? ⟨D, 4, none⟩ = some (.pointer (some ⟨XI, 0, none⟩)) := h.blk.cell 4
  have lD : D < w.heap.size := h.blk.lt
  have HZ := hid (And.intro hz hGB)
  have HT0 := hid (And.intro (Touch.of_below (S := fun k => Cr.Own BA BH ac k ∨ k = BI) hwb) (show w.heap.size ≤ G from by rw [hGe]; exact Nat.le_refl _))
  have HLO := hid (show w0.heap.size ≤ G from by rw [hGe]; exact h.bel.size)
  have HA := hid ha
  clear h hwb hGB hz hwz hGe ha
  go_enter Try.func6, Try.ntmps6
  go_wp2_with fail
  rw [← HW.out, ← HGe.out]
  refine K.out.mono ?_
  rintro e w1 ⟨rfl, hb1⟩
  have hG1 := HZ.out.2.next hb1
  have hD1 := HZ.out.1.next hb1
  have RH := runHold_any hD1 hq key hk o ho hn
  rw [← HZ0.out] at RH
  replace RH := hid RH
  have HG1 := hid (And.intro hG1 hD1)
  have HT1 := hid (HT0.out.1.then (.of_below hb1))
  clear K HZ HW HGe c4 hb1 hG1 hD1 lD hn
  go_wp2_with fail
  refine RH.out.mono ?_
  rintro e w2 ⟨rfl, ac', hs', hR, hD2, hT2⟩
  have hG2 : Blk w2 G 35 #[.bool false, .int .i64 0, .bool false, .bool false] := hT2.blk HG1.out.1 (Cr.not_blk HG1.out.2.cr HG1.out.1 (by decide))
  have HT2 := hid (HT1.out.then (hT2.mono (fun k hk => .inl hk)))
  have KP := hid (In.keep_is z w2 hD2.ib (by rw [HA.out]) rfl)
  have c4 : w2.cell? ⟨D, 4, none⟩ = some (.pointer (some ⟨XI, 0, none⟩)) := hD2.blk.cell 4
  have H2 := hid (And.intro hD2 (And.intro hG2 hR))
  clear RH HG1 hR hD2 hG2 hT2
  go_wp2_with fail
  refine KP.out.mono ?_
  rintro e w3 ⟨rfl, hI3, hg3⟩
  have hD3 := H2.out.1.inbox hI3 hg3
  have HT3 := hid (HT2.out.then ((Touch.of_grown hg3).mono (fun k hk => .inr hk)))
  have hG3 := (Touch.of_grown hg3).blk H2.out.2.1 (fun e => H2.out.1.ib.2.notBlk H2.out.2.1 e.symm)
  have hs1 : (vb0.toList == [98, 105, 108, 108, 46, 105, 110, 118, 111, 105, 99, 101]) = false := by
    rw [show ([98, 105, 108, 108, 46, 105, 110, 118, 111, 105, 99, 101] : List UInt8) = vb8.toList from by rw [ByteArray.toList_eq]; rfl, ← beq_toListBytes, bytes_beq]
    decide
  have g0 : w3.cell? ⟨G, 0, none⟩ = some (.bool false) := hG3.cell 0
  have g1 : w3.cell? ⟨G, 1, none⟩ = some (.int .i64 0) := hG3.cell 1
  have g2 : w3.cell? ⟨G, 2, none⟩ = some (.bool false) := hG3.cell 2
  have g3 : w3.cell? ⟨G, 3, none⟩ = some (.bool false) := hG3.cell 3
  have f0 := hG3.free 0
  have f1 := hG3.free 1
  have f2 := hG3.free 2
  have f3 := hG3.free 3
  have lG := hG3.lt
  have HZ1 := hid (And.intro hD3 hG3)
  have HR := hid H2.out.2.2
  clear KP H2 hI3 hg3 hD3 hG3 c4
  go_wp2_with fail
  have hT := (((Touch.setCell w3 G 0 (.bool true)).then (Touch.setCell _ G 1 (.int .i64 z))).then (Touch.setCell _ G 2 (.bool false))).then (Touch.setCell _ G 3 (.bool false))
  have hB := (((HZ1.out.2.set_ 0 (.bool true)).set_ 1 (.int .i64 z)).set_ 2 (.bool false)).set_ 3 (.bool false)
  have HD := hid (And.intro (HZ1.out.1.beside HZ1.out.2 hT HLO.out) (HT3.out.trans hT (fun k hk => .inr (by have := HT0.out.2; omega))))
  generalize (((w3.setCell ⟨G, 0, none⟩ (.bool true)).setCell ⟨G, 1, none⟩ (.int .i64 z)).setCell ⟨G, 2, none⟩ (.bool false)).setCell ⟨G, 3, none⟩ (.bool false) = wf at *
  have e0 : wf.cell? ⟨G, 0, none⟩ = some (.bool true) := hB.cell 0
  have e1 : wf.cell? ⟨G, 1, none⟩ = some (.int .i64 z) := hB.cell 1
  have e2 : wf.cell? ⟨G, 2, none⟩ = some (.bool false) := hB.cell 2
  have e3 : wf.cell? ⟨G, 3, none⟩ = some (.bool false) := hB.cell 3
  refine bodyPost_ret (v := vAns true z false false) (by simp [results, Try.results6, go_sem, e0, e1, e2, e3]; rfl) rfl ⟨rfl, ac', hs', HR.out, HD.out.1, HD.out.2⟩
end

end Go.Proofs.Ytakaalldbnklcaa
