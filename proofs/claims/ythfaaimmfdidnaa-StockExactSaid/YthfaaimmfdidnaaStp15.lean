/-
  The stock book: each call at a good book, told at once.
-/
import Derived.Test.YthfaaimmfdidnaaPl15
namespace Go.Proofs.Ythfaaimmfdidnaa
open Go.RowKit Go.WideShapes Go.ChangeShapes Go.ChangeAt Go.Deep
set_option linter.unusedVariables false

theorem Touch.old {S T : Nat → Prop} {w w' : World} (h : Touch S w w') (hT : ∀ k, k < w.heap.size → S k → T k) : Touch T w w' := ⟨h.os, h.tape, h.output, h.size, fun k hk hn => h.block k hk (fun hs => hn (hT k hk hs))⟩

def itemZ (id : Int) : Int := if 1 ≤ id ∧ id ≤ 64 then 0 else 2
def recvZ (lv : List (Int × Lv)) (id q : Int) : Int := if 1 ≤ q ∧ q ≤ 1000000 then (match mget lv id with | none => 70 | some a => if 1125899906842624 - q < a.r then 72 else 0) else 2
noncomputable def allocZ (lv : List (Int × Lv)) (gs : List (Int × Gd)) (o : Int) (ls : List Ln) : Int := if errF lv gs o ls = 0 then (if ls.any (shortL lv) = true then 150 else 0) else errF lv gs o ls
def freeZ (gs : List (Int × Gd)) (o : Int) : Int := match mget gs o with | none => 70 | some d => if d.st = 2 then 130 else 0
def goZ (gs : List (Int × Gd)) (o st : Int) : Int := match mget gs o with | none => 70 | some d => if d.st = st then 0 else 130

/-- What a call makes of the maps. -/
abbrev MapRel := List (Int × Lv) → List (Int × Gd) → Prop
def ItemR (lv : List (Int × Lv)) (gs : List (Int × Gd)) (id : Int) : MapRel := fun lv' gs' => gs' = gs ∧ ((¬ (1 ≤ id ∧ id ≤ 64) ∧ lv' = lv) ∨ ((1 ≤ id ∧ id ≤ 64) ∧ (∃ a, mget lv id = some a) ∧ lv' = lv) ∨ ((1 ≤ id ∧ id ≤ 64) ∧ mget lv id = none ∧ ∃ g, lv' = mset lv id (newLv g id)))
def RecvR (lv : List (Int × Lv)) (gs : List (Int × Gd)) (id q : Int) : MapRel := fun lv' gs' => gs' = gs ∧ ((recvZ lv id q ≠ 0 ∧ lv' = lv) ∨ (recvZ lv id q = 0 ∧ (1 ≤ q ∧ q ≤ 1000000) ∧ ∃ a, mget lv id = some a ∧ a.r + q ≤ 1125899906842624 ∧ lv' = mset lv id ⟨a.g, a.i, a.r + q, a.h + q, a.a, a.s, a.t⟩))
def AllocR (lv : List (Int × Lv)) (gs : List (Int × Gd)) (o : Int) (ls : List Ln) : MapRel := fun lv' gs' => (allocZ lv gs o ls ≠ 0 ∧ lv' = lv ∧ gs' = gs) ∨ (allocZ lv gs o ls = 0 ∧ errF lv gs o ls = 0 ∧ ls.any (shortL lv) = false ∧ lv' = mvL allocL lv ls ∧ ∃ d : Gd, (d.o = o ∧ d.st = 1 ∧ d.ls = ls) ∧ gs' = mset gs o d)
def FreeR (lv : List (Int × Lv)) (gs : List (Int × Gd)) (o : Int) : MapRel := fun lv' gs' => ((∀ d, mget gs o = some d → d.st ≠ 1) ∧ lv' = lv ∧ gs' = gs) ∨ (freeZ gs o = 0 ∧ ∃ d, mget gs o = some d ∧ d.st = 1 ∧ lv' = mvL freeL lv d.ls ∧ gs' = mdel gs o)
def ShipR (lv : List (Int × Lv)) (gs : List (Int × Gd)) (o : Int) : MapRel := fun lv' gs' => (goZ gs o 1 ≠ 0 ∧ lv' = lv ∧ gs' = gs) ∨ (goZ gs o 1 = 0 ∧ ∃ d, mget gs o = some d ∧ d.st = 1 ∧ lv' = mvL shipL lv d.ls ∧ gs' = mset gs o (nextG d))
def RestockR (lv : List (Int × Lv)) (gs : List (Int × Gd)) (o : Int) : MapRel := fun lv' gs' => (goZ gs o 2 ≠ 0 ∧ lv' = lv ∧ gs' = gs) ∨ (goZ gs o 2 = 0 ∧ ∃ d, mget gs o = some d ∧ d.st = 2 ∧ lv' = mvL restockL lv d.ls ∧ gs' = mset gs o (nextG d))

/-- What a call leaves. -/
def StepPost (n0 X BL BG : Nat) (lv : List (Int × Lv)) (gs : List (Int × Gd)) (z : Int) (R : MapRel) (w : World) (e : Ending) (w' : World) : Prop :=
  ∃ lv' gs', e = .returned (.int .i64 z) ∧ IsBook n0 w' X BL BG lv' gs' ∧ GoodB lv' gs' ∧ R lv' gs' ∧ gs'.length ≤ gs.length + 1 ∧ Touch (Own BL BG lv gs) w w'

section
variable {n0 : Nat} {w w' : World} {X BL BG : Nat} {lv : List (Int × Lv)} {gs : List (Int × Gd)}
theorem StepPost.same {z : Int} {R : MapRel} {e : Ending} (h : IsBook n0 w X BL BG lv gs) (hG : GoodB lv gs) (hR : R lv gs) (he : e = .returned (.int .i64 z)) (hb : Below w.heap.size w w') : StepPost n0 X BL BG lv gs z R w e w' :=
  ⟨lv, gs, he, h.next hb, hG, hR, by omega, .of_below hb⟩

theorem item_step (h : IsBook n0 w X BL BG lv gs) (hG : GoodB lv gs) (hn : n0 ≤ w.heap.size) (id : Int) :
    Calls Try.prog 11 #[.pointer (some ⟨X, 0, none⟩), .int .i64 id] w (StepPost n0 X BL BG lv gs (itemZ id) (ItemR lv gs id) w) := by
  by_cases hok : 1 ≤ id ∧ id ≤ 64
  · have hz : itemZ id = 0 := if_pos hok
    rw [hz]
    cases hm : mget lv id with
    | some a => exact (item_old h id hok hm).mono fun e w' ⟨h1, h2⟩ => h2 ▸ .same h hG ⟨rfl, .inr (.inl ⟨hok, ⟨a, hm⟩, rfl⟩)⟩ h1 (Below.refl _ _)
    | none =>
      refine (item_new h hn id hok hm).mono ?_
      rintro e w' ⟨h1, ⟨g, _, h2⟩, h3⟩
      exact ⟨_, _, h1, h2, hG.item hm hok g, ⟨rfl, .inr (.inr ⟨hok, hm, g, rfl⟩)⟩, by omega, h3⟩
  · have hz : itemZ id = 2 := if_neg hok
    rw [hz]
    exact (item_no h id hok).mono fun e w' ⟨h1, h2⟩ => h2 ▸ .same h hG ⟨rfl, .inl ⟨hok, rfl⟩⟩ h1 (Below.refl _ _)
theorem recv_step (h : IsBook n0 w X BL BG lv gs) (hG : GoodB lv gs) (hl : gs.length ≤ 3000000000000) (id q : Int) :
    Calls Try.prog 12 #[.pointer (some ⟨X, 0, none⟩), .int .i64 id, .int .i64 q] w (StepPost n0 X BL BG lv gs (recvZ lv id q) (RecvR lv gs id q) w) := by
  by_cases hok : 1 ≤ q ∧ q ≤ 1000000
  · cases hm : mget lv id with
    | none =>
      have hz : recvZ lv id q = 70 := by unfold recvZ; rw [if_pos hok, hm]
      have hR : RecvR lv gs id q lv gs := ⟨rfl, .inl ⟨by rw [hz]; decide, rfl⟩⟩
      rw [hz]
      exact (recv_none h id q hok hm).mono fun e w' ⟨h1, h2⟩ => h2 ▸ .same h hG hR h1 (Below.refl _ _)
    | some a =>
      by_cases hb : 1125899906842624 - q < a.r
      · have hz : recvZ lv id q = 72 := by unfold recvZ; rw [if_pos hok, hm]; simp only; rw [if_pos hb]
        have hR : RecvR lv gs id q lv gs := ⟨rfl, .inl ⟨by rw [hz]; decide, rfl⟩⟩
        rw [hz]
        exact (recv_many h id q hok hm hb).mono fun e w' ⟨h1, h2⟩ => h2 ▸ .same h hG hR h1 (Below.refl _ _)
      · have hz : recvZ lv id q = 0 := by unfold recvZ; rw [if_pos hok, hm]; simp only; rw [if_neg hb]
        have hR : RecvR lv gs id q (mset lv id ⟨a.g, a.i, a.r + q, a.h + q, a.a, a.s, a.t⟩) gs := ⟨rfl, .inr ⟨hz, hok, a, hm, by omega, rfl⟩⟩
        rw [hz]
        refine (recv_yes h id q hok hm (by omega) (hG.bd hl _ (mget_mem hm))).mono ?_
        rintro e w' ⟨h1, h2, h3⟩
        exact ⟨_, _, h1, h2, hG.recv hm hok.1 (by omega), hR, by omega, h3⟩
  · have hz : recvZ lv id q = 2 := if_neg hok
    have hR : RecvR lv gs id q lv gs := ⟨rfl, .inl ⟨by rw [hz]; decide, rfl⟩⟩
    rw [hz]
    exact (recv_arg h id q hok).mono fun e w' ⟨h1, h2⟩ => h2 ▸ .same h hG hR h1 (Below.refl _ _)
theorem alloc_stepB (h : IsBook n0 w X BL BG lv gs) (hG : GoodB lv gs) (hn : n0 ≤ w.heap.size) (hbd : ∀ p ∈ lv, LvB p.2) (o : Int) (A : Option Addr) (cap : Nat) (ls : List Ln) (hR : Rd w A (ls.flatMap enL)) (hcap : ls.length ≤ cap) (hcm : cap ≤ maxLen) :
    Calls Try.prog 13 #[.pointer (some ⟨X, 0, none⟩), .int .i64 o, .slice A ls.length cap] w (StepPost n0 X BL BG lv gs (allocZ lv gs o ls) (AllocR lv gs o ls) w) := by
  by_cases hz : errF lv gs o ls = 0
  · refine (alloc_fit h hn o A cap ls hR hcap hcm hz hbd).mono ?_
    rintro e w' (⟨hs, h1, h2⟩ | ⟨hs, d, h1, h2, hd, hdg, hdb, h3⟩)
    · have hzz : allocZ lv gs o ls = 150 := by unfold allocZ; rw [if_pos hz, if_pos hs]
      have hRR : AllocR lv gs o ls lv gs := .inl ⟨by rw [hzz]; decide, rfl, rfl⟩
      rw [hzz]
      exact .same h hG hRR h1 h2
    · have hzz : allocZ lv gs o ls = 0 := by unfold allocZ; rw [if_pos hz, hs]; rfl
      have hRR : AllocR lv gs o ls (mvL allocL lv ls) (mset gs o d) := .inr ⟨hzz, hz, hs, rfl, d, hd, rfl⟩
      rw [hzz]
      refine ⟨_, _, h1, h2, hG.alloc hz hs hd, hRR, mset_len, h3.old fun k hk hS => ?_⟩
      rcases hS with e | e | e | ⟨p, hp, e⟩
      · exact .inl e
      · exact .inr (.inl e)
      · exact .inr (.inr (.inl e))
      · rcases mem_mset hp with rfl | ⟨hp', _⟩
        · simp only at e; omega
        · exact .inr (.inr (.inr ⟨p, hp', e⟩))
  · have hzz : allocZ lv gs o ls = errF lv gs o ls := if_neg hz
    have hRR : AllocR lv gs o ls lv gs := .inl ⟨by rw [hzz]; exact hz, rfl, rfl⟩
    rw [hzz]
    exact (alloc_no h o A cap ls hR hcap hcm hz).mono fun e w' ⟨h1, h2⟩ => .same h hG hRR h1 h2
theorem alloc_step (h : IsBook n0 w X BL BG lv gs) (hG : GoodB lv gs) (hn : n0 ≤ w.heap.size) (hl : gs.length ≤ 3000000000000) (o : Int) (A : Option Addr) (cap : Nat) (ls : List Ln) (hR : Rd w A (ls.flatMap enL)) (hcap : ls.length ≤ cap) (hcm : cap ≤ maxLen) :
    Calls Try.prog 13 #[.pointer (some ⟨X, 0, none⟩), .int .i64 o, .slice A ls.length cap] w (StepPost n0 X BL BG lv gs (allocZ lv gs o ls) (AllocR lv gs o ls) w) := alloc_stepB h hG hn (hG.bd hl) o A cap ls hR hcap hcm
theorem free_step (h : IsBook n0 w X BL BG lv gs) (hG : GoodB lv gs) (hl : gs.length ≤ 3000000000000) (o : Int) :
    Calls Try.prog 16 #[.pointer (some ⟨X, 0, none⟩), .int .i64 o] w (StepPost n0 X BL BG lv gs (freeZ gs o) (FreeR lv gs o) w) := by
  cases hm : mget gs o with
  | none =>
    have hz : freeZ gs o = 70 := by unfold freeZ; rw [hm]
    rw [hz]
    exact (free_none h o hm).mono fun e w' ⟨h1, h2⟩ => h2 ▸ .same h hG (.inl ⟨fun d hd => by (rw [hm] at hd; cases hd), rfl, rfl⟩) h1 (Below.refl _ _)
  | some d =>
    have hg := hG.gk o d hm
    rcases (show d.st = 1 ∨ d.st = 2 ∨ d.st = 3 from by omega) with hs | hs | hs
    · have hz : freeZ gs o = 0 := by unfold freeZ; rw [hm]; simp only; rw [if_neg (by omega)]
      have hRR : FreeR lv gs o (mvL freeL lv d.ls) (mdel gs o) := .inr ⟨hz, d, hm, hs, rfl, rfl⟩
      rw [hz]
      refine (free_yes h o hm hs hg.2.1.1.2.2 hg.2.1.2 (hG.kn o d hm) (hG.bd hl)).mono ?_
      rintro e w' ⟨h1, h2, h3⟩
      exact ⟨_, _, h1, h2, hG.free hm hs, hRR, Nat.le_trans mdel_len (by omega), h3⟩
    · have hz : freeZ gs o = 130 := by unfold freeZ; rw [hm]; simp only; rw [if_pos hs]
      rw [hz]
      exact (free_gone h o hm hs).mono fun e w' ⟨h1, h2⟩ => h2 ▸ .same h hG (.inl ⟨fun d' hd => by (rw [hm] at hd; injection hd with hd; subst hd; omega), rfl, rfl⟩) h1 (Below.refl _ _)
    · have hz : freeZ gs o = 0 := by unfold freeZ; rw [hm]; simp only; rw [if_neg (by omega)]
      rw [hz]
      exact (free_back h o hm hs).mono fun e w' ⟨h1, h2⟩ => h2 ▸ .same h hG (.inl ⟨fun d' hd => by (rw [hm] at hd; injection hd with hd; subst hd; omega), rfl, rfl⟩) h1 (Below.refl _ _)
theorem ship_step (h : IsBook n0 w X BL BG lv gs) (hG : GoodB lv gs) (hl : gs.length ≤ 3000000000000) (o : Int) :
    Calls Try.prog 17 #[.pointer (some ⟨X, 0, none⟩), .int .i64 o] w (StepPost n0 X BL BG lv gs (goZ gs o 1) (ShipR lv gs o) w) := by
  cases hm : mget gs o with
  | none =>
    have hz : goZ gs o 1 = 70 := by unfold goZ; rw [hm]
    have hRR : ShipR lv gs o lv gs := .inl ⟨by rw [hz]; decide, rfl, rfl⟩
    rw [hz]
    exact (ship_not h o (.inl ⟨hm, rfl⟩)).mono fun e w' ⟨h1, h2⟩ => h2 ▸ .same h hG hRR h1 (Below.refl _ _)
  | some d =>
    have hg := hG.gk o d hm
    by_cases hs : d.st = 1
    · have hz : goZ gs o 1 = 0 := by unfold goZ; rw [hm]; simp only; rw [if_pos hs]
      have hRR : ShipR lv gs o (mvL shipL lv d.ls) (mset gs o (nextG d)) := .inr ⟨hz, d, hm, hs, rfl, rfl⟩
      rw [hz]
      refine (ship_yes h o hm hs hg.2.1.1.2.2 hg.2.1.2 (hG.kn o d hm) (hG.bd hl)).mono ?_
      rintro e w' ⟨h1, h2, h3⟩
      exact ⟨_, _, h1, h2, hG.ship hm hs, hRR, mset_len, h3⟩
    · have hz : goZ gs o 1 = 130 := by unfold goZ; rw [hm]; simp only; rw [if_neg hs]
      have hRR : ShipR lv gs o lv gs := .inl ⟨by rw [hz]; decide, rfl, rfl⟩
      rw [hz]
      exact (ship_not h o (.inr ⟨d, hm, hs, rfl⟩)).mono fun e w' ⟨h1, h2⟩ => h2 ▸ .same h hG hRR h1 (Below.refl _ _)
theorem restock_step (h : IsBook n0 w X BL BG lv gs) (hG : GoodB lv gs) (hl : gs.length ≤ 3000000000000) (o : Int) :
    Calls Try.prog 18 #[.pointer (some ⟨X, 0, none⟩), .int .i64 o] w (StepPost n0 X BL BG lv gs (goZ gs o 2) (RestockR lv gs o) w) := by
  cases hm : mget gs o with
  | none =>
    have hz : goZ gs o 2 = 70 := by unfold goZ; rw [hm]
    have hRR : RestockR lv gs o lv gs := .inl ⟨by rw [hz]; decide, rfl, rfl⟩
    rw [hz]
    exact (restock_not h o (.inl ⟨hm, rfl⟩)).mono fun e w' ⟨h1, h2⟩ => h2 ▸ .same h hG hRR h1 (Below.refl _ _)
  | some d =>
    have hg := hG.gk o d hm
    by_cases hs : d.st = 2
    · have hz : goZ gs o 2 = 0 := by unfold goZ; rw [hm]; simp only; rw [if_pos hs]
      have hRR : RestockR lv gs o (mvL restockL lv d.ls) (mset gs o (nextG d)) := .inr ⟨hz, d, hm, hs, rfl, rfl⟩
      rw [hz]
      refine (restock_yes h o hm hs hg.2.1.1.2.2 hg.2.1.2 (hG.kn o d hm) (hG.bd hl)).mono ?_
      rintro e w' ⟨h1, h2, h3⟩
      exact ⟨_, _, h1, h2, hG.restock hm hs, hRR, mset_len, h3⟩
    · have hz : goZ gs o 2 = 130 := by unfold goZ; rw [hm]; simp only; rw [if_neg hs]
      have hRR : RestockR lv gs o lv gs := .inl ⟨by rw [hz]; decide, rfl, rfl⟩
      rw [hz]
      exact (restock_not h o (.inr ⟨d, hm, hs, rfl⟩)).mono fun e w' ⟨h1, h2⟩ => h2 ▸ .same h hG hRR h1 (Below.refl _ _)
end

end Go.Proofs.Ythfaaimmfdidnaa
