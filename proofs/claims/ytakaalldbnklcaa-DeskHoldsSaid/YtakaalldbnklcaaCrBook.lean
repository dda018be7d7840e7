/-
  The credit book: what its functions do, told by two lists.
-/
import Derived.Test.YtakaalldbnklcaaTouch
import Derived.RegionTactic
import Derived.Deep.RegionHeld3
import Derived.WalkLawsBesides
namespace Go.Proofs.Ytakaalldbnklcaa.Cr
open Go.RowKit
set_option linter.unusedVariables false

theorem keyI : KeyLaw Try.prog 3 (fun n : Int => Value.int .i64 n) := intKey Try.underlying3

/-- An account: its block, its limit, its exposure. -/
structure Acc where
  g : Nat
  l : Int
  e : Int
structure Hd where
  o : Int
  c : Int
  a : Int
def vAcc (a : Acc) : Value := .pointer (some ⟨a.g, 0, none⟩)
def enH (h : Hd) : Value := .agg #[.int .i64 h.o, .int .i64 h.c, .int .i64 h.a]
def kI (n : Int) : Value := .int .i64 n
theorem keyL : KeyLaw Try.prog 3 kI := keyI
theorem zeroAcc (w : World) : (zeroValue 66).run Try.prog w = .ok (.pointer none) w := by kernel_rfl
theorem zeroHd (w : World) : (zeroValue 121).run Try.prog w = .ok (enH ⟨0, 0, 0⟩) w := by kernel_rfl

/-- A book: the struct at block X, its maps at BA and BH, nothing of it below n0. -/
structure IsBook (n0 : Nat) (w : World) (X BA BH : Nat) (ac : List (Int × Acc)) (hs : List (Int × Hd)) : Prop where
  blk : Blk w X 70 #[.map (some BA), .map (some BH)]
  acs : IsMap w BA kI vAcc ac
  hds : IsMap w BH kI enH hs
  cells : ∀ p ∈ ac, Blk w p.2.g 72 #[.int .i64 p.2.l, .int .i64 p.2.e]
  apart : (ac.map (·.2.g)).Nodup
  has : ∀ p ∈ hs, ∃ a, mget ac p.2.c = some a
  two : BA ≠ BH
  low : n0 ≤ X ∧ n0 ≤ BA ∧ n0 ≤ BH ∧ ∀ p ∈ ac, n0 ≤ p.2.g

/-- The book's blocks that may be written. -/
def Own (BA BH : Nat) (ac : List (Int × Acc)) (k : Nat) : Prop := k = BA ∨ k = BH ∨ ∃ p ∈ ac, p.2.g = k

section
variable {n0 : Nat} {w w' : World} {X BA BH : Nat} {ac : List (Int × Acc)} {hs : List (Int × Hd)}
theorem IsBook.own_low (h : IsBook n0 w X BA BH ac hs) {k : Nat} (hk : Own BA BH ac k) : n0 ≤ k := by
  rcases hk with rfl | rfl | ⟨p, hp, rfl⟩
  · exact h.low.2.1
  · exact h.low.2.2.1
  · exact h.low.2.2.2 p hp
theorem IsBook.own_lt (h : IsBook n0 w X BA BH ac hs) {k : Nat} (hk : Own BA BH ac k) : k < w.heap.size := by
  rcases hk with rfl | rfl | ⟨p, hp, rfl⟩
  · exact h.acs.lt
  · exact h.hds.lt
  · exact (h.cells p hp).lt
theorem IsBook.touch {S : Nat → Prop} (h : IsBook n0 w X BA BH ac hs) (ht : Touch S w w') (hX : ¬ S X) (hS : ∀ k, Own BA BH ac k → ¬ S k) : IsBook n0 w' X BA BH ac hs :=
  ⟨ht.blk h.blk hX, ht.isMap h.acs (hS _ (.inl rfl)), ht.isMap h.hds (hS _ (.inr (.inl rfl))), fun p hp => ht.blk (h.cells p hp) (hS _ (.inr (.inr ⟨p, hp, rfl⟩))), h.apart, h.has, h.two, h.low⟩
theorem IsBook.next (h : IsBook n0 w X BA BH ac hs) (hb : Below w.heap.size w w') : IsBook n0 w' X BA BH ac hs := h.touch (S := fun _ => False) (.of_below hb) (fun h => h) (fun _ _ h => h)
theorem IsBook.alloc (h : IsBook n0 w X BA BH ac hs) (o : Obj) : IsBook n0 (w.alloc o) X BA BH ac hs := h.next ((Below.refl _ _).alloc (Nat.le_refl _) o)
theorem IsBook.drewN (h : IsBook n0 w X BA BH ac hs) (n : Nat) : IsBook n0 (w.drewN n) X BA BH ac hs := h.next (below_drewN (Below.refl _ _) n)
theorem IsBook.drew (h : IsBook n0 w X BA BH ac hs) : IsBook n0 w.drew X BA BH ac hs := h.next ((Below.refl _ _).drew)
theorem IsBook.cellA (h : IsBook n0 w X BA BH ac hs) : w.cell? ⟨X, 0, none⟩ = some (.map (some BA)) := h.blk.cell 0
theorem IsBook.cellH (h : IsBook n0 w X BA BH ac hs) : w.cell? ⟨X, 1, none⟩ = some (.map (some BH)) := h.blk.cell 1
theorem IsBook.at_ (h : IsBook n0 w X BA BH ac hs) {id : Int} {a : Acc} (ha : mget ac id = some a) : Blk w a.g 72 #[.int .i64 a.l, .int .i64 a.e] := h.cells (id, a) (mget_mem ha)

/-- What an account's look-up gives. -/
def ptrOf (ac : List (Int × Acc)) (id : Int) : Option Addr := (mget ac id).map fun a => ⟨a.g, 0, none⟩
theorem IsBook.lookA (h : IsBook n0 w X BA BH ac hs) (id : Int) : (Instr.lookup 67 (.map (some BA)) (.int .i64 id) false).run Try.prog w = .ok (.pointer (ptrOf ac id)) w := by
  have := h.acs.look keyL Try.underlying67 (zeroAcc _) id
  rw [show looked (.pointer none) vAcc ac id = .pointer (ptrOf ac id) from by unfold looked ptrOf; cases mget ac id <;> rfl] at this
  exact this
theorem IsBook.lookH (h : IsBook n0 w X BA BH ac hs) (o : Int) : (Instr.lookup 68 (.map (some BH)) (.int .i64 o) true).run Try.prog w = .ok (.tuple #[enH ((mget hs o).getD ⟨0, 0, 0⟩), .bool (mget hs o).isSome]) w := by
  have := h.hds.lookOk keyL Try.underlying68 (zeroHd _) o
  rw [show looked (enH ⟨0, 0, 0⟩) enH hs o = enH ((mget hs o).getD ⟨0, 0, 0⟩) from by unfold looked; cases mget hs o <;> rfl] at this
  exact this

theorem gs_mset {a a' : Acc} {id : Int} (ha : mget ac id = some a) (hd : (ac.map (·.1)).Nodup) (hg : a'.g = a.g) : (mset ac id a').map (·.2.g) = ac.map (·.2.g) := by
  have := mset_map_same (fun a : Acc => a.g) ha hd hg
  have := congrArg (List.map Prod.snd) this
  simpa [List.map_map, Function.comp_def] using this

/-- An account's cells written anew. -/
theorem IsBook.put {a a' : Acc} {id : Int} {i : Nat} {v : Value} (h : IsBook n0 w X BA BH ac hs) (ha : mget ac id = some a) (hg : a'.g = a.g)
    (hc : (#[.int .i64 a.l, .int .i64 a.e] : Array Value).setIfInBounds i v = #[.int .i64 a'.l, .int .i64 a'.e]) :
    IsBook n0 (w.setCell ⟨a.g, i, none⟩ v) X BA BH (mset ac id a') hs := by
  have hd := h.acs.nodup
  have hcell := h.at_ ha
  have ht := Touch.setCell w a.g i v
  have nX : X ≠ a.g := by
    rintro rfl
    have h1 := h.blk
    unfold Blk at h1 hcell
    rw [h1] at hcell
    injection hcell with e
    injection e with e _
    simp at e
  refine ⟨ht.blk h.blk nX, ht.isMap (h.acs.same ?_) (fun e => h.acs.notBlk hcell e), ht.isMap h.hds (fun e => h.hds.notBlk hcell e), ?_, ?_, ?_, h.two, ?_⟩
  · exact mset_map_same vAcc ha hd (by unfold vAcc; rw [hg])
  · intro p hp
    rcases mem_mset hp with rfl | ⟨hp', hne⟩
    · have := hcell.set_ i v
      rw [hc] at this
      simpa [hg] using this
    · have hgp : p.2.g ≠ a.g := by
        intro e
        have h1 := mget_of_mem hd hp'
        have hm : (p.1, p.2) ∈ ac := hp'
        have hm2 := mget_mem ha
        obtain ⟨i1, hi1⟩ := List.mem_iff_getElem?.1 hp'
        obtain ⟨i2, hi2⟩ := List.mem_iff_getElem?.1 hm2
        have e1 : (ac.map (·.2.g))[i1]? = some a.g := by rw [List.getElem?_map, hi1]; simp [e]
        have e2 : (ac.map (·.2.g))[i2]? = some a.g := by rw [List.getElem?_map, hi2]; rfl
        have hl : i1 < (ac.map (·.2.g)).length := (List.getElem?_eq_some_iff.1 e1).1
        have := (List.getElem?_inj hl h.apart).1 (e1.trans e2.symm)
        subst this
        rw [hi1] at hi2
        injection hi2 with hi2
        exact hne (by rw [hi2])
      exact ht.blk (h.cells p hp') hgp
  · rw [gs_mset ha hd hg]; exact h.apart
  · intro p hp
    obtain ⟨b, hb⟩ := h.has p hp
    rw [mget_mset]
    split
    · exact ⟨a', rfl⟩
    · exact ⟨b, hb⟩
  · refine ⟨h.low.1, h.low.2.1, h.low.2.2.1, fun p hp => ?_⟩
    rcases mem_mset hp with rfl | ⟨hp', _⟩
    · show n0 ≤ a'.g
      rw [hg]; exact h.low.2.2.2 _ (mget_mem ha)
    · exact h.low.2.2.2 p hp'

theorem notX {g : Nat} {cs : Array Value} (h : IsBook n0 w X BA BH ac hs) (hg : Blk w g 72 cs) : X ≠ g := h.blk.ne_ hg (by decide)

/-- A new account. -/
theorem IsBook.add {a : Acc} {id : Int} (h : IsBook n0 w X BA BH ac hs) (hm : mget ac id = none) (hg : Blk w a.g 72 #[.int .i64 a.l, .int .i64 a.e]) (hf : ∀ p ∈ ac, p.2.g ≠ a.g) (hn : n0 ≤ a.g)
    (hM : IsMap w' BA kI vAcc (mset ac id a)) (hgr : w.grownBy w' (some BA)) : IsBook n0 w' X BA BH (mset ac id a) hs := by
  have ht := Touch.of_grown hgr
  have nB : ∀ {g : Nat} {t : TypeId} {cs : Array Value}, Blk w g t cs → ¬ g = BA := fun hb e => h.acs.notBlk hb e.symm
  refine ⟨ht.blk h.blk (nB h.blk), hM, ht.isMap h.hds (fun e => h.two e.symm), ?_, ?_, ?_, h.two, ?_⟩
  · intro p hp
    rcases mem_mset hp with rfl | ⟨hp', _⟩
    · exact ht.blk hg (nB hg)
    · exact ht.blk (h.cells p hp') (nB (h.cells p hp'))
  · rw [mset_new hm, List.map_append]
    refine List.nodup_append.2 ⟨h.apart, by simp, fun x hx y hy e => ?_⟩
    obtain ⟨p, hp, rfl⟩ := List.mem_map.1 hx
    simp at hy
    exact hf p hp (e.trans hy)
  · intro p hp
    obtain ⟨b, hb⟩ := h.has p hp
    rw [mget_mset]
    split
    · exact ⟨a, rfl⟩
    · exact ⟨b, hb⟩
  · refine ⟨h.low.1, h.low.2.1, h.low.2.2.1, fun p hp => ?_⟩
    rcases mem_mset hp with rfl | ⟨hp', _⟩
    · exact hn
    · exact h.low.2.2.2 p hp'

/-- A hold more. -/
theorem IsBook.hold {d : Hd} {o : Int} (h : IsBook n0 w X BA BH ac hs) (hc : ∃ a, mget ac d.c = some a) (hM : IsMap w' BH kI enH (mset hs o d)) (hgr : w.grownBy w' (some BH)) : IsBook n0 w' X BA BH ac (mset hs o d) := by
  have ht := Touch.of_grown hgr
  have nB : ∀ {g : Nat} {t : TypeId} {cs : Array Value}, Blk w g t cs → ¬ g = BH := fun hb e => h.hds.notBlk hb e.symm
  refine ⟨ht.blk h.blk (nB h.blk), ht.isMap h.acs h.two, hM, fun p hp => ht.blk (h.cells p hp) (nB (h.cells p hp)), h.apart, ?_, h.two, h.low⟩
  intro p hp
  rcases mem_mset hp with rfl | ⟨hp', _⟩
  · exact hc
  · exact h.has p hp'
/-- A hold less. -/
theorem IsBook.free {o : Int} (h : IsBook n0 w X BA BH ac hs) (hM : IsMap w' BH kI enH (mdel hs o)) (hgr : w.grownBy w' (some BH)) : IsBook n0 w' X BA BH ac (mdel hs o) := by
  have ht := Touch.of_grown hgr
  have nB : ∀ {g : Nat} {t : TypeId} {cs : Array Value}, Blk w g t cs → ¬ g = BH := fun hb e => h.hds.notBlk hb e.symm
  exact ⟨ht.blk h.blk (nB h.blk), ht.isMap h.acs h.two, hM, fun p hp => ht.blk (h.cells p hp) (nB (h.cells p hp)), h.apart, fun p hp => h.has p (mem_mdel hp).1, h.two, h.low⟩
end

end Go.Proofs.Ytakaalldbnklcaa.Cr
