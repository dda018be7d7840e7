/-
  The stock book: levels and goods, told by two lists; New, Item, Receive.
-/
import Derived.Test.YthfaaimmfdidnaaLnC
import Derived.Test.YthfaaimmfdidnaaMap3
import Derived.RegionTactic
import Derived.Deep.RegionHeld3
import Derived.WalkLawsBesides
namespace Go.Proofs.Ythfaaimmfdidnaa
open Go.RowKit Go.WideShapes Go.ChangeShapes Go.ChangeAt Go.Deep
set_option linter.unusedVariables false

def kI (n : Int) : Value := .int .i64 n
theorem keyL : KeyLaw Try.prog 3 kI := intKey Try.underlying3
/-- An item's level: its block, its numbers. -/
structure Lv where
  g : Nat
  i : Int
  r : Int
  h : Int
  a : Int
  s : Int
  t : Int
/-- An order's goods: their block, where the lines lie. -/
structure Gd where
  g : Nat
  o : Int
  st : Int
  b : Nat
  cap : Nat
  ls : List Ln
def enV (l : Lv) : Array Value := #[.int .i64 l.i, .int .i64 l.r, .int .i64 l.h, .int .i64 l.a, .int .i64 l.s, .int .i64 l.t]
def enG (d : Gd) : Array Value := #[.int .i64 d.o, .int .i64 d.st, .slice (some ⟨d.b, 0, none⟩) d.ls.length d.cap]
def vLv (l : Lv) : Value := .pointer (some ⟨l.g, 0, none⟩)
def vGd (d : Gd) : Value := .pointer (some ⟨d.g, 0, none⟩)
theorem zeroLv (w : World) : (zeroValue 75).run Try.prog w = .ok (.pointer none) w := by kernel_rfl
theorem zeroGd (w : World) : (zeroValue 79).run Try.prog w = .ok (.pointer none) w := by kernel_rfl

/-- A book. -/
structure IsBook (n0 : Nat) (w : World) (X BL BG : Nat) (lv : List (Int × Lv)) (gs : List (Int × Gd)) : Prop where
  blk : Blk w X 74 #[.map (some BL), .map (some BG)]
  lvs : IsMap w BL kI vLv lv
  gds : IsMap w BG kI vGd gs
  lc : ∀ p ∈ lv, Blk w p.2.g 38 (enV p.2)
  la : (lv.map (·.2.g)).Nodup
  gc : ∀ p ∈ gs, Blk w p.2.g 45 (enG p.2)
  ga : (gs.map (·.2.g)).Nodup
  lns : ∀ p ∈ gs, Rd w (some ⟨p.2.b, 0, none⟩) (p.2.ls.flatMap enL) ∧ n0 ≤ p.2.b ∧ ∃ cs, Blk w p.2.b 33 cs
  two : BL ≠ BG
  low : n0 ≤ X ∧ n0 ≤ BL ∧ n0 ≤ BG ∧ (∀ p ∈ lv, n0 ≤ p.2.g) ∧ ∀ p ∈ gs, n0 ≤ p.2.g

/-- The book's blocks that may be written. -/
def Own (BL BG : Nat) (lv : List (Int × Lv)) (gs : List (Int × Gd)) (k : Nat) : Prop := k = BL ∨ k = BG ∨ (∃ p ∈ lv, p.2.g = k) ∨ ∃ p ∈ gs, p.2.g = k

section
variable {n0 : Nat} {w w' : World} {X BL BG : Nat} {lv : List (Int × Lv)} {gs : List (Int × Gd)}
theorem IsBook.own_low (h : IsBook n0 w X BL BG lv gs) {k : Nat} (hk : Own BL BG lv gs k) : n0 ≤ k := by
  rcases hk with rfl | rfl | ⟨p, hp, rfl⟩ | ⟨p, hp, rfl⟩
  · exact h.low.2.1
  · exact h.low.2.2.1
  · exact h.low.2.2.2.1 p hp
  · exact h.low.2.2.2.2 p hp
theorem IsBook.touch {S : Nat → Prop} (h : IsBook n0 w X BL BG lv gs) (ht : Touch S w w') (hX : ¬ S X) (hS : ∀ k, Own BL BG lv gs k → ¬ S k) (hL : ∀ p ∈ gs, ¬ S p.2.b) : IsBook n0 w' X BL BG lv gs :=
  ⟨ht.blk h.blk hX, ht.isMap h.lvs (hS _ (.inl rfl)), ht.isMap h.gds (hS _ (.inr (.inl rfl))), fun p hp => ht.blk (h.lc p hp) (hS _ (.inr (.inr (.inl ⟨p, hp, rfl⟩)))), h.la, fun p hp => ht.blk (h.gc p hp) (hS _ (.inr (.inr (.inr ⟨p, hp, rfl⟩)))), h.ga, fun p hp => by
    obtain ⟨h1, h2, cs, h3⟩ := h.lns p hp
    exact ⟨ht.rd h1 (fun b hb => by simp at hb; subst hb; exact hL p hp), h2, cs, ht.blk h3 (hL p hp)⟩, h.two, h.low⟩
theorem IsBook.next (h : IsBook n0 w X BL BG lv gs) (hb : Below w.heap.size w w') : IsBook n0 w' X BL BG lv gs := h.touch (S := fun _ => False) (.of_below hb) (fun h => h) (fun _ _ h => h) (fun _ _ h => h)
theorem IsBook.alloc (h : IsBook n0 w X BL BG lv gs) (o : Obj) : IsBook n0 (w.alloc o) X BL BG lv gs := h.next ((Below.refl _ _).alloc (Nat.le_refl _) o)
theorem IsBook.cellL (h : IsBook n0 w X BL BG lv gs) : w.cell? ⟨X, 0, none⟩ = some (.map (some BL)) := h.blk.cell 0
theorem IsBook.cellG (h : IsBook n0 w X BL BG lv gs) : w.cell? ⟨X, 1, none⟩ = some (.map (some BG)) := h.blk.cell 1
def ptrL (lv : List (Int × Lv)) (id : Int) : Option Addr := (mget lv id).map fun a => ⟨a.g, 0, none⟩
def ptrG (gs : List (Int × Gd)) (o : Int) : Option Addr := (mget gs o).map fun a => ⟨a.g, 0, none⟩
theorem IsBook.lookL (h : IsBook n0 w X BL BG lv gs) (id : Int) : (Instr.lookup 71 (.map (some BL)) (.int .i64 id) false).run Try.prog w = .ok (.pointer (ptrL lv id)) w := by
  have := h.lvs.look keyL Try.underlying71 (zeroLv _) id
  rw [show looked (.pointer none) vLv lv id = .pointer (ptrL lv id) from by unfold looked ptrL; cases mget lv id <;> rfl] at this
  exact this
theorem IsBook.lookG (h : IsBook n0 w X BL BG lv gs) (o : Int) : (Instr.lookup 72 (.map (some BG)) (.int .i64 o) false).run Try.prog w = .ok (.pointer (ptrG gs o)) w := by
  have := h.gds.look keyL Try.underlying72 (zeroGd _) o
  rw [show looked (.pointer none) vGd gs o = .pointer (ptrG gs o) from by unfold looked ptrG; cases mget gs o <;> rfl] at this
  exact this
theorem IsBook.atL (h : IsBook n0 w X BL BG lv gs) {id : Int} {a : Lv} (ha : mget lv id = some a) : Blk w a.g 38 (enV a) := h.lc (id, a) (mget_mem ha)
theorem IsBook.atG (h : IsBook n0 w X BL BG lv gs) {o : Int} {d : Gd} (hd : mget gs o = some d) : Blk w d.g 45 (enG d) := h.gc (o, d) (mget_mem hd)

/-- Two entries of a map of pointers with one block are one. -/
theorem one_block {ν : Type} {m : List (Int × ν)} {g : ν → Nat} (ha : (m.map (fun p => g p.2)).Nodup) {p : Int × ν} {id : Int} {a : ν} (hp : p ∈ m) (hm : mget m id = some a) (e : g p.2 = g a) : p = (id, a) := by
  obtain ⟨i1, hi1⟩ := List.mem_iff_getElem?.1 hp
  obtain ⟨i2, hi2⟩ := List.mem_iff_getElem?.1 (mget_mem hm)
  have e1 : (m.map (fun p => g p.2))[i1]? = some (g a) := by rw [List.getElem?_map, hi1]; simp [e]
  have e2 : (m.map (fun p => g p.2))[i2]? = some (g a) := by rw [List.getElem?_map, hi2]; rfl
  have hl : i1 < (m.map (fun p => g p.2)).length := (List.getElem?_eq_some_iff.1 e1).1
  have := (List.getElem?_inj hl ha).1 (e1.trans e2.symm)
  subst this
  rw [hi1] at hi2
  injection hi2
theorem gs_same {ν : Type} {m : List (Int × ν)} {g : ν → Nat} {a a' : ν} {id : Int} (ha : mget m id = some a) (hd : (m.map (·.1)).Nodup) (hg : g a' = g a) : (mset m id a').map (fun p => g p.2) = m.map (fun p => g p.2) := by
  have := mset_map_same g ha hd hg
  have := congrArg (List.map Prod.snd) this
  simpa [List.map_map, Function.comp_def] using this
theorem gs_new {ν : Type} {m : List (Int × ν)} {g : ν → Nat} {a : ν} {id : Int} (hm : mget m id = none) (hd : (m.map (fun p => g p.2)).Nodup) (hf : ∀ p ∈ m, g p.2 ≠ g a) : ((mset m id a).map (fun p => g p.2)).Nodup := by
  rw [mset_new hm, List.map_append]
  refine List.nodup_append.2 ⟨hd, by simp, fun x hx y hy e => ?_⟩
  obtain ⟨p, hp, rfl⟩ := List.mem_map.1 hx
  simp at hy
  exact hf p hp (e.trans hy)

/-- A level's block written anew. -/
theorem IsBook.putL {a a' : Lv} {id : Int} (h : IsBook n0 w X BL BG lv gs) (ha : mget lv id = some a) (hg : a'.g = a.g) (ht : Touch (· = a.g) w w') (hB : Blk w' a.g 38 (enV a')) : IsBook n0 w' X BL BG (mset lv id a') gs := by
  have hd := h.lvs.nodup
  have hc := h.atL ha
  refine ⟨ht.blk h.blk (h.blk.ne_ hc (by decide)), ht.isMap (h.lvs.same (mset_map_same vLv ha hd (by unfold vLv; rw [hg]))) (fun e => h.lvs.notBlk hc e), ht.isMap h.gds (fun e => h.gds.notBlk hc e), fun p hp => ?_, ?_, fun p hp => ht.blk (h.gc p hp) ((h.gc p hp).ne_ hc (by decide)), h.ga, fun p hp => ?_, h.two, ?_⟩
  · rcases mem_mset hp with rfl | ⟨hp', hne⟩
    · show Blk w' a'.g _ _
      rw [hg]; exact hB
    · exact ht.blk (h.lc p hp') (fun e => hne (by rw [one_block (g := Lv.g) h.la hp' ha e]))
  · exact (gs_same (g := Lv.g) ha hd hg).symm ▸ h.la
  · obtain ⟨h1, h2, cs, h3⟩ := h.lns p hp
    have hn : ¬ p.2.b = a.g := h3.ne_ hc (by decide)
    exact ⟨ht.rd h1 (fun b hb => by simp at hb; subst hb; exact hn), h2, cs, ht.blk h3 hn⟩
  · refine ⟨h.low.1, h.low.2.1, h.low.2.2.1, fun p hp => ?_, h.low.2.2.2.2⟩
    rcases mem_mset hp with rfl | ⟨hp', _⟩
    · show n0 ≤ a'.g
      rw [hg]; exact h.low.2.2.2.1 _ (mget_mem ha)
    · exact h.low.2.2.2.1 p hp'
/-- A level more. -/
theorem IsBook.addL {a : Lv} {id : Int} (h : IsBook n0 w X BL BG lv gs) (hm : mget lv id = none) (hB : Blk w a.g 38 (enV a)) (hf : ∀ p ∈ lv, p.2.g ≠ a.g) (hn : n0 ≤ a.g) (hM : IsMap w' BL kI vLv (mset lv id a)) (hgr : w.grownBy w' (some BL)) : IsBook n0 w' X BL BG (mset lv id a) gs := by
  have ht := Touch.of_grown hgr
  have nB : ∀ {g : Nat} {t : TypeId} {cs : Array Value}, Blk w g t cs → ¬ g = BL := fun hb e => h.lvs.notBlk hb e.symm
  refine ⟨ht.blk h.blk (nB h.blk), hM, ht.isMap h.gds (fun e => h.two e.symm), fun p hp => ?_, gs_new (g := Lv.g) hm h.la hf, fun p hp => ht.blk (h.gc p hp) (nB (h.gc p hp)), h.ga, fun p hp => ?_, h.two, ?_⟩
  · rcases mem_mset hp with rfl | ⟨hp', _⟩
    · exact ht.blk hB (nB hB)
    · exact ht.blk (h.lc p hp') (nB (h.lc p hp'))
  · obtain ⟨h1, h2, cs, h3⟩ := h.lns p hp
    exact ⟨ht.rd h1 (fun b hb => by simp at hb; subst hb; exact nB h3), h2, cs, ht.blk h3 (nB h3)⟩
  · refine ⟨h.low.1, h.low.2.1, h.low.2.2.1, fun p hp => ?_, h.low.2.2.2.2⟩
    rcases mem_mset hp with rfl | ⟨hp', _⟩
    · exact hn
    · exact h.low.2.2.2.1 p hp'
/-- Goods written anew (their state). -/
theorem IsBook.putG {d d' : Gd} {o : Int} (h : IsBook n0 w X BL BG lv gs) (hm : mget gs o = some d) (hg : d'.g = d.g) (hb : d'.b = d.b) (hls : d'.ls = d.ls) (ht : Touch (· = d.g) w w') (hB : Blk w' d.g 45 (enG d')) : IsBook n0 w' X BL BG lv (mset gs o d') := by
  have hd := h.gds.nodup
  have hc := h.atG hm
  refine ⟨ht.blk h.blk (h.blk.ne_ hc (by decide)), ht.isMap h.lvs (fun e => h.lvs.notBlk hc e), ht.isMap (h.gds.same (mset_map_same vGd hm hd (by unfold vGd; rw [hg]))) (fun e => h.gds.notBlk hc e), fun p hp => ht.blk (h.lc p hp) ((h.lc p hp).ne_ hc (by decide)), h.la, fun p hp => ?_, ?_, fun p hp => ?_, h.two, ?_⟩
  · rcases mem_mset hp with rfl | ⟨hp', hne⟩
    · show Blk w' d'.g _ _
      rw [hg]; exact hB
    · exact ht.blk (h.gc p hp') (fun e => hne (by rw [one_block (g := Gd.g) h.ga hp' hm e]))
  · exact (gs_same (g := Gd.g) hm hd hg).symm ▸ h.ga
  · have keep : ∀ q ∈ gs, Rd w' (some ⟨q.2.b, 0, none⟩) (q.2.ls.flatMap enL) ∧ n0 ≤ q.2.b ∧ ∃ cs, Blk w' q.2.b 33 cs := fun q hq => by
      obtain ⟨h1, h2, cs, h3⟩ := h.lns q hq
      have hn : ¬ q.2.b = d.g := h3.ne_ hc (by decide)
      exact ⟨ht.rd h1 (fun b hb => by simp at hb; subst hb; exact hn), h2, cs, ht.blk h3 hn⟩
    rcases mem_mset hp with rfl | ⟨hp', _⟩
    · have := keep _ (mget_mem hm)
      simp only at this ⊢
      rw [hb, hls]
      exact this
    · exact keep p hp'
  · refine ⟨h.low.1, h.low.2.1, h.low.2.2.1, h.low.2.2.2.1, fun p hp => ?_⟩
    rcases mem_mset hp with rfl | ⟨hp', _⟩
    · show n0 ≤ d'.g
      rw [hg]; exact h.low.2.2.2.2 _ (mget_mem hm)
    · exact h.low.2.2.2.2 p hp'
/-- Goods more. -/
theorem IsBook.addG {d : Gd} {o : Int} (h : IsBook n0 w X BL BG lv gs) (hm : mget gs o = none) (hB : Blk w d.g 45 (enG d)) (hf : ∀ p ∈ gs, p.2.g ≠ d.g) (hn : n0 ≤ d.g) (hR : Rd w (some ⟨d.b, 0, none⟩) (d.ls.flatMap enL)) (hnb : n0 ≤ d.b) (hk : ∃ cs, Blk w d.b 33 cs) (hM : IsMap w' BG kI vGd (mset gs o d)) (hgr : w.grownBy w' (some BG)) : IsBook n0 w' X BL BG lv (mset gs o d) := by
  have ht := Touch.of_grown hgr
  have nB : ∀ {g : Nat} {t : TypeId} {cs : Array Value}, Blk w g t cs → ¬ g = BG := fun hb e => h.gds.notBlk hb e.symm
  refine ⟨ht.blk h.blk (nB h.blk), ht.isMap h.lvs h.two, hM, fun p hp => ht.blk (h.lc p hp) (nB (h.lc p hp)), h.la, fun p hp => ?_, gs_new (g := Gd.g) hm h.ga hf, fun p hp => ?_, h.two, ?_⟩
  · rcases mem_mset hp with rfl | ⟨hp', _⟩
    · exact ht.blk hB (nB hB)
    · exact ht.blk (h.gc p hp') (nB (h.gc p hp'))
  · rcases mem_mset hp with rfl | ⟨hp', _⟩
    · obtain ⟨cs, h3⟩ := hk
      exact ⟨ht.rd hR (fun b hb => by simp at hb; subst hb; exact nB h3), hnb, cs, ht.blk h3 (nB h3)⟩
    · obtain ⟨h1, h2, cs, h3⟩ := h.lns p hp'
      exact ⟨ht.rd h1 (fun b hb => by simp at hb; subst hb; exact nB h3), h2, cs, ht.blk h3 (nB h3)⟩
  · refine ⟨h.low.1, h.low.2.1, h.low.2.2.1, h.low.2.2.2.1, fun p hp => ?_⟩
    rcases mem_mset hp with rfl | ⟨hp', _⟩
    · exact hn
    · exact h.low.2.2.2.2 p hp'
/-- Goods less. -/
theorem IsBook.delG {o : Int} (h : IsBook n0 w X BL BG lv gs) (hM : IsMap w' BG kI vGd (mdel gs o)) (hgr : w.grownBy w' (some BG)) : IsBook n0 w' X BL BG lv (mdel gs o) := by
  have ht := Touch.of_grown hgr
  have nB : ∀ {g : Nat} {t : TypeId} {cs : Array Value}, Blk w g t cs → ¬ g = BG := fun hb e => h.gds.notBlk hb e.symm
  refine ⟨ht.blk h.blk (nB h.blk), ht.isMap h.lvs h.two, hM, fun p hp => ht.blk (h.lc p hp) (nB (h.lc p hp)), h.la, fun p hp => ht.blk (h.gc p (mem_mdel hp).1) (nB (h.gc p (mem_mdel hp).1)), ?_, fun p hp => ?_, h.two, ?_⟩
  · unfold mdel
    exact h.ga.sublist (List.Sublist.map _ List.filter_sublist)
  · obtain ⟨h1, h2, cs, h3⟩ := h.lns p (mem_mdel hp).1
    exact ⟨ht.rd h1 (fun b hb => by simp at hb; subst hb; exact nB h3), h2, cs, ht.blk h3 (nB h3)⟩
  · exact ⟨h.low.1, h.low.2.1, h.low.2.2.1, h.low.2.2.2.1, fun p hp => h.low.2.2.2.2 p (mem_mdel hp).1⟩

theorem new_any (w : World) : Calls Try.prog 10 #[] w fun e w' =>
    ∃ X BL BG, e = .returned (.pointer (some ⟨X, 0, none⟩)) ∧ IsBook w.heap.size w' X BL BG [] [] ∧ Below w.heap.size w w' := by
  have hmm := @run_makeMap Try.prog
  have hM1 := ((IsMap.made w kI vLv).alloc (.map #[] 0)).alloc (.cells #[.map (some w.heap.size), .map (some (w.heap.size + 1))] 74)
  have hM2 := (IsMap.made (w.alloc (.map #[] 0)) kI vGd).alloc (.cells #[.map (some w.heap.size), .map (some (w.heap.size + 1))] 74)
  have hb := Blk.new ((w.alloc (.map #[] 0)).alloc (.map #[] 0)) 74 #[.map (some w.heap.size), .map (some (w.heap.size + 1))]
  rw [World.size_alloc] at hM2
  rw [World.size_alloc, World.size_alloc] at hb
  have H := hid (show IsBook w.heap.size (((w.alloc (.map #[] 0)).alloc (.map #[] 0)).alloc (.cells #[.map (some w.heap.size), .map (some (w.heap.size + 1))] 74)) (w.heap.size + 1 + 1) w.heap.size (w.heap.size + 1) [] [] from
    ⟨hb, hM1, hM2, (fun p hp => by cases hp), by simp, (fun p hp => by cases hp), by simp, (fun p hp => by cases hp), by omega, by omega, by omega, by omega, (fun p hp => by cases hp), (fun p hp => by cases hp)⟩)
  clear hb hM1 hM2
  go_enter Try.func10, Try.ntmps10
  go_wp2_with fail
  go_ret
  exact ⟨w.heap.size + 1 + 1, w.heap.size, w.heap.size + 1, by simp, H.out, (((Below.refl _ _).alloc (Nat.le_refl _) _).alloc (by simp) _).alloc (by simp; omega) _⟩
end

end Go.Proofs.Ythfaaimmfdidnaa
