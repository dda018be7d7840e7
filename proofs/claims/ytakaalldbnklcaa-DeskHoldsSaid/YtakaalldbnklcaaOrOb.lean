/-
  The orders' book: prices and orders, told by two lists; New, Item.
-/
import Derived.Test.YtakaalldbnklcaaLn
import Derived.Test.YtakaalldbnklcaaIsWord
import Derived.RegionTactic
import Derived.Deep.RegionHeld3
import Derived.WalkLawsBesides
namespace Go.Proofs.Ytakaalldbnklcaa.Or
open Go.RowKit Go.WideShapes Go.ChangeShapes Go.ChangeAt Go.Deep
set_option linter.unusedVariables false

def kI (n : Int) : Value := .int .i64 n
theorem keyL : KeyLaw Try.prog 3 kI := intKey Try.underlying3
/-- An order, and where its lines lie. -/
structure Od where
  i : Int
  c : Int
  f : ByteArray
  b : Nat
  cap : Nat
  ls : List Ln
  n : Int
  t : Int
def enO (o : Od) : Value := .agg #[.int .i64 o.i, .int .i64 o.c, .string o.f, .slice (some ⟨o.b, 0, none⟩) o.ls.length o.cap, .int .i64 o.n, .int .i64 o.t]
def zO : Value := .agg #[.int .i64 0, .int .i64 0, .string ByteArray.empty, .slice none 0 0, .int .i64 0, .int .i64 0]
theorem zeroO (w : World) : (zeroValue 47).run Try.prog w = .ok zO w := by kernel_rfl
theorem zeroI (w : World) : (zeroValue 3).run Try.prog w = .ok (kI 0) w := by kernel_rfl

/-- A book. -/
structure IsBook (n0 : Nat) (w : World) (X BP BO : Nat) (pr : List (Int × Int)) (os : List (Int × Od)) : Prop where
  blk : Blk w X 76 #[.map (some BP), .map (some BO)]
  prs : IsMap w BP kI kI pr
  ods : IsMap w BO kI enO os
  lns : ∀ p ∈ os, Rd w (some ⟨p.2.b, 0, none⟩) (p.2.ls.flatMap enL) ∧ n0 ≤ p.2.b ∧ ∃ cs, Blk w p.2.b 45 cs
  two : BP ≠ BO
  low : n0 ≤ X ∧ n0 ≤ BP ∧ n0 ≤ BO

section
variable {n0 : Nat} {w w' : World} {X BP BO : Nat} {pr : List (Int × Int)} {os : List (Int × Od)}
/-- The book's blocks that may be written. -/
def Own (BP BO : Nat) (k : Nat) : Prop := k = BP ∨ k = BO
theorem IsBook.own_low (h : IsBook n0 w X BP BO pr os) {k : Nat} (hk : Own BP BO k) : n0 ≤ k := by
  rcases hk with rfl | rfl
  · exact h.low.2.1
  · exact h.low.2.2
/-- What touches none of the book's blocks. -/
theorem IsBook.touch {S : Nat → Prop} (h : IsBook n0 w X BP BO pr os) (ht : Touch S w w') (hX : ¬ S X) (hS : ¬ S BP ∧ ¬ S BO) (hL : ∀ p ∈ os, ¬ S p.2.b) : IsBook n0 w' X BP BO pr os :=
  ⟨ht.blk h.blk hX, ht.isMap h.prs hS.1, ht.isMap h.ods hS.2, fun p hp => by
    obtain ⟨h1, h2, cs, h3⟩ := h.lns p hp
    exact ⟨ht.rd h1 (fun b hb => by simp at hb; subst hb; exact hL p hp), h2, cs, ht.blk h3 (hL p hp)⟩, h.two, h.low⟩
theorem IsBook.next (h : IsBook n0 w X BP BO pr os) (hb : Below w.heap.size w w') : IsBook n0 w' X BP BO pr os := h.touch (S := fun _ => False) (.of_below hb) (fun h => h) ⟨fun h => h, fun h => h⟩ (fun _ _ h => h)
theorem IsBook.alloc (h : IsBook n0 w X BP BO pr os) (o : Obj) : IsBook n0 (w.alloc o) X BP BO pr os := h.next ((Below.refl _ _).alloc (Nat.le_refl _) o)
theorem IsBook.drewN (h : IsBook n0 w X BP BO pr os) (n : Nat) : IsBook n0 (w.drewN n) X BP BO pr os := h.next (below_drewN (Below.refl _ _) n)
theorem IsBook.drew (h : IsBook n0 w X BP BO pr os) : IsBook n0 w.drew X BP BO pr os := h.next ((Below.refl _ _).drew)
theorem IsBook.cellP (h : IsBook n0 w X BP BO pr os) : w.cell? ⟨X, 0, none⟩ = some (.map (some BP)) := h.blk.cell 0
theorem IsBook.cellO (h : IsBook n0 w X BP BO pr os) : w.cell? ⟨X, 1, none⟩ = some (.map (some BO)) := h.blk.cell 1
theorem IsBook.lookP (h : IsBook n0 w X BP BO pr os) (id : Int) : (Instr.lookup 73 (.map (some BP)) (.int .i64 id) true).run Try.prog w = .ok (.tuple #[.int .i64 ((mget pr id).getD 0), .bool (mget pr id).isSome]) w := by
  have := h.prs.lookOk keyL Try.underlying73 (zeroI _) id
  rw [show looked (kI 0) kI pr id = .int .i64 ((mget pr id).getD 0) from by unfold looked; cases mget pr id <;> rfl] at this
  exact this
theorem IsBook.lookO (h : IsBook n0 w X BP BO pr os) (id : Int) : (Instr.lookup 74 (.map (some BO)) (.int .i64 id) true).run Try.prog w = .ok (.tuple #[looked zO enO os id, .bool (mget os id).isSome]) w :=
  h.ods.lookOk keyL Try.underlying74 (zeroO _) id

theorem new_any (w : World) : Calls Try.prog 20 #[] w fun e w' =>
    ∃ X BP BO, e = .returned (.pointer (some ⟨X, 0, none⟩)) ∧ IsBook w.heap.size w' X BP BO [] [] ∧ Below w.heap.size w w' := by
  have hmm := @run_makeMap Try.prog
  have hM1 := ((IsMap.made w kI kI).alloc (.map #[] 0)).alloc (.cells #[.map (some w.heap.size), .map (some (w.heap.size + 1))] 76)
  have hM2 := (IsMap.made (w.alloc (.map #[] 0)) kI enO).alloc (.cells #[.map (some w.heap.size), .map (some (w.heap.size + 1))] 76)
  have hb := Blk.new ((w.alloc (.map #[] 0)).alloc (.map #[] 0)) 76 #[.map (some w.heap.size), .map (some (w.heap.size + 1))]
  rw [World.size_alloc] at hM2
  rw [World.size_alloc, World.size_alloc] at hb
  have H := hid (show IsBook w.heap.size (((w.alloc (.map #[] 0)).alloc (.map #[] 0)).alloc (.cells #[.map (some w.heap.size), .map (some (w.heap.size + 1))] 76)) (w.heap.size + 1 + 1) w.heap.size (w.heap.size + 1) [] [] from
    ⟨hb, hM1, hM2, (fun p hp => by cases hp), by omega, by omega, by omega, by omega⟩)
  clear hb hM1 hM2
  go_enter Try.func20, Try.ntmps20
  go_wp2_with fail
  go_ret
  exact ⟨w.heap.size + 1 + 1, w.heap.size, w.heap.size + 1, by simp, H.out, (((Below.refl _ _).alloc (Nat.le_refl _) _).alloc (by simp) _).alloc (by simp; omega) _⟩

/-- A price more. -/
theorem IsBook.price {v id : Int} (h : IsBook n0 w X BP BO pr os) (hM : IsMap w' BP kI kI (mset pr id v)) (hgr : w.grownBy w' (some BP)) : IsBook n0 w' X BP BO (mset pr id v) os := by
  have ht := Touch.of_grown hgr
  have nB : ∀ {g : Nat} {t : TypeId} {cs : Array Value}, Blk w g t cs → ¬ g = BP := fun hb e => h.prs.notBlk hb e.symm
  exact ⟨ht.blk h.blk (nB h.blk), hM, ht.isMap h.ods (fun e => h.two e.symm), fun p hp => by
    obtain ⟨h1, h2, cs, h3⟩ := h.lns p hp
    exact ⟨ht.rd h1 (fun b hb => by simp at hb; subst hb; exact nB h3), h2, cs, ht.blk h3 (nB h3)⟩, h.two, h.low⟩
/-- An order more. -/
theorem IsBook.order {o : Od} {id : Int} (h : IsBook n0 w X BP BO pr os) (hR : Rd w (some ⟨o.b, 0, none⟩) (o.ls.flatMap enL)) (hn : n0 ≤ o.b) (hk : ∃ cs, Blk w o.b 45 cs) (hM : IsMap w' BO kI enO (mset os id o)) (hgr : w.grownBy w' (some BO)) : IsBook n0 w' X BP BO pr (mset os id o) := by
  have ht := Touch.of_grown hgr
  have nB : ∀ {g : Nat} {t : TypeId} {cs : Array Value}, Blk w g t cs → ¬ g = BO := fun hb e => h.ods.notBlk hb e.symm
  refine ⟨ht.blk h.blk (nB h.blk), ht.isMap h.prs h.two, hM, fun p hp => ?_, h.two, h.low⟩
  rcases mem_mset hp with rfl | ⟨hp', _⟩
  · obtain ⟨cs, h3⟩ := hk
    exact ⟨ht.rd hR (fun b hb => by simp at hb; subst hb; exact nB h3), hn, cs, ht.blk h3 (nB h3)⟩
  · obtain ⟨h1, h2, cs, h3⟩ := h.lns p hp'
    exact ⟨ht.rd h1 (fun b hb => by simp at hb; subst hb; exact nB h3), h2, cs, ht.blk h3 (nB h3)⟩

def itemOk (id p : Int) : Prop := 1 ≤ id ∧ id ≤ 64 ∧ 0 ≤ p ∧ p ≤ 1000000

set_option maxRecDepth 100000 in
set_option maxHeartbeats 2000000 in
theorem item_no (h : IsBook n0 w X BP BO pr os) (id p : Int) (hno : ¬ itemOk id p) :
    Calls Try.prog 9 #[.pointer (some ⟨X, 0, none⟩), .int .i64 id, .int .i64 p] w fun e w' => e = .returned (.int .i64 2) ∧ w = w' := by
  unfold itemOk at hno
  rcases (show id < 1 ∨ (1 ≤ id ∧ 64 < id) ∨ ((1 ≤ id ∧ id ≤ 64) ∧ p < 0) ∨ ((1 ≤ id ∧ id ≤ 64 ∧ 0 ≤ p) ∧ 1000000 < p) from by omega) with h1 | ⟨h1, h2⟩ | ⟨⟨h1, h2⟩, h3⟩ | ⟨⟨h1, h2, h3⟩, h4⟩
  all_goals
    clear hno
    go_enter Try.func9, Try.ntmps9
    go_wp2_with fail
    go_ret
    exact ⟨rfl, rfl⟩

set_option maxRecDepth 100000 in
set_option maxHeartbeats 2000000 in
theorem item_yes (h : IsBook n0 w X BP BO pr os) (id p : Int) (hok : itemOk id p) :
    Calls Try.prog 9 #[.pointer (some ⟨X, 0, none⟩), .int .i64 id, .int .i64 p] w fun e w' => e = .returned (.int .i64 0) ∧ IsBook n0 w' X BP BO (mset pr id p) os ∧ Touch (Own BP BO) w w' := by
  obtain ⟨k1, k2, k3, k4⟩ := hok
  have hP := h.cellP
  have H := hid h
  clear h
  go_enter Try.func9, Try.ntmps9
  go_wp2_with (first
    | (at_mapUpdate; refine wpList_store _ rfl _ _ _ 73 3 rfl keyL Try.underlying73 BP pr rfl H.out.prs id p rfl rfl ?_; intro w2 hM2 hg2 hs2))
  have h2 := hid (And.intro (H.out.price hM2 hg2) ((Touch.of_grown hg2).mono (fun k hk => (.inl hk : Own BP BO k))))
  clear hM2 hg2 hs2
  go_wp2_with fail
  go_ret
  exact ⟨rfl, h2.out.1, h2.out.2⟩
end

end Go.Proofs.Ytakaalldbnklcaa.Or
