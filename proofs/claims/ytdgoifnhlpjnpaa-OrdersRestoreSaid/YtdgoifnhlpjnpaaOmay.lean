/-
  Layer 19: the laws' state; the walk of OrdersMay.
-/
import Derived.Test.YtdgoifnhlpjnpaaOw
import Derived.Test.YtdgoifnhlpjnpaaOpArg
namespace Go.Proofs.Ytdgoifnhlpjnpaa
open Go.RowKit Go.WideShapes Go.ChangeShapes Go.ChangeAt Go.Deep
set_option linter.unusedVariables false

def OsOk (os : List (Int × Od)) : Prop := ∀ p ∈ os, 1 ≤ p.1 ∧ p.1 ≤ 256 ∧ p.2.i = p.1 ∧ 1 ≤ p.2.c ∧ p.2.c ≤ 64 ∧ 1 ≤ p.2.ls.length ∧ p.2.ls.length ≤ 4
/-- The book in a law. -/
structure St (w0 : World) (n0 X BP BO : Nat) (pr : List (Int × Int)) (os : List (Int × Od)) (w : World) : Prop where
  book : IsBook n0 w X BP BO pr os
  pok : PrOk pr
  ook : OsOk os
  bel : Below w0.heap.size w0 w
  low : w0.heap.size ≤ n0 ∧ n0 ≤ w.heap.size
section
variable {w0 w w' : World} {n0 X BP BO : Nat} {pr : List (Int × Int)} {os : List (Int × Od)}
theorem St.next (h : St w0 n0 X BP BO pr os w) (hb : Below w.heap.size w w') : St w0 n0 X BP BO pr os w' := ⟨h.book.next hb, h.pok, h.ook, bthen h.bel hb, h.low.1, Nat.le_trans h.low.2 hb.size⟩
theorem St.four (h : St w0 n0 X BP BO pr os w) : ∀ p ∈ os, 1 ≤ p.2.ls.length ∧ p.2.ls.length ≤ 4 := fun p hp => (h.ook p hp).2.2.2.2.2
theorem St.fewP (h : St w0 n0 X BP BO pr os w) : pr.length ≤ 64 := by
  have := keys_few (l := pr.map (·.1)) (n := 64) h.book.prs.nodup (fun k hk => by
    obtain ⟨p, hp, rfl⟩ := List.mem_map.1 hk
    have := h.pok p.1 p.2 (mget_of_mem h.book.prs.nodup hp)
    exact ⟨this.1, by have := this.2.1; omega⟩)
  simpa using this
theorem St.fewO (h : St w0 n0 X BP BO pr os w) : os.length ≤ 256 := by
  have := keys_few (l := os.map (·.1)) (n := 256) h.book.ods.nodup (fun k hk => by
    obtain ⟨p, hp, rfl⟩ := List.mem_map.1 hk
    have := h.ook p hp
    exact ⟨this.1, by have := this.2.1; omega⟩)
  simpa using this
theorem St.touched (h : St w0 n0 X BP BO pr os w) {pr' : List (Int × Int)} {os' : List (Int × Od)} (hB : IsBook n0 w' X BP BO pr' os') (hp : PrOk pr') (ho : OsOk os') (hT : Touch (Own BP BO) w w') : St w0 n0 X BP BO pr' os' w' :=
  ⟨hB, hp, ho, h.bel.trans (hT.below h.bel.size (fun k hk => Nat.le_trans h.low.1 (h.book.own_low hk))), h.low.1, Nat.le_trans h.low.2 hT.size⟩
theorem prOk_set (h : PrOk pr) {id p : Int} (hok : itemOk id p) : PrOk (mset pr id p) := fun i q hq => by
  rw [mget_mset] at hq
  split at hq
  · injection hq with hq; subst hq; rename_i e; subst e; exact hok
  · exact h i q hq
theorem osOk_set (h : OsOk os) {id c : Int} {f : ByteArray} {ls : List Ln} {o : Od} (hok : OrdOk id c f ls) (h1 : o.i = id) (h2 : o.c = c) (h3 : o.ls = ls) : OsOk (mset os id o) := fun p hp => by
  rcases mem_mset hp with rfl | ⟨hp', _⟩
  · obtain ⟨a1, a2, a3, a4, _, a6, a7⟩ := hok.1
    exact ⟨a1, a2, h1, by rw [h2]; exact a3, by rw [h2]; exact a4, by rw [h3]; exact a6, by rw [h3]; exact a7⟩
  · exact h p hp'

/-- The book, and an operation's block. -/
structure Pl (w0 : World) (n0 X BP BO G : Nat) (x : Opn) (pr : List (Int × Int)) (os : List (Int × Od)) (w : World) : Prop where
  st : St w0 n0 X BP BO pr os w
  blk : Blk w G 28 (enOp x).toArray
variable {G : Nat} {x : Opn}
theorem Pl.next (h : Pl w0 n0 X BP BO G x pr os w) (hb : Below w.heap.size w w') : Pl w0 n0 X BP BO G x pr os w' := ⟨h.st.next hb, h.blk.next hb⟩
theorem Pl.notOwn (h : Pl w0 n0 X BP BO G x pr os w) : ¬ Own BP BO G := by
  rintro (rfl | rfl)
  · exact h.st.book.prs.notBlk h.blk rfl
  · exact h.st.book.ods.notBlk h.blk rfl
theorem Pl.touched (h : Pl w0 n0 X BP BO G x pr os w) {pr' : List (Int × Int)} {os' : List (Int × Od)} (hB : IsBook n0 w' X BP BO pr' os') (hp : PrOk pr') (ho : OsOk os') (hT : Touch (Own BP BO) w w') : Pl w0 n0 X BP BO G x pr' os' w' :=
  ⟨h.st.touched hB hp ho hT, hT.blk h.blk h.notOwn⟩
theorem Pl.cells (h : Pl w0 n0 X BP BO G x pr os w) : w.cell? ⟨G, 0, none⟩ = some (.bool x.o) ∧ w.cell? ⟨G, 1, none⟩ = some (.int .i64 x.i) ∧ w.cell? ⟨G, 2, none⟩ = some (.int .i64 x.c) ∧ w.cell? ⟨G, 3, none⟩ = some (.int .i64 x.p) ∧ w.cell? ⟨G, 4, none⟩ = some (.string x.f) ∧ w.cell? ⟨G, 5, none⟩ = some (.slice x.A x.ls.length x.cap) ∧ G < w.heap.size :=
  ⟨h.blk.cell 0, h.blk.cell 1, h.blk.cell 2, h.blk.cell 3, h.blk.cell 4, h.blk.cell 5, h.blk.lt⟩

/-- The calls of the laws, at the book. -/
theorem Pl.item (h : Pl w0 n0 X BP BO G x pr os w) (id p : Int) : Calls Try.prog 11 #[.pointer (some ⟨X, 0, none⟩), .int .i64 id, .int .i64 p] w fun e w' => ∃ (z : Int) (pr' : List (Int × Int)), e = .returned (.int .i64 z) ∧ Pl w0 n0 X BP BO G x pr' os w' := by
  by_cases hok : itemOk id p
  · exact (item_yes h.st.book id p hok).mono fun e w' ⟨h1, h2, h3⟩ => ⟨0, _, h1, h.touched h2 (prOk_set h.st.pok hok) h.st.ook h3⟩
  · exact (item_no h.st.book id p hok).mono fun e w' ⟨h1, h2⟩ => ⟨2, pr, h1, h2 ▸ h⟩
theorem Pl.all (h : Pl w0 n0 X BP BO G x pr os w) {m : Nat} (hm : m = os.length) : Calls Try.prog 12 #[.pointer (some ⟨X, 0, none⟩)] w fun e w' => ∃ A cap, e = .returned (.slice A m cap) ∧ Pl w0 n0 X BP BO G x pr os w' :=
  (all_any h.st.book h.st.fewO h.st.four).mono fun e w' ⟨A, cap, ids, l, h1, h2, h3, _, _, _, _, h8⟩ => by
    have hl : l.length = m := by have := h3.length_eq; simp at this; omega
    rw [hl] at h1
    exact ⟨A, cap, h1, h.next h8⟩
theorem Pl.may (h : Pl w0 n0 X BP BO G x pr os w) (hx : OkOp w0 x) : Calls Try.prog 13 #[.pointer (some ⟨X, 0, none⟩), .int .i64 x.i, .int .i64 x.c, .string x.f, .slice x.A x.ls.length x.cap] w fun e w' => e = .returned (.int .i64 (errL pr os x.i x.c x.f x.ls)) ∧ Pl w0 n0 X BP BO G x pr os w' :=
  (may_any h.st.book x.i x.c x.f x.A x.cap x.ls hx.flow (hx.rd.below h.st.bel) hx.room hx.cap).mono fun e w' ⟨h1, h2⟩ => ⟨h1, h.next h2⟩
theorem Pl.addNo (h : Pl w0 n0 X BP BO G x pr os w) (hx : OkOp w0 x) (hz : errL pr os x.i x.c x.f x.ls ≠ 0) : Calls Try.prog 14 #[.pointer (some ⟨X, 0, none⟩), .int .i64 x.i, .int .i64 x.c, .string x.f, .slice x.A x.ls.length x.cap] w fun e w' => e = .returned (.int .i64 (errL pr os x.i x.c x.f x.ls)) ∧ Pl w0 n0 X BP BO G x pr os w' :=
  (add_no h.st.book x.i x.c x.f x.A x.cap x.ls hx.flow (hx.rd.below h.st.bel) hx.room hx.cap hz).mono fun e w' ⟨h1, h2⟩ => ⟨h1, h.next h2⟩
theorem Pl.addYes (h : Pl w0 n0 X BP BO G x pr os w) (hx : OkOp w0 x) (hz : errL pr os x.i x.c x.f x.ls = 0) : Calls Try.prog 14 #[.pointer (some ⟨X, 0, none⟩), .int .i64 x.i, .int .i64 x.c, .string x.f, .slice x.A x.ls.length x.cap] w fun e w' => ∃ o : Od, e = .returned (.int .i64 0) ∧ (o.i = x.i ∧ o.c = x.c ∧ o.f = x.f ∧ o.ls = x.ls) ∧ Pl w0 n0 X BP BO G x pr (mset os x.i o) w' :=
  (add_yes h.st.book h.st.pok x.i x.c x.f x.A x.cap x.ls hx.flow (hx.rd.below h.st.bel) hx.room hx.cap h.st.low.2 hz).mono fun e w' ⟨o, h1, h2, h3, h4, h5, h6, _, _, h9⟩ => ⟨o, h1, ⟨h3, h4, h5, h6⟩, h.touched h2 h.st.pok (osOk_set h.st.ook (errL_zero hz).1 h3 h4 h6) h9⟩
theorem Pl.add (h : Pl w0 n0 X BP BO G x pr os w) (hx : OkOp w0 x) : Calls Try.prog 14 #[.pointer (some ⟨X, 0, none⟩), .int .i64 x.i, .int .i64 x.c, .string x.f, .slice x.A x.ls.length x.cap] w fun e w' => ∃ (z : Int) (os' : List (Int × Od)), e = .returned (.int .i64 z) ∧ Pl w0 n0 X BP BO G x pr os' w' := by
  by_cases hz : errL pr os x.i x.c x.f x.ls = 0
  · exact (h.addYes hx hz).mono fun e w' ⟨o, h1, _, h3⟩ => ⟨0, _, h1, h3⟩
  · exact (h.addNo hx hz).mono fun e w' ⟨h1, h2⟩ => ⟨_, os, h1, h2⟩
end

end Go.Proofs.Ytdgoifnhlpjnpaa
