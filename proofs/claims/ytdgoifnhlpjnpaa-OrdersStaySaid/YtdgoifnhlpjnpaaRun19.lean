/-
  Layer 19: OrdersStay's closure: a script is run.
-/
import Derived.Test.YtdgoifnhlpjnpaaRstP19
import Derived.Test.YtdgoifnhlpjnpaaOmayW
import Derived.Deep.CutRange
namespace Go.Proofs.Ytdgoifnhlpjnpaa
open Go.RowKit Go.WideShapes Go.ChangeShapes Go.ChangeAt Go.Deep
set_option linter.unusedVariables false

/-- Every order in the book is one that may be added. -/
def OsFull (pr : List (Int × Int)) (os : List (Int × Od)) : Prop := ∀ p ∈ os, OrdOk p.2.i p.2.c p.2.f p.2.ls ∧ knowB pr p.2.ls = true ∧ moneyOk p.2.n ∧ moneyOk p.2.t
def Ext (os os' : List (Int × Od)) : Prop := ∀ id o, mget os id = some o → mget os' id = some o
theorem know_set {pr : List (Int × Int)} {ls : List Ln} (id p : Int) (h : knowB pr ls = true) : knowB (mset pr id p) ls = true := by
  unfold knowB at *
  rw [List.all_eq_true] at *
  intro x hx
  have := h x hx
  rw [mget_mset]
  split
  · rfl
  · exact this
theorem money_total {pr : List (Int × Int)} {id c : Int} {f : ByteArray} {ls : List Ln} (hp : PrOk pr) (h : OrdOk id c f ls) (hk : knowB pr ls = true) : moneyOk (netT (prL pr ls)) ∧ moneyOk (taxT (prL pr ls)) := by
  have hf := prL_fits hp h hk
  unfold netT taxT
  rw [if_pos hf, if_pos hf]
  unfold fits at hf
  simp only [Bool.and_eq_true, decide_eq_true_eq] at hf
  have := sums_bd _ hf.2
  unfold moneyOk
  omega
theorem OsFull.item {pr : List (Int × Int)} {os : List (Int × Od)} (h : OsFull pr os) (id p : Int) : OsFull (mset pr id p) os := fun q hq => ⟨(h q hq).1, know_set id p (h q hq).2.1, (h q hq).2.2⟩
theorem OsFull.add {pr : List (Int × Int)} {os : List (Int × Od)} (h : OsFull pr os) (hp : PrOk pr) {id c : Int} {f : ByteArray} {ls : List Ln} {o : Od} (hz : errL pr os id c f ls = 0) (ho : o.i = id ∧ o.c = c ∧ o.f = f ∧ o.ls = ls ∧ o.n = netT (prL pr ls) ∧ o.t = taxT (prL pr ls)) : OsFull pr (mset os id o) := fun q hq => by
  rcases mem_mset hq with rfl | ⟨hq', _⟩
  · obtain ⟨h1, h2, h3, h4, h5, h6⟩ := ho
    obtain ⟨e1, e2, _⟩ := errL_zero hz
    simp only [h1, h2, h3, h4, h5, h6]
    exact ⟨e1, e2, money_total hp e1 e2⟩
  · exact h q hq'
theorem Ext.refl (os : List (Int × Od)) : Ext os os := fun _ _ h => h
theorem Ext.add {os os' : List (Int × Od)} (h : Ext os os') {id : Int} {o : Od} (hn : mget os' id = none) : Ext os (mset os' id o) := fun i v hv => by
  have := h i v hv
  rw [mget_mset]
  split
  · rename_i e; subst e; rw [hn] at this; cases this
  · exact this

/-- The book behind some operations. -/
structure RunW (w0 w1 : World) (n0 X BP BO : Nat) (os0 : List (Int × Od)) (pr : List (Int × Int)) (os : List (Int × Od)) (w : World) : Prop where
  st : St w0 n0 X BP BO pr os w
  full : OsFull pr os
  ext : Ext os0 os
  tch : Touch (Own BP BO) w1 w
section
variable {w0 w1 w w' : World} {n0 X BP BO : Nat} {os0 os : List (Int × Od)} {pr : List (Int × Int)} {x : Opn}
theorem RunW.next (h : RunW w0 w1 n0 X BP BO os0 pr os w) (hb : Below w.heap.size w w') : RunW w0 w1 n0 X BP BO os0 pr os w' := ⟨h.st.next hb, h.full, h.ext, h.tch.then (.of_below hb)⟩
theorem RunW.item (h : RunW w0 w1 n0 X BP BO os0 pr os w) (id p : Int) : Calls Try.prog 11 #[.pointer (some ⟨X, 0, none⟩), .int .i64 id, .int .i64 p] w fun e w' => ∃ (z : Int) (pr' : List (Int × Int)), e = .returned (.int .i64 z) ∧ RunW w0 w1 n0 X BP BO os0 pr' os w' := by
  by_cases hok : itemOk id p
  · exact (item_yes h.st.book id p hok).mono fun e w' ⟨h1, h2, h3⟩ => ⟨0, _, h1, h.st.touched h2 (prOk_set h.st.pok hok) h.st.ook h3, h.full.item id p, h.ext, h.tch.then h3⟩
  · exact (item_no h.st.book id p hok).mono fun e w' ⟨h1, h2⟩ => ⟨2, pr, h1, h2 ▸ h⟩
theorem RunW.add (h : RunW w0 w1 n0 X BP BO os0 pr os w) (hx : OkOp w0 x) : Calls Try.prog 14 #[.pointer (some ⟨X, 0, none⟩), .int .i64 x.i, .int .i64 x.c, .string x.f, .slice x.A x.ls.length x.cap] w fun e w' => ∃ (z : Int) (os' : List (Int × Od)), e = .returned (.int .i64 z) ∧ RunW w0 w1 n0 X BP BO os0 pr os' w' := by
  by_cases hz : errL pr os x.i x.c x.f x.ls = 0
  · exact (add_new h.st.book h.st.pok x.i x.c x.f x.A x.cap x.ls hx.flow (hx.rd.below h.st.bel) hx.room hx.cap h.st.low.2 hz).mono fun e w' ⟨o, h1, h2, h3, _, h5⟩ =>
      ⟨0, _, h1, h.st.touched h2 h.st.pok (osOk_set h.st.ook (errL_zero hz).1 h3.1 h3.2.1 h3.2.2.2.1) h5, h.full.add h.st.pok hz h3, h.ext.add (errL_zero hz).2.2, h.tch.then h5⟩
  · exact (add_no h.st.book x.i x.c x.f x.A x.cap x.ls hx.flow (hx.rd.below h.st.bel) hx.room hx.cap hz).mono fun e w' ⟨h1, h2⟩ => ⟨_, os, h1, h.next h2⟩

set_option maxRecDepth 100000 in
set_option maxHeartbeats 16000000 in
theorem run_any (l : List Opn) (A : Option Addr) (cp : Nat) (hR0 : Rd w0 A (l.flatMap enOp)) (hok : ∀ x ∈ l, OkOp w0 x) (hl : l.length * 72 ≤ 140737488351232) (h : St w0 n0 X BP BO pr os w1) (hf : OsFull pr os) {B : Nat} (hB : Blk w1 B 24 #[.pointer (some ⟨X, 0, none⟩)]) :
    Calls Try.prog 19 #[.slice A l.length cp, .pointer (some ⟨B, 0, none⟩)] w1 fun e w' => e = .returned (.tuple #[]) ∧ ∃ (pr' : List (Int × Int)) (os' : List (Int × Od)), RunW w0 w1 n0 X BP BO os pr' os' w' := by
  have HOK := hid hok
  have HNB := hid (notOwn h.book hB)
  have HBK := hid hB
  have HI := hid (RunW.mk h hf (Ext.refl os) (Touch.refl (Own BP BO) w1))
  clear hok h hf hB
  go_enter Try.func19, Try.ntmps19
  go_wp2_with fail
  go_loopw [7] (fun i wr => ∃ (k : Nat) (pr' : List (Int × Int)) (os' : List (Int × Od)), k ≤ l.length ∧ i = .int .i64 k ∧ RunW w0 w1 n0 X BP BO os pr' os' wr) (fun i _ => l.length - nOf i)
  case atStart => exact ⟨0, pr, os, Nat.zero_le _, rfl, HI.out⟩
  case round =>
    clear HI
    obtain ⟨k, pr', os', hk, rfl, hS⟩ := hrel
    by_cases hlt : k < l.length
    · obtain ⟨x, hx⟩ : ∃ x, l[k]? = some x := ⟨l[k], List.getElem?_eq_getElem hlt⟩
      have HX := hid (HOK.out x (List.mem_of_getElem? hx))
      obtain ⟨b, off, hAA, hbs, hcc⟩ := (hR0.below hS.st.bel).at_ 6 enOp_len (by omega) hx
      have q0 : wr.cell? ⟨b, off + k * 6, none⟩ = some (.bool x.o) := hcc 0 _ rfl
      have q1 : wr.cell? ⟨b, off + k * 6 + 1, none⟩ = some (.int .i64 x.i) := hcc 1 _ rfl
      have q2 : wr.cell? ⟨b, off + k * 6 + 2, none⟩ = some (.int .i64 x.c) := hcc 2 _ rfl
      have q3 : wr.cell? ⟨b, off + k * 6 + 3, none⟩ = some (.int .i64 x.p) := hcc 3 _ rfl
      have q4 : wr.cell? ⟨b, off + k * 6 + 4, none⟩ = some (.string x.f) := hcc 4 _ rfl
      have q5 : wr.cell? ⟨b, off + k * 6 + 5, none⟩ = some (.slice x.A x.ls.length x.cap) := hcc 5 _ rfl
      have hwb : Below wr.heap.size wr (wr.alloc (.cells #[.bool x.o, .int .i64 x.i, .int .i64 x.c, .int .i64 x.p, .string x.f, .slice x.A x.ls.length x.cap] 28)) := (Below.refl _ _).alloc (Nat.le_refl _) _
      have hBG : Blk (wr.alloc (.cells #[.bool x.o, .int .i64 x.i, .int .i64 x.c, .int .i64 x.p, .string x.f, .slice x.A x.ls.length x.cap] 28)) wr.heap.size 28 #[.bool x.o, .int .i64 x.i, .int .i64 x.c, .int .i64 x.p, .string x.f, .slice x.A x.ls.length x.cap] := Blk.new _ _ _
      have p00 : (wr.alloc (.cells #[.bool x.o, .int .i64 x.i, .int .i64 x.c, .int .i64 x.p, .string x.f, .slice x.A x.ls.length x.cap] 28)).cell? ⟨wr.heap.size, 0, none⟩ = some (.bool x.o) := hBG.cell 0
      obtain ⟨wz, hwz⟩ : ∃ wz, wz = wr.alloc (.cells #[.bool x.o, .int .i64 x.i, .int .i64 x.c, .int .i64 x.p, .string x.f, .slice x.A x.ls.length x.cap] 28) := ⟨_, rfl⟩
      obtain ⟨G, hG⟩ : ∃ G, G = wr.heap.size := ⟨_, rfl⟩
      have HW := hid hwz
      have HG := hid hG
      rw [← hwz] at hwb hBG
      rw [← hG] at hBG
      have hZ := hS.next hwb
      have b0 : wz.cell? ⟨B, 0, none⟩ = some (.pointer (some ⟨X, 0, none⟩)) := (hZ.tch.blk HBK.out HNB.out).cell 0
      have p0 : wz.cell? ⟨G, 0, none⟩ = some (.bool x.o) := hBG.cell 0
      have p1 : wz.cell? ⟨G, 1, none⟩ = some (.int .i64 x.i) := hBG.cell 1
      have p2 : wz.cell? ⟨G, 2, none⟩ = some (.int .i64 x.c) := hBG.cell 2
      have p3 : wz.cell? ⟨G, 3, none⟩ = some (.int .i64 x.p) := hBG.cell 3
      have p4 : wz.cell? ⟨G, 4, none⟩ = some (.string x.f) := hBG.cell 4
      have p5 : wz.cell? ⟨G, 5, none⟩ = some (.slice x.A x.ls.length x.cap) := hBG.cell 5
      have K1 := hid (hZ.item x.i x.p)
      have K2 := hid (hZ.add HX.out)
      clear hcc hx hwb hS hwz hG hbs hBG hZ
      subst hAA
      go_upto_if 12 with fail
      rw [← HW.out, ← HG.out]
      clear p00 q0 q1 q2 q3 q4 q5
      cases ho : x.o with
      | false =>
        go_wp2_with fail
        refine K1.out.mono ?_
        rintro e w5 ⟨z, pr2, rfl, hS⟩
        clear K1 K2 p0 p1 p2 p3 p4 p5 b0
        go_wp2_with fail
        go_roundw
        case rel => exact ⟨k + 1, pr2, os', by omega, by go_num, hS⟩
        case measure => simp [nOf]; omega
      | true =>
        go_wp2_with fail
        refine K2.out.mono ?_
        rintro e w5 ⟨z, os2, rfl, hS⟩
        clear K1 K2 p0 p1 p2 p3 p4 p5 b0
        go_wp2_with fail
        go_roundw
        case rel => exact ⟨k + 1, pr', os2, by omega, by go_num, hS⟩
        case measure => simp [nOf]; omega
    · have HS := hid hS
      clear hk hS
      go_wp2_with fail
      go_end0
      exact ⟨rfl, _, _, HS.out⟩
end

end Go.Proofs.Ytdgoifnhlpjnpaa
