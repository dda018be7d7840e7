/-
  The walk of StockOnward.
-/
import Derived.Test.YthfaaimmfdidnaaPl15
import Derived.Test.YthfaaimmfdidnaaSw15
import Derived.Test.YthfaaimmfdidnaaArg15
import Derived.Deep.CutBlock
namespace Go.Proofs.Ythfaaimmfdidnaa
open Go.RowKit Go.WideShapes Go.ChangeShapes Go.ChangeAt Go.Deep
set_option linter.unusedVariables false

def stG (gs : List (Int × Gd)) (o : Int) : Int := match mget gs o with | none => 0 | some d => d.st
def hasG (gs : List (Int × Gd)) (o : Int) : Bool := (mget gs o).isSome
def GoodsP (gs : List (Int × Gd)) (o : Int) (w : World) (e : Ending) (w' : World) : Prop :=
  ∃ (oo : Int) (A : Option Addr) (n cap : Nat), e = .returned (.tuple #[.agg #[.int .i64 oo, .int .i64 (stG gs o), .slice A n cap], .bool (hasG gs o)]) ∧ Below w.heap.size w w'
/-- What one operation tells of its order. -/
def Told (k z : Int) (h0 : Bool) (s0 : Int) (h1 : Bool) (s1 : Int) : Prop :=
  (h1 = h0 ∧ s1 = s0) ∨ (z = 0 ∧ k = 3 ∧ h0 = false ∧ s0 = 0 ∧ h1 = true ∧ s1 = 1) ∨ (z = 0 ∧ k = 4 ∧ h0 = true ∧ s0 = 1 ∧ h1 = false ∧ s1 = 0) ∨ (z = 0 ∧ k = 5 ∧ h0 = true ∧ s0 = 1 ∧ h1 = true ∧ s1 = 2) ∨ (z = 0 ∧ k = 6 ∧ h0 = true ∧ s0 = 2 ∧ h1 = true ∧ s1 = 3)
section
variable {n0 : Nat} {w w' : World} {X BL BG : Nat} {lv : List (Int × Lv)} {gs : List (Int × Gd)}
theorem goods_step (h : IsBook n0 w X BL BG lv gs) (hG : GoodB lv gs) (o : Int) : Calls Try.prog 15 #[.pointer (some ⟨X, 0, none⟩), .int .i64 o] w (GoodsP gs o w) := by
  cases hm : mget gs o with
  | none =>
    refine (goods_none h o hm).mono ?_
    rintro e w' ⟨rfl, hb⟩
    exact ⟨0, none, 0, 0, by simp [stG, hasG, hm], hb⟩
  | some d =>
    have hg := (hG.gk o d hm).2.1.1.2
    refine (goods_some h o hm hg.1 hg.2).mono ?_
    rintro e w' ⟨b, cap, rfl, _, hb⟩
    exact ⟨d.o, some ⟨b, 0, none⟩, d.ls.length, cap, by simp [stG, hasG, hm], hb⟩
theorem stG_mset {o : Int} {d : Gd} : stG (mset gs o d) o = d.st ∧ hasG (mset gs o d) o = true := by
  unfold stG hasG
  rw [mget_mset, if_pos rfl]
  exact ⟨rfl, rfl⟩
theorem stG_mdel {o : Int} : stG (mdel gs o) o = 0 ∧ hasG (mdel gs o) o = false := by
  unfold stG hasG
  rw [mget_mdel, if_pos rfl]
  exact ⟨rfl, rfl⟩
theorem told_alloc {lv' : List (Int × Lv)} {gs' : List (Int × Gd)} {o : Int} {ls : List Ln} (h : AllocR lv gs o ls lv' gs') : Told 3 (allocZ lv gs o ls) (hasG gs o) (stG gs o) (hasG gs' o) (stG gs' o) := by
  rcases h with ⟨_, _, rfl⟩ | ⟨hz, he, _, _, d, hd, rfl⟩
  · exact .inl ⟨rfl, rfl⟩
  · have hn := (errF_zero he).2.2
    refine .inr (.inl ⟨hz, rfl, ?_, ?_, stG_mset.2, ?_⟩)
    · unfold hasG; rw [hn]; rfl
    · unfold stG; rw [hn]
    · rw [stG_mset.1]; exact hd.2.1
theorem told_free {lv' : List (Int × Lv)} {gs' : List (Int × Gd)} {o : Int} (h : FreeR lv gs o lv' gs') : Told 4 (freeZ gs o) (hasG gs o) (stG gs o) (hasG gs' o) (stG gs' o) := by
  rcases h with ⟨_, _, rfl⟩ | ⟨hz, d, hd, hs, _, rfl⟩
  · exact .inl ⟨rfl, rfl⟩
  · refine .inr (.inr (.inl ⟨hz, rfl, ?_, ?_, stG_mdel.2, stG_mdel.1⟩))
    · unfold hasG; rw [hd]; rfl
    · unfold stG; rw [hd]; exact hs
theorem told_ship {lv' : List (Int × Lv)} {gs' : List (Int × Gd)} {o : Int} (h : ShipR lv gs o lv' gs') : Told 5 (goZ gs o 1) (hasG gs o) (stG gs o) (hasG gs' o) (stG gs' o) := by
  rcases h with ⟨_, _, rfl⟩ | ⟨hz, d, hd, hs, _, rfl⟩
  · exact .inl ⟨rfl, rfl⟩
  · refine .inr (.inr (.inr (.inl ⟨hz, rfl, ?_, ?_, stG_mset.2, ?_⟩)))
    · unfold hasG; rw [hd]; rfl
    · unfold stG; rw [hd]; exact hs
    · rw [stG_mset.1]; simp only [nextG]; omega
theorem told_restock {lv' : List (Int × Lv)} {gs' : List (Int × Gd)} {o : Int} (h : RestockR lv gs o lv' gs') : Told 6 (goZ gs o 2) (hasG gs o) (stG gs o) (hasG gs' o) (stG gs' o) := by
  rcases h with ⟨_, _, rfl⟩ | ⟨hz, d, hd, hs, _, rfl⟩
  · exact .inl ⟨rfl, rfl⟩
  · refine .inr (.inr (.inr (.inr ⟨hz, rfl, ?_, ?_, stG_mset.2, ?_⟩)))
    · unfold hasG; rw [hd]; rfl
    · unfold stG; rw [hd]; exact hs
    · rw [stG_mset.1]; simp only [nextG]; omega
end

/-- The law's book, at work. -/
structure Wk (w0 : World) (n0 X BL BG : Nat) (lv : List (Int × Lv)) (gs : List (Int × Gd)) (w : World) : Prop where
  book : IsBook n0 w X BL BG lv gs
  good : GoodB lv gs
  bel : Below w0.heap.size w0 w
  low : w0.heap.size ≤ n0 ∧ n0 ≤ w.heap.size
theorem Wk.next {w0 w w' : World} {n0 X BL BG : Nat} {lv : List (Int × Lv)} {gs : List (Int × Gd)} (h : Wk w0 n0 X BL BG lv gs w) (hb : Below w.heap.size w w') : Wk w0 n0 X BL BG lv gs w' :=
  ⟨h.book.next hb, h.good, bthen h.bel hb, h.low.1, Nat.le_trans h.low.2 hb.size⟩
theorem Wk.step {w0 w w' : World} {n0 X BL BG : Nat} {lv lv' : List (Int × Lv)} {gs gs' : List (Int × Gd)} (h : Wk w0 n0 X BL BG lv gs w) (hI : IsBook n0 w' X BL BG lv' gs') (hG : GoodB lv' gs') (hT : Touch (Own BL BG lv gs) w w') : Wk w0 n0 X BL BG lv' gs' w' :=
  ⟨hI, hG, h.bel.trans (hT.below h.bel.size (fun k hk => Nat.le_trans h.low.1 (h.book.own_low hk))), h.low.1, Nat.le_trans h.low.2 hT.size⟩
theorem Wk.blk {w0 w w' : World} {n0 X BL BG : Nat} {lv : List (Int × Lv)} {gs : List (Int × Gd)} (h : Wk w0 n0 X BL BG lv gs w) (hT : Touch (Own BL BG lv gs) w w') {G : Nat} {t : TypeId} {cs : Array Value} (hB : Blk w G t cs) (h1 : t ≠ 38) (h2 : t ≠ 45) : Blk w' G t cs := by
  refine hT.blk hB ?_
  rintro (e | e | ⟨p, hp, e⟩ | ⟨p, hp, e⟩)
  · exact h.book.lvs.notBlk hB e.symm
  · exact h.book.gds.notBlk hB e.symm
  · exact hB.ne_ (h.book.lc p hp) h1 e.symm
  · exact hB.ne_ (h.book.gc p hp) h2 e.symm

theorem IsBook.own_lt {n0 : Nat} {w : World} {X BL BG : Nat} {lv : List (Int × Lv)} {gs : List (Int × Gd)} (h : IsBook n0 w X BL BG lv gs) {k : Nat} (hk : Own BL BG lv gs k) : k < w.heap.size := by
  rcases hk with rfl | rfl | ⟨p, hp, rfl⟩ | ⟨p, hp, rfl⟩
  · exact h.lvs.lt
  · exact h.gds.lt
  · exact (h.lc p hp).lt
  · exact (h.gc p hp).lt
/-- What the switch leaves. -/
def PCo (w0 : World) (n0 X BL BG G G6 : Nat) (xk xo xi xq : Int) (xA : Option Addr) (xl xcap : Nat) (oo s0 : Int) (A6 : Option Addr) (n6 c6 : Nat) (h0 : Bool) (N : Nat) (v : Value) (wx : World) : Prop :=
  ∃ (z : Int) (lv : List (Int × Lv)) (gs : List (Int × Gd)), v = .int .i64 z ∧ Wk w0 n0 X BL BG lv gs wx ∧ Blk wx G 42 #[.int .i64 xk, .int .i64 xo, .int .i64 xi, .int .i64 xq, .slice xA xl xcap] ∧ Blk wx G6 45 #[.int .i64 oo, .int .i64 s0, .slice A6 n6 c6] ∧ Told xk z h0 s0 (hasG gs xo) (stG gs xo) ∧ gs.length ≤ N

set_option maxRecDepth 100000 in
set_option maxHeartbeats 16000000 in
theorem stockOnward_walk (l : List Opn) (A : Option Addr) (cp : Nat) (w : World) (hR : Rd w A (l.flatMap enOp)) (hok : ∀ x ∈ l, OkOp w x) (hl : l.length * 56 ≤ 140737488351232) :
    Calls Try.prog 4 #[.slice A l.length cp] w (Law w) := by
  have HOK := hid hok
  clear hok
  go_enter Try.func4, Try.ntmps4
  go_wp2_with fail
  refine (wakes_any _).mono ?_
  rintro e w1 ⟨rfl, hb⟩
  go_wp2_with fail
  refine (new_any _).mono ?_
  rintro e w2 ⟨X, BL, BG, rfl, h, hb1⟩
  have hS : Wk w w1.heap.size X BL BG [] [] w2 := ⟨h, GoodB.nil, bthen hb hb1, hb.size, hb1.size⟩
  clear h hb hb1
  obtain ⟨n0, hn0⟩ : ∃ n0, n0 = w1.heap.size := ⟨_, rfl⟩
  rw [← hn0] at hS
  clear hn0
  go_wp2_with fail
  go_loopw [17] (fun i wr => ∃ (k : Nat) (lv : List (Int × Lv)) (gs : List (Int × Gd)), k ≤ l.length ∧ i = .int .i64 k ∧ gs.length ≤ k ∧ Wk w n0 X BL BG lv gs wr) (fun i _ => l.length - nOf i)
  case atStart => exact ⟨0, [], [], Nat.zero_le _, rfl, Nat.le_refl _, hS⟩
  case round =>
    clear hS
    obtain ⟨k, lv, gs, hk, rfl, hln, hS⟩ := hrel
    by_cases hlt : k < l.length
    · obtain ⟨x, hx⟩ : ∃ x, l[k]? = some x := ⟨l[k], List.getElem?_eq_getElem hlt⟩
      have hox := (HOK.out x (List.mem_of_getElem? hx)).next hS.bel
      obtain ⟨b, off, hAA, hbs, hcc⟩ := (hR.below hS.bel).at_ 5 enOp_len (by omega) hx
      obtain ⟨xk, xo, xi, xq, xA, xcap, xls⟩ := x
      have q0 : wr.cell? ⟨b, off + k * 5, none⟩ = some (.int .i64 xk) := hcc 0 _ rfl
      have q1 : wr.cell? ⟨b, off + k * 5 + 1, none⟩ = some (.int .i64 xo) := hcc 1 _ rfl
      have q2 : wr.cell? ⟨b, off + k * 5 + 2, none⟩ = some (.int .i64 xi) := hcc 2 _ rfl
      have q3 : wr.cell? ⟨b, off + k * 5 + 3, none⟩ = some (.int .i64 xq) := hcc 3 _ rfl
      have q4 : wr.cell? ⟨b, off + k * 5 + 4, none⟩ = some (.slice xA xls.length xcap) := hcc 4 _ rfl
      have hwb : Below wr.heap.size wr (wr.alloc (.cells #[.int .i64 xk, .int .i64 xo, .int .i64 xi, .int .i64 xq, .slice xA xls.length xcap] 42)) := (Below.refl _ _).alloc (Nat.le_refl _) _
      have hSz := hS.next hwb
      have hBG := Blk.new wr 42 #[.int .i64 xk, .int .i64 xo, .int .i64 xi, .int .i64 xq, .slice xA xls.length xcap]
      have hoz := hox.next hwb
      obtain ⟨wz, hwz⟩ : ∃ wz, wz = wr.alloc (.cells #[.int .i64 xk, .int .i64 xo, .int .i64 xi, .int .i64 xq, .slice xA xls.length xcap] 42) := ⟨_, rfl⟩
      obtain ⟨G, hG⟩ : ∃ G, G = wr.heap.size := ⟨_, rfl⟩
      have HW := hid hwz
      have HG := hid hG
      rw [← hwz] at hBG hSz hoz
      rw [← hG] at hBG
      have K := hid (goods_step hSz.book hSz.good xo)
      have p1 : wz.cell? ⟨G, 1, none⟩ = some (.int .i64 xo) := hBG.cell 1
      have HS := hid (And.intro hSz (And.intro hBG hoz))
      clear hcc hx hwb hS hwz hG hbs hSz hBG hox hoz
      subst hAA
      go_wp2_with fail
      rw [← HW.out, ← HG.out]
      go_wp2_with fail
      refine K.out.mono ?_
      rintro e w3 ⟨oo, A6, n6, c6, rfl, hb3⟩
      have hwb : Below w3.heap.size w3 (w3.alloc (.cells #[.int .i64 oo, .int .i64 (stG gs xo), .slice A6 n6 c6] 45)) := (Below.refl _ _).alloc (Nat.le_refl _) _
      obtain ⟨hSz, hBG, hoz⟩ := HS.out
      have hl3 := fun (k : Nat) (hk : Own BL BG lv gs k) => (hSz.next hb3).book.own_lt hk
      replace hSz := hSz.next (bthen hb3 hwb)
      replace hBG := hBG.next (bthen hb3 hwb)
      replace hoz := hoz.next (bthen hb3 hwb)
      have hB6 := Blk.new w3 45 #[.int .i64 oo, .int .i64 (stG gs xo), .slice A6 n6 c6]
      have H3 := hid (And.intro hSz (And.intro hBG (And.intro hoz (And.intro hB6 hl3))))
      have p0 : (w3.alloc (.cells #[.int .i64 oo, .int .i64 (stG gs xo), .slice A6 n6 c6] 45)).cell? ⟨G, 0, none⟩ = some (.int .i64 xk) := hBG.cell 0
      clear K HS HW HG p1 q0 q1 q2 q3 q4 hb3 hwb hSz hBG hoz hB6 hl3
      go_upto_block 2 with fail
      obtain ⟨hW, hBG, hoz, hB6, hl3⟩ := H3.out
      obtain ⟨G6, hG6⟩ : ∃ G6, G6 = w3.heap.size := ⟨_, rfl⟩
      obtain ⟨w4, hw4⟩ : ∃ w4, w4 = w3.alloc (.cells #[.int .i64 oo, .int .i64 (stG gs xo), .slice A6 n6 c6] 45) := ⟨_, rfl⟩
      rw [← hG6] at hl3 hB6 ⊢
      rw [← hw4] at hW hBG hoz hB6 ⊢
      clear H3 hG6 hw4 p0
      have hgl : gs.length ≤ 3000000000000 := by omega
      go_cut [8] (fun v wx => PCo w n0 X BL BG G G6 xk xo xi xq xA xls.length xcap oo (stG gs xo) A6 n6 c6 (hasG gs xo) (k + 1) v wx)
      case first =>
        clear hR HOK hl
        have p0 : w4.cell? ⟨G, 0, none⟩ = some (.int .i64 xk) := hBG.cell 0
        have p1 : w4.cell? ⟨G, 1, none⟩ = some (.int .i64 xo) := hBG.cell 1
        have p2 : w4.cell? ⟨G, 2, none⟩ = some (.int .i64 xi) := hBG.cell 2
        have p3 : w4.cell? ⟨G, 3, none⟩ = some (.int .i64 xq) := hBG.cell 3
        have p4 : w4.cell? ⟨G, 4, none⟩ = some (.slice xA xls.length xcap) := hBG.cell 4
        by_cases k1 : xk = 1
        · have e1 : (xk == 1) = true := by simpa using k1
          subst k1
          have K := hid (item_step hW.book hW.good hW.low.2 xi)
          have HH := hid (And.intro hW (And.intro hBG (And.intro hB6 hl3)))
          clear hW hBG hB6 hl3 hoz
          go_wp2_with fail
          refine K.out.mono ?_
          rintro e w5 ⟨lv', gs', rfl, hI, hGd, hRR, hln', hT⟩
          obtain ⟨hW, hBG, hB6, hl3⟩ := HH.out
          have hZ := hid (show PCo w n0 X BL BG G G6 1 xo xi xq xA xls.length xcap oo (stG gs xo) A6 n6 c6 (hasG gs xo) (k + 1) (.int .i64 0) w5 from ⟨_, lv', gs', rfl, hW.step hI hGd hT, hW.blk hT hBG (by decide) (by decide), hT.blk hB6 (fun hk => absurd (hl3 _ hk) (Nat.lt_irrefl _)), .inl (by rw [hRR.1]; exact ⟨rfl, rfl⟩), by omega⟩)
          clear K HH hI hGd hRR hT hln' p0 p1 p2 p3 p4 hW hBG hB6 hl3
          go_wp2_with fail
          go_meet
          exact hZ.out
        · have e1 : (xk == 1) = false := by simpa using k1
          clear k1
          by_cases k2 : xk = 2
          · have e2 : (xk == 2) = true := by simpa using k2
            subst k2
            have K := hid (recv_step hW.book hW.good hgl xi xq)
            have HH := hid (And.intro hW (And.intro hBG (And.intro hB6 hl3)))
            clear hW hBG hB6 hl3 hoz
            go_wp2_with fail
            refine K.out.mono ?_
            rintro e w5 ⟨lv', gs', rfl, hI, hGd, hRR, hln', hT⟩
            obtain ⟨hW, hBG, hB6, hl3⟩ := HH.out
            have hZ := hid (show PCo w n0 X BL BG G G6 2 xo xi xq xA xls.length xcap oo (stG gs xo) A6 n6 c6 (hasG gs xo) (k + 1) (.int .i64 0) w5 from ⟨_, lv', gs', rfl, hW.step hI hGd hT, hW.blk hT hBG (by decide) (by decide), hT.blk hB6 (fun hk => absurd (hl3 _ hk) (Nat.lt_irrefl _)), .inl (by rw [hRR.1]; exact ⟨rfl, rfl⟩), by omega⟩)
            clear K HH hI hGd hRR hT hln' p0 p1 p2 p3 p4 hW hBG hB6 hl3
            go_wp2_with fail
            go_meet
            exact hZ.out
          · have e2 : (xk == 2) = false := by simpa using k2
            clear k2
            by_cases k3 : xk = 3
            · have e3 : (xk == 3) = true := by simpa using k3
              subst k3
              have K := hid (alloc_step hW.book hW.good hW.low.2 hgl xo xA xcap xls hoz.ls.rd hoz.ls.room hoz.ls.cap)
              have HH := hid (And.intro hW (And.intro hBG (And.intro hB6 hl3)))
              clear hW hBG hB6 hl3 hoz
              go_wp2_with fail
              refine K.out.mono ?_
              rintro e w5 ⟨lv', gs', rfl, hI, hGd, hRR, hln', hT⟩
              obtain ⟨hW, hBG, hB6, hl3⟩ := HH.out
              have hZ := hid (show PCo w n0 X BL BG G G6 3 xo xi xq xA xls.length xcap oo (stG gs xo) A6 n6 c6 (hasG gs xo) (k + 1) (.int .i64 (allocZ lv gs xo xls)) w5 from ⟨_, lv', gs', rfl, hW.step hI hGd hT, hW.blk hT hBG (by decide) (by decide), hT.blk hB6 (fun hk => absurd (hl3 _ hk) (Nat.lt_irrefl _)), told_alloc hRR, by omega⟩)
              clear K HH hI hGd hRR hT hln' p0 p1 p2 p3 p4 hW hBG hB6 hl3
              go_wp2_with fail
              go_meet
              exact hZ.out
            · have e3 : (xk == 3) = false := by simpa using k3
              clear k3
              by_cases k4 : xk = 4
              · have e4 : (xk == 4) = true := by simpa using k4
                subst k4
                have K := hid (free_step hW.book hW.good hgl xo)
                have HH := hid (And.intro hW (And.intro hBG (And.intro hB6 hl3)))
                clear hW hBG hB6 hl3 hoz
                go_wp2_with fail
                refine K.out.mono ?_
                rintro e w5 ⟨lv', gs', rfl, hI, hGd, hRR, hln', hT⟩
                obtain ⟨hW, hBG, hB6, hl3⟩ := HH.out
                have hZ := hid (show PCo w n0 X BL BG G G6 4 xo xi xq xA xls.length xcap oo (stG gs xo) A6 n6 c6 (hasG gs xo) (k + 1) (.int .i64 (freeZ gs xo)) w5 from ⟨_, lv', gs', rfl, hW.step hI hGd hT, hW.blk hT hBG (by decide) (by decide), hT.blk hB6 (fun hk => absurd (hl3 _ hk) (Nat.lt_irrefl _)), told_free hRR, by omega⟩)
                clear K HH hI hGd hRR hT hln' p0 p1 p2 p3 p4 hW hBG hB6 hl3
                go_wp2_with fail
                go_meet
                exact hZ.out
              · have e4 : (xk == 4) = false := by simpa using k4
                clear k4
                by_cases k5 : xk = 5
                · have e5 : (xk == 5) = true := by simpa using k5
                  subst k5
                  have K := hid (ship_step hW.book hW.good hgl xo)
                  have HH := hid (And.intro hW (And.intro hBG (And.intro hB6 hl3)))
                  clear hW hBG hB6 hl3 hoz
                  go_wp2_with fail
                  refine K.out.mono ?_
                  rintro e w5 ⟨lv', gs', rfl, hI, hGd, hRR, hln', hT⟩
                  obtain ⟨hW, hBG, hB6, hl3⟩ := HH.out
                  have hZ := hid (show PCo w n0 X BL BG G G6 5 xo xi xq xA xls.length xcap oo (stG gs xo) A6 n6 c6 (hasG gs xo) (k + 1) (.int .i64 (goZ gs xo 1)) w5 from ⟨_, lv', gs', rfl, hW.step hI hGd hT, hW.blk hT hBG (by decide) (by decide), hT.blk hB6 (fun hk => absurd (hl3 _ hk) (Nat.lt_irrefl _)), told_ship hRR, by omega⟩)
                  clear K HH hI hGd hRR hT hln' p0 p1 p2 p3 p4 hW hBG hB6 hl3
                  go_wp2_with fail
                  go_meet
                  exact hZ.out
                · have e5 : (xk == 5) = false := by simpa using k5
                  clear k5
                  by_cases k6 : xk = 6
                  · have e6 : (xk == 6) = true := by simpa using k6
                    subst k6
                    have K := hid (restock_step hW.book hW.good hgl xo)
                    have HH := hid (And.intro hW (And.intro hBG (And.intro hB6 hl3)))
                    clear hW hBG hB6 hl3 hoz
                    go_wp2_with fail
                    refine K.out.mono ?_
                    rintro e w5 ⟨lv', gs', rfl, hI, hGd, hRR, hln', hT⟩
                    obtain ⟨hW, hBG, hB6, hl3⟩ := HH.out
                    have hZ := hid (show PCo w n0 X BL BG G G6 6 xo xi xq xA xls.length xcap oo (stG gs xo) A6 n6 c6 (hasG gs xo) (k + 1) (.int .i64 (goZ gs xo 2)) w5 from ⟨_, lv', gs', rfl, hW.step hI hGd hT, hW.blk hT hBG (by decide) (by decide), hT.blk hB6 (fun hk => absurd (hl3 _ hk) (Nat.lt_irrefl _)), told_restock hRR, by omega⟩)
                    clear K HH hI hGd hRR hT hln' p0 p1 p2 p3 p4 hW hBG hB6 hl3
                    go_wp2_with fail
                    go_meet
                    exact hZ.out
                  · have e6 : (xk == 6) = false := by simpa using k6
                    clear k6
                    have hZ := hid (show PCo w n0 X BL BG G G6 xk xo xi xq xA xls.length xcap oo (stG gs xo) A6 n6 c6 (hasG gs xo) (k + 1) (.int .i64 0) w4 from ⟨_, lv, gs, rfl, hW, hBG, hB6, .inl ⟨rfl, rfl⟩, by omega⟩)
                    clear hW hBG hB6 hl3 hoz
                    go_wp2_with fail
                    go_meet
                    exact hZ.out
      case rest =>
        clear hW hBG hoz hB6 hl3 hln hgl
        obtain ⟨z, lv1, gs1, rfl, hW, hBG, hB6, hTold, hln⟩ := hcut
        have p1 : wc.cell? ⟨G, 1, none⟩ = some (.int .i64 xo) := hBG.cell 1
        have K := hid (goods_step hW.book hW.good xo)
        have HH := hid (And.intro hW (And.intro hBG hB6))
        have HT := hid hTold
        clear hW hBG hB6 hTold
        go_wp2_with fail
        refine K.out.mono ?_
        rintro e w5 ⟨oo2, A9, n9, c9, rfl, hb5⟩
        have hln1 : gs1.length ≤ k + 1 := hln
        clear hln
        have hTold := HT.out
        clear HT
        generalize stG gs1 xo = s1 at hTold ⊢
        generalize hasG gs1 xo = b1 at hTold ⊢
        generalize stG gs xo = s0 at hTold HH ⊢
        generalize hasG gs xo = b0 at hTold ⊢
        rcases hTold with ⟨rfl, rfl⟩ | ⟨rfl, rfl, rfl, rfl, rfl, rfl⟩ | ⟨rfl, rfl, rfl, rfl, rfl, rfl⟩ | ⟨rfl, rfl, rfl, rfl, rfl, rfl⟩ | ⟨rfl, rfl, rfl, rfl, rfl, rfl⟩
        · have t1 : (s1 != s1) = false := by simp
          cases b1
          all_goals
            obtain ⟨hW, hBG, hB6⟩ := HH.out
            have hwb : Below w5.heap.size w5 (w5.alloc (.cells #[.int .i64 oo2, .int .i64 s1, .slice A9 n9 c9] 45)) := (Below.refl _ _).alloc (Nat.le_refl _) _
            replace hW := hW.next (bthen hb5 hwb)
            replace hBG := hBG.next (bthen hb5 hwb)
            replace hB6 := hB6.next (bthen hb5 hwb)
            have hB9 := Blk.new w5 45 #[.int .i64 oo2, .int .i64 s1, .slice A9 n9 c9]
            have c1 := hB9.cell 1
            have c6' := hB6.cell 1
            have c0 := hBG.cell 0
            simp only [List.getElem?_toArray, List.getElem?_cons_succ, List.getElem?_cons_zero] at c1 c6' c0
            have HW := hid hW
            have g6 := hB6.lt
            have gG := hBG.lt
            clear K HH hW hBG hB6 hB9 hb5 hwb p1
            go_wp2_with fail
            go_roundw
            case rel => exact ⟨k + 1, lv1, gs1, by omega, by go_num, hln1, HW.out⟩
            case measure => simp [nOf]; omega
        · obtain ⟨hW, hBG, hB6⟩ := HH.out
          have hwb : Below w5.heap.size w5 (w5.alloc (.cells #[.int .i64 oo2, .int .i64 1, .slice A9 n9 c9] 45)) := (Below.refl _ _).alloc (Nat.le_refl _) _
          replace hW := hW.next (bthen hb5 hwb)
          replace hBG := hBG.next (bthen hb5 hwb)
          replace hB6 := hB6.next (bthen hb5 hwb)
          have hB9 := Blk.new w5 45 #[.int .i64 oo2, .int .i64 1, .slice A9 n9 c9]
          have c1 := hB9.cell 1
          have c6' := hB6.cell 1
          have c0 := hBG.cell 0
          simp only [List.getElem?_toArray, List.getElem?_cons_succ, List.getElem?_cons_zero] at c1 c6' c0
          have HW := hid hW
          have g6 := hB6.lt
          have gG := hBG.lt
          clear K HH hW hBG hB6 hB9 hb5 hwb p1
          go_wp2_with fail
          go_roundw
          case rel => exact ⟨k + 1, lv1, gs1, by omega, by go_num, hln1, HW.out⟩
          case measure => simp [nOf]; omega
        · obtain ⟨hW, hBG, hB6⟩ := HH.out
          have hwb : Below w5.heap.size w5 (w5.alloc (.cells #[.int .i64 oo2, .int .i64 0, .slice A9 n9 c9] 45)) := (Below.refl _ _).alloc (Nat.le_refl _) _
          replace hW := hW.next (bthen hb5 hwb)
          replace hBG := hBG.next (bthen hb5 hwb)
          replace hB6 := hB6.next (bthen hb5 hwb)
          have hB9 := Blk.new w5 45 #[.int .i64 oo2, .int .i64 0, .slice A9 n9 c9]
          have c1 := hB9.cell 1
          have c6' := hB6.cell 1
          have c0 := hBG.cell 0
          simp only [List.getElem?_toArray, List.getElem?_cons_succ, List.getElem?_cons_zero] at c1 c6' c0
          have HW := hid hW
          have g6 := hB6.lt
          have gG := hBG.lt
          clear K HH hW hBG hB6 hB9 hb5 hwb p1
          go_wp2_with fail
          go_roundw
          case rel => exact ⟨k + 1, lv1, gs1, by omega, by go_num, hln1, HW.out⟩
          case measure => simp [nOf]; omega
        · obtain ⟨hW, hBG, hB6⟩ := HH.out
          have hwb : Below w5.heap.size w5 (w5.alloc (.cells #[.int .i64 oo2, .int .i64 2, .slice A9 n9 c9] 45)) := (Below.refl _ _).alloc (Nat.le_refl _) _
          replace hW := hW.next (bthen hb5 hwb)
          replace hBG := hBG.next (bthen hb5 hwb)
          replace hB6 := hB6.next (bthen hb5 hwb)
          have hB9 := Blk.new w5 45 #[.int .i64 oo2, .int .i64 2, .slice A9 n9 c9]
          have c1 := hB9.cell 1
          have c6' := hB6.cell 1
          have c0 := hBG.cell 0
          simp only [List.getElem?_toArray, List.getElem?_cons_succ, List.getElem?_cons_zero] at c1 c6' c0
          have HW := hid hW
          have g6 := hB6.lt
          have gG := hBG.lt
          clear K HH hW hBG hB6 hB9 hb5 hwb p1
          go_wp2_with fail
          go_roundw
          case rel => exact ⟨k + 1, lv1, gs1, by omega, by go_num, hln1, HW.out⟩
          case measure => simp [nOf]; omega
        · obtain ⟨hW, hBG, hB6⟩ := HH.out
          have hwb : Below w5.heap.size w5 (w5.alloc (.cells #[.int .i64 oo2, .int .i64 3, .slice A9 n9 c9] 45)) := (Below.refl _ _).alloc (Nat.le_refl _) _
          replace hW := hW.next (bthen hb5 hwb)
          replace hBG := hBG.next (bthen hb5 hwb)
          replace hB6 := hB6.next (bthen hb5 hwb)
          have hB9 := Blk.new w5 45 #[.int .i64 oo2, .int .i64 3, .slice A9 n9 c9]
          have c1 := hB9.cell 1
          have c6' := hB6.cell 1
          have c0 := hBG.cell 0
          simp only [List.getElem?_toArray, List.getElem?_cons_succ, List.getElem?_cons_zero] at c1 c6' c0
          have HW := hid hW
          have g6 := hB6.lt
          have gG := hBG.lt
          clear K HH hW hBG hB6 hB9 hb5 hwb p1
          go_wp2_with fail
          go_roundw
          case rel => exact ⟨k + 1, lv1, gs1, by omega, by go_num, hln1, HW.out⟩
          case measure => simp [nOf]; omega
    · clear hk HOK hR
      go_wp2_with fail
      go_ret
      exact ⟨rfl, hS.bel⟩

end Go.Proofs.Ythfaaimmfdidnaa
