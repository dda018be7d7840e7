/-
  The walk of StockExact.
-/
import Derived.Test.YthfaaimmfdidnaaOnw15
import Derived.Test.YthfaaimmfdidnaaExP15
namespace Go.Proofs.Ythfaaimmfdidnaa
open Go.RowKit Go.WideShapes Go.ChangeShapes Go.ChangeAt Go.Deep
set_option linter.unusedVariables false

/-- The law at work: its book, and so many on hand. -/
structure Ew (w0 : World) (n0 X BL BG H : Nat) (n : Int) (lv : List (Int × Lv)) (gs : List (Int × Gd)) (a b c : Int) (w : World) : Prop where
  wk : Wk w0 n0 X BL BG lv gs w
  hb : Blk w H 27 #[.int .i64 0, .int .i64 a, .int .i64 b, .int .i64 c]
  hr : HandR n lv a b c
  lo : w0.heap.size ≤ H
theorem Ew.next {w0 w w' : World} {n0 X BL BG H : Nat} {n a b c : Int} {lv : List (Int × Lv)} {gs : List (Int × Gd)} (h : Ew w0 n0 X BL BG H n lv gs a b c w) (hb : Below w.heap.size w w') : Ew w0 n0 X BL BG H n lv gs a b c w' :=
  ⟨h.wk.next hb, h.hb.next hb, h.hr, h.lo⟩

theorem Ew.bds {w0 w : World} {n0 X BL BG H : Nat} {a b c : Int} {lv : List (Int × Lv)} {gs : List (Int × Gd)} (h : Ew w0 n0 X BL BG H 3 lv gs a b c w) : (0 ≤ a ∧ a ≤ 1125899906842624) ∧ (0 ≤ b ∧ b ≤ 1125899906842624) ∧ (0 ≤ c ∧ c ≤ 1125899906842624) := by
  have key : ∀ id, 1 ≤ id → id ≤ 3 → 0 ≤ hAt a b c id ∧ hAt a b c id ≤ 1125899906842624 := fun id h1 h2 => by
    obtain ⟨v, hv⟩ := h.hr.has id h1 h2
    have e := (h.hr.at_ id v hv).2.1
    have h3 := h.wk.good.sm id v hv
    have h4 := h.wk.good.lk id v hv
    have h5 := h.wk.good.sq 1 id
    have h6 := h.wk.good.sq 2 id
    rw [← e]
    omega
  exact ⟨key 1 (by omega) (by omega), key 2 (by omega) (by omega), key 3 (by omega) (by omega)⟩
theorem Wk.apart {w0 w w' : World} {n0 X BL BG H : Nat} {lv : List (Int × Lv)} {gs : List (Int × Gd)} {t : TypeId} {cs : Array Value} (h : Wk w0 n0 X BL BG lv gs w) (hT : Touch (· = H) w w') (hB : Blk w H t cs) (h1 : t ≠ 74) (h2 : t ≠ 38) (h3 : t ≠ 45) (h4 : t ≠ 33) (hlo : w0.heap.size ≤ H) : Wk w0 n0 X BL BG lv gs w' := by
  refine ⟨h.book.touch hT (h.book.blk.ne_ hB (fun e => h1 e.symm)) (fun k hk e => ?_) (fun p hp e => ?_), h.good, h.bel.trans (hT.below h.bel.size (fun k hk => by omega)), h.low.1, Nat.le_trans h.low.2 hT.size⟩
  · subst e
    rcases hk with e | e | ⟨p, hp, e⟩ | ⟨p, hp, e⟩
    · exact h.book.lvs.notBlk hB e.symm
    · exact h.book.gds.notBlk hB e.symm
    · exact hB.ne_ (h.book.lc p hp) h2 e.symm
    · exact hB.ne_ (h.book.gc p hp) h3 e.symm
  · obtain ⟨_, _, cs, hb⟩ := h.book.lns p hp
    exact hb.ne_ hB (fun e => h4 e.symm) e
theorem Ew.apart {w0 w w' : World} {n0 X BL BG H S : Nat} {n a b c : Int} {lv : List (Int × Lv)} {gs : List (Int × Gd)} {t : TypeId} {cs : Array Value} (h : Ew w0 n0 X BL BG H n lv gs a b c w) (hT : Touch (· = S) w w') (hB : Blk w S t cs) (h1 : t ≠ 74) (h2 : t ≠ 38) (h3 : t ≠ 45) (h4 : t ≠ 33) (hne : H ≠ S) (hlo : w0.heap.size ≤ S) : Ew w0 n0 X BL BG H n lv gs a b c w' :=
  ⟨h.wk.apart hT hB h1 h2 h3 h4 hlo, hT.blk h.hb hne, h.hr, h.lo⟩

set_option maxRecDepth 100000 in
set_option maxHeartbeats 16000000 in
theorem stockExact_walk (g0 g1 g2 : Int) (l : List LsRow) (A : Option Addr) (cp : Nat) (w : World) (hg : I64 g0 ∧ I64 g1 ∧ I64 g2) (hR : Rd w A (l.flatMap enLs)) (hok : ∀ x ∈ l, OkRow w x) (hl : l.length * 24 ≤ 140737488351232) :
    Calls Try.prog 3 #[.agg #[.int .i64 g0, .int .i64 g1, .int .i64 g2], .slice A l.length cp] w (Law w) := by
  have HOK := hid hok
  have G0 := hg.1.bd
  have G1 := hg.2.1.bd
  have G2 := hg.2.2.bd
  obtain ⟨w0, hw0⟩ : ∃ w0, w0 = w.alloc (.cells #[.int .i64 g0, .int .i64 g1, .int .i64 g2] 22) := ⟨_, rfl⟩
  obtain ⟨G, hG⟩ : ∃ G, G = w.heap.size := ⟨_, rfl⟩
  have hb0 : Below w.heap.size w w0 := by rw [hw0]; exact (Below.refl _ _).alloc (Nat.le_refl _) _
  have hBG : Blk w0 G 22 #[.int .i64 g0, .int .i64 g1, .int .i64 g2] := by rw [hw0, hG]; exact Blk.new _ _ _
  have HW := hid hw0
  have HG := hid hG
  have HB := hid hBG
  have HB0 := hid hb0
  clear hok hg hw0 hG hb0 hBG
  go_enter Try.func3, Try.ntmps3
  go_wp2_with fail
  rw [← HW.out, ← HG.out]
  refine (wakes_any _).mono ?_
  rintro e w1 ⟨rfl, hb⟩
  go_wp2_with fail
  refine (new_any _).mono ?_
  rintro e w2 ⟨X, BL, BG, rfl, h, hb1⟩
  have hS : Wk w w1.heap.size X BL BG [] [] w2 := ⟨h, GoodB.nil, bthen (bthen HB0.out hb) hb1, Nat.le_trans HB0.out.size hb.size, hb1.size⟩
  have hBG := (HB.out.next hb).next hb1
  clear h hb hb1 HB HB0 HW HG
  obtain ⟨n0, hn0⟩ : ∃ n0, n0 = w1.heap.size := ⟨_, rfl⟩
  rw [← hn0] at hS
  clear hn0
  have hwb : Below w2.heap.size w2 (w2.alloc (.cells #[.int .i64 0, .int .i64 0, .int .i64 0, .int .i64 0] 27)) := (Below.refl _ _).alloc (Nat.le_refl _) _
  have hE : Ew w n0 X BL BG w2.heap.size 0 [] [] 0 0 0 (w2.alloc (.cells #[.int .i64 0, .int .i64 0, .int .i64 0, .int .i64 0] 27)) := ⟨hS.next hwb, Blk.new _ _ _, HandR.nil, hS.bel.size⟩
  replace hBG := hBG.next hwb
  obtain ⟨H, hH⟩ : ∃ H, H = w2.heap.size := ⟨_, rfl⟩
  rw [← hH] at hE
  have HE := hid (And.intro hE (And.intro hBG hH))
  clear hS hwb hE hBG hH
  go_wp2_with fail
  obtain ⟨hE, hBG, hH⟩ := HE.out
  rw [← hH]
  clear HE hH
  go_loopw [26] (fun i wr => ∃ (k : Int) (lv : List (Int × Lv)) (a b c : Int), (k = 0 ∨ k = 1 ∨ k = 2 ∨ k = 3) ∧ i = .int .i64 k ∧ Ew w n0 X BL BG H k lv [] a b c wr ∧ Blk wr G 22 #[.int .i64 g0, .int .i64 g1, .int .i64 g2]) (fun i _ => 3 - nOf i)
  case atStart => exact ⟨0, [], 0, 0, 0, .inl rfl, rfl, hE, hBG⟩
  case round =>
    clear hE hBG
    obtain ⟨k, lv, a, b, c, hk, rfl, hE, hBG⟩ := hrel
    rcases hk with rfl | rfl | rfl | rfl
    · have K := hid (item_new hE.wk.book hE.wk.low.2 1 ⟨by omega, by omega⟩ (by cases hm : mget lv 1 with | none => rfl | some v => have := (hE.hr.at_ 1 v hm).1; omega))
      have HE := hid hE
      have HBG := hid hBG
      clear hE hBG
      go_wp2_with fail
      refine K.out.mono ?_
      rintro e w5 ⟨rfl, ⟨g, hg, hI⟩, hT⟩
      have hE := HE.out
      have hGd := hE.wk.good.item (id := 1) (by cases hm : mget lv 1 with | none => rfl | some v => have := (hE.hr.at_ 1 v hm).1; omega) ⟨by omega, by omega⟩ g
      have hW5 := hE.wk.step hI hGd hT
      have hB5 := hE.wk.blk hT hE.hb (by decide) (by decide)
      have hG5 := hE.wk.blk hT HBG.out (by decide) (by decide)
      have q0 : w5.cell? ⟨G, 0, none⟩ = some (.int .i64 g0) := hG5.cell 0
      have f0 := hB5.free 1
      have f1 := hB5.lt
      have c1 : w5.cell? ⟨H, 1, none⟩ = some (.int .i64 a) := hB5.cell 1
      have H5 := hid (And.intro hW5 (And.intro hB5 hG5))
      clear K hg hI hT hE hGd hW5 hB5 hG5 HBG
      go_upto_region 9 with fail
      go_cut [] (fun wx => ∃ x : Int, (1 ≤ x ∧ x ≤ 50) ∧ wx = w5.setCell ⟨H, 1, none⟩ (.int .i64 x))
      case first =>
        clear HE H5 hR hl HOK
        go_wp2_with fail
        all_goals (go_meet; exact ⟨_, by omega, rfl⟩)
      case rest =>
        obtain ⟨x, hx, rfl⟩ := hcut
        obtain ⟨hW5, hB5, hG5⟩ := H5.out
        have hT := Touch.setCell w5 H 1 (.int .i64 x)
        have hB6 : Blk (w5.setCell ⟨H, 1, none⟩ (.int .i64 x)) H 27 #[.int .i64 0, .int .i64 x, .int .i64 b, .int .i64 c] := hB5.set_ 1 (.int .i64 x)
        have hG6 := hT.blk hG5 (hG5.ne_ hB5 (by decide))
        have hW6 := hW5.apart hT hB5 (by decide) (by decide) (by decide) (by decide) HE.out.lo
        have hm6 : mget (mset lv 1 (newLv g 1)) 1 = some (newLv g 1) := by rw [mget_mset, if_pos rfl]
        have K := hid (recv_yes hW6.book 1 x ⟨by omega, by omega⟩ hm6 (by simp only [newLv]; omega) (by unfold LvB newLv; simp))
        have hGd := hW6.good.recv (q := x) hm6 (by omega) (by simp only [newLv]; omega)
        have hHR := HE.out.hr.more (v := ⟨(newLv g 1).g, (newLv g 1).i, (newLv g 1).r + x, (newLv g 1).h + x, (newLv g 1).a, (newLv g 1).s, (newLv g 1).t⟩) (x := x) (a' := x) (b' := b) (c' := c) ⟨by simp [newLv], rfl, rfl⟩ g (by simp [hAt]) (fun id h1 h2 => by
          unfold hAt
          repeat (first | rfl | (split <;> first | rfl | omega | skip))) (by omega)
        have q1 : (w5.setCell ⟨H, 1, none⟩ (.int .i64 x)).cell? ⟨H, 1, none⟩ = some (.int .i64 x) := hB6.cell 1
        have H6 := hid (And.intro hW6 (And.intro hB6 (And.intro hG6 (And.intro hGd (And.intro hHR HE.out.lo)))))
        clear HE H5 hW5 hB5 hG5 hT hB6 hG6 hW6 hm6 hGd hHR q0 f0 f1 c1
        go_wp2_with fail
        refine K.out.mono ?_
        rintro e w7 ⟨rfl, hI, hT⟩
        obtain ⟨hW6, hB6, hG6, hGd, hHR, hlo⟩ := H6.out
        have hE7 : Ew w n0 X BL BG H 1 _ [] x b c w7 := ⟨hW6.step hI hGd hT, hW6.blk hT hB6 (by decide) (by decide), hHR, hlo⟩
        have hG7 := hW6.blk hT hG6 (by decide) (by decide)
        clear K H6 hI hT hW6 hB6 hG6 hGd hHR q1
        go_wp2_with fail
        go_roundw
        case rel => exact ⟨1, _, _, _, _, by omega, rfl, hE7, hG7⟩
        case measure => simp [nOf]
    · have K := hid (item_new hE.wk.book hE.wk.low.2 2 ⟨by omega, by omega⟩ (by cases hm : mget lv 2 with | none => rfl | some v => have := (hE.hr.at_ 2 v hm).1; omega))
      have HE := hid hE
      have HBG := hid hBG
      clear hE hBG
      go_wp2_with fail
      refine K.out.mono ?_
      rintro e w5 ⟨rfl, ⟨g, hg, hI⟩, hT⟩
      have hE := HE.out
      have hGd := hE.wk.good.item (id := 2) (by cases hm : mget lv 2 with | none => rfl | some v => have := (hE.hr.at_ 2 v hm).1; omega) ⟨by omega, by omega⟩ g
      have hW5 := hE.wk.step hI hGd hT
      have hB5 := hE.wk.blk hT hE.hb (by decide) (by decide)
      have hG5 := hE.wk.blk hT HBG.out (by decide) (by decide)
      have q0 : w5.cell? ⟨G, 1, none⟩ = some (.int .i64 g1) := hG5.cell 1
      have f0 := hB5.free 2
      have f1 := hB5.lt
      have c1 : w5.cell? ⟨H, 2, none⟩ = some (.int .i64 b) := hB5.cell 2
      have H5 := hid (And.intro hW5 (And.intro hB5 hG5))
      clear K hg hI hT hE hGd hW5 hB5 hG5 HBG
      go_upto_region 9 with fail
      go_cut [] (fun wx => ∃ x : Int, (1 ≤ x ∧ x ≤ 50) ∧ wx = w5.setCell ⟨H, 2, none⟩ (.int .i64 x))
      case first =>
        clear HE H5 hR hl HOK
        go_wp2_with fail
        all_goals (go_meet; exact ⟨_, by omega, rfl⟩)
      case rest =>
        obtain ⟨x, hx, rfl⟩ := hcut
        obtain ⟨hW5, hB5, hG5⟩ := H5.out
        have hT := Touch.setCell w5 H 2 (.int .i64 x)
        have hB6 : Blk (w5.setCell ⟨H, 2, none⟩ (.int .i64 x)) H 27 #[.int .i64 0, .int .i64 a, .int .i64 x, .int .i64 c] := hB5.set_ 2 (.int .i64 x)
        have hG6 := hT.blk hG5 (hG5.ne_ hB5 (by decide))
        have hW6 := hW5.apart hT hB5 (by decide) (by decide) (by decide) (by decide) HE.out.lo
        have hm6 : mget (mset lv 2 (newLv g 2)) 2 = some (newLv g 2) := by rw [mget_mset, if_pos rfl]
        have K := hid (recv_yes hW6.book 2 x ⟨by omega, by omega⟩ hm6 (by simp only [newLv]; omega) (by unfold LvB newLv; simp))
        have hGd := hW6.good.recv (q := x) hm6 (by omega) (by simp only [newLv]; omega)
        have hHR := HE.out.hr.more (v := ⟨(newLv g 2).g, (newLv g 2).i, (newLv g 2).r + x, (newLv g 2).h + x, (newLv g 2).a, (newLv g 2).s, (newLv g 2).t⟩) (x := x) (a' := a) (b' := x) (c' := c) ⟨by simp [newLv], rfl, rfl⟩ g (by simp [hAt]) (fun id h1 h2 => by
          unfold hAt
          repeat (first | rfl | (split <;> first | rfl | omega | skip))) (by omega)
        have q1 : (w5.setCell ⟨H, 2, none⟩ (.int .i64 x)).cell? ⟨H, 2, none⟩ = some (.int .i64 x) := hB6.cell 2
        have H6 := hid (And.intro hW6 (And.intro hB6 (And.intro hG6 (And.intro hGd (And.intro hHR HE.out.lo)))))
        clear HE H5 hW5 hB5 hG5 hT hB6 hG6 hW6 hm6 hGd hHR q0 f0 f1 c1
        go_wp2_with fail
        refine K.out.mono ?_
        rintro e w7 ⟨rfl, hI, hT⟩
        obtain ⟨hW6, hB6, hG6, hGd, hHR, hlo⟩ := H6.out
        have hE7 : Ew w n0 X BL BG H 2 _ [] a x c w7 := ⟨hW6.step hI hGd hT, hW6.blk hT hB6 (by decide) (by decide), hHR, hlo⟩
        have hG7 := hW6.blk hT hG6 (by decide) (by decide)
        clear K H6 hI hT hW6 hB6 hG6 hGd hHR q1
        go_wp2_with fail
        go_roundw
        case rel => exact ⟨2, _, _, _, _, by omega, rfl, hE7, hG7⟩
        case measure => simp [nOf]
    · have K := hid (item_new hE.wk.book hE.wk.low.2 3 ⟨by omega, by omega⟩ (by cases hm : mget lv 3 with | none => rfl | some v => have := (hE.hr.at_ 3 v hm).1; omega))
      have HE := hid hE
      have HBG := hid hBG
      clear hE hBG
      go_wp2_with fail
      refine K.out.mono ?_
      rintro e w5 ⟨rfl, ⟨g, hg, hI⟩, hT⟩
      have hE := HE.out
      have hGd := hE.wk.good.item (id := 3) (by cases hm : mget lv 3 with | none => rfl | some v => have := (hE.hr.at_ 3 v hm).1; omega) ⟨by omega, by omega⟩ g
      have hW5 := hE.wk.step hI hGd hT
      have hB5 := hE.wk.blk hT hE.hb (by decide) (by decide)
      have hG5 := hE.wk.blk hT HBG.out (by decide) (by decide)
      have q0 : w5.cell? ⟨G, 2, none⟩ = some (.int .i64 g2) := hG5.cell 2
      have f0 := hB5.free 3
      have f1 := hB5.lt
      have c1 : w5.cell? ⟨H, 3, none⟩ = some (.int .i64 c) := hB5.cell 3
      have H5 := hid (And.intro hW5 (And.intro hB5 hG5))
      clear K hg hI hT hE hGd hW5 hB5 hG5 HBG
      go_upto_region 9 with fail
      go_cut [] (fun wx => ∃ x : Int, (1 ≤ x ∧ x ≤ 50) ∧ wx = w5.setCell ⟨H, 3, none⟩ (.int .i64 x))
      case first =>
        clear HE H5 hR hl HOK
        go_wp2_with fail
        all_goals (go_meet; exact ⟨_, by omega, rfl⟩)
      case rest =>
        obtain ⟨x, hx, rfl⟩ := hcut
        obtain ⟨hW5, hB5, hG5⟩ := H5.out
        have hT := Touch.setCell w5 H 3 (.int .i64 x)
        have hB6 : Blk (w5.setCell ⟨H, 3, none⟩ (.int .i64 x)) H 27 #[.int .i64 0, .int .i64 a, .int .i64 b, .int .i64 x] := hB5.set_ 3 (.int .i64 x)
        have hG6 := hT.blk hG5 (hG5.ne_ hB5 (by decide))
        have hW6 := hW5.apart hT hB5 (by decide) (by decide) (by decide) (by decide) HE.out.lo
        have hm6 : mget (mset lv 3 (newLv g 3)) 3 = some (newLv g 3) := by rw [mget_mset, if_pos rfl]
        have K := hid (recv_yes hW6.book 3 x ⟨by omega, by omega⟩ hm6 (by simp only [newLv]; omega) (by unfold LvB newLv; simp))
        have hGd := hW6.good.recv (q := x) hm6 (by omega) (by simp only [newLv]; omega)
        have hHR := HE.out.hr.more (v := ⟨(newLv g 3).g, (newLv g 3).i, (newLv g 3).r + x, (newLv g 3).h + x, (newLv g 3).a, (newLv g 3).s, (newLv g 3).t⟩) (x := x) (a' := a) (b' := b) (c' := x) ⟨by simp [newLv], rfl, rfl⟩ g (by simp [hAt]) (fun id h1 h2 => by
          unfold hAt
          repeat (first | rfl | (split <;> first | rfl | omega | skip))) (by omega)
        have q1 : (w5.setCell ⟨H, 3, none⟩ (.int .i64 x)).cell? ⟨H, 3, none⟩ = some (.int .i64 x) := hB6.cell 3
        have H6 := hid (And.intro hW6 (And.intro hB6 (And.intro hG6 (And.intro hGd (And.intro hHR HE.out.lo)))))
        clear HE H5 hW5 hB5 hG5 hT hB6 hG6 hW6 hm6 hGd hHR q0 f0 f1 c1
        go_wp2_with fail
        refine K.out.mono ?_
        rintro e w7 ⟨rfl, hI, hT⟩
        obtain ⟨hW6, hB6, hG6, hGd, hHR, hlo⟩ := H6.out
        have hE7 : Ew w n0 X BL BG H 3 _ [] a b x w7 := ⟨hW6.step hI hGd hT, hW6.blk hT hB6 (by decide) (by decide), hHR, hlo⟩
        have hG7 := hW6.blk hT hG6 (by decide) (by decide)
        clear K H6 hI hT hW6 hB6 hG6 hGd hHR q1
        go_wp2_with fail
        go_roundw
        case rel => exact ⟨3, _, _, _, _, by omega, rfl, hE7, hG7⟩
        case measure => simp [nOf]
    · --MAIN
      clear hBG
      go_wp2_with fail
      go_loopw [53] (fun i wr => ∃ (k : Nat) (lv : List (Int × Lv)) (gs : List (Int × Gd)) (a b c : Int), k ≤ l.length ∧ i = .int .i64 k ∧ gs.length ≤ k ∧ Hid (∀ o d, mget gs o = some d → o ≤ k) ∧ Ew w n0 X BL BG H 3 lv gs a b c wr) (fun i _ => l.length - nOf i)
      case atStart => exact ⟨0, lv, [], a, b, c, Nat.zero_le _, rfl, Nat.le_refl _, hid (fun o d h => by simp [mget] at h), hE⟩
      case round =>
        clear hE
        obtain ⟨k, lv, gs, a, b, c, hk, rfl, hln, hkeys, hE⟩ := hrel
        by_cases hlt : k < l.length
        · obtain ⟨x, hx⟩ : ∃ x, l[k]? = some x := ⟨l[k], List.getElem?_eq_getElem hlt⟩
          have hox := HOK.out x (List.mem_of_getElem? hx)
          obtain ⟨b1, off, hAA, hbs, hcc⟩ := (hR.below hE.wk.bel).at_ 1 enLs_len (by omega) hx
          obtain ⟨xA, xcap, xls⟩ := x
          have q0 : wr.cell? ⟨b1, off + k, none⟩ = some (.slice xA xls.length xcap) := by have := hcc 0 _ rfl; simpa using this
          unfold OkRow at hox
          simp only at hox
          have hlen := hox.len
          have hbds := hE.bds
          obtain ⟨wo, rfl⟩ : ∃ wo : World, wo = wr := ⟨_, rfl⟩
          have HX := hid (And.intro hox hE)
          clear hcc hx hox hE
          subst hAA
          go_upto_region 15 with fail
          go_cut [10] (fun v wx => v = .bool (decide (1 ≤ xls.length ∧ xls.length ≤ 4)) ∧ wx = wo)
          case first =>
            clear HX hR HOK hl
            rcases (show xls.length = 0 ∨ (1 ≤ xls.length ∧ xls.length ≤ 4) ∨ 4 < xls.length from by omega) with h1 | ⟨h1, h2⟩ | h1
            · have hd : decide (1 ≤ xls.length ∧ xls.length ≤ 4) = false := decide_eq_false (by omega)
              replace hd := hid hd
              have e1 : decide (1 ≤ (xls.length : Int)) = false := decide_eq_false (by omega)
              have h2 : ¬ (1 ≤ (xls.length : Int)) := by omega
              clear h1
              go_wp2_with fail
              go_meet
              exact ⟨by rw [hd.out], rfl⟩
            · have hd : decide (1 ≤ xls.length ∧ xls.length ≤ 4) = true := decide_eq_true (by omega)
              replace hd := hid hd
              have e1 : decide (1 ≤ (xls.length : Int)) = true := decide_eq_true (by omega)
              have e2 : decide ((xls.length : Int) ≤ 4) = true := decide_eq_true (by omega)
              have h3 : 1 ≤ (xls.length : Int) := by omega
              clear h1 h2
              go_wp2_with fail
              go_meet
              exact ⟨by rw [hd.out], rfl⟩
            · have hd : decide (1 ≤ xls.length ∧ xls.length ≤ 4) = false := decide_eq_false (by omega)
              replace hd := hid hd
              have e1 : decide (1 ≤ (xls.length : Int)) = true := decide_eq_true (by omega)
              have e2 : decide ((xls.length : Int) ≤ 4) = false := decide_eq_false (by omega)
              have h2 : 1 ≤ (xls.length : Int) := by omega
              clear h1
              go_wp2_with fail
              go_meet
              exact ⟨by rw [hd.out], rfl⟩
          case rest =>
            obtain ⟨rfl, rfl⟩ := hcut
            obtain ⟨wo, rfl⟩ : ∃ wo : World, wo = wc := ⟨_, rfl⟩
            clear q0 hbs
            obtain ⟨hox, hE⟩ := HX.out
            generalize hb0 : decide (1 ≤ xls.length ∧ xls.length ≤ 4) = b0
            have HB0 := hid hb0
            have hwb : Below wo.heap.size wo (wo.alloc (.cells #[.int .i64 0, .int .i64 0, .int .i64 0, .int .i64 0] 27)) := (Below.refl _ _).alloc (Nat.le_refl _) _
            have hBS := Blk.new wo 27 #[.int .i64 0, .int .i64 0, .int .i64 0, .int .i64 0]
            have hHS : H ≠ wo.heap.size := fun e => by have := hE.hb.lt; omega
            have hSlo : w.heap.size ≤ wo.heap.size := hE.wk.bel.size
            have HOX := hid hox
            have hE1 := hE.next hwb
            obtain ⟨S, hS⟩ : ∃ S, S = wo.heap.size := ⟨_, rfl⟩
            obtain ⟨w1', hw1⟩ : ∃ w1', w1' = wo.alloc (.cells #[.int .i64 0, .int .i64 0, .int .i64 0, .int .i64 0] 27) := ⟨_, rfl⟩
            have HS := hid hS
            have HW1 := hid hw1
            rw [← hS] at hHS hSlo
            rw [← hw1, ← hS] at hBS
            rw [← hw1] at hE1
            have H1 := hid (And.intro hBS hE1)
            clear HX hox hE hwb hBS hE1 hS hw1 hb0
            go_wp2_with fail
            rw [← HW1.out, ← HS.out]
            clear HW1 HS
            go_loopw [69, 10] (fun i f wr => ∃ (j : Nat) (fb : Bool) (s1 s2 s3 : Int), j ≤ xls.length ∧ i = .int .i64 j ∧ f = .bool fb ∧ Hid (Seen b0 fb (xls.take j) s1 s2 s3) ∧ Blk wr S 27 #[.int .i64 0, .int .i64 s1, .int .i64 s2, .int .i64 s3] ∧ Ew w n0 X BL BG H 3 lv gs a b c wr) (fun i _ _ => xls.length - nOf i)
            case atStart => exact ⟨0, b0, 0, 0, 0, Nat.zero_le _, rfl, rfl, hid (Seen.nil b0), H1.out.1, H1.out.2⟩
            case round =>
              obtain ⟨j, fb, s1, s2, s3, hj, rfl, rfl, hSeen, hBS, hE⟩ := hrel
              have hox := HOX.out.next hE.wk.bel
              by_cases hjl : j < xls.length
              · obtain ⟨y, hy⟩ : ∃ y, xls[j]? = some y := ⟨xls[j], List.getElem?_eq_getElem hjl⟩
                obtain ⟨b2, off2, hA2, hbs2, hcc2⟩ := hox.rd.at_ 2 enL_len (by omega) hy
                have HS2 := hid (show xls.take (j + 1) = xls.take j ++ [y] from by rw [List.take_add_one, hy]; rfl)
                have hsb := hSeen.out.bd
                have htl : (xls.take j).length ≤ j := List.length_take_le _ _
                obtain ⟨yi, yq⟩ := y
                have p0 : wr.cell? ⟨b2, off2 + j * 2, none⟩ = some (.int .i64 yi) := hcc2 0 _ rfl
                have p1 : wr.cell? ⟨b2, off2 + j * 2 + 1, none⟩ = some (.int .i64 yq) := hcc2 1 _ rfl
                have hwb : Below wr.heap.size wr (wr.alloc (.cells #[.int .i64 yi, .int .i64 yq] 33)) := (Below.refl _ _).alloc (Nat.le_refl _) _
                have hBz := hBS.next hwb
                have hEz := hE.next hwb
                have hYB := Blk.new wr 33 #[.int .i64 yi, .int .i64 yq]
                have r0 : (wr.alloc (.cells #[.int .i64 yi, .int .i64 yq] 33)).cell? ⟨wr.heap.size, 0, none⟩ = some (.int .i64 yi) := hYB.cell 0
                have r1 : (wr.alloc (.cells #[.int .i64 yi, .int .i64 yq] 33)).cell? ⟨wr.heap.size, 1, none⟩ = some (.int .i64 yq) := hYB.cell 1
                have HZ := hid (And.intro hBz hEz)
                subst hA2
                have hSY : wr.heap.size ≠ S := fun e => by have := hBS.lt; omega
                clear hcc2 hy hox hBS hE hbs2 hYB hwb
                rcases (show yi < 1 ∨ 3 < yi ∨ ((1 ≤ yi ∧ yi ≤ 3) ∧ yq < 1) ∨ ((1 ≤ yi ∧ yi ≤ 3) ∧ 1000000 < yq) ∨ ((1 ≤ yi ∧ yi ≤ 3) ∧ 1 ≤ yq ∧ yq ≤ 1000000) from by omega) with c1 | c1 | ⟨c0, c1⟩ | ⟨c0, c1⟩ | ⟨c0, c1⟩
                · have HB := hid (hSeen.out.bad (x := ⟨yi, yq⟩) (by unfold OkX; simp only; omega))
                  obtain ⟨hBz, hEz⟩ := HZ.out
                  clear hSeen hBz hEz hsb htl
                  go_wp2_with fail
                  obtain ⟨hBz, hEz⟩ := HZ.out
                  go_roundw
                  case rel => exact ⟨j + 1, false, s1, s2, s3, by omega, by go_num, rfl, hid (by rw [HS2.out]; exact HB.out), hBz, hEz⟩
                  case measure => simp [nOf]; omega
                · have HB := hid (hSeen.out.bad (x := ⟨yi, yq⟩) (by unfold OkX; simp only; omega))
                  have c2 : 1 ≤ yi := by omega
                  obtain ⟨hBz, hEz⟩ := HZ.out
                  clear hSeen hBz hEz hsb htl
                  go_wp2_with fail
                  obtain ⟨hBz, hEz⟩ := HZ.out
                  go_roundw
                  case rel => exact ⟨j + 1, false, s1, s2, s3, by omega, by go_num, rfl, hid (by rw [HS2.out]; exact HB.out), hBz, hEz⟩
                  case measure => simp [nOf]; omega
                · have HB := hid (hSeen.out.bad (x := ⟨yi, yq⟩) (by unfold OkX; simp only; omega))
                  obtain ⟨c2, c3⟩ := c0
                  obtain ⟨hBz, hEz⟩ := HZ.out
                  clear hSeen hBz hEz hsb htl
                  go_wp2_with fail
                  obtain ⟨hBz, hEz⟩ := HZ.out
                  go_roundw
                  case rel => exact ⟨j + 1, false, s1, s2, s3, by omega, by go_num, rfl, hid (by rw [HS2.out]; exact HB.out), hBz, hEz⟩
                  case measure => simp [nOf]; omega
                · have HB := hid (hSeen.out.bad (x := ⟨yi, yq⟩) (by unfold OkX; simp only; omega))
                  obtain ⟨c2, c3⟩ := c0
                  have c4 : 1 ≤ yq := by omega
                  obtain ⟨hBz, hEz⟩ := HZ.out
                  clear hSeen hBz hEz hsb htl
                  go_wp2_with fail
                  obtain ⟨hBz, hEz⟩ := HZ.out
                  go_roundw
                  case rel => exact ⟨j + 1, false, s1, s2, s3, by omega, by go_num, rfl, hid (by rw [HS2.out]; exact HB.out), hBz, hEz⟩
                  case measure => simp [nOf]; omega
                · have hok : OkX ⟨yi, yq⟩ := ⟨c0, c1⟩
                  rcases (show yi = 1 ∨ yi = 2 ∨ yi = 3 from by omega) with rfl | rfl | rfl
                  · have HB := hid (hSeen.out.good (t1 := (s1 + 1)) (t2 := s2) (t3 := s3) hok (by simp [hAt]) (by omega) (by omega) (by omega))
                    have hv : hAt (s1 + 1) s2 s3 1 = s1 + 1 := by simp [hAt]
                    simp only [hv] at HB
                    obtain ⟨hBz, hEz⟩ := HZ.out
                    have d1 : (wr.alloc (.cells #[.int .i64 1, .int .i64 yq] 33)).cell? ⟨S, 1, none⟩ = some (.int .i64 s1) := hBz.cell 1
                    have d2 := hBz.free 1
                    have d3 := hBz.lt
                    have hT := Touch.setCell (wr.alloc (.cells #[.int .i64 1, .int .i64 yq] 33)) S 1 (.int .i64 (s1 + 1))
                    have hB9 : Blk ((wr.alloc (.cells #[.int .i64 1, .int .i64 yq] 33)).setCell ⟨S, 1, none⟩ (.int .i64 (s1 + 1))) S 27 #[.int .i64 0, .int .i64 (s1 + 1), .int .i64 s2, .int .i64 s3] := hBz.set_ 1 (.int .i64 (s1 + 1))
                    have hE9 := hEz.apart hT hBz (by decide) (by decide) (by decide) (by decide) hHS hSlo
                    have H9 := hid (And.intro hB9 hE9)
                    obtain ⟨c2, c3⟩ := c1
                    obtain ⟨hsb1, hsb2, hsb3⟩ := hsb
                    have w1 : IntKind.i64.wrap (s1 + 1) = s1 + 1 := IntWalk.i64_in _ ⟨by omega, by omega⟩
                    by_cases hs : s1 + 1 = 1
                    · have e1 : (s1 + 1 == 1) = true := by simpa using hs
                      rw [e1] at HB
                      clear hSeen hBz hEz htl hT hB9 hE9 HZ hok hv hs hsb1 hsb2 hsb3
                      cases fb
                      all_goals
                        go_wp2_with fail
                        go_roundw
                        case rel => exact ⟨j + 1, _, _, _, _, by omega, by go_num, rfl, hid (by rw [HS2.out]; exact HB.out), H9.out.1, H9.out.2⟩
                        case measure => simp [nOf]; omega
                    · have e1 : (s1 + 1 == 1) = false := by simpa using hs
                      rw [e1] at HB
                      clear hSeen hBz hEz htl hT hB9 hE9 HZ hok hv hs hsb1 hsb2 hsb3
                      cases fb
                      all_goals
                        go_wp2_with fail
                        go_roundw
                        case rel => exact ⟨j + 1, _, _, _, _, by omega, by go_num, rfl, hid (by rw [HS2.out]; exact HB.out), H9.out.1, H9.out.2⟩
                        case measure => simp [nOf]; omega
                  · have HB := hid (hSeen.out.good (t1 := s1) (t2 := (s2 + 1)) (t3 := s3) hok (by simp [hAt]) (by omega) (by omega) (by omega))
                    have hv : hAt s1 (s2 + 1) s3 2 = s2 + 1 := by simp [hAt]
                    simp only [hv] at HB
                    obtain ⟨hBz, hEz⟩ := HZ.out
                    have d1 : (wr.alloc (.cells #[.int .i64 2, .int .i64 yq] 33)).cell? ⟨S, 2, none⟩ = some (.int .i64 s2) := hBz.cell 2
                    have d2 := hBz.free 2
                    have d3 := hBz.lt
                    have hT := Touch.setCell (wr.alloc (.cells #[.int .i64 2, .int .i64 yq] 33)) S 2 (.int .i64 (s2 + 1))
                    have hB9 : Blk ((wr.alloc (.cells #[.int .i64 2, .int .i64 yq] 33)).setCell ⟨S, 2, none⟩ (.int .i64 (s2 + 1))) S 27 #[.int .i64 0, .int .i64 s1, .int .i64 (s2 + 1), .int .i64 s3] := hBz.set_ 2 (.int .i64 (s2 + 1))
                    have hE9 := hEz.apart hT hBz (by decide) (by decide) (by decide) (by decide) hHS hSlo
                    have H9 := hid (And.intro hB9 hE9)
                    obtain ⟨c2, c3⟩ := c1
                    obtain ⟨hsb1, hsb2, hsb3⟩ := hsb
                    have w1 : IntKind.i64.wrap (s2 + 1) = s2 + 1 := IntWalk.i64_in _ ⟨by omega, by omega⟩
                    by_cases hs : s2 + 1 = 1
                    · have e1 : (s2 + 1 == 1) = true := by simpa using hs
                      rw [e1] at HB
                      clear hSeen hBz hEz htl hT hB9 hE9 HZ hok hv hs hsb1 hsb2 hsb3
                      cases fb
                      all_goals
                        go_wp2_with fail
                        go_roundw
                        case rel => exact ⟨j + 1, _, _, _, _, by omega, by go_num, rfl, hid (by rw [HS2.out]; exact HB.out), H9.out.1, H9.out.2⟩
                        case measure => simp [nOf]; omega
                    · have e1 : (s2 + 1 == 1) = false := by simpa using hs
                      rw [e1] at HB
                      clear hSeen hBz hEz htl hT hB9 hE9 HZ hok hv hs hsb1 hsb2 hsb3
                      cases fb
                      all_goals
                        go_wp2_with fail
                        go_roundw
                        case rel => exact ⟨j + 1, _, _, _, _, by omega, by go_num, rfl, hid (by rw [HS2.out]; exact HB.out), H9.out.1, H9.out.2⟩
                        case measure => simp [nOf]; omega
                  · have HB := hid (hSeen.out.good (t1 := s1) (t2 := s2) (t3 := (s3 + 1)) hok (by simp [hAt]) (by omega) (by omega) (by omega))
                    have hv : hAt s1 s2 (s3 + 1) 3 = s3 + 1 := by simp [hAt]
                    simp only [hv] at HB
                    obtain ⟨hBz, hEz⟩ := HZ.out
                    have d1 : (wr.alloc (.cells #[.int .i64 3, .int .i64 yq] 33)).cell? ⟨S, 3, none⟩ = some (.int .i64 s3) := hBz.cell 3
                    have d2 := hBz.free 3
                    have d3 := hBz.lt
                    have hT := Touch.setCell (wr.alloc (.cells #[.int .i64 3, .int .i64 yq] 33)) S 3 (.int .i64 (s3 + 1))
                    have hB9 : Blk ((wr.alloc (.cells #[.int .i64 3, .int .i64 yq] 33)).setCell ⟨S, 3, none⟩ (.int .i64 (s3 + 1))) S 27 #[.int .i64 0, .int .i64 s1, .int .i64 s2, .int .i64 (s3 + 1)] := hBz.set_ 3 (.int .i64 (s3 + 1))
                    have hE9 := hEz.apart hT hBz (by decide) (by decide) (by decide) (by decide) hHS hSlo
                    have H9 := hid (And.intro hB9 hE9)
                    obtain ⟨c2, c3⟩ := c1
                    obtain ⟨hsb1, hsb2, hsb3⟩ := hsb
                    have w1 : IntKind.i64.wrap (s3 + 1) = s3 + 1 := IntWalk.i64_in _ ⟨by omega, by omega⟩
                    by_cases hs : s3 + 1 = 1
                    · have e1 : (s3 + 1 == 1) = true := by simpa using hs
                      rw [e1] at HB
                      clear hSeen hBz hEz htl hT hB9 hE9 HZ hok hv hs hsb1 hsb2 hsb3
                      cases fb
                      all_goals
                        go_wp2_with fail
                        go_roundw
                        case rel => exact ⟨j + 1, _, _, _, _, by omega, by go_num, rfl, hid (by rw [HS2.out]; exact HB.out), H9.out.1, H9.out.2⟩
                        case measure => simp [nOf]; omega
                    · have e1 : (s3 + 1 == 1) = false := by simpa using hs
                      rw [e1] at HB
                      clear hSeen hBz hEz htl hT hB9 hE9 HZ hok hv hs hsb1 hsb2 hsb3
                      cases fb
                      all_goals
                        go_wp2_with fail
                        go_roundw
                        case rel => exact ⟨j + 1, _, _, _, _, by omega, by go_num, rfl, hid (by rw [HS2.out]; exact HB.out), H9.out.1, H9.out.2⟩
                        case measure => simp [nOf]; omega
              · have hjj : j = xls.length := by omega
                subst hjj
                rw [List.take_length] at hSeen
                have hkeys2 := hid (show ∀ o d, mget gs o = some d → o ≤ ((k + 1 : Nat) : Int) from fun o d h => by have := hkeys.out o d h; omega)
                clear hj hjl H1 hox hBS
                cases fb with
                | false =>
                  clear hSeen hbds hlen
                  go_wp2_with fail
                  go_roundw
                  case rel => exact ⟨k + 1, lv, gs, a, b, c, by omega, by go_num, by omega, hkeys2, hE⟩
                  case measure => simp [nOf]; omega
                | true =>
                  have hs := hSeen.out
                  rw [← HB0.out] at hs
                  obtain ⟨hfit, h13⟩ := hs.fitOk (o := (k : Int) + 1) (by omega)
                  have hl4 : xls.length ≤ 4 := hfit.1.2.2
                  have HFIT := hid hfit
                  have H13 := hid h13
                  have hbd := hbds
                  clear hSeen hs hfit h13 hkeys2 HB0 hbds
                  go_wp2_with fail
                  go_loopw [110, 14] (fun i en wr => ∃ (j : Nat), j ≤ xls.length ∧ i = .int .i64 j ∧ en = .bool (enB a b c (xls.take j)) ∧ Ew w n0 X BL BG H 3 lv gs a b c wr) (fun i _ _ => xls.length - nOf i)
                  case atStart => exact ⟨0, Nat.zero_le _, rfl, rfl, hE⟩
                  case round =>
                    clear hE
                    obtain ⟨j, hj, rfl, rfl, hE⟩ := hrel
                    have hox := HOX.out.next hE.wk.bel
                    by_cases hjl : j < xls.length
                    · obtain ⟨y, hy⟩ : ∃ y, xls[j]? = some y := ⟨xls[j], List.getElem?_eq_getElem hjl⟩
                      obtain ⟨b2, off2, hA2, hbs2, hcc2⟩ := hox.rd.at_ 2 enL_len (by omega) hy
                      have h3 := H13.out y (List.mem_of_getElem? hy)
                      have HS2 := hid (show enB a b c (xls.take (j + 1)) = (enB a b c (xls.take j) && decide (y.q ≤ hAt a b c y.i)) from by rw [List.take_add_one, hy]; exact enB_snoc)
                      obtain ⟨yi, yq⟩ := y
                      simp only at h3 HS2
                      have p0 : wr.cell? ⟨b2, off2 + j * 2, none⟩ = some (.int .i64 yi) := hcc2 0 _ rfl
                      have p1 : wr.cell? ⟨b2, off2 + j * 2 + 1, none⟩ = some (.int .i64 yq) := hcc2 1 _ rfl
                      have hwb : Below wr.heap.size wr (wr.alloc (.cells #[.int .i64 yi, .int .i64 yq] 33)) := (Below.refl _ _).alloc (Nat.le_refl _) _
                      have hEz := hE.next hwb
                      have hYB := Blk.new wr 33 #[.int .i64 yi, .int .i64 yq]
                      have r0 : (wr.alloc (.cells #[.int .i64 yi, .int .i64 yq] 33)).cell? ⟨wr.heap.size, 0, none⟩ = some (.int .i64 yi) := hYB.cell 0
                      have r1 : (wr.alloc (.cells #[.int .i64 yi, .int .i64 yq] 33)).cell? ⟨wr.heap.size, 1, none⟩ = some (.int .i64 yq) := hYB.cell 1
                      have z1 : (wr.alloc (.cells #[.int .i64 yi, .int .i64 yq] 33)).cell? ⟨H, 1, none⟩ = some (.int .i64 a) := hEz.hb.cell 1
                      have z2 : (wr.alloc (.cells #[.int .i64 yi, .int .i64 yq] 33)).cell? ⟨H, 2, none⟩ = some (.int .i64 b) := hEz.hb.cell 2
                      have z3 : (wr.alloc (.cells #[.int .i64 yi, .int .i64 yq] 33)).cell? ⟨H, 3, none⟩ = some (.int .i64 c) := hEz.hb.cell 3
                      have z4 := hEz.hb.lt
                      have HZ := hid hEz
                      subst hA2
                      clear hcc2 hy hox hE hbs2 hYB hwb hEz
                      rcases (show yi = 1 ∨ yi = 2 ∨ yi = 3 from by omega) with rfl | rfl | rfl
                      all_goals
                        simp only [hAt, if_true, if_false, Int.reduceEq] at HS2
                        generalize enB a b c (xls.take j) = en at HS2 ⊢
                        cases en
                        all_goals
                          go_wp2_with fail
                          go_quiet (fail)
                          go_wp2_with fail
                          go_roundw
                          case rel => exact ⟨j + 1, by omega, by go_num, by rw [HS2.out]; rfl, HZ.out.next (below_drewN (Below.refl _ _) nq)⟩
                          case measure => simp [nOf]; omega
                    · have hjj : j = xls.length := by omega
                      subst hjj
                      rw [List.take_length]
                      clear hj hjl
                      have hno : mget gs ((k : Int) + 1) = none := by
                        cases hm : mget gs ((k : Int) + 1) with
                        | none => rfl
                        | some d => have := hkeys.out _ d hm; omega
                      have herr := errF_ok (lv := lv) (gs := gs) HFIT.out (hE.hr.know H13.out) (by rw [hno]; rfl)
                      have hsh := hE.hr.short H13.out
                      have K := alloc_stepB hE.wk.book hE.wk.good hE.wk.low.2 (hE.hr.bd hE.wk.good) ((k : Int) + 1) xA xcap xls hox.rd hox.room hox.cap
                      have hkeys2 := hid (show ∀ o d, mget gs o = some d → o ≤ ((k + 1 : Nat) : Int) from fun o d h => by have := hkeys.out o d h; omega)
                      cases hen : enB a b c xls with
                      | false =>
                        have hz : allocZ lv gs ((k : Int) + 1) xls = 150 := by unfold allocZ; rw [if_pos herr, hsh, hen]; rfl
                        rw [hz] at K
                        replace K := hid K
                        have HE := hid hE
                        have HZ := hid hz
                        clear hno herr hsh hox hE hz hen
                        go_wp2_with fail
                        refine K.out.mono ?_
                        rintro e w5 ⟨lv', gs', rfl, hI, hGd, hRR, hln', hT⟩
                        obtain ⟨_, rfl, rfl⟩ : allocZ lv gs ((k : Int) + 1) xls ≠ 0 ∧ lv' = lv ∧ gs' = gs := by
                          rcases hRR with h | ⟨h, _⟩
                          · exact h
                          · rw [HZ.out] at h; cases h
                        have hE5 : Ew w n0 X BL BG H 3 lv' gs' a b c w5 := ⟨HE.out.wk.step hI hGd hT, HE.out.wk.blk hT HE.out.hb (by decide) (by decide), HE.out.hr, HE.out.lo⟩
                        clear K HE HZ hI hGd hRR hln' hT
                        go_wp2_with fail
                        go_loopw [144] (fun i wr => ∃ (j : Nat), j ≤ xls.length ∧ i = .int .i64 j ∧ Ew w n0 X BL BG H 3 lv' gs' a b c wr) (fun i _ => xls.length - nOf i)
                        case atStart => exact ⟨0, Nat.zero_le _, rfl, hE5⟩
                        case round =>
                          clear hE5
                          obtain ⟨j, hj, rfl, hE⟩ := hrel
                          have hox := HOX.out.next hE.wk.bel
                          by_cases hjl : j < xls.length
                          · obtain ⟨y, hy⟩ : ∃ y, xls[j]? = some y := ⟨xls[j], List.getElem?_eq_getElem hjl⟩
                            obtain ⟨b2, off2, hA2, hbs2, hcc2⟩ := hox.rd.at_ 2 enL_len (by omega) hy
                            have h3 := H13.out y (List.mem_of_getElem? hy)
                            have h4 := (HFIT.out.2 j y hy)
                            have HS2 := hid (fun id => (show qOf (xls.take (j + 1)) id = qOf (xls.take j) id + (if y.i = id then y.q else 0) from by rw [List.take_add_one, hy]; exact qOf_snoc _ _ _))
                            obtain ⟨yi, yq⟩ := y
                            simp only at h3 h4 HS2
                            have p0 : wr.cell? ⟨b2, off2 + j * 2, none⟩ = some (.int .i64 yi) := hcc2 0 _ rfl
                            have p1 : wr.cell? ⟨b2, off2 + j * 2 + 1, none⟩ = some (.int .i64 yq) := hcc2 1 _ rfl
                            have hwb : Below wr.heap.size wr (wr.alloc (.cells #[.int .i64 yi, .int .i64 yq] 33)) := (Below.refl _ _).alloc (Nat.le_refl _) _
                            have hEz := hE.next hwb
                            subst hA2
                            clear hcc2 hy hox hE hbs2 hwb HS2 h3 h4
                            go_wp2_with fail
                            go_roundw
                            case rel => exact ⟨j + 1, by omega, by go_num, hEz⟩
                            case measure => simp [nOf]; omega
                          · have hjj : j = xls.length := by omega
                            subst hjj
                            obtain ⟨lv9, gs9, a9, b9, c9, hln9, hk9, hE9⟩ : ∃ lv9 gs9 a9 b9 c9, (gs9 : List (Int × Gd)).length ≤ k + 1 ∧ Hid (∀ o d, mget gs9 o = some d → o ≤ ((k + 1 : Nat) : Int)) ∧ Ew w n0 X BL BG H 3 lv9 gs9 a9 b9 c9 wr := ⟨_, _, _, _, _, Nat.le_trans (Nat.le_refl _) (by omega), hkeys2, hE⟩
                            clear hE hkeys2 hox HOX HFIT H13 hj hjl hkeys hbd hl4 hlen hln
                            have K := hid (levels_any hE9.wk.book hE9.wk.good.few)
                            unfold LevPost at K
                            have HE9 := hid hE9
                            clear hE9
                            go_wp2_with fail
                            refine K.out.mono ?_
                            rintro e w7 ⟨A7, c7, ids, rfl, hpm, hrs, hO7, hb7⟩
                            obtain rfl := HE9.out.hr.ids hpm hrs
                            have hR7 := hid (own_rd hO7)
                            have hE := HE9.out.next hb7
                            clear K HE9 hpm hrs hO7 hb7
                            go_wp2_with fail
                            have HR7 := hid (And.intro hR7 hE)
                            clear hR7 hE
                            go_loopw [161] (fun i wr => ∃ (j : Int), (j = 0 ∨ j = 1 ∨ j = 2 ∨ j = 3) ∧ i = .int .i64 j ∧ Below w7.heap.size w7 wr) (fun i _ => 3 - nOf i)
                            case atStart => exact ⟨0, .inl rfl, rfl, Below.refl _ _⟩
                            case round =>
                              obtain ⟨j, hj, rfl, hbw⟩ := hrel
                              have hE := HR7.out.2.next hbw
                              rcases hj with rfl | rfl | rfl | rfl
                              · obtain ⟨b2, off2, hA2, _, hcc2⟩ := (HR7.out.1.out.below hbw).at_ (l := ([1, 2, 3] : List Int).map (lvAt lv9)) 6 enV6_len (by omega) (k := 0) (x := lvAt lv9 1) rfl
                                subst hA2
                                have hh : (lvAt lv9 1).h = a9 := by rw [hE.hr.lvAt (by omega) (by omega)]; simp [hAt]
                                generalize lvAt lv9 1 = y at hcc2 hh
                                obtain ⟨yg, yi, yr, yh, ya, ys, yt⟩ := y
                                simp only at hh
                                subst hh
                                have p0 := hcc2 0 _ rfl
                                have p1 := hcc2 1 _ rfl
                                have p2 := hcc2 2 _ rfl
                                have p3 := hcc2 3 _ rfl
                                have p4 := hcc2 4 _ rfl
                                have p5 := hcc2 5 _ rfl
                                simp only [Nat.zero_mul, Nat.add_zero] at p0 p1 p2 p3 p4 p5
                                have hwb : Below wr.heap.size wr (wr.alloc (.cells #[.int .i64 yi, .int .i64 yr, .int .i64 yh, .int .i64 ya, .int .i64 ys, .int .i64 yt] 38)) := (Below.refl _ _).alloc (Nat.le_refl _) _
                                have hYB := Blk.new wr 38 #[.int .i64 yi, .int .i64 yr, .int .i64 yh, .int .i64 ya, .int .i64 ys, .int .i64 yt]
                                have r2 : (wr.alloc (.cells #[.int .i64 yi, .int .i64 yr, .int .i64 yh, .int .i64 ya, .int .i64 ys, .int .i64 yt] 38)).cell? ⟨wr.heap.size, 2, none⟩ = some (.int .i64 yh) := hYB.cell 2
                                have z1 : (wr.alloc (.cells #[.int .i64 yi, .int .i64 yr, .int .i64 yh, .int .i64 ya, .int .i64 ys, .int .i64 yt] 38)).cell? ⟨H, 1, none⟩ = some (.int .i64 yh) := (hE.next hwb).hb.cell 1
                                have z4 := (hE.next hwb).hb.lt
                                have t1 : (yh != yh) = false := by simp
                                have hbz := bthen hbw hwb
                                clear hcc2 hwb hYB hE hbw
                                go_wp2_with fail
                                go_quiet (fail)
                                go_wp2_with fail
                                go_roundw
                                case rel => exact ⟨1, by omega, rfl, below_drewN hbz nq⟩
                                case measure => simp [nOf]
                              · obtain ⟨b2, off2, hA2, _, hcc2⟩ := (HR7.out.1.out.below hbw).at_ (l := ([1, 2, 3] : List Int).map (lvAt lv9)) 6 enV6_len (by omega) (k := 1) (x := lvAt lv9 2) rfl
                                subst hA2
                                have hh : (lvAt lv9 2).h = b9 := by rw [hE.hr.lvAt (by omega) (by omega)]; simp [hAt]
                                generalize lvAt lv9 2 = y at hcc2 hh
                                obtain ⟨yg, yi, yr, yh, ya, ys, yt⟩ := y
                                simp only at hh
                                subst hh
                                have p0 := hcc2 0 _ rfl
                                have p1 := hcc2 1 _ rfl
                                have p2 := hcc2 2 _ rfl
                                have p3 := hcc2 3 _ rfl
                                have p4 := hcc2 4 _ rfl
                                have p5 := hcc2 5 _ rfl
                                simp only [Nat.one_mul, Nat.add_zero, Nat.add_assoc, Nat.reduceAdd] at p0 p1 p2 p3 p4 p5
                                have hwb : Below wr.heap.size wr (wr.alloc (.cells #[.int .i64 yi, .int .i64 yr, .int .i64 yh, .int .i64 ya, .int .i64 ys, .int .i64 yt] 38)) := (Below.refl _ _).alloc (Nat.le_refl _) _
                                have hYB := Blk.new wr 38 #[.int .i64 yi, .int .i64 yr, .int .i64 yh, .int .i64 ya, .int .i64 ys, .int .i64 yt]
                                have r2 : (wr.alloc (.cells #[.int .i64 yi, .int .i64 yr, .int .i64 yh, .int .i64 ya, .int .i64 ys, .int .i64 yt] 38)).cell? ⟨wr.heap.size, 2, none⟩ = some (.int .i64 yh) := hYB.cell 2
                                have z1 : (wr.alloc (.cells #[.int .i64 yi, .int .i64 yr, .int .i64 yh, .int .i64 ya, .int .i64 ys, .int .i64 yt] 38)).cell? ⟨H, 2, none⟩ = some (.int .i64 yh) := (hE.next hwb).hb.cell 2
                                have z4 := (hE.next hwb).hb.lt
                                have t1 : (yh != yh) = false := by simp
                                have hbz := bthen hbw hwb
                                clear hcc2 hwb hYB hE hbw
                                go_wp2_with fail
                                go_quiet (fail)
                                go_wp2_with fail
                                go_roundw
                                case rel => exact ⟨2, by omega, rfl, below_drewN hbz nq⟩
                                case measure => simp [nOf]
                              · obtain ⟨b2, off2, hA2, _, hcc2⟩ := (HR7.out.1.out.below hbw).at_ (l := ([1, 2, 3] : List Int).map (lvAt lv9)) 6 enV6_len (by omega) (k := 2) (x := lvAt lv9 3) rfl
                                subst hA2
                                have hh : (lvAt lv9 3).h = c9 := by rw [hE.hr.lvAt (by omega) (by omega)]; simp [hAt]
                                generalize lvAt lv9 3 = y at hcc2 hh
                                obtain ⟨yg, yi, yr, yh, ya, ys, yt⟩ := y
                                simp only at hh
                                subst hh
                                have p0 := hcc2 0 _ rfl
                                have p1 := hcc2 1 _ rfl
                                have p2 := hcc2 2 _ rfl
                                have p3 := hcc2 3 _ rfl
                                have p4 := hcc2 4 _ rfl
                                have p5 := hcc2 5 _ rfl
                                simp only [Nat.add_zero, Nat.reduceMul, Nat.add_assoc, Nat.reduceAdd] at p0 p1 p2 p3 p4 p5
                                have hwb : Below wr.heap.size wr (wr.alloc (.cells #[.int .i64 yi, .int .i64 yr, .int .i64 yh, .int .i64 ya, .int .i64 ys, .int .i64 yt] 38)) := (Below.refl _ _).alloc (Nat.le_refl _) _
                                have hYB := Blk.new wr 38 #[.int .i64 yi, .int .i64 yr, .int .i64 yh, .int .i64 ya, .int .i64 ys, .int .i64 yt]
                                have r2 : (wr.alloc (.cells #[.int .i64 yi, .int .i64 yr, .int .i64 yh, .int .i64 ya, .int .i64 ys, .int .i64 yt] 38)).cell? ⟨wr.heap.size, 2, none⟩ = some (.int .i64 yh) := hYB.cell 2
                                have z1 : (wr.alloc (.cells #[.int .i64 yi, .int .i64 yr, .int .i64 yh, .int .i64 ya, .int .i64 ys, .int .i64 yt] 38)).cell? ⟨H, 3, none⟩ = some (.int .i64 yh) := (hE.next hwb).hb.cell 3
                                have z4 := (hE.next hwb).hb.lt
                                have t1 : (yh != yh) = false := by simp
                                have hbz := bthen hbw hwb
                                clear hcc2 hwb hYB hE hbw
                                go_wp2_with fail
                                go_quiet (fail)
                                go_wp2_with fail
                                go_roundw
                                case rel => exact ⟨3, by omega, rfl, below_drewN hbz nq⟩
                                case measure => simp [nOf]
                              · have HE := hid hE
                                clear hE HR7 hbw
                                go_wp2_with fail
                                go_roundw
                                case rel => exact ⟨k + 1, lv9, gs9, a9, b9, c9, by omega, by go_num, hln9, hk9, HE.out⟩
                                case measure => simp [nOf]; omega
                      | true =>
                        have hz : allocZ lv gs ((k : Int) + 1) xls = 0 := by unfold allocZ; rw [if_pos herr, hsh, hen]; rfl
                        rw [hz] at K
                        replace K := hid K
                        have HE := hid hE
                        have HZ := hid hz
                        clear hno herr hsh hox hE hz hen
                        go_wp2_with fail
                        refine K.out.mono ?_
                        rintro e w5 ⟨lv', gs', rfl, hI, hGd, hRR, hln', hT⟩
                        obtain ⟨rfl, d, hd, rfl⟩ : lv' = mvL allocL lv xls ∧ ∃ d : Gd, (d.o = (k : Int) + 1 ∧ d.st = 1 ∧ d.ls = xls) ∧ gs' = mset gs ((k : Int) + 1) d := by
                          rcases hRR with ⟨h, _⟩ | ⟨_, _, _, h1, d, h2, h3⟩
                          · exact absurd HZ.out h
                          · exact ⟨h1, d, h2, h3⟩
                        have hW5 := HE.out.wk.step hI hGd hT
                        have hB5 := HE.out.wk.blk hT HE.out.hb (by decide) (by decide)
                        have HHR := hid (And.intro (HE.out.hr.alloc (by omega) xls) HE.out.lo)
                        have hkeys3 := hid (show ∀ o d', mget (mset gs ((k : Int) + 1) d) o = some d' → o ≤ ((k + 1 : Nat) : Int) from fun o d' h => by
                          rw [mget_mset] at h
                          split at h
                          · omega
                          · have := hkeys.out o d' h; omega)
                        have hln3 : (mset gs ((k : Int) + 1) d).length ≤ k + 1 := by omega
                        generalize mset gs ((k : Int) + 1) d = gs' at hW5 hkeys3 hln3
                        generalize mvL allocL lv xls = lv' at hW5 HHR
                        have HPW := hid (lines_pw HFIT.out.2)
                        clear K HE HZ hI hGd hRR hln' hT hd hkeys2 hln
                        go_wp2_with fail
                        go_loopw [144] (fun i wr => ∃ (j : Nat), j ≤ xls.length ∧ i = .int .i64 j ∧ Wk w n0 X BL BG lv' gs' wr ∧ Blk wr H 27 #[.int .i64 0, .int .i64 (a - qOf (xls.take j) 1), .int .i64 (b - qOf (xls.take j) 2), .int .i64 (c - qOf (xls.take j) 3)]) (fun i _ => xls.length - nOf i)
                        case atStart => exact ⟨0, Nat.zero_le _, rfl, hW5, by simpa [qOf] using hB5⟩
                        case round =>
                          clear hW5 hB5
                          obtain ⟨j, hj, rfl, hW, hB⟩ := hrel
                          have hox := HOX.out.next hW.bel
                          have hqb := fun id => qOf_bd (ls := xls.take j) (fun x hx => HPW.out.1 x (List.mem_of_mem_take hx)) (HPW.out.2.sublist (List.take_sublist _ _)) id
                          by_cases hjl : j < xls.length
                          · obtain ⟨y, hy⟩ : ∃ y, xls[j]? = some y := ⟨xls[j], List.getElem?_eq_getElem hjl⟩
                            obtain ⟨b2, off2, hA2, hbs2, hcc2⟩ := hox.rd.at_ 2 enL_len (by omega) hy
                            have h3 := H13.out y (List.mem_of_getElem? hy)
                            have h4 := (HFIT.out.2 j y hy)
                            have HS2 := hid (fun id => (show qOf (xls.take (j + 1)) id = qOf (xls.take j) id + (if y.i = id then y.q else 0) from by rw [List.take_add_one, hy]; exact qOf_snoc _ _ _))
                            obtain ⟨yi, yq⟩ := y
                            simp only at h3 h4 HS2
                            have p0 : wr.cell? ⟨b2, off2 + j * 2, none⟩ = some (.int .i64 yi) := hcc2 0 _ rfl
                            have p1 : wr.cell? ⟨b2, off2 + j * 2 + 1, none⟩ = some (.int .i64 yq) := hcc2 1 _ rfl
                            have hwb : Below wr.heap.size wr (wr.alloc (.cells #[.int .i64 yi, .int .i64 yq] 33)) := (Below.refl _ _).alloc (Nat.le_refl _) _
                            have hWz := hW.next hwb
                            have hBz := hB.next hwb
                            have hYB := Blk.new wr 33 #[.int .i64 yi, .int .i64 yq]
                            have hYH : H ≠ wr.heap.size := fun e => by have := hB.lt; omega
                            obtain ⟨wz, hwz⟩ : ∃ wz, wz = wr.alloc (.cells #[.int .i64 yi, .int .i64 yq] 33) := ⟨_, rfl⟩
                            obtain ⟨Y, hY⟩ : ∃ Y, Y = wr.heap.size := ⟨_, rfl⟩
                            have HWZ := hid hwz
                            have HY := hid hY
                            rw [← hwz] at hWz hBz hYB
                            rw [← hY] at hYB hYH
                            have hq1 := hqb 1
                            have hq2 := hqb 2
                            have hq3 := hqb 3
                            subst hA2
                            clear hcc2 hy hox hW hB hbs2 hwb hwz hY hqb
                            obtain ⟨h41, h42, _⟩ := h4
                            obtain ⟨hda, hdb, hdc⟩ := hbd
                            have HLO := hid HHR.out.2
                            rcases (show yi = 1 ∨ yi = 2 ∨ yi = 3 from by omega) with rfl | rfl | rfl
                            · have g1 := HS2.out 1
                              have g2 := HS2.out 2
                              have g3 := HS2.out 3
                              simp only [Int.reduceEq, if_true, if_false, Int.add_zero] at g1 g2 g3
                              generalize hv1 : a - qOf (xls.take j) 1 = v1 at hBz
                              have w1 : IntKind.i64.wrap (v1 - yq) = v1 - yq := IntWalk.i64_in _ ⟨by omega, by omega⟩
                              have hT := (Touch.setCell wz H 1 (.int .i64 (v1 - yq)))
                              have hB9 := hBz.set_ 1 (.int .i64 (v1 - yq))
                              have hW9 := hWz.apart hT hBz (by decide) (by decide) (by decide) (by decide) HLO.out
                              have hB8 : Blk (wz.setCell ⟨H, 1, none⟩ (.int .i64 (v1 - yq))) H 27 #[.int .i64 0, .int .i64 (a - qOf (xls.take (j + 1)) 1), .int .i64 (b - qOf (xls.take (j + 1)) 2), .int .i64 (c - qOf (xls.take (j + 1)) 3)] := by
                                rw [g1, g2, g3, show a - (qOf (xls.take j) 1 + yq) = v1 - yq from by omega]
                                exact hB9
                              have r0 : wz.cell? ⟨Y, 0, none⟩ = some (.int .i64 1) := hYB.cell 0
                              have r1 : wz.cell? ⟨Y, 1, none⟩ = some (.int .i64 yq) := hYB.cell 1
                              have r2 : wz.cell? ⟨H, 1, none⟩ = some (.int .i64 v1) := hBz.cell 1
                              have r3 := hBz.free 1
                              have r4 := hBz.lt
                              have r5 := hYB.lt
                              have H9 := hid (And.intro hW9 hB8)
                              clear hT hB9 hW9 hB8 hBz hWz hYB g1 g2 g3 hv1 HS2 hq1 hq2 hq3 hda hdb hdc h41 h42 h3
                              go_wp2_with fail
                              rw [← HWZ.out, ← HY.out]
                              refine wp_tail 8 (by kernel_rfl) (by kernel_rfl) ?_
                              simp only [List.take_succ_cons, List.take_zero, List.drop_succ_cons, List.drop_zero]
                              repeat still_step
                              refine wpStill_nil ?_
                              go_wp2_with fail
                              go_roundw
                              case rel => exact ⟨j + 1, by omega, by go_num, H9.out.1.next (below_drewN (Below.refl _ _) 1), H9.out.2.next (below_drewN (Below.refl _ _) 1)⟩
                              case measure => simp [nOf]; omega
                            · have g1 := HS2.out 1
                              have g2 := HS2.out 2
                              have g3 := HS2.out 3
                              simp only [Int.reduceEq, if_true, if_false, Int.add_zero] at g1 g2 g3
                              generalize hv1 : b - qOf (xls.take j) 2 = v1 at hBz
                              have w1 : IntKind.i64.wrap (v1 - yq) = v1 - yq := IntWalk.i64_in _ ⟨by omega, by omega⟩
                              have hT := (Touch.setCell wz H 2 (.int .i64 (v1 - yq)))
                              have hB9 := hBz.set_ 2 (.int .i64 (v1 - yq))
                              have hW9 := hWz.apart hT hBz (by decide) (by decide) (by decide) (by decide) HLO.out
                              have hB8 : Blk (wz.setCell ⟨H, 2, none⟩ (.int .i64 (v1 - yq))) H 27 #[.int .i64 0, .int .i64 (a - qOf (xls.take (j + 1)) 1), .int .i64 (b - qOf (xls.take (j + 1)) 2), .int .i64 (c - qOf (xls.take (j + 1)) 3)] := by
                                rw [g1, g2, g3, show b - (qOf (xls.take j) 2 + yq) = v1 - yq from by omega]
                                exact hB9
                              have r0 : wz.cell? ⟨Y, 0, none⟩ = some (.int .i64 2) := hYB.cell 0
                              have r1 : wz.cell? ⟨Y, 1, none⟩ = some (.int .i64 yq) := hYB.cell 1
                              have r2 : wz.cell? ⟨H, 2, none⟩ = some (.int .i64 v1) := hBz.cell 2
                              have r3 := hBz.free 2
                              have r4 := hBz.lt
                              have r5 := hYB.lt
                              have H9 := hid (And.intro hW9 hB8)
                              clear hT hB9 hW9 hB8 hBz hWz hYB g1 g2 g3 hv1 HS2 hq1 hq2 hq3 hda hdb hdc h41 h42 h3
                              go_wp2_with fail
                              rw [← HWZ.out, ← HY.out]
                              refine wp_tail 8 (by kernel_rfl) (by kernel_rfl) ?_
                              simp only [List.take_succ_cons, List.take_zero, List.drop_succ_cons, List.drop_zero]
                              repeat still_step
                              refine wpStill_nil ?_
                              go_wp2_with fail
                              go_roundw
                              case rel => exact ⟨j + 1, by omega, by go_num, H9.out.1.next (below_drewN (Below.refl _ _) 1), H9.out.2.next (below_drewN (Below.refl _ _) 1)⟩
                              case measure => simp [nOf]; omega
                            · have g1 := HS2.out 1
                              have g2 := HS2.out 2
                              have g3 := HS2.out 3
                              simp only [Int.reduceEq, if_true, if_false, Int.add_zero] at g1 g2 g3
                              generalize hv1 : c - qOf (xls.take j) 3 = v1 at hBz
                              have w1 : IntKind.i64.wrap (v1 - yq) = v1 - yq := IntWalk.i64_in _ ⟨by omega, by omega⟩
                              have hT := (Touch.setCell wz H 3 (.int .i64 (v1 - yq)))
                              have hB9 := hBz.set_ 3 (.int .i64 (v1 - yq))
                              have hW9 := hWz.apart hT hBz (by decide) (by decide) (by decide) (by decide) HLO.out
                              have hB8 : Blk (wz.setCell ⟨H, 3, none⟩ (.int .i64 (v1 - yq))) H 27 #[.int .i64 0, .int .i64 (a - qOf (xls.take (j + 1)) 1), .int .i64 (b - qOf (xls.take (j + 1)) 2), .int .i64 (c - qOf (xls.take (j + 1)) 3)] := by
                                rw [g1, g2, g3, show c - (qOf (xls.take j) 3 + yq) = v1 - yq from by omega]
                                exact hB9
                              have r0 : wz.cell? ⟨Y, 0, none⟩ = some (.int .i64 3) := hYB.cell 0
                              have r1 : wz.cell? ⟨Y, 1, none⟩ = some (.int .i64 yq) := hYB.cell 1
                              have r2 : wz.cell? ⟨H, 3, none⟩ = some (.int .i64 v1) := hBz.cell 3
                              have r3 := hBz.free 3
                              have r4 := hBz.lt
                              have r5 := hYB.lt
                              have H9 := hid (And.intro hW9 hB8)
                              clear hT hB9 hW9 hB8 hBz hWz hYB g1 g2 g3 hv1 HS2 hq1 hq2 hq3 hda hdb hdc h41 h42 h3
                              go_wp2_with fail
                              rw [← HWZ.out, ← HY.out]
                              refine wp_tail 8 (by kernel_rfl) (by kernel_rfl) ?_
                              simp only [List.take_succ_cons, List.take_zero, List.drop_succ_cons, List.drop_zero]
                              repeat still_step
                              refine wpStill_nil ?_
                              go_wp2_with fail
                              go_roundw
                              case rel => exact ⟨j + 1, by omega, by go_num, H9.out.1.next (below_drewN (Below.refl _ _) 1), H9.out.2.next (below_drewN (Below.refl _ _) 1)⟩
                              case measure => simp [nOf]; omega
                          · have hjj : j = xls.length := by omega
                            subst hjj
                            rw [List.take_length] at hB
                            obtain ⟨lv9, gs9, a9, b9, c9, hln9, hk9, hE9⟩ : ∃ lv9 gs9 a9 b9 c9, (gs9 : List (Int × Gd)).length ≤ k + 1 ∧ Hid (∀ o d, mget gs9 o = some d → o ≤ ((k + 1 : Nat) : Int)) ∧ Ew w n0 X BL BG H 3 lv9 gs9 a9 b9 c9 wr := ⟨_, _, _, _, _, hln3, hkeys3, ⟨hW, hB, HHR.out.1, HHR.out.2⟩⟩
                            clear hW hB hkeys3 hox HOX HFIT H13 hj hjl hkeys hbd hl4 hlen hln3 HHR HPW hqb
                            have K := hid (levels_any hE9.wk.book hE9.wk.good.few)
                            unfold LevPost at K
                            have HE9 := hid hE9
                            clear hE9
                            go_wp2_with fail
                            refine K.out.mono ?_
                            rintro e w7 ⟨A7, c7, ids, rfl, hpm, hrs, hO7, hb7⟩
                            obtain rfl := HE9.out.hr.ids hpm hrs
                            have hR7 := hid (own_rd hO7)
                            have hE := HE9.out.next hb7
                            clear K HE9 hpm hrs hO7 hb7
                            go_wp2_with fail
                            have HR7 := hid (And.intro hR7 hE)
                            clear hR7 hE
                            go_loopw [161] (fun i wr => ∃ (j : Int), (j = 0 ∨ j = 1 ∨ j = 2 ∨ j = 3) ∧ i = .int .i64 j ∧ Below w7.heap.size w7 wr) (fun i _ => 3 - nOf i)
                            case atStart => exact ⟨0, .inl rfl, rfl, Below.refl _ _⟩
                            case round =>
                              obtain ⟨j, hj, rfl, hbw⟩ := hrel
                              have hE := HR7.out.2.next hbw
                              rcases hj with rfl | rfl | rfl | rfl
                              · obtain ⟨b2, off2, hA2, _, hcc2⟩ := (HR7.out.1.out.below hbw).at_ (l := ([1, 2, 3] : List Int).map (lvAt lv9)) 6 enV6_len (by omega) (k := 0) (x := lvAt lv9 1) rfl
                                subst hA2
                                have hh : (lvAt lv9 1).h = a9 := by rw [hE.hr.lvAt (by omega) (by omega)]; simp [hAt]
                                generalize lvAt lv9 1 = y at hcc2 hh
                                obtain ⟨yg, yi, yr, yh, ya, ys, yt⟩ := y
                                simp only at hh
                                subst hh
                                have p0 := hcc2 0 _ rfl
                                have p1 := hcc2 1 _ rfl
                                have p2 := hcc2 2 _ rfl
                                have p3 := hcc2 3 _ rfl
                                have p4 := hcc2 4 _ rfl
                                have p5 := hcc2 5 _ rfl
                                simp only [Nat.zero_mul, Nat.add_zero] at p0 p1 p2 p3 p4 p5
                                have hwb : Below wr.heap.size wr (wr.alloc (.cells #[.int .i64 yi, .int .i64 yr, .int .i64 yh, .int .i64 ya, .int .i64 ys, .int .i64 yt] 38)) := (Below.refl _ _).alloc (Nat.le_refl _) _
                                have hYB := Blk.new wr 38 #[.int .i64 yi, .int .i64 yr, .int .i64 yh, .int .i64 ya, .int .i64 ys, .int .i64 yt]
                                have r2 : (wr.alloc (.cells #[.int .i64 yi, .int .i64 yr, .int .i64 yh, .int .i64 ya, .int .i64 ys, .int .i64 yt] 38)).cell? ⟨wr.heap.size, 2, none⟩ = some (.int .i64 yh) := hYB.cell 2
                                have z1 : (wr.alloc (.cells #[.int .i64 yi, .int .i64 yr, .int .i64 yh, .int .i64 ya, .int .i64 ys, .int .i64 yt] 38)).cell? ⟨H, 1, none⟩ = some (.int .i64 yh) := (hE.next hwb).hb.cell 1
                                have z4 := (hE.next hwb).hb.lt
                                have t1 : (yh != yh) = false := by simp
                                have hbz := bthen hbw hwb
                                clear hcc2 hwb hYB hE hbw
                                go_wp2_with fail
                                go_quiet (fail)
                                go_wp2_with fail
                                go_roundw
                                case rel => exact ⟨1, by omega, rfl, below_drewN hbz nq⟩
                                case measure => simp [nOf]
                              · obtain ⟨b2, off2, hA2, _, hcc2⟩ := (HR7.out.1.out.below hbw).at_ (l := ([1, 2, 3] : List Int).map (lvAt lv9)) 6 enV6_len (by omega) (k := 1) (x := lvAt lv9 2) rfl
                                subst hA2
                                have hh : (lvAt lv9 2).h = b9 := by rw [hE.hr.lvAt (by omega) (by omega)]; simp [hAt]
                                generalize lvAt lv9 2 = y at hcc2 hh
                                obtain ⟨yg, yi, yr, yh, ya, ys, yt⟩ := y
                                simp only at hh
                                subst hh
                                have p0 := hcc2 0 _ rfl
                                have p1 := hcc2 1 _ rfl
                                have p2 := hcc2 2 _ rfl
                                have p3 := hcc2 3 _ rfl
                                have p4 := hcc2 4 _ rfl
                                have p5 := hcc2 5 _ rfl
                                simp only [Nat.one_mul, Nat.add_zero, Nat.add_assoc, Nat.reduceAdd] at p0 p1 p2 p3 p4 p5
                                have hwb : Below wr.heap.size wr (wr.alloc (.cells #[.int .i64 yi, .int .i64 yr, .int .i64 yh, .int .i64 ya, .int .i64 ys, .int .i64 yt] 38)) := (Below.refl _ _).alloc (Nat.le_refl _) _
                                have hYB := Blk.new wr 38 #[.int .i64 yi, .int .i64 yr, .int .i64 yh, .int .i64 ya, .int .i64 ys, .int .i64 yt]
                                have r2 : (wr.alloc (.cells #[.int .i64 yi, .int .i64 yr, .int .i64 yh, .int .i64 ya, .int .i64 ys, .int .i64 yt] 38)).cell? ⟨wr.heap.size, 2, none⟩ = some (.int .i64 yh) := hYB.cell 2
                                have z1 : (wr.alloc (.cells #[.int .i64 yi, .int .i64 yr, .int .i64 yh, .int .i64 ya, .int .i64 ys, .int .i64 yt] 38)).cell? ⟨H, 2, none⟩ = some (.int .i64 yh) := (hE.next hwb).hb.cell 2
                                have z4 := (hE.next hwb).hb.lt
                                have t1 : (yh != yh) = false := by simp
                                have hbz := bthen hbw hwb
                                clear hcc2 hwb hYB hE hbw
                                go_wp2_with fail
                                go_quiet (fail)
                                go_wp2_with fail
                                go_roundw
                                case rel => exact ⟨2, by omega, rfl, below_drewN hbz nq⟩
                                case measure => simp [nOf]
                              · obtain ⟨b2, off2, hA2, _, hcc2⟩ := (HR7.out.1.out.below hbw).at_ (l := ([1, 2, 3] : List Int).map (lvAt lv9)) 6 enV6_len (by omega) (k := 2) (x := lvAt lv9 3) rfl
                                subst hA2
                                have hh : (lvAt lv9 3).h = c9 := by rw [hE.hr.lvAt (by omega) (by omega)]; simp [hAt]
                                generalize lvAt lv9 3 = y at hcc2 hh
                                obtain ⟨yg, yi, yr, yh, ya, ys, yt⟩ := y
                                simp only at hh
                                subst hh
                                have p0 := hcc2 0 _ rfl
                                have p1 := hcc2 1 _ rfl
                                have p2 := hcc2 2 _ rfl
                                have p3 := hcc2 3 _ rfl
                                have p4 := hcc2 4 _ rfl
                                have p5 := hcc2 5 _ rfl
                                simp only [Nat.add_zero, Nat.reduceMul, Nat.add_assoc, Nat.reduceAdd] at p0 p1 p2 p3 p4 p5
                                have hwb : Below wr.heap.size wr (wr.alloc (.cells #[.int .i64 yi, .int .i64 yr, .int .i64 yh, .int .i64 ya, .int .i64 ys, .int .i64 yt] 38)) := (Below.refl _ _).alloc (Nat.le_refl _) _
                                have hYB := Blk.new wr 38 #[.int .i64 yi, .int .i64 yr, .int .i64 yh, .int .i64 ya, .int .i64 ys, .int .i64 yt]
                                have r2 : (wr.alloc (.cells #[.int .i64 yi, .int .i64 yr, .int .i64 yh, .int .i64 ya, .int .i64 ys, .int .i64 yt] 38)).cell? ⟨wr.heap.size, 2, none⟩ = some (.int .i64 yh) := hYB.cell 2
                                have z1 : (wr.alloc (.cells #[.int .i64 yi, .int .i64 yr, .int .i64 yh, .int .i64 ya, .int .i64 ys, .int .i64 yt] 38)).cell? ⟨H, 3, none⟩ = some (.int .i64 yh) := (hE.next hwb).hb.cell 3
                                have z4 := (hE.next hwb).hb.lt
                                have t1 : (yh != yh) = false := by simp
                                have hbz := bthen hbw hwb
                                clear hcc2 hwb hYB hE hbw
                                go_wp2_with fail
                                go_quiet (fail)
                                go_wp2_with fail
                                go_roundw
                                case rel => exact ⟨3, by omega, rfl, below_drewN hbz nq⟩
                                case measure => simp [nOf]
                              · have HE := hid hE
                                clear hE HR7 hbw
                                go_wp2_with fail
                                go_roundw
                                case rel => exact ⟨k + 1, lv9, gs9, a9, b9, c9, by omega, by go_num, hln9, hk9, HE.out⟩
                                case measure => simp [nOf]; omega
        · clear hk
          go_wp2_with fail
          go_ret
          exact ⟨rfl, hE.wk.bel⟩

end Go.Proofs.Ythfaaimmfdidnaa
