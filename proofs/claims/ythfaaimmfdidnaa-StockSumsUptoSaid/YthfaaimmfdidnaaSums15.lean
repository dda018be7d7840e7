/-
  The walk of StockSums.
-/
import Derived.Test.YthfaaimmfdidnaaSuP15
import Derived.Test.YthfaaimmfdidnaaRst15
import Derived.Test.YthfaaimmfdidnaaMin
namespace Go.Proofs.Ythfaaimmfdidnaa
open Go.RowKit Go.WideShapes Go.ChangeShapes Go.ChangeAt Go.Deep
set_option linter.unusedVariables false

theorem zeroI (w : World) : (zeroValue 3).run Try.prog w = .ok (.int .i64 0) w := by kernel_rfl
theorem looked_kI (m : List (Int × Int)) (p : Int) : looked (kI 0) kI m p = .int .i64 ((mget m p).getD 0) := by
  unfold looked kI
  cases mget m p <;> rfl
/-- The law's book and its count, at work. -/
structure Su (w0 : World) (n0 X BL BG M : Nat) (lv : List (Int × Lv)) (gs : List (Int × Gd)) (m : List (Int × Int)) (w : World) : Prop where
  wk : Wk w0 n0 X BL BG lv gs w
  mp : IsMap w M kI kI m
  got : GotI lv m
  lo : BL < M ∧ BG < M ∧ w0.heap.size ≤ M
section
variable {w0 w w' : World} {n0 X BL BG M : Nat} {lv lv' : List (Int × Lv)} {gs gs' : List (Int × Gd)} {m m' : List (Int × Int)}
theorem Su.next (h : Su w0 n0 X BL BG M lv gs m w) (hb : Below w.heap.size w w') : Su w0 n0 X BL BG M lv gs m w' := ⟨h.wk.next hb, h.mp.next hb, h.got, h.lo⟩
theorem not_own {w : World} (h : Wk w0 n0 X BL BG lv gs w) (hM : IsMap w M kI kI m) (lo : BL < M ∧ BG < M ∧ w0.heap.size ≤ M) : ¬ Own BL BG lv gs M := by
  rintro (e | e | ⟨p, hp, e⟩ | ⟨p, hp, e⟩)
  · have := lo.1; omega
  · have := lo.2.1; omega
  · exact hM.notBlk (h.book.lc p hp) e.symm
  · exact hM.notBlk (h.book.gc p hp) e.symm
theorem Su.notOwn (h : Su w0 n0 X BL BG M lv gs m w) : ¬ Own BL BG lv gs M := not_own h.wk h.mp h.lo
theorem Su.step (h : Su w0 n0 X BL BG M lv gs m w) (hI : IsBook n0 w' X BL BG lv' gs') (hG : GoodB lv' gs') (hT : Touch (Own BL BG lv gs) w w') (hg : GotI lv' m) : Su w0 n0 X BL BG M lv' gs' m w' :=
  ⟨h.wk.step hI hG hT, hT.isMap h.mp h.notOwn, hg, h.lo⟩
theorem Su.put (h : Wk w0 n0 X BL BG lv gs w) (hM0 : IsMap w M kI kI m) (lo : BL < M ∧ BG < M ∧ w0.heap.size ≤ M) (hM : IsMap w' M kI kI m') (hT : Touch (· = M) w w') (hg : GotI lv m') : Su w0 n0 X BL BG M lv gs m' w' := by
  refine ⟨⟨h.book.touch hT (fun e => hM0.notBlk h.book.blk e.symm) (fun k hk e => not_own h hM0 lo (e ▸ hk)) (fun p hp e => ?_), h.good, h.bel.trans (hT.below h.bel.size (fun k hk => by have := lo.2.2; omega)), h.low.1, Nat.le_trans h.low.2 hT.size⟩, hM, hg, lo⟩
  obtain ⟨_, _, cs, hb⟩ := h.book.lns p hp
  exact hM0.notBlk hb e.symm
theorem Su.blk (h : Su w0 n0 X BL BG M lv gs m w) (hT : Touch (Own BL BG lv gs) w w') {G : Nat} {t : TypeId} {cs : Array Value} (hB : Blk w G t cs) (h1 : t ≠ 38) (h2 : t ≠ 45) : Blk w' G t cs := h.wk.blk hT hB h1 h2
end
theorem own_capS {w : World} {base : Nat} {e : TypeId} {size n cap m : Nat} {A : Option Addr} {xs : List Value} (h : w.ownsRow base e size (.slice A n cap) m xs) : m ≤ cap ∧ cap ≤ maxLen := by
  rcases h.2 with ⟨h1, h2⟩ | ⟨g, cap', cur, h1, _, _, h3, h4, _⟩
  · injection h1 with _ _ h3
    exact ⟨by omega, by rw [h3]; unfold maxLen; omega⟩
  · injection h1 with _ _ h5
    exact ⟨by omega, by omega⟩
/-- What the switch leaves. -/
def PSu (w0 : World) (n0 X BL BG M N : Nat) (wx : World) : Prop :=
  ∃ (lv : List (Int × Lv)) (gs : List (Int × Gd)) (m : List (Int × Int)), Su w0 n0 X BL BG M lv gs m wx ∧ gs.length ≤ N

set_option maxRecDepth 100000 in
set_option maxHeartbeats 16000000 in
theorem stockSums_walk (l : List Opn) (A : Option Addr) (cp : Nat) (w : World) (hR : Rd w A (l.flatMap enOp)) (hok : ∀ x ∈ l, OkOp w x) (hl : l.length ≤ 1048576) :
    Calls Try.prog 7 #[.slice A l.length cp] w (Law w) := by
  have HOK := hid hok
  clear hok
  go_enter Try.func7, Try.ntmps7
  go_wp2_with fail
  refine (wakes_any _).mono ?_
  rintro e w1 ⟨rfl, hb⟩
  go_wp2_with fail
  refine (new_any _).mono ?_
  rintro e w2 ⟨X, BL, BG, rfl, h, hb1⟩
  have hS : Wk w w1.heap.size X BL BG [] [] w2 := ⟨h, GoodB.nil, bthen hb hb1, hb.size, hb1.size⟩
  clear h hb hb1
  obtain ⟨n0, hn0⟩ : ∃ n0, n0 = w1.heap.size := ⟨_, rfl⟩
  rw [← hn0] at hS
  clear hn0
  have hwb : Below w2.heap.size w2 (w2.alloc (.map #[] 0)) := (Below.refl _ _).alloc (Nat.le_refl _) _
  have hSU : Su w n0 X BL BG w2.heap.size [] [] [] (w2.alloc (.map #[] 0)) := ⟨hS.next hwb, IsMap.made w2 kI kI, GotI.nil, hS.book.lvs.lt, hS.book.gds.lt, hS.bel.size⟩
  obtain ⟨M, hM⟩ : ∃ M, M = w2.heap.size := ⟨_, rfl⟩
  obtain ⟨w3, hw3⟩ : ∃ w3, w3 = w2.alloc (.map #[] 0) := ⟨_, rfl⟩
  rw [← hM, ← hw3] at hSU
  have HM := hid hM
  have HW3 := hid hw3
  have hmm := @run_makeMap Try.prog
  clear hS hwb hM hw3
  go_wp2_with fail
  clear hmm
  rw [← HM.out, ← HW3.out]
  clear HM HW3
  go_loopw [17] (fun i wr => ∃ (k : Nat) (lv : List (Int × Lv)) (gs : List (Int × Gd)) (m : List (Int × Int)), k ≤ l.length ∧ i = .int .i64 k ∧ gs.length ≤ k ∧ Su w n0 X BL BG M lv gs m wr) (fun i _ => l.length - nOf i)
  case atStart => exact ⟨0, [], [], [], Nat.zero_le _, rfl, Nat.le_refl _, hSU⟩
  case round =>
    clear hSU
    obtain ⟨k, lv, gs, m, hk, rfl, hln, hS⟩ := hrel
    by_cases hlt : k < l.length
    · --@1
      obtain ⟨x, hx⟩ : ∃ x, l[k]? = some x := ⟨l[k], List.getElem?_eq_getElem hlt⟩
      have hox := (HOK.out x (List.mem_of_getElem? hx)).next hS.wk.bel
      obtain ⟨b, off, hAA, hbs, hcc⟩ := (hR.below hS.wk.bel).at_ 5 enOp_len (by omega) hx
      obtain ⟨xk, xo, xi, xq, xA, xcap, xls⟩ := x
      have q0 : wr.cell? ⟨b, off + k * 5, none⟩ = some (.int .i64 xk) := hcc 0 _ rfl
      have q1 : wr.cell? ⟨b, off + k * 5 + 1, none⟩ = some (.int .i64 xo) := hcc 1 _ rfl
      have q2 : wr.cell? ⟨b, off + k * 5 + 2, none⟩ = some (.int .i64 xi) := hcc 2 _ rfl
      have q3 : wr.cell? ⟨b, off + k * 5 + 3, none⟩ = some (.int .i64 xq) := hcc 3 _ rfl
      have q4 : wr.cell? ⟨b, off + k * 5 + 4, none⟩ = some (.slice xA xls.length xcap) := hcc 4 _ rfl
      have hwb : Below wr.heap.size wr (wr.alloc (.cells #[.int .i64 xk, .int .i64 xo, .int .i64 xi, .int .i64 xq, .slice xA xls.length xcap] 42)) := (Below.refl _ _).alloc (Nat.le_refl _) _
      have hSz := hS.next hwb
      have hBG := Blk.new wr 42 #[.int .i64 xk, .int .i64 xo, .int .i64 xi, .int .i64 xq, .slice xA xls.length xcap]
      have hoz := hox.next hwb
      obtain ⟨wz, hwz⟩ : ∃ wz, wz = wr.alloc (.cells #[.int .i64 xk, .int .i64 xo, .int .i64 xi, .int .i64 xq, .slice xA xls.length xcap] 42) := ⟨_, rfl⟩
      obtain ⟨G, hG⟩ : ∃ G, G = wr.heap.size := ⟨_, rfl⟩
      have HW := hid hwz
      have HG := hid hG
      rw [← hwz] at hBG hSz hoz
      rw [← hG] at hBG
      have HS := hid (And.intro hSz (And.intro hBG hoz))
      clear hcc hx hwb hS hwz hG hbs hSz hBG hox hoz
      subst hAA
      go_upto_region 8 with fail
      rw [← HW.out, ← HG.out]
      have p0 : wz.cell? ⟨G, 0, none⟩ = some (.int .i64 xk) := HS.out.2.1.cell 0
      clear HW HG q0 q1 q2 q3 q4
      go_upto_block 2 with fail
      clear p0
      obtain ⟨hW, hBG, hoz⟩ := HS.out
      clear HS
      have hgl : gs.length ≤ 3000000000000 := by omega
      go_cut [] (fun wx => PSu w n0 X BL BG M (k + 1) wx)
      case first =>
        clear hR HOK hl
        have p0 : wz.cell? ⟨G, 0, none⟩ = some (.int .i64 xk) := hBG.cell 0
        have p1 : wz.cell? ⟨G, 1, none⟩ = some (.int .i64 xo) := hBG.cell 1
        have p2 : wz.cell? ⟨G, 2, none⟩ = some (.int .i64 xi) := hBG.cell 2
        have p3 : wz.cell? ⟨G, 3, none⟩ = some (.int .i64 xq) := hBG.cell 3
        have p4 : wz.cell? ⟨G, 4, none⟩ = some (.slice xA xls.length xcap) := hBG.cell 4
        by_cases k1 : xk = 1
        · have e1 : (xk == 1) = true := by simpa using k1
          subst k1
          have K := hid (item_step hW.wk.book hW.wk.good hW.wk.low.2 xi)
          have HH := hid (And.intro hW hBG)
          clear hW hBG hoz
          go_wp2_with fail
          refine K.out.mono ?_
          rintro e w5 ⟨lv', gs', rfl, hI, hGd, hRR, hln', hT⟩
          have hZ := hid (show PSu w n0 X BL BG M (k + 1) w5 from ⟨lv', gs', m, HH.out.1.step hI hGd hT (HH.out.1.got.itemR hRR), by omega⟩)
          clear K HH hI hGd hRR hT hln' p0 p1 p2 p3 p4
          go_wp2_with fail
          go_meet
          exact hZ.out
        · have e1 : (xk == 1) = false := by simpa using k1
          clear k1
          by_cases k2 : xk = 2
          · have e2 : (xk == 2) = true := by simpa using k2
            subst k2
            have K := hid (recv_step hW.wk.book hW.wk.good hgl xi xq)
            have HH := hid (And.intro hW hBG)
            clear hW hBG hoz
            by_cases hz : recvZ lv xi xq = 0
            · rw [hz] at K
              have HZ0 := hid hz
              clear hz
              go_wp2_with fail
              refine K.out.mono ?_
              rintro e w5 ⟨lv', gs', rfl, hI, hGd, hRR, hln', hT⟩
              obtain ⟨hgot, hq1, hq2⟩ := HH.out.1.got.recvYes hRR HZ0.out
              have hW5 : Wk w n0 X BL BG lv' gs' w5 := HH.out.1.wk.step hI hGd hT
              have hM5 : IsMap w5 M kI kI m := hT.isMap HH.out.1.mp HH.out.1.notOwn
              have hG5 := HH.out.1.blk hT HH.out.2 (by decide) (by decide)
              have hlk := hM5.look keyL Try.underlying57 (zeroI _) xi
              rw [show (Value.int .i64 0) = kI 0 from rfl, looked_kI] at hlk
              simp only [kI] at hlk
              have hgb : 0 ≤ (mget m xi).getD 0 ∧ (mget m xi).getD 0 ≤ 1125899906842624 := by
                rw [HH.out.1.got xi]
                unfold rOf
                cases hm : mget lv xi with
                | none => exact ⟨Int.le_refl _, by decide⟩
                | some a => exact (HH.out.1.wk.good.lk xi a hm).2.2
              have HP := hid (And.intro hW5 (And.intro hM5 hgot))
              have HSU := hid HH.out.1.lo
              have z2 : w5.cell? ⟨G, 2, none⟩ = some (.int .i64 xi) := hG5.cell 2
              have z3 : w5.cell? ⟨G, 3, none⟩ = some (.int .i64 xq) := hG5.cell 3
              have lG := hG5.lt
              obtain ⟨v0, hv0⟩ : ∃ v0, v0 = (mget m xi).getD 0 := ⟨_, rfl⟩
              rw [← hv0] at hlk hgb hq2 HP
              have ws : IntKind.i64.wrap (v0 + xq) = v0 + xq := IntWalk.i64_in _ ⟨by omega, by omega⟩
              clear K HH hI hGd hRR hT p0 p1 p2 p3 p4 hgot hW5 hM5 hG5 hv0 hgb hq1 hq2
              go_wp2_with (first | (at_mapUpdate; refine wpList_store _ rfl _ _ _ 57 3 rfl keyL Try.underlying57 M m rfl HP.out.2.1 xi (v0 + xq) rfl rfl ?_; intro w8 hM8 hg8 hs8))
              have hZ := hid (show PSu w n0 X BL BG M (k + 1) w8 from ⟨lv', gs', _, Su.put HP.out.1 HP.out.2.1 HSU.out hM8 (Touch.of_grown hg8) HP.out.2.2, by omega⟩)
              clear hM8 hg8 hs8
              go_wp2_with fail
              go_meet
              exact hZ.out
            · have hz2 : (recvZ lv xi xq == 0) = false := by simpa using hz
              have HZ0 := hid hz
              clear hz
              generalize hzz : recvZ lv xi xq = zz at K hz2
              have HZZ := hid hzz
              clear hzz
              go_wp2_with fail
              refine K.out.mono ?_
              rintro e w5 ⟨lv', gs', rfl, hI, hGd, hRR, hln', hT⟩
              have hZ := hid (show PSu w n0 X BL BG M (k + 1) w5 from ⟨lv', gs', m, HH.out.1.step hI hGd hT (HH.out.1.got.recvNo hRR HZ0.out), by omega⟩)
              clear K HH hI hGd hRR hT hln' p0 p1 p2 p3 p4
              go_wp2_with fail
              go_meet
              exact hZ.out
          · have e2 : (xk == 2) = false := by simpa using k2
            clear k2
            by_cases k3 : xk = 3
            · have e3 : (xk == 3) = true := by simpa using k3
              subst k3
              have K := hid (alloc_step hW.wk.book hW.wk.good hW.wk.low.2 hgl xo xA xcap xls hoz.ls.rd hoz.ls.room hoz.ls.cap)
              have HH := hid (And.intro hW hBG)
              clear hW hBG hoz
              go_wp2_with fail
              refine K.out.mono ?_
              rintro e w5 ⟨lv', gs', rfl, hI, hGd, hRR, hln', hT⟩
              have hZ := hid (show PSu w n0 X BL BG M (k + 1) w5 from ⟨lv', gs', m, HH.out.1.step hI hGd hT (HH.out.1.got.allocR hRR), by omega⟩)
              clear K HH hI hGd hRR hT hln' p0 p1 p2 p3 p4
              go_wp2_with fail
              go_meet
              exact hZ.out
            · have e3 : (xk == 3) = false := by simpa using k3
              clear k3
              by_cases k4 : xk = 4
              · have e4 : (xk == 4) = true := by simpa using k4
                subst k4
                have K := hid (free_step hW.wk.book hW.wk.good hgl xo)
                have HH := hid (And.intro hW hBG)
                clear hW hBG hoz
                go_wp2_with fail
                refine K.out.mono ?_
                rintro e w5 ⟨lv', gs', rfl, hI, hGd, hRR, hln', hT⟩
                have hZ := hid (show PSu w n0 X BL BG M (k + 1) w5 from ⟨lv', gs', m, HH.out.1.step hI hGd hT (HH.out.1.got.freeR hRR), by omega⟩)
                clear K HH hI hGd hRR hT hln' p0 p1 p2 p3 p4
                go_wp2_with fail
                go_meet
                exact hZ.out
              · have e4 : (xk == 4) = false := by simpa using k4
                clear k4
                by_cases k5 : xk = 5
                · have e5 : (xk == 5) = true := by simpa using k5
                  subst k5
                  have K := hid (ship_step hW.wk.book hW.wk.good hgl xo)
                  have HH := hid (And.intro hW hBG)
                  clear hW hBG hoz
                  go_wp2_with fail
                  refine K.out.mono ?_
                  rintro e w5 ⟨lv', gs', rfl, hI, hGd, hRR, hln', hT⟩
                  have hZ := hid (show PSu w n0 X BL BG M (k + 1) w5 from ⟨lv', gs', m, HH.out.1.step hI hGd hT (HH.out.1.got.shipR hRR), by omega⟩)
                  clear K HH hI hGd hRR hT hln' p0 p1 p2 p3 p4
                  go_wp2_with fail
                  go_meet
                  exact hZ.out
                · have e5 : (xk == 5) = false := by simpa using k5
                  clear k5
                  by_cases k6 : xk = 6
                  · have e6 : (xk == 6) = true := by simpa using k6
                    subst k6
                    have K := hid (restock_step hW.wk.book hW.wk.good hgl xo)
                    have HH := hid (And.intro hW hBG)
                    clear hW hBG hoz
                    go_wp2_with fail
                    refine K.out.mono ?_
                    rintro e w5 ⟨lv', gs', rfl, hI, hGd, hRR, hln', hT⟩
                    have hZ := hid (show PSu w n0 X BL BG M (k + 1) w5 from ⟨lv', gs', m, HH.out.1.step hI hGd hT (HH.out.1.got.restockR hRR), by omega⟩)
                    clear K HH hI hGd hRR hT hln' p0 p1 p2 p3 p4
                    go_wp2_with fail
                    go_meet
                    exact hZ.out
                  · have e6 : (xk == 6) = false := by simpa using k6
                    clear k6
                    have hZ := hid (show PSu w n0 X BL BG M (k + 1) wz from ⟨lv, gs, m, hW, by omega⟩)
                    clear hW hBG hoz
                    go_wp2_with fail
                    go_meet
                    exact hZ.out
        --@1e
      case rest =>
        clear hW hBG hoz hln hgl
        obtain ⟨lv1, gs1, m1, hW, hln⟩ := hcut
        have K := hid (levels_any hW.wk.book hW.wk.good.few)
        unfold LevPost at K
        have HH := hid hW
        clear hW
        go_wp2_with fail
        refine K.out.mono ?_
        rintro e w7 ⟨A7, c7, ids, rfl, hpm, hrs, hO7, hb7⟩
        have hW7 := HH.out.next hb7
        have hR7 := own_rd hO7
        have HIN := hid (fun id (h : id ∈ ids) => hpm.mem_iff.1 h)
        have hlid : ids.length ≤ 64 := by
          have h1 := hpm.length_eq
          have h2 := HH.out.wk.good.few
          simp at h1
          omega
        clear K HH hpm hrs hO7 hb7
        have HL := hid (show ((ids.map (lvAt lv1)).length = ids.length) from by simp)
        go_wp2_with fail
        go_loopw [74] (fun i wr => ∃ (j : Nat), j ≤ ids.length ∧ i = .int .i64 j ∧ Su w n0 X BL BG M lv1 gs1 m1 wr ∧ Rd wr A7 ((ids.map (lvAt lv1)).flatMap enV6)) (fun i _ => ids.length - nOf i)
        case atStart => exact ⟨0, Nat.zero_le _, rfl, hW7, hR7⟩
        case round =>
          clear hW7 hR7
          obtain ⟨j, hj, rfl, hW, hR7⟩ := hrel
          by_cases hjl : j < ids.length
          · --@2
            obtain ⟨id, hid'⟩ : ∃ id, ids[j]? = some id := ⟨ids[j], List.getElem?_eq_getElem hjl⟩
            obtain ⟨a, ha⟩ := mget_key (HIN.out id (List.mem_of_getElem? hid'))
            have hy : (ids.map (lvAt lv1))[j]? = some a := by rw [List.getElem?_map, hid']; simp [lvAt_get ha]
            obtain ⟨b2, off2, hA2, _, hcc2⟩ := hR7.at_ 6 enV6_len (by omega) hy
            have hg1 := hW.wk.good.lk id a ha
            have hg2 := hW.wk.good.sm id a ha
            have hs1 := hW.wk.good.sq 1 id
            have hs2 := hW.wk.good.sq 2 id
            have hs3 := hW.wk.good.sq 3 id
            have hr1 := hW.got id
            rw [rOf_some ha] at hr1
            have hfacts : (0 ≤ a.h ∧ a.h ≤ 1125899906842624) ∧ (0 ≤ a.a ∧ a.a ≤ 1125899906842624) ∧ (0 ≤ a.s - a.t ∧ a.s ≤ 4000000000000000) ∧ (0 ≤ a.t ∧ a.t ≤ 4000000000000000) ∧ a.h + a.a + a.s - a.t = a.r := by omega
            have hai := hg1.1
            obtain ⟨ag, ai, ar, ah, aa, as', at'⟩ := a
            simp only at hfacts hr1 hai
            subst hai
            have p0 : wr.cell? ⟨b2, off2 + j * 6, none⟩ = some (.int .i64 ai) := hcc2 0 _ rfl
            have p1 : wr.cell? ⟨b2, off2 + j * 6 + 1, none⟩ = some (.int .i64 ar) := hcc2 1 _ rfl
            have p2 : wr.cell? ⟨b2, off2 + j * 6 + 2, none⟩ = some (.int .i64 ah) := hcc2 2 _ rfl
            have p3 : wr.cell? ⟨b2, off2 + j * 6 + 3, none⟩ = some (.int .i64 aa) := hcc2 3 _ rfl
            have p4 : wr.cell? ⟨b2, off2 + j * 6 + 4, none⟩ = some (.int .i64 as') := hcc2 4 _ rfl
            have p5 : wr.cell? ⟨b2, off2 + j * 6 + 5, none⟩ = some (.int .i64 at') := hcc2 5 _ rfl
            have hwb : Below wr.heap.size wr (wr.alloc (.cells #[.int .i64 ai, .int .i64 ar, .int .i64 ah, .int .i64 aa, .int .i64 as', .int .i64 at'] 38)) := (Below.refl _ _).alloc (Nat.le_refl _) _
            have hLB := Blk.new wr 38 #[.int .i64 ai, .int .i64 ar, .int .i64 ah, .int .i64 aa, .int .i64 as', .int .i64 at']
            have hz := hW.next hwb
            have hRz := hR7.below hwb
            obtain ⟨wz, hwz⟩ : ∃ wz, wz = wr.alloc (.cells #[.int .i64 ai, .int .i64 ar, .int .i64 ah, .int .i64 aa, .int .i64 as', .int .i64 at'] 38) := ⟨_, rfl⟩
            obtain ⟨L, hLe⟩ : ∃ L, L = wr.heap.size := ⟨_, rfl⟩
            have HW := hid hwz
            have HLe := hid hLe
            rw [← hwz] at hLB hz hRz
            rw [← hLe] at hLB
            subst hA2
            have HZ := hid (And.intro hz (And.intro hLB hRz))
            clear hcc2 hy hwb hwz hLe hz hLB hRz hW hR7 hg1 hg2 hs1 hs2 hs3 ha hid'
            go_upto_region 25 with fail
            rw [← HW.out, ← HLe.out]
            obtain ⟨hz, hLB, hRz⟩ := HZ.out
            have g0 : wz.cell? ⟨L, 0, none⟩ = some (.int .i64 ai) := hLB.cell 0
            have g1 : wz.cell? ⟨L, 1, none⟩ = some (.int .i64 ar) := hLB.cell 1
            have g2 : wz.cell? ⟨L, 2, none⟩ = some (.int .i64 ah) := hLB.cell 2
            have g3 : wz.cell? ⟨L, 3, none⟩ = some (.int .i64 aa) := hLB.cell 3
            have g4 : wz.cell? ⟨L, 4, none⟩ = some (.int .i64 as') := hLB.cell 4
            have g5 : wz.cell? ⟨L, 5, none⟩ = some (.int .i64 at') := hLB.cell 5
            have lL := hLB.lt
            have hlk := hz.mp.look keyL Try.underlying57 (zeroI _) ai
            rw [show (Value.int .i64 0) = kI 0 from rfl, looked_kI, hr1] at hlk
            simp only [kI] at hlk
            clear HZ HW HLe p0 p1 p2 p3 p4 p5 hr1 hLB
            obtain ⟨⟨f1, f2⟩, ⟨f3, f4⟩, ⟨f5, f6⟩, ⟨f7, f8⟩, f9⟩ := hfacts
            have HZ := hid (And.intro hz hRz)
            clear hz hRz
            have t1 : (ar != ar) = false := by simp
            have w1 : IntKind.i64.wrap (ah + aa) = ah + aa := IntWalk.i64_in _ ⟨by omega, by omega⟩
            have w2 : IntKind.i64.wrap (ah + aa + as') = ah + aa + as' := IntWalk.i64_in _ ⟨by omega, by omega⟩
            have w3 : IntKind.i64.wrap (ah + aa + as' - at') = ar := by rw [← f9]; exact IntWalk.i64_in _ ⟨by omega, by omega⟩
            have w4 : IntKind.i64.wrap (as' - at') = as' - at' := IntWalk.i64_in _ ⟨by omega, by omega⟩
            obtain ⟨mn, hmn, hmc⟩ := min4_run (P := Try.prog) #[3, 3, 3, 3] 3 ah aa (as' - at') at'
            have hm0 : decide (mn < 0) = false := decide_eq_false (by omega)
            clear f1 f2 f3 f4 f5 f6 f7 f8 f9 hmc
            go_wp2_with fail
            go_roundw
            case rel => exact ⟨j + 1, by omega, by go_num, HZ.out.1, HZ.out.2⟩
            case measure => simp [nOf]; omega
            --@2e
          · --@3
            have hj' : j = ids.length := by omega
            have HW9 := hid hW
            clear hjl hj hW hR7 HIN
            subst hj'
            go_wp2_with fail
            go_roundw
            case rel => exact ⟨k + 1, lv1, gs1, m1, by omega, by go_num, hln, HW9.out⟩
            case measure => simp [nOf]; omega
            --@3e
    · --@4
      have hk' : k = l.length := by omega
      have HSS := hid hS
      have hgl : gs.length ≤ 1048576 := by omega
      have K1 := hid (levels_any hS.wk.book hS.wk.good.few)
      unfold LevPost at K1
      clear hk hlt hR HOK hS
      subst hk'
      go_wp2_with fail
      refine K1.out.mono ?_
      rintro e w5 ⟨A5, c5, ids, rfl, hpm, hrs, hO5, hb5⟩
      have hS5 := HSS.out.wk.next hb5
      have HR5 := hid (own_rd hO5)
      have hlid : ids.length ≤ 64 := by
        have h1 := hpm.length_eq
        have h2 := HSS.out.wk.good.few
        simp at h1
        omega
      have K2 := hid (all_any hS5.book hS5.good.four (by omega))
      unfold AllPost at K2
      have HP1 := hid (And.intro hpm hrs)
      have HS5 := hid hS5
      clear K1 hpm hrs hO5 hb5 HSS hS5
      go_wp2_with fail
      refine K2.out.mono ?_
      rintro e w6 ⟨A6, c6, gl, rfl, hpg, hsg, hO6, hrw6, hb6⟩
      have hS6 := HS5.out.next hb6
      have hR5 := HR5.out.below hb6
      have hR6 := own_rd hO6
      have hll : gl.length ≤ 1048576 := by
        have h1 := hpg.length_eq
        simp at h1
        omega
      have HGOOD := hid (RGood.told HS5.out.good (by omega) HP1.out.1 HP1.out.2 hpg)
      rw [← en_toGA] at hR6
      have hcp : ∀ x ∈ gl.map toGA, Rd w6 x.A (x.ls.flatMap enL) ∧ x.ls.length ≤ x.cap ∧ x.cap ≤ maxLen := fun x hx => by
        obtain ⟨d, hd, rfl⟩ := List.mem_map.1 hx
        have hr := hrw6 d hd
        exact ⟨own_rd hr.own, (own_capS hr.own).1, (own_capS hr.own).2⟩
      have K3 := restore_any (w := w6) (vs := ids.map (lvAt lv)) (gl := gl.map toGA) A5 c5 A6 c6 hR5 hR6 (by simp; omega) (by simp; omega) hcp
      rw [List.length_map, List.length_map] at K3
      replace K3 := hid K3
      have HS6 := hid hS6
      clear K2 HR5 HS5 hpg hsg hO6 hrw6 hb6 hS6 hR5 hR6 hcp
      go_wp2_with fail
      refine K3.out.mono ?_
      rintro e w7 h7
      rcases h7 with ⟨hbad, _⟩ | ⟨_, X2, BL2, BG2, lv2, gs2, rfl, hI2, hLF, hGI, hb7⟩
      · exact absurd HGOOD.out hbad
      have hS7 := HS6.out.next hb7
      have HG2 := hid (HGOOD.out.book hLF hGI hI2.lvs.nodup hI2.gds.nodup)
      have HL2 := hid (show lv2.length = ids.length from by
        have := congrArg List.length hLF.1
        simpa using this)
      have hI2' := hid hI2
      have K4 := hid (levels_any hI2 HG2.out.few)
      unfold LevPost at K4
      have HS7 := hid hS7
      have HLI := hid (show ids.length = lv.length from by simpa using HP1.out.1.length_eq)
      clear K3 HS6 HGOOD hS7 hb7 hLF hGI hI2 HP1
      go_wp2_with fail
      refine K4.out.mono ?_
      rintro e w8 ⟨A8, c8, ids8, rfl, hpm8, _, _, hb8⟩
      have hS8 := HS7.out.next hb8
      have HL8 := hid (show ids8.length = ids.length from by
        have := hpm8.length_eq
        simp at this
        rw [this]; exact HL2.out)
      have K5 := hid (levels_any hS8.book hS8.good.few)
      unfold LevPost at K5
      have HS8 := hid hS8
      clear K4 HS7 hpm8 hb8 hS8 hI2'
      go_wp2_with fail
      refine K5.out.mono ?_
      rintro e w9 ⟨A9, c9, ids9, rfl, hpm9, _, _, hb9⟩
      have HB9 := hid (HS8.out.next hb9).bel
      have HE := hid (show (((ids8.length : Nat) : Int) == ((ids9.length : Nat) : Int)) = true from by
        have h1 := hpm9.length_eq
        simp at h1
        rw [HL8.out, h1, HLI.out]
        simp)
      clear K5 HS8 hpm9 hb9
      have t1 := HE.out
      go_wp2_with fail
      go_ret
      exact ⟨rfl, HB9.out⟩
      --@4e

end Go.Proofs.Ythfaaimmfdidnaa
