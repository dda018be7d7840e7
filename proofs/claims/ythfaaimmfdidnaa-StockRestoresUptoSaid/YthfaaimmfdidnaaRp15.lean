/-
  The document's stock book: Put (the loop is printed by gen_rp15.py).
-/
import Derived.Test.YthfaaimmfdidnaaRi15
import Derived.Deep.RegionHeldLaw
import Derived.Deep.RegionLaw
import Derived.Deep.AppendLies
namespace Go.Proofs.Ythfaaimmfdidnaa
open Go.RowKit Go.WideShapes Go.ChangeShapes Go.ChangeAt Go.Deep
set_option linter.unusedVariables false

section
variable {base R c1 c2 : Nat} {A1 A2 : Option Addr} {is : List (Int × Int)} {rs : List Gd} {w w4 wr : World}
theorem IsRef.ins2 {g cap' : Nat} {l : List Gd} (h : IsRef base w R A1 c1 is A2 c2 rs) (hI : InsRow enG3 3 67 base g cap' w4 l wr) (hB : Blk w4 R 54 #[.slice A1 is.length c1, .slice (some ⟨g, 0, none⟩) l.length cap'])
    (hT : Touch (RT w.heap.size R A2) w w4) (hg : RT w.heap.size R A2 g) (hgR : g ≠ R) (hl : ∀ o ∈ l, LnsAt base w o) : IsRef base wr R A1 c1 is (some ⟨g, 0, none⟩) cap' l ∧ Touch (RT w.heap.size R A2) w wr := by
  have hT2 : Touch (RT w.heap.size R A2) w wr := hT.then (hI.touch.mono (fun k hk => by subst hk; exact hg))
  refine ⟨⟨hI.touch.blk hB (fun e => hgR e.symm), own_touch h.own1 hT2 (fun k hk => ?_), hI.own, fun o ho => (hl o ho).touch hT2 ?_, h.lt⟩, hT2⟩
  · obtain ⟨cs, hb⟩ := rowBlk15 h.own1 (b := k) (by cases A1 with | none => simp [Value.ownBlock] at hk | some a => simpa [Value.ownBlock] using hk)
    exact rt_not h.blk h.own2 hb (by decide) (by decide)
  · obtain ⟨_, _, cs, hb⟩ := hl o ho
    exact rt_not h.blk h.own2 hb (by decide) (by decide)
def PutPost (base R : Nat) (A1 A2 : Option Addr) (c1 : Nat) (is : List (Int × Int)) (rs : List Gd) (d : Gd) (w : World) (e : Ending) (w' : World) : Prop :=
  ∃ A2' c2', e = .returned (.tuple #[]) ∧ IsRef base w' R A1 c1 is A2' c2' (insK Gd.o ltI rs d) ∧ Touch (RT w.heap.size R A2) w w'

set_option maxRecDepth 100000 in
set_option maxHeartbeats 8000000 in
theorem rput_any (h : IsRef base w R A1 c1 is A2 c2 rs) (hs : SortedK Gd.o ltI rs) (d : Gd) (hn : d.o ∉ rs.map Gd.o) (hd : LnsAt base w d) (hl : rs.length * 40 + 40 ≤ 140737488355328) (hbw : base ≤ w.heap.size) :
    Calls Try.prog 53 #[.pointer (some ⟨R, 0, none⟩), .agg #[.int .i64 d.o, .int .i64 d.st, .slice (some ⟨d.b, 0, none⟩) d.ls.length d.cap]] w (PutPost base R A1 A2 c1 is rs d w) := by
    obtain ⟨dg, do', dst, db, dcap, dls⟩ := d
    simp only at hn ⊢
    have HN := hid (show (⟨dg, do', dst, db, dcap, dls⟩ : Gd).o ∉ rs.map Gd.o from hn)
    have HS := hid hs
    have HLN2 := hid (show ∀ x ∈ (⟨dg, do', dst, db, dcap, dls⟩ : Gd) :: rs, LnsAt base w x from fun x hx => by
      rcases List.mem_cons.1 hx with rfl | hx
      · exact hd
      · exact h.lns x hx)
    clear hn hs hd
    obtain ⟨i0, hi, hz0, hz1, hz2⟩ := info_parts info_rd
    obtain ⟨wz, hwz⟩ : ∃ wz, wz = w.alloc (.cells #[.int .i64 do', .int .i64 dst, .slice (some ⟨db, 0, none⟩) dls.length dcap] 67) := ⟨_, rfl⟩
    obtain ⟨G0, hG0⟩ : ∃ G0, G0 = w.heap.size := ⟨_, rfl⟩
    have hz : IsRef base wz R A1 c1 is A2 c2 rs := by rw [hwz]; exact h.alloc _
    have hGz : Blk wz G0 67 #[.int .i64 do', .int .i64 dst, .slice (some ⟨db, 0, none⟩) dls.length dcap] := by rw [hwz, hG0]; exact Blk.new _ _ _
    have hTz : Touch (RT w.heap.size R A2) w wz := by rw [hwz]; exact (Touch.refl _ _).alloc _
    have HW := hid hwz
    have HG := hid hG0
    have hRw : R < w.heap.size := h.blk.lt
    have hRG : R ≠ G0 := by omega
    have hRb := h.lt
    have hbz : base ≤ wz.heap.size := Nat.le_trans hbw hTz.size
    have H := hid h
    clear h hwz hG0
    go_enter Try.func53, Try.ntmps53
    go_wp2_with fail
    rw [← HW.out, ← HG.out]
    have c0 : wz.cell? ⟨R, 1, none⟩ = some (.slice A2 rs.length c2) := hz.cell1
    have g0 : wz.cell? ⟨G0, 0, none⟩ = some (.int .i64 do') := hGz.cell 0
    have g1 : wz.cell? ⟨G0, 1, none⟩ = some (.int .i64 dst) := hGz.cell 1
    have g2 : wz.cell? ⟨G0, 2, none⟩ = some (.slice (some ⟨db, 0, none⟩) dls.length dcap) := hGz.cell 2
    have lR : R < wz.heap.size := hz.blk.lt
    have lG : G0 < wz.heap.size := hGz.lt
    have hO := hid (((hz.next (below_drewN (Below.refl _ _) 1)).own2).alloc (.cells #[.int .i64 do', .int .i64 dst, .slice (some ⟨db, 0, none⟩) dls.length dcap] 67))
    have hRk := (hz.next (below_drewN (Below.refl _ _) 1)).blk.alloc (.cells #[.int .i64 do', .int .i64 dst, .slice (some ⟨db, 0, none⟩) dls.length dcap] 67)
    have hT := hid (hTz.drew.alloc (.cells #[.int .i64 do', .int .i64 dst, .slice (some ⟨db, 0, none⟩) dls.length dcap] 67))
    have HL2 := hid (show some R ≠ (Value.slice A2 rs.length c2).ownBlock from fun e => by have := (H.out.own2.lt R e.symm).1; omega)
    have hwsz := hTz.size
    clear hz hGz hTz
    go_region_law ((refine step_append_lies _ (by rfl) _ _ _ (by rfl) base 67 i0 _ 3 40 Try.underlying52 hi hz0 hz1 hz2 rfl (by decide) _ _ _ (by rfl) hO.out ⟨wz.heap.size, 0, none⟩ 1 1 [.int .i64 do', .int .i64 dst, .slice (some ⟨db, 0, none⟩) dls.length dcap] (by rfl) (by rfl) (World.news_of_block (heap_alloc_new _ _)) (enG3_one ⟨dg, do', dst, db, dcap, dls⟩) (by omega) (by unfold maxLen; omega) (by omega) (by simp; omega) _ rfl ?_; intro g7 cap7 w7 hO7 hg7 hat7 hlt7; have hB7 := hRk.grown hg7 HL2.out; have c7 : w7.cell? ⟨R, 1, none⟩ = some (.slice A2 rs.length c2) := hB7.cell 1; have f7 := hB7.free 1))
    all_goals
      have hT7 := hT.out.then (touch_row hg7 (fun k hk => .inr (.inl (by cases A2 with | none => simp [Value.ownBlock] at hk | some a => simpa [Value.ownBlock] using hk))))
      have hrt7 : RT w.heap.size R A2 g7 := by
        rcases hat7 with e | e
        · refine .inr (.inl ?_)
          cases A2 with
          | none => simp [Value.ownBlock] at e
          | some a => simpa [Value.ownBlock] using e
        · refine .inr (.inr ?_)
          simp at e
          omega
      obtain ⟨g, cap', e7, hgR, hbg, hrt, hI0, hT4, hB4⟩ := ins_start (j := 1) (x := (⟨dg, do', dst, db, dcap, dls⟩ : Gd)) (enc := enG3) w.heap.size hB7 hO7 hT7 hRb (fun g hg => by
        have hg' : g7 = g := by simpa [Value.ownBlock] using hg
        subst hg'
        exact hrt7)
      injection e7 with e8 e9 e10
      injection e8 with e8
      injection e8 with e8
      subst e8 e10
      obtain ⟨w4, hw4⟩ : ∃ w4, w4 = w7.setCell ⟨R, 1, none⟩ (.slice (some ⟨g7, 0, none⟩) (rs.length + 1) cap7) := ⟨_, rfl⟩
      rw [← hw4] at hI0 hT4 hB4 ⊢
      have hBB : Blk w4 R 54 #[.slice A1 is.length c1, .slice (some ⟨g7, 0, none⟩) (rs.length + 1) cap7] := by simpa using hB4
      obtain ⟨g, hgg⟩ : ∃ g, g = g7 := ⟨_, rfl⟩
      obtain ⟨cap', hcc⟩ : ∃ cap', cap' = cap7 := ⟨_, rfl⟩
      rw [← hgg] at hI0 hrt hgR hbg hBB ⊢
      rw [← hcc] at hI0 hBB ⊢
      have c4 : w4.cell? ⟨R, 1, none⟩ = some (.slice (some ⟨g, 0, none⟩) (rs.length + 1) cap') := hBB.cell 1
      have lR4 : R < w4.heap.size := hBB.lt
      have HT4 := hid hT4
      have HBB := hid hBB
      have hI := hid hI0
      clear hw4 hI0 hT4 hB4 hBB hT7 hO7 hg7 hat7 hlt7 hB7 c7 f7 hgg hcc c0 g0 g1 g2 lR lG hO hRk hT HL2
      go_wp2_with fail
      replace hI := hI.out
      clear c4 lR4
      go_loopw [4] (fun i wr => ∃ k : Nat, k ≤ rs.length ∧ i = .int .i64 k ∧ Hid (Behind Gd.o ltI rs (⟨dg, do', dst, db, dcap, dls⟩ : Gd) k) ∧ InsRow enG3 3 67 base g cap' w4 (midK rs (⟨dg, do', dst, db, dcap, dls⟩ : Gd) k) wr) (fun i _ => nOf i)
      case atStart => exact ⟨rs.length, Nat.le_refl _, by go_num, hid behind_end, hI⟩
      case round =>
        clear hI
        obtain ⟨k, hk, rfl, hP, hI⟩ := hrel
        have hln := midK_len (z := (⟨dg, do', dst, db, dcap, dls⟩ : Gd)) hk
        obtain ⟨n1, hn1⟩ : ∃ n1, n1 = rs.length + 1 := ⟨_, rfl⟩
        have c0 : wr.cell? ⟨R, 1, none⟩ = some (.slice (some ⟨g, 0, none⟩) n1 cap') := by rw [hn1]; exact (hI.touch.blk HBB.out (fun e => hgR e.symm)).cell 1
        have lR : R < wr.heap.size := (hI.touch.blk HBB.out (fun e => hgR e.symm)).lt
        have hkn : k < n1 := by omega
        have hn2 : n1 ≤ 140737488355328 := by omega
        have e2 := hI.elem enG3_len (midK_here hk)
        have lg : g < wr.heap.size := e2.1
        have q0 : wr.cell? ⟨g, k * 3, none⟩ = some (.int .i64 do') := e2.2 0 _ rfl
        have q1 : wr.cell? ⟨g, k * 3 + 1, none⟩ = some (.int .i64 dst) := e2.2 1 _ rfl
        have q2 : wr.cell? ⟨g, k * 3 + 2, none⟩ = some (.slice (some ⟨db, 0, none⟩) dls.length dcap) := e2.2 2 _ rfl
        have HEX : Hid (∀ w', (∀ y, 0 < k → rs[k - 1]? = some y → ltI (Gd.o (⟨dg, do', dst, db, dcap, dls⟩ : Gd)) (Gd.o y) = false) → Below wr.heap.size wr w' → PutPost base R A1 A2 c1 is rs (⟨dg, do', dst, db, dcap, dls⟩ : Gd) w (.returned (.tuple #[])) w') := hid (fun w' hf hb => by
          have hI' := hI.next hb
          rw [midK_done linI HS.out HN.out hk hP.out hf] at hI'
          obtain ⟨a1, a2⟩ := H.out.ins2 hI' (by rw [insK_length]; exact HBB.out) HT4.out hrt hgR (fun x hx => HLN2.out x ((insK_perm _ _).mem_iff.1 hx))
          exact ⟨_, _, rfl, a1, a2⟩)
        by_cases hk0 : 0 < k
        · obtain ⟨y, hy⟩ : ∃ y, rs[k - 1]? = some y := ⟨rs[k - 1], List.getElem?_eq_getElem (by omega)⟩
          have e1 := hI.elem enG3_len (k := k - 1) (y := y) (by rw [midK_at hk0 hk]; exact hy)
          have hkw : IntKind.i64.wrap ((k : Int) - 1) = ((k - 1 : Nat) : Int) := by rw [IntWalk.i64_in _ ⟨by omega, by omega⟩]; omega
          have hkl : k - 1 < n1 := by omega
          have HY := hid hy
          obtain ⟨yg, yo, yst, yb, ycap, yls⟩ := y
          have p0 : wr.cell? ⟨g, (k - 1) * 3, none⟩ = some (.int .i64 yo) := e1.2 0 _ rfl
          have p1 : wr.cell? ⟨g, (k - 1) * 3 + 1, none⟩ = some (.int .i64 yst) := e1.2 1 _ rfl
          have p2 : wr.cell? ⟨g, (k - 1) * 3 + 2, none⟩ = some (.slice (some ⟨yb, 0, none⟩) yls.length ycap) := e1.2 2 _ rfl
          clear e1 e2 hy
          by_cases hlt : do' < yo
          · have HP2 := hid (behind_step hP.out hk0 HY.out (by simp [ltI, hlt]))
            have HS2 := hid (midK_step (z := (⟨dg, do', dst, db, dcap, dls⟩ : Gd)) hk0 hk HY.out)
            have HLN := hid hln
            have HI := hid hI
            have HN1 := hid hn1
            clear hI hln hn1
            go_wp2_with fail
            go_quiet (fail)
            obtain ⟨wd, hwd, hIDs, d0, dR, dG, r0, r1, r2, s0, s1, s2⟩ : ∃ wd, wd = wr.drewN nq ∧ Hid (InsRow enG3 3 67 base g cap' w4 (midK rs (⟨dg, do', dst, db, dcap, dls⟩ : Gd) k) wd) ∧ wd.cell? ⟨R, 1, none⟩ = some (.slice (some ⟨g, 0, none⟩) n1 cap') ∧ R < wd.heap.size ∧ g < wd.heap.size ∧ wd.cell? ⟨g, k * 3, none⟩ = some (.int .i64 do') ∧ wd.cell? ⟨g, k * 3 + 1, none⟩ = some (.int .i64 dst) ∧ wd.cell? ⟨g, k * 3 + 2, none⟩ = some (.slice (some ⟨db, 0, none⟩) dls.length dcap) ∧ wd.cell? ⟨g, (k - 1) * 3, none⟩ = some (.int .i64 yo) ∧ wd.cell? ⟨g, (k - 1) * 3 + 1, none⟩ = some (.int .i64 yst) ∧ wd.cell? ⟨g, (k - 1) * 3 + 2, none⟩ = some (.slice (some ⟨yb, 0, none⟩) yls.length ycap) := ⟨_, rfl, hid (HI.out.next (below_drewN (Below.refl _ _) nq)), c0, lR, lg, q0, q1, q2, p0, p1, p2⟩
            rw [← hwd]
            clear hwd HI c0 lR lg q0 q1 q2 p0 p1 p2 HEX
            have hbx : Below wd.heap.size wd (wd.alloc (.cells #[.int .i64 do', .int .i64 dst, .slice (some ⟨db, 0, none⟩) dls.length dcap] 67)) := (Below.refl _ _).alloc (Nat.le_refl _) _
            have hGx := Blk.new wd 67 #[.int .i64 do', .int .i64 dst, .slice (some ⟨db, 0, none⟩) dls.length dcap]
            replace hbx := hid hbx
            replace hGx := hid hGx
            go_wp2_with fail
            obtain ⟨wx, hwx⟩ : ∃ wx, wx = wd.alloc (.cells #[.int .i64 do', .int .i64 dst, .slice (some ⟨db, 0, none⟩) dls.length dcap] 67) := ⟨_, rfl⟩
            rw [← hwx] at hbx hGx ⊢
            obtain ⟨G, hG⟩ : ∃ G, G = wd.heap.size := ⟨_, rfl⟩
            have hgG : g ≠ G := by omega
            have hRG : R ≠ G := by omega
            rw [← hG] at hGx ⊢
            have hIx := hIDs.out.next hbx.out
            have c0 : wx.cell? ⟨R, 1, none⟩ = some (.slice (some ⟨g, 0, none⟩) n1 cap') := (hbx.out.cell (p := ⟨R, 1, none⟩) dR).trans d0
            have lR : R < wx.heap.size := Nat.lt_of_lt_of_le dR hbx.out.size
            have lg : g < wx.heap.size := Nat.lt_of_lt_of_le dG hbx.out.size
            have q0 : wx.cell? ⟨g, k * 3, none⟩ = some (.int .i64 do') := (hbx.out.cell (p := ⟨g, k * 3, none⟩) dG).trans r0
            have q1 : wx.cell? ⟨g, k * 3 + 1, none⟩ = some (.int .i64 dst) := (hbx.out.cell (p := ⟨g, k * 3 + 1, none⟩) dG).trans r1
            have q2 : wx.cell? ⟨g, k * 3 + 2, none⟩ = some (.slice (some ⟨db, 0, none⟩) dls.length dcap) := (hbx.out.cell (p := ⟨g, k * 3 + 2, none⟩) dG).trans r2
            have p0 : wx.cell? ⟨g, (k - 1) * 3, none⟩ = some (.int .i64 yo) := (hbx.out.cell (p := ⟨g, (k - 1) * 3, none⟩) dG).trans s0
            have p1 : wx.cell? ⟨g, (k - 1) * 3 + 1, none⟩ = some (.int .i64 yst) := (hbx.out.cell (p := ⟨g, (k - 1) * 3 + 1, none⟩) dG).trans s1
            have p2 : wx.cell? ⟨g, (k - 1) * 3 + 2, none⟩ = some (.slice (some ⟨yb, 0, none⟩) yls.length ycap) := (hbx.out.cell (p := ⟨g, (k - 1) * 3 + 2, none⟩) dG).trans s2
            have f0 := hIx.free (k * 3)
            have f1 := hIx.free (k * 3 + 1)
            have f2 := hIx.free (k * 3 + 2)
            have hJ := (hIx.put enG3_len (k := k) (by have := HLN.out; omega) (⟨yg, yo, yst, yb, ycap, yls⟩ : Gd)).drew
            have hGJ := hid (((Touch.of_grown (own_storeMany hIx.own (k * 3) (enG3 (⟨yg, yo, yst, yb, ycap, yls⟩ : Gd))).2).blk hGx.out (fun e => hgG e.symm)).next (below_drewN (Below.refl _ _) 1))
            have hJ2 := hid (show InsRow enG3 3 67 base g cap' w4 ((midK rs (⟨dg, do', dst, db, dcap, dls⟩ : Gd) k).set k (⟨yg, yo, yst, yb, ycap, yls⟩ : Gd)) _ from hJ)
            clear hwx hG hIDs hIx hJ d0 dR dG r0 r1 r2 s0 s1 s2
            refine wp_tail 14 (by kernel_rfl) (by kernel_rfl) ?_
            simp only [List.take_succ_cons, List.take_zero, List.drop_succ_cons, List.drop_zero]
            repeat still_step
            refine wpStill_nil ?_
            go_wp2_with fail
            obtain ⟨wy, hwy⟩ : ∃ wy, wy = (((wx.setCell ⟨g, k * 3, none⟩ (.int .i64 yo)).setCell ⟨g, k * 3 + 1, none⟩ (.int .i64 yst)).setCell ⟨g, k * 3 + 2, none⟩ (.slice (some ⟨yb, 0, none⟩) yls.length ycap)).drew := ⟨_, rfl⟩
            have hJy : InsRow enG3 3 67 base g cap' w4 ((midK rs (⟨dg, do', dst, db, dcap, dls⟩ : Gd) k).set k (⟨yg, yo, yst, yb, ycap, yls⟩ : Gd)) wy := by rw [hwy]; exact hJ2.out
            have hGy : Blk wy G 67 #[.int .i64 do', .int .i64 dst, .slice (some ⟨db, 0, none⟩) dls.length dcap] := by rw [hwy]; exact hGJ.out
            rw [← hwy]
            clear hwy hJ2 hGJ c0 lR lg q0 q1 q2 p0 p1 p2 f0 f1 f2 hbx hGx
            have c0 : wy.cell? ⟨R, 1, none⟩ = some (.slice (some ⟨g, 0, none⟩) n1 cap') := by rw [HN1.out]; exact (hJy.touch.blk HBB.out (fun e => hgR e.symm)).cell 1
            have lR : R < wy.heap.size := (hJy.touch.blk HBB.out (fun e => hgR e.symm)).lt
            have e1 := hJy.elem enG3_len (k := k - 1) (y := (⟨yg, yo, yst, yb, ycap, yls⟩ : Gd)) (by rw [List.getElem?_set_ne (by omega), midK_at hk0 hk]; exact HY.out)
            have lg : g < wy.heap.size := e1.1
            have p0 : wy.cell? ⟨g, (k - 1) * 3, none⟩ = some (.int .i64 yo) := e1.2 0 _ rfl
            have p1 : wy.cell? ⟨g, (k - 1) * 3 + 1, none⟩ = some (.int .i64 yst) := e1.2 1 _ rfl
            have p2 : wy.cell? ⟨g, (k - 1) * 3 + 2, none⟩ = some (.slice (some ⟨yb, 0, none⟩) yls.length ycap) := e1.2 2 _ rfl
            have g0 : wy.cell? ⟨G, 0, none⟩ = some (.int .i64 do') := hGy.cell 0
            have g1 : wy.cell? ⟨G, 1, none⟩ = some (.int .i64 dst) := hGy.cell 1
            have g2 : wy.cell? ⟨G, 2, none⟩ = some (.slice (some ⟨db, 0, none⟩) dls.length dcap) := hGy.cell 2
            have f0 := hJy.free ((k - 1) * 3)
            have f1 := hJy.free ((k - 1) * 3 + 1)
            have f2 := hJy.free ((k - 1) * 3 + 2)
            have hJz := (hJy.put enG3_len (k := k - 1) (by rw [List.length_set]; have := HLN.out; omega) (⟨dg, do', dst, db, dcap, dls⟩ : Gd)).drew
            rw [HS2.out] at hJz
            replace hJz := hid hJz
            clear e1 hJy hGy
            refine wp_tail 8 (by kernel_rfl) (by kernel_rfl) ?_
            simp only [List.take_succ_cons, List.take_zero, List.drop_succ_cons, List.drop_zero]
            repeat still_step
            refine wpStill_nil ?_
            clear hkw
            go_wp2_with fail
            go_roundw
            case rel => exact ⟨k - 1, by omega, by congr 1; omega, HP2, hJz.out⟩
            case measure => simp [nOf]; omega
          · have hd : decide (do' < yo) = false := decide_eq_false hlt
            have HX2 := hid (fun n => HEX.out (wr.drewN n) (fun y hy0 hy1 => by rw [HY.out] at hy1; injection hy1 with hy1; subst hy1; simp [ltI, hlt]) (below_drewN (Below.refl _ _) n))
            clear hlt hI hln hn1 HEX
            go_wp2_with fail
            go_quiet (fail)
            go_wp2_with fail
            go_end0
            exact HX2.out _
        · have hd : decide (0 < k) = false := decide_eq_false hk0
          have HX2 := hid (fun n => HEX.out (wr.drewN n) (fun y hy0 hy1 => absurd hy0 hk0) (below_drewN (Below.refl _ _) n))
          clear HEX hI hln hn1 e2
          go_wp2_with fail
          go_quiet (fail)
          go_wp2_with fail
          go_end0
          exact HX2.out _
end

end Go.Proofs.Ythfaaimmfdidnaa
