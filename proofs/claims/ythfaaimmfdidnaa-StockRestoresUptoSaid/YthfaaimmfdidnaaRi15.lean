/-
  The document's stock book: Item (the loop is printed by gen_ri15.py).
-/
import Derived.Test.YthfaaimmfdidnaaRf15
namespace Go.Proofs.Ythfaaimmfdidnaa
open Go.RowKit Go.WideShapes Go.ChangeShapes Go.ChangeAt Go.Deep
set_option linter.unusedVariables false

/-- The row starts its way down. -/
theorem ins_start {α : Type} {enc : α → List Value} {s : Nat} {t tb : TypeId} {base R j : Nat} {A : Option Addr} {r : List α} {x : α} {w0 w3 : World} {v' : Value} {cs : Array Value} (n : Nat)
    (h3 : Blk w3 R tb cs) (hO : w3.ownsRow base t s v' (r.length + 1) (r.flatMap enc ++ enc x)) (hT : Touch (RT n R A) w0 w3) (hlt : R < base) (hloc : ∀ g, v'.ownBlock = some g → RT n R A g) :
    ∃ g cap', v' = .slice (some ⟨g, 0, none⟩) (r.length + 1) cap' ∧ g ≠ R ∧ base ≤ g ∧ RT n R A g ∧ InsRow enc s t base g cap' (w3.setCell ⟨R, j, none⟩ (.slice (some ⟨g, 0, none⟩) (r.length + 1) cap')) (midK r x r.length) (w3.setCell ⟨R, j, none⟩ (.slice (some ⟨g, 0, none⟩) (r.length + 1) cap')) ∧
      Touch (RT n R A) w0 (w3.setCell ⟨R, j, none⟩ (.slice (some ⟨g, 0, none⟩) (r.length + 1) cap')) ∧ Blk (w3.setCell ⟨R, j, none⟩ (.slice (some ⟨g, 0, none⟩) (r.length + 1) cap')) R tb (cs.setIfInBounds j (.slice (some ⟨g, 0, none⟩) (r.length + 1) cap')) := by
  have e : r.flatMap enc ++ enc x = (r ++ [x]).flatMap enc := by simp
  rw [e] at hO
  have hO' : w3.ownsRow base t s v' (r ++ [x]).length ((r ++ [x]).flatMap enc) := by simpa using hO
  obtain ⟨g, cap', rfl, hbg, hgl⟩ := own_form hO' (by simp)
  have hl : (r ++ [x]).length = r.length + 1 := by simp
  rw [hl] at hloc ⊢
  have hne : g ≠ R := by omega
  have hg : w3.grownBy (w3.setCell ⟨R, j, none⟩ (.slice (some ⟨g, 0, none⟩) (r.length + 1) cap')) (some R) := ⟨rfl, rfl, rfl, by simp, fun k _ hk => heap_setCell_other w3 ⟨R, j, none⟩ k _ (fun e => hk (by simp [e]))⟩
  refine ⟨g, cap', rfl, hne, hbg, hloc g rfl, ⟨?_, Touch.refl _ _⟩, hT.then ((Touch.setCell w3 R j _).mono (fun k hk => .inl hk)), h3.set_ j _⟩
  rw [midK_end]
  have := hO'.kept hg (.inr (by simp [Value.ownBlock]; exact hne))
  exact this

section
variable {base R c1 c2 : Nat} {A1 A2 : Option Addr} {is : List (Int × Int)} {rs : List Gd} {w w4 wr : World}
theorem rt_not {A : Option Addr} {n cap m s k : Nat} {t tk : TypeId} {xs : List Value} {cs cs2 : Array Value} {t2 : TypeId} (hR : Blk w R t2 cs2) (hA : w.ownsRow base t s (.slice A n cap) m xs) (hk : Blk w k tk cs) (h1 : tk ≠ t2) (h2 : tk ≠ t) : ¬ RT w.heap.size R A k := by
  rintro (rfl | e | e)
  · exact hk.ne_ hR h1 rfl
  · obtain ⟨cs', hb⟩ := rowBlk15 hA e
    exact hk.ne_ hb h2 rfl
  · have := hk.lt; omega
theorem IsRef.ins1 {g cap' : Nat} {l : List (Int × Int)} (h : IsRef base w R A1 c1 is A2 c2 rs) (hI : InsRow en2 2 102 base g cap' w4 l wr) (hB : Blk w4 R 54 #[.slice (some ⟨g, 0, none⟩) l.length cap', .slice A2 rs.length c2])
    (hT : Touch (RT w.heap.size R A1) w w4) (hg : RT w.heap.size R A1 g) (hgR : g ≠ R) (_hx : True) : IsRef base wr R (some ⟨g, 0, none⟩) cap' l A2 c2 rs ∧ Touch (RT w.heap.size R A1) w wr := by
  have hT2 : Touch (RT w.heap.size R A1) w wr := hT.then (hI.touch.mono (fun k hk => by subst hk; exact hg))
  refine ⟨⟨hI.touch.blk hB (fun e => hgR e.symm), hI.own, own_touch h.own2 hT2 (fun k hk => ?_), fun o ho => (h.lns o ho).touch hT2 ?_, h.lt⟩, hT2⟩
  · obtain ⟨cs, hb⟩ := rowBlk15 h.own2 (b := k) (by cases A2 with | none => simp [Value.ownBlock] at hk | some a => simpa [Value.ownBlock] using hk)
    exact rt_not h.blk h.own1 hb (by decide) (by decide)
  · obtain ⟨_, _, cs, hb⟩ := h.lns o ho
    exact rt_not h.blk h.own1 hb (by decide) (by decide)

def ItPost (base R : Nat) (A1 A2 : Option Addr) (c2 : Nat) (is : List (Int × Int)) (rs : List Gd) (id : Int) (w : World) (e : Ending) (w' : World) : Prop :=
  ∃ A1' c1', e = .returned (.int .i64 0) ∧ IsRef base w' R A1' c1' (insK Prod.fst ltI is (id, 0)) A2 c2 rs ∧ Touch (RT w.heap.size R A1) w w'

set_option maxRecDepth 100000 in
set_option maxHeartbeats 4000000 in
theorem ritem_no (id : Int) (hno : ¬ (1 ≤ id ∧ id ≤ 64)) (v : Value) :
    Calls Try.prog 39 #[v, .int .i64 id] w fun e w' => e = .returned (.int .i64 2) ∧ w = w' := by
  rcases (show id < 1 ∨ (1 ≤ id ∧ 64 < id) from by omega) with h1 | ⟨h1, h2⟩
  all_goals
    clear hno
    go_enter Try.func39, Try.ntmps39
    go_wp2_with fail
    go_ret
    exact ⟨rfl, rfl⟩
set_option maxRecDepth 100000 in
set_option maxHeartbeats 4000000 in
theorem ritem_old (h : IsRef base w R A1 c1 is A2 c2 rs) (id : Int) (hok : 1 ≤ id ∧ id ≤ 64) (hl : is.length ≤ 140737488355328) {k : Nat} (he : plc (isI id) is = k) :
    Calls Try.prog 39 #[.pointer (some ⟨R, 0, none⟩), .int .i64 id] w fun e w' => e = .returned (.int .i64 0) ∧ w = w' := by
  obtain ⟨h1, h2⟩ := hok
  have F := rfind_any h id hl
  rw [he] at F
  replace F := hid F
  clear he h
  go_enter Try.func39, Try.ntmps39
  go_wp2_with fail
  refine F.out.mono ?_
  rintro e w1 ⟨rfl, rfl⟩
  go_wp2_with fail
  go_ret
  exact ⟨rfl, rfl⟩

set_option maxRecDepth 100000 in
set_option maxHeartbeats 8000000 in
theorem ritem_new (h : IsRef base w R A1 c1 is A2 c2 rs) (hs : SortedK Prod.fst ltI is) (id : Int) (hok : 1 ≤ id ∧ id ≤ 64) (hn : ∀ y ∈ is, isI id y = false) (hl : is.length * 16 + 16 ≤ 140737488355328) (hbw : base ≤ w.heap.size) :
    Calls Try.prog 39 #[.pointer (some ⟨R, 0, none⟩), .int .i64 id] w (ItPost base R A1 A2 c2 is rs id w) := by
    obtain ⟨h1, h2⟩ := hok
    have F := rfind_any h id (by omega)
    rw [plc_none hn] at F
    have HN := hid (show ((id, 0) : Int × Int).1 ∉ is.map Prod.fst from fun hin => by
      obtain ⟨y, hy, e⟩ := List.mem_map.1 hin
      have := hn y hy
      simp [isI] at this
      exact this e)
    have HNL := hid trivial
    have HS := hid hs
    have HF := hid F
    clear F hn hs
    obtain ⟨i0, hi, hz0, hz1, hz2⟩ := info_parts info_rg
    have c0 := h.cell0
    have HO := hid h.own1
    have HB := hid (h.blk.alloc (.cells #[.int .i64 id, .int .i64 0] 102))
    have HT := hid ((Touch.refl (RT w.heap.size R A1) w).alloc (.cells #[.int .i64 id, .int .i64 0] 102))
    have hRw : R < w.heap.size := h.blk.lt
    have hRb := h.lt
    have H := hid h
    clear h
    go_enter Try.func39, Try.ntmps39
    go_wp2_with fail
    refine HF.out.mono ?_
    rintro e w1 ⟨rfl, rfl⟩
    clear HF
    go_wp2_with (first
      | (at_builtin; refine wpList_push_at _ rfl _ _ 51 rfl base 102 i0 _ 2 16 Try.underlying51 hi hz0 hz1 hz2 rfl (by decide) _ _ _ (by rfl) HO.out #[.int .i64 id, .int .i64 0] w.heap.size (by simp) (by rfl) (by rfl) (by rfl) (by unfold maxLen; omega) (by omega) (by omega) ?_; intro v' w3 hO3 hg3 hat3
         have hB3 := HB.out.grown hg3 (fun e => by have := (HO.out.lt R e.symm).1; omega)
         have hT3 := HT.out.then (touch_row hg3 (fun k hk => .inr (.inl (by cases A1 with | none => simp [Value.ownBlock] at hk | some a => simpa [Value.ownBlock] using hk))))
         have c3 : w3.cell? ⟨R, 0, none⟩ = some (.slice A1 is.length c1) := hB3.cell 0
         have f3 := hB3.free 0
         obtain ⟨g, cap', rfl, hgR, hbg, hrt, hI0, hT4, hB4⟩ := ins_start (j := 0) (x := ((id, 0) : Int × Int)) w.heap.size hB3 hO3 hT3 hRb (fun g hg => hat3.elim (fun e => .inr (.inl (by rw [e] at hg; cases A1 with | none => simp [Value.ownBlock] at hg | some a => simpa [Value.ownBlock] using hg))) (fun e => .inr (.inr (by rw [e] at hg; injection hg with hg; omega))))
         replace hI0 := hid hI0
         replace hT4 := hid hT4
         replace hB4 := hid hB4
         clear hO3 hg3 hat3 hB3 hT3))
    clear HO HB HT c0 c3 f3 hi hz0 hz1 hz2
    obtain ⟨w4, hw4⟩ : ∃ w4, w4 = w3.setCell ⟨R, 0, none⟩ (.slice (some ⟨g, 0, none⟩) (is.length + 1) cap') := ⟨_, rfl⟩
    have hI := hI0.out
    replace hT4 := hT4.out
    replace hB4 := hB4.out
    rw [← hw4] at hI hT4 hB4 ⊢
    have hBB : Blk w4 R 54 #[.slice (some ⟨g, 0, none⟩) (is.length + 1) cap', .slice A2 rs.length c2] := by simpa using hB4
    have HT4 := hid hT4
    have HBB := hid hBB
    clear hw4 hI0 hT4 hB4 hBB
    go_loopw [6] (fun i wr => ∃ k : Nat, k ≤ is.length ∧ i = .int .i64 k ∧ Hid (Behind Prod.fst ltI is ((id, 0) : Int × Int) k) ∧ InsRow en2 2 102 base g cap' w4 (midK is ((id, 0) : Int × Int) k) wr) (fun i _ => nOf i)
    case atStart => exact ⟨is.length, Nat.le_refl _, by go_num, hid behind_end, hI⟩
    case round =>
      clear hI
      obtain ⟨k, hk, rfl, hP, hI⟩ := hrel
      have hln := midK_len (z := ((id, 0) : Int × Int)) hk
      obtain ⟨n1, hn1⟩ : ∃ n1, n1 = is.length + 1 := ⟨_, rfl⟩
      have c0 : wr.cell? ⟨R, 0, none⟩ = some (.slice (some ⟨g, 0, none⟩) n1 cap') := by rw [hn1]; exact (hI.touch.blk HBB.out (fun e => hgR e.symm)).cell 0
      have lR : R < wr.heap.size := (hI.touch.blk HBB.out (fun e => hgR e.symm)).lt
      have hkn : k < n1 := by omega
      have hn2 : n1 ≤ 140737488355328 := by omega
      have e2 := hI.elem en2_len (midK_here hk)
      have lg : g < wr.heap.size := e2.1
      have q0 : wr.cell? ⟨g, k * 2, none⟩ = some (.int .i64 id) := e2.2 0 _ rfl
      have q1 : wr.cell? ⟨g, k * 2 + 1, none⟩ = some (.int .i64 0) := e2.2 1 _ rfl
      have HEX : Hid (∀ w', (∀ y, 0 < k → is[k - 1]? = some y → ltI (Prod.fst ((id, 0) : Int × Int)) (Prod.fst y) = false) → Below wr.heap.size wr w' → ItPost base R A1 A2 c2 is rs id w (.returned (.int .i64 0)) w') := hid (fun w' hf hb => by
        have hI' := hI.next hb
        rw [midK_done linI HS.out HN.out hk hP.out hf] at hI'
        obtain ⟨a1, a2⟩ := H.out.ins1 hI' (by rw [insK_length]; exact HBB.out) HT4.out hrt hgR HNL.out
        exact ⟨_, _, rfl, a1, a2⟩)
      by_cases hk0 : 0 < k
      · obtain ⟨y, hy⟩ : ∃ y, is[k - 1]? = some y := ⟨is[k - 1], List.getElem?_eq_getElem (by omega)⟩
        have e1 := hI.elem en2_len (k := k - 1) (y := y) (by rw [midK_at hk0 hk]; exact hy)
        have hkw : IntKind.i64.wrap ((k : Int) - 1) = ((k - 1 : Nat) : Int) := by rw [IntWalk.i64_in _ ⟨by omega, by omega⟩]; omega
        have hkl : k - 1 < n1 := by omega
        have HY := hid hy
        obtain ⟨yi, yl⟩ := y
        have p0 : wr.cell? ⟨g, (k - 1) * 2, none⟩ = some (.int .i64 yi) := e1.2 0 _ rfl
        have p1 : wr.cell? ⟨g, (k - 1) * 2 + 1, none⟩ = some (.int .i64 yl) := e1.2 1 _ rfl
        clear e1 e2 hy
        by_cases hlt : id < yi
        · have HP2 := hid (behind_step hP.out hk0 HY.out (by simp [ltI, hlt]))
          have HS2 := hid (midK_step (z := ((id, 0) : Int × Int)) hk0 hk HY.out)
          have HLN := hid hln
          have HI := hid hI
          have HN1 := hid hn1
          clear hI hln hn1
          go_wp2_with fail
          go_quiet (fail)
          obtain ⟨wd, hwd, hIDs, d0, dR, dG, r0, r1, s0, s1⟩ : ∃ wd, wd = wr.drewN nq ∧ Hid (InsRow en2 2 102 base g cap' w4 (midK is ((id, 0) : Int × Int) k) wd) ∧ wd.cell? ⟨R, 0, none⟩ = some (.slice (some ⟨g, 0, none⟩) n1 cap') ∧ R < wd.heap.size ∧ g < wd.heap.size ∧ wd.cell? ⟨g, k * 2, none⟩ = some (.int .i64 id) ∧ wd.cell? ⟨g, k * 2 + 1, none⟩ = some (.int .i64 0) ∧ wd.cell? ⟨g, (k - 1) * 2, none⟩ = some (.int .i64 yi) ∧ wd.cell? ⟨g, (k - 1) * 2 + 1, none⟩ = some (.int .i64 yl) := ⟨_, rfl, hid (HI.out.next (below_drewN (Below.refl _ _) nq)), c0, lR, lg, q0, q1, p0, p1⟩
          rw [← hwd]
          clear hwd HI c0 lR lg q0 q1 p0 p1 HEX
          have hbx : Below wd.heap.size wd (wd.alloc (.cells #[.int .i64 id, .int .i64 0] 102)) := (Below.refl _ _).alloc (Nat.le_refl _) _
          have hGx := Blk.new wd 102 #[.int .i64 id, .int .i64 0]
          replace hbx := hid hbx
          replace hGx := hid hGx
          go_wp2_with fail
          obtain ⟨wx, hwx⟩ : ∃ wx, wx = wd.alloc (.cells #[.int .i64 id, .int .i64 0] 102) := ⟨_, rfl⟩
          rw [← hwx] at hbx hGx ⊢
          obtain ⟨G, hG⟩ : ∃ G, G = wd.heap.size := ⟨_, rfl⟩
          have hgG : g ≠ G := by omega
          have hRG : R ≠ G := by omega
          rw [← hG] at hGx ⊢
          have hIx := hIDs.out.next hbx.out
          have c0 : wx.cell? ⟨R, 0, none⟩ = some (.slice (some ⟨g, 0, none⟩) n1 cap') := (hbx.out.cell (p := ⟨R, 0, none⟩) dR).trans d0
          have lR : R < wx.heap.size := Nat.lt_of_lt_of_le dR hbx.out.size
          have lg : g < wx.heap.size := Nat.lt_of_lt_of_le dG hbx.out.size
          have q0 : wx.cell? ⟨g, k * 2, none⟩ = some (.int .i64 id) := (hbx.out.cell (p := ⟨g, k * 2, none⟩) dG).trans r0
          have q1 : wx.cell? ⟨g, k * 2 + 1, none⟩ = some (.int .i64 0) := (hbx.out.cell (p := ⟨g, k * 2 + 1, none⟩) dG).trans r1
          have p0 : wx.cell? ⟨g, (k - 1) * 2, none⟩ = some (.int .i64 yi) := (hbx.out.cell (p := ⟨g, (k - 1) * 2, none⟩) dG).trans s0
          have p1 : wx.cell? ⟨g, (k - 1) * 2 + 1, none⟩ = some (.int .i64 yl) := (hbx.out.cell (p := ⟨g, (k - 1) * 2 + 1, none⟩) dG).trans s1
          have f0 := hIx.free (k * 2)
          have f1 := hIx.free (k * 2 + 1)
          have hJ := (hIx.put en2_len (k := k) (by have := HLN.out; omega) ((yi, yl) : Int × Int)).drew
          have hGJ := hid (((Touch.of_grown (own_storeMany hIx.own (k * 2) (en2 ((yi, yl) : Int × Int))).2).blk hGx.out (fun e => hgG e.symm)).next (below_drewN (Below.refl _ _) 1))
          have hJ2 := hid (show InsRow en2 2 102 base g cap' w4 ((midK is ((id, 0) : Int × Int) k).set k ((yi, yl) : Int × Int)) _ from hJ)
          clear hwx hG hIDs hIx hJ d0 dR dG r0 r1 s0 s1
          refine wp_tail 14 (by kernel_rfl) (by kernel_rfl) ?_
          simp only [List.take_succ_cons, List.take_zero, List.drop_succ_cons, List.drop_zero]
          repeat still_step
          refine wpStill_nil ?_
          go_wp2_with fail
          obtain ⟨wy, hwy⟩ : ∃ wy, wy = ((wx.setCell ⟨g, k * 2, none⟩ (.int .i64 yi)).setCell ⟨g, k * 2 + 1, none⟩ (.int .i64 yl)).drew := ⟨_, rfl⟩
          have hJy : InsRow en2 2 102 base g cap' w4 ((midK is ((id, 0) : Int × Int) k).set k ((yi, yl) : Int × Int)) wy := by rw [hwy]; exact hJ2.out
          have hGy : Blk wy G 102 #[.int .i64 id, .int .i64 0] := by rw [hwy]; exact hGJ.out
          rw [← hwy]
          clear hwy hJ2 hGJ c0 lR lg q0 q1 p0 p1 f0 f1 hbx hGx
          have c0 : wy.cell? ⟨R, 0, none⟩ = some (.slice (some ⟨g, 0, none⟩) n1 cap') := by rw [HN1.out]; exact (hJy.touch.blk HBB.out (fun e => hgR e.symm)).cell 0
          have lR : R < wy.heap.size := (hJy.touch.blk HBB.out (fun e => hgR e.symm)).lt
          have e1 := hJy.elem en2_len (k := k - 1) (y := ((yi, yl) : Int × Int)) (by rw [List.getElem?_set_ne (by omega), midK_at hk0 hk]; exact HY.out)
          have lg : g < wy.heap.size := e1.1
          have p0 : wy.cell? ⟨g, (k - 1) * 2, none⟩ = some (.int .i64 yi) := e1.2 0 _ rfl
          have p1 : wy.cell? ⟨g, (k - 1) * 2 + 1, none⟩ = some (.int .i64 yl) := e1.2 1 _ rfl
          have g0 : wy.cell? ⟨G, 0, none⟩ = some (.int .i64 id) := hGy.cell 0
          have g1 : wy.cell? ⟨G, 1, none⟩ = some (.int .i64 0) := hGy.cell 1
          have f0 := hJy.free ((k - 1) * 2)
          have f1 := hJy.free ((k - 1) * 2 + 1)
          have hJz := (hJy.put en2_len (k := k - 1) (by rw [List.length_set]; have := HLN.out; omega) ((id, 0) : Int × Int)).drew
          rw [HS2.out] at hJz
          replace hJz := hid hJz
          clear e1 hJy hGy
          refine wp_tail 8 (by kernel_rfl) (by kernel_rfl) ?_
          simp only [List.take_succ_cons, List.take_zero, List.drop_succ_cons, List.drop_zero]
          repeat still_step
          refine wpStill_nil ?_
          clear hkw
          go_wp2_with fail
          go_roundw
          case rel => exact ⟨k - 1, by omega, by congr 1; omega, HP2, hJz.out⟩
          case measure => simp [nOf]; omega
        · have hd : decide (id < yi) = false := decide_eq_false hlt
          have HX2 := hid (fun n => HEX.out (wr.drewN n) (fun y hy0 hy1 => by rw [HY.out] at hy1; injection hy1 with hy1; subst hy1; simp [ltI, hlt]) (below_drewN (Below.refl _ _) n))
          clear hlt hI hln hn1 HEX
          go_wp2_with fail
          go_quiet (fail)
          go_wp2_with fail
          go_ret
          exact HX2.out _
      · have hd : decide (0 < k) = false := decide_eq_false hk0
        have HX2 := hid (fun n => HEX.out (wr.drewN n) (fun y hy0 hy1 => absurd hy0 hk0) (below_drewN (Below.refl _ _) n))
        clear HEX hI hln hn1 e2
        go_wp2_with fail
        go_quiet (fail)
        go_wp2_with fail
        go_ret
        exact HX2.out _
end

end Go.Proofs.Ythfaaimmfdidnaa
