/-
  The document's book of money: Find, OpenOf, Put (its loop is printed by gen_chr.py).
-/
import Derived.Test.YthdmbbfppgenlaaGreatChAl
import Derived.Test.YthdmbbfppgenlaaGreatIns
import Derived.Test.YthdmbbfppgenlaaGreatPlc
import Derived.Deep.RegionHeldLaw
import Derived.Deep.RegionLaw
import Derived.Deep.AppendLies
namespace Go.Proofs.YthdmbbfppgenlaaGreat
open Go.RowKit Go.WideShapes Go.ChangeShapes Go.ChangeAt Go.Deep
set_option linter.unusedVariables false

theorem info_rc : (Tryz.prog.info? 47).map (fun i => (i.zero, i.size, i.bytes)) = some (some (.agg #[.int .i64 0, .int .i64 0, .int .i64 0, .int .i64 0, .int .i64 0, .int .i64 0, .int .i64 0, .int .i64 0, .int .i64 0]), 9, 72) := by kernel_rfl
/-- The document's book at block R. -/
structure IsRf (base : Nat) (w : World) (R : Nat) (A : Option Addr) (cap : Nat) (L : List Ca) (d : Int) : Prop where
  blk : Blk w R 95 #[.slice A L.length cap, .int .i64 d]
  own : w.ownsRow base 47 9 (.slice A L.length cap) L.length (L.flatMap enC9)
  lt : R < base
theorem ins_start {α : Type} {enc : α → List Value} {s : Nat} {t tb : TypeId} {base R j : Nat} {A : Option Addr} {r : List α} {x : α} {w0 w3 : World} {v' : Value} {cs : Array Value} (n : Nat)
    (h3 : Blk w3 R tb cs) (hO : w3.ownsRow base t s v' (r.length + 1) (r.flatMap enc ++ enc x)) (hT : Touch (RT n R A) w0 w3) (hlt : R < base) (hloc : ∀ g, v'.ownBlock = some g → RT n R A g) :
    ∃ g cap', v' = .slice (some ⟨g, 0, none⟩) (r.length + 1) cap' ∧ g ≠ R ∧ base ≤ g ∧ RT n R A g ∧ InsRow enc s t base g cap' (w3.setCell ⟨R, j, none⟩ (.slice (some ⟨g, 0, none⟩) (r.length + 1) cap')) (midK r x r.length) (w3.setCell ⟨R, j, none⟩ (.slice (some ⟨g, 0, none⟩) (r.length + 1) cap')) ∧
      Touch (RT n R A) w0 (w3.setCell ⟨R, j, none⟩ (.slice (some ⟨g, 0, none⟩) (r.length + 1) cap')) ∧ Blk (w3.setCell ⟨R, j, none⟩ (.slice (some ⟨g, 0, none⟩) (r.length + 1) cap')) R tb (cs.setIfInBounds j (.slice (some ⟨g, 0, none⟩) (r.length + 1) cap')) := by
  have e : r.flatMap enc ++ enc x = (r ++ [x]).flatMap enc := by simp
  rw [e] at hO
  have hO' : w3.ownsRow base t s v' (r ++ [x]).length ((r ++ [x]).flatMap enc) := by simpa using hO
  obtain ⟨g, cap', rfl, hbg, hgl⟩ := own_form hO' (by simp)
  have hl : (r ++ [x]).length = r.length + 1 := by simp
  rw [hl] at hloc ⊢
  have hne : g ≠ R := by omega
  have hg : w3.grownBy (w3.setCell ⟨R, j, none⟩ (.slice (some ⟨g, 0, none⟩) (r.length + 1) cap')) (some R) := ⟨rfl, rfl, rfl, by simp, fun k _ hk => heap_setCell_other w3 ⟨R, j, none⟩ k _ (fun e => hk (by simp [e]))⟩
  refine ⟨g, cap', rfl, hne, hbg, hloc g rfl, ⟨?_, Touch.refl _ _⟩, hT.then ((Touch.setCell w3 R j _).mono (fun k hk => .inl hk)), h3.set_ j _⟩
  rw [midK_end]
  have := hO'.kept hg (.inr (by simp [Value.ownBlock]; exact hne))
  exact this

def isO (o : Int) (y : Ca) : Bool := y.o == o

section
variable {base R cap : Nat} {A : Option Addr} {L : List Ca} {d : Int} {w w' w4 wr : World}
theorem IsRf.next (h : IsRf base w R A cap L d) (hb : Below w.heap.size w w') : IsRf base w' R A cap L d :=
  ⟨h.blk.next hb, h.own.kept (grown_of_below hb none) (by cases hv : (Value.slice A L.length cap).ownBlock <;> simp), h.lt⟩
theorem IsRf.alloc (h : IsRf base w R A cap L d) (o : Obj) : IsRf base (w.alloc o) R A cap L d := h.next ((Below.refl _ _).alloc (Nat.le_refl _) o)
theorem IsRf.elem (h : IsRf base w R A cap L d) {k : Nat} {y : Ca} (hk : L[k]? = some y) : ∃ g, A = some ⟨g, 0, none⟩ ∧ base ≤ g ∧ CellsAt w g (k * 9) (enC9 y) := by
  have hkl := (List.getElem?_eq_some_iff.1 hk).1
  obtain ⟨g, cap', e, hb, hlt⟩ := own_form h.own (by omega)
  injection e with e1 e2 e3
  subst e1 e3
  exact ⟨g, rfl, hb, hlt, fun j u hu => own_cells enC9_len h.own hk hu⟩
theorem IsRf.ins2 {g cap' : Nat} {l : List Ca} (h : IsRf base w R A cap L d) (hI : InsRow enC9 9 47 base g cap' w4 l wr) (hB : Blk w4 R 95 #[.slice (some ⟨g, 0, none⟩) l.length cap', .int .i64 d])
    (hT : Touch (RT w.heap.size R A) w w4) (hg : RT w.heap.size R A g) (hgR : g ≠ R) : IsRf base wr R (some ⟨g, 0, none⟩) cap' l d ∧ Touch (RT w.heap.size R A) w wr :=
  ⟨⟨hI.touch.blk hB (fun e => hgR e.symm), hI.own, h.lt⟩, hT.then (hI.touch.mono (fun k hk => by subst hk; exact hg))⟩

set_option maxRecDepth 100000 in
set_option maxHeartbeats 4000000 in
theorem rfind_any (h : IsRf base w R A cap L d) (o : Int) (hl : L.length ≤ 140737488355328) :
    Calls Tryz.prog 92 #[.pointer (some ⟨R, 0, none⟩), .int .i64 o] w fun e w' => e = .returned (.int .i64 (plc (isO o) L)) ∧ w = w' := by
  go_enter Tryz.func92, Tryz.ntmps92
  go_wp2_with fail
  go_loop [5] (fun i => ∃ k : Nat, k ≤ L.length ∧ i = .int .i64 k ∧ Hid (∀ j y, j < k → L[j]? = some y → isO o y = false)) (fun i => L.length - nOf i)
  case atStart => exact ⟨0, Nat.zero_le _, rfl, hid (fun j y hj => by omega)⟩
  case round =>
    obtain ⟨k, hk, rfl, hP⟩ := hrel
    have c0 : w.cell? ⟨R, 0, none⟩ = some (.slice A L.length cap) := h.blk.cell 0
    by_cases hlt : k < L.length
    · obtain ⟨y, hy⟩ : ∃ y, L[k]? = some y := ⟨L[k], List.getElem?_eq_getElem hlt⟩
      obtain ⟨g, rfl, _, hpr⟩ := h.elem hy
      have HY := hid hy
      obtain ⟨yo, yc, yst, ylv, ynet, ytax, yap, ywr, ydep⟩ := y
      have p0 : w.cell? ⟨g, k * 9, none⟩ = some (.int .i64 yo) := hpr.2 0 _ rfl
      clear hy hpr
      by_cases e : yo = o
      · subst e
        have HV := hid (plc_some (p := isO yo) HY.out (by simp [isO]) hP.out)
        clear hP HY
        go_wp2_with fail
        go_ret
        rw [HV.out]; exact ⟨rfl, rfl⟩
      · have b2 : (yo == o) = false := by simpa using e
        have HN := hid (show isO o (⟨yo, yc, yst, ylv, ynet, ytax, yap, ywr, ydep⟩ : Ca) = false from by simpa [isO] using e)
        clear e
        go_wp2_with fail
        go_round
        case rel => exact ⟨k + 1, by omega, by go_num, hid (fun j z hj hz => by
          by_cases e : j = k
          · subst e; rw [HY.out] at hz; injection hz with hz; subst hz; exact HN.out
          · exact hP.out j z (by omega) hz)⟩
        case measure => simp [nOf]; omega
    · have HV := hid (plc_none (p := isO o) (l := L) (fun y hy => by
        obtain ⟨j, hj⟩ := List.mem_iff_getElem?.1 hy
        exact hP.out j y (by have := (List.getElem?_eq_some_iff.1 hj).1; omega) hj))
      clear hP
      go_wp2_with fail
      go_ret
      rw [HV.out]; exact ⟨rfl, rfl⟩
set_option maxRecDepth 100000 in
theorem ropen_any (a : Ca) (w : World) (hs : SmallC a) : Calls Tryz.prog 49 #[.agg (celC a)] w fun e w' => e = .returned (.int .i64 (openC a)) ∧ Below w.heap.size w w' := by
  obtain ⟨o, c, st, lv, net, tax, ap, wr, dep⟩ := a
  obtain ⟨⟨a1, a2⟩, ⟨b1, b2⟩, ⟨c1, c2⟩, ⟨d1, d2⟩⟩ := hs
  simp only [celC, openC] at *
  by_cases h : st = 1
  · subst h
    rw [if_pos rfl]
    go_enter Tryz.func49, Tryz.ntmps49
    go_wp2_with fail
    go_ret
    exact ⟨rfl, (Below.refl _ _).alloc (Nat.le_refl _) _⟩
  · rw [if_neg h]
    have t1 : (st != 1) = true := by simpa using h
    clear h a1 a2 b1 b2 c1 c2 d1 d2
    go_enter Tryz.func49, Tryz.ntmps49
    go_wp2_with fail
    go_ret
    exact ⟨rfl, (Below.refl _ _).alloc (Nat.le_refl _) _⟩

/-- What Put leaves. -/
def PutC (base R : Nat) (A : Option Addr) (L : List Ca) (a : Ca) (d : Int) (w : World) (e : Ending) (w' : World) : Prop :=
  ∃ A' cap' L', e = .returned (.tuple #[]) ∧ IsRf base w' R A' cap' L' d ∧ (a.o ∈ L.map Ca.o → L' = updK Ca.o L a) ∧ (a.o ∉ L.map Ca.o → L' = insK Ca.o ltI L a) ∧ Touch (RT w.heap.size R A) w w'

set_option maxRecDepth 100000 in
set_option maxHeartbeats 16000000 in
theorem rputn_any (h : IsRf base w R A cap L d) (hs : SortedK Ca.o ltI L) (a : Ca) (hn : a.o ∉ L.map Ca.o) (hl : L.length * 72 + 72 ≤ 140737488355328) (hbw : base ≤ w.heap.size) :
    Calls Tryz.prog 101 #[.pointer (some ⟨R, 0, none⟩), .agg (celC a)] w (PutC base R A L a d w) := by
    obtain ⟨zo, zc, zst, zlv, znet, ztax, zap, zwr, zdep⟩ := a
    have HN := hid (show (⟨zo, zc, zst, zlv, znet, ztax, zap, zwr, zdep⟩ : Ca).o ∉ L.map Ca.o from hn)
    have HS := hid hs
    have hpl : plc (isO zo) L = -1 := plc_none (fun y hy => by
      have : y.o ≠ zo := fun e => hn (by simp only; rw [← e]; exact List.mem_map_of_mem hy)
      simpa [isO] using this)
    clear hn hs
    simp only [celC]
    obtain ⟨i0, hi, hz0, hz1, hz2⟩ := info_parts info_rc
    obtain ⟨wz, hwz⟩ : ∃ wz, wz = w.alloc (.cells #[.int .i64 zo, .int .i64 zc, .int .i64 zst, .int .i64 zlv, .int .i64 znet, .int .i64 ztax, .int .i64 zap, .int .i64 zwr, .int .i64 zdep] 47) := ⟨_, rfl⟩
    obtain ⟨G0, hG0⟩ : ∃ G0, G0 = w.heap.size := ⟨_, rfl⟩
    have hz : IsRf base wz R A cap L d := by rw [hwz]; exact h.alloc _
    have hGz : Blk wz G0 47 #[.int .i64 zo, .int .i64 zc, .int .i64 zst, .int .i64 zlv, .int .i64 znet, .int .i64 ztax, .int .i64 zap, .int .i64 zwr, .int .i64 zdep] := by rw [hwz, hG0]; exact Blk.new _ _ _
    have hTz : Touch (RT w.heap.size R A) w wz := by rw [hwz]; exact (Touch.refl _ _).alloc _
    have F := hid (rfind_any hz zo (by omega))
    rw [hpl] at F
    have HW := hid hwz
    have HG := hid hG0
    have hRw : R < w.heap.size := h.blk.lt
    have hRG : R ≠ G0 := by omega
    have hRb := h.lt
    have hbz : base ≤ wz.heap.size := Nat.le_trans hbw hTz.size
    have H := hid h
    clear h hwz hG0 hpl
    go_enter Tryz.func101, Tryz.ntmps101
    go_wp2_with fail
    rw [← HW.out, ← HG.out]
    refine F.out.mono ?_
    rintro e w1 ⟨rfl, rfl⟩
    have c0 : wz.cell? ⟨R, 0, none⟩ = some (.slice A L.length cap) := hz.blk.cell 0
    have g0 : wz.cell? ⟨G0, 0, none⟩ = some (.int .i64 zo) := hGz.cell 0
    have g1 : wz.cell? ⟨G0, 1, none⟩ = some (.int .i64 zc) := hGz.cell 1
    have g2 : wz.cell? ⟨G0, 2, none⟩ = some (.int .i64 zst) := hGz.cell 2
    have g3 : wz.cell? ⟨G0, 3, none⟩ = some (.int .i64 zlv) := hGz.cell 3
    have g4 : wz.cell? ⟨G0, 4, none⟩ = some (.int .i64 znet) := hGz.cell 4
    have g5 : wz.cell? ⟨G0, 5, none⟩ = some (.int .i64 ztax) := hGz.cell 5
    have g6 : wz.cell? ⟨G0, 6, none⟩ = some (.int .i64 zap) := hGz.cell 6
    have g7c : wz.cell? ⟨G0, 7, none⟩ = some (.int .i64 zwr) := hGz.cell 7
    have g8 : wz.cell? ⟨G0, 8, none⟩ = some (.int .i64 zdep) := hGz.cell 8
    have lR : R < wz.heap.size := hz.blk.lt
    have lG : G0 < wz.heap.size := hGz.lt
    have hO := hid (((hz.next (below_drewN (Below.refl _ _) 1)).own).alloc (.cells #[.int .i64 zo, .int .i64 zc, .int .i64 zst, .int .i64 zlv, .int .i64 znet, .int .i64 ztax, .int .i64 zap, .int .i64 zwr, .int .i64 zdep] 47))
    have hRk := (hz.next (below_drewN (Below.refl _ _) 1)).blk.alloc (.cells #[.int .i64 zo, .int .i64 zc, .int .i64 zst, .int .i64 zlv, .int .i64 znet, .int .i64 ztax, .int .i64 zap, .int .i64 zwr, .int .i64 zdep] 47)
    have hT := hid (hTz.drew.alloc (.cells #[.int .i64 zo, .int .i64 zc, .int .i64 zst, .int .i64 zlv, .int .i64 znet, .int .i64 ztax, .int .i64 zap, .int .i64 zwr, .int .i64 zdep] 47))
    have HL2 := hid (show some R ≠ (Value.slice A L.length cap).ownBlock from fun e => by have := (H.out.own.lt R e.symm).1; omega)
    have hwsz := hTz.size
    clear hz hGz hTz F
    go_wp2_with fail
    go_region_law ((refine step_append_lies _ (by rfl) _ _ _ (by rfl) base 47 i0 _ 9 72 Tryz.underlying45 hi hz0 hz1 hz2 rfl (by decide) _ _ _ (by rfl) hO.out ⟨wz.heap.size, 0, none⟩ 1 1 [.int .i64 zo, .int .i64 zc, .int .i64 zst, .int .i64 zlv, .int .i64 znet, .int .i64 ztax, .int .i64 zap, .int .i64 zwr, .int .i64 zdep] (by rfl) (by rfl) (World.news_of_block (heap_alloc_new _ _)) (enC9_one (⟨zo, zc, zst, zlv, znet, ztax, zap, zwr, zdep⟩ : Ca)) (by omega) (by unfold maxLen; omega) (by omega) (by simp; omega) _ rfl ?_; intro g7 cap7 w7 hO7 hg7 hat7 hlt7; have hB7 := hRk.grown hg7 HL2.out; have c7 : w7.cell? ⟨R, 0, none⟩ = some (.slice A L.length cap) := hB7.cell 0; have f7 := hB7.free 0))
    all_goals
      have hT7 := hT.out.then (touch_row hg7 (fun k hk => .inr (.inl (by cases A with | none => simp [Value.ownBlock] at hk | some a => simpa [Value.ownBlock] using hk))))
      have hrt7 : RT w.heap.size R A g7 := by
        rcases hat7 with e | e
        · refine .inr (.inl ?_)
          cases A with
          | none => simp [Value.ownBlock] at e
          | some a => simpa [Value.ownBlock] using e
        · refine .inr (.inr ?_)
          simp at e
          omega
      obtain ⟨g, cap', e7, hgR, hbg, hrt, hI0, hT4, hB4⟩ := ins_start (j := 0) (x := (⟨zo, zc, zst, zlv, znet, ztax, zap, zwr, zdep⟩ : Ca)) (enc := enC9) w.heap.size hB7 hO7 hT7 hRb (fun g hg => by
        have hg' : g7 = g := by simpa [Value.ownBlock] using hg
        subst hg'
        exact hrt7)
      injection e7 with e8 e9 e10
      injection e8 with e8
      injection e8 with e8
      subst e8 e10
      obtain ⟨w4, hw4⟩ : ∃ w4, w4 = w7.setCell ⟨R, 0, none⟩ (.slice (some ⟨g7, 0, none⟩) (L.length + 1) cap7) := ⟨_, rfl⟩
      rw [← hw4] at hI0 hT4 hB4 ⊢
      have hBB : Blk w4 R 95 #[.slice (some ⟨g7, 0, none⟩) (L.length + 1) cap7, .int .i64 d] := by simpa using hB4
      obtain ⟨g, hgg⟩ : ∃ g, g = g7 := ⟨_, rfl⟩
      obtain ⟨cap', hcc⟩ : ∃ cap', cap' = cap7 := ⟨_, rfl⟩
      rw [← hgg] at hI0 hrt hgR hbg hBB ⊢
      rw [← hcc] at hI0 hBB ⊢
      have c4 : w4.cell? ⟨R, 0, none⟩ = some (.slice (some ⟨g, 0, none⟩) (L.length + 1) cap') := hBB.cell 0
      have lR4 : R < w4.heap.size := hBB.lt
      have HT4 := hid hT4
      have HBB := hid hBB
      have hI := hid hI0
      clear hw4 hI0 hT4 hB4 hBB hT7 hO7 hg7 hat7 hlt7 hB7 c7 f7 hgg hcc c0 g0 g1 g2 g3 g4 g5 g6 g7c g8 lR lG hO hRk hT HL2
      go_wp2_with fail
      replace hI := hI.out
      clear c4 lR4
      go_loopw [5] (fun i wr => ∃ k : Nat, k ≤ L.length ∧ i = .int .i64 k ∧ Hid (Behind Ca.o ltI L (⟨zo, zc, zst, zlv, znet, ztax, zap, zwr, zdep⟩ : Ca) k) ∧ InsRow enC9 9 47 base g cap' w4 (midK L (⟨zo, zc, zst, zlv, znet, ztax, zap, zwr, zdep⟩ : Ca) k) wr) (fun i _ => nOf i)
      case atStart => exact ⟨L.length, Nat.le_refl _, by go_num, hid behind_end, hI⟩
      case round =>
        clear hI
        obtain ⟨k, hk, rfl, hP, hI⟩ := hrel
        have hln := midK_len (z := (⟨zo, zc, zst, zlv, znet, ztax, zap, zwr, zdep⟩ : Ca)) hk
        obtain ⟨n1, hn1⟩ : ∃ n1, n1 = L.length + 1 := ⟨_, rfl⟩
        have c0 : wr.cell? ⟨R, 0, none⟩ = some (.slice (some ⟨g, 0, none⟩) n1 cap') := by rw [hn1]; exact (hI.touch.blk HBB.out (fun e => hgR e.symm)).cell 0
        have lR : R < wr.heap.size := (hI.touch.blk HBB.out (fun e => hgR e.symm)).lt
        have hkn : k < n1 := by omega
        have hn2 : n1 ≤ 140737488355328 := by omega
        have e2 := hI.elem enC9_len (midK_here hk)
        have lg : g < wr.heap.size := e2.1
        have q0 : wr.cell? ⟨g, k * 9, none⟩ = some (.int .i64 zo) := e2.2 0 _ rfl
        have q1 : wr.cell? ⟨g, k * 9 + 1, none⟩ = some (.int .i64 zc) := e2.2 1 _ rfl
        have q2 : wr.cell? ⟨g, k * 9 + 2, none⟩ = some (.int .i64 zst) := e2.2 2 _ rfl
        have q3 : wr.cell? ⟨g, k * 9 + 3, none⟩ = some (.int .i64 zlv) := e2.2 3 _ rfl
        have q4 : wr.cell? ⟨g, k * 9 + 4, none⟩ = some (.int .i64 znet) := e2.2 4 _ rfl
        have q5 : wr.cell? ⟨g, k * 9 + 5, none⟩ = some (.int .i64 ztax) := e2.2 5 _ rfl
        have q6 : wr.cell? ⟨g, k * 9 + 6, none⟩ = some (.int .i64 zap) := e2.2 6 _ rfl
        have q7 : wr.cell? ⟨g, k * 9 + 7, none⟩ = some (.int .i64 zwr) := e2.2 7 _ rfl
        have q8 : wr.cell? ⟨g, k * 9 + 8, none⟩ = some (.int .i64 zdep) := e2.2 8 _ rfl
        have HEX : Hid (∀ w', (∀ y, 0 < k → L[k - 1]? = some y → ltI (Ca.o (⟨zo, zc, zst, zlv, znet, ztax, zap, zwr, zdep⟩ : Ca)) (Ca.o y) = false) → Below wr.heap.size wr w' → PutC base R A L (⟨zo, zc, zst, zlv, znet, ztax, zap, zwr, zdep⟩ : Ca) d w (.returned (.tuple #[])) w') := hid (fun w' hf hb => by
          have hI' := hI.next hb
          rw [midK_done linI HS.out HN.out hk hP.out hf] at hI'
          obtain ⟨a1, a2⟩ := H.out.ins2 hI' (by rw [insK_length]; exact HBB.out) HT4.out hrt hgR
          exact ⟨_, _, _, rfl, a1, fun hh => absurd hh HN.out, fun _ => rfl, a2⟩)
        by_cases hk0 : 0 < k
        · obtain ⟨y, hy⟩ : ∃ y, L[k - 1]? = some y := ⟨L[k - 1], List.getElem?_eq_getElem (by omega)⟩
          have e1 := hI.elem enC9_len (k := k - 1) (y := y) (by rw [midK_at hk0 hk]; exact hy)
          have hkw : IntKind.i64.wrap ((k : Int) - 1) = ((k - 1 : Nat) : Int) := by rw [IntWalk.i64_in _ ⟨by omega, by omega⟩]; omega
          have hkl : k - 1 < n1 := by omega
          have HY := hid hy
          obtain ⟨yo, yc, yst, ylv, ynet, ytax, yap, ywr, ydep⟩ := y
          have p0 : wr.cell? ⟨g, (k - 1) * 9, none⟩ = some (.int .i64 yo) := e1.2 0 _ rfl
          have p1 : wr.cell? ⟨g, (k - 1) * 9 + 1, none⟩ = some (.int .i64 yc) := e1.2 1 _ rfl
          have p2 : wr.cell? ⟨g, (k - 1) * 9 + 2, none⟩ = some (.int .i64 yst) := e1.2 2 _ rfl
          have p3 : wr.cell? ⟨g, (k - 1) * 9 + 3, none⟩ = some (.int .i64 ylv) := e1.2 3 _ rfl
          have p4 : wr.cell? ⟨g, (k - 1) * 9 + 4, none⟩ = some (.int .i64 ynet) := e1.2 4 _ rfl
          have p5 : wr.cell? ⟨g, (k - 1) * 9 + 5, none⟩ = some (.int .i64 ytax) := e1.2 5 _ rfl
          have p6 : wr.cell? ⟨g, (k - 1) * 9 + 6, none⟩ = some (.int .i64 yap) := e1.2 6 _ rfl
          have p7 : wr.cell? ⟨g, (k - 1) * 9 + 7, none⟩ = some (.int .i64 ywr) := e1.2 7 _ rfl
          have p8 : wr.cell? ⟨g, (k - 1) * 9 + 8, none⟩ = some (.int .i64 ydep) := e1.2 8 _ rfl
          clear e1 e2 hy
          by_cases hlt : zo < yo
          · have HP2 := hid (behind_step hP.out hk0 HY.out (by simp [ltI, hlt]))
            have HS2 := hid (midK_step (z := (⟨zo, zc, zst, zlv, znet, ztax, zap, zwr, zdep⟩ : Ca)) hk0 hk HY.out)
            have HLN := hid hln
            have HI := hid hI
            have HN1 := hid hn1
            clear hI hln hn1
            go_wp2_with fail
            go_quiet (fail)
            obtain ⟨wd, hwd, hIDs, d0, dR, dG, r0, r1, r2, r3, r4, r5, r6, r7, r8, s0, s1, s2, s3, s4, s5, s6, s7, s8⟩ : ∃ wd, wd = wr.drewN nq ∧ Hid (InsRow enC9 9 47 base g cap' w4 (midK L (⟨zo, zc, zst, zlv, znet, ztax, zap, zwr, zdep⟩ : Ca) k) wd) ∧ wd.cell? ⟨R, 0, none⟩ = some (.slice (some ⟨g, 0, none⟩) n1 cap') ∧ R < wd.heap.size ∧ g < wd.heap.size ∧ wd.cell? ⟨g, k * 9, none⟩ = some (.int .i64 zo) ∧ wd.cell? ⟨g, k * 9 + 1, none⟩ = some (.int .i64 zc) ∧ wd.cell? ⟨g, k * 9 + 2, none⟩ = some (.int .i64 zst) ∧ wd.cell? ⟨g, k * 9 + 3, none⟩ = some (.int .i64 zlv) ∧ wd.cell? ⟨g, k * 9 + 4, none⟩ = some (.int .i64 znet) ∧ wd.cell? ⟨g, k * 9 + 5, none⟩ = some (.int .i64 ztax) ∧ wd.cell? ⟨g, k * 9 + 6, none⟩ = some (.int .i64 zap) ∧ wd.cell? ⟨g, k * 9 + 7, none⟩ = some (.int .i64 zwr) ∧ wd.cell? ⟨g, k * 9 + 8, none⟩ = some (.int .i64 zdep) ∧ wd.cell? ⟨g, (k - 1) * 9, none⟩ = some (.int .i64 yo) ∧ wd.cell? ⟨g, (k - 1) * 9 + 1, none⟩ = some (.int .i64 yc) ∧ wd.cell? ⟨g, (k - 1) * 9 + 2, none⟩ = some (.int .i64 yst) ∧ wd.cell? ⟨g, (k - 1) * 9 + 3, none⟩ = some (.int .i64 ylv) ∧ wd.cell? ⟨g, (k - 1) * 9 + 4, none⟩ = some (.int .i64 ynet) ∧ wd.cell? ⟨g, (k - 1) * 9 + 5, none⟩ = some (.int .i64 ytax) ∧ wd.cell? ⟨g, (k - 1) * 9 + 6, none⟩ = some (.int .i64 yap) ∧ wd.cell? ⟨g, (k - 1) * 9 + 7, none⟩ = some (.int .i64 ywr) ∧ wd.cell? ⟨g, (k - 1) * 9 + 8, none⟩ = some (.int .i64 ydep) := ⟨_, rfl, hid (HI.out.next (below_drewN (Below.refl _ _) nq)), c0, lR, lg, q0, q1, q2, q3, q4, q5, q6, q7, q8, p0, p1, p2, p3, p4, p5, p6, p7, p8⟩
            rw [← hwd]
            clear hwd HI c0 lR lg q0 q1 q2 q3 q4 q5 q6 q7 q8 p0 p1 p2 p3 p4 p5 p6 p7 p8 HEX
            have hbx : Below wd.heap.size wd (wd.alloc (.cells #[.int .i64 zo, .int .i64 zc, .int .i64 zst, .int .i64 zlv, .int .i64 znet, .int .i64 ztax, .int .i64 zap, .int .i64 zwr, .int .i64 zdep] 47)) := (Below.refl _ _).alloc (Nat.le_refl _) _
            have hGx := Blk.new wd 47 #[.int .i64 zo, .int .i64 zc, .int .i64 zst, .int .i64 zlv, .int .i64 znet, .int .i64 ztax, .int .i64 zap, .int .i64 zwr, .int .i64 zdep]
            replace hbx := hid hbx
            replace hGx := hid hGx
            go_wp2_with fail
            obtain ⟨wx, hwx⟩ : ∃ wx, wx = wd.alloc (.cells #[.int .i64 zo, .int .i64 zc, .int .i64 zst, .int .i64 zlv, .int .i64 znet, .int .i64 ztax, .int .i64 zap, .int .i64 zwr, .int .i64 zdep] 47) := ⟨_, rfl⟩
            rw [← hwx] at hbx hGx ⊢
            obtain ⟨G, hG⟩ : ∃ G, G = wd.heap.size := ⟨_, rfl⟩
            have hgG : g ≠ G := by omega
            have hRG : R ≠ G := by omega
            rw [← hG] at hGx ⊢
            have hIx := hIDs.out.next hbx.out
            have c0 : wx.cell? ⟨R, 0, none⟩ = some (.slice (some ⟨g, 0, none⟩) n1 cap') := (hbx.out.cell (p := ⟨R, 0, none⟩) dR).trans d0
            have lR : R < wx.heap.size := Nat.lt_of_lt_of_le dR hbx.out.size
            have lg : g < wx.heap.size := Nat.lt_of_lt_of_le dG hbx.out.size
            have q0 : wx.cell? ⟨g, k * 9, none⟩ = some (.int .i64 zo) := (hbx.out.cell (p := ⟨g, k * 9, none⟩) dG).trans r0
            have q1 : wx.cell? ⟨g, k * 9 + 1, none⟩ = some (.int .i64 zc) := (hbx.out.cell (p := ⟨g, k * 9 + 1, none⟩) dG).trans r1
            have q2 : wx.cell? ⟨g, k * 9 + 2, none⟩ = some (.int .i64 zst) := (hbx.out.cell (p := ⟨g, k * 9 + 2, none⟩) dG).trans r2
            have q3 : wx.cell? ⟨g, k * 9 + 3, none⟩ = some (.int .i64 zlv) := (hbx.out.cell (p := ⟨g, k * 9 + 3, none⟩) dG).trans r3
            have q4 : wx.cell? ⟨g, k * 9 + 4, none⟩ = some (.int .i64 znet) := (hbx.out.cell (p := ⟨g, k * 9 + 4, none⟩) dG).trans r4
            have q5 : wx.cell? ⟨g, k * 9 + 5, none⟩ = some (.int .i64 ztax) := (hbx.out.cell (p := ⟨g, k * 9 + 5, none⟩) dG).trans r5
            have q6 : wx.cell? ⟨g, k * 9 + 6, none⟩ = some (.int .i64 zap) := (hbx.out.cell (p := ⟨g, k * 9 + 6, none⟩) dG).trans r6
            have q7 : wx.cell? ⟨g, k * 9 + 7, none⟩ = some (.int .i64 zwr) := (hbx.out.cell (p := ⟨g, k * 9 + 7, none⟩) dG).trans r7
            have q8 : wx.cell? ⟨g, k * 9 + 8, none⟩ = some (.int .i64 zdep) := (hbx.out.cell (p := ⟨g, k * 9 + 8, none⟩) dG).trans r8
            have p0 : wx.cell? ⟨g, (k - 1) * 9, none⟩ = some (.int .i64 yo) := (hbx.out.cell (p := ⟨g, (k - 1) * 9, none⟩) dG).trans s0
            have p1 : wx.cell? ⟨g, (k - 1) * 9 + 1, none⟩ = some (.int .i64 yc) := (hbx.out.cell (p := ⟨g, (k - 1) * 9 + 1, none⟩) dG).trans s1
            have p2 : wx.cell? ⟨g, (k - 1) * 9 + 2, none⟩ = some (.int .i64 yst) := (hbx.out.cell (p := ⟨g, (k - 1) * 9 + 2, none⟩) dG).trans s2
            have p3 : wx.cell? ⟨g, (k - 1) * 9 + 3, none⟩ = some (.int .i64 ylv) := (hbx.out.cell (p := ⟨g, (k - 1) * 9 + 3, none⟩) dG).trans s3
            have p4 : wx.cell? ⟨g, (k - 1) * 9 + 4, none⟩ = some (.int .i64 ynet) := (hbx.out.cell (p := ⟨g, (k - 1) * 9 + 4, none⟩) dG).trans s4
            have p5 : wx.cell? ⟨g, (k - 1) * 9 + 5, none⟩ = some (.int .i64 ytax) := (hbx.out.cell (p := ⟨g, (k - 1) * 9 + 5, none⟩) dG).trans s5
            have p6 : wx.cell? ⟨g, (k - 1) * 9 + 6, none⟩ = some (.int .i64 yap) := (hbx.out.cell (p := ⟨g, (k - 1) * 9 + 6, none⟩) dG).trans s6
            have p7 : wx.cell? ⟨g, (k - 1) * 9 + 7, none⟩ = some (.int .i64 ywr) := (hbx.out.cell (p := ⟨g, (k - 1) * 9 + 7, none⟩) dG).trans s7
            have p8 : wx.cell? ⟨g, (k - 1) * 9 + 8, none⟩ = some (.int .i64 ydep) := (hbx.out.cell (p := ⟨g, (k - 1) * 9 + 8, none⟩) dG).trans s8
            have f0 := hIx.free (k * 9)
            have f1 := hIx.free (k * 9 + 1)
            have f2 := hIx.free (k * 9 + 2)
            have f3 := hIx.free (k * 9 + 3)
            have f4 := hIx.free (k * 9 + 4)
            have f5 := hIx.free (k * 9 + 5)
            have f6 := hIx.free (k * 9 + 6)
            have f7 := hIx.free (k * 9 + 7)
            have f8 := hIx.free (k * 9 + 8)
            have hJ := (hIx.put enC9_len (k := k) (by have := HLN.out; omega) (⟨yo, yc, yst, ylv, ynet, ytax, yap, ywr, ydep⟩ : Ca)).drew
            have hGJ := hid (((Touch.of_grown (own_storeMany hIx.own (k * 9) (enC9 (⟨yo, yc, yst, ylv, ynet, ytax, yap, ywr, ydep⟩ : Ca))).2).blk hGx.out (fun e => hgG e.symm)).next (below_drewN (Below.refl _ _) 1))
            have hJ2 := hid (show InsRow enC9 9 47 base g cap' w4 ((midK L (⟨zo, zc, zst, zlv, znet, ztax, zap, zwr, zdep⟩ : Ca) k).set k (⟨yo, yc, yst, ylv, ynet, ytax, yap, ywr, ydep⟩ : Ca)) _ from hJ)
            clear hwx hG hIDs hIx hJ d0 dR dG r0 r1 r2 r3 r4 r5 r6 r7 r8 s0 s1 s2 s3 s4 s5 s6 s7 s8
            refine wp_tail 14 (by kernel_rfl) (by kernel_rfl) ?_
            simp only [List.take_succ_cons, List.take_zero, List.drop_succ_cons, List.drop_zero]
            repeat still_step
            refine wpStill_nil ?_
            go_wp2_with fail
            obtain ⟨wy, hwy⟩ : ∃ wy, wy = (((((((((wx.setCell ⟨g, k * 9, none⟩ (.int .i64 yo)).setCell ⟨g, k * 9 + 1, none⟩ (.int .i64 yc)).setCell ⟨g, k * 9 + 2, none⟩ (.int .i64 yst)).setCell ⟨g, k * 9 + 3, none⟩ (.int .i64 ylv)).setCell ⟨g, k * 9 + 4, none⟩ (.int .i64 ynet)).setCell ⟨g, k * 9 + 5, none⟩ (.int .i64 ytax)).setCell ⟨g, k * 9 + 6, none⟩ (.int .i64 yap)).setCell ⟨g, k * 9 + 7, none⟩ (.int .i64 ywr)).setCell ⟨g, k * 9 + 8, none⟩ (.int .i64 ydep)).drew := ⟨_, rfl⟩
            have hJy : InsRow enC9 9 47 base g cap' w4 ((midK L (⟨zo, zc, zst, zlv, znet, ztax, zap, zwr, zdep⟩ : Ca) k).set k (⟨yo, yc, yst, ylv, ynet, ytax, yap, ywr, ydep⟩ : Ca)) wy := by rw [hwy]; exact hJ2.out
            have hGy : Blk wy G 47 #[.int .i64 zo, .int .i64 zc, .int .i64 zst, .int .i64 zlv, .int .i64 znet, .int .i64 ztax, .int .i64 zap, .int .i64 zwr, .int .i64 zdep] := by rw [hwy]; exact hGJ.out
            rw [← hwy]
            clear hwy hJ2 hGJ c0 lR lg q0 q1 q2 q3 q4 q5 q6 q7 q8 p0 p1 p2 p3 p4 p5 p6 p7 p8 f0 f1 f2 f3 f4 f5 f6 f7 f8 hbx hGx
            have c0 : wy.cell? ⟨R, 0, none⟩ = some (.slice (some ⟨g, 0, none⟩) n1 cap') := by rw [HN1.out]; exact (hJy.touch.blk HBB.out (fun e => hgR e.symm)).cell 0
            have lR : R < wy.heap.size := (hJy.touch.blk HBB.out (fun e => hgR e.symm)).lt
            have e1 := hJy.elem enC9_len (k := k - 1) (y := (⟨yo, yc, yst, ylv, ynet, ytax, yap, ywr, ydep⟩ : Ca)) (by rw [List.getElem?_set_ne (by omega), midK_at hk0 hk]; exact HY.out)
            have lg : g < wy.heap.size := e1.1
            have p0 : wy.cell? ⟨g, (k - 1) * 9, none⟩ = some (.int .i64 yo) := e1.2 0 _ rfl
            have p1 : wy.cell? ⟨g, (k - 1) * 9 + 1, none⟩ = some (.int .i64 yc) := e1.2 1 _ rfl
            have p2 : wy.cell? ⟨g, (k - 1) * 9 + 2, none⟩ = some (.int .i64 yst) := e1.2 2 _ rfl
            have p3 : wy.cell? ⟨g, (k - 1) * 9 + 3, none⟩ = some (.int .i64 ylv) := e1.2 3 _ rfl
            have p4 : wy.cell? ⟨g, (k - 1) * 9 + 4, none⟩ = some (.int .i64 ynet) := e1.2 4 _ rfl
            have p5 : wy.cell? ⟨g, (k - 1) * 9 + 5, none⟩ = some (.int .i64 ytax) := e1.2 5 _ rfl
            have p6 : wy.cell? ⟨g, (k - 1) * 9 + 6, none⟩ = some (.int .i64 yap) := e1.2 6 _ rfl
            have p7 : wy.cell? ⟨g, (k - 1) * 9 + 7, none⟩ = some (.int .i64 ywr) := e1.2 7 _ rfl
            have p8 : wy.cell? ⟨g, (k - 1) * 9 + 8, none⟩ = some (.int .i64 ydep) := e1.2 8 _ rfl
            have g0 : wy.cell? ⟨G, 0, none⟩ = some (.int .i64 zo) := hGy.cell 0
            have g1 : wy.cell? ⟨G, 1, none⟩ = some (.int .i64 zc) := hGy.cell 1
            have g2 : wy.cell? ⟨G, 2, none⟩ = some (.int .i64 zst) := hGy.cell 2
            have g3 : wy.cell? ⟨G, 3, none⟩ = some (.int .i64 zlv) := hGy.cell 3
            have g4 : wy.cell? ⟨G, 4, none⟩ = some (.int .i64 znet) := hGy.cell 4
            have g5 : wy.cell? ⟨G, 5, none⟩ = some (.int .i64 ztax) := hGy.cell 5
            have g6 : wy.cell? ⟨G, 6, none⟩ = some (.int .i64 zap) := hGy.cell 6
            have g7 : wy.cell? ⟨G, 7, none⟩ = some (.int .i64 zwr) := hGy.cell 7
            have g8 : wy.cell? ⟨G, 8, none⟩ = some (.int .i64 zdep) := hGy.cell 8
            have f0 := hJy.free ((k - 1) * 9)
            have f1 := hJy.free ((k - 1) * 9 + 1)
            have f2 := hJy.free ((k - 1) * 9 + 2)
            have f3 := hJy.free ((k - 1) * 9 + 3)
            have f4 := hJy.free ((k - 1) * 9 + 4)
            have f5 := hJy.free ((k - 1) * 9 + 5)
            have f6 := hJy.free ((k - 1) * 9 + 6)
            have f7 := hJy.free ((k - 1) * 9 + 7)
            have f8 := hJy.free ((k - 1) * 9 + 8)
            have hJz := (hJy.put enC9_len (k := k - 1) (by rw [List.length_set]; have := HLN.out; omega) (⟨zo, zc, zst, zlv, znet, ztax, zap, zwr, zdep⟩ : Ca)).drew
            rw [HS2.out] at hJz
            replace hJz := hid hJz
            clear e1 hJy hGy
            refine wp_tail 8 (by kernel_rfl) (by kernel_rfl) ?_
            simp only [List.take_succ_cons, List.take_zero, List.drop_succ_cons, List.drop_zero]
            repeat still_step
            refine wpStill_nil ?_
            clear hkw
            go_wp2_with fail
            go_roundw
            case rel => exact ⟨k - 1, by omega, by congr 1; omega, HP2, hJz.out⟩
            case measure => simp [nOf]; omega
          · have hd : decide (zo < yo) = false := decide_eq_false hlt
            have HX2 := hid (fun n => HEX.out (wr.drewN n) (fun y hy0 hy1 => by rw [HY.out] at hy1; injection hy1 with hy1; subst hy1; simp [ltI, hlt]) (below_drewN (Below.refl _ _) n))
            clear hlt hI hln hn1 HEX
            go_wp2_with fail
            go_quiet (fail)
            go_wp2_with fail
            go_end0
            exact HX2.out _
        · have hd : decide (0 < k) = false := decide_eq_false hk0
          have HX2 := hid (fun n => HEX.out (wr.drewN n) (fun y hy0 hy1 => absurd hy0 hk0) (below_drewN (Below.refl _ _) n))
          clear HEX hI hln hn1 e2
          go_wp2_with fail
          go_quiet (fail)
          go_wp2_with fail
          go_end0
          exact HX2.out _
end

end Go.Proofs.YthdmbbfppgenlaaGreat
