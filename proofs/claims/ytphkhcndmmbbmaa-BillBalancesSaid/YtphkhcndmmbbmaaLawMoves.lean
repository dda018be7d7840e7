/-
  The walk of the law BillMoves.
-/
import Derived.Test.YtphkhcndmmbbmaaPost2
import Derived.Test.YtphkhcndmmbbmaaMap2
namespace Go.Proofs.Ytphkhcndmmbbmaa
open Go.RowKit

theorem keyA : KeyLaw Try.prog 39 (fun n : Int => Value.int .i64 n) := intKey Try.underlying39
theorem zero64 (w : World) : (zeroValue 2).run Try.prog w = .ok (.int .i64 0) w := by kernel_rfl

/-- Entries added to sums: by account, as int64 does. -/
def addTo (m : List (Int × Int)) (x : Int × Int) : List (Int × Int) := mset m x.1 (wrap64 ((mget m x.1).getD 0 + x.2))
def addAll (m : List (Int × Int)) (l : List (Int × Int)) : List (Int × Int) := l.foldl addTo m

theorem looked_int (m : List (Int × Int)) (a : Int) : looked (.int .i64 0) (fun n : Int => Value.int .i64 n) m a = .int .i64 ((mget m a).getD 0) := by
  unfold looked
  cases mget m a <;> rfl

theorem mget_addTo (m : List (Int × Int)) (x : Int × Int) (a : Int) : (mget (addTo m x) a).getD 0 = if a = x.1 then wrap64 ((mget m a).getD 0 + x.2) else (mget m a).getD 0 := by
  unfold addTo
  rw [mget_mset]
  split
  · rename_i h; rw [h]; rfl
  · rfl

theorem wrap64_fix (n : Int) (h : I64 n) : wrap64 n = n := by
  have := h.bd
  unfold wrap64; omega

/-- Four postings, and what the sums are behind them. -/
def four (n : Int) : List (List (Int × Int)) := [some0 (moveL 0 4 n), some0 (moveL 4 0 n), some0 (moveL 4 1 n), some0 (moveL 5 1 (wrap64 (-n)))]

theorem some0_move (c d n : Int) (h : n ≠ 0) (hn : wrap64 (-n) ≠ 0) : some0 (moveL c d n) = [(c, n), (d, wrap64 (-n))] := by
  simp [some0, moveL, h, hn]
theorem some0_move0 (c d : Int) : some0 (moveL c d 0) = [] := by
  simp [some0, moveL, wrap64]
theorem neg_ne (n : Int) (h : I64 n) (h0 : n ≠ 0) : wrap64 (-n) ≠ 0 := by
  have := h.bd
  unfold wrap64; omega

theorem four_sums (n : Int) (h : I64 n) :
    (mget (addAll [] (four n).flatten) 0).getD 0 = 0 ∧ (mget (addAll [] (four n).flatten) 1).getD 0 = 0 ∧ (mget (addAll [] (four n).flatten) 4).getD 0 = n ∧ (mget (addAll [] (four n).flatten) 5).getD 0 = wrap64 (-n) := by
  have hb := h.bd
  by_cases h0 : n = 0
  · subst h0
    have hw : wrap64 0 = 0 := by decide +kernel
    simp [four, some0_move0, hw, addAll, mget]
  · have h1 := neg_ne n h h0
    have h2 : wrap64 (-wrap64 (-n)) ≠ 0 := by unfold wrap64; omega
    have e : (four n).flatten = [(0, n), (4, wrap64 (-n)), (4, n), (0, wrap64 (-n)), (4, n), (1, wrap64 (-n)), (5, wrap64 (-n)), (1, wrap64 (-wrap64 (-n)))] := by
      unfold four
      rw [some0_move 0 4 n h0 h1, some0_move 4 0 n h0 h1, some0_move 4 1 n h0 h1, some0_move 5 1 _ h1 h2]
      rfl
    rw [e]
    simp only [addAll, List.foldl_cons, List.foldl_nil, mget_addTo]
    have g : ∀ a : Int, (mget ([] : List (Int × Int)) a).getD 0 = 0 := fun _ => rfl
    simp only [g]
    refine ⟨?_, ?_, ?_, ?_⟩ <;> simp <;> unfold wrap64 <;> omega

theorem Rd.store {κ ν : Type} {kE : κ → Value} {vE : ν → Value} {m : List (κ × ν)} {w w' : World} {B : Nat} {A : Option Addr} {xs : List Value} (h : Rd w A xs) (hM : IsMap w B kE vE m) (hg : w.grownBy w' (some B)) : Rd w' A xs := by
  rcases h with h | ⟨b, off, hA, hlt, hc⟩
  · exact .inl h
  · rcases xs with _ | ⟨x, xs⟩
    · exact .inl rfl
    · have hne : b ≠ B := by
        rintro rfl
        obtain ⟨es, c, hb, _⟩ := hM
        have := hc 0 x rfl
        simp [World.cell?, hb] at this
      have hk := hg.block b hlt (fun e => hne (by injection e))
      exact .inr ⟨b, off, hA, Nat.lt_of_lt_of_le hlt hg.size, fun j u hu => (World.cell?_of_block (a := ⟨b, off + j, none⟩) hk).trans (hc j u hu)⟩
theorem Rd.alloc {w : World} {A : Option Addr} {xs : List Value} (h : Rd w A xs) (o : Obj) : Rd (w.alloc o) A xs := h.below ((Below.refl _ _).alloc (Nat.le_refl _) o)

/-- The cells cs are slices that read as these lists. -/
def Rows2 (w : World) (cs : Array Value) (ls : List (List (Int × Int))) : Prop := ∀ (j : Nat) (l : List (Int × Int)), ls[j]? = some l → ∃ (A : Option Addr) (c : Nat), cs[j]? = some (.slice A l.length c) ∧ Rd w A (l.flatMap en2)
theorem Rows2.mono {w w' : World} {cs : Array Value} {ls : List (List (Int × Int))} (h : Rows2 w cs ls) (hk : ∀ A xs, Rd w A xs → Rd w' A xs) : Rows2 w' cs ls := fun j l hl => by
  obtain ⟨A, c, h1, h2⟩ := h j l hl
  exact ⟨A, c, h1, hk _ _ h2⟩

theorem addAll_snoc (m : List (Int × Int)) (l : List (Int × Int)) (x : Int × Int) : addAll m (l ++ [x]) = addTo (addAll m l) x := by simp [addAll]
theorem flat_snoc (l : List (List (Int × Int))) (k : Nat) (x : List (Int × Int)) (h : l[k]? = some x) : (l.take (k + 1)).flatten = (l.take k).flatten ++ x := by
  rw [take_snoc h]; simp
theorem addAll_append (m a b : List (Int × Int)) : addAll m (a ++ b) = addAll (addAll m a) b := by simp [addAll]

theorem four_len (n : Int) (h : I64 n) : ∀ l ∈ four n, ((l.length : Int) == 0) = (n == 0) ∧ ((n == 0) = false → l.length = 2) := by
  intro l hl
  by_cases h0 : n = 0
  · subst h0
    have hw : wrap64 0 = 0 := by decide +kernel
    simp [four, some0_move0, hw] at hl
    subst hl
    exact ⟨rfl, fun h => by simp at h⟩
  · have h1 := neg_ne n h h0
    have h2 : wrap64 (-wrap64 (-n)) ≠ 0 := by have := h.bd; unfold wrap64; omega
    unfold four at hl
    rw [some0_move 0 4 n h0 h1, some0_move 4 0 n h0 h1, some0_move 4 1 n h0 h1, some0_move 5 1 _ h1 h2] at hl
    simp only [List.mem_cons, List.not_mem_nil, or_false] at hl
    rcases hl with rfl | rfl | rfl | rfl <;> exact ⟨by simp [h0], fun _ => rfl⟩

theorem four_length (n : Int) : (four n).length = 4 := rfl

set_option maxHeartbeats 4000000 in
theorem billMoves_walk (n : Int) (hn : I64 n) (w : World) : Calls Try.prog 6 #[.int .i64 n] w (Law w) := by
  go_enter Try.func6, Try.ntmps6
  have hmm := @run_makeMap Try.prog
  go_wp2_with fail
  refine (wakes_any _).mono ?_
  rintro e w1 ⟨rfl, hb1⟩
  have hM := IsMap.made w1 (fun n : Int => Value.int .i64 n) (fun n : Int => Value.int .i64 n)
  have hb2 : Below w.heap.size w (w1.alloc (.map #[] 0)) := hb1.alloc hb1.size _
  go_wp2_with fail
  refine (receipt_any _ _).mono ?_
  rintro e w3 ⟨A0, c0, rfl, R0, hb3⟩
  replace hM := hM.next hb3
  replace hb2 := bthen hb2 hb3
  clear hb3
  go_wp2_with fail
  refine (refund_any _ _).mono ?_
  rintro e w4 ⟨A1, c1, rfl, R1, hb3⟩
  replace hM := hM.next hb3
  replace hb2 := bthen hb2 hb3
  replace R0 := R0.below hb3
  clear hb3
  go_wp2_with fail
  refine (apply_any _ _).mono ?_
  rintro e w5 ⟨A2, c2, rfl, R2, hb3⟩
  replace hM := hM.next hb3
  replace hb2 := bthen hb2 hb3
  replace R0 := R0.below hb3
  replace R1 := R1.below hb3
  clear hb3
  go_wp2_with fail
  refine (loss_any _ _).mono ?_
  rintro e w6 ⟨A3, c3, rfl, R3, hb3⟩
  replace hM := hM.next hb3
  replace hb2 := bthen hb2 hb3
  replace R0 := R0.below hb3
  replace R1 := R1.below hb3
  replace R2 := R2.below hb3
  clear hb3
  have hrows : Rows2 w6 #[.slice A0 (some0 (moveL 0 4 n)).length c0, .slice A1 (some0 (moveL 4 0 n)).length c1, .slice A2 (some0 (moveL 4 1 n)).length c2, .slice A3 (some0 (moveL 5 1 (wrap64 (-n)))).length c3] (four n) := by
    intro j l hl
    match j, hl with
    | 0, hl => simp [four] at hl; subst hl; exact ⟨A0, c0, rfl, R0⟩
    | 1, hl => simp [four] at hl; subst hl; exact ⟨A1, c1, rfl, R1⟩
    | 2, hl => simp [four] at hl; subst hl; exact ⟨A2, c2, rfl, R2⟩
    | 3, hl => simp [four] at hl; subst hl; exact ⟨A3, c3, rfl, R3⟩
  clear R0 R1 R2 R3
  have hF := four_len n hn
  have hFS := four_sums n hn
  have hF4 := four_length n
  generalize (some0 (moveL 0 4 n)).length = L0 at *
  generalize (some0 (moveL 4 0 n)).length = L1 at *
  generalize (some0 (moveL 4 1 n)).length = L2 at *
  generalize (some0 (moveL 5 1 (wrap64 (-n)))).length = L3 at *
  generalize four n = F at *
  have HFS := hid hFS
  have HF4 := hid hF4
  clear hFS hF4
  have hlt := hM.lt
  go_wp2_with fail
  have hBlk := Blk.new w6 36 #[.slice A0 L0 c0, .slice A1 L1 c1, .slice A2 L2 c2, .slice A3 L3 c3]
  replace hM := hM.alloc (.cells #[.slice A0 L0 c0, .slice A1 L1 c1, .slice A2 L2 c2, .slice A3 L3 c3] 36)
  replace hb2 := hb2.alloc hb2.size (.cells #[.slice A0 L0 c0, .slice A1 L1 c1, .slice A2 L2 c2, .slice A3 L3 c3] 36)
  replace hrows := hrows.mono (w' := w6.alloc (.cells #[.slice A0 L0 c0, .slice A1 L1 c1, .slice A2 L2 c2, .slice A3 L3 c3] 36)) fun A xs h => h.alloc _
  go_loopw [22] (fun i wr => ∃ k : Nat, k ≤ 4 ∧ i = .int .i64 k ∧ IsMap wr w1.heap.size (fun n : Int => Value.int .i64 n) (fun n : Int => Value.int .i64 n) (addAll [] (F.take k).flatten) ∧
      Blk wr w6.heap.size 36 #[.slice A0 L0 c0, .slice A1 L1 c1, .slice A2 L2 c2, .slice A3 L3 c3] ∧ Rows2 wr #[.slice A0 L0 c0, .slice A1 L1 c1, .slice A2 L2 c2, .slice A3 L3 c3] F ∧ Below w.heap.size w wr) (fun i _ => 4 - (intOf i).toNat)
  case atStart => exact ⟨0, by omega, rfl, hM, hBlk, hrows, hb2⟩
  case round =>
    obtain ⟨k, hk, rfl, hM, hBlk, hrows, hb2⟩ := hrel
    by_cases hlt4 : k < 4
    · obtain ⟨l, hl⟩ : ∃ l, F[k]? = some l := ⟨F[k]'(by rw [HF4.out]; exact hlt4), List.getElem?_eq_getElem (by rw [HF4.out]; exact hlt4)⟩
      obtain ⟨A, c, hcs, hR⟩ := hrows k l hl
      have hc := (hBlk.cell k).trans hcs
      have HS := hid (flat_snoc F k l hl)
      obtain ⟨e1, e2⟩ := hF l (List.mem_of_getElem? hl)
      have hll : l.length ≤ 1000 := by
        cases h0 : n == 0 with
        | true => rw [h0] at e1; have := eq_of_beq e1; omega
        | false => rw [e2 h0]; omega
      have hk4 : (k : Int) < 4 := by omega
      have hpath : ∃ b : Bool, ((l.length : Int) == 0) = b ∧ (n == 0) = b ∧ (n != 0) = !b ∧ (b = false → ((l.length : Int) != 2) = false) := by
        refine ⟨n == 0, e1, rfl, rfl, fun h => ?_⟩
        rw [e2 h]; rfl
      clear e1 e2 hF hcs hl
      obtain ⟨b, p1, p2, p3, p4⟩ := hpath
      cases b with
      | true =>
        clear p4
        go_wp2
        go_loopw [43] (fun i wi => ∃ j : Nat, j ≤ l.length ∧ i = .int .i64 j ∧ IsMap wi w1.heap.size (fun n : Int => Value.int .i64 n) (fun n : Int => Value.int .i64 n) (addAll (addAll [] (F.take k).flatten) (l.take j)) ∧
            Blk wi w6.heap.size 36 #[.slice A0 L0 c0, .slice A1 L1 c1, .slice A2 L2 c2, .slice A3 L3 c3] ∧ Rows2 wi #[.slice A0 L0 c0, .slice A1 L1 c1, .slice A2 L2 c2, .slice A3 L3 c3] F ∧ Rd wi A (l.flatMap en2) ∧ Below w.heap.size w wi) (fun i _ => l.length - (intOf i).toNat)
        case atStart => exact ⟨0, Nat.zero_le _, rfl, hM, hBlk, hrows, hR, hb2⟩
        case round =>
          clear hM hBlk hrows hR hb2 hc
          obtain ⟨j, hj, rfl, hM, hBlk, hrows, hR, hb2⟩ := hrel
          by_cases hltj : j < l.length
          · obtain ⟨x, hx⟩ : ∃ x, l[j]? = some x := ⟨l[j], List.getElem?_eq_getElem hltj⟩
            obtain ⟨b, off, rfl, hbs, hcc⟩ := hR.at_ 2 en2_len (by omega) hx
            have hq := hcc 0 _ rfl
            have hp := hcc 1 _ rfl
            simp only [Nat.add_zero] at hq
            clear hcc
            have HX := hid (take_snoc hx)
            have hM2 := hM.alloc (.cells #[.int .i64 x.1, .int .i64 x.2] 41)
            have hlk := hM2.look keyA Try.underlying35 (zero64 _) x.1
            rw [looked_int] at hlk
            go_wp2_with (first
              | (at_mapUpdate; refine wpList_store _ rfl _ _ _ 35 2 rfl keyA Try.underlying35 _ _ rfl hM2 x.1 _ rfl rfl ?_; intro w' hM3 hg3 hsz))
            have hb3 : Below w.heap.size w w' := (hb2.alloc hb2.size _).grown hg3 (by have := hb2.size; simp; omega) (fun k hk => by injection hk with hk; rw [← hk]; exact hb1.size)
            have hB3 := (hBlk.alloc (.cells #[.int .i64 x.1, .int .i64 x.2] 41)).grown hg3 (fun e => by injection e with e; omega)
            have hR3 := (hR.alloc (.cells #[.int .i64 x.1, .int .i64 x.2] 41)).store hM2 hg3
            have hr3 := hrows.mono (w' := w') fun A xs h => (h.alloc (.cells #[.int .i64 x.1, .int .i64 x.2] 41)).store hM2 hg3
            clear hM hBlk hrows hR hb2 hlk hM2 hg3
            go_wp2
            go_roundw
            case rel => exact ⟨j + 1, by omega, by go_num, by rw [HX.out, addAll_snoc]; exact hM3, hB3, hr3, hR3, hb3⟩
            case measure => simp [intOf]; omega
          · have hj' : j = l.length := by omega
            subst hj'
            rw [List.take_length] at hM
            go_wp2
            go_roundw
            case rel => exact ⟨k + 1, by omega, by go_num, by rw [HS.out, addAll_append]; exact hM, hBlk, hrows, hb2⟩
            case measure => simp [intOf]; omega
      | false =>
        have p5 := p4 rfl
        clear p4
        go_wp2
        go_loopw [43] (fun i wi => ∃ j : Nat, j ≤ l.length ∧ i = .int .i64 j ∧ IsMap wi w1.heap.size (fun n : Int => Value.int .i64 n) (fun n : Int => Value.int .i64 n) (addAll (addAll [] (F.take k).flatten) (l.take j)) ∧
            Blk wi w6.heap.size 36 #[.slice A0 L0 c0, .slice A1 L1 c1, .slice A2 L2 c2, .slice A3 L3 c3] ∧ Rows2 wi #[.slice A0 L0 c0, .slice A1 L1 c1, .slice A2 L2 c2, .slice A3 L3 c3] F ∧ Rd wi A (l.flatMap en2) ∧ Below w.heap.size w wi) (fun i _ => l.length - (intOf i).toNat)
        case atStart => exact ⟨0, Nat.zero_le _, rfl, hM, hBlk, hrows, hR, hb2⟩
        case round =>
          clear hM hBlk hrows hR hb2 hc
          obtain ⟨j, hj, rfl, hM, hBlk, hrows, hR, hb2⟩ := hrel
          by_cases hltj : j < l.length
          · obtain ⟨x, hx⟩ : ∃ x, l[j]? = some x := ⟨l[j], List.getElem?_eq_getElem hltj⟩
            obtain ⟨b, off, rfl, hbs, hcc⟩ := hR.at_ 2 en2_len (by omega) hx
            have hq := hcc 0 _ rfl
            have hp := hcc 1 _ rfl
            simp only [Nat.add_zero] at hq
            clear hcc
            have HX := hid (take_snoc hx)
            have hM2 := hM.alloc (.cells #[.int .i64 x.1, .int .i64 x.2] 41)
            have hlk := hM2.look keyA Try.underlying35 (zero64 _) x.1
            rw [looked_int] at hlk
            go_wp2_with (first
              | (at_mapUpdate; refine wpList_store _ rfl _ _ _ 35 2 rfl keyA Try.underlying35 _ _ rfl hM2 x.1 _ rfl rfl ?_; intro w' hM3 hg3 hsz))
            have hb3 : Below w.heap.size w w' := (hb2.alloc hb2.size _).grown hg3 (by have := hb2.size; simp; omega) (fun k hk => by injection hk with hk; rw [← hk]; exact hb1.size)
            have hB3 := (hBlk.alloc (.cells #[.int .i64 x.1, .int .i64 x.2] 41)).grown hg3 (fun e => by injection e with e; omega)
            have hR3 := (hR.alloc (.cells #[.int .i64 x.1, .int .i64 x.2] 41)).store hM2 hg3
            have hr3 := hrows.mono (w' := w') fun A xs h => (h.alloc (.cells #[.int .i64 x.1, .int .i64 x.2] 41)).store hM2 hg3
            clear hM hBlk hrows hR hb2 hlk hM2 hg3
            go_wp2
            go_roundw
            case rel => exact ⟨j + 1, by omega, by go_num, by rw [HX.out, addAll_snoc]; exact hM3, hB3, hr3, hR3, hb3⟩
            case measure => simp [intOf]; omega
          · have hj' : j = l.length := by omega
            subst hj'
            rw [List.take_length] at hM
            go_wp2
            go_roundw
            case rel => exact ⟨k + 1, by omega, by go_num, by rw [HS.out, addAll_append]; exact hM, hBlk, hrows, hb2⟩
            case measure => simp [intOf]; omega
    · have hk' : k = 4 := by omega
      subst hk'
      have hFt : F.take 4 = F := by rw [← HF4.out, List.take_length]
      rw [hFt] at hM
      obtain ⟨s0, s1, s4, s5⟩ := HFS.out
      have k0 := hM.look keyA Try.underlying35 (zero64 _) 0
      have k1 := hM.look keyA Try.underlying35 (zero64 _) 1
      have k4 := hM.look keyA Try.underlying35 (zero64 _) 4
      have k5 := hM.look keyA Try.underlying35 (zero64 _) 5
      rw [looked_int, s0] at k0
      rw [looked_int, s1] at k1
      rw [looked_int, s4] at k4
      rw [looked_int, s5] at k5
      clear s0 s1 s4 s5 hFt HFS hF
      go_wp2
      go_ret
      exact ⟨rfl, hb2⟩

end Go.Proofs.Ytphkhcndmmbbmaa
