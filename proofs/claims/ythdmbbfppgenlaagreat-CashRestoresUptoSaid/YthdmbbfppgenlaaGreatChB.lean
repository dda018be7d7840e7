/-
  The book of money: the struct, its ledger, its accounts in blocks of their own; New and the small functions.
-/
import Derived.Test.YthdmbbfppgenlaaGreatChP
import Derived.RegionTactic
import Derived.Deep.RegionHeld3
namespace Go.Proofs.YthdmbbfppgenlaaGreat
open Go.RowKit Go.WideShapes Go.ChangeShapes Go.ChangeAt Go.Deep
set_option linter.unusedVariables false

def kC (n : Int) : Value := .int .i64 n
theorem keyC : KeyLaw Tryz.prog 3 kC := intKey Tryz.underlying3
def vCP (p : CP) : Value := .pointer (some ⟨p.g, 0, none⟩)
def celC (a : Ca) : Array Value := #[.int .i64 a.o, .int .i64 a.c, .int .i64 a.st, .int .i64 a.lv, .int .i64 a.net, .int .i64 a.tax, .int .i64 a.ap, .int .i64 a.wr, .int .i64 a.dep]
theorem zeroCP (w : World) : (zeroValue 59).run Tryz.prog w = .ok (.pointer none) w := by kernel_rfl

structure IsCash (n0 : Nat) (w : World) (X XL BL BA : Nat) (ac : List (Int × CP)) (f : Fn) (d : Int) : Prop where
  blk : Blk w X 66 #[.pointer (some ⟨XL, 0, none⟩), .map (some BA)]
  led : IsLed w XL BL f d
  acs : IsMap w BA kC vCP ac
  cells : ∀ p ∈ ac, Blk w p.2.g 35 (celC p.2.a)
  apart : (ac.map (·.2.g)).Nodup
  low : n0 ≤ X ∧ n0 ≤ XL ∧ n0 ≤ BL ∧ n0 ≤ BA ∧ BL ≠ BA
  lows : ∀ p ∈ ac, n0 ≤ p.2.g

namespace Ch
/-- The book's blocks that may be written. -/
def Own (XL BL BA : Nat) (ac : List (Int × CP)) (k : Nat) : Prop := k = XL ∨ k = BL ∨ k = BA ∨ ∃ p ∈ ac, p.2.g = k
end Ch

section
variable {n0 : Nat} {w w' : World} {X XL BL BA : Nat} {ac : List (Int × CP)} {f f' : Fn} {d d' : Int}
theorem IsCash.own_low (h : IsCash n0 w X XL BL BA ac f d) {k : Nat} (hk : Ch.Own XL BL BA ac k) : n0 ≤ k := by
  obtain ⟨h1, h2, h3, h4, _⟩ := h.low
  rcases hk with rfl | rfl | rfl | ⟨p, hp, rfl⟩
  · exact h2
  · exact h3
  · exact h4
  · exact h.lows p hp
theorem IsCash.own_lt (h : IsCash n0 w X XL BL BA ac f d) {k : Nat} (hk : Ch.Own XL BL BA ac k) : k < w.heap.size := by
  rcases hk with rfl | rfl | rfl | ⟨p, hp, rfl⟩
  · exact h.led.blk.lt
  · obtain ⟨m, h1, _⟩ := h.led.map; exact h1.lt
  · exact h.acs.lt
  · exact (h.cells p hp).lt
theorem IsCash.touch {S : Nat → Prop} (h : IsCash n0 w X XL BL BA ac f d) (ht : Touch S w w') (hX : ¬ S X) (hS : ∀ k, Ch.Own XL BL BA ac k → ¬ S k) : IsCash n0 w' X XL BL BA ac f d :=
  ⟨ht.blk h.blk hX, h.led.touch ht (hS _ (.inl rfl)) (hS _ (.inr (.inl rfl))), ht.isMap h.acs (hS _ (.inr (.inr (.inl rfl)))), fun p hp => ht.blk (h.cells p hp) (hS _ (.inr (.inr (.inr ⟨p, hp, rfl⟩)))), h.apart, h.low, h.lows⟩
theorem IsCash.next (h : IsCash n0 w X XL BL BA ac f d) (hb : Below w.heap.size w w') : IsCash n0 w' X XL BL BA ac f d := h.touch (S := fun _ => False) (.of_below hb) (fun h => h) (fun _ _ h => h)
theorem IsCash.cellL (h : IsCash n0 w X XL BL BA ac f d) : w.cell? ⟨X, 0, none⟩ = some (.pointer (some ⟨XL, 0, none⟩)) := h.blk.cell 0
theorem IsCash.cellA (h : IsCash n0 w X XL BL BA ac f d) : w.cell? ⟨X, 1, none⟩ = some (.map (some BA)) := h.blk.cell 1
theorem IsCash.at_ (h : IsCash n0 w X XL BL BA ac f d) {o : Int} {p : CP} (ha : mget ac o = some p) : Blk w p.g 35 (celC p.a) := h.cells (o, p) (mget_mem ha)
def ptrC (ac : List (Int × CP)) (o : Int) : Option Addr := (mget ac o).map fun p => ⟨p.g, 0, none⟩
theorem IsCash.look (h : IsCash n0 w X XL BL BA ac f d) (o : Int) : (Instr.lookup 64 (.map (some BA)) (.int .i64 o) false).run Tryz.prog w = .ok (.pointer (ptrC ac o)) w := by
  have := h.acs.look keyC Tryz.underlying64 (zeroCP _) o
  rw [show looked (.pointer none) vCP ac o = .pointer (ptrC ac o) from by unfold looked ptrC; cases mget ac o <;> rfl] at this
  exact this
/-- The ledger turns. -/
theorem IsCash.ledger (h : IsCash n0 w X XL BL BA ac f d) (hL : IsLed w' XL BL f' d') (ht : Touch (XB XL BL) w w') : IsCash n0 w' X XL BL BA ac f' d' := by
  have nb : ∀ {g : Nat} {t : TypeId} {cs : Array Value}, Blk w g t cs → t ≠ 113 → ¬ XB XL BL g := fun hb hn hk => by
    rcases hk with rfl | rfl
    · exact hb.ne_ h.led.blk hn rfl
    · obtain ⟨m, h1, _⟩ := h.led.map; exact h1.notBlk hb rfl
  refine ⟨ht.blk h.blk (nb h.blk (by decide)), hL, ht.isMap h.acs (fun hk => ?_), fun p hp => ht.blk (h.cells p hp) (nb (h.cells p hp) (by decide)), h.apart, h.low, h.lows⟩
  rcases hk with rfl | rfl
  · exact h.acs.notBlk h.led.blk rfl
  · exact h.low.2.2.2.2 rfl
theorem gsC_mset {p p' : CP} {o : Int} (ha : mget ac o = some p) (hd : (ac.map (·.1)).Nodup) (hg : p'.g = p.g) : (mset ac o p').map (·.2.g) = ac.map (·.2.g) := by
  have := mset_map_same (fun p : CP => p.g) ha hd hg
  have := congrArg (List.map Prod.snd) this
  simpa [List.map_map, Function.comp_def] using this
/-- An account's cells written anew. -/
theorem IsCash.put {p : CP} {a' : Ca} {o : Int} (h : IsCash n0 w X XL BL BA ac f d) (ha : mget ac o = some p) (hc : Blk w' p.g 35 (celC a')) (ht : Touch (· = p.g) w w') : IsCash n0 w' X XL BL BA (mset ac o ⟨p.g, a'⟩) f d := by
  have hd := h.acs.nodup
  have hcell := h.at_ ha
  refine ⟨ht.blk h.blk (h.blk.ne_ hcell (by decide)), h.led.touch ht (h.led.blk.ne_ hcell (by decide)) (fun e => by obtain ⟨m, h1, _⟩ := h.led.map; exact h1.notBlk hcell e), ht.isMap (h.acs.same ?_) (fun e => h.acs.notBlk hcell e), ?_, ?_, h.low, ?_⟩
  · exact mset_map_same vCP ha hd (by rfl)
  · intro q hq
    rcases mem_mset hq with rfl | ⟨hq', hne⟩
    · exact hc
    · have hgq : q.2.g ≠ p.g := by
        intro e
        have hm2 := mget_mem ha
        obtain ⟨i1, hi1⟩ := List.mem_iff_getElem?.1 hq'
        obtain ⟨i2, hi2⟩ := List.mem_iff_getElem?.1 hm2
        have e1 : (ac.map (·.2.g))[i1]? = some p.g := by rw [List.getElem?_map, hi1]; simp [e]
        have e2 : (ac.map (·.2.g))[i2]? = some p.g := by rw [List.getElem?_map, hi2]; rfl
        have hl : i1 < (ac.map (·.2.g)).length := (List.getElem?_eq_some_iff.1 e1).1
        have := (List.getElem?_inj hl h.apart).1 (e1.trans e2.symm)
        subst this
        rw [hi1] at hi2
        injection hi2 with hi2
        exact hne (by rw [hi2])
      exact ht.blk (h.cells q hq') hgq
  · rw [gsC_mset (p' := ⟨p.g, a'⟩) ha hd rfl]; exact h.apart
  · intro q hq
    rcases mem_mset hq with rfl | ⟨hq', _⟩
    · have := h.lows _ (mget_mem ha)
      exact this
    · exact h.lows q hq'
/-- A new account. -/
theorem IsCash.add {p : CP} {o : Int} (h : IsCash n0 w X XL BL BA ac f d) (hm : mget ac o = none) (hg : Blk w p.g 35 (celC p.a)) (hf : ∀ q ∈ ac, q.2.g ≠ p.g) (hn : n0 ≤ p.g)
    (hM : IsMap w' BA kC vCP (mset ac o p)) (hgr : w.grownBy w' (some BA)) : IsCash n0 w' X XL BL BA (mset ac o p) f d := by
  have ht := Touch.of_grown hgr
  have nB : ∀ {g : Nat} {t : TypeId} {cs : Array Value}, Blk w g t cs → ¬ g = BA := fun hb e => h.acs.notBlk hb e.symm
  refine ⟨ht.blk h.blk (nB h.blk), h.led.touch ht (nB h.led.blk) h.low.2.2.2.2, hM, ?_, ?_, h.low, ?_⟩
  · intro q hq
    rcases mem_mset hq with rfl | ⟨hq', _⟩
    · exact ht.blk hg (nB hg)
    · exact ht.blk (h.cells q hq') (nB (h.cells q hq'))
  · rw [mset_new hm, List.map_append]
    refine List.nodup_append.2 ⟨h.apart, by simp, fun x hx y hy e => ?_⟩
    obtain ⟨q, hq, rfl⟩ := List.mem_map.1 hx
    simp at hy
    exact hf q hq (e.trans hy)
  · intro q hq
    rcases mem_mset hq with rfl | ⟨hq', _⟩
    · exact hn
    · exact h.lows q hq'
/-- The same pointer stored again. -/
theorem IsCash.again {p : CP} {o : Int} (h : IsCash n0 w X XL BL BA ac f d) (hm : mget ac o = some p) (hM : IsMap w' BA kC vCP (mset ac o p)) (hgr : w.grownBy w' (some BA)) : IsCash n0 w' X XL BL BA ac f d := by
  have ht := Touch.of_grown hgr
  have nB : ∀ {g : Nat} {t : TypeId} {cs : Array Value}, Blk w g t cs → ¬ g = BA := fun hb e => h.acs.notBlk hb e.symm
  have hs : mset ac o p = ac := by
    have := mset_map_same (fun p : CP => p) hm h.acs.nodup rfl
    simpa using this
  exact ⟨ht.blk h.blk (nB h.blk), h.led.touch ht (nB h.led.blk) h.low.2.2.2.2, hs ▸ hM, fun q hq => ht.blk (h.cells q hq) (nB (h.cells q hq)), h.apart, h.low, h.lows⟩
end

theorem cnew_any (w : World) : Calls Tryz.prog 32 #[] w fun e w' =>
    ∃ X XL BL BA, e = .returned (.pointer (some ⟨X, 0, none⟩)) ∧ IsCash w.heap.size w' X XL BL BA [] f0 0 ∧ Below w.heap.size w w' := by
  have hmm := @run_makeMap Tryz.prog
  go_enter Tryz.func32, Tryz.ntmps32
  go_wp2_with fail
  refine (lnew_any w).mono ?_
  rintro e w1 ⟨XL, BL, rfl, lB, lX, hL, hb⟩
  have s1 := hb.size
  have hBL : BL < w1.heap.size := by obtain ⟨m, h1, _⟩ := hL.map; exact h1.lt
  have hbn := Blk.new (w1.alloc (.map #[] 0)) 66 #[.pointer (some ⟨XL, 0, none⟩), .map (some w1.heap.size)]
  have hM := (IsMap.made w1 kC vCP).alloc (.cells #[.pointer (some ⟨XL, 0, none⟩), .map (some w1.heap.size)] 66)
  have hb1 : Below w1.heap.size w1 ((w1.alloc (.map #[] 0)).alloc (.cells #[.pointer (some ⟨XL, 0, none⟩), .map (some w1.heap.size)] 66)) := ((Below.refl _ _).alloc (Nat.le_refl _) _).alloc (by simp) _
  rw [World.size_alloc] at hbn
  have H := hid (IsCash.mk (n0 := w.heap.size) (ac := []) hbn (hL.next hb1) hM (fun p hp => by cases hp) (by simp) ⟨by omega, lX, lB, by omega, by omega⟩ (fun p hp => by cases hp))
  have HB := hid (bthen hb hb1)
  clear hL hb hbn hM hb1
  go_wp2_with fail
  go_ret
  exact ⟨_, XL, BL, _, by simp, H.out, HB.out⟩

/-! ### Small ones -/
theorem between_any (n m : Int) (w : World) : Calls Tryz.prog 22 #[.int .i64 n, .int .i64 m] w fun e w' => e = .returned (.bool (decide (0 ≤ n) && decide (n ≤ m))) ∧ w = w' := by
  by_cases h1 : 0 ≤ n
  · by_cases h2 : n ≤ m
    · have t2 : decide (n ≤ m) = true := decide_eq_true h2
      have t1 : decide (0 ≤ n) = true := decide_eq_true h1
      rw [t1, t2]
      clear h1 h2
      go_enter Tryz.func22, Tryz.ntmps22
      go_wp2_with fail
      go_ret
      exact ⟨rfl, rfl⟩
    · have t2 : decide (n ≤ m) = false := decide_eq_false h2
      have t1 : decide (0 ≤ n) = true := decide_eq_true h1
      rw [t1, t2]
      clear h1 h2
      go_enter Tryz.func22, Tryz.ntmps22
      go_wp2_with fail
      go_ret
      exact ⟨rfl, rfl⟩
  · have t1 : decide (0 ≤ n) = false := decide_eq_false h1
    rw [t1]
    clear h1
    go_enter Tryz.func22, Tryz.ntmps22
    go_wp2_with fail
    go_ret
    exact ⟨rfl, rfl⟩
theorem cfit_yes (o c : Int) (w : World) (h : 1 ≤ o ∧ 1 ≤ c ∧ c ≤ 64) : Calls Tryz.prog 21 #[.int .i64 o, .int .i64 c] w fun e w' => e = .returned (.bool true) ∧ w = w' := by
  obtain ⟨h1, h2, h3⟩ := h
  go_enter Tryz.func21, Tryz.ntmps21
  go_wp2_with fail
  go_ret
  exact ⟨rfl, rfl⟩
theorem cfit_no (o c : Int) (w : World) (h : ¬ (1 ≤ o ∧ 1 ≤ c ∧ c ≤ 64)) : Calls Tryz.prog 21 #[.int .i64 o, .int .i64 c] w fun e w' => e = .returned (.bool false) ∧ w = w' := by
  by_cases h1 : 1 ≤ o
  · by_cases h2 : 1 ≤ c
    · have h4 : decide (c ≤ 64) = false := by simp; omega
      clear h
      go_enter Tryz.func21, Tryz.ntmps21
      go_wp2_with fail
      go_ret
      exact ⟨rfl, rfl⟩
    · have h4 : decide (1 ≤ c) = false := by simp; omega
      clear h h2
      go_enter Tryz.func21, Tryz.ntmps21
      go_wp2_with fail
      go_ret
      exact ⟨rfl, rfl⟩
  · have h4 : decide (1 ≤ o) = false := by simp; omega
    clear h h1
    go_enter Tryz.func21, Tryz.ntmps21
    go_wp2_with fail
    go_ret
    exact ⟨rfl, rfl⟩
def cfitB (o c : Int) : Bool := decide (1 ≤ o ∧ 1 ≤ c ∧ c ≤ 64)
theorem cfit_any (o c : Int) (w : World) : Calls Tryz.prog 21 #[.int .i64 o, .int .i64 c] w fun e w' => e = .returned (.bool (cfitB o c)) ∧ w = w' := by
  unfold cfitB
  by_cases h : 1 ≤ o ∧ 1 ≤ c ∧ c ≤ 64
  · rw [decide_eq_true h]; exact cfit_yes o c w h
  · rw [decide_eq_false h]; exact cfit_no o c w h

/-- Amounts that are far from the brim. -/
structure SmallC (a : Ca) : Prop where
  n : -1152921504606846976 ≤ a.net ∧ a.net ≤ 1152921504606846976
  t : -1152921504606846976 ≤ a.tax ∧ a.tax ≤ 1152921504606846976
  p : -1152921504606846976 ≤ a.ap ∧ a.ap ≤ 1152921504606846976
  w : -1152921504606846976 ≤ a.wr ∧ a.wr ≤ 1152921504606846976
theorem FitC.small {a : Ca} (h : FitC a) : SmallC a := by
  have := h.n0; have := h.n1; have := h.t0; have := h.t1; have := h.p0; have := h.p1; have := h.w0; have := h.w1
  constructor <;> omega
set_option maxRecDepth 100000 in
theorem open_any (a : Ca) (w : World) (hs : SmallC a) : Calls Tryz.prog 31 #[.agg (celC a)] w fun e w' => e = .returned (.int .i64 (openC a)) ∧ Below w.heap.size w w' := by
  obtain ⟨o, c, st, lv, net, tax, ap, wr, dep⟩ := a
  obtain ⟨⟨a1, a2⟩, ⟨b1, b2⟩, ⟨c1, c2⟩, ⟨d1, d2⟩⟩ := hs
  simp only [celC, openC] at *
  by_cases h : st = 1
  · subst h
    rw [if_pos rfl]
    go_enter Tryz.func31, Tryz.ntmps31
    go_wp2_with fail
    go_ret
    exact ⟨rfl, (Below.refl _ _).alloc (Nat.le_refl _) _⟩
  · rw [if_neg h]
    have t1 : (st != 1) = true := by simpa using h
    clear h a1 a2 b1 b2 c1 c2 d1 d2
    go_enter Tryz.func31, Tryz.ntmps31
    go_wp2_with fail
    go_ret
    exact ⟨rfl, (Below.refl _ _).alloc (Nat.le_refl _) _⟩
set_option maxRecDepth 100000 in
theorem paid_any (a : Ca) (w : World) (hs : SmallC a) : Calls Tryz.prog 55 #[.agg (celC a)] w fun e w' => e = .returned (.bool (paidC a)) ∧ Below w.heap.size w w' := by
  have K := hid (fun w => open_any a w hs)
  by_cases h : a.st = 1
  · have hp : paidC a = (openC a == 0) := by unfold paidC; rw [decide_eq_true h, Bool.true_and]; by_cases e : openC a = 0 <;> simp [e]
    rw [hp]
    obtain ⟨z, hz⟩ : ∃ z, z = openC a := ⟨_, rfl⟩
    rw [← hz] at K ⊢
    clear hz hp hs
    obtain ⟨o, c, st, lv, net, tax, ap, wr, dep⟩ := a
    simp only [celC] at *
    subst h
    go_enter Tryz.func55, Tryz.ntmps55
    go_wp2_with fail
    refine (K.out _).mono ?_
    rintro e w1 ⟨rfl, hb⟩
    go_wp2_with fail
    go_ret
    exact ⟨by simp, ((Below.refl _ _).alloc (Nat.le_refl _) _).trans (hb.mono (by simp))⟩
  · have hp : paidC a = false := by unfold paidC; rw [decide_eq_false h]; rfl
    rw [hp]
    have t1 : (a.st == 1) = false := by simpa using h
    clear h hp hs K
    obtain ⟨o, c, st, lv, net, tax, ap, wr, dep⟩ := a
    simp only [celC] at *
    go_enter Tryz.func55, Tryz.ntmps55
    go_wp2_with fail
    go_ret
    exact ⟨by simp, (Below.refl _ _).alloc (Nat.le_refl _) _⟩

section
variable {n0 : Nat} {w w' : World} {X XL BL BA : Nat} {ac : List (Int × CP)} {f f' : Fn} {d d' : Int}
set_option maxRecDepth 100000 in
theorem cturn_any (h : IsCash n0 w X XL BL BA ac f d) : Calls Tryz.prog 15 #[.pointer (some ⟨X, 0, none⟩)] w fun e w' => e = .returned (.int .i64 d) ∧ Below w.heap.size w w' := by
  have cL := h.cellL
  have K := hid (lturn_any w h.led)
  clear h
  go_enter Tryz.func15, Tryz.ntmps15
  go_wp2_with fail
  refine K.out.mono ?_
  rintro e w1 ⟨rfl, hb⟩
  go_wp2_with fail
  go_ret
  exact ⟨rfl, hb⟩
def roomR (d n : Int) : Int := if 576460752303423488 - n < d then 72 else 0
set_option maxRecDepth 100000 in
theorem room_any (h : IsCash n0 w X XL BL BA ac f d) (n : Int) (h0 : -4611686018427387904 ≤ n) (h1 : n ≤ 4611686018427387904) : Calls Tryz.prog 24 #[.pointer (some ⟨X, 0, none⟩), .int .i64 n] w fun e w' => e = .returned (.int .i64 (roomR d n)) ∧ Below w.heap.size w w' := by
  have K := hid (cturn_any h)
  clear h
  unfold roomR
  by_cases hr : 576460752303423488 - n < d
  · have t1 : decide (576460752303423488 - n < d) = true := decide_eq_true hr
    rw [if_pos hr]
    clear hr
    go_enter Tryz.func24, Tryz.ntmps24
    go_wp2_with fail
    refine K.out.mono ?_
    rintro e w1 ⟨rfl, hb⟩
    go_wp2_with fail
    go_ret
    exact ⟨rfl, hb⟩
  · have t1 : decide (576460752303423488 - n < d) = false := decide_eq_false hr
    rw [if_neg hr]
    clear hr
    go_enter Tryz.func24, Tryz.ntmps24
    go_wp2_with fail
    refine K.out.mono ?_
    rintro e w1 ⟨rfl, hb⟩
    go_wp2_with fail
    go_ret
    exact ⟨rfl, hb⟩
theorem find_nil (o : Int) (w : World) : Calls Tryz.prog 29 #[.pointer none, .int .i64 o] w fun e w' => e = .returned (.tuple #[.pointer none, .int .i64 1]) ∧ w = w' := by
  go_enter Tryz.func29, Tryz.ntmps29
  go_wp2_with fail
  go_ret2
  exact ⟨rfl, rfl⟩
theorem find_none (h : IsCash n0 w X XL BL BA ac f d) (o : Int) (hm : mget ac o = none) : Calls Tryz.prog 29 #[.pointer (some ⟨X, 0, none⟩), .int .i64 o] w fun e w' => e = .returned (.tuple #[.pointer none, .int .i64 70]) ∧ w = w' := by
  have cA := h.cellA
  have l1 := h.look o
  rw [show ptrC ac o = none from by unfold ptrC; rw [hm]; rfl] at l1
  clear h hm
  go_enter Tryz.func29, Tryz.ntmps29
  go_wp2_with fail
  go_ret2
  exact ⟨rfl, rfl⟩
theorem find_some (h : IsCash n0 w X XL BL BA ac f d) (o : Int) (p : CP) (hm : mget ac o = some p) : Calls Tryz.prog 29 #[.pointer (some ⟨X, 0, none⟩), .int .i64 o] w fun e w' => e = .returned (.tuple #[.pointer (some ⟨p.g, 0, none⟩), .int .i64 0]) ∧ w = w' := by
  have cA := h.cellA
  have l1 := h.look o
  rw [show ptrC ac o = some ⟨p.g, 0, none⟩ from by unfold ptrC; rw [hm]; rfl] at l1
  clear h hm
  go_enter Tryz.func29, Tryz.ntmps29
  go_wp2_with fail
  go_ret2
  exact ⟨rfl, rfl⟩
set_option maxRecDepth 100000 in
theorem account_new (h : IsCash n0 w X XL BL BA ac f d) (o c : Int) (hm : mget ac o = none) : Calls Tryz.prog 23 #[.pointer (some ⟨X, 0, none⟩), .int .i64 o, .int .i64 c] w fun e w' => e = .returned (.tuple #[.pointer (some ⟨w.heap.size, 0, none⟩), .int .i64 0]) ∧ Blk w' w.heap.size 35 (celC ⟨o, c, 0, 0, 0, 0, 0, 0, 0⟩) ∧ Below w.heap.size w w' := by
  have cA := h.cellA
  have l1 := h.look o
  rw [show ptrC ac o = none from by unfold ptrC; rw [hm]; rfl] at l1
  clear h hm
  go_enter Tryz.func23, Tryz.ntmps23
  go_wp2_with fail
  go_ret2
  exact ⟨rfl, Blk.new _ _ _, (Below.refl _ _).alloc (Nat.le_refl _) _⟩
set_option maxRecDepth 100000 in
theorem account_other (h : IsCash n0 w X XL BL BA ac f d) (o c : Int) (p : CP) (hm : mget ac o = some p) (hc : p.a.c ≠ c) : Calls Tryz.prog 23 #[.pointer (some ⟨X, 0, none⟩), .int .i64 o, .int .i64 c] w fun e w' => e = .returned (.tuple #[.pointer none, .int .i64 130]) ∧ w = w' := by
  have cA := h.cellA
  have l1 := h.look o
  rw [show ptrC ac o = some ⟨p.g, 0, none⟩ from by unfold ptrC; rw [hm]; rfl] at l1
  have c1 : w.cell? ⟨p.g, 1, none⟩ = some (.int .i64 p.a.c) := (h.at_ hm).cell 1
  have t1 : (p.a.c != c) = true := by simpa using hc
  clear h hm hc
  go_enter Tryz.func23, Tryz.ntmps23
  go_wp2_with fail
  go_ret2
  exact ⟨rfl, rfl⟩
set_option maxRecDepth 100000 in
theorem account_same (h : IsCash n0 w X XL BL BA ac f d) (o c : Int) (p : CP) (hm : mget ac o = some p) (hc : p.a.c = c) : Calls Tryz.prog 23 #[.pointer (some ⟨X, 0, none⟩), .int .i64 o, .int .i64 c] w fun e w' => e = .returned (.tuple #[.pointer (some ⟨p.g, 0, none⟩), .int .i64 0]) ∧ w = w' := by
  have cA := h.cellA
  have l1 := h.look o
  rw [show ptrC ac o = some ⟨p.g, 0, none⟩ from by unfold ptrC; rw [hm]; rfl] at l1
  have c1 : w.cell? ⟨p.g, 1, none⟩ = some (.int .i64 p.a.c) := (h.at_ hm).cell 1
  subst hc
  clear h hm
  go_enter Tryz.func23, Tryz.ntmps23
  go_wp2_with fail
  go_ret2
  exact ⟨rfl, rfl⟩

/-- post: the entries go to the account's customer. -/
theorem cpost_any (h : IsCash n0 w X XL BL BA ac f d) (g : Nat) (a : Ca) (hg : Blk w g 35 (celC a)) (es : List En) (hp : PostOk a.c d es) (A : Option Addr) (cap : Nat) (hR : Rd w A ((some0 es).flatMap enE)) (hlo : ∀ b, A.map (·.block) = some b → ¬ XB XL BL b) :
    Calls Tryz.prog 25 #[.pointer (some ⟨X, 0, none⟩), .pointer (some ⟨g, 0, none⟩), .slice A (some0 es).length cap] w fun e w' => e = .returned (.tuple #[]) ∧ IsLed w' XL BL (addF f a.c es) (d + debs es) ∧ Touch (XB XL BL) w w' := by
  by_cases hne : some0 es = []
  · obtain ⟨e1, e2⟩ := addF_nothing f a.c hne
    rw [e1, e2, hne]
    have H := hid h.led
    clear h hg hp hR hlo e1 e2
    simp only [List.length_nil]
    go_enter Tryz.func25, Tryz.ntmps25
    go_wp2_with fail
    go_end0
    exact ⟨rfl, by simpa using H.out, .refl _ _⟩
  · have hz := hp.zero hne
    have hl : (some0 es).length ≤ 8 := Nat.le_trans (List.length_filter_le _ _) hp.len
    have hpos : decide ((0 : Int) < ((some0 es).length : Int)) = true := decide_eq_true (by have := List.length_pos_iff.2 hne; omega)
    have hpos2 : 0 < (some0 es).length := List.length_pos_iff.2 hne
    have hbd : Below w.heap.size w w.drew := below_drewN (Below.refl _ _) 1
    have hd := h.next hbd
    have K := lpost_any (d := d) a.c (some0 es) A cap w.drew hd.led (hR.below hbd) (by omega) (fun _ b hb => hlo b hb)
    unfold PostL nextF nextD at K
    rw [if_pos hz, if_pos hz, hz, addF_some0, (sums_some0 es).2] at K
    replace K := hid K
    obtain ⟨N, hN⟩ : ∃ N, N = (some0 es).length := ⟨_, rfl⟩
    rw [← hN] at K hpos hl hpos2 ⊢
    have c0 : w.drew.cell? ⟨X, 0, none⟩ = some (.pointer (some ⟨XL, 0, none⟩)) := hd.blk.cell 0
    have c1 : w.drew.cell? ⟨g, 1, none⟩ = some (.int .i64 a.c) := (hg.next hbd).cell 1
    obtain ⟨C, hCd⟩ : ∃ C : World → Prop, ∀ w', C w' ↔ w' = w.drew := ⟨_, fun _ => Iff.rfl⟩
    have hC : C w.drew := (hCd _).2 rfl
    have q0 : ∀ p : In C, p.w.cell? ⟨X, 0, none⟩ = some (.pointer (some ⟨XL, 0, none⟩)) := fun p => by rw [(hCd _).1 p.h]; exact c0
    have q1 : ∀ p : In C, p.w.cell? ⟨g, 1, none⟩ = some (.int .i64 a.c) := fun p => by rw [(hCd _).1 p.h]; exact c1
    have HCd := hid hCd
    have HB := hid (Touch.of_below (S := XB XL BL) hbd)
    generalize a.c = c at *
    clear h hg hp hR hlo hz hN hne hd hbd c0 c1 hCd
    go_enter Tryz.func25, Tryz.ntmps25
    go_wp2_with fail
    refine wp_region_in_tail C 9 (by kernel_rfl) (by kernel_rfl) hC ?_
    intro hne
    clear hC
    refine wpIn_quiet ?_
    simp only [List.take_succ_cons, List.take_zero, List.drop_succ_cons, List.drop_zero]
    repeat (first | go_big_quiet_step (fail) | quiet_step (fail))
    refine wpQuiet_nil ?_
    intro wp hwp
    obtain rfl := (HCd.out _).1 hwp
    clear q0 q1 hne hwp HCd
    go_wp2_with fail
    refine K.out.mono ?_
    rintro e w5 ⟨rfl, hL, hT⟩
    have HF := hid (And.intro hL (HB.out.then hT))
    clear K hL hT
    go_wp2_with fail
    go_end0
    exact ⟨rfl, HF.out.1, HF.out.2⟩
end

end Go.Proofs.YthdmbbfppgenlaaGreat
