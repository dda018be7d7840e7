/-
  The ledger: Restore.
-/
import Derived.Test.YtjlfhfhckomalaaLedR
import Derived.Test.YtjlfhfhckomalaaLedWakes
import Derived.Deep.MidRow
namespace Go.Proofs.Ytjlfhfhckomalaa
open Go.RowKit Go.WideShapes Go.ChangeShapes Go.ChangeAt Go.Deep
set_option linter.unusedVariables false

/-- The sums of all customers, as the call keeps them. -/
def wholeC (f : Fn) : Array Value := (Array.range 65).map fun c : Nat => Value.int .i64 (rowF f (c : Int))
theorem wholeC_size (f : Fn) : (wholeC f).size = 65 := by simp [wholeC]
theorem wholeC_at (f : Fn) {c : Nat} (hc : c < 65) : (wholeC f)[c]? = some (.int .i64 (rowF f c)) := by
  unfold wholeC
  rw [Array.getElem?_map, Array.getElem?_range, if_pos hc]; rfl
theorem wholeC_set {f : Fn} {c a : Nat} {v : Int} (hf : f ((c : Int), (a : Int)) = 0) (hc : c < 65) (ha : a < 6) : (wholeC f).setIfInBounds c (.int .i64 (rowF f c + v)) = wholeC (setF f ((c : Int), (a : Int)) v) := by
  apply Array.ext_getElem?
  intro i
  rw [Array.getElem?_setIfInBounds]
  by_cases h : i < 65
  · rw [wholeC_at _ h, wholeC_at _ h, rowF_set hf (by simp only; omega)]
    by_cases hi : c = i
    · subst hi
      rw [if_pos rfl, if_pos (by rw [wholeC_size]; omega), if_pos rfl]
    · rw [if_neg hi, if_neg (by simp only; omega)]
  · rw [if_neg (by omega), Array.getElem?_eq_none (by rw [wholeC_size]; omega), Array.getElem?_eq_none (by rw [wholeC_size]; omega)]
theorem zero_whole (w : World) : (zeroValue 74).run Try.prog w = .ok (.agg (wholeC f0)) w := by kernel_rfl

/-- What Restore leaves. -/
def RestL (t : Int) (l : List Sm) (w : World) (e : Ending) (w' : World) : Prop :=
  (RestOk t l → ∃ X B, e = .returned (.tuple #[.pointer (some ⟨X, 0, none⟩), .int .i64 0]) ∧ w.heap.size ≤ B ∧ w.heap.size ≤ X ∧ IsLed w' X B (fromL l) t) ∧ (¬ RestOk t l → e = .returned (.tuple #[.pointer none, .int .i64 2]))
theorem RestL.no {t : Int} {l : List Sm} {w w' : World} (h : ¬ RestOk t l) : RestL t l w (.returned (.tuple #[.pointer none, .int .i64 2])) w' := ⟨fun h' => absurd h' h, fun _ => rfl⟩

/-- One element of an array's value. -/
theorem index_row {P : Program} {t it : TypeId} {n : Nat} (hu : P.underlying t = some (.array n it)) (ha : ∀ w, (isAgg it).run P w = .ok false w) (hs : ∀ w, (sizeOf it).run P w = .ok 1 w) (cs : Array Value) (k : Nat) (hk : k < n) (v : Value) (hv : cs[k]? = some v) (w : World) :
    (Instr.index t (.agg cs) (.int .i64 (k : Int))).run P w = .ok v w := by
  simp [Instr.index, run_underlying hu, asIntOf, part, ha, hs, hv, go_sem]
  omega
/-- A whole block read as one value. -/
theorem wpList_load_blk {P : Program} {ops : Array Oper} {rest : List Oper} {op : Oper} {a : Act} {w : World} {Q : Exit → Act → World → Prop} (hgd : op.guard = none) (ty : TypeId) (x : Operand) (ho : op.op = .load ty x)
    (b : Nat) (hx : a.eval x = .pointer (some ⟨b, 0, none⟩)) (cs : Array Value) {t : TypeId} (hb : Blk w b t cs) (d : TypeDesc) (hu : P.underlying ty = some d) (hd : d.isRow = true) (hi : (P.info? ty).map (·.size) = some cs.size)
    (h : wpList P ops Q rest (a.put op.dst (.agg cs)) w) : wpList P ops Q (op :: rest) a w := by
  refine wpList_load_mid hgd ty x ho b 0 hx cs.toList d (fun j v hv => ?_) hu hd (by rw [Array.length_toList]; exact hi) (by rw [Array.toArray_toList]; exact h)
  rw [Nat.zero_add, hb.cell]
  simpa using hv
/-- A ledger in the making. -/
structure RS (w : World) (X B Wh : Nat) (t : Int) (f : Fn) (wr : World) : Prop where
  blk : Blk wr X 61 #[.map (some B), .int .i64 t, .int .i64 t]
  map : ∃ m : LMap, IsMap wr B kP vI m ∧ Led m f
  whole : Blk wr Wh 74 (wholeC f)
  bel : Below w.heap.size w wr
theorem RS.next {w wr w' : World} {X B Wh : Nat} {t : Int} {f : Fn} (h : RS w X B Wh t f wr) (hb : Below wr.heap.size wr w') : RS w X B Wh t f w' := ⟨h.blk.next hb, by obtain ⟨m, a, b⟩ := h.map; exact ⟨m, a.next hb, b⟩, h.whole.next hb, bthen h.bel hb⟩
/-- The order of the k-th sum and the one ahead of it. -/
def ordB (l : List Sm) (k : Nat) (x : Sm) : Bool := decide (k = 0) || ltS (keyS (l.getD (k - 1) default)) (keyS x)
def goodB (t : Int) (l : List Sm) (k : Nat) (x : Sm) : Bool := okS t x && ordB l k x
theorem goodB_of {t : Int} {l : List Sm} {k : Nat} {x : Sm} (h : goodB t l k x = true) : okS t x = true ∧ ∀ y, 0 < k → l[k - 1]? = some y → ltS (keyS y) (keyS x) = true := by
  unfold goodB ordB at h
  simp only [Bool.and_eq_true, Bool.or_eq_true, decide_eq_true_eq] at h
  refine ⟨h.1, fun y h0 hy => ?_⟩
  have := h.2.resolve_left (by omega)
  rw [List.getD_eq_getElem?_getD, hy] at this
  exact this
theorem goodB_no {t : Int} {l : List Sm} {k : Nat} {x : Sm} (h : goodB t l k x = false) (hg : GoodAt t l k x) (hk : k ≤ l.length) : False := by
  have : goodB t l k x = true := by
    unfold goodB ordB
    rw [hg.ok, Bool.true_and, Bool.or_eq_true, decide_eq_true_eq]
    by_cases h0 : k = 0
    · exact .inl h0
    · right
      obtain ⟨y, hy⟩ : ∃ y, l[k - 1]? = some y := ⟨l[k - 1], List.getElem?_eq_getElem (by omega)⟩
      rw [List.getD_eq_getElem?_getD, hy]
      exact hg.lt y (by omega) hy
  rw [this] at h
  cases h

set_option maxRecDepth 100000 in
set_option maxHeartbeats 16000000 in
theorem lrestore_any (t : Int) (l : List Sm) (A : Option Addr) (cp : Nat) (w : World) (hR : Rd w A (l.flatMap enS)) (hl : l.length ≤ 140737488355328) :
    Calls Try.prog 18 #[.int .i64 t, .slice A l.length cp] w fun e w' => RestL t l w e w' ∧ Below w.heap.size w w' := by
  by_cases ht0 : 0 ≤ t
  · by_cases ht1 : t ≤ 1152921504606846976
    · go_enter Try.func18, Try.ntmps18
      go_wp2_with fail
      refine (lnew_any _).mono ?_
      rintro e w1 ⟨X, B, rfl, hB, hX, h, hb⟩
      have hX0 := hX
      obtain ⟨m0, hM0, hL0⟩ := h.map
      have hXB := h.ne
      have hX1 := h.blk
      have z1 : w1.cell? ⟨X, 1, none⟩ = some (.int .i64 0) := hX1.cell 1
      have z2 : w1.cell? ⟨X, 2, none⟩ = some (.int .i64 0) := hX1.cell 2
      have z3 : w1.frozen? ⟨X, 1, none⟩ = false := hX1.free 1
      have z4 : w1.frozen? ⟨X, 2, none⟩ = false := hX1.free 2
      have hX2 : Blk ((w1.setCell ⟨X, 1, none⟩ (.int .i64 t)).setCell ⟨X, 2, none⟩ (.int .i64 t)) X 61 #[.map (some B), .int .i64 t, .int .i64 t] := (hX1.set_ 1 _).set_ 2 _
      have hM2 := (hM0.setCell ⟨X, 1, none⟩ (.int .i64 t)).setCell ⟨X, 2, none⟩ (.int .i64 t)
      have hT2 : Touch (· = X) w1 ((w1.setCell ⟨X, 1, none⟩ (.int .i64 t)).setCell ⟨X, 2, none⟩ (.int .i64 t)) := (Touch.setCell _ _ _ _).then (Touch.setCell _ _ _ _)
      have hb2 := hb.trans (hT2.below hb.size (fun k hk => by rw [hk]; exact hX))
      have hz := zero_whole
      have HQ := hid (And.intro hX2 (And.intro hM2 (And.intro hb2 hT2.size)))
      have hxl := hX1.lt
      have hml := hM0.lt
      clear h hX1 hX2 hM2 hT2 hb2 hb hM0
      have hW1 : Hid (∀ W : World, W.heap.size = w1.heap.size → Blk (W.alloc (.cells (wholeC f0) 74)) w1.heap.size 74 (wholeC f0)) := hid (fun W hW => by rw [← hW]; exact Blk.new W _ _)
      go_wp2_with fail
      obtain ⟨W2, hW2⟩ : ∃ W2, W2 = (w1.setCell ⟨X, 1, none⟩ (.int .i64 t)).setCell ⟨X, 2, none⟩ (.int .i64 t) := ⟨_, rfl⟩
      have hsz2 : W2.heap.size = w1.heap.size := by rw [hW2]; simp [World.setCell]
      obtain ⟨Wh, hWh⟩ : ∃ Wh, Wh = w1.heap.size := ⟨_, rfl⟩
      rw [← hW2] at HQ ⊢
      rw [← hWh] at hW1 hsz2 hxl hml ⊢
      have hR0 : RS w X B Wh t f0 (W2.alloc (.cells (wholeC f0) 74)) := ⟨HQ.out.1.alloc _, ⟨m0, HQ.out.2.1.alloc _, hL0⟩, hW1.out W2 hsz2, HQ.out.2.2.1.alloc HQ.out.2.2.1.size _⟩
      have hwX : Wh ≠ X := by omega
      have hwB : Wh ≠ B := by omega
      have hww : w.heap.size ≤ Wh := by omega
      clear HQ hW1 hW2 hz z1 z2 z3 z4 hL0 hxl hml hsz2 hWh
      go_loopw [8, 30] (fun dv iv wr => ∃ k : Nat, k ≤ l.length ∧ iv = .int .i64 k ∧ dv = .int .i64 (debS (l.take k)) ∧ debS (l.take k) ≤ t ∧ Hid (GoodTo t l k) ∧ RS w X B Wh t (fromL (l.take k)) wr) (fun _ iv _ => l.length - (intOf iv).toNat)
      case atStart => exact ⟨0, Nat.zero_le _, rfl, rfl, ht0, hid (GoodTo.zero t l), hR0⟩
      case round =>
        clear hR0
        obtain ⟨k, hk, rfl, rfl, hdt, hG, h⟩ := hrel
        have hdn := debS_nonneg (l.take k)
        by_cases hlt : k < l.length
        · obtain ⟨x, hx⟩ : ∃ x, l[k]? = some x := ⟨l[k], List.getElem?_eq_getElem hlt⟩
          have hR1 := hR.below h.bel
          obtain ⟨b, off, rfl, hbs, hcc⟩ := hR1.at_ 3 enS_len (by omega) hx
          have HS : Hid (l.take (k + 1) = l.take k ++ [x]) := hid (by rw [List.take_add_one, hx]; rfl)
          have HX := hid hx
          obtain ⟨xc, xa, xn⟩ := x
          have q0 : wr.cell? ⟨b, off + k * 3, none⟩ = some (.int .i64 xc) := hcc 0 _ rfl
          have q1 : wr.cell? ⟨b, off + k * 3 + 1, none⟩ = some (.int .i64 xa) := hcc 1 _ rfl
          have q2 : wr.cell? ⟨b, off + k * 3 + 2, none⟩ = some (.int .i64 xn) := hcc 2 _ rfl
          have hwb : Below wr.heap.size wr (wr.alloc (.cells #[.int .i64 xc, .int .i64 xa, .int .i64 xn] 35)) := (Below.refl _ _).alloc (Nat.le_refl _) _
          have hBG : Blk (wr.alloc (.cells #[.int .i64 xc, .int .i64 xa, .int .i64 xn] 35)) wr.heap.size 35 #[.int .i64 xc, .int .i64 xa, .int .i64 xn] := Blk.new _ _ _
          obtain ⟨G, hGe⟩ : ∃ G, G = wr.heap.size := ⟨_, rfl⟩
          have hGX : G ≠ X := by have := h.blk.lt; omega
          have hGB : G ≠ B := by have := (h.map.choose_spec.1).lt; omega
          have hGW : G ≠ Wh := by have := h.whole.lt; omega
          have hGw : w.heap.size ≤ G := by have := h.bel.size; omega
          rw [← hGe] at hBG
          obtain ⟨C, hCd⟩ : ∃ C : World → Prop, ∀ w', C w' ↔ (RS w X B Wh t (fromL (l.take k)) w' ∧ Blk w' G 35 #[.int .i64 xc, .int .i64 xa, .int .i64 xn]) := ⟨_, fun _ => Iff.rfl⟩
          have hK : ∀ w1 w2, C w1 → Below w1.heap.size w1 w2 → C w2 := fun w1 w2 h hb => by
            obtain ⟨a1, a2⟩ := (hCd _).1 h
            exact (hCd _).2 ⟨a1.next hb, a2.next hb⟩
          have hC : C (wr.alloc (.cells #[.int .i64 xc, .int .i64 xa, .int .i64 xn] 35)).drew := hK _ _ ((hCd _).2 ⟨h.next hwb, hBG⟩) (below_drewN (Below.refl _ _) 1)
          have HC := hid hC
          have HK := hid hK
          have HCd := hid hCd
          have g0 : ∀ p : In C, p.w.cell? ⟨G, 0, none⟩ = some (.int .i64 xc) := fun p => ((hCd _).1 p.h).2.cell 0
          have g1 : ∀ p : In C, p.w.cell? ⟨G, 1, none⟩ = some (.int .i64 xa) := fun p => ((hCd _).1 p.h).2.cell 1
          have g2 : ∀ p : In C, p.w.cell? ⟨G, 2, none⟩ = some (.int .i64 xn) := fun p => ((hCd _).1 p.h).2.cell 2
          have HY : Hid (∀ (p : In C) (y : Sm), l[k - 1]? = some y → ∀ j u, (enS y)[j]? = some u → p.w.cell? ⟨b, off + (k - 1) * 3 + j, none⟩ = some u) := hid (fun p y hy => by
            obtain ⟨b', off', he, _, hc⟩ := (hR.below ((hCd _).1 p.h).1.bel).at_ 3 enS_len (by omega) hy
            injection he with he
            simp only [Addr.mk.injEq, and_true] at he
            obtain ⟨rfl, rfl⟩ := he
            exact hc)
          clear hCd hK hC hcc hx hR1 hwb hBG h
          go_upto_region 10 with fail
          rw [← hGe]
          go_cut [72] (fun v wx => v = .bool (!goodB t l k ⟨xc, xa, xn⟩) ∧ C wx)
          case first =>
            clear hGe q0 q1 q2 HS HX hG hdt hdn HCd hGX hGB hGW hGw hwX hwB hww
            cases hf : fitB xc xa with
            | false =>
              have HV : Hid ((!goodB t l k ⟨xc, xa, xn⟩) = true) := hid (by
                have h : okS t ⟨xc, xa, xn⟩ = false := Bool.eq_false_iff.2 (fun h => by have := (okS_iff t _).1 h; rw [(fitB_iff xc xa).2 ⟨this.1, this.2.1, this.2.2.1, this.2.2.2.1⟩] at hf; cases hf)
                unfold goodB; rw [h]; rfl)
              have OF : Hid (∀ p : In C, Calls Try.prog 21 #[.int .i64 xc, .int .i64 xa] p.w fun e w' => e = .returned (.bool false) ∧ C w') := hid (fun p => (lfit_any xc xa p.w).mono fun _ _ ⟨e1, e2⟩ => ⟨by rw [e1, hf], by rw [← e2]; exact p.h⟩)
              have OO := hid trivial
              clear hf
              refine wp_region_in C (by kernel_rfl) (by kernel_rfl) HC.out ?_
              intro hne
              repeat (first | go_big_quiet_step ((first | (go_at_call 21; exact Calls.in_of (OF.out _)) | (go_at_call 23; exact Calls.in_of (OO.out _)))) | quiet_step ((first | (go_at_call 21; exact Calls.in_of (OF.out _)) | (go_at_call 23; exact Calls.in_of (OO.out _)))))
              refine wpQuiet_nil ?_
              intro wq hq
              go_wp2_with fail
              go_meet
              exact ⟨by rw [HV.out], hq⟩
            | true =>
              have OF : Hid (∀ p : In C, Calls Try.prog 21 #[.int .i64 xc, .int .i64 xa] p.w fun e w' => e = .returned (.bool true) ∧ C w') := hid (fun p => (lfit_any xc xa p.w).mono fun _ _ ⟨e1, e2⟩ => ⟨by rw [e1, hf], by rw [← e2]; exact p.h⟩)
              obtain ⟨f1, f2, f3, f4⟩ := (fitB_iff xc xa).1 hf
              clear hf
              by_cases hk0 : k = 0
              · have HOB : Hid (ordB l k ⟨xc, xa, xn⟩ = true) := hid (by unfold ordB; simp [hk0])
                have b0 : decide ((0 : Int) < (k : Int)) = false := by simp; omega
                have OO := hid trivial
                by_cases n0 : xn = 0
                · have e1 : (xn == 0) = true := by simpa using n0
                  have HV : Hid ((!goodB t l k ⟨xc, xa, xn⟩) = true) := hid (by unfold goodB okS; simp [n0])
                  clear n0
                  refine wp_region_in C (by kernel_rfl) (by kernel_rfl) HC.out ?_
                  intro hne
                  repeat (first | go_big_quiet_step ((first | (go_at_call 21; exact Calls.in_of (OF.out _)) | (go_at_call 23; exact Calls.in_of (OO.out _)))) | quiet_step ((first | (go_at_call 21; exact Calls.in_of (OF.out _)) | (go_at_call 23; exact Calls.in_of (OO.out _)))))
                  refine wpQuiet_nil ?_
                  intro wq hq
                  go_wp2_with fail
                  go_meet
                  exact ⟨by rw [HV.out], hq⟩
                · have e1 : (xn == 0) = false := by simpa using n0
                  by_cases n1 : xn ≤ t
                  · have e2 : decide (t < xn) = false := by simp; omega
                    by_cases n2 : -t ≤ xn
                    · have e3 : decide (xn < -t) = false := by simp; omega
                      have HV : Hid ((!goodB t l k ⟨xc, xa, xn⟩) = false) := hid (by unfold goodB; rw [(okS_iff t _).2 ⟨f1, f2, f3, f4, n0, n1, n2⟩, HOB.out]; rfl)
                      clear n0
                      refine wp_region_in C (by kernel_rfl) (by kernel_rfl) HC.out ?_
                      intro hne
                      repeat (first | go_big_quiet_step ((first | (go_at_call 21; exact Calls.in_of (OF.out _)) | (go_at_call 23; exact Calls.in_of (OO.out _)))) | quiet_step ((first | (go_at_call 21; exact Calls.in_of (OF.out _)) | (go_at_call 23; exact Calls.in_of (OO.out _)))))
                      refine wpQuiet_nil ?_
                      intro wq hq
                      go_wp2_with fail
                      go_meet
                      exact ⟨by rw [HV.out], hq⟩
                    · have e3 : decide (xn < -t) = true := by simp; omega
                      have HV : Hid ((!goodB t l k ⟨xc, xa, xn⟩) = true) := hid (by unfold goodB okS; simp [n2])
                      clear n0 n2
                      refine wp_region_in C (by kernel_rfl) (by kernel_rfl) HC.out ?_
                      intro hne
                      repeat (first | go_big_quiet_step ((first | (go_at_call 21; exact Calls.in_of (OF.out _)) | (go_at_call 23; exact Calls.in_of (OO.out _)))) | quiet_step ((first | (go_at_call 21; exact Calls.in_of (OF.out _)) | (go_at_call 23; exact Calls.in_of (OO.out _)))))
                      refine wpQuiet_nil ?_
                      intro wq hq
                      go_wp2_with fail
                      go_meet
                      exact ⟨by rw [HV.out], hq⟩
                  · have e2 : decide (t < xn) = true := by simp; omega
                    have HV : Hid ((!goodB t l k ⟨xc, xa, xn⟩) = true) := hid (by unfold goodB okS; simp [n1])
                    clear n0 n1
                    refine wp_region_in C (by kernel_rfl) (by kernel_rfl) HC.out ?_
                    intro hne
                    repeat (first | go_big_quiet_step ((first | (go_at_call 21; exact Calls.in_of (OF.out _)) | (go_at_call 23; exact Calls.in_of (OO.out _)))) | quiet_step ((first | (go_at_call 21; exact Calls.in_of (OF.out _)) | (go_at_call 23; exact Calls.in_of (OO.out _)))))
                    refine wpQuiet_nil ?_
                    intro wq hq
                    go_wp2_with fail
                    go_meet
                    exact ⟨by rw [HV.out], hq⟩
              · have b0 : (0 : Int) < (k : Int) := by omega
                have b0n : 0 < k := by omega
                have hkw : IntKind.i64.wrap ((k : Int) - 1) = ((k - 1 : Nat) : Int) := by rw [IntWalk.i64_in _ ⟨by omega, by omega⟩]; omega
                have hkl : k - 1 < l.length := by omega
                obtain ⟨y, hy⟩ : ∃ y, l[k - 1]? = some y := ⟨l[k - 1], List.getElem?_eq_getElem hkl⟩
                have HOBe : Hid (ordB l k ⟨xc, xa, xn⟩ = lt2S y ⟨xc, xa, xn⟩) := hid (by unfold ordB; rw [lt2S_eq, List.getD_eq_getElem?_getD, hy]; simp [hk0])
                have g3 := fun p : In C => HY.out p y hy
                obtain ⟨yc, ya, yn⟩ := y
                have g4 : ∀ p : In C, p.w.cell? ⟨b, off + (k - 1) * 3, none⟩ = some (.int .i64 yc) := fun p => g3 p 0 _ rfl
                have g5 : ∀ p : In C, p.w.cell? ⟨b, off + (k - 1) * 3 + 1, none⟩ = some (.int .i64 ya) := fun p => g3 p 1 _ rfl
                have g6 : ∀ p : In C, p.w.cell? ⟨b, off + (k - 1) * 3 + 2, none⟩ = some (.int .i64 yn) := fun p => g3 p 2 _ rfl
                obtain ⟨cf, hcf⟩ : ∃ cf, cf = cfS ⟨yc, ya, yn⟩ ⟨xc, xa, xn⟩ := ⟨_, rfl⟩
                have OO : Hid (∀ p : In C, Calls Try.prog 23 #[.agg #[.int .i64 yc, .int .i64 ya, .int .i64 yn], .agg #[.int .i64 xc, .int .i64 xa, .int .i64 xn]] p.w fun e w' => e = .returned (.int .i64 cf) ∧ C w') := hid (fun p => (lorder_any ⟨yc, ya, yn⟩ ⟨xc, xa, xn⟩ p.w).mono fun _ _ ⟨e1, e2⟩ => ⟨by rw [e1, hcf], HK.out _ _ p.h (grew_below e2)⟩)
                clear g3 hy hk0
                by_cases ho : 0 ≤ cf
                · have HV : Hid ((!goodB t l k ⟨xc, xa, xn⟩) = true) := hid (by
                    have h : ordB l k ⟨xc, xa, xn⟩ = false := by rw [HOBe.out]; unfold lt2S; rw [← hcf]; simp; omega
                    unfold goodB; rw [h, Bool.and_false]; rfl)
                  clear hcf
                  refine wp_region_in C (by kernel_rfl) (by kernel_rfl) HC.out ?_
                  intro hne
                  repeat (first | go_big_quiet_step ((first | (go_at_call 21; exact Calls.in_of (OF.out _)) | (go_at_call 23; exact Calls.in_of (OO.out _)))) | quiet_step ((first | (go_at_call 21; exact Calls.in_of (OF.out _)) | (go_at_call 23; exact Calls.in_of (OO.out _)))))
                  refine wpQuiet_nil ?_
                  intro wq hq
                  go_wp2_with fail
                  go_meet
                  exact ⟨by rw [HV.out], hq⟩
                · have HOB : Hid (ordB l k ⟨xc, xa, xn⟩ = true) := hid (by rw [HOBe.out]; unfold lt2S; rw [← hcf]; simp; omega)
                  have b3 : decide (0 ≤ cf) = false := by simp; omega
                  clear hcf ho
                  by_cases n0 : xn = 0
                  · have e1 : (xn == 0) = true := by simpa using n0
                    have HV : Hid ((!goodB t l k ⟨xc, xa, xn⟩) = true) := hid (by unfold goodB okS; simp [n0])
                    clear n0
                    refine wp_region_in C (by kernel_rfl) (by kernel_rfl) HC.out ?_
                    intro hne
                    repeat (first | go_big_quiet_step ((first | (go_at_call 21; exact Calls.in_of (OF.out _)) | (go_at_call 23; exact Calls.in_of (OO.out _)))) | quiet_step ((first | (go_at_call 21; exact Calls.in_of (OF.out _)) | (go_at_call 23; exact Calls.in_of (OO.out _)))))
                    refine wpQuiet_nil ?_
                    intro wq hq
                    go_wp2_with fail
                    go_meet
                    exact ⟨by rw [HV.out], hq⟩
                  · have e1 : (xn == 0) = false := by simpa using n0
                    by_cases n1 : xn ≤ t
                    · have e2 : decide (t < xn) = false := by simp; omega
                      by_cases n2 : -t ≤ xn
                      · have e3 : decide (xn < -t) = false := by simp; omega
                        have HV : Hid ((!goodB t l k ⟨xc, xa, xn⟩) = false) := hid (by unfold goodB; rw [(okS_iff t _).2 ⟨f1, f2, f3, f4, n0, n1, n2⟩, HOB.out]; rfl)
                        clear n0
                        refine wp_region_in C (by kernel_rfl) (by kernel_rfl) HC.out ?_
                        intro hne
                        repeat (first | go_big_quiet_step ((first | (go_at_call 21; exact Calls.in_of (OF.out _)) | (go_at_call 23; exact Calls.in_of (OO.out _)))) | quiet_step ((first | (go_at_call 21; exact Calls.in_of (OF.out _)) | (go_at_call 23; exact Calls.in_of (OO.out _)))))
                        refine wpQuiet_nil ?_
                        intro wq hq
                        go_wp2_with fail
                        go_meet
                        exact ⟨by rw [HV.out], hq⟩
                      · have e3 : decide (xn < -t) = true := by simp; omega
                        have HV : Hid ((!goodB t l k ⟨xc, xa, xn⟩) = true) := hid (by unfold goodB okS; simp [n2])
                        clear n0 n2
                        refine wp_region_in C (by kernel_rfl) (by kernel_rfl) HC.out ?_
                        intro hne
                        repeat (first | go_big_quiet_step ((first | (go_at_call 21; exact Calls.in_of (OF.out _)) | (go_at_call 23; exact Calls.in_of (OO.out _)))) | quiet_step ((first | (go_at_call 21; exact Calls.in_of (OF.out _)) | (go_at_call 23; exact Calls.in_of (OO.out _)))))
                        refine wpQuiet_nil ?_
                        intro wq hq
                        go_wp2_with fail
                        go_meet
                        exact ⟨by rw [HV.out], hq⟩
                    · have e2 : decide (t < xn) = true := by simp; omega
                      have HV : Hid ((!goodB t l k ⟨xc, xa, xn⟩) = true) := hid (by unfold goodB okS; simp [n1])
                      clear n0 n1
                      refine wp_region_in C (by kernel_rfl) (by kernel_rfl) HC.out ?_
                      intro hne
                      repeat (first | go_big_quiet_step ((first | (go_at_call 21; exact Calls.in_of (OF.out _)) | (go_at_call 23; exact Calls.in_of (OO.out _)))) | quiet_step ((first | (go_at_call 21; exact Calls.in_of (OF.out _)) | (go_at_call 23; exact Calls.in_of (OO.out _)))))
                      refine wpQuiet_nil ?_
                      intro wq hq
                      go_wp2_with fail
                      go_meet
                      exact ⟨by rw [HV.out], hq⟩
          case rest =>
            obtain ⟨rfl, hq⟩ := hcut
            obtain ⟨h, hBG⟩ := (HCd.out _).1 hq
            clear g0 g1 g2 HY HC HK HCd hq q0 q1 q2 hGe
            cases hgb : goodB t l k ⟨xc, xa, xn⟩ with
            | false =>
              have hn : ¬ RestOk t l := fun h => goodB_no hgb (h.good k _ hlt HX.out) hk
              have HN := hid (fun w' => RestL.no (w := w) (w' := w') hn)
              have hbw := h.bel
              clear hgb hn h hBG
              go_wp2_with fail
              go_ret2
              exact ⟨HN.out _, hbw⟩
            | true =>
              obtain ⟨hok, hlt2⟩ := goodB_of hgb
              have ho := (okS_iff t _).1 hok
              simp only at ho
              obtain ⟨o1, o2, o3, o4, o5, o6, o7⟩ := ho
              have hnew := hG.out.new HX.out hlt2
              obtain ⟨cn, rfl⟩ : ∃ cn : Nat, xc = (cn : Int) := ⟨xc.toNat, by omega⟩
              obtain ⟨an, rfl⟩ : ∃ an : Nat, xa = (an : Int) := ⟨xa.toNat, by omega⟩
              have hcn : cn < 65 := by omega
              have hcn2 : (cn : Int) < 65 := by omega
              have han : an < 6 := by omega
              have hFn := hid (show fromL (l.take (k + 1)) = setF (fromL (l.take k)) ((cn : Int), (an : Int)) xn from by rw [HS.out, fromL_snoc]; rfl)
              have hDn := hid (show debS (l.take (k + 1)) = debS (l.take k) + pos xn from by rw [HS.out, debS_snoc])
              have hrb := rowF_bd (fun p => hG.out.bd hk ht0 p) (cn : Int)
              have hGd := hid (fun (hd : debS (l.take (k + 1)) ≤ t) => hG.out.succ (fun x' hx' => by rw [HX.out] at hx'; injection hx' with hx'; subst hx'; exact ⟨hok, hlt2, hd⟩))
              have hBad := hid (fun (hd : ¬ debS (l.take (k + 1)) ≤ t) (h : RestOk t l) => hd (h.good k _ hlt HX.out).deb)
              obtain ⟨m, hM, hL⟩ := h.map
              have hX := h.blk
              have hW := h.whole
              have hbw := h.bel
              have hWs := hid (wholeC_set (v := xn) hnew hcn han)
              have hL2 := hid (hL.set ((cn : Int), (an : Int)) xn o5)
              have hwa := wholeC_at (fromL (l.take k)) hcn
              generalize fromL (l.take k) = f at *
              generalize debS (l.take k) = D at *
              have HW := hid hW
              have q0 : World.cell? _ ⟨G, 0, none⟩ = some (.int .i64 (cn : Int)) := hBG.cell 0
              have q1 : World.cell? _ ⟨G, 1, none⟩ = some (.int .i64 (an : Int)) := hBG.cell 1
              have q2 : World.cell? _ ⟨G, 2, none⟩ = some (.int .i64 xn) := hBG.cell 2
              have q3 : World.cell? _ ⟨X, 0, none⟩ = some (.map (some B)) := hX.cell 0
              clear hgb hok hlt2 hnew h hL hW o5 hG HS HX
              go_wp2_with fail
              refine wp_tail 11 (by kernel_rfl) (by kernel_rfl) ?_
              simp only [List.take_succ_cons, List.take_zero, List.drop_succ_cons, List.drop_zero]
              repeat still_step
              refine wpStill_nil ?_
              go_wp2_with (first
                | (at_mapUpdate; refine wpList_store _ rfl _ _ _ 59 2 rfl keyLd Try.underlying59 B m rfl (hM.keep rfl) ((cn : Int), (an : Int)) xn rfl rfl ?_; intro w3 hM3 hg3 hs3))
              have hX3 : Blk w3 X 61 #[.map (some B), .int .i64 t, .int .i64 t] := Blk.grown (w := wc.drew) hX hg3 (fun e => hXB (by injection e))
              have hW3 : Blk w3 Wh 74 (wholeC f) := Blk.grown (w := wc.drew) HW.out hg3 (fun e => hwB (by injection e))
              have hG3 : Blk w3 G 35 #[.int .i64 (cn : Int), .int .i64 (an : Int), .int .i64 xn] := Blk.grown (w := wc.drew) hBG hg3 (fun e => hGB (by injection e))
              have hb3 : Below w.heap.size w w3 := (hbw.drew).grown hg3 hbw.size (fun k hk => by injection hk with hk; omega)
              have r0 : w3.cell? ⟨G, 0, none⟩ = some (.int .i64 (cn : Int)) := hG3.cell 0
              have r1 : w3.cell? ⟨G, 2, none⟩ = some (.int .i64 xn) := hG3.cell 2
              have r2 : w3.cell? ⟨Wh, cn, none⟩ = some (.int .i64 (rowF f cn)) := (hW3.cell cn).trans hwa
              have r3 : w3.frozen? ⟨Wh, cn, none⟩ = false := hW3.free cn
              have hR4 : RS w X B Wh t (fromL (l.take (k + 1))) (w3.setCell ⟨Wh, cn, none⟩ (.int .i64 (rowF f cn + xn))).drew := by
                rw [hFn.out]
                refine ⟨Blk.far hX3 (fun e => hwX e.symm) _, ⟨_, IsMap.setCell hM3 _ _, hL2.out⟩, ?_, (hb3.trans ((Touch.setCell w3 Wh cn _).below hb3.size (fun k hk => by rw [hk]; exact hww))).drew⟩
                have := hW3.set_ cn (.int .i64 (rowF f cn + xn))
                rw [hWs.out] at this
                exact this
              have HG4 := hid (Blk.far hG3 hGW (p := ⟨Wh, cn, none⟩) (.int .i64 (rowF f cn + xn)))
              have HR4 := hid hR4
              clear hX3 hW3 hG3 hb3 hM3 hg3 hs3 hX hM hbw hBG HW q0 q1 q2 q3 hR4 hL2 hWs hwa hFn
              generalize rowF f (cn : Int) = rv at *
              go_wp2_with fail
              refine wp_tail 8 (by kernel_rfl) (by kernel_rfl) ?_
              simp only [List.take_succ_cons, List.take_zero, List.drop_succ_cons, List.drop_zero]
              repeat still_step
              refine wpStill_nil ?_
              clear r0 r1
              have r4 : (w3.setCell ⟨Wh, cn, none⟩ (.int .i64 (rv + xn))).cell? ⟨G, 2, none⟩ = some (.int .i64 xn) := HG4.out.cell 2
              by_cases hpx : 0 < xn
              · have HP := hid (show pos xn = xn from if_pos hpx)
                by_cases hd : D + xn ≤ t
                · have hd2 : decide (t < D + xn) = false := by simp; omega
                  have hd3 : decide (t < D + max 0 xn) = false := by simp; omega
                  have HG2 := hid (hGd.out (by rw [hDn.out, HP.out]; omega))
                  clear hGd hBad
                  go_wp2_with fail
                  go_roundw
                  case rel => exact ⟨k + 1, by omega, by go_num, by rw [hDn.out, HP.out]; exact congrArg (Value.int .i64) (by omega), by rw [hDn.out, HP.out]; omega, HG2, HR4.out⟩
                  case measure => simp [intOf]; omega
                · have hd2 : decide (t < D + xn) = true := by simp; omega
                  have hd3 : decide (t < D + max 0 xn) = true := by simp; omega
                  have hd4 : t < D + max 0 xn := by omega
                  have hn := hBad.out (by rw [hDn.out, HP.out]; omega)
                  have HN := hid (fun w' => RestL.no (w := w) (w' := w') hn)
                  have hbw4 := HR4.out.bel
                  clear hGd hBad hn HR4
                  go_wp2_with fail
                  go_ret2
                  exact ⟨HN.out _, hbw4⟩
              · have HP := hid (show pos xn = 0 from if_neg hpx)
                have hd2 : decide (t < D) = false := by simp; omega
                have HG2 := hid (hGd.out (by rw [hDn.out, HP.out]; omega))
                clear hGd hBad
                go_wp2_with fail
                go_roundw
                case rel => exact ⟨k + 1, by omega, by go_num, by rw [hDn.out, HP.out]; go_num, by rw [hDn.out, HP.out]; omega, HG2, HR4.out⟩
                case measure => simp [intOf]; omega
        · have hk' : k = l.length := by omega
          subst hk'
          rw [List.take_length] at *
          have hX := h.blk
          have hW := h.whole
          have hbw := h.bel
          obtain ⟨m, hM, hL⟩ := h.map
          have hsz := wholeC_size (fromL l)
          have HSZ := hid hsz
          clear hlt hk hsz h
          go_wp2_with (first
            | (refine wpList_load_blk rfl 74 (Operand.tmp 7) rfl Wh rfl (wholeC (fromL l)) hW _ Try.underlying74 rfl (by rw [HSZ.out]; kernel_rfl) ?_))
          go_loop [102] (fun i => ∃ k : Nat, k ≤ 65 ∧ i = .int .i64 k ∧ Hid (∀ c : Nat, c < k → rowF (fromL l) c = 0)) (fun i => 65 - (intOf i).toNat)
          case atStart => exact ⟨0, by omega, rfl, hid (fun c hc => by omega)⟩
          case round =>
            obtain ⟨k, hk, rfl, hz⟩ := hrel
            by_cases hlt : k < 65
            · have hwa := wholeC_at (fromL l) hlt
              have hlt2 : (k : Int) < 65 := by omega
              have hix := index_row Try.underlying74 isAgg_i64 (fun w => by kernel_rfl) (wholeC (fromL l)) k hlt _ hwa wr
              by_cases hr : rowF (fromL l) k = 0
              · have b1 : (rowF (fromL l) k != 0) = false := by simpa using hr
                have HZ2 := hid (show ∀ c : Nat, c < k + 1 → rowF (fromL l) c = 0 from fun c hc => by
                  rcases Nat.lt_succ_iff_lt_or_eq.1 hc with h1 | h1
                  · exact hz.out c h1
                  · subst h1; exact hr)
                generalize rowF (fromL l) k = rv at *
                clear hr hwa
                go_wp2_with fail
                go_round
                case rel => exact ⟨k + 1, by omega, by go_num, HZ2⟩
                case measure => simp [intOf]; omega
              · have b1 : (rowF (fromL l) k != 0) = true := by simpa using hr
                have hn : ¬ RestOk t l := fun h => hr (by
                  rcases Nat.eq_zero_or_pos k with h0 | h0
                  · subst h0
                    exact sum_map_zero _ _ (fun a _ => Classical.byContradiction fun hne => by
                      have := hG.out.sup (Nat.le_refl _) (p := (((0 : Nat) : Int), (a : Int))) (by rw [List.take_length]; exact hne)
                      have := this.1
                      simp at this)
                  · exact h.zero k h0 (by omega))
                have HN := hid (fun w' => RestL.no (w := w) (w' := w') hn)
                generalize rowF (fromL l) k = rv at *
                clear hr hwa hn
                go_wp2_with fail
                go_ret2
                exact ⟨HN.out _, hbw⟩
            · have hk' : k = 65 := by omega
              subst hk'
              have hro : RestOk t l := ⟨ht0, ht1, hG.out, fun c _ h2 => hz.out c (by omega)⟩
              have HE := hid (show RestL t l w (.returned (.tuple #[.pointer (some ⟨X, 0, none⟩), .int .i64 0])) wr from ⟨fun _ => ⟨X, B, rfl, hB, hX0, ⟨hX, ⟨m, hM, hL⟩, hro.inv⟩⟩, fun hn => absurd hro hn⟩)
              clear hro hz hX hM hL hW
              go_wp2_with fail
              go_ret2
              exact ⟨HE.out, hbw⟩
    · have hn : ¬ RestOk t l := fun h => ht1 h.d1
      have HN := hid (RestL.no (w := w) (w' := w) hn)
      clear hn hR
      go_enter Try.func18, Try.ntmps18
      go_wp2_with fail
      go_ret2
      exact ⟨HN.out, Below.refl _ _⟩
  · have hn : ¬ RestOk t l := fun h => ht0 h.d0
    have HN := hid (RestL.no (w := w) (w' := w) hn)
    clear hn hR
    go_enter Try.func18, Try.ntmps18
    go_wp2_with fail
    go_ret2
    exact ⟨HN.out, Below.refl _ _⟩

end Go.Proofs.Ytjlfhfhckomalaa
