/-
  The inbox's Restore at whatever list.
-/
import Derived.Test.YtidjkigkfefojaaRest08
import Derived.Test.YtidjkigkfefojaaIn
namespace Go.Proofs.Ytidjkigkfefojaa
open Go.RowKit Go.WideShapes
set_option linter.unusedVariables false

theorem grew_below {w w' : World} (h : Grew w w') : Below w.heap.size w w' := by
  obtain ⟨q, os, rfl⟩ := h
  exact ⟨rfl, rfl, rfl, by simp [Sort.grow, World.drewN], fun k hk => by rw [Sort.heap_grow_old _ _ (by simpa [World.drewN] using hk)]; rfl⟩

theorem order_below (x y : Ent) (w : World) : Calls Try.prog 25 #[enE x, enE y] w fun e w' => e = .returned (.int .i64 (cfE x y)) ∧ Below w.heap.size w w' :=
  (order_any x y w).mono fun _ _ ⟨h1, h2⟩ => ⟨h1, grew_below h2⟩

/-- Is an entry well made, and behind the one ahead of it? -/
def entB (e : Ent) : Bool := decide (0 ≤ e.t) && (!decide (e.t = 0) || (decide (e.c = 0) && e.b))
theorem entB_ok {e : Ent} : entB e = true ↔ EntOk e := by
  unfold entB EntOk
  simp only [Bool.and_eq_true, Bool.or_eq_true, Bool.not_eq_true', decide_eq_true_eq, decide_eq_false_iff_not]
  constructor
  · rintro ⟨h1, h2⟩
    refine ⟨h1, fun h0 => ?_⟩
    rcases h2 with h2 | h2
    · exact absurd h0 h2
    · exact h2
  · rintro ⟨h1, h2⟩
    refine ⟨h1, ?_⟩
    by_cases h0 : e.t = 0
    · exact .inr (h2 h0)
    · exact .inl h0
def goodAt (l : List Ent) (k : Nat) : Prop := ∀ e, l[k]? = some e → EntOk e ∧ ∀ y, 0 < k → l[k - 1]? = some y → ltE y e = true
def GoodL (l : List Ent) : Prop := ∀ k, k < l.length → goodAt l k

/-- The worlds that the test may meet. -/
def RC (w0 : World) (X B G b o : Nat) (m : List ((Int × Int) × Ent)) (x y : Ent) (w : World) : Prop := IsBox w X B m ∧ Blk w G 58 (enE5 x).toArray ∧ CellsAt w b o (enE5 y) ∧ Below w0.heap.size w0 w
theorem RC.next {w0 w w' : World} {X B G b o : Nat} {m : List ((Int × Int) × Ent)} {x y : Ent} (h : RC w0 X B G b o m x y w) (hb : Below w.heap.size w w') : RC w0 X B G b o m x y w' := ⟨h.1.next hb, h.2.1.next hb, h.2.2.1.next hb, bthen h.2.2.2 hb⟩
def RC0 (w0 : World) (X B G : Nat) (m : List ((Int × Int) × Ent)) (x : Ent) (w : World) : Prop := IsBox w X B m ∧ Blk w G 58 (enE5 x).toArray ∧ Below w0.heap.size w0 w

/-- What Restore leaves. -/
def RestPost (l : List Ent) (w : World) (e : Ending) (w' : World) : Prop :=
  (GoodL l → ∃ X B, e = .returned (.tuple #[.pointer (some ⟨X, 0, none⟩), .int .i64 0]) ∧ w.heap.size ≤ B ∧ w.heap.size ≤ X ∧ IsBox w' X B (restM l)) ∧ (¬ GoodL l → e = .returned (.tuple #[.pointer none, .int .i64 2]))

set_option maxRecDepth 100000 in
set_option maxHeartbeats 16000000 in
theorem restore_any (l : List Ent) (A : Option Addr) (cp : Nat) (w : World) (hR : Rd w A (l.flatMap enE5)) (hl : l.length ≤ 140737488351232) :
    Calls Try.prog 17 #[.slice A l.length cp] w fun e w' => RestPost l w e w' ∧ Below w.heap.size w w' := by
  go_enter Try.func17, Try.ntmps17
  go_wp2_with fail
  refine (new_any _).mono ?_
  rintro e w2 ⟨rfl, h, hb⟩
  have hB : w.heap.size ≤ w.heap.size := Nat.le_refl _
  obtain ⟨B, hBB⟩ : ∃ B, B = w.heap.size := ⟨_, rfl⟩
  obtain ⟨X, hXX⟩ : ∃ X, X = w.heap.size + 1 := ⟨_, rfl⟩
  have hwB : w.heap.size ≤ B := by omega
  have hwX : w.heap.size ≤ X := by omega
  rw [← hXX, ← hBB] at h
  rw [← hXX]
  clear hXX hBB hB
  go_wp2_with fail
  go_loopw [10] (fun i wr => ∃ k : Nat, k ≤ l.length ∧ i = .int .i64 k ∧ Hid (∀ j, j < k → goodAt l j) ∧ IsBox wr X B (restM (l.take k)) ∧ Below w.heap.size w wr) (fun i _ => l.length - (intOf i).toNat)
  case atStart => exact ⟨0, Nat.zero_le _, rfl, hid (fun j hj => by omega), h, hb⟩
  case round =>
    clear h hb
    obtain ⟨k, hk, rfl, hgd, h, hb⟩ := hrel
    by_cases hlt : k < l.length
    · obtain ⟨x, hx⟩ : ∃ x, l[k]? = some x := ⟨l[k], List.getElem?_eq_getElem hlt⟩
      have hR1 := hR.below hb
      obtain ⟨b, off, rfl, hbs, hcc⟩ := hR1.at_ 5 enE5_len (by omega) hx
      have HX : Hid (restM (l.take (k + 1)) = mset (restM (l.take k)) (keyE x) x) := hid (by rw [List.take_add_one, hx]; exact restM_snoc _ _)
      have hprev : k = 0 ∨ ∃ y : Ent, 0 < k ∧ Hid (l[k - 1]? = some y) ∧ ∀ j u, (enE5 y)[j]? = some u → wr.cell? ⟨b, off + (k - 1) * 5 + j, none⟩ = some u := by
        rcases Nat.eq_zero_or_pos k with h0 | h0
        · exact .inl h0
        · right
          have hk1 : k - 1 < l.length := by omega
          obtain ⟨b', off', e', _, hc'⟩ := hR1.at_ (k := k - 1) (x := l[k - 1]) 5 enE5_len (by omega) (List.getElem?_eq_getElem hk1)
          simp only [Option.some.injEq, Addr.mk.injEq, and_true] at e'
          obtain ⟨rfl, rfl⟩ := e'
          exact ⟨l[k - 1], h0, hid (List.getElem?_eq_getElem hk1), hc'⟩
      have HXk := hid hx
      have HY : Hid (∀ (e : Ending) (w5 : World), ¬ goodAt l k → e = .returned (.tuple #[.pointer none, .int .i64 2]) → RestPost l w e w5) := hid (fun e w5 h1 h2 => ⟨fun h3 => absurd (h3 k hlt) h1, fun _ => h2⟩)
      obtain ⟨xo, xs, xt, xc, xb⟩ := x
      have q0 : wr.cell? ⟨b, off + k * 5, none⟩ = some (.int .i64 xo) := hcc 0 _ rfl
      have q1 : wr.cell? ⟨b, off + k * 5 + 1, none⟩ = some (.int .i64 xs) := hcc 1 _ rfl
      have q2 : wr.cell? ⟨b, off + k * 5 + 2, none⟩ = some (.int .i64 xt) := hcc 2 _ rfl
      have q3 : wr.cell? ⟨b, off + k * 5 + 3, none⟩ = some (.int .i64 xc) := hcc 3 _ rfl
      have q4 : wr.cell? ⟨b, off + k * 5 + 4, none⟩ = some (.bool xb) := hcc 4 _ rfl
      have hG : Blk (wr.alloc (.cells #[.int .i64 xo, .int .i64 xs, .int .i64 xt, .int .i64 xc, .bool xb] 58)) wr.heap.size 58 #[.int .i64 xo, .int .i64 xs, .int .i64 xt, .int .i64 xc, .bool xb] := Blk.new _ _ _
      have h1 := h.alloc (.cells #[.int .i64 xo, .int .i64 xs, .int .i64 xt, .int .i64 xc, .bool xb] 58)
      have hb1 := hb.alloc hb.size (.cells #[.int .i64 xo, .int .i64 xs, .int .i64 xt, .int .i64 xc, .bool xb] 58)
      clear hcc hx hR1 h hb
      obtain ⟨wo, rfl⟩ : ∃ wo : World, wo = wr := ⟨_, rfl⟩
      go_upto_region 5 with fail
      obtain ⟨w3, hw3⟩ : ∃ w3, w3 = wo.alloc (.cells #[.int .i64 xo, .int .i64 xs, .int .i64 xt, .int .i64 xc, .bool xb] 58) := ⟨_, rfl⟩
      have hbo : Below wo.heap.size wo w3 := by rw [hw3]; exact (Below.refl _ _).alloc (Nat.le_refl _) _
      rw [← hw3] at hG h1 hb1 ⊢
      obtain ⟨G, hGG⟩ : ∃ G, G = wo.heap.size := ⟨_, rfl⟩
      rw [← hGG] at hG ⊢
      clear hw3 hGG
      go_cut [10, 46] (fun i v wx => i = .int .i64 k ∧ ((v = .bool false ∧ Hid (goodAt l k)) ∨ (v = .bool true ∧ Hid (¬ goodAt l k))) ∧ RC0 w X B G (restM (l.take k)) ⟨xo, xs, xt, xc, xb⟩ wx)
      case first =>
        have hprev2 : k = 0 ∨ ∃ y : Ent, 0 < k ∧ Hid (l[k - 1]? = some y) ∧ CellsAt w3 b (off + (k - 1) * 5) (enE5 y) := by
          rcases hprev with h0 | ⟨y, h0, hy, hc⟩
          · exact .inl h0
          · exact .inr ⟨y, h0, hy, Nat.lt_of_lt_of_le hbs hbo.size, fun j u hu => (hbo.cell (p := ⟨b, off + (k - 1) * 5 + j, none⟩) hbs).trans (hc j u hu)⟩
        clear hprev q0 q1 q2 q3 q4 hbo HX HY
        rcases hprev2 with hkz | ⟨y, hkp, hy, hP⟩
        · have hkz2 : k ≤ 0 := by omega
          clear hkz
          have hk0 : decide (0 < k) = false := decide_eq_false (by omega)
          have hcs : xt < 0 ∨ (xt = 0 ∧ xc ≠ 0) ∨ (xt = 0 ∧ xc = 0 ∧ xb = true) ∨ (xt = 0 ∧ xc = 0 ∧ xb = false) ∨ 0 < xt := by cases xb <;> simp <;> omega
          rcases hcs with hz | ⟨hz, hz2⟩ | ⟨hz, hz2, hz3⟩ | ⟨hz, hz2, hz3⟩ | hz
          · have b1 : decide (xt < 0) = true := decide_eq_true hz
            have HV : Hid (¬ goodAt l k) := hid (fun hh => by have := (hh _ HXk.out).1; have := entB_ok.2 this; simp [entB] at this; omega)
            clear HXk hz
            have hC : (RC0 w X B G (restM (l.take k)) ⟨xo, xs, xt, xc, xb⟩) w3.drew := ⟨h1, hG, hb1.drew⟩
            have g0 : ∀ p : In (RC0 w X B G (restM (l.take k)) ⟨xo, xs, xt, xc, xb⟩), p.w.cell? ⟨G, 0, none⟩ = some (.int .i64 xo) := fun p => p.h.2.1.cell 0
            have g1 : ∀ p : In (RC0 w X B G (restM (l.take k)) ⟨xo, xs, xt, xc, xb⟩), p.w.cell? ⟨G, 1, none⟩ = some (.int .i64 xs) := fun p => p.h.2.1.cell 1
            have g2 : ∀ p : In (RC0 w X B G (restM (l.take k)) ⟨xo, xs, xt, xc, xb⟩), p.w.cell? ⟨G, 2, none⟩ = some (.int .i64 xt) := fun p => p.h.2.1.cell 2
            have g3 : ∀ p : In (RC0 w X B G (restM (l.take k)) ⟨xo, xs, xt, xc, xb⟩), p.w.cell? ⟨G, 3, none⟩ = some (.int .i64 xc) := fun p => p.h.2.1.cell 3
            have g4 : ∀ p : In (RC0 w X B G (restM (l.take k)) ⟨xo, xs, xt, xc, xb⟩), p.w.cell? ⟨G, 4, none⟩ = some (.bool xb) := fun p => p.h.2.1.cell 4
            clear h1 hG hb1
            refine wp_region_in (RC0 w X B G (restM (l.take k)) ⟨xo, xs, xt, xc, xb⟩) (by kernel_rfl) (by kernel_rfl) hC ?_
            intro hne
            clear hC
            repeat (first | go_big_quiet_step (fail) | quiet_step (fail))
            refine wpQuiet_nil ?_
            intro wq hq
            clear g0 g1 g2 g3 g4 hne
            go_wp2_with fail
            go_meet
            exact ⟨rfl, .inr ⟨rfl, HV⟩, hq⟩
          · subst hz; have b3 : (xc != 0) = true := by simpa using hz2
            have HV : Hid (¬ goodAt l k) := hid (fun hh => by have := (hh _ HXk.out).1; have := entB_ok.2 this; simp [entB, hz2] at this)
            clear HXk hz2
            have hC : (RC0 w X B G (restM (l.take k)) ⟨xo, xs, 0, xc, xb⟩) w3.drew := ⟨h1, hG, hb1.drew⟩
            have g0 : ∀ p : In (RC0 w X B G (restM (l.take k)) ⟨xo, xs, 0, xc, xb⟩), p.w.cell? ⟨G, 0, none⟩ = some (.int .i64 xo) := fun p => p.h.2.1.cell 0
            have g1 : ∀ p : In (RC0 w X B G (restM (l.take k)) ⟨xo, xs, 0, xc, xb⟩), p.w.cell? ⟨G, 1, none⟩ = some (.int .i64 xs) := fun p => p.h.2.1.cell 1
            have g2 : ∀ p : In (RC0 w X B G (restM (l.take k)) ⟨xo, xs, 0, xc, xb⟩), p.w.cell? ⟨G, 2, none⟩ = some (.int .i64 0) := fun p => p.h.2.1.cell 2
            have g3 : ∀ p : In (RC0 w X B G (restM (l.take k)) ⟨xo, xs, 0, xc, xb⟩), p.w.cell? ⟨G, 3, none⟩ = some (.int .i64 xc) := fun p => p.h.2.1.cell 3
            have g4 : ∀ p : In (RC0 w X B G (restM (l.take k)) ⟨xo, xs, 0, xc, xb⟩), p.w.cell? ⟨G, 4, none⟩ = some (.bool xb) := fun p => p.h.2.1.cell 4
            clear h1 hG hb1
            refine wp_region_in (RC0 w X B G (restM (l.take k)) ⟨xo, xs, 0, xc, xb⟩) (by kernel_rfl) (by kernel_rfl) hC ?_
            intro hne
            clear hC
            repeat (first | go_big_quiet_step (fail) | quiet_step (fail))
            refine wpQuiet_nil ?_
            intro wq hq
            clear g0 g1 g2 g3 g4 hne
            go_wp2_with fail
            go_meet
            exact ⟨rfl, .inr ⟨rfl, HV⟩, hq⟩
          · subst hz hz2 hz3
            have HV : Hid (goodAt l k) := hid (fun e he => by rw [HXk.out] at he; injection he with he; subst he; exact ⟨entB_ok.1 (by simp [entB]), fun y hy0 _ => by omega⟩)
            clear HXk
            have hC : (RC0 w X B G (restM (l.take k)) ⟨xo, xs, 0, 0, true⟩) w3.drew := ⟨h1, hG, hb1.drew⟩
            have g0 : ∀ p : In (RC0 w X B G (restM (l.take k)) ⟨xo, xs, 0, 0, true⟩), p.w.cell? ⟨G, 0, none⟩ = some (.int .i64 xo) := fun p => p.h.2.1.cell 0
            have g1 : ∀ p : In (RC0 w X B G (restM (l.take k)) ⟨xo, xs, 0, 0, true⟩), p.w.cell? ⟨G, 1, none⟩ = some (.int .i64 xs) := fun p => p.h.2.1.cell 1
            have g2 : ∀ p : In (RC0 w X B G (restM (l.take k)) ⟨xo, xs, 0, 0, true⟩), p.w.cell? ⟨G, 2, none⟩ = some (.int .i64 0) := fun p => p.h.2.1.cell 2
            have g3 : ∀ p : In (RC0 w X B G (restM (l.take k)) ⟨xo, xs, 0, 0, true⟩), p.w.cell? ⟨G, 3, none⟩ = some (.int .i64 0) := fun p => p.h.2.1.cell 3
            have g4 : ∀ p : In (RC0 w X B G (restM (l.take k)) ⟨xo, xs, 0, 0, true⟩), p.w.cell? ⟨G, 4, none⟩ = some (.bool true) := fun p => p.h.2.1.cell 4
            clear h1 hG hb1
            refine wp_region_in (RC0 w X B G (restM (l.take k)) ⟨xo, xs, 0, 0, true⟩) (by kernel_rfl) (by kernel_rfl) hC ?_
            intro hne
            clear hC
            repeat (first | go_big_quiet_step (fail) | quiet_step (fail))
            refine wpQuiet_nil ?_
            intro wq hq
            clear g0 g1 g2 g3 g4 hne
            go_wp2_with fail
            go_meet
            exact ⟨rfl, .inl ⟨rfl, HV⟩, hq⟩
          · subst hz hz2 hz3
            have HV : Hid (¬ goodAt l k) := hid (fun hh => by have := (hh _ HXk.out).1; have := entB_ok.2 this; simp [entB] at this)
            clear HXk
            have hC : (RC0 w X B G (restM (l.take k)) ⟨xo, xs, 0, 0, false⟩) w3.drew := ⟨h1, hG, hb1.drew⟩
            have g0 : ∀ p : In (RC0 w X B G (restM (l.take k)) ⟨xo, xs, 0, 0, false⟩), p.w.cell? ⟨G, 0, none⟩ = some (.int .i64 xo) := fun p => p.h.2.1.cell 0
            have g1 : ∀ p : In (RC0 w X B G (restM (l.take k)) ⟨xo, xs, 0, 0, false⟩), p.w.cell? ⟨G, 1, none⟩ = some (.int .i64 xs) := fun p => p.h.2.1.cell 1
            have g2 : ∀ p : In (RC0 w X B G (restM (l.take k)) ⟨xo, xs, 0, 0, false⟩), p.w.cell? ⟨G, 2, none⟩ = some (.int .i64 0) := fun p => p.h.2.1.cell 2
            have g3 : ∀ p : In (RC0 w X B G (restM (l.take k)) ⟨xo, xs, 0, 0, false⟩), p.w.cell? ⟨G, 3, none⟩ = some (.int .i64 0) := fun p => p.h.2.1.cell 3
            have g4 : ∀ p : In (RC0 w X B G (restM (l.take k)) ⟨xo, xs, 0, 0, false⟩), p.w.cell? ⟨G, 4, none⟩ = some (.bool false) := fun p => p.h.2.1.cell 4
            clear h1 hG hb1
            refine wp_region_in (RC0 w X B G (restM (l.take k)) ⟨xo, xs, 0, 0, false⟩) (by kernel_rfl) (by kernel_rfl) hC ?_
            intro hne
            clear hC
            repeat (first | go_big_quiet_step (fail) | quiet_step (fail))
            refine wpQuiet_nil ?_
            intro wq hq
            clear g0 g1 g2 g3 g4 hne
            go_wp2_with fail
            go_meet
            exact ⟨rfl, .inr ⟨rfl, HV⟩, hq⟩
          · have b1 : decide (xt < 0) = false := decide_eq_false (by omega)
            have b2 : (xt == 0) = false := by simp; omega
            have HV : Hid (goodAt l k) := hid (fun e he => by rw [HXk.out] at he; injection he with he; subst he; exact ⟨entB_ok.1 (by simp [entB]; omega), fun y hy0 _ => by omega⟩)
            clear HXk hz
            have hC : (RC0 w X B G (restM (l.take k)) ⟨xo, xs, xt, xc, xb⟩) w3.drew := ⟨h1, hG, hb1.drew⟩
            have g0 : ∀ p : In (RC0 w X B G (restM (l.take k)) ⟨xo, xs, xt, xc, xb⟩), p.w.cell? ⟨G, 0, none⟩ = some (.int .i64 xo) := fun p => p.h.2.1.cell 0
            have g1 : ∀ p : In (RC0 w X B G (restM (l.take k)) ⟨xo, xs, xt, xc, xb⟩), p.w.cell? ⟨G, 1, none⟩ = some (.int .i64 xs) := fun p => p.h.2.1.cell 1
            have g2 : ∀ p : In (RC0 w X B G (restM (l.take k)) ⟨xo, xs, xt, xc, xb⟩), p.w.cell? ⟨G, 2, none⟩ = some (.int .i64 xt) := fun p => p.h.2.1.cell 2
            have g3 : ∀ p : In (RC0 w X B G (restM (l.take k)) ⟨xo, xs, xt, xc, xb⟩), p.w.cell? ⟨G, 3, none⟩ = some (.int .i64 xc) := fun p => p.h.2.1.cell 3
            have g4 : ∀ p : In (RC0 w X B G (restM (l.take k)) ⟨xo, xs, xt, xc, xb⟩), p.w.cell? ⟨G, 4, none⟩ = some (.bool xb) := fun p => p.h.2.1.cell 4
            clear h1 hG hb1
            refine wp_region_in (RC0 w X B G (restM (l.take k)) ⟨xo, xs, xt, xc, xb⟩) (by kernel_rfl) (by kernel_rfl) hC ?_
            intro hne
            clear hC
            repeat (first | go_big_quiet_step (fail) | quiet_step (fail))
            refine wpQuiet_nil ?_
            intro wq hq
            clear g0 g1 g2 g3 g4 hne
            go_wp2_with fail
            go_meet
            exact ⟨rfl, .inl ⟨rfl, HV⟩, hq⟩
        · obtain ⟨cv, hcv⟩ : ∃ cv, cfE y ⟨xo, xs, xt, xc, xb⟩ = cv := ⟨_, rfl⟩
          have HCV0 := hid hcv
          have hk0 : decide (0 < k) = true := decide_eq_true hkp
          have hkw : IntKind.i64.wrap ((k : Int) - 1) = ((k - 1 : Nat) : Int) := by rw [IntWalk.i64_in _ ⟨by omega, by omega⟩]; omega
          have hk1 : k - 1 < l.length := by omega
          obtain ⟨yo, ys, yt, yc, yb⟩ := y
          by_cases hcn : cv < 0
          · have HLT : Hid (ltE ⟨yo, ys, yt, yc, yb⟩ ⟨xo, xs, xt, xc, xb⟩ = true) := hid (by unfold ltE; rw [HCV0.out]; exact decide_eq_true hcn)
            have hcf : decide ((0 : Int) ≤ cv) = false := decide_eq_false (by omega)
            have HCV := HCV0
            clear hcv HCV0 hcn
            have hcs : xt < 0 ∨ (xt = 0 ∧ xc ≠ 0) ∨ (xt = 0 ∧ xc = 0 ∧ xb = true) ∨ (xt = 0 ∧ xc = 0 ∧ xb = false) ∨ 0 < xt := by cases xb <;> simp <;> omega
            rcases hcs with hz | ⟨hz, hz2⟩ | ⟨hz, hz2, hz3⟩ | ⟨hz, hz2, hz3⟩ | hz
            · have b1 : decide (xt < 0) = true := decide_eq_true hz
              have HV : Hid (¬ goodAt l k) := hid (fun hh => by have := (hh _ HXk.out).1; have := entB_ok.2 this; simp [entB] at this; omega)
              clear HXk hz hy HLT
              have hC : (RC w X B G b (off + (k - 1) * 5) (restM (l.take k)) ⟨xo, xs, xt, xc, xb⟩ ⟨yo, ys, yt, yc, yb⟩) w3.drew := ⟨h1, hG, hP, hb1.drew⟩
              have g0 : ∀ p : In (RC w X B G b (off + (k - 1) * 5) (restM (l.take k)) ⟨xo, xs, xt, xc, xb⟩ ⟨yo, ys, yt, yc, yb⟩), p.w.cell? ⟨G, 0, none⟩ = some (.int .i64 xo) := fun p => p.h.2.1.cell 0
              have g1 : ∀ p : In (RC w X B G b (off + (k - 1) * 5) (restM (l.take k)) ⟨xo, xs, xt, xc, xb⟩ ⟨yo, ys, yt, yc, yb⟩), p.w.cell? ⟨G, 1, none⟩ = some (.int .i64 xs) := fun p => p.h.2.1.cell 1
              have g2 : ∀ p : In (RC w X B G b (off + (k - 1) * 5) (restM (l.take k)) ⟨xo, xs, xt, xc, xb⟩ ⟨yo, ys, yt, yc, yb⟩), p.w.cell? ⟨G, 2, none⟩ = some (.int .i64 xt) := fun p => p.h.2.1.cell 2
              have g3 : ∀ p : In (RC w X B G b (off + (k - 1) * 5) (restM (l.take k)) ⟨xo, xs, xt, xc, xb⟩ ⟨yo, ys, yt, yc, yb⟩), p.w.cell? ⟨G, 3, none⟩ = some (.int .i64 xc) := fun p => p.h.2.1.cell 3
              have g4 : ∀ p : In (RC w X B G b (off + (k - 1) * 5) (restM (l.take k)) ⟨xo, xs, xt, xc, xb⟩ ⟨yo, ys, yt, yc, yb⟩), p.w.cell? ⟨G, 4, none⟩ = some (.bool xb) := fun p => p.h.2.1.cell 4
              have p0 : ∀ p : In (RC w X B G b (off + (k - 1) * 5) (restM (l.take k)) ⟨xo, xs, xt, xc, xb⟩ ⟨yo, ys, yt, yc, yb⟩), p.w.cell? ⟨b, off + (k - 1) * 5, none⟩ = some (.int .i64 yo) := fun p => p.h.2.2.1.2 0 _ rfl
              have p1 : ∀ p : In (RC w X B G b (off + (k - 1) * 5) (restM (l.take k)) ⟨xo, xs, xt, xc, xb⟩ ⟨yo, ys, yt, yc, yb⟩), p.w.cell? ⟨b, off + (k - 1) * 5 + 1, none⟩ = some (.int .i64 ys) := fun p => p.h.2.2.1.2 1 _ rfl
              have p2 : ∀ p : In (RC w X B G b (off + (k - 1) * 5) (restM (l.take k)) ⟨xo, xs, xt, xc, xb⟩ ⟨yo, ys, yt, yc, yb⟩), p.w.cell? ⟨b, off + (k - 1) * 5 + 2, none⟩ = some (.int .i64 yt) := fun p => p.h.2.2.1.2 2 _ rfl
              have p3 : ∀ p : In (RC w X B G b (off + (k - 1) * 5) (restM (l.take k)) ⟨xo, xs, xt, xc, xb⟩ ⟨yo, ys, yt, yc, yb⟩), p.w.cell? ⟨b, off + (k - 1) * 5 + 3, none⟩ = some (.int .i64 yc) := fun p => p.h.2.2.1.2 3 _ rfl
              have p4 : ∀ p : In (RC w X B G b (off + (k - 1) * 5) (restM (l.take k)) ⟨xo, xs, xt, xc, xb⟩ ⟨yo, ys, yt, yc, yb⟩), p.w.cell? ⟨b, off + (k - 1) * 5 + 4, none⟩ = some (.bool yb) := fun p => p.h.2.2.1.2 4 _ rfl
              have O : Hid (∀ p : In (RC w X B G b (off + (k - 1) * 5) (restM (l.take k)) ⟨xo, xs, xt, xc, xb⟩ ⟨yo, ys, yt, yc, yb⟩), Calls Try.prog 25 #[.agg #[.int .i64 yo, .int .i64 ys, .int .i64 yt, .int .i64 yc, .bool yb], .agg #[.int .i64 xo, .int .i64 xs, .int .i64 xt, .int .i64 xc, .bool xb]] p.w fun e w' => e = .returned (.int .i64 cv) ∧ (RC w X B G b (off + (k - 1) * 5) (restM (l.take k)) ⟨xo, xs, xt, xc, xb⟩ ⟨yo, ys, yt, yc, yb⟩) w') := hid (fun p => by have := order_below ⟨yo, ys, yt, yc, yb⟩ ⟨xo, xs, xt, xc, xb⟩ p.w; rw [HCV.out] at this; exact this.mono fun _ _ ⟨e1, e2⟩ => ⟨e1, p.h.next e2⟩)
              clear h1 hG hb1 hP HCV
              refine wp_region_in (RC w X B G b (off + (k - 1) * 5) (restM (l.take k)) ⟨xo, xs, xt, xc, xb⟩ ⟨yo, ys, yt, yc, yb⟩) (by kernel_rfl) (by kernel_rfl) hC ?_
              intro hne
              clear hC
              repeat (first | go_big_quiet_step ((go_at_call 25; exact Calls.in_of (O.out _))) | quiet_step ((go_at_call 25; exact Calls.in_of (O.out _))))
              refine wpQuiet_nil ?_
              intro wq hq
              clear g0 g1 g2 g3 g4 p0 p1 p2 p3 p4 O hne
              go_wp2_with fail
              go_meet
              exact ⟨rfl, .inr ⟨rfl, HV⟩, ⟨hq.1, hq.2.1, hq.2.2.2⟩⟩
            · subst hz; have b3 : (xc != 0) = true := by simpa using hz2
              have HV : Hid (¬ goodAt l k) := hid (fun hh => by have := (hh _ HXk.out).1; have := entB_ok.2 this; simp [entB, hz2] at this)
              clear HXk hz2 hy HLT
              have hC : (RC w X B G b (off + (k - 1) * 5) (restM (l.take k)) ⟨xo, xs, 0, xc, xb⟩ ⟨yo, ys, yt, yc, yb⟩) w3.drew := ⟨h1, hG, hP, hb1.drew⟩
              have g0 : ∀ p : In (RC w X B G b (off + (k - 1) * 5) (restM (l.take k)) ⟨xo, xs, 0, xc, xb⟩ ⟨yo, ys, yt, yc, yb⟩), p.w.cell? ⟨G, 0, none⟩ = some (.int .i64 xo) := fun p => p.h.2.1.cell 0
              have g1 : ∀ p : In (RC w X B G b (off + (k - 1) * 5) (restM (l.take k)) ⟨xo, xs, 0, xc, xb⟩ ⟨yo, ys, yt, yc, yb⟩), p.w.cell? ⟨G, 1, none⟩ = some (.int .i64 xs) := fun p => p.h.2.1.cell 1
              have g2 : ∀ p : In (RC w X B G b (off + (k - 1) * 5) (restM (l.take k)) ⟨xo, xs, 0, xc, xb⟩ ⟨yo, ys, yt, yc, yb⟩), p.w.cell? ⟨G, 2, none⟩ = some (.int .i64 0) := fun p => p.h.2.1.cell 2
              have g3 : ∀ p : In (RC w X B G b (off + (k - 1) * 5) (restM (l.take k)) ⟨xo, xs, 0, xc, xb⟩ ⟨yo, ys, yt, yc, yb⟩), p.w.cell? ⟨G, 3, none⟩ = some (.int .i64 xc) := fun p => p.h.2.1.cell 3
              have g4 : ∀ p : In (RC w X B G b (off + (k - 1) * 5) (restM (l.take k)) ⟨xo, xs, 0, xc, xb⟩ ⟨yo, ys, yt, yc, yb⟩), p.w.cell? ⟨G, 4, none⟩ = some (.bool xb) := fun p => p.h.2.1.cell 4
              have p0 : ∀ p : In (RC w X B G b (off + (k - 1) * 5) (restM (l.take k)) ⟨xo, xs, 0, xc, xb⟩ ⟨yo, ys, yt, yc, yb⟩), p.w.cell? ⟨b, off + (k - 1) * 5, none⟩ = some (.int .i64 yo) := fun p => p.h.2.2.1.2 0 _ rfl
              have p1 : ∀ p : In (RC w X B G b (off + (k - 1) * 5) (restM (l.take k)) ⟨xo, xs, 0, xc, xb⟩ ⟨yo, ys, yt, yc, yb⟩), p.w.cell? ⟨b, off + (k - 1) * 5 + 1, none⟩ = some (.int .i64 ys) := fun p => p.h.2.2.1.2 1 _ rfl
              have p2 : ∀ p : In (RC w X B G b (off + (k - 1) * 5) (restM (l.take k)) ⟨xo, xs, 0, xc, xb⟩ ⟨yo, ys, yt, yc, yb⟩), p.w.cell? ⟨b, off + (k - 1) * 5 + 2, none⟩ = some (.int .i64 yt) := fun p => p.h.2.2.1.2 2 _ rfl
              have p3 : ∀ p : In (RC w X B G b (off + (k - 1) * 5) (restM (l.take k)) ⟨xo, xs, 0, xc, xb⟩ ⟨yo, ys, yt, yc, yb⟩), p.w.cell? ⟨b, off + (k - 1) * 5 + 3, none⟩ = some (.int .i64 yc) := fun p => p.h.2.2.1.2 3 _ rfl
              have p4 : ∀ p : In (RC w X B G b (off + (k - 1) * 5) (restM (l.take k)) ⟨xo, xs, 0, xc, xb⟩ ⟨yo, ys, yt, yc, yb⟩), p.w.cell? ⟨b, off + (k - 1) * 5 + 4, none⟩ = some (.bool yb) := fun p => p.h.2.2.1.2 4 _ rfl
              have O : Hid (∀ p : In (RC w X B G b (off + (k - 1) * 5) (restM (l.take k)) ⟨xo, xs, 0, xc, xb⟩ ⟨yo, ys, yt, yc, yb⟩), Calls Try.prog 25 #[.agg #[.int .i64 yo, .int .i64 ys, .int .i64 yt, .int .i64 yc, .bool yb], .agg #[.int .i64 xo, .int .i64 xs, .int .i64 0, .int .i64 xc, .bool xb]] p.w fun e w' => e = .returned (.int .i64 cv) ∧ (RC w X B G b (off + (k - 1) * 5) (restM (l.take k)) ⟨xo, xs, 0, xc, xb⟩ ⟨yo, ys, yt, yc, yb⟩) w') := hid (fun p => by have := order_below ⟨yo, ys, yt, yc, yb⟩ ⟨xo, xs, 0, xc, xb⟩ p.w; rw [HCV.out] at this; exact this.mono fun _ _ ⟨e1, e2⟩ => ⟨e1, p.h.next e2⟩)
              clear h1 hG hb1 hP HCV
              refine wp_region_in (RC w X B G b (off + (k - 1) * 5) (restM (l.take k)) ⟨xo, xs, 0, xc, xb⟩ ⟨yo, ys, yt, yc, yb⟩) (by kernel_rfl) (by kernel_rfl) hC ?_
              intro hne
              clear hC
              repeat (first | go_big_quiet_step ((go_at_call 25; exact Calls.in_of (O.out _))) | quiet_step ((go_at_call 25; exact Calls.in_of (O.out _))))
              refine wpQuiet_nil ?_
              intro wq hq
              clear g0 g1 g2 g3 g4 p0 p1 p2 p3 p4 O hne
              go_wp2_with fail
              go_meet
              exact ⟨rfl, .inr ⟨rfl, HV⟩, ⟨hq.1, hq.2.1, hq.2.2.2⟩⟩
            · subst hz hz2 hz3
              have HV : Hid (goodAt l k) := hid (fun e he => by rw [HXk.out] at he; injection he with he; subst he; exact ⟨entB_ok.1 (by simp [entB]), fun y2 _ hy2 => by rw [hy.out] at hy2; injection hy2 with hy2; subst hy2; exact HLT.out⟩)
              clear HXk hy HLT
              have hC : (RC w X B G b (off + (k - 1) * 5) (restM (l.take k)) ⟨xo, xs, 0, 0, true⟩ ⟨yo, ys, yt, yc, yb⟩) w3.drew := ⟨h1, hG, hP, hb1.drew⟩
              have g0 : ∀ p : In (RC w X B G b (off + (k - 1) * 5) (restM (l.take k)) ⟨xo, xs, 0, 0, true⟩ ⟨yo, ys, yt, yc, yb⟩), p.w.cell? ⟨G, 0, none⟩ = some (.int .i64 xo) := fun p => p.h.2.1.cell 0
              have g1 : ∀ p : In (RC w X B G b (off + (k - 1) * 5) (restM (l.take k)) ⟨xo, xs, 0, 0, true⟩ ⟨yo, ys, yt, yc, yb⟩), p.w.cell? ⟨G, 1, none⟩ = some (.int .i64 xs) := fun p => p.h.2.1.cell 1
              have g2 : ∀ p : In (RC w X B G b (off + (k - 1) * 5) (restM (l.take k)) ⟨xo, xs, 0, 0, true⟩ ⟨yo, ys, yt, yc, yb⟩), p.w.cell? ⟨G, 2, none⟩ = some (.int .i64 0) := fun p => p.h.2.1.cell 2
              have g3 : ∀ p : In (RC w X B G b (off + (k - 1) * 5) (restM (l.take k)) ⟨xo, xs, 0, 0, true⟩ ⟨yo, ys, yt, yc, yb⟩), p.w.cell? ⟨G, 3, none⟩ = some (.int .i64 0) := fun p => p.h.2.1.cell 3
              have g4 : ∀ p : In (RC w X B G b (off + (k - 1) * 5) (restM (l.take k)) ⟨xo, xs, 0, 0, true⟩ ⟨yo, ys, yt, yc, yb⟩), p.w.cell? ⟨G, 4, none⟩ = some (.bool true) := fun p => p.h.2.1.cell 4
              have p0 : ∀ p : In (RC w X B G b (off + (k - 1) * 5) (restM (l.take k)) ⟨xo, xs, 0, 0, true⟩ ⟨yo, ys, yt, yc, yb⟩), p.w.cell? ⟨b, off + (k - 1) * 5, none⟩ = some (.int .i64 yo) := fun p => p.h.2.2.1.2 0 _ rfl
              have p1 : ∀ p : In (RC w X B G b (off + (k - 1) * 5) (restM (l.take k)) ⟨xo, xs, 0, 0, true⟩ ⟨yo, ys, yt, yc, yb⟩), p.w.cell? ⟨b, off + (k - 1) * 5 + 1, none⟩ = some (.int .i64 ys) := fun p => p.h.2.2.1.2 1 _ rfl
              have p2 : ∀ p : In (RC w X B G b (off + (k - 1) * 5) (restM (l.take k)) ⟨xo, xs, 0, 0, true⟩ ⟨yo, ys, yt, yc, yb⟩), p.w.cell? ⟨b, off + (k - 1) * 5 + 2, none⟩ = some (.int .i64 yt) := fun p => p.h.2.2.1.2 2 _ rfl
              have p3 : ∀ p : In (RC w X B G b (off + (k - 1) * 5) (restM (l.take k)) ⟨xo, xs, 0, 0, true⟩ ⟨yo, ys, yt, yc, yb⟩), p.w.cell? ⟨b, off + (k - 1) * 5 + 3, none⟩ = some (.int .i64 yc) := fun p => p.h.2.2.1.2 3 _ rfl
              have p4 : ∀ p : In (RC w X B G b (off + (k - 1) * 5) (restM (l.take k)) ⟨xo, xs, 0, 0, true⟩ ⟨yo, ys, yt, yc, yb⟩), p.w.cell? ⟨b, off + (k - 1) * 5 + 4, none⟩ = some (.bool yb) := fun p => p.h.2.2.1.2 4 _ rfl
              have O : Hid (∀ p : In (RC w X B G b (off + (k - 1) * 5) (restM (l.take k)) ⟨xo, xs, 0, 0, true⟩ ⟨yo, ys, yt, yc, yb⟩), Calls Try.prog 25 #[.agg #[.int .i64 yo, .int .i64 ys, .int .i64 yt, .int .i64 yc, .bool yb], .agg #[.int .i64 xo, .int .i64 xs, .int .i64 0, .int .i64 0, .bool true]] p.w fun e w' => e = .returned (.int .i64 cv) ∧ (RC w X B G b (off + (k - 1) * 5) (restM (l.take k)) ⟨xo, xs, 0, 0, true⟩ ⟨yo, ys, yt, yc, yb⟩) w') := hid (fun p => by have := order_below ⟨yo, ys, yt, yc, yb⟩ ⟨xo, xs, 0, 0, true⟩ p.w; rw [HCV.out] at this; exact this.mono fun _ _ ⟨e1, e2⟩ => ⟨e1, p.h.next e2⟩)
              clear h1 hG hb1 hP HCV
              refine wp_region_in (RC w X B G b (off + (k - 1) * 5) (restM (l.take k)) ⟨xo, xs, 0, 0, true⟩ ⟨yo, ys, yt, yc, yb⟩) (by kernel_rfl) (by kernel_rfl) hC ?_
              intro hne
              clear hC
              repeat (first | go_big_quiet_step ((go_at_call 25; exact Calls.in_of (O.out _))) | quiet_step ((go_at_call 25; exact Calls.in_of (O.out _))))
              refine wpQuiet_nil ?_
              intro wq hq
              clear g0 g1 g2 g3 g4 p0 p1 p2 p3 p4 O hne
              go_wp2_with fail
              go_meet
              exact ⟨rfl, .inl ⟨rfl, HV⟩, ⟨hq.1, hq.2.1, hq.2.2.2⟩⟩
            · subst hz hz2 hz3
              have HV : Hid (¬ goodAt l k) := hid (fun hh => by have := (hh _ HXk.out).1; have := entB_ok.2 this; simp [entB] at this)
              clear HXk hy HLT
              have hC : (RC w X B G b (off + (k - 1) * 5) (restM (l.take k)) ⟨xo, xs, 0, 0, false⟩ ⟨yo, ys, yt, yc, yb⟩) w3.drew := ⟨h1, hG, hP, hb1.drew⟩
              have g0 : ∀ p : In (RC w X B G b (off + (k - 1) * 5) (restM (l.take k)) ⟨xo, xs, 0, 0, false⟩ ⟨yo, ys, yt, yc, yb⟩), p.w.cell? ⟨G, 0, none⟩ = some (.int .i64 xo) := fun p => p.h.2.1.cell 0
              have g1 : ∀ p : In (RC w X B G b (off + (k - 1) * 5) (restM (l.take k)) ⟨xo, xs, 0, 0, false⟩ ⟨yo, ys, yt, yc, yb⟩), p.w.cell? ⟨G, 1, none⟩ = some (.int .i64 xs) := fun p => p.h.2.1.cell 1
              have g2 : ∀ p : In (RC w X B G b (off + (k - 1) * 5) (restM (l.take k)) ⟨xo, xs, 0, 0, false⟩ ⟨yo, ys, yt, yc, yb⟩), p.w.cell? ⟨G, 2, none⟩ = some (.int .i64 0) := fun p => p.h.2.1.cell 2
              have g3 : ∀ p : In (RC w X B G b (off + (k - 1) * 5) (restM (l.take k)) ⟨xo, xs, 0, 0, false⟩ ⟨yo, ys, yt, yc, yb⟩), p.w.cell? ⟨G, 3, none⟩ = some (.int .i64 0) := fun p => p.h.2.1.cell 3
              have g4 : ∀ p : In (RC w X B G b (off + (k - 1) * 5) (restM (l.take k)) ⟨xo, xs, 0, 0, false⟩ ⟨yo, ys, yt, yc, yb⟩), p.w.cell? ⟨G, 4, none⟩ = some (.bool false) := fun p => p.h.2.1.cell 4
              have p0 : ∀ p : In (RC w X B G b (off + (k - 1) * 5) (restM (l.take k)) ⟨xo, xs, 0, 0, false⟩ ⟨yo, ys, yt, yc, yb⟩), p.w.cell? ⟨b, off + (k - 1) * 5, none⟩ = some (.int .i64 yo) := fun p => p.h.2.2.1.2 0 _ rfl
              have p1 : ∀ p : In (RC w X B G b (off + (k - 1) * 5) (restM (l.take k)) ⟨xo, xs, 0, 0, false⟩ ⟨yo, ys, yt, yc, yb⟩), p.w.cell? ⟨b, off + (k - 1) * 5 + 1, none⟩ = some (.int .i64 ys) := fun p => p.h.2.2.1.2 1 _ rfl
              have p2 : ∀ p : In (RC w X B G b (off + (k - 1) * 5) (restM (l.take k)) ⟨xo, xs, 0, 0, false⟩ ⟨yo, ys, yt, yc, yb⟩), p.w.cell? ⟨b, off + (k - 1) * 5 + 2, none⟩ = some (.int .i64 yt) := fun p => p.h.2.2.1.2 2 _ rfl
              have p3 : ∀ p : In (RC w X B G b (off + (k - 1) * 5) (restM (l.take k)) ⟨xo, xs, 0, 0, false⟩ ⟨yo, ys, yt, yc, yb⟩), p.w.cell? ⟨b, off + (k - 1) * 5 + 3, none⟩ = some (.int .i64 yc) := fun p => p.h.2.2.1.2 3 _ rfl
              have p4 : ∀ p : In (RC w X B G b (off + (k - 1) * 5) (restM (l.take k)) ⟨xo, xs, 0, 0, false⟩ ⟨yo, ys, yt, yc, yb⟩), p.w.cell? ⟨b, off + (k - 1) * 5 + 4, none⟩ = some (.bool yb) := fun p => p.h.2.2.1.2 4 _ rfl
              have O : Hid (∀ p : In (RC w X B G b (off + (k - 1) * 5) (restM (l.take k)) ⟨xo, xs, 0, 0, false⟩ ⟨yo, ys, yt, yc, yb⟩), Calls Try.prog 25 #[.agg #[.int .i64 yo, .int .i64 ys, .int .i64 yt, .int .i64 yc, .bool yb], .agg #[.int .i64 xo, .int .i64 xs, .int .i64 0, .int .i64 0, .bool false]] p.w fun e w' => e = .returned (.int .i64 cv) ∧ (RC w X B G b (off + (k - 1) * 5) (restM (l.take k)) ⟨xo, xs, 0, 0, false⟩ ⟨yo, ys, yt, yc, yb⟩) w') := hid (fun p => by have := order_below ⟨yo, ys, yt, yc, yb⟩ ⟨xo, xs, 0, 0, false⟩ p.w; rw [HCV.out] at this; exact this.mono fun _ _ ⟨e1, e2⟩ => ⟨e1, p.h.next e2⟩)
              clear h1 hG hb1 hP HCV
              refine wp_region_in (RC w X B G b (off + (k - 1) * 5) (restM (l.take k)) ⟨xo, xs, 0, 0, false⟩ ⟨yo, ys, yt, yc, yb⟩) (by kernel_rfl) (by kernel_rfl) hC ?_
              intro hne
              clear hC
              repeat (first | go_big_quiet_step ((go_at_call 25; exact Calls.in_of (O.out _))) | quiet_step ((go_at_call 25; exact Calls.in_of (O.out _))))
              refine wpQuiet_nil ?_
              intro wq hq
              clear g0 g1 g2 g3 g4 p0 p1 p2 p3 p4 O hne
              go_wp2_with fail
              go_meet
              exact ⟨rfl, .inr ⟨rfl, HV⟩, ⟨hq.1, hq.2.1, hq.2.2.2⟩⟩
            · have b1 : decide (xt < 0) = false := decide_eq_false (by omega)
              have b2 : (xt == 0) = false := by simp; omega
              have HV : Hid (goodAt l k) := hid (fun e he => by rw [HXk.out] at he; injection he with he; subst he; exact ⟨entB_ok.1 (by simp [entB]; omega), fun y2 _ hy2 => by rw [hy.out] at hy2; injection hy2 with hy2; subst hy2; exact HLT.out⟩)
              clear HXk hz hy HLT
              have hC : (RC w X B G b (off + (k - 1) * 5) (restM (l.take k)) ⟨xo, xs, xt, xc, xb⟩ ⟨yo, ys, yt, yc, yb⟩) w3.drew := ⟨h1, hG, hP, hb1.drew⟩
              have g0 : ∀ p : In (RC w X B G b (off + (k - 1) * 5) (restM (l.take k)) ⟨xo, xs, xt, xc, xb⟩ ⟨yo, ys, yt, yc, yb⟩), p.w.cell? ⟨G, 0, none⟩ = some (.int .i64 xo) := fun p => p.h.2.1.cell 0
              have g1 : ∀ p : In (RC w X B G b (off + (k - 1) * 5) (restM (l.take k)) ⟨xo, xs, xt, xc, xb⟩ ⟨yo, ys, yt, yc, yb⟩), p.w.cell? ⟨G, 1, none⟩ = some (.int .i64 xs) := fun p => p.h.2.1.cell 1
              have g2 : ∀ p : In (RC w X B G b (off + (k - 1) * 5) (restM (l.take k)) ⟨xo, xs, xt, xc, xb⟩ ⟨yo, ys, yt, yc, yb⟩), p.w.cell? ⟨G, 2, none⟩ = some (.int .i64 xt) := fun p => p.h.2.1.cell 2
              have g3 : ∀ p : In (RC w X B G b (off + (k - 1) * 5) (restM (l.take k)) ⟨xo, xs, xt, xc, xb⟩ ⟨yo, ys, yt, yc, yb⟩), p.w.cell? ⟨G, 3, none⟩ = some (.int .i64 xc) := fun p => p.h.2.1.cell 3
              have g4 : ∀ p : In (RC w X B G b (off + (k - 1) * 5) (restM (l.take k)) ⟨xo, xs, xt, xc, xb⟩ ⟨yo, ys, yt, yc, yb⟩), p.w.cell? ⟨G, 4, none⟩ = some (.bool xb) := fun p => p.h.2.1.cell 4
              have p0 : ∀ p : In (RC w X B G b (off + (k - 1) * 5) (restM (l.take k)) ⟨xo, xs, xt, xc, xb⟩ ⟨yo, ys, yt, yc, yb⟩), p.w.cell? ⟨b, off + (k - 1) * 5, none⟩ = some (.int .i64 yo) := fun p => p.h.2.2.1.2 0 _ rfl
              have p1 : ∀ p : In (RC w X B G b (off + (k - 1) * 5) (restM (l.take k)) ⟨xo, xs, xt, xc, xb⟩ ⟨yo, ys, yt, yc, yb⟩), p.w.cell? ⟨b, off + (k - 1) * 5 + 1, none⟩ = some (.int .i64 ys) := fun p => p.h.2.2.1.2 1 _ rfl
              have p2 : ∀ p : In (RC w X B G b (off + (k - 1) * 5) (restM (l.take k)) ⟨xo, xs, xt, xc, xb⟩ ⟨yo, ys, yt, yc, yb⟩), p.w.cell? ⟨b, off + (k - 1) * 5 + 2, none⟩ = some (.int .i64 yt) := fun p => p.h.2.2.1.2 2 _ rfl
              have p3 : ∀ p : In (RC w X B G b (off + (k - 1) * 5) (restM (l.take k)) ⟨xo, xs, xt, xc, xb⟩ ⟨yo, ys, yt, yc, yb⟩), p.w.cell? ⟨b, off + (k - 1) * 5 + 3, none⟩ = some (.int .i64 yc) := fun p => p.h.2.2.1.2 3 _ rfl
              have p4 : ∀ p : In (RC w X B G b (off + (k - 1) * 5) (restM (l.take k)) ⟨xo, xs, xt, xc, xb⟩ ⟨yo, ys, yt, yc, yb⟩), p.w.cell? ⟨b, off + (k - 1) * 5 + 4, none⟩ = some (.bool yb) := fun p => p.h.2.2.1.2 4 _ rfl
              have O : Hid (∀ p : In (RC w X B G b (off + (k - 1) * 5) (restM (l.take k)) ⟨xo, xs, xt, xc, xb⟩ ⟨yo, ys, yt, yc, yb⟩), Calls Try.prog 25 #[.agg #[.int .i64 yo, .int .i64 ys, .int .i64 yt, .int .i64 yc, .bool yb], .agg #[.int .i64 xo, .int .i64 xs, .int .i64 xt, .int .i64 xc, .bool xb]] p.w fun e w' => e = .returned (.int .i64 cv) ∧ (RC w X B G b (off + (k - 1) * 5) (restM (l.take k)) ⟨xo, xs, xt, xc, xb⟩ ⟨yo, ys, yt, yc, yb⟩) w') := hid (fun p => by have := order_below ⟨yo, ys, yt, yc, yb⟩ ⟨xo, xs, xt, xc, xb⟩ p.w; rw [HCV.out] at this; exact this.mono fun _ _ ⟨e1, e2⟩ => ⟨e1, p.h.next e2⟩)
              clear h1 hG hb1 hP HCV
              refine wp_region_in (RC w X B G b (off + (k - 1) * 5) (restM (l.take k)) ⟨xo, xs, xt, xc, xb⟩ ⟨yo, ys, yt, yc, yb⟩) (by kernel_rfl) (by kernel_rfl) hC ?_
              intro hne
              clear hC
              repeat (first | go_big_quiet_step ((go_at_call 25; exact Calls.in_of (O.out _))) | quiet_step ((go_at_call 25; exact Calls.in_of (O.out _))))
              refine wpQuiet_nil ?_
              intro wq hq
              clear g0 g1 g2 g3 g4 p0 p1 p2 p3 p4 O hne
              go_wp2_with fail
              go_meet
              exact ⟨rfl, .inl ⟨rfl, HV⟩, ⟨hq.1, hq.2.1, hq.2.2.2⟩⟩
          · have HV : Hid (¬ goodAt l k) := hid (fun hh => by have := (hh _ HXk.out).2 _ hkp hy.out; unfold ltE at this; rw [HCV0.out] at this; exact hcn (of_decide_eq_true this))
            have hcf : decide ((0 : Int) ≤ cv) = true := decide_eq_true (by omega)
            have HCV := HCV0
            clear hcv HCV0 hcn HXk hy
            have hC : (RC w X B G b (off + (k - 1) * 5) (restM (l.take k)) ⟨xo, xs, xt, xc, xb⟩ ⟨yo, ys, yt, yc, yb⟩) w3.drew := ⟨h1, hG, hP, hb1.drew⟩
            have g0 : ∀ p : In (RC w X B G b (off + (k - 1) * 5) (restM (l.take k)) ⟨xo, xs, xt, xc, xb⟩ ⟨yo, ys, yt, yc, yb⟩), p.w.cell? ⟨G, 0, none⟩ = some (.int .i64 xo) := fun p => p.h.2.1.cell 0
            have g1 : ∀ p : In (RC w X B G b (off + (k - 1) * 5) (restM (l.take k)) ⟨xo, xs, xt, xc, xb⟩ ⟨yo, ys, yt, yc, yb⟩), p.w.cell? ⟨G, 1, none⟩ = some (.int .i64 xs) := fun p => p.h.2.1.cell 1
            have g2 : ∀ p : In (RC w X B G b (off + (k - 1) * 5) (restM (l.take k)) ⟨xo, xs, xt, xc, xb⟩ ⟨yo, ys, yt, yc, yb⟩), p.w.cell? ⟨G, 2, none⟩ = some (.int .i64 xt) := fun p => p.h.2.1.cell 2
            have g3 : ∀ p : In (RC w X B G b (off + (k - 1) * 5) (restM (l.take k)) ⟨xo, xs, xt, xc, xb⟩ ⟨yo, ys, yt, yc, yb⟩), p.w.cell? ⟨G, 3, none⟩ = some (.int .i64 xc) := fun p => p.h.2.1.cell 3
            have g4 : ∀ p : In (RC w X B G b (off + (k - 1) * 5) (restM (l.take k)) ⟨xo, xs, xt, xc, xb⟩ ⟨yo, ys, yt, yc, yb⟩), p.w.cell? ⟨G, 4, none⟩ = some (.bool xb) := fun p => p.h.2.1.cell 4
            have p0 : ∀ p : In (RC w X B G b (off + (k - 1) * 5) (restM (l.take k)) ⟨xo, xs, xt, xc, xb⟩ ⟨yo, ys, yt, yc, yb⟩), p.w.cell? ⟨b, off + (k - 1) * 5, none⟩ = some (.int .i64 yo) := fun p => p.h.2.2.1.2 0 _ rfl
            have p1 : ∀ p : In (RC w X B G b (off + (k - 1) * 5) (restM (l.take k)) ⟨xo, xs, xt, xc, xb⟩ ⟨yo, ys, yt, yc, yb⟩), p.w.cell? ⟨b, off + (k - 1) * 5 + 1, none⟩ = some (.int .i64 ys) := fun p => p.h.2.2.1.2 1 _ rfl
            have p2 : ∀ p : In (RC w X B G b (off + (k - 1) * 5) (restM (l.take k)) ⟨xo, xs, xt, xc, xb⟩ ⟨yo, ys, yt, yc, yb⟩), p.w.cell? ⟨b, off + (k - 1) * 5 + 2, none⟩ = some (.int .i64 yt) := fun p => p.h.2.2.1.2 2 _ rfl
            have p3 : ∀ p : In (RC w X B G b (off + (k - 1) * 5) (restM (l.take k)) ⟨xo, xs, xt, xc, xb⟩ ⟨yo, ys, yt, yc, yb⟩), p.w.cell? ⟨b, off + (k - 1) * 5 + 3, none⟩ = some (.int .i64 yc) := fun p => p.h.2.2.1.2 3 _ rfl
            have p4 : ∀ p : In (RC w X B G b (off + (k - 1) * 5) (restM (l.take k)) ⟨xo, xs, xt, xc, xb⟩ ⟨yo, ys, yt, yc, yb⟩), p.w.cell? ⟨b, off + (k - 1) * 5 + 4, none⟩ = some (.bool yb) := fun p => p.h.2.2.1.2 4 _ rfl
            have O : Hid (∀ p : In (RC w X B G b (off + (k - 1) * 5) (restM (l.take k)) ⟨xo, xs, xt, xc, xb⟩ ⟨yo, ys, yt, yc, yb⟩), Calls Try.prog 25 #[.agg #[.int .i64 yo, .int .i64 ys, .int .i64 yt, .int .i64 yc, .bool yb], .agg #[.int .i64 xo, .int .i64 xs, .int .i64 xt, .int .i64 xc, .bool xb]] p.w fun e w' => e = .returned (.int .i64 cv) ∧ (RC w X B G b (off + (k - 1) * 5) (restM (l.take k)) ⟨xo, xs, xt, xc, xb⟩ ⟨yo, ys, yt, yc, yb⟩) w') := hid (fun p => by have := order_below ⟨yo, ys, yt, yc, yb⟩ ⟨xo, xs, xt, xc, xb⟩ p.w; rw [HCV.out] at this; exact this.mono fun _ _ ⟨e1, e2⟩ => ⟨e1, p.h.next e2⟩)
            clear h1 hG hb1 hP HCV
            refine wp_region_in (RC w X B G b (off + (k - 1) * 5) (restM (l.take k)) ⟨xo, xs, xt, xc, xb⟩ ⟨yo, ys, yt, yc, yb⟩) (by kernel_rfl) (by kernel_rfl) hC ?_
            intro hne
            clear hC
            repeat (first | go_big_quiet_step ((go_at_call 25; exact Calls.in_of (O.out _))) | quiet_step ((go_at_call 25; exact Calls.in_of (O.out _))))
            refine wpQuiet_nil ?_
            intro wq hq
            clear g0 g1 g2 g3 g4 p0 p1 p2 p3 p4 O hne
            go_wp2_with fail
            go_meet
            exact ⟨rfl, .inr ⟨rfl, HV⟩, ⟨hq.1, hq.2.1, hq.2.2.2⟩⟩
      case rest =>
        clear hprev q0 q1 q2 q3 q4 hbo h1 hG hb1 hbs
        obtain ⟨rfl, hv, h, hG, hb⟩ := hcut
        rcases hv with ⟨rfl, hv⟩ | ⟨rfl, hv⟩
        · have g0 : World.cell? _ ⟨G, 0, none⟩ = some (.int .i64 xo) := hG.cell 0
          have g1 : World.cell? _ ⟨G, 1, none⟩ = some (.int .i64 xs) := hG.cell 1
          have g2 : World.cell? _ ⟨G, 2, none⟩ = some (.int .i64 xt) := hG.cell 2
          have g3 : World.cell? _ ⟨G, 3, none⟩ = some (.int .i64 xc) := hG.cell 3
          have g4 : World.cell? _ ⟨G, 4, none⟩ = some (.bool xb) := hG.cell 4
          have gx : World.cell? _ ⟨X, 0, none⟩ = some (.map (some B)) := h.1.cell 0
          clear hG
          go_wp2_with fail
          replace h : IsBox wc.drew X B (restM (l.take k)) := h
          replace hb := hb.drew
          refine wp_tail 10 (by kernel_rfl) (by kernel_rfl) ?_
          simp only [List.take_succ_cons, List.take_zero, List.drop_succ_cons, List.drop_zero]
          repeat still_step
          refine wpStill_nil ?_
          at_mapUpdate
          refine wpList_store _ rfl _ _ _ 59 58 rfl keyPl Try.underlying59 B (restM (l.take k)) rfl h.2 (xo, xs) ⟨xo, xs, xt, xc, xb⟩ rfl rfl ?_
          intro w5 hM5 hg5 hs5
          clear g0 g1 g2 g3 g4 gx
          go_wp2_with fail
          have hx : some X ≠ some B := fun e => h.2.notBlk h.1 (by injection e with e; exact e.symm)
          have h5 : IsBox w5 X B (restM (l.take (k + 1))) := ⟨h.1.grown hg5 hx, by rw [HX.out]; exact hM5⟩
          have hb5 : Below w.heap.size w w5 := hb.trans (grown_below hg5 hb.size hwB)
          clear hM5 hg5 hs5 h hb hx
          go_roundw
          case rel => exact ⟨k + 1, by omega, by go_num, hid (fun j hj => (Nat.lt_succ_iff_lt_or_eq.1 hj).elim (fun h => hgd.out j h) (fun e => by subst e; exact hv.out)), h5, hb5⟩
          case measure => simp [intOf]; omega
        · clear hG
          go_wp2_with fail
          go_ret2
          exact ⟨HY.out _ _ hv.out rfl, hb⟩
    · have hk' : k = l.length := by omega
      subst hk'
      rw [List.take_length] at h
      clear hlt hk
      go_wp2_with fail
      go_ret2
      exact ⟨⟨fun _ => ⟨X, B, rfl, hwB, hwX, h⟩, fun hn => absurd hgd.out hn⟩, hb⟩

/-- .. at a list that is well made. -/
theorem restore_ok (l : List Ent) (A : Option Addr) (cp : Nat) (w : World) (hR : Rd w A (l.flatMap enE5)) (hl : l.length ≤ 140737488351232) (hok : ∀ e ∈ l, EntOk e) (hst : l.Pairwise (fun a b => ltE a b = true)) :
    Calls Try.prog 17 #[.slice A l.length cp] w fun e w' => ∃ X B, e = .returned (.tuple #[.pointer (some ⟨X, 0, none⟩), .int .i64 0]) ∧ w.heap.size ≤ B ∧ w.heap.size ≤ X ∧ IsBox w' X B (restM l) ∧ Below w.heap.size w w' := by
  refine (restore_any l A cp w hR hl).mono ?_
  rintro e w' ⟨⟨h1, _⟩, hb⟩
  obtain ⟨X, B, g1, g2, g3, g4⟩ := h1 (fun k hk e he => ⟨hok e (List.mem_of_getElem? he), fun y h0 hy => by
    have hk1 : k - 1 < l.length := by omega
    have := (List.pairwise_iff_getElem.1 hst) (k - 1) k hk1 hk (by omega)
    rw [(List.getElem?_eq_some_iff.1 he).2, (List.getElem?_eq_some_iff.1 hy).2] at this
    exact this⟩)
  exact ⟨X, B, g1, g2, g3, g4, hb⟩

end Go.Proofs.Ytidjkigkfefojaa
