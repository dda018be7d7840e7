/-
  The document's inbox: Keep.
-/
import Derived.Test.YtidjkigkfefojaaRef08V
import Derived.Test.YtidjkigkfefojaaPush
namespace Go.Proofs.Ytidjkigkfefojaa
open Go.RowKit Go.WideShapes Go.ChangeShapes Go.ChangeAt Go.Deep
set_option linter.unusedVariables false

theorem IsRef.alloc {base R cap : Nat} {A : Option Addr} {r : List Ent} {w : World} (h : IsRef base w R A cap r) (o : Obj) : IsRef base (w.alloc o) R A cap r := h.next ((Below.refl _ _).alloc (Nat.le_refl _) o)

/-- A row that is being shifted: one dead place at k. -/
theorem shift_set {r : List Ent} {z y : Ent} {k : Nat} (hk : 0 < k) (hkl : k ≤ r.length) (hy : r[k - 1]? = some y) : (r.take k ++ z :: r.drop k).set k y = r.take (k - 1) ++ y :: r.drop (k - 1) := by
  have hl : (r.take k).length = k := by simp; omega
  have e1 : (r.take k ++ z :: r.drop k).set k y = r.take k ++ y :: r.drop k := by
    rw [List.set_append_right _ _ (by omega), hl, Nat.sub_self, List.set_cons_zero]
  have hk1 : k - 1 < r.length := by omega
  have e2 : r.take k = r.take (k - 1) ++ [y] := by
    have := List.take_succ_eq_append_getElem (l := r) (i := k - 1) hk1
    rw [show k - 1 + 1 = k from by omega, (List.getElem?_eq_some_iff.1 hy).2] at this
    exact this
  have e3 : r.drop (k - 1) = y :: r.drop k := by
    rw [List.drop_eq_getElem_cons hk1, (List.getElem?_eq_some_iff.1 hy).2, show k - 1 + 1 = k from by omega]
  rw [e1, e3, e2]
  simp
theorem shift_at {r : List Ent} {z : Ent} {k : Nat} (hk : 0 < k) (hkl : k ≤ r.length) : (r.take k ++ z :: r.drop k)[k - 1]? = r[k - 1]? := by
  rw [List.getElem?_append_left (by simp; omega), List.getElem?_take_of_lt (by omega)]
theorem shift_here {r : List Ent} {z : Ent} {k : Nat} (hkl : k ≤ r.length) : (r.take k ++ z :: r.drop k)[k]? = some z := by
  have hl : (r.take k).length = k := by simp; omega
  rw [List.getElem?_append_right (by omega), hl, Nat.sub_self]; rfl
theorem shift_len {r : List Ent} {z : Ent} {k : Nat} (hkl : k ≤ r.length) : (r.take k ++ z :: r.drop k).length = r.length + 1 := by
  simp; omega
theorem shift_put {r : List Ent} {z y : Ent} {k : Nat} (hkl : k ≤ r.length) : (r.take k ++ z :: r.drop k).set k y = r.take k ++ y :: r.drop k := by
  have hl : (r.take k).length = k := by simp; omega
  rw [List.set_append_right _ _ (by omega), hl, Nat.sub_self, List.set_cons_zero]

/-- The document's inbox with its row at block g. -/
structure IsRow (base : Nat) (w0 w : World) (A0 : Option Addr) (R g cap : Nat) (r : List Ent) : Prop where
  ref : IsRef base w R (some ⟨g, 0, none⟩) cap r
  bg : base ≤ g
  loc : RT w0.heap.size R A0 g
  touch : Touch (RT w0.heap.size R A0) w0 w

theorem IsRow.gR {base R g cap : Nat} {A0 : Option Addr} {r : List Ent} {w0 w : World} (h : IsRow base w0 w A0 R g cap r) : g ≠ R := by
  have := h.ref.lt; have := h.bg; omega
theorem IsRow.drew {base R g cap : Nat} {A0 : Option Addr} {r : List Ent} {w0 w : World} (h : IsRow base w0 w A0 R g cap r) : IsRow base w0 w.drew A0 R g cap r :=
  ⟨h.ref.next (below_drewN (Below.refl _ _) 1), h.bg, h.loc, h.touch.drew⟩
theorem IsRow.cell {base R g cap : Nat} {A0 : Option Addr} {r : List Ent} {w0 w : World} (h : IsRow base w0 w A0 R g cap r) : w.cell? ⟨R, 0, none⟩ = some (.slice (some ⟨g, 0, none⟩) r.length cap) := h.ref.blk.cell 0
theorem IsRow.elem {base R g cap : Nat} {A0 : Option Addr} {r : List Ent} {w0 w : World} (h : IsRow base w0 w A0 R g cap r) {k : Nat} {y : Ent} (hk : r[k]? = some y) : CellsAt w g (k * 5) (enE5 y) := by
  obtain ⟨g', e, _, h2⟩ := h.ref.elem hk
  injection e with e
  injection e with e
  subst e
  exact h2
theorem IsRow.glt {base R g cap : Nat} {A0 : Option Addr} {r : List Ent} {w0 w : World} (h : IsRow base w0 w A0 R g cap r) (hl : 0 < r.length) : g < w.heap.size := by
  obtain ⟨y, hy⟩ : ∃ y, r[0]? = some y := ⟨r[0], List.getElem?_eq_getElem hl⟩
  exact (h.elem hy).1
theorem IsRow.free {base R g cap : Nat} {A0 : Option Addr} {r : List Ent} {w0 w : World} (h : IsRow base w0 w A0 R g cap r) (i : Nat) : w.frozen? ⟨g, i, none⟩ = false := own_free h.ref.own i
theorem IsRow.put {base R g cap : Nat} {A0 : Option Addr} {r : List Ent} {w0 w : World} (h : IsRow base w0 w A0 R g cap r) {k : Nat} (hk : k < r.length) (x : Ent) : IsRow base w0 (storeMany w g (k * 5) (enE5 x)) A0 R g cap (r.set k x) := by
  obtain ⟨h1, h2⟩ := own_set enE5_len h.ref.own hk x
  have ht : Touch (RT w0.heap.size R A0) w (storeMany w g (k * 5) (enE5 x)) := (Touch.of_grown h2).mono (fun k hk => by subst hk; exact h.loc)
  refine ⟨⟨?_, h1, h.ref.lt⟩, h.bg, h.loc, h.touch.then ht⟩
  rw [List.length_set]
  exact (Touch.of_grown h2).blk h.ref.blk (fun e => h.gR e.symm)
theorem IsRow.field {base R g cap : Nat} {A0 : Option Addr} {r : List Ent} {w0 w : World} (h : IsRow base w0 w A0 R g cap r) {k j : Nat} {x x' : Ent} {v : Value} (hk : r[k]? = some x) (hj : j < 5) (hx : enE5 x' = (enE5 x).set j v) : IsRow base w0 (w.setCell ⟨g, k * 5 + j, none⟩ v) A0 R g cap (r.set k x') := by
  obtain ⟨h1, h2⟩ := own_field enE5_len h.ref.own hk hj v x' hx
  have ht : Touch (RT w0.heap.size R A0) w (w.setCell ⟨g, k * 5 + j, none⟩ v) := (Touch.of_grown h2).mono (fun k hk => by subst hk; exact h.loc)
  refine ⟨⟨?_, h1, h.ref.lt⟩, h.bg, h.loc, h.touch.then ht⟩
  rw [List.length_set]
  exact (Touch.of_grown h2).blk h.ref.blk (fun e => h.gR e.symm)

theorem own_at {A : Option Addr} {n cap k : Nat} (h : (Value.slice A n cap).ownBlock = some k) : A.map (·.block) = some k := by
  cases A with
  | none => simp [Value.ownBlock] at h
  | some a => simpa [Value.ownBlock] using h
theorem row_start {base R n cap : Nat} {A A0 : Option Addr} {r : List Ent} {w0 w3 : World} {v' : Value} (h3 : Blk w3 R 43 #[.slice A n cap]) (hO : w3.ownsRow base 70 5 v' (r.length + 1) (r.flatMap enE5 ++ enE5 noEnt)) (hT : Touch (RT w0.heap.size R A0) w0 w3) (hlt : R < base) (hloc : ∀ g, v'.ownBlock = some g → RT w0.heap.size R A0 g) :
    ∃ g cap', v' = .slice (some ⟨g, 0, none⟩) (r.length + 1) cap' ∧ IsRow base w0 (w3.setCell ⟨R, 0, none⟩ (.slice (some ⟨g, 0, none⟩) (r.length + 1) cap')) A0 R g cap' (r.take r.length ++ noEnt :: r.drop r.length) := by
  have e : r.flatMap enE5 ++ enE5 noEnt = (r ++ [noEnt]).flatMap enE5 := by simp
  rw [e] at hO
  have hO' : w3.ownsRow base 70 5 v' (r ++ [noEnt]).length ((r ++ [noEnt]).flatMap enE5) := by simpa using hO
  obtain ⟨g, cap', rfl, hbg, hgl⟩ := own_form hO' (by simp)
  refine ⟨g, cap', by simp, ?_⟩
  have hne : g ≠ R := by omega
  have hl : r.take r.length ++ noEnt :: r.drop r.length = r ++ [noEnt] := by simp
  rw [hl]
  have hg : w3.grownBy (w3.setCell ⟨R, 0, none⟩ (.slice (some ⟨g, 0, none⟩) (r.length + 1) cap')) (some R) := ⟨rfl, rfl, rfl, by simp, fun k _ hk => heap_setCell_other w3 ⟨R, 0, none⟩ k _ (fun e => hk (by simp [e]))⟩
  refine ⟨⟨?_, hO'.kept hg (.inr (by simp [Value.ownBlock]; exact hne)), hlt⟩, hbg, hloc g rfl, hT.then ((Touch.setCell w3 R 0 _).mono (fun k hk => .inl hk))⟩
  have := h3.set_ 0 (.slice (some ⟨g, 0, none⟩) (r.length + 1) cap')
  simpa using this

def KeepPost (base R : Nat) (A : Option Addr) (r : List Ent) (o s t : Int) (u : Bool) (c : Int) (w : World) (e : Ending) (w' : World) : Prop :=
  ∃ A' cap', e = .returned (.int .i64 (keepRr r o s t u)) ∧ IsRef base w' R A' cap' (keepL r o s t u c) ∧ Touch (RT w.heap.size R A) w w'

set_option maxRecDepth 100000 in
set_option maxHeartbeats 16000000 in
theorem rkeep_any {base R cap : Nat} {A : Option Addr} {r : List Ent} (o s t : Int) (u : Bool) (c : Int) (w : World) (h : IsRef base w R A cap r) (hl : r.length * 40 + 40 ≤ 140737488355328) (hbw : base ≤ w.heap.size) :
    Calls Try.prog 22 #[.pointer (some ⟨R, 0, none⟩), .int .i64 o, .int .i64 s, .int .i64 t, .bool u, .int .i64 c] w (KeepPost base R A r o s t u c w) := by
  have K := rask_any o s t u w h (by omega)
  by_cases hv : (askF (entR r (o, s)) t u).1 = 0
  · have HR : Hid (keepRr r o s t u = 0) := hid (if_pos hv)
    have HL : Hid (keepL r o s t u c = if hasK r (o, s) = true then r.set (posK keyE ltP r (o, s)) (keepE (entR r (o, s)) o s t u c) else r.take (posK keyE ltP r (o, s)) ++ keepE noEnt o s t u c :: r.drop (posK keyE ltP r (o, s))) := hid (if_pos hv)
    have F := fun w h => find_any (base := base) (R := R) (cap := cap) (A := A) (r := r) o s w h (by omega)
    have hps : posK keyE ltP r (o, s) ≤ r.length := posK_le _ _
    rw [hv] at K
    generalize (askF (entR r (o, s)) t u).2 = c0 at K
    have HK := hid K
    clear K hv
    cases hh : hasK r (o, s) with
    | true =>
      obtain ⟨y, hy, hky, hey⟩ := hasK_true hh
      rw [hh] at F
      have HL2 : Hid (keepL r o s t u c = r.set (posK keyE ltP r (o, s)) (keepE y o s t u c)) := hid (by rw [HL.out, if_pos hh, hey])
      clear HL hh hey
      have hlt := (List.getElem?_eq_some_iff.1 hy).1
      have HY := hid hy
      have HKY := hid hky
      generalize posK keyE ltP r (o, s) = ps at *
      have HF := hid F
      clear F hy hky
      go_enter Try.func22, Try.ntmps22
      go_wp2_with fail
      refine HK.out.mono ?_
      rintro e w1 ⟨rfl, hb1⟩
      have h1 := h.next hb1
      clear HK h
      go_wp2_with fail
      refine (HF.out _ h1).mono ?_
      rintro e w2 ⟨rfl, hb2⟩
      have h2 := h1.next hb2
      have hb := bthen hb1 hb2
      clear HF h1 hb1 hb2
      obtain ⟨g, rfl, hbg, _⟩ := h2.elem HY.out
      have hI : IsRow base w w2 (some ⟨g, 0, none⟩) R g cap r := ⟨h2, hbg, .inr (.inl rfl), Touch.of_below hb⟩
      obtain ⟨yo, ys, yt, yc, yb⟩ := y
      have hyk : yo = o ∧ ys = s := by have := HKY.out; simp only [keyE, Prod.mk.injEq] at this; exact this
      obtain ⟨rfl, rfl⟩ := hyk
      have c0 : w2.cell? ⟨R, 0, none⟩ = some (.slice (some ⟨g, 0, none⟩) r.length cap) := hI.cell
      have p2 : w2.cell? ⟨g, ps * 5 + 2, none⟩ = some (.int .i64 yt) := (hI.elem HY.out).2 2 _ rfl
      have p3 : w2.cell? ⟨g, ps * 5 + 3, none⟩ = some (.int .i64 yc) := (hI.elem HY.out).2 3 _ rfl
      have p4 : w2.cell? ⟨g, ps * 5 + 4, none⟩ = some (.bool yb) := (hI.elem HY.out).2 4 _ rfl
      have f2 := hI.free (ps * 5 + 2)
      have f3 := hI.free (ps * 5 + 3)
      have f4 := hI.free (ps * 5 + 4)
      have hgR : g ≠ R := hI.gR
      cases u with
      | true =>
        have hJ := hid (hI.field (k := ps) (j := 4) (x' := ⟨yo, ys, yt, yc, true⟩) (v := .bool true) HY.out (by omega) rfl)
        clear hI h2 hb
        go_wp2_with fail
        go_ret
        exact ⟨_, _, by rw [HR.out]; rfl, by rw [HL2.out]; exact hJ.out.ref, hJ.out.touch⟩
      | false =>
        have hJ1 := hI.field (k := ps) (j := 2) (x' := ⟨yo, ys, t, yc, yb⟩) (v := .int .i64 t) HY.out (by omega) rfl
        have hJ := hid (hJ1.field (k := ps) (j := 3) (x := ⟨yo, ys, t, yc, yb⟩) (x' := ⟨yo, ys, t, c, yb⟩) (v := .int .i64 c) (by rw [List.getElem?_set, if_pos rfl, if_pos hlt]) (by omega) rfl)
        clear hI h2 hb hJ1
        go_wp2_with fail
        go_ret
        exact ⟨_, _, by rw [HR.out]; rfl, by have := hJ.out.ref; rw [List.set_set] at this; rw [HL2.out]; exact this, hJ.out.touch⟩
    | false =>
      rw [hh] at F
      have HL2 : Hid (keepL r o s t u c = r.take (posK keyE ltP r (o, s)) ++ keepE noEnt o s t u c :: r.drop (posK keyE ltP r (o, s))) := hid (by rw [HL.out, hh, if_neg (by decide)])
      clear HL hh
      generalize posK keyE ltP r (o, s) = ps at *
      have HF := hid F
      clear F
      obtain ⟨i0, hi, hz0, hz1, hz2⟩ := info_parts info_ent2
      go_enter Try.func22, Try.ntmps22
      go_wp2_with fail
      refine HK.out.mono ?_
      rintro e w1 ⟨rfl, hb1⟩
      have h1 := h.next hb1
      clear HK h
      go_wp2_with fail
      refine (HF.out _ h1).mono ?_
      rintro e w2 ⟨rfl, hb2⟩
      have h2 := h1.next hb2
      have hb := bthen hb1 hb2
      clear HF h1 hb1 hb2
      have c0 : w2.cell? ⟨R, 0, none⟩ = some (.slice A r.length cap) := h2.blk.cell 0
      have hRl : R < w2.heap.size := h2.blk.lt
      have hbw2 : base ≤ w2.heap.size := Nat.le_trans hbw hb.size
      have hww2 : w.heap.size ≤ w2.heap.size := hb.size
      have HO := hid h2.own
      have HB := hid (h2.blk.alloc (.cells #[.int .i64 0, .int .i64 0, .int .i64 0, .int .i64 0, .bool false] 70))
      have HT := hid ((Touch.of_below (S := RT w.heap.size R A) hb).alloc (.cells #[.int .i64 0, .int .i64 0, .int .i64 0, .int .i64 0, .bool false] 70))
      have hRb : R < base := h2.lt
      clear hb h2
      go_wp2_with (first
        | (at_builtin; refine wpList_push_at _ rfl _ _ 41 rfl base 70 i0 _ 5 40 Try.underlying41 hi hz0 hz1 hz2 rfl (by decide) _ _ _ (by rfl) HO.out #[.int .i64 0, .int .i64 0, .int .i64 0, .int .i64 0, .bool false] w2.heap.size (by simp) (by rfl) (by rfl) (by rfl) (by unfold maxLen; omega) (by omega) (by omega) ?_; intro v' w3 hO3 hg3 hat3; have hB3 := HB.out.grown hg3 (fun e => by have := (HO.out.lt R e.symm).1; omega); obtain ⟨g, cap', rfl, hI0⟩ := row_start hB3 hO3 (HT.out.then (touch_row hg3 (fun k e => .inr (.inl (own_at e))))) hRb (fun g e => hat3.elim (fun e1 => .inr (.inl (own_at (e1 ▸ e)))) (fun e1 => .inr (.inr (by rw [e1] at e; injection e with e; omega)))); have c3 : w3.cell? ⟨R, 0, none⟩ = some (.slice A r.length cap) := hB3.cell 0; have f3 := hB3.free 0; have HI0 := hid hI0; clear hI0 hO3 hg3 hB3 c0))
      obtain ⟨w4, hw4⟩ : ∃ w4, w4 = w3.setCell ⟨R, 0, none⟩ (.slice (some ⟨g, 0, none⟩) (r.length + 1) cap') := ⟨_, rfl⟩
      have hI := HI0.out
      rw [← hw4] at hI ⊢
      clear hw4 HI0 c3 f3 HO HB HT hRl hbw2
      go_loopw [17] (fun i wr => ∃ (k : Nat) (z : Ent), i = .int .i64 k ∧ ps ≤ k ∧ k ≤ r.length ∧ IsRow base w wr A R g cap' (r.take k ++ z :: r.drop k)) (fun i _ => (intOf i).toNat)
      case atStart => exact ⟨r.length, noEnt, by go_num, hps, Nat.le_refl _, hI⟩
      case round =>
        clear hI
        obtain ⟨k, z, rfl, hk1, hk2, hI⟩ := hrel
        have hln := shift_len (z := z) hk2
        obtain ⟨n1, hn1⟩ : ∃ n1, n1 = r.length + 1 := ⟨_, rfl⟩
        have c0 : wr.cell? ⟨R, 0, none⟩ = some (.slice (some ⟨g, 0, none⟩) n1 cap') := by have := hI.cell; rw [hln, ← hn1] at this; exact this
        have hkn : k < n1 := by omega
        have hn2 : n1 ≤ 140737488355328 := by omega
        have HN := hid hn1
        have hgR : g ≠ R := hI.gR
        by_cases hlt : ps < k
        · have hk0 : 0 < k := by omega
          obtain ⟨y, hy⟩ : ∃ y, r[k - 1]? = some y := ⟨r[k - 1], List.getElem?_eq_getElem (by omega)⟩
          have e1 := hI.elem (k := k - 1) (y := y) (by rw [shift_at hk0 hk2]; exact hy)
          have e2 := hI.elem (k := k) (y := z) (shift_here hk2)
          have hJ := hid (hI.put (k := k) (by rw [hln]; omega) y).drew
          have hS := hid (shift_set (z := z) hk0 hk2 hy)
          have hkw : IntKind.i64.wrap ((k : Int) - 1) = ((k - 1 : Nat) : Int) := by rw [IntWalk.i64_in _ ⟨by omega, by omega⟩]; omega
          have hkl : k - 1 < n1 := by omega
          clear hn1
          obtain ⟨yo, ys, yt, yc, yb⟩ := y
          obtain ⟨zo, zs, zt, zc, zb⟩ := z
          have p0 : wr.cell? ⟨g, (k - 1) * 5, none⟩ = some (.int .i64 yo) := e1.2 0 _ rfl
          have p1 : wr.cell? ⟨g, (k - 1) * 5 + 1, none⟩ = some (.int .i64 ys) := e1.2 1 _ rfl
          have p2 : wr.cell? ⟨g, (k - 1) * 5 + 2, none⟩ = some (.int .i64 yt) := e1.2 2 _ rfl
          have p3 : wr.cell? ⟨g, (k - 1) * 5 + 3, none⟩ = some (.int .i64 yc) := e1.2 3 _ rfl
          have p4 : wr.cell? ⟨g, (k - 1) * 5 + 4, none⟩ = some (.bool yb) := e1.2 4 _ rfl
          have q0 : wr.cell? ⟨g, k * 5, none⟩ = some (.int .i64 zo) := e2.2 0 _ rfl
          have q1 : wr.cell? ⟨g, k * 5 + 1, none⟩ = some (.int .i64 zs) := e2.2 1 _ rfl
          have q2 : wr.cell? ⟨g, k * 5 + 2, none⟩ = some (.int .i64 zt) := e2.2 2 _ rfl
          have q3 : wr.cell? ⟨g, k * 5 + 3, none⟩ = some (.int .i64 zc) := e2.2 3 _ rfl
          have q4 : wr.cell? ⟨g, k * 5 + 4, none⟩ = some (.bool zb) := e2.2 4 _ rfl
          have f0 := hI.free (k * 5)
          have f1 := hI.free (k * 5 + 1)
          have f2 := hI.free (k * 5 + 2)
          have f3 := hI.free (k * 5 + 3)
          have f4 := hI.free (k * 5 + 4)
          clear e1 e2 hI hy hln
          go_wp2_with fail
          refine wp_tail 14 (by kernel_rfl) (by kernel_rfl) ?_
          simp only [List.take_succ_cons, List.take_zero, List.drop_succ_cons, List.drop_zero]
          repeat still_step
          refine wpStill_nil ?_
          clear hkw
          go_wp2_with fail
          go_roundw
          case rel => exact ⟨k - 1, ⟨yo, ys, yt, yc, yb⟩, by congr 1; omega, by omega, by omega, by have := hJ.out; rw [hS.out] at this; exact this⟩
          case measure => simp [intOf]; omega
        · have : k = ps := by omega
          subst this
          have hkl : k < (r.take k ++ z :: r.drop k).length := by rw [hln]; omega
          have e2 := hI.elem (k := k) (y := z) (shift_here hk2)
          have J0 := hI.put (k := k) hkl ⟨o, s, 0, 0, false⟩
          rw [shift_put hk2] at J0
          obtain ⟨zo, zs, zt, zc, zb⟩ := z
          have q0 : wr.cell? ⟨g, k * 5, none⟩ = some (.int .i64 zo) := e2.2 0 _ rfl
          have q1 : wr.cell? ⟨g, k * 5 + 1, none⟩ = some (.int .i64 zs) := e2.2 1 _ rfl
          have q2 : wr.cell? ⟨g, k * 5 + 2, none⟩ = some (.int .i64 zt) := e2.2 2 _ rfl
          have q3 : wr.cell? ⟨g, k * 5 + 3, none⟩ = some (.int .i64 zc) := e2.2 3 _ rfl
          have q4 : wr.cell? ⟨g, k * 5 + 4, none⟩ = some (.bool zb) := e2.2 4 _ rfl
          have f0 := hI.free (k * 5)
          have f1 := hI.free (k * 5 + 1)
          have f2 := hI.free (k * 5 + 2)
          have f3 := hI.free (k * 5 + 3)
          have f4 := hI.free (k * 5 + 4)
          have hat : (r.take k ++ (⟨o, s, 0, 0, false⟩ : Ent) :: r.drop k)[k]? = some ⟨o, s, 0, 0, false⟩ := shift_here hk2
          cases u with
          | true =>
            have J1 := J0.field (k := k) (j := 4) (x' := ⟨o, s, 0, 0, true⟩) (v := .bool true) hat (by omega) rfl
            rw [shift_put hk2] at J1
            have hJ := hid J1
            clear J0 J1 hat e2 hI hln hn1
            go_wp2_with fail
            go_ret
            exact ⟨_, _, by rw [HR.out]; rfl, by rw [HL2.out]; exact hJ.out.ref, hJ.out.touch⟩
          | false =>
            have J1 := J0.field (k := k) (j := 2) (x' := ⟨o, s, t, 0, false⟩) (v := .int .i64 t) hat (by omega) rfl
            rw [shift_put hk2] at J1
            have J2 := J1.field (k := k) (j := 3) (x := ⟨o, s, t, 0, false⟩) (x' := ⟨o, s, t, c, false⟩) (v := .int .i64 c) (shift_here hk2) (by omega) rfl
            rw [shift_put hk2] at J2
            have hJ := hid J2
            clear J0 J1 J2 hat e2 hI hln hn1
            go_wp2_with fail
            go_ret
            exact ⟨_, _, by rw [HR.out]; rfl, by rw [HL2.out]; exact hJ.out.ref, hJ.out.touch⟩
  · have HR : Hid (keepRr r o s t u = 130) := hid (if_neg hv)
    have HL : Hid (keepL r o s t u c = r) := hid (if_neg hv)
    have hv2 : ((askF (entR r (o, s)) t u).1 != 0) = true := by simpa using hv
    clear hv
    generalize (askF (entR r (o, s)) t u).1 = v0 at *
    generalize (askF (entR r (o, s)) t u).2 = c0 at *
    have HK := hid K
    clear K
    go_enter Try.func22, Try.ntmps22
    go_wp2_with fail
    refine HK.out.mono ?_
    rintro e w1 ⟨rfl, hb⟩
    replace h := h.next hb
    clear HK
    go_wp2_with fail
    go_ret
    exact ⟨_, _, by rw [HR.out]; rfl, by rw [HL.out]; exact h, Touch.of_below hb⟩

end Go.Proofs.Ytidjkigkfefojaa
