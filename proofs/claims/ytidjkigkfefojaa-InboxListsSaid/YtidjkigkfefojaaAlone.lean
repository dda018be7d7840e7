/-
  The walk of InboxAlone.
-/
import Derived.Test.YtidjkigkfefojaaOnce
import Derived.Deep.RegionHeld3
namespace Go.Proofs.Ytidjkigkfefojaa
open Go.RowKit
set_option linter.unusedVariables false

/-- A request. -/
structure Req where
  o : Int
  s : Int
  t : Int
  c : Int
  u : Bool
  k : Bool
def enR (x : Req) : List Value := [.int .i64 x.o, .int .i64 x.s, .int .i64 x.t, .int .i64 x.c, .bool x.u, .bool x.k]
theorem enR_len (x : Req) : (enR x).length = 6 := rfl
def okR (x : Req) : Prop := I64 x.o ∧ I64 x.s ∧ I64 x.t ∧ I64 x.c
theorem decR (vs : List Value) (hl : vs.length = 6) (h : ∀ j, j < 6 → ∃ (u : Value) (k : SK), vs[j]? = some u ∧ ([SK.int .i64, .int .i64, .int .i64, .int .i64, .bool, .bool] : List SK)[j]? = some k ∧ k.ok u) : ∃ x : Req, vs = enR x ∧ okR x := by
  match vs, hl with
  | [a, b, c, d, e, f], _ =>
    obtain ⟨u0, k0, a0, b0, c0⟩ := h 0 (by omega)
    obtain ⟨u1, k1, a1, b1, c1⟩ := h 1 (by omega)
    obtain ⟨u2, k2, a2, b2, c2⟩ := h 2 (by omega)
    obtain ⟨u3, k3, a3, b3, c3⟩ := h 3 (by omega)
    obtain ⟨u4, k4, a4, b4, c4⟩ := h 4 (by omega)
    obtain ⟨u5, k5, a5, b5, c5⟩ := h 5 (by omega)
    simp at a0 b0 a1 b1 a2 b2 a3 b3 a4 b4 a5 b5
    subst a0 b0 a1 b1 a2 b2 a3 b3 a4 b4 a5 b5
    obtain ⟨n0, rfl, g0⟩ := c0
    obtain ⟨n1, rfl, g1⟩ := c1
    obtain ⟨n2, rfl, g2⟩ := c2
    obtain ⟨n3, rfl, g3⟩ := c3
    obtain ⟨p4, rfl⟩ := c4
    obtain ⟨p5, rfl⟩ := c5
    exact ⟨⟨n0, n1, n2, n3, p4, p5⟩, rfl, g0, g1, g2, g3⟩

theorem entAt_keepM (m : List ((Int × Int) × Ent)) (o s t : Int) (u : Bool) (c : Int) (p : Int × Int) :
    entAt (keepM m o s t u c) p = if p = (o, s) then (if (askF (entAt m (o, s)) t u).1 = 0 then keepE (entAt m (o, s)) o s t u c else entAt m (o, s)) else entAt m p := by
  unfold keepM
  split
  · rw [entAt_mset]
  · split
    · rename_i h; rw [h]
    · rfl

/-- Two inboxes, the request's block, the script. -/
def Both (w0 : World) (X B Y C G : Nat) (x : Req) (mx my : List ((Int × Int) × Ent)) (A : Option Addr) (l : List Req) (w : World) : Prop :=
  IsBox w X B mx ∧ IsBox w Y C my ∧ Blk w G 37 (enR x).toArray ∧ Rd w A (l.flatMap enR) ∧ Below w0.heap.size w0 w

section
variable {w0 w w' : World} {X B Y C G : Nat} {x : Req} {mx my : List ((Int × Int) × Ent)} {A : Option Addr} {l : List Req}
theorem Both.next (h : Both w0 X B Y C G x mx my A l w) (hb : Below w.heap.size w w') : Both w0 X B Y C G x mx my A l w' :=
  ⟨h.1.next hb, h.2.1.next hb, h.2.2.1.next hb, h.2.2.2.1.below hb, bthen h.2.2.2.2 hb⟩
theorem Both.drew (h : Both w0 X B Y C G x mx my A l w) : Both w0 X B Y C G x mx my A l w.drew := ⟨h.1, h.2.1, h.2.2.1, h.2.2.2.1, h.2.2.2.2.drew⟩
theorem Both.drewN (h : Both w0 X B Y C G x mx my A l w) (n : Nat) : Both w0 X B Y C G x mx my A l (w.drewN n) := h.next (below_drewN (Below.refl _ _) n)
theorem Both.keptX {mx' : List ((Int × Int) × Ent)} (h : Both w0 X B Y C G x mx my A l w) (hx : IsBox w' X B mx') (hg : w.grownBy w' (some B)) (hB : w0.heap.size ≤ B) (hBC : B ≠ C) (hBY : B ≠ Y) : Both w0 X B Y C G x mx' my A l w' :=
  ⟨hx, h.2.1.grown hg (fun e => hBY (by injection e with e; exact e.symm)) (fun e => hBC (by injection e with e; exact e.symm)), h.2.2.1.grown hg (fun e => h.1.2.notBlk h.2.2.1 (by injection e with e; exact e.symm)), h.2.2.2.1.store h.1.2 hg, h.2.2.2.2.trans (grown_below hg h.2.2.2.2.size hB)⟩
theorem Both.keptY {my' : List ((Int × Int) × Ent)} (h : Both w0 X B Y C G x mx my A l w) (hy : IsBox w' Y C my') (hg : w.grownBy w' (some C)) (hC : w0.heap.size ≤ C) (hBC : B ≠ C) (hCX : C ≠ X) : Both w0 X B Y C G x mx my' A l w' :=
  ⟨h.1.grown hg (fun e => hCX (by injection e with e; exact e.symm)) (fun e => hBC (by injection e)), hy, h.2.2.1.grown hg (fun e => h.2.1.2.notBlk h.2.2.1 (by injection e with e; exact e.symm)), h.2.2.2.1.store h.2.1.2 hg, h.2.2.2.2.trans (grown_below hg h.2.2.2.2.size hC)⟩
theorem Both.ofY (h : Both w0 X B Y C G x mx my A l w) : IsBox w Y C my := h.2.1
theorem Both.cells (h : Both w0 X B Y C G x mx my A l w) : w.cell? ⟨G, 2, none⟩ = some (.int .i64 x.t) ∧ w.cell? ⟨G, 3, none⟩ = some (.int .i64 x.c) ∧ w.cell? ⟨G, 4, none⟩ = some (.bool x.u) :=
  ⟨by rw [h.2.2.1.cell]; rfl, by rw [h.2.2.1.cell]; rfl, by rw [h.2.2.1.cell]; rfl⟩
theorem Both.cells4 (h : Both w0 X B Y C G x mx my A l w) : w.cell? ⟨G, 2, none⟩ = some (.int .i64 x.t) ∧ w.cell? ⟨G, 3, none⟩ = some (.int .i64 x.c) ∧ w.cell? ⟨G, 4, none⟩ = some (.bool x.u) ∧ w.cell? ⟨G, 5, none⟩ = some (.bool x.k) :=
  ⟨by rw [h.2.2.1.cell]; rfl, by rw [h.2.2.1.cell]; rfl, by rw [h.2.2.1.cell]; rfl, by rw [h.2.2.1.cell]; rfl⟩
theorem Both.cells2 (h : Both w0 X B Y C G x mx my A l w) : w.cell? ⟨G, 0, none⟩ = some (.int .i64 x.o) ∧ w.cell? ⟨G, 1, none⟩ = some (.int .i64 x.s) ∧ w.cell? ⟨G, 5, none⟩ = some (.bool x.k) :=
  ⟨by rw [h.2.2.1.cell]; rfl, by rw [h.2.2.1.cell]; rfl, by rw [h.2.2.1.cell]; rfl⟩
end

set_option maxRecDepth 100000 in
set_option maxHeartbeats 4000000 in
theorem inboxAlone_walk (l : List Req) (A : Option Addr) (cp : Nat) (O S : Int) (w : World) (hR : Rd w A (l.flatMap enR)) (hl : l.length ≤ 140737488351232) :
    Calls Try.prog 4 #[.slice A l.length cp, .int .i64 O, .int .i64 S] w (Law w) := by
  go_enter Try.func4, Try.ntmps4
  go_wp2_with fail
  refine (wakes_any _).mono ?_
  rintro e w1 ⟨rfl, hb⟩
  replace hR := hR.below hb
  go_wp2_with fail
  refine (new_some _).mono ?_
  rintro e w2 ⟨X, B, rfl, hB, hX, hb1, hltB⟩
  replace hR := hR.below hb1
  have hwB : w.heap.size ≤ B := Nat.le_trans hb.size hB
  replace hb := bthen hb hb1
  have hltX := hX.1.lt
  clear hb1 hB
  go_wp2_with fail
  refine (new_some _).mono ?_
  rintro e w3 ⟨Y, C, rfl, hC, hY, hb1, hltC⟩
  replace hR := hR.below hb1
  replace hX := hX.next hb1
  have hwC : w.heap.size ≤ C := Nat.le_trans hb.size hC
  replace hb := bthen hb hb1
  have hBC : B ≠ C := by omega
  have hCX : C ≠ X := by omega
  have hBY : B ≠ Y := by
    rintro rfl
    exact hX.2.notBlk hY.1 rfl
  clear hb1 hC hltB hltC hltX
  go_wp2_with fail
  go_loopw [21] (fun i wr => ∃ (k : Nat) (mx my : List ((Int × Int) × Ent)), k ≤ l.length ∧ i = .int .i64 k ∧ Hid (entAt mx (O, S) = entAt my (O, S)) ∧ IsBox wr X B mx ∧ IsBox wr Y C my ∧ Rd wr A (l.flatMap enR) ∧ Below w.heap.size w wr) (fun i _ => l.length - (intOf i).toNat)
  case atStart => exact ⟨0, [], [], Nat.zero_le _, rfl, hid rfl, hX, hY, hR, hb⟩
  case round =>
    clear hX hY hR hb
    obtain ⟨k, mx, my, hk, rfl, hE, hX, hY, hR, hb⟩ := hrel
    by_cases hlt : k < l.length
    · obtain ⟨x, hx⟩ : ∃ x, l[k]? = some x := ⟨l[k], List.getElem?_eq_getElem hlt⟩
      obtain ⟨b, off, e0, hbs, hcc⟩ := hR.at_ 6 enR_len (by omega) hx
      obtain ⟨xo, xs, xt, xc, xu, xk⟩ := x
      have q0 : wr.cell? ⟨b, off + k * 6, none⟩ = some (.int .i64 xo) := hcc 0 _ rfl
      have q1 : wr.cell? ⟨b, off + k * 6 + 1, none⟩ = some (.int .i64 xs) := hcc 1 _ rfl
      have q2 : wr.cell? ⟨b, off + k * 6 + 2, none⟩ = some (.int .i64 xt) := hcc 2 _ rfl
      have q3 : wr.cell? ⟨b, off + k * 6 + 3, none⟩ = some (.int .i64 xc) := hcc 3 _ rfl
      have q4 : wr.cell? ⟨b, off + k * 6 + 4, none⟩ = some (.bool xu) := hcc 4 _ rfl
      have q5 : wr.cell? ⟨b, off + k * 6 + 5, none⟩ = some (.bool xk) := hcc 5 _ rfl
      clear hcc hx
      have hW : Both w X B Y C wr.heap.size ⟨xo, xs, xt, xc, xu, xk⟩ mx my A l (wr.alloc (.cells #[.int .i64 xo, .int .i64 xs, .int .i64 xt, .int .i64 xc, .bool xu, .bool xk] 37)) :=
        ⟨hX.alloc _, hY.alloc _, Blk.new _ _ _, hR.below ((Below.refl _ _).alloc (Nat.le_refl _) _), hb.alloc hb.size _⟩
      clear hX hY hR hb
      subst e0
      cases h1 : (xo != O) with
      | true =>
        have HN := hid (show ¬ ((O, S) = (xo, xs)) from fun e => by simp at e; simp [e.1] at h1)
        cases xk with
        | true =>
          have K := hid fun w h => keep_any X B mx xo xs xt xc xu w h
          go_wp2_with fail
          refine (K.out _ hW.1).mono ?_
          rintro e w5 ⟨rfl, h5, hg⟩
          have hW5 := hW.keptX h5 hg hwB hBC hBY
          clear h5 hg hW K
          go_wp2_with fail
          go_roundw
          case rel => exact ⟨k + 1, _, my, by omega, by go_num, hid (by rw [entAt_keepM, if_neg HN.out]; exact hE.out), hW5.1, hW5.2.1, hW5.2.2.2.1, hW5.2.2.2.2⟩
          case measure => simp [intOf]; omega
        | false =>
          go_wp2_with fail
          go_roundw
          case rel => exact ⟨k + 1, mx, my, by omega, by go_num, hE, hW.1, hW.2.1, hW.2.2.2.1, hW.2.2.2.2⟩
          case measure => simp [intOf]; omega
      | false =>
        cases h2 : (xs != S) with
        | true =>
          have HN := hid (show ¬ ((O, S) = (xo, xs)) from fun e => by simp at e; simp [e.2] at h2)
          cases xk with
          | true =>
            have K := hid fun w h => keep_any X B mx xo xs xt xc xu w h
            go_wp2_with fail
            refine (K.out _ hW.1).mono ?_
            rintro e w5 ⟨rfl, h5, hg⟩
            have hW5 := hW.keptX h5 hg hwB hBC hBY
            clear h5 hg hW K
            go_wp2_with fail
            go_roundw
            case rel => exact ⟨k + 1, _, my, by omega, by go_num, hid (by rw [entAt_keepM, if_neg HN.out]; exact hE.out), hW5.1, hW5.2.1, hW5.2.2.2.1, hW5.2.2.2.2⟩
            case measure => simp [intOf]; omega
          | false =>
            go_wp2_with fail
            go_roundw
            case rel => exact ⟨k + 1, mx, my, by omega, by go_num, hE, hW.1, hW.2.1, hW.2.2.2.1, hW.2.2.2.2⟩
            case measure => simp [intOf]; omega
        | false =>
          have A1 := fun w h => ask_any X B mx O S xt xu w h
          have A2 := fun w h => ask_any Y C my O S xt xu w h
          rw [hE.out] at A1
          generalize (askF (entAt my (O, S)) xt xu).1 = v at A1 A2
          generalize (askF (entAt my (O, S)) xt xu).2 = c at A1 A2
          replace A1 := hid A1
          replace A2 := hid A2
          cases xk with
          | true =>
            have K1 := fun w h => keep_any X B mx O S xt xc xu w h
            have K2 := fun w h => keep_any Y C my O S xt xc xu w h
            rw [show keepR mx O S xt xu = keepR my O S xt xu from by unfold keepR; rw [hE.out]] at K1
            generalize keepR my O S xt xu = r at K1 K2
            replace K1 := hid K1
            replace K2 := hid K2
            have HE : Hid (entAt (keepM mx O S xt xu xc) (O, S) = entAt (keepM my O S xt xu xc) (O, S)) := hid (by rw [entAt_keepM, entAt_keepM, if_pos rfl, if_pos rfl, hE.out])
            generalize hG : wr.heap.size = G at hW
            have HG := hid hG
            clear hG
            go_wp2_with fail
            refine (A1.out _ hW.1).mono ?_
            rintro e w5 ⟨rfl, hb5⟩
            replace hW := hW.next hb5
            clear hb5 A1
            have d2 : w5.cell? ⟨G, 2, none⟩ = some (.int .i64 xt) := hW.cells.1
            have d3 : w5.cell? ⟨G, 3, none⟩ = some (.int .i64 xc) := hW.cells.2.1
            have d4 : w5.cell? ⟨G, 4, none⟩ = some (.bool xu) := hW.cells.2.2
            have d5 : w5.cell? ⟨G, 5, none⟩ = some (.bool true) := hW.cells2.2.2
            rw [HG.out]
            go_wp2_with fail
            refine (A2.out _ hW.2.1).mono ?_
            rintro e w6 ⟨rfl, hb5⟩
            replace hW := hW.next hb5
            clear hb5 A2 d2 d3 d4 d5
            have d2 : w6.cell? ⟨G, 2, none⟩ = some (.int .i64 xt) := hW.cells.1
            have d3 : w6.cell? ⟨G, 3, none⟩ = some (.int .i64 xc) := hW.cells.2.1
            have d4 : w6.cell? ⟨G, 4, none⟩ = some (.bool xu) := hW.cells.2.2
            have d5 : w6.cell? ⟨G, 5, none⟩ = some (.bool true) := hW.cells2.2.2
            go_wp2_with fail
            replace hW := hW.drew
            go_region_held3 (fun w' => w'.cell? ⟨G, 2, none⟩ = some (.int .i64 xt) ∧ w'.cell? ⟨G, 3, none⟩ = some (.int .i64 xc) ∧ w'.cell? ⟨G, 4, none⟩ = some (.bool xu) ∧ w'.cell? ⟨G, 5, none⟩ = some (.bool true))
              (exact Both.cells4 (by assumption))
              (first
                | (go_at_call 12; refine (K1.out _ hW.1).mono ?_; rintro e w7 ⟨rfl, h5, hg⟩; have hW7 := hW.keptX h5 hg hwB hBC hBY; clear h5 hg hW)
                | (go_at_call 12; refine (K2.out _ (Both.ofY (by assumption))).mono ?_; rintro e w8 ⟨rfl, h5, hg⟩; have hW8 := Both.keptY (by assumption) h5 hg hwC hBC hCX; clear h5 hg))
            all_goals
              go_wp2_with fail
              go_roundw
              case rel => exact ⟨k + 1, _, _, by omega, by go_num, HE, hW8.1, hW8.2.1, hW8.2.2.2.1, hW8.2.2.2.2⟩
              case measure => simp [intOf]; omega
          | false =>
            generalize hG : wr.heap.size = G at hW
            have HG := hid hG
            clear hG
            go_wp2_with fail
            refine (A1.out _ hW.1).mono ?_
            rintro e w5 ⟨rfl, hb5⟩
            replace hW := hW.next hb5
            clear hb5 A1
            have d2 : w5.cell? ⟨G, 2, none⟩ = some (.int .i64 xt) := hW.cells.1
            have d3 : w5.cell? ⟨G, 3, none⟩ = some (.int .i64 xc) := hW.cells.2.1
            have d4 : w5.cell? ⟨G, 4, none⟩ = some (.bool xu) := hW.cells.2.2
            have d5 : w5.cell? ⟨G, 5, none⟩ = some (.bool false) := hW.cells2.2.2
            rw [HG.out]
            go_wp2_with fail
            refine (A2.out _ hW.2.1).mono ?_
            rintro e w6 ⟨rfl, hb5⟩
            replace hW := hW.next hb5
            clear hb5 A2 d2 d3 d4 d5
            have d2 : w6.cell? ⟨G, 2, none⟩ = some (.int .i64 xt) := hW.cells.1
            have d3 : w6.cell? ⟨G, 3, none⟩ = some (.int .i64 xc) := hW.cells.2.1
            have d4 : w6.cell? ⟨G, 4, none⟩ = some (.bool xu) := hW.cells.2.2
            have d5 : w6.cell? ⟨G, 5, none⟩ = some (.bool false) := hW.cells2.2.2
            go_wp2_with fail
            go_quiet (fail)
            go_wp2_with fail
            replace hW := hW.drewN nq
            go_roundw
            case rel => exact ⟨k + 1, mx, my, by omega, by go_num, hE, hW.1, hW.2.1, hW.2.2.2.1, hW.2.2.2.2⟩
            case measure => simp [intOf]; omega
    · have hk' : k = l.length := by omega
      subst hk'
      have D1 := fun w h => done_any X B mx O S w h
      have D2 := hid fun w h => done_any Y C my O S w h
      rw [hE.out] at D1
      replace D1 := hid D1
      clear hlt hk
      go_wp2_with fail
      refine (D1.out _ hX).mono ?_
      rintro e w5 ⟨rfl, hb5⟩
      replace hY := hY.next hb5
      replace hb := bthen hb hb5
      clear hb5
      go_wp2_with fail
      refine (D2.out _ hY).mono ?_
      rintro e w6 ⟨rfl, hb5⟩
      replace hb := bthen hb hb5
      go_wp2_with fail
      go_ret
      exact ⟨by simp, hb⟩

end Go.Proofs.Ytidjkigkfefojaa
