/-
  The walk of StockRestores.
-/
import Derived.Test.YthfaaimmfdidnaaPlay15
import Derived.Test.YthfaaimmfdidnaaRsR15
import Derived.Test.YthfaaimmfdidnaaRst15
import Derived.Deep.AppendLies
namespace Go.Proofs.Ythfaaimmfdidnaa
open Go.RowKit Go.WideShapes Go.ChangeShapes Go.ChangeAt Go.Deep
set_option linter.unusedVariables false

theorem nil_state (o : Int) (w : World) : Calls Try.prog 33 #[.pointer none, .int .i64 o] w fun e w' => e = .returned (.tuple #[.int .i64 0, .int .i64 1]) ∧ w = w' := by
  go_enter Try.func33, Try.ntmps33
  go_wp2_with fail
  go_ret2
  exact ⟨rfl, rfl⟩
theorem nil_goods (o : Int) (w : World) : Calls Try.prog 15 #[.pointer none, .int .i64 o] w fun e w' => e = .returned (.tuple #[.agg #[.int .i64 0, .int .i64 0, .slice none 0 0], .bool false]) ∧ Below w.heap.size w w' := by
  go_enter Try.func15, Try.ntmps15
  go_wp2_with (first | (go_at_call 33; refine (nil_state _ _).mono ?_; rintro e w2 ⟨rfl, rfl⟩))
  refine bodyPost_ret (v := .tuple #[.agg #[.int .i64 0, .int .i64 0, .slice none 0 0], .bool false]) (by simp [results, Try.results15, go_sem]) rfl ⟨rfl, (Below.refl _ _).alloc (Nat.le_refl _) _⟩
theorem nil_item (id : Int) (w : World) : Calls Try.prog 11 #[.pointer none, .int .i64 id] w fun e w' => e = .returned (.int .i64 1) ∧ w = w' := by
  go_enter Try.func11, Try.ntmps11
  go_wp2_with fail
  go_ret
  exact ⟨rfl, rfl⟩
theorem nil_recv (id q : Int) (w : World) : Calls Try.prog 12 #[.pointer none, .int .i64 id, .int .i64 q] w fun e w' => e = .returned (.int .i64 1) ∧ w = w' := by
  go_enter Try.func12, Try.ntmps12
  go_wp2_with fail
  go_ret
  exact ⟨rfl, rfl⟩
theorem nil_alloc (o : Int) (w : World) : Calls Try.prog 13 #[.pointer none, .int .i64 o, .slice none 0 0] w fun e w' => e = .returned (.int .i64 1) ∧ Below w.heap.size w w' := by
  go_enter Try.func13, Try.ntmps13
  go_wp2_with fail
  go_ret
  exact ⟨rfl, (Below.refl _ _).alloc (Nat.le_refl _) _⟩
theorem nil_free (o : Int) (w : World) : Calls Try.prog 16 #[.pointer none, .int .i64 o] w fun e w' => e = .returned (.int .i64 1) ∧ w = w' := by
  go_enter Try.func16, Try.ntmps16
  go_wp2_with (first | (go_at_call 33; refine (nil_state _ _).mono ?_; rintro e w2 ⟨rfl, rfl⟩))
  go_ret
  exact ⟨rfl, rfl⟩
theorem nil_onward (o st : Int) (v : Value) (w : World) : Calls Try.prog 36 #[.pointer none, .int .i64 o, .int .i64 st, v] w fun e w' => e = .returned (.int .i64 1) ∧ w = w' := by
  go_enter Try.func36, Try.ntmps36
  go_wp2_with (first | (go_at_call 33; refine (nil_state _ _).mono ?_; rintro e w2 ⟨rfl, rfl⟩))
  go_ret
  exact ⟨rfl, rfl⟩
theorem nil_ship (o : Int) (w : World) : Calls Try.prog 17 #[.pointer none, .int .i64 o] w fun e w' => e = .returned (.int .i64 1) ∧ w = w' := by
  go_enter Try.func17, Try.ntmps17
  go_wp2_with (first | (go_at_call 36; refine (nil_onward _ _ _ _).mono ?_; rintro e w2 ⟨rfl, rfl⟩))
  go_ret
  exact ⟨rfl, rfl⟩
theorem nil_restock (o : Int) (w : World) : Calls Try.prog 18 #[.pointer none, .int .i64 o] w fun e w' => e = .returned (.int .i64 1) ∧ w = w' := by
  go_enter Try.func18, Try.ntmps18
  go_wp2_with (first | (go_at_call 36; refine (nil_onward _ _ _ _).mono ?_; rintro e w2 ⟨rfl, rfl⟩))
  go_ret
  exact ⟨rfl, rfl⟩
theorem nil_levels (w : World) : Calls Try.prog 14 #[.pointer none] w fun e w' => e = .returned (.slice none 0 0) ∧ w = w' := by
  go_enter Try.func14, Try.ntmps14
  go_wp2_with fail
  go_ret
  exact ⟨rfl, rfl⟩
theorem nil_all (w : World) : Calls Try.prog 22 #[.pointer none] w fun e w' => e = .returned (.slice none 0 0) ∧ w = w' := by
  go_enter Try.func22, Try.ntmps22
  go_wp2_with fail
  go_ret
  exact ⟨rfl, rfl⟩

/-- Goods that the argument brings. -/
structure OkGA (w : World) (x : GA) : Prop where
  ls : OkLs w x.A x.cap x.ls
theorem OkGA.next {w w' : World} {x : GA} (h : OkGA w x) (hb : Below w.heap.size w w') : OkGA w' x := ⟨h.ls.next hb⟩
theorem bytesGA : Try.prog.bytesOf 45 = 40 := by kernel_rfl
section
variable {H : Type} {enc : TypeId × Value → H} {w : World} {base : Nat} {spare : Nat → Bool} {held : Bool}
theorem open_ga (fuel : Nat) (cs : List Value) (x : DataW H × List MemPlace) (hl : cs.length = 3) (h : DataW.trod enc Try.prog w base spare held fuel 45 cs = some x) (hw : Reach Try.prog 45 x.1) :
    ∃ p : GA, cs = enGA p ∧ OkGA w p := by
  obtain ⟨n, ys, hx, hyl, hf⟩ := open_fields Try.underlying45 (by kernel_rfl) hl h
  obtain ⟨u1, y1, c1, e1, t1⟩ := hf 0 _ rfl
  obtain ⟨u2, y2, c2, e2, t2⟩ := hf 1 _ rfl
  obtain ⟨u5, y5, c5, e5, t5⟩ := hf 2 _ rfl
  obtain ⟨k1, hv1, _, hw1⟩ := DataW.trod_int Try.underlying3 t1
  obtain ⟨k2, hv2, _, hw2⟩ := DataW.trod_int Try.underlying43 t2
  simp only [List.cons.injEq, and_true] at hv1 hv2
  subst hv1 hv2
  obtain ⟨A, cap, l, hc, hok⟩ := open_lns t5 (fun y hy => hw y (by rw [hx]; exact weights_field (j := 2) Try.underlying45 rfl (by rw [List.getElem?_map, e5]; rfl) hy))
  simp only [List.cons.injEq, and_true] at hc
  subst hc
  match cs, hl with
  | [b, c, d], _ =>
    simp at c1 c2 c5
    subst c1 c2 c5
    exact ⟨⟨k1, k2, A, cap, l⟩, rfl, ⟨hok⟩⟩
theorem open_gas {fuel : Nat} {cs : List Value} {x : DataW H × List MemPlace} (h : DataW.trod enc Try.prog w base spare held fuel 60 cs = some x) (hw : Reach Try.prog 60 x.1) :
    ∃ (A : Option Addr) (cap : Nat) (l : List GA), cs = [.slice A l.length cap] ∧ Rd w A (l.flatMap enGA) ∧ (∀ p ∈ l, OkGA w p) ∧ l.length * 40 ≤ 140737488351232 := by
  obtain ⟨A, cap, l, rfl, hR, ok, hd⟩ := open_rows (en := enGA) (Q := OkGA w) (G := Reach Try.prog 45) enGA_len (by omega) (by kernel_rfl) Try.underlying60 open_ga h (fun elems sp hx d hd y hy => hw y (by rw [hx]; exact weights_elem Try.underlying60 hd hy))
  refine ⟨A, cap, l, rfl, hR, ok, ?_⟩
  rcases hd with hd | ⟨elems, sp, hd, hel⟩
  · omega
  · have := hw _ (by rw [hd]; exact weights_len Try.underlying60)
    rw [bytesGA] at this
    simp only [reachBytes] at this
    omega
end
def okV6 (x : Lv) : Prop := True
theorem decV6 (vs : List Value) (hl : vs.length = 6) (h : ∀ j, j < 6 → ∃ (u : Value) (k : SK), vs[j]? = some u ∧ ([SK.int .i64, .int .i64, .int .i64, .int .i64, .int .i64, .int .i64] : List SK)[j]? = some k ∧ k.ok u) : ∃ x : Lv, vs = enV6 x ∧ okV6 x := by
  match vs, hl with
  | [a, b, c, d, e, f], _ =>
    obtain ⟨u0, k0, a0, b0, c0⟩ := h 0 (by omega)
    obtain ⟨u1, k1, a1, b1, c1⟩ := h 1 (by omega)
    obtain ⟨u2, k2, a2, b2, c2⟩ := h 2 (by omega)
    obtain ⟨u3, k3, a3, b3, c3⟩ := h 3 (by omega)
    obtain ⟨u4, k4, a4, b4, c4⟩ := h 4 (by omega)
    obtain ⟨u5, k5, a5, b5, c5⟩ := h 5 (by omega)
    simp at a0 b0 a1 b1 a2 b2 a3 b3 a4 b4 a5 b5
    subst a0 b0 a1 b1 a2 b2 a3 b3 a4 b4 a5 b5
    obtain ⟨n0, rfl, g0⟩ := c0
    obtain ⟨n1, rfl, g1⟩ := c1
    obtain ⟨n2, rfl, g2⟩ := c2
    obtain ⟨n3, rfl, g3⟩ := c3
    obtain ⟨n4, rfl, g4⟩ := c4
    obtain ⟨n5, rfl, g5⟩ := c5
    exact ⟨⟨0, n0, n1, n2, n3, n4, n5⟩, rfl, trivial⟩

/-- Goods of the law's own list: their lines lie in a row of the call's own. -/
def GRow (n : Nat) (w : World) (x : GA) : Prop := w.ownsRow n 96 2 (.slice x.A x.ls.length x.cap) x.ls.length (x.ls.flatMap enL)
theorem GRow.next {n : Nat} {w w' : World} {x : GA} (h : GRow n w x) (hb : Below w.heap.size w w') : GRow n w' x := World.ownsRow.kept h (grown_of_below hb none) (by cases hv : (Value.slice x.A x.ls.length x.cap).ownBlock <;> simp)
theorem enGA_one (x : GA) : ∀ u ∈ enGA x, u.oneCell' = true := by
  intro u hu
  simp only [enGA, List.mem_cons, List.not_mem_nil, or_false] at hu
  rcases hu with rfl | rfl | rfl <;> rfl
theorem ownBlk {w : World} {base n : Nat} {e : TypeId} {size : Nat} {v : Value} {xs : List Value} (h : w.ownsRow base e size v n xs) {b : Nat} (hb : v.ownBlock = some b) : ∃ cs, Blk w b e cs := by
  obtain ⟨A, cap, rfl, _⟩ := own_slice h
  exact rowBlk15 h (by cases A with | none => simp [Value.ownBlock] at hb | some a => simpa [Value.ownBlock] using hb)
def prj (x : GA) : Int × Int × List Ln := (x.o, x.st, x.ls)
theorem LvF.rs {vs : List Lv} {lv : List (Int × Lv)} (h : LvF vs vs.length lv) (hd : (lv.map (·.1)).Nodup) : lv.map (fun p => (p.1, p.2.r)) = (lvD vs vs.length).map (fun p => (p.1, p.2.r)) := by
  have hl : lv.length = vs.length := by simpa using congrArg List.length h.1
  unfold lvD
  rw [List.take_length, List.map_map]
  refine List.ext_getElem? fun j => ?_
  rw [List.getElem?_map, List.getElem?_map]
  rcases Nat.lt_or_ge j vs.length with hj | hj
  · obtain ⟨v, hv⟩ : ∃ v, vs[j]? = some v := ⟨vs[j], List.getElem?_eq_getElem hj⟩
    obtain ⟨p, hp⟩ : ∃ p, lv[j]? = some p := ⟨lv[j]'(by omega), List.getElem?_eq_getElem (by omega)⟩
    have h1 := congrArg (fun l => l[j]?) h.1
    simp only [List.getElem?_map, hv, hp, Option.map_some, Option.some.injEq] at h1
    obtain ⟨g, hg⟩ := h.2 j v hj hv
    have h2 := mget_of_mem hd (List.mem_of_getElem? hp)
    rw [h1, hg] at h2
    injection h2 with h2
    rw [hv, hp]
    simp only [Option.map_some, Function.comp, h1, ← h2]
  · rw [List.getElem?_eq_none hj, List.getElem?_eq_none (by omega)]
    rfl
theorem GsI.same {gl L : List GA} {gs : List (Int × Gd)} (h : GsI L gs) (e : L.map prj = gl.map prj) : GsI gl gs := by
  unfold GsI at *
  rw [h]
  have := congrArg (List.map fun q : Int × Int × List Ln => (q.1, q.1, q.2.1, q.2.2)) e
  rw [List.map_map, List.map_map] at this
  exact this

theorem info_rlv : (Try.prog.info? 63).map (fun i => (i.zero, i.size, i.bytes)) = some (some (.agg #[.int .i64 0, .int .i64 0, .int .i64 0, .int .i64 0, .int .i64 0, .int .i64 0]), 6, 48) := by kernel_rfl

set_option maxRecDepth 100000 in
set_option maxHeartbeats 16000000 in
theorem stockRestores_walk (vs : List Lv) (A1 : Option Addr) (cp1 : Nat) (gl : List GA) (A2 : Option Addr) (cp2 : Nat) (l : List Opn) (A3 : Option Addr) (cp3 : Nat) (w : World) (hR1 : Rd w A1 (vs.flatMap enV6)) (hR2 : Rd w A2 (gl.flatMap enGA)) (hok2 : ∀ o ∈ gl, OkGA w o) (hR3 : Rd w A3 (l.flatMap enOp)) (hok3 : ∀ x ∈ l, OkOp w x)
    (hb1 : vs.length ≤ 1048576) (hb2 : gl.length ≤ 1048576) (hb3 : l.length ≤ 1048576) :
    Calls Try.prog 8 #[.slice A1 vs.length cp1, .slice A2 gl.length cp2, .slice A3 l.length cp3] w (Law w) := by
  obtain ⟨i0, hi, hz0, hz1, hz2⟩ := info_parts info_rlv
  obtain ⟨i1, hj, hy0, hy1, hy2⟩ := info_parts info_rd
  have HA := hid (And.intro hok2 hok3)
  clear hok2 hok3
  go_enter Try.func8, Try.ntmps8
  go_wp2_with (first
    | (go_at_call 15; refine (nil_goods _ _).mono ?_; rintro e w1 ⟨rfl, hbg⟩)
    | (go_at_call 9; refine (wakes_any _).mono ?_; rintro e w2 ⟨rfl, hbk⟩)
    | (go_at_call 11; refine (nil_item _ _).mono ?_; rintro e w3 ⟨rfl, rfl⟩)
    | (go_at_call 12; refine (nil_recv _ _ _).mono ?_; rintro e w3 ⟨rfl, rfl⟩)
    | (go_at_call 13; refine (nil_alloc _ _).mono ?_; rintro e w4 ⟨rfl, hba⟩)
    | (go_at_call 16; refine (nil_free _ _).mono ?_; rintro e w3 ⟨rfl, rfl⟩)
    | (go_at_call 17; refine (nil_ship _ _).mono ?_; rintro e w3 ⟨rfl, rfl⟩)
    | (go_at_call 18; refine (nil_restock _ _).mono ?_; rintro e w3 ⟨rfl, rfl⟩)
    | (go_at_call 14; refine (nil_levels _).mono ?_; rintro e w3 ⟨rfl, rfl⟩)
    | (go_at_call 22; refine (nil_all _).mono ?_; rintro e w3 ⟨rfl, rfl⟩))
  have hb : Below w.heap.size w w4 := bthen (bthen (hbg.alloc hbg.size _) hbk) hba
  clear hbg hbk hba
  go_loopw [10, 72] (fun v i wr => ∃ k : Nat, k ≤ vs.length ∧ i = .int .i64 k ∧ wr.ownsRow w.heap.size 63 6 v k ((vs.take k).flatMap enV6) ∧ Below w.heap.size w wr) (fun _ i _ => vs.length - nOf i)
  case atStart => exact ⟨0, Nat.zero_le _, rfl, World.ownsRow_nil _ _ _ _, hb⟩
  case round =>
    clear hb
    obtain ⟨k, hk, rfl, hO, hb⟩ := hrel
    have hwz : w.heap.size ≤ wr.heap.size := hb.size
    by_cases hlt : k < vs.length
    · --@1
      obtain ⟨x, hx⟩ : ∃ x, vs[k]? = some x := ⟨vs[k], List.getElem?_eq_getElem hlt⟩
      obtain ⟨b, off, hAA, hbs, hcc⟩ := (hR1.below hb).at_ 6 enV6_len (by omega) hx
      have HS : Hid (vs.take (k + 1) = vs.take k ++ [x]) := hid (by rw [List.take_add_one, hx]; rfl)
      obtain ⟨vg, vi, vr, vh, va, vv, vt⟩ := x
      have q0 : wr.cell? ⟨b, off + k * 6, none⟩ = some (.int .i64 vi) := hcc 0 _ rfl
      have q1 : wr.cell? ⟨b, off + k * 6 + 1, none⟩ = some (.int .i64 vr) := hcc 1 _ rfl
      have q2 : wr.cell? ⟨b, off + k * 6 + 2, none⟩ = some (.int .i64 vh) := hcc 2 _ rfl
      have q3 : wr.cell? ⟨b, off + k * 6 + 3, none⟩ = some (.int .i64 va) := hcc 3 _ rfl
      have q4 : wr.cell? ⟨b, off + k * 6 + 4, none⟩ = some (.int .i64 vv) := hcc 4 _ rfl
      have q5 : wr.cell? ⟨b, off + k * 6 + 5, none⟩ = some (.int .i64 vt) := hcc 5 _ rfl
      have hO3 := hid (hO.alloc (.cells #[.int .i64 vi, .int .i64 vr, .int .i64 vh, .int .i64 va, .int .i64 vv, .int .i64 vt] 38))
      have hb3' := hid ((hb.alloc hb.size (.cells #[.int .i64 vi, .int .i64 vr, .int .i64 vh, .int .i64 va, .int .i64 vv, .int .i64 vt] 38)).alloc (by have := hb.size; simp; omega) (.cells #[.int .i64 vi, .int .i64 vr, .int .i64 vh, .int .i64 va, .int .i64 vv, .int .i64 vt] 63))
      clear hcc hx hO hb
      subst hAA
      go_wp2_with (first
        | (at_builtin; refine wpList_push _ rfl _ _ 62 rfl w.heap.size 63 i0 _ 6 48 Try.underlying62 hi hz0 hz1 hz2 rfl (by decide) _ _ _ (by rfl) hO3.out #[.int .i64 vi, .int .i64 vr, .int .i64 vh, .int .i64 va, .int .i64 vv, .int .i64 vt] (wr.heap.size + 1) (by simp) (by rfl) (by rfl) (by rfl) (by unfold maxLen; omega) (by omega) (by simp; omega) ?_; intro v' w3 hO4 hg4))
      have hb4 := hb3'.out.grown hg4 (by simp; omega) (fun k hk => (hO3.out.lt k hk).1)
      have hO5 : w3.ownsRow w.heap.size 63 6 v' (k + 1) ((vs.take (k + 1)).flatMap enV6) := by
        rw [HS.out, List.flatMap_append]
        simpa [enV6] using hO4
      clear hO4 hg4 hO3 hb3'
      go_roundw
      case rel => exact ⟨k + 1, by omega, by go_num, hO5, hb4⟩
      case measure => simp [nOf]; omega
      --@1e
    · have hk' : k = vs.length := by omega
      subst hk'
      rw [List.take_length] at hO
      obtain ⟨A4, cp4, rfl, hR4⟩ := own_slice hO
      clear hk hlt hO
      go_wp2_with fail
      generalize wr = wA at *
      have HBA := hid hb
      go_loopw [13, 95] (fun v i wr' => ∃ (k : Nat) (L : List GA), k ≤ gl.length ∧ i = .int .i64 k ∧ Hid (L.map prj = (gl.take k).map prj ∧ L.length = k) ∧ wr'.ownsRow wA.heap.size 67 3 v k (L.flatMap enGA) ∧ Hid (∀ o ∈ L, GRow wA.heap.size wr' o) ∧ Below wA.heap.size wA wr') (fun _ i _ => gl.length - nOf i)
      case atStart => exact ⟨0, [], Nat.zero_le _, rfl, hid ⟨rfl, rfl⟩, World.ownsRow_nil _ _ _ _, hid (fun o ho => by cases ho), Below.refl _ _⟩
      case round =>
        clear hb
        obtain ⟨k, L, hk, rfl, hL, hO, hrows, hb'⟩ := hrel
        by_cases hlt : k < gl.length
        · as_aux_lemma => --@2
          obtain ⟨o, ho⟩ : ∃ o, gl[k]? = some o := ⟨gl[k], List.getElem?_eq_getElem hlt⟩
          have HX := hid (HA.out.1 o (List.mem_of_getElem? ho))
          obtain ⟨b, off, hAA, hbs, hcc⟩ := (hR2.below (bthen HBA.out hb')).at_ 3 enGA_len (by omega) ho
          have HS : Hid ((gl.take (k + 1)).map prj = (gl.take k).map prj ++ [prj o]) := hid (by rw [List.take_add_one, ho, List.map_append]; rfl)
          obtain ⟨oo, os, oA, oc, ols⟩ := o
          have q0 : wr.cell? ⟨b, off + k * 3, none⟩ = some (.int .i64 oo) := hcc 0 _ rfl
          have q1 : wr.cell? ⟨b, off + k * 3 + 1, none⟩ = some (.int .i64 os) := hcc 1 _ rfl
          have q2 : wr.cell? ⟨b, off + k * 3 + 2, none⟩ = some (.slice oA ols.length oc) := hcc 2 _ rfl
          have hwb : Below wr.heap.size wr (wr.alloc (.cells #[.int .i64 oo, .int .i64 os, .slice oA ols.length oc] 45)) := (Below.refl _ _).alloc (Nat.le_refl _) _
          have hG0 := Blk.new wr 45 #[.int .i64 oo, .int .i64 os, .slice oA ols.length oc]
          obtain ⟨wz, hwz⟩ : ∃ wz, wz = wr.alloc (.cells #[.int .i64 oo, .int .i64 os, .slice oA ols.length oc] 45) := ⟨_, rfl⟩
          obtain ⟨G, hGG⟩ : ∃ G, G = wr.heap.size := ⟨_, rfl⟩
          have HW := hid hwz
          have HGG := hid hGG
          rw [← hwz] at hwb hG0
          rw [← hGG] at hG0
          have hbd := hwb.drew
          have hG1 : Blk wz.drew G 45 #[.int .i64 oo, .int .i64 os, .slice oA ols.length oc] := hG0.next (below_drewN (Below.refl _ _) 1)
          have hOz := hO.kept (grown_of_below hbd none) (by cases hv : u13.ownBlock <;> simp)
          have hrz := hid (fun o ho => (hrows.out o ho).next hbd)
          have hbz := bthen hb' hbd
          have hwsz := hbz.size
          have K := hid (lines_any ols oA oc wz.drew (HX.out.ls.rd.below (bthen HBA.out hbz)) HX.out.ls.len)
          unfold LinesPost at K
          have HOz := hid hOz
          have HBz := hid hbz
          clear hcc ho hwb hwz hGG hG0 hO hrows hb' hbd hOz hbz hbs
          subst hAA
          go_wp2_with fail
          rw [← HW.out, ← HGG.out]
          go_region_held3 (fun w' => w'.cell? ⟨G, 0, none⟩ = some (.int .i64 oo) ∧ w'.cell? ⟨G, 1, none⟩ = some (.int .i64 os) ∧ w'.cell? ⟨G, 2, none⟩ = some (.slice oA ols.length oc)) (first | exact ⟨hG1.cell 0, hG1.cell 1, hG1.cell 2⟩ | exact ⟨hG7.cell 0, hG7.cell 1, hG7.cell 2⟩ | exact ⟨hG8.cell 0, hG8.cell 1, hG8.cell 2⟩ | exact ⟨hG9.cell 0, hG9.cell 1, hG9.cell 2⟩)
            (first
              | (go_at_call 23; refine K.out.mono ?_; rintro e w7 ⟨A5, c5, rfl, hO5, hb7⟩
                 have hG7 := hG1.next hb7
                 have hwsz7 := hb7.size
                 have hO7 := hid (HOz.out.kept (grown_of_below hb7 none) (by cases hv : u13.ownBlock <;> simp))
                 have hL7 := hid (ownsRow_low hO5 hwsz)
                 have hr7 := hid (fun o ho => (hrz.out o ho).next hb7)
                 have hb8 := hid (bthen HBz.out hb7)
                 have hG8 := hG7.alloc (.cells #[.int .i64 oo, .int .i64 os, .slice A5 ols.length c5] 67)
                 have hO8 := hid (hO7.out.alloc (.cells #[.int .i64 oo, .int .i64 os, .slice A5 ols.length c5] 67))
                 clear hO5 hb7 hG1)
              | (refine step_append_lies _ (by rfl) _ _ _ (by rfl) wA.heap.size 67 i1 _ 3 40 Try.underlying52 hj hy0 hy1 hy2 rfl (by decide) _ _ _ (by rfl) hO8.out ⟨w7.heap.size, 0, none⟩ 1 1 [.int .i64 oo, .int .i64 os, .slice A5 ols.length c5] (by rfl) (by rfl) (World.news_of_block (heap_alloc_new _ _)) (enGA_one ⟨oo, os, A5, c5, ols⟩) (by omega) (by unfold maxLen; omega) (by omega) (by simp; omega) _ rfl ?_; intro g9 cap9 w9 hO9 hg9 hat9 hlt9
                 have hG9 := hG8.grown hg9 (fun e => by
                   obtain ⟨cs, hb⟩ := ownBlk hO8.out e.symm
                   exact hG8.ne_ hb (by decide) rfl)))
          all_goals
            have hg9' : (w7.alloc (.cells #[.int .i64 oo, .int .i64 os, .slice A5 ols.length c5] 67)).grownBy w9 u13.ownBlock := hg9
            have hb9 : Below wA.heap.size wA w9 := (hb8.out.alloc hb8.out.size (.cells #[.int .i64 oo, .int .i64 os, .slice A5 ols.length c5] 67)).grown hg9' (by simp; omega) (fun k hk => (hO8.out.lt k hk).1)
            have hkeep : ∀ o : GA, GRow wA.heap.size w7 o → GRow wA.heap.size w9 o := fun o ho => by
              have h1 : (w7.alloc (.cells #[.int .i64 oo, .int .i64 os, .slice A5 ols.length c5] 67)).ownsRow wA.heap.size 96 2 (.slice o.A o.ls.length o.cap) o.ls.length (o.ls.flatMap enL) := World.ownsRow.alloc ho _
              exact h1.kept hg9' (by
                cases ho' : (Value.slice o.A o.ls.length o.cap).ownBlock with
                | none => exact .inl rfl
                | some gg => exact .inr (fun e => own_other h1 hO8.out (by decide) (g := gg) e.symm ho'))
            have hO10 : w9.ownsRow wA.heap.size 67 3 (.slice (some ⟨g9, 0, none⟩) (k + 1) cap9) (k + 1) ((L ++ [(⟨oo, os, A5, c5, ols⟩ : GA)]).flatMap enGA) := by
              rw [List.flatMap_append]
              simpa [enGA] using hO9
            have hrw : ∀ o ∈ L ++ [(⟨oo, os, A5, c5, ols⟩ : GA)], GRow wA.heap.size w9 o := fun o ho => by
              rcases List.mem_append.1 ho with ho | ho
              · exact hkeep o (hr7.out o ho)
              · simp only [List.mem_singleton] at ho
                subst ho
                exact hkeep _ hL7.out
            have HF := hid (And.intro hO10 (And.intro hrw hb9))
            clear hg9 hg9' hat9 hlt9 hO9 hO10 hrw hb9 hkeep hG9 hG8 hG7 hO8 hO7 hL7 hr7 hb8 K q0 q1 q2
            go_wp2_with fail
            go_roundw
            case rel => exact ⟨k + 1, L ++ [(⟨oo, os, A5, c5, ols⟩ : GA)], by omega, by go_num, hid ⟨by rw [List.map_append, hL.out.1, HS.out]; rfl, by rw [List.length_append, hL.out.2]; rfl⟩, HF.out.1, hid HF.out.2.1, HF.out.2.2⟩
            case measure => simp [nOf]; omega
          --@2e
        · as_aux_lemma => --@3
          have hk' : k = gl.length := by omega
          subst hk'
          have hLb : L.map prj = gl.map prj := by rw [hL.out.1, List.take_length]
          have hLn : L.length = gl.length := hL.out.2
          obtain ⟨A5, cp5, rfl, hR5⟩ := own_slice hO
          have hBB := hid (bthen HBA.out hb')
          have hR4' := hid (hR4.below hb')
          have hR5' := hid hR5
          have HOKL := hid (fun (w5 : World) (hb5 : Below wr.heap.size wr w5) (o : GA) (ho : o ∈ L) => own_rd ((hrows.out o ho).next hb5))
          have K1 := hid (restore_any (w := wr) (vs := vs) (gl := gl) A1 cp1 A2 cp2 (hR1.below hBB.out) (hR2.below hBB.out) (by omega) (by omega) (fun o ho => ⟨((HA.out.1 o ho).next hBB.out).ls.rd, (HA.out.1 o ho).ls.room, (HA.out.1 o ho).ls.cap⟩))
          have K2 := hid (fun w5 (hb5 : Below wr.heap.size wr w5) => (hLn ▸ rrestore_any (w := w5) (vs := vs) (gl := L) A4 cp4 A5 cp5 (hR4'.out.below hb5) (hR5'.out.below hb5) (by omega) (by omega) (HOKL.out w5 hb5) : Calls Try.prog 24 #[.slice A4 vs.length cp4, .slice A5 gl.length cp5] w5 fun e w' => RsPost vs L w5 e w'))
          have HLB := hid hLb
          clear hk hlt hO hR5 hb' hR4 hR1 hR2 hi hz0 hz1 hz2 hj hy0 hy1 hy2 hrows hL hLb hLn HOKL
          go_wp2_with fail
          refine K1.out.mono ?_
          rintro e w5 hP1
          rcases hP1 with ⟨hgood, rfl, hb5⟩ | ⟨hgood, X, BL, BG, lv, gs, rfl, hB, hLF, hGI, hb5⟩
          · have HGd := hid hgood
            have hbw := bthen hBB.out hb5
            clear hgood K1
            go_wp2_with fail
            refine (K2.out _ hb5).mono ?_
            rintro e w6 hP2
            rcases hP2 with ⟨_, rfl, hb6⟩ | ⟨hg2, _⟩
            · have hbw := hid (bthen hbw hb6)
              clear K2 HGd hb5 hb6 hR3 hR4' hR5'
              go_wp2_with fail
              go_ret
              exact ⟨by simp, hbw.out⟩
            · exact absurd (hg2.same HLB.out.symm) HGd.out
          · have HGd := hid hgood
            clear hgood K1
            have HB5 := hid (And.intro hB (And.intro hLF (And.intro hGI hb5)))
            clear hB hLF hGI
            go_wp2_with fail
            refine (K2.out _ hb5).mono ?_
            rintro e w6 hP2
            rcases hP2 with ⟨hg2, _⟩ | ⟨_, base, R, d1, d2, B1, B2, is, rs, gs2, rfl, hF, hrel, hGI2, hwR, hbw6, hb6⟩
            · exact absurd (HGd.out.same HLB.out) hg2
            · obtain ⟨hB, hLF, hGI, hb5⟩ := HB5.out
              have hB6 := hB.next hb6
              have hbw := bthen (bthen hBB.out hb5) hb6
              have h56 := hb5.size
              have h67 := hb6.size
              have hww := hBB.out.size
              have hG := HGd.out.book hLF hGI hB.lvs.nodup hB.gds.nodup
              have hM : RelS lv gs is rs := (RelS.mk (hrel.its.levels (hLF.rs hB.lvs.nodup)) hrel.gds).goodsOf (GsI.bare (hGI2.same HLB.out) hGI) hB.gds.nodup
              have hgl : gs.length ≤ 1048576 := by have := hGI.len; omega
              have hS := hid (state_any hB6 hG hF hM (by omega))
              have hRb := hF.lt
              have hPl := hid (fun w7 (h7 : Below w6.heap.size w6 w7) => play_any w l A3 cp3 hR3 HA.out.2 w7 (hB6.next h7) hG (hF.next h7) hM (bthen hbw h7) (Nat.le_trans hbw6 h7.size) ⟨hww, by omega, by omega⟩ (by omega) (by omega))
              clear hB hB6 hF hM hb5 hb6 hR3 hR4' hR5' hG HGd hrel hGI hGI2 hLF HB5 K2
              go_wp2_with fail
              refine hS.out.mono ?_
              rintro e w7 ⟨rfl, hb7⟩
              have hPP := hid (hPl.out _ hb7)
              clear hPl hb7
              unfold PlayPost at hPP
              go_wp2_with fail
              refine hPP.out.mono ?_
              rintro e w8 ⟨rfl, _, _, _, _, _, _, _, _, _, _, _, _, _, hb8, _⟩
              clear hPP hS
              go_wp2_with fail
              go_ret
              exact ⟨by simp, hb8⟩
          --@3e

end Go.Proofs.Ythfaaimmfdidnaa
