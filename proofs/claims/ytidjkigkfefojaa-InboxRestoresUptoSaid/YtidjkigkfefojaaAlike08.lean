/-
  The laws' words for the document's inbox: ref, alike.
-/
import Derived.Test.YtidjkigkfefojaaRef08K
import Derived.Test.YtidjkigkfefojaaAggSame
namespace Go.Proofs.Ytidjkigkfefojaa
open Go.RowKit Go.WideShapes Go.ChangeShapes Go.ChangeAt Go.Deep
set_option linter.unusedVariables false

set_option maxRecDepth 100000 in
set_option maxHeartbeats 8000000 in
theorem refl_any (l : List Ent) (A : Option Addr) (cp : Nat) (w : World) (hR : Rd w A (l.flatMap enE5)) (hl : l.length * 40 ≤ 140737488355328) :
    Calls Try.prog 19 #[.slice A l.length cp] w fun e w' => ∃ A' cap', e = .returned (.slice A' l.length cap') ∧ w'.ownsRow w.heap.size 70 5 (.slice A' l.length cap') l.length (l.flatMap enE5) ∧ Below w.heap.size w w' := by
  obtain ⟨i0, hi, hz0, hz1, hz2⟩ := info_parts info_ent2
  go_enter Try.func19, Try.ntmps19
  go_wp2_with fail
  go_loopw [3, 8] (fun v i wr => ∃ k : Nat, k ≤ l.length ∧ i = .int .i64 k ∧ wr.ownsRow w.heap.size 70 5 v (l.take k).length ((l.take k).flatMap enE5) ∧ Below w.heap.size w wr) (fun _ i _ => l.length - (intOf i).toNat)
  case atStart => exact ⟨0, Nat.zero_le _, rfl, World.ownsRow_nil _ _ _ _, Below.refl _ _⟩
  case round =>
    obtain ⟨k, hk, rfl, hO, hb⟩ := hrel
    by_cases hlt : k < l.length
    · obtain ⟨x, hx⟩ : ∃ x, l[k]? = some x := ⟨l[k], List.getElem?_eq_getElem hlt⟩
      have hR1 := hR.below hb
      obtain ⟨b, off, rfl, hbs, hcc⟩ := hR1.at_ 5 enE5_len (by omega) hx
      have HS : Hid ((l.take (k + 1)) = l.take k ++ [x]) := hid (by rw [List.take_add_one, hx]; rfl)
      have hln : (l.take k).length = k := by simp; omega
      obtain ⟨xo, xs, xt, xc, xb⟩ := x
      have q0 : wr.cell? ⟨b, off + k * 5, none⟩ = some (.int .i64 xo) := hcc 0 _ rfl
      have q1 : wr.cell? ⟨b, off + k * 5 + 1, none⟩ = some (.int .i64 xs) := hcc 1 _ rfl
      have q2 : wr.cell? ⟨b, off + k * 5 + 2, none⟩ = some (.int .i64 xt) := hcc 2 _ rfl
      have q3 : wr.cell? ⟨b, off + k * 5 + 3, none⟩ = some (.int .i64 xc) := hcc 3 _ rfl
      have q4 : wr.cell? ⟨b, off + k * 5 + 4, none⟩ = some (.bool xb) := hcc 4 _ rfl
      clear hcc hx hR1
      rw [hln] at hO
      have hO3 := hid (hO.alloc (.cells #[.int .i64 xo, .int .i64 xs, .int .i64 xt, .int .i64 xc, .bool xb] 58))
      have hb3 := hid ((hb.alloc hb.size (.cells #[.int .i64 xo, .int .i64 xs, .int .i64 xt, .int .i64 xc, .bool xb] 58)).alloc (by have := hb.size; simp; omega) (.cells #[.int .i64 xo, .int .i64 xs, .int .i64 xt, .int .i64 xc, .bool xb] 70))
      have hwz : w.heap.size ≤ wr.heap.size := hb.size
      clear hO hb hln
      go_wp2_with (first
        | (at_builtin; refine wpList_push _ rfl _ _ 41 rfl w.heap.size 70 i0 _ 5 40 Try.underlying41 hi hz0 hz1 hz2 rfl (by decide) _ _ _ (by rfl) hO3.out #[.int .i64 xo, .int .i64 xs, .int .i64 xt, .int .i64 xc, .bool xb] (wr.heap.size + 1) (by simp) (by rfl) (by rfl) (by rfl) (by unfold maxLen; omega) (by omega) (by simp; omega) ?_; intro v' w3 hO4 hg4))
      have hb4 := hb3.out.grown hg4 (by simp; omega) (fun k hk => (hO3.out.lt k hk).1)
      have hO5 : w3.ownsRow w.heap.size 70 5 v' (l.take (k + 1)).length ((l.take (k + 1)).flatMap enE5) := by
        rw [HS.out, List.flatMap_append, List.length_append, List.length_take_of_le (by omega)]
        simpa [enE5] using hO4
      clear hO4 hg4 hO3 hb3
      go_roundw
      case rel => exact ⟨k + 1, by omega, by go_num, hO5, hb4⟩
      case measure => simp [intOf]; omega
    · have hk' : k = l.length := by omega
      subst hk'
      rw [List.take_length] at hO
      obtain ⟨A', cap', rfl, hR'⟩ := rd_of_own hO
      clear hlt hk
      go_wp2_with fail
      go_ret
      exact ⟨A', cap', rfl, hO, hb⟩

/-! ### A map and the document's list -/
def toE (q : (Int × Int) × Ent) : Ent := ⟨q.1.1, q.1.2, q.2.t, q.2.c, q.2.b⟩
theorem toE_key (q : (Int × Int) × Ent) : keyE (toE q) = q.1 := rfl
theorem toE_of {p : Int × Int} {v : Ent} (h : keyE v = p) : toE (p, v) = v := by
  subst h; rfl
structure RelM (m : List ((Int × Int) × Ent)) (r : List Ent) : Prop where
  ok : MapOk m
  rel : RelK keyE ltP toE m r
theorem RelM.nil : RelM [] [] := ⟨(fun p hp => by cases hp), RelK.nil toE_key⟩
theorem RelM.toE_map {m : List ((Int × Int) × Ent)} {r : List Ent} (h : RelM m r) : m.map toE = m.map (·.2) := List.map_congr_left fun q hq => toE_of (h.ok q hq).1
theorem RelM.here {m : List ((Int × Int) × Ent)} {r : List Ent} (h : RelM m r) (p : Int × Int) :
    (∃ v, mget m p = some v ∧ keyE v = p ∧ r[posK keyE ltP r p]? = some v ∧ hasK r p = true ∧ entR r p = v) ∨ (mget m p = none ∧ hasK r p = false ∧ entR r p = noEnt) := by
  rcases h.rel.at_ linP p with ⟨v, h1, h2⟩ | ⟨h1, h2⟩
  · left
    have hk := (h.ok _ (mget_mem h1)).1
    simp only at hk
    rw [toE_of hk] at h2
    have hh : hasK r p = true := by
      unfold hasK
      rw [h2]
      simp only [keyE] at hk
      rw [← hk]; simp
    obtain ⟨y, hy, _, he⟩ := hasK_true hh
    rw [h2] at hy
    injection hy with hy
    subst hy
    exact ⟨v, h1, hk, h2, hh, he⟩
  · right
    have hh : hasK r p = false := by
      cases hc : hasK r p with
      | false => rfl
      | true =>
        obtain ⟨y, hy, hky, _⟩ := hasK_true hc
        exact absurd hky (h2 y hy)
    exact ⟨h1, hh, by unfold entR; rw [hh]; rfl⟩
theorem RelM.ent {m : List ((Int × Int) × Ent)} {r : List Ent} (h : RelM m r) (p : Int × Int) : entR r p = entAt m p := by
  unfold entAt
  rcases h.here p with ⟨v, h1, _, _, _, h2⟩ | ⟨h1, _, h2⟩
  · rw [h1, h2]; rfl
  · rw [h1, h2]; rfl
theorem RelM.keep {m : List ((Int × Int) × Ent)} {r : List Ent} (h : RelM m r) (o s t : Int) (u : Bool) (c : Int) : RelM (keepM m o s t u c) (keepL r o s t u c) := by
  refine ⟨mapOk_keep h.ok o s t u c, ?_⟩
  have hE := h.ent (o, s)
  unfold keepM keepL
  rw [hE]
  split
  · have hke : ∀ e, keyE (keepE e o s t u c) = (o, s) := fun e => by unfold keepE; split <;> rfl
    rcases h.here (o, s) with ⟨v, h1, h2, h3, h4, h5⟩ | ⟨h1, h4, h5⟩
    · rw [if_pos h4]
      have := h.rel.upd (p := (o, s)) (keepE (entAt m (o, s)) o s t u c) h1
      rw [toE_of (hke _), updK_set linP h.rel.sorted h3 (by rw [hke]; exact h2)] at this
      exact this
    · rw [h4, if_neg (by decide)]
      have := h.rel.ins linP (p := (o, s)) (keepE (entAt m (o, s)) o s t u c) h1
      rw [toE_of (hke _)] at this
      unfold insK at this
      rw [hke, ← hE, h5] at this
      rw [← hE, h5]
      exact this
  · exact h.rel
theorem RelM.list {m : List ((Int × Int) × Ent)} {r l : List Ent} (h : RelM m r) (hp : l.Perm (m.map (·.2))) (hs : l.Pairwise (fun a b => ltE b a = false)) : l = r := by
  refine h.rel.unique' linP (by rw [h.toE_map]; exact hp) (hs.imp ?_)
  intro a b hab
  rw [ltE_ltP] at hab
  exact hab
theorem RelM.len {m : List ((Int × Int) × Ent)} {r : List Ent} (h : RelM m r) : r.length = m.length := h.rel.len
theorem keepR_same {m : List ((Int × Int) × Ent)} {r : List Ent} (h : RelM m r) (o s t : Int) (u : Bool) : keepRr r o s t u = keepR m o s t u := by
  unfold keepRr keepR; rw [h.ent]

theorem same_ent2 (x : Ent) (w : World) : (Op.equalIn 10000 70 (.agg #[.int .i64 x.o, .int .i64 x.s, .int .i64 x.t, .int .i64 x.c, .bool x.b]) (.agg #[.int .i64 x.o, .int .i64 x.s, .int .i64 x.t, .int .i64 x.c, .bool x.b])).run Try.prog w = .ok true w := by
  refine agg_same (L := [(3, 0), (3, 1), (3, 2), (3, 3), (4, 4)]) (by kernel_rfl) (by kernel_rfl) (by kernel_rfl) ?_ w
  have ib : ∀ w, (isAgg 4).run Try.prog w = .ok false w := fun w => by kernel_rfl
  intro q hq
  simp only [List.mem_cons, List.not_mem_nil, or_false] at hq
  rcases hq with rfl | rfl | rfl | rfl | rfl
  · exact sameAt_int Try.underlying3 isAgg_int rfl
  · exact sameAt_int Try.underlying3 isAgg_int rfl
  · exact sameAt_int Try.underlying3 isAgg_int rfl
  · exact sameAt_int Try.underlying3 isAgg_int rfl
  · exact sameAt_bool Try.underlying4 ib rfl

set_option maxRecDepth 100000 in
set_option maxHeartbeats 16000000 in
theorem alike_any (hS : SortsAt Try.prog 24 (.func (.func 25) #[] #[]) enE5 5 ltE)
    {base R cap X B : Nat} {A : Option Addr} {m : List ((Int × Int) × Ent)} {r : List Ent} (w : World) (h : IsBox w X B m) (hr : IsRef base w R A cap r) (hM : RelM m r) (hl : r.length * 40 ≤ 140737488351232) :
    Calls Try.prog 20 #[.pointer (some ⟨X, 0, none⟩), .pointer (some ⟨R, 0, none⟩)] w fun e w' => e = .returned (.bool true) ∧ Below w.heap.size w w' := by
  have L := hid (list_any hS X B m w h (by rw [← hM.len]; exact hl))
  have HM := hid hM
  clear hM
  go_enter Try.func20, Try.ntmps20
  go_wp2_with fail
  refine L.out.mono ?_
  rintro e1 w1 ⟨v, l', rfl, hp, hst, hO, hb1⟩
  obtain rfl := HM.out.list hp hst
  obtain ⟨A1, cap1, rfl, hR1⟩ := rd_of_own hO
  replace h := h.next hb1
  replace hr := hr.next hb1
  have RF := hid (refl_any l' A1 cap1 w1 hR1 (by omega))
  clear L hp hst hO hR1
  go_wp2_with fail
  refine RF.out.mono ?_
  rintro e2 w2 ⟨A2, cap2, rfl, hO2, hb2⟩
  replace h := h.next hb2
  replace hr := hr.next hb2
  have hb := bthen hb1 hb2
  clear RF hb1 hb2
  have c0 : w2.cell? ⟨R, 0, none⟩ = some (.slice A l'.length cap) := hr.blk.cell 0
  have hself : (l'.length != l'.length) = false := by simp
  go_wp2_with fail
  clear c0
  go_loopw [20] (fun i wr => ∃ k : Nat, k ≤ l'.length ∧ i = .int .i64 k ∧ IsBox wr X B m ∧ IsRef base wr R A cap l' ∧ wr.ownsRow w1.heap.size 70 5 (.slice A2 l'.length cap2) l'.length (l'.flatMap enE5) ∧ Below w.heap.size w wr) (fun i _ => l'.length - (intOf i).toNat)
  case atStart => exact ⟨0, Nat.zero_le _, rfl, h, hr, hO2, hb⟩
  case round =>
    clear h hr hO2 hb
    obtain ⟨k, hk, rfl, h, hr, hO, hb⟩ := hrel
    by_cases hlt : k < l'.length
    · obtain ⟨y, hy⟩ : ∃ y, l'[k]? = some y := ⟨l'[k], List.getElem?_eq_getElem hlt⟩
      obtain ⟨g, rfl, hbg, hpr⟩ := hr.elem hy
      obtain ⟨g2, cap3, e3, hb3, hlt3⟩ := own_form hO (by omega)
      injection e3 with e4 e5 e6
      subst e4 e6
      have hpl : CellsAt wr g2 (k * 5) (enE5 y) := ⟨hlt3, fun j u hu => own_cells enE5_len hO hy hu⟩
      have D1 := fun w h => done_any X B m y.o y.s w h
      have D2 := fun w h => rdone_any (base := base) (R := R) (cap := cap) (A := some ⟨g, 0, none⟩) (r := l') y.o y.s w h (by omega)
      rw [HM.out.ent] at D2
      generalize doneF (entAt m (y.o, y.s)) = dn at D1 D2
      have hO0 := hid (fun w' (hb : Below wr.heap.size wr w') => hO.kept (grown_of_below hb none) (by simp [Value.ownBlock]))
      obtain ⟨C, hCd⟩ : ∃ C : World → Prop, ∀ w', C w' ↔ (IsBox w' X B m ∧ IsRef base w' R (some ⟨g, 0, none⟩) cap l' ∧ CellsAt w' g (k * 5) (enE5 y) ∧ CellsAt w' g2 (k * 5) (enE5 y) ∧ Below wr.heap.size wr w') := ⟨_, fun _ => Iff.rfl⟩
      have hK : ∀ w1 w2, C w1 → Below w1.heap.size w1 w2 → C w2 := fun w1 w2 h hb => by
        obtain ⟨a1, a2, a3, a4, a5⟩ := (hCd _).1 h
        exact (hCd _).2 ⟨a1.next hb, a2.next hb, a3.next hb, a4.next hb, bthen a5 hb⟩
      have hW : C wr.drew := hK _ _ ((hCd _).2 ⟨h, hr, hpr, hpl, Below.refl _ _⟩) (below_drewN (Below.refl _ _) 1)
      replace hCd := hid hCd
      replace hK := hid hK
      have hse := same_ent2 y
      have hgd : Try.prog.eqGuardType Try.prog.depth 70 = false := by kernel_rfl
      have E1 : Hid (∀ p : In C, Calls Try.prog 13 #[.pointer (some ⟨X, 0, none⟩), .int .i64 y.o, .int .i64 y.s] p.w fun e w' => e = .returned (.bool dn) ∧ C w') := hid (fun p => (D1 _ ((hCd.out _).1 p.h).1).mono fun _ _ ⟨e1, e2⟩ => ⟨e1, hK.out _ _ p.h e2⟩)
      have E2 : Hid (∀ p : In C, Calls Try.prog 23 #[.pointer (some ⟨R, 0, none⟩), .int .i64 y.o, .int .i64 y.s] p.w fun e w' => e = .returned (.bool dn) ∧ C w') := hid (fun p => (D2 _ ((hCd.out _).1 p.h).2.1).mono fun _ _ ⟨e1, e2⟩ => ⟨e1, hK.out _ _ p.h e2⟩)
      clear D1 D2 hy h hr hO hpr hpl
      obtain ⟨yo, ys, yt, yc, yb⟩ := y
      simp only at hse E1 E2
      have c0 : ∀ p : In C, p.w.cell? ⟨R, 0, none⟩ = some (.slice (some ⟨g, 0, none⟩) l'.length cap) := fun p => ((hCd.out _).1 p.h).2.1.blk.cell 0
      have p0 : ∀ p : In C, p.w.cell? ⟨g, k * 5, none⟩ = some (.int .i64 yo) := fun p => ((hCd.out _).1 p.h).2.2.1.2 0 _ rfl
      have p1 : ∀ p : In C, p.w.cell? ⟨g, k * 5 + 1, none⟩ = some (.int .i64 ys) := fun p => ((hCd.out _).1 p.h).2.2.1.2 1 _ rfl
      have p2 : ∀ p : In C, p.w.cell? ⟨g, k * 5 + 2, none⟩ = some (.int .i64 yt) := fun p => ((hCd.out _).1 p.h).2.2.1.2 2 _ rfl
      have p3 : ∀ p : In C, p.w.cell? ⟨g, k * 5 + 3, none⟩ = some (.int .i64 yc) := fun p => ((hCd.out _).1 p.h).2.2.1.2 3 _ rfl
      have p4 : ∀ p : In C, p.w.cell? ⟨g, k * 5 + 4, none⟩ = some (.bool yb) := fun p => ((hCd.out _).1 p.h).2.2.1.2 4 _ rfl
      have q0 : ∀ p : In C, p.w.cell? ⟨g2, k * 5, none⟩ = some (.int .i64 yo) := fun p => ((hCd.out _).1 p.h).2.2.2.1.2 0 _ rfl
      have q1 : ∀ p : In C, p.w.cell? ⟨g2, k * 5 + 1, none⟩ = some (.int .i64 ys) := fun p => ((hCd.out _).1 p.h).2.2.2.1.2 1 _ rfl
      have q2 : ∀ p : In C, p.w.cell? ⟨g2, k * 5 + 2, none⟩ = some (.int .i64 yt) := fun p => ((hCd.out _).1 p.h).2.2.2.1.2 2 _ rfl
      have q3 : ∀ p : In C, p.w.cell? ⟨g2, k * 5 + 3, none⟩ = some (.int .i64 yc) := fun p => ((hCd.out _).1 p.h).2.2.2.1.2 3 _ rfl
      have q4 : ∀ p : In C, p.w.cell? ⟨g2, k * 5 + 4, none⟩ = some (.bool yb) := fun p => ((hCd.out _).1 p.h).2.2.2.1.2 4 _ rfl
      have hdn : (dn != dn) = false := by simp
      go_wp2_with fail
      refine wp_region_in C (by kernel_rfl) (by kernel_rfl) hW ?_
      intro hne
      clear hW
      repeat (first | go_big_quiet_step (first | (go_at_call 13; exact Calls.in_of (E1.out _)) | (go_at_call 23; exact Calls.in_of (E2.out _))) | quiet_step (first | (go_at_call 13; exact Calls.in_of (E1.out _)) | (go_at_call 23; exact Calls.in_of (E2.out _))))
      refine wpQuiet_nil ?_
      intro wq hq
      obtain ⟨h, hr, _, _, hbq⟩ := (hCd.out _).1 hq
      have hO2 := hO0.out _ hbq
      replace hb := bthen hb hbq
      clear c0 p0 p1 p2 p3 p4 q0 q1 q2 q3 q4 E1 E2 hne hq hbq hO0 hse hgd
      go_wp2_with fail
      go_roundw
      case rel => exact ⟨k + 1, by omega, by go_num, h, hr, hO2, hb⟩
      case measure => simp [intOf]; omega
    · clear hk
      go_wp2_with fail
      go_ret
      exact ⟨rfl, hb⟩

end Go.Proofs.Ytidjkigkfefojaa
