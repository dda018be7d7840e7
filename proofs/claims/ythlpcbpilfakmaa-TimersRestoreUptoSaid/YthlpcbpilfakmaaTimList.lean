/-
  Timers: their order, and List.
-/
import Derived.Test.YthlpcbpilfakmaaTim
namespace Go.Proofs.Ythlpcbpilfakmaa
open Go.RowKit Go.WideShapes Go.ChangeShapes Go.ChangeAt Go.Deep
set_option linter.unusedVariables false

/-- A timer. -/
structure Tm where
  d : Int
  o : Int
  s : Int
deriving DecidableEq
instance : Inhabited Tm := ⟨⟨0, 0, 0⟩⟩
def en3 (t : Tm) : List Value := [.int .i64 t.d, .int .i64 t.o, .int .i64 t.s]
theorem en3_len (t : Tm) : (en3 t).length = 3 := rfl
theorem en3_one (t : Tm) : ∀ v ∈ en3 t, v.oneCell' = true := by
  intro v hv
  simp only [en3, List.mem_cons, List.not_mem_nil, or_false] at hv
  rcases hv with rfl | rfl | rfl <;> rfl
theorem info_tm : (Try.prog.info? 30).map (fun i => (i.zero, i.size, i.bytes)) = some (some (.agg #[.int .i64 0, .int .i64 0, .int .i64 0]), 3, 24) := by kernel_rfl

def cfT (x y : Tm) : Int := orL [cmpI x.d y.d, cmpI x.o y.o, cmpI x.s y.s]
def ltT (x y : Tm) : Bool := decide (cfT x y < 0)
theorem cmpI_cases (x y : Int) : (x < y ∧ cmpI x y = -1) ∨ (y < x ∧ cmpI x y = 1) ∨ (x = y ∧ cmpI x y = 0) := by
  unfold cmpI
  rcases (show x < y ∨ y < x ∨ x = y from by omega) with h | h | h
  · left; exact ⟨h, by simp [h]⟩
  · right; left; exact ⟨h, by rw [if_neg (by omega), if_pos h]⟩
  · right; right; exact ⟨h, by subst h; simp⟩
theorem ltT_iff (x y : Tm) : ltT x y = true ↔ x.d < y.d ∨ (x.d = y.d ∧ (x.o < y.o ∨ (x.o = y.o ∧ x.s < y.s))) := by
  unfold ltT cfT
  rw [decide_eq_true_eq]
  rcases cmpI_cases x.d y.d with ⟨h, e⟩ | ⟨h, e⟩ | ⟨h, e⟩ <;> rcases cmpI_cases x.o y.o with ⟨h2, e2⟩ | ⟨h2, e2⟩ | ⟨h2, e2⟩ <;> rcases cmpI_cases x.s y.s with ⟨h3, e3⟩ | ⟨h3, e3⟩ | ⟨h3, e3⟩ <;> simp [orL, e, e2, e3] <;> omega
theorem ltT_no {x y : Tm} (h : ltT x y = false) : ¬ (x.d < y.d ∨ (x.d = y.d ∧ (x.o < y.o ∨ (x.o = y.o ∧ x.s < y.s)))) := fun e => by rw [(ltT_iff x y).2 e] at h; cases h
theorem linT : LinK ltT where
  irrefl a := by
    cases h : ltT a a with
    | false => rfl
    | true => have := (ltT_iff a a).1 h; omega
  trans a b c h g := by rw [ltT_iff] at *; omega
  total a b h g := by
    have h' := ltT_no h
    have g' := ltT_no g
    obtain ⟨a1, a2, a3⟩ := a
    obtain ⟨b1, b2, b3⟩ := b
    simp only at h' g'
    have e1 : a1 = b1 := by omega
    have e2 : a2 = b2 := by omega
    have e3 : a3 = b3 := by omega
    rw [e1, e2, e3]
theorem swoT : Sort.SWO ltT where
  irrefl := linT.irrefl
  trans x y z := linT.trans x y z
  ntrans x y z h1 h2 := by
    cases h : ltT x z with
    | false => rfl
    | true =>
      have h' := (ltT_iff x z).1 h
      have a := ltT_no h1
      have b := ltT_no h2
      omega

set_option maxRecDepth 100000 in
set_option maxHeartbeats 4000000 in
theorem torder_any (x y : Tm) (w : World) : Calls Try.prog 26 #[.agg #[.int .i64 x.d, .int .i64 x.o, .int .i64 x.s], .agg #[.int .i64 y.d, .int .i64 y.o, .int .i64 y.s]] w fun e w' => e = .returned (.int .i64 (cfT x y)) ∧ Grew w w' := by
  obtain ⟨xd, xo, xs⟩ := x
  obtain ⟨yd, yo, ys⟩ := y
  simp only
  have b1 : Blk ((w.alloc (.cells #[.int .i64 xd, .int .i64 xo, .int .i64 xs] 30)).alloc (.cells #[.int .i64 yd, .int .i64 yo, .int .i64 ys] 30)) w.heap.size 30 #[.int .i64 xd, .int .i64 xo, .int .i64 xs] := (Blk.new _ _ _).alloc _
  have b2 : Blk ((w.alloc (.cells #[.int .i64 xd, .int .i64 xo, .int .i64 xs] 30)).alloc (.cells #[.int .i64 yd, .int .i64 yo, .int .i64 ys] 30)) (w.heap.size + 1) 30 #[.int .i64 yd, .int .i64 yo, .int .i64 ys] := by
    have := Blk.new (w.alloc (.cells #[.int .i64 xd, .int .i64 xo, .int .i64 xs] 30)) 30 #[.int .i64 yd, .int .i64 yo, .int .i64 ys]
    rw [World.size_alloc] at this
    exact this
  have hg : Grew w ((w.alloc (.cells #[.int .i64 xd, .int .i64 xo, .int .i64 xs] 30)).alloc (.cells #[.int .i64 yd, .int .i64 yo, .int .i64 ys] 30)) := ((Grew.refl w).alloc _).alloc _
  have B1 := hid b1
  have B2 := hid b2
  clear b1 b2
  go_enter Try.func26, Try.ntmps26
  go_wp2_with fail
  obtain ⟨W, hW⟩ : ∃ W, W = (w.alloc (.cells #[.int .i64 xd, .int .i64 xo, .int .i64 xs] 30)).alloc (.cells #[.int .i64 yd, .int .i64 yo, .int .i64 ys] 30) := ⟨_, rfl⟩
  replace B1 := B1.out
  replace B2 := B2.out
  rw [← hW] at B1 B2 hg ⊢
  obtain ⟨G, hG⟩ : ∃ G, G = w.heap.size := ⟨_, rfl⟩
  rw [← hG] at B1 B2 ⊢
  clear hW hG
  have p0 : W.cell? ⟨G, 0, none⟩ = some (.int .i64 xd) := B1.cell 0
  have p1 : W.cell? ⟨G, 1, none⟩ = some (.int .i64 xo) := B1.cell 1
  have p2 : W.cell? ⟨G, 2, none⟩ = some (.int .i64 xs) := B1.cell 2
  have p3 : W.cell? ⟨G + 1, 0, none⟩ = some (.int .i64 yd) := B2.cell 0
  have p4 : W.cell? ⟨G + 1, 1, none⟩ = some (.int .i64 yo) := B2.cell 1
  have p5 : W.cell? ⟨G + 1, 2, none⟩ = some (.int .i64 ys) := B2.cell 2
  have b1 := B1.alloc (.cells #[.int .i64 (cmpI xd yd), .int .i64 (cmpI xo yo), .int .i64 (cmpI xs ys)] 3)
  have b2 := B2.alloc (.cells #[.int .i64 (cmpI xd yd), .int .i64 (cmpI xo yo), .int .i64 (cmpI xs ys)] 3)
  have Q := hid (And.intro b1 b2)
  have O := hid (show Calls Try.prog 27 #[.slice (some ⟨W.heap.size, 0, none⟩) 3 3] (W.alloc (.cells #[.int .i64 (cmpI xd yd), .int .i64 (cmpI xo yo), .int .i64 (cmpI xs ys)] 3)).drew fun e w' => e = .returned (.int .i64 (orL [cmpI xd yd, cmpI xo yo, cmpI xs ys])) ∧ (W.alloc (.cells #[.int .i64 (cmpI xd yd), .int .i64 (cmpI xo yo), .int .i64 (cmpI xs ys)] 3)).drew = w' from orL_any W.heap.size [cmpI xd yd, cmpI xo yo, cmpI xs ys] (by simp) (W.alloc (.cells #[.int .i64 (cmpI xd yd), .int .i64 (cmpI xo yo), .int .i64 (cmpI xs ys)] 3)).drew (Blk.new W _ _))
  clear B1 B2 b1 b2
  go_region_held3 (fun w' => w'.cell? ⟨G, 0, none⟩ = some (.int .i64 xd) ∧ w'.cell? ⟨G, 1, none⟩ = some (.int .i64 xo) ∧ w'.cell? ⟨G, 2, none⟩ = some (.int .i64 xs) ∧ w'.cell? ⟨G + 1, 0, none⟩ = some (.int .i64 yd) ∧ w'.cell? ⟨G + 1, 1, none⟩ = some (.int .i64 yo) ∧ w'.cell? ⟨G + 1, 2, none⟩ = some (.int .i64 ys))
    (first | exact ⟨p0, p1, p2, p3, p4, p5⟩ | exact ⟨Q.out.1.cell 0, Q.out.1.cell 1, Q.out.1.cell 2, Q.out.2.cell 0, Q.out.2.cell 1, Q.out.2.cell 2⟩)
    (first
      | (go_at_call 28; refine (compare_any _ _ _).mono ?_; rintro e w5 ⟨rfl, rfl⟩)
      | (go_at_call 27; refine O.out.mono ?_; rintro e w6 ⟨rfl, rfl⟩))
  all_goals
    go_wp2_with fail
    go_ret
    exact ⟨rfl, (hg.alloc _).drew⟩

/-! ### The list of all timers -/
def toT (q : (Int × Int) × Int) : Tm := ⟨q.2, q.1.1, q.1.2⟩
structure TRel (m : TMap) (l : List Tm) : Prop where
  nd : (m.map (·.1)).Nodup
  sorted : SortedK id ltT l
  perm : l.Perm (m.map toT)
theorem TRel.unique {m : TMap} {l r : List Tm} (h : TRel m l) (h2 : TRel m r) : l = r := h.sorted.perm_eq linT h2.sorted (h.perm.trans h2.perm.symm)
theorem TRel.len {m : TMap} {l : List Tm} (h : TRel m l) : l.length = m.length := by have := h.perm.length_eq; simpa using this
theorem toT_nodup {m : TMap} (h : (m.map (·.1)).Nodup) : (m.map toT).Nodup := by
  rw [List.nodup_iff_pairwise_ne, List.pairwise_map] at *
  refine h.imp ?_
  intro a b hab e
  apply hab
  obtain ⟨⟨a1, a2⟩, a3⟩ := a
  obtain ⟨⟨b1, b2⟩, b3⟩ := b
  simp only [toT, Tm.mk.injEq] at e
  simp [e.2.1, e.2.2]
theorem TRel.of_loose {m : TMap} {l : List Tm} (h : (m.map (·.1)).Nodup) (hp : l.Perm (m.map toT)) (hs : l.Pairwise (fun a b => ltT b a = false)) : TRel m l :=
  ⟨h, sortedK_of linT (by rw [List.map_id]; exact hp.nodup_iff.2 (toT_nodup h)) hs, hp⟩

theorem IsIter.left_len {κ ν : Type} {w : World} {r B : Nat} {kE : κ → Value} {vE : ν → Value} {m left : List (κ × ν)} (h : IsIter w r B kE vE m left) : w.rangeLeft B r = left.length := by
  obtain ⟨es, clock, since, c0, seen, hb, hr, _, _, _, _, _, hit, rfl⟩ := h
  have hl : es.length = m.length := by have := congrArg List.length hr; simpa using this
  simp only [World.rangeLeft, hb, hit, leftOf]
  unfold toCome
  rw [List.length_map]
  have e1 := zip_fst (m := m) hl
  have e2 : (Array.filter (fun e => !seen.contains e.born) es.toArray).size = (es.filter fun e => !seen.contains e.born).length := by simp
  rw [e2]
  conv => lhs; rw [← e1, List.filter_map, List.length_map]
  rfl

theorem own_slice {w : World} {base : Nat} {e : TypeId} {size : Nat} {v : Value} {n : Nat} {xs : List Value} (h : w.ownsRow base e size v n xs) : ∃ A cap, v = .slice A n cap ∧ Rd w A xs := by
  have h0 := h
  obtain ⟨hl, h1 | ⟨g, cap, cur, rfl, _, hh, hn, _⟩⟩ := h
  · obtain ⟨rfl, rfl⟩ := h1
    exact ⟨none, 0, rfl, .inl (List.eq_nil_of_length_eq_zero (by simpa using hl))⟩
  · refine ⟨_, cap, rfl, ?_⟩
    rcases xs with _ | ⟨x, xs⟩
    · exact .inl rfl
    · right
      refine ⟨g, 0, rfl, (Array.getElem?_eq_some_iff.1 hh).1, fun j u hu => ?_⟩
      have := h0.cells (g := g) rfl j u hu
      rw [add_plain] at this
      exact this

def SortsT : Prop := SortsAt Try.prog 25 (.func (.func 26) #[] #[]) en3 3 ltT

set_option maxRecDepth 100000 in
set_option maxHeartbeats 4000000 in
theorem tlist_any (hS : SortsT) {X B : Nat} {m : TMap} (w : World) (h : IsTim w X B m) (hm : m.length * 24 ≤ 140737488351232) :
    Calls Try.prog 13 #[.pointer (some ⟨X, 0, none⟩)] w fun e w' =>
      ∃ (A : Option Addr) (cap : Nat) (l : List Tm), e = .returned (.slice A l.length cap) ∧ TRel m l ∧ w'.ownsRow w.heap.size 30 3 (.slice A l.length cap) l.length (l.flatMap en3) ∧ Below w.heap.size w w' := by
  have hc := h.cell
  have hnd := hid h.map.nodup
  obtain ⟨i0, hi, hz0, hz1, hz2⟩ := info_parts info_tm
  go_enter Try.func13, Try.ntmps13
  go_wp2_with (at_range; refine wpList_range _ rfl _ 57 61 3 rfl Try.underlying57 B m rfl h.map ?_; intro w1 hI hb hz)
  go_frame
  go_loopw [3] (fun v wr => ∃ (left : TMap) (vis : List Tm), wr.ownsRow w.heap.size 30 3 v vis.length (vis.flatMap en3) ∧ IsIter wr w.heap.size B kP vI m left ∧ Hid ((vis ++ left.map toT).Perm (m.map toT)) ∧ Below w.heap.size w wr)
    (fun _ wr => wr.rangeLeft B w.heap.size)
  case atStart => exact ⟨m, [], World.ownsRow_nil _ _ _ _, hI, hid (by simp), hb⟩
  case round =>
    clear hI hb hz
    obtain ⟨left, vis, hO, hI, hP, hb⟩ := hrel
    have hlen : vis.length ≤ m.length := by
      have := hP.out.length_eq
      simp at this
      omega
    have hll := hI.left_len
    have HL := hid hll
    clear hll
    go_wp2_with (first
      | (at_next; refine wpList_next _ rfl _ rfl w.heap.size B m left rfl hI ?_ ?_))
    · intro hl0
      subst hl0
      have hP2 : vis.Perm (m.map toT) := by simpa using hP.out
      clear hP HL
      go_wp2_with fail
      refine (sort_owned hS en3_len hO (by omega)).mono ?_
      rintro e w5 ⟨rfl, l', hp, hst, hO', hg⟩
      have hb5 : Below w.heap.size w w5 := hb.grown hg hb.size (fun k hk => (hO.lt k hk).1)
      clear hO hI hb hg
      obtain ⟨A', cap', rfl, _⟩ := own_slice hO'
      go_wp2_with fail
      go_ret
      exact ⟨A', cap', l', by simp, TRel.of_loose hnd.out (hp.trans hP2) hst, hO', hb5⟩
    · intro ao ap v left' w2 hp hI2 hg2 hs2 hen
      simp only [kP, vI] at hen
      have hO2 := hO.kept hg2 (.inr (fun e => hI.notOwn hO e.symm))
      have hb2 := hb.trans (grown_below hg2 hb.size (Nat.le_refl _))
      have hO3 := hid (hO2.alloc (.cells #[.int .i64 ao, .int .i64 ap] 61))
      have hI3 := hid ((hI2.alloc (.cells #[.int .i64 ao, .int .i64 ap] 61)).alloc (.cells #[.int .i64 v, .int .i64 ao, .int .i64 ap] 30))
      have hI5 := hid (hI2.alloc (.cells #[.int .i64 ao, .int .i64 ap] 61))
      have hb3 := hid ((hb2.alloc hb2.size (.cells #[.int .i64 ao, .int .i64 ap] 61)).alloc (by have := hb2.size; simp; omega) (.cells #[.int .i64 v, .int .i64 ao, .int .i64 ap] 30))
      have hlen2 : vis.length + 1 ≤ m.length := by
        have h1 := hP.out.length_eq
        have h2 := hp.length_eq
        simp at h1 h2
        omega
      have hwz : w.heap.size ≤ w2.heap.size := hb2.size
      clear hO hI hg2 hs2 hO2 hb hb2
      go_wp2_with (first
        | (at_builtin; refine wpList_push _ rfl _ _ 28 rfl w.heap.size 30 i0 _ 3 24 Try.underlying28 hi hz0 hz1 hz2 rfl (by decide) _ _ _ (by rfl) hO3.out #[.int .i64 v, .int .i64 ao, .int .i64 ap] (w2.heap.size + 1) (by simp) (by rfl) (by rfl) (by rfl) (by unfold maxLen; omega) (by omega) (by simp; omega) ?_; intro v' w3 hO4 hg4))
      have hI4 := hI3.out.grown hg4 (fun e => hI5.out.isMap.notOwn hO3.out e) (fun e => hI5.out.notOwn hO3.out e)
      have hb4 := hb3.out.grown hg4 (by simp; omega) (fun k hk => (hO3.out.lt k hk).1)
      have hP4 := hid (show ((vis ++ [(⟨v, ao, ap⟩ : Tm)]) ++ left'.map toT).Perm (m.map toT) from by
        refine List.Perm.trans ?_ hP.out
        rw [List.append_assoc]
        have hq := (hp.map toT).symm
        rw [List.map_cons] at hq
        exact List.Perm.append_left vis hq)
      have hO5 : w3.ownsRow w.heap.size 30 3 v' (vis ++ [(⟨v, ao, ap⟩ : Tm)]).length ((vis ++ [(⟨v, ao, ap⟩ : Tm)]).flatMap en3) := by simpa [en3] using hO4
      have hll : left'.length < left.length := by have := hp.length_eq; simp at this; omega
      clear hO3 hI3 hI5 hO4 hg4 hI2 hb3 hen
      go_roundw
      case rel => exact ⟨left', _, hO5, hI4, hP4, hb4⟩
      case measure => rw [hI4.left_len, HL.out]; exact hll

end Go.Proofs.Ythlpcbpilfakmaa
