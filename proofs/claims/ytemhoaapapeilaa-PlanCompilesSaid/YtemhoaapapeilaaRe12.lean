/-
  The law's own small functions: steps, at steps that are alike.
  append of a whole slice, wherever it lies, to nil: at a step of a region that draws.
  The law's own small functions: ref (a definition, copied for the document), step.
-/
import Derived.Test.YtemhoaapapeilaaWk12
import Derived.Test.YtemhoaapapeilaaAppend
import Derived.Deep.AppendLies
import Derived.Test.YtemhoaapapeilaaWa12
namespace Go.Proofs.Ytemhoaapapeilaa
open Go.RowKit Go.WideShapes Go.ChangeShapes Go.ChangeAt Go.Deep
set_option linter.unusedVariables false

set_option maxRecDepth 100000 in
set_option maxHeartbeats 8000000 in
theorem steps_same (s : Stp) (A B : Option Addr) (ca cb : Nat) (w : World) (hA : Rd w A (s.after.flatMap enB)) (hB : Rd w B (s.after.flatMap enB)) (hl : s.after.length ≤ 140737488355328) :
    Calls Try.prog 15 #[.agg (enSt (twn s A ca)).toArray, .agg (enSt (twn s B cb)).toArray] w fun e w' => e = .returned (.bool true) ∧ Below w.heap.size w w' := by
  obtain ⟨xn, xv, xu, xe, xf, xr, xy, xw, xA, xc, xl⟩ := s
  rw [show (enSt (twn (⟨xn, xv, xu, xe, xf, xr, xy, xw, xA, xc, xl⟩ : Stp) A ca)).toArray = #[.string xn, .string xv, .string xu, .string xe, .bool xf, .int .i64 xr, .int .i64 xy, .int .i64 xw, .slice A xl.length ca] from rfl]
  rw [show (enSt (twn (⟨xn, xv, xu, xe, xf, xr, xy, xw, xA, xc, xl⟩ : Stp) B cb)).toArray = #[.string xn, .string xv, .string xu, .string xe, .bool xf, .int .i64 xr, .int .i64 xy, .int .i64 xw, .slice B xl.length cb] from rfl]
  simp only at hA hB hl
  have hB1 := Blk.new w 40 #[.string xn, .string xv, .string xu, .string xe, .bool xf, .int .i64 xr, .int .i64 xy, .int .i64 xw, .slice A xl.length ca]
  have hw1 : Below w.heap.size w (w.alloc (.cells #[.string xn, .string xv, .string xu, .string xe, .bool xf, .int .i64 xr, .int .i64 xy, .int .i64 xw, .slice A xl.length ca] 40)) := (Below.refl _ _).alloc (Nat.le_refl _) _
  obtain ⟨w1, e1⟩ : ∃ w1, w1 = w.alloc (.cells #[.string xn, .string xv, .string xu, .string xe, .bool xf, .int .i64 xr, .int .i64 xy, .int .i64 xw, .slice A xl.length ca] 40) := ⟨_, rfl⟩
  obtain ⟨G1, g1⟩ : ∃ G1, G1 = w.heap.size := ⟨_, rfl⟩
  rw [← e1] at hB1 hw1
  rw [← g1] at hB1
  have hB2 := Blk.new w1 40 #[.string xn, .string xv, .string xu, .string xe, .bool xf, .int .i64 xr, .int .i64 xy, .int .i64 xw, .slice B xl.length cb]
  have hw2 : Below w1.heap.size w1 (w1.alloc (.cells #[.string xn, .string xv, .string xu, .string xe, .bool xf, .int .i64 xr, .int .i64 xy, .int .i64 xw, .slice B xl.length cb] 40)) := (Below.refl _ _).alloc (Nat.le_refl _) _
  obtain ⟨w2, e2⟩ : ∃ w2, w2 = w1.alloc (.cells #[.string xn, .string xv, .string xu, .string xe, .bool xf, .int .i64 xr, .int .i64 xy, .int .i64 xw, .slice B xl.length cb] 40) := ⟨_, rfl⟩
  obtain ⟨G2, g2⟩ : ∃ G2, G2 = w1.heap.size := ⟨_, rfl⟩
  rw [← e2] at hB2 hw2
  rw [← g2] at hB2
  have hC1 := hB1.next hw2
  have HW := hid (And.intro e1 (And.intro g1 (And.intro e2 g2)))
  have HX := hid (And.intro hC1 (And.intro hB2 (And.intro (hA.below hw1) (hB.below hw1))))
  have HY := hid (bthen hw1 hw2)
  have HZ := hid hw2
  clear hB1 hw1 e1 g1 hB2 hw2 e2 g2 hC1 hA hB
  go_enter Try.func15, Try.ntmps15
  go_upto_region 1 with fail
  have hsz : w1.heap.size = w.heap.size + 1 := by rw [HW.out.1, World.size_alloc]
  rw [← HW.out.1]
  try rw [← HW.out.2.1]
  have hg2 : G1 + 1 = G2 := by rw [HW.out.2.1, HW.out.2.2.2]; omega
  try rw [hg2]
  rw [← HW.out.2.2.1]
  clear hsz hg2
  have a8 : w2.cell? ⟨G1, 8, none⟩ = some (.slice A xl.length ca) := HX.out.1.cell 8
  have b8 : w2.cell? ⟨G2, 8, none⟩ = some (.slice B xl.length cb) := HX.out.2.1.cell 8
  have l1 := HX.out.1.lt
  have l2 := HX.out.2.1.lt
  have tl : ((xl.length : Int) != (xl.length : Int)) = false := by simp
  go_wp2_with fail
  go_loopw [16] (fun i wr => ∃ k : Nat, k ≤ xl.length ∧ i = .int .i64 k ∧ Hid (Below w2.heap.size w2 wr)) (fun i _ => xl.length - nOf i)
  case atStart => exact ⟨0, Nat.zero_le _, rfl, hid (Below.refl _ _)⟩
  case round =>
    clear a8 b8 l1 l2 tl
    obtain ⟨k, hk, rfl, hb⟩ := hrel
    have a0 : wr.cell? ⟨G1, 0, none⟩ = some (.string xn) := (HX.out.1.next hb.out).cell 0
    have a1 : wr.cell? ⟨G1, 1, none⟩ = some (.string xv) := (HX.out.1.next hb.out).cell 1
    have a2 : wr.cell? ⟨G1, 2, none⟩ = some (.string xu) := (HX.out.1.next hb.out).cell 2
    have a3 : wr.cell? ⟨G1, 3, none⟩ = some (.string xe) := (HX.out.1.next hb.out).cell 3
    have a4 : wr.cell? ⟨G1, 4, none⟩ = some (.bool xf) := (HX.out.1.next hb.out).cell 4
    have a5 : wr.cell? ⟨G1, 5, none⟩ = some (.int .i64 xr) := (HX.out.1.next hb.out).cell 5
    have a6 : wr.cell? ⟨G1, 6, none⟩ = some (.int .i64 xy) := (HX.out.1.next hb.out).cell 6
    have a7 : wr.cell? ⟨G1, 7, none⟩ = some (.int .i64 xw) := (HX.out.1.next hb.out).cell 7
    have a8 : wr.cell? ⟨G1, 8, none⟩ = some (.slice A xl.length ca) := (HX.out.1.next hb.out).cell 8
    have b0 : wr.cell? ⟨G2, 0, none⟩ = some (.string xn) := (HX.out.2.1.next hb.out).cell 0
    have b1 : wr.cell? ⟨G2, 1, none⟩ = some (.string xv) := (HX.out.2.1.next hb.out).cell 1
    have b2 : wr.cell? ⟨G2, 2, none⟩ = some (.string xu) := (HX.out.2.1.next hb.out).cell 2
    have b3 : wr.cell? ⟨G2, 3, none⟩ = some (.string xe) := (HX.out.2.1.next hb.out).cell 3
    have b4 : wr.cell? ⟨G2, 4, none⟩ = some (.bool xf) := (HX.out.2.1.next hb.out).cell 4
    have b5 : wr.cell? ⟨G2, 5, none⟩ = some (.int .i64 xr) := (HX.out.2.1.next hb.out).cell 5
    have b6 : wr.cell? ⟨G2, 6, none⟩ = some (.int .i64 xy) := (HX.out.2.1.next hb.out).cell 6
    have b7 : wr.cell? ⟨G2, 7, none⟩ = some (.int .i64 xw) := (HX.out.2.1.next hb.out).cell 7
    have b8 : wr.cell? ⟨G2, 8, none⟩ = some (.slice B xl.length cb) := (HX.out.2.1.next hb.out).cell 8
    have l1 := (HX.out.1.next hb.out).lt
    have l2 := (HX.out.2.1.next hb.out).lt
    by_cases hlt : k < xl.length
    · obtain ⟨x, hx⟩ : ∃ x, xl[k]? = some x := ⟨xl[k], List.getElem?_eq_getElem hlt⟩
      obtain ⟨b, o, hAA, _, hcc⟩ := ((HX.out.2.2.1.below HZ.out).below hb.out).at_ 1 (fun _ => rfl) (by omega) hx
      obtain ⟨c, p, hBB, _, hcc2⟩ := ((HX.out.2.2.2.below HZ.out).below hb.out).at_ 1 (fun _ => rfl) (by omega) hx
      subst hAA
      subst hBB
      have q0 : wr.cell? ⟨b, o + k * 1, none⟩ = some (.string x) := hcc 0 _ rfl
      have q2 : wr.cell? ⟨c, p + k * 1, none⟩ = some (.string x) := hcc2 0 _ rfl
      rw [Nat.mul_one] at q0 q2
      have tx : (x.toList == x.toList) = true := by simp
      clear a0 a1 a2 a3 a4 a5 a6 a7 b0 b1 b2 b3 b4 b5 b6 b7 hcc hcc2 hx
      go_wp2_with fail
      go_quiet (fail)
      go_wp2_with fail
      go_roundw
      case rel => exact ⟨k + 1, by omega, by go_num, hid (bthen hb.out (belowN _ _))⟩
      case measure => simp [nOf]; omega
    · have t0 : (xn.toList == xn.toList) = true := by simp
      have t1 : (xv.toList == xv.toList) = true := by simp
      have t2 : (xu.toList == xu.toList) = true := by simp
      have t3 : (xe.toList == xe.toList) = true := by simp
      have t4 : (xf == xf) = true := by simp
      have t5 : (xr == xr) = true := by simp
      have t6 : (xy == xy) = true := by simp
      have t7 : (xw == xw) = true := by simp
      go_wp2_with fail
      go_ret
      exact ⟨rfl, bthen HY.out hb.out⟩

end Go.Proofs.Ytemhoaapapeilaa

namespace Go.Proofs.Ytemhoaapapeilaa
open Go.RowKit Go.MapKept Go.ChangeMaps Go.WideShapes Go.ChangeShapes Go.ChangeAt Go.Deep
set_option linter.unusedVariables false

theorem run_append_any {P : Program} (w : World) (t ty : TypeId) (e : TypeId) (i : TypeInfo) (z : Value) (size bytes : Nat) (ht : P.underlying t = some (.slice e)) (hi : P.info? e = some i) (hz : i.zero = some z)
    (hsize : i.size = size) (hby : i.bytes = bytes) (hzs : z.cells.size = size) (hsz : 0 < size)
    (A : Option Addr) (m c : Nat) (xs : List Value) (hl : xs.length = m * size) (hR : Rd w A xs) (h1 : ∀ u ∈ xs, u.oneCell' = true) (h63 : m ≤ maxLen) (hb : m * bytes ≤ 140737488355328) :
    ∃ v' w', (Builtin.append_ #[t, t] ty #[.slice none 0 0, .slice A m c]).run P w = .ok v' w' ∧ w'.ownsRow w.heap.size e size v' m xs ∧ Below w.heap.size w w' := by
  cases A with
  | none =>
    have hm : m = 0 := by
      rcases hR with h0 | ⟨b, off, hA, hx1, hx2⟩
      · rw [h0] at hl
        rcases Nat.eq_zero_or_pos m with h | h
        · exact h
        · have := Nat.mul_pos h hsz
          rw [← hl] at this
          simp at this
      · exact absurd hA (by simp)
    subst hm
    have : xs = [] := List.eq_nil_of_length_eq_zero (by simpa using hl)
    subst this
    exact ⟨_, w, append_nil_run (P := P) (w := w) ht hi ty c, World.ownsRow_nil _ _ _ _, Below.refl _ _⟩
  | some ad =>
    obtain ⟨v', w', hr, h2, h3, _, _⟩ := run_append_own_at (P := P) w w.heap.size t ty e i z size bytes ht hi hz hsize hby hzs hsz (.slice none 0 0) 0 [] (World.ownsRow_nil _ _ _ _) ad m c xs hl (by
      intro j u hu
      rcases hR with h0 | ⟨b, off, hA, hlt, hc⟩
      · rw [h0] at hu; simp at hu
      · injection hA with hA
        subst hA
        rw [add_plain]
        exact hc j u hu) h1 (by omega) (by rw [Nat.zero_add]; exact hb) (Nat.le_refl _)
    exact ⟨v', w', hr, by simpa using h2, (Below.refl _ _).grown h3 (Nat.le_refl _) (fun k hk => by simp [Value.ownBlock] at hk)⟩

theorem step_append_any {P : Program} (w : World) {ops : Array Oper} {o : Oper} {a : Act} {K : Act → World → Prop} {Q : Exit → Act → World → Prop} {E : Prop} (hgd : o.guard = none) (s x : Operand) (t : TypeId)
    (ho : o.op = .call { callee := .builtin .append, args := #[s, x], argTypes := #[t, t] })
    (e : TypeId) (i : TypeInfo) (z : Value) (size bytes : Nat) (ht : P.underlying t = some (.slice e)) (hi : P.info? e = some i) (hz : i.zero = some z)
    (hsize : i.size = size) (hby : i.bytes = bytes) (hzs : z.cells.size = size) (hsz : 0 < size) (hs : a.eval s = .slice none 0 0)
    (A : Option Addr) (m c : Nat) (xs : List Value) (hx : a.eval x = .slice A m c) (hl : xs.length = m * size) (hR : Rd w A xs) (h1 : ∀ u ∈ xs, u.oneCell' = true) (h63 : m ≤ maxLen) (hb : m * bytes ≤ 140737488355328)
    (h : ∀ A' cap' w', w'.ownsRow w.heap.size e size (.slice A' m cap') m xs → Below w.heap.size w w' → K (a.put o.dst (.slice A' m cap')) w') :
    if Region.wanted o (yielded ops a.tmps) = true then Oper.wp P o a w K Q else E := by
  have hw : Region.wanted o (yielded ops a.tmps) = true := by simp [Region.wanted, hgd]
  rw [if_pos hw]
  obtain ⟨v', w', hr, h2, h3⟩ := run_append_any (P := P) w t o.type e i z size bytes ht hi hz hsize hby hzs hsz A m c xs hl hR h1 h63 hb
  obtain ⟨A', cap', rfl, _⟩ := own_slice h2
  unfold Oper.wp execOp
  simp only [ho, resolve, invoke, builtin, Sem.run_bind, Sem.run_pure, Result.andThen_ok, List.map_toArray, List.map_cons, List.map_nil, hs, hx, hr]
  exact h A' cap' w' h2 h3
theorem exec_append_any {P : Program} {w : World} {o : Oper} {a : Act} {X : Value → World → Prop} (s x : Operand) (t : TypeId)
    (ho : o.op = .call { callee := .builtin .append, args := #[s, x], argTypes := #[t, t] })
    (e : TypeId) (i : TypeInfo) (z : Value) (size bytes : Nat) (ht : P.underlying t = some (.slice e)) (hi : P.info? e = some i) (hz : i.zero = some z)
    (hsize : i.size = size) (hby : i.bytes = bytes) (hzs : z.cells.size = size) (hsz : 0 < size) (hs : a.eval s = .slice none 0 0)
    (A : Option Addr) (m c : Nat) (xs : List Value) (hx : a.eval x = .slice A m c) (hl : xs.length = m * size) (hR : Rd w A xs) (h1 : ∀ u ∈ xs, u.oneCell' = true) (h63 : m ≤ maxLen) (hb : m * bytes ≤ 140737488355328)
    (h : ∀ A' cap' w', w'.ownsRow w.heap.size e size (.slice A' m cap') m xs → Below w.heap.size w w' → X (.slice A' m cap') w') :
    ∃ u w', (execOp a.eval o).run P w = .ok (.value u) w' ∧ X u w' := by
  obtain ⟨v', w', hr, h2, h3⟩ := run_append_any (P := P) w t o.type e i z size bytes ht hi hz hsize hby hzs hsz A m c xs hl hR h1 h63 hb
  obtain ⟨A', cap', rfl, _⟩ := own_slice h2
  refine ⟨.slice A' m cap', w', ?_, h A' cap' w' h2 h3⟩
  unfold execOp
  simp only [ho, resolve, invoke, builtin, Sem.run_bind, Sem.run_pure, Result.andThen_ok, List.map_toArray, List.map_cons, List.map_nil, hs, hx, hr]

end Go.Proofs.Ytemhoaapapeilaa

namespace Go.Proofs.Ytemhoaapapeilaa
open Go.RowKit Go.MapKept Go.ChangeMaps Go.WideShapes Go.ChangeShapes Go.ChangeAt Go.Deep
set_option linter.unusedVariables false

/-- The steps, copied: each is what it was, but for where its names lie. -/
structure Twins (l Ls : List Stp) : Prop where
  len : Ls.length = l.length
  at_ : ∀ (k : Nat) (s : Stp), l[k]? = some s → ∃ A c, Ls[k]? = some (twn s A c)
theorem Twins.snoc {l Ls : List Stp} {k : Nat} {s : Stp} (h : Twins (l.take k) Ls) (hs : l[k]? = some s) (A : Option Addr) (c : Nat) : Twins (l.take (k + 1)) (Ls ++ [twn s A c]) := by
  have hk : k < l.length := (List.getElem?_eq_some_iff.1 hs).1
  have hl := h.len
  rw [List.length_take, Nat.min_eq_left (by omega)] at hl
  rw [take_succ_of hs]
  refine ⟨by rw [List.length_append, List.length_append, h.len]; rfl, fun j y hj => ?_⟩
  by_cases hjk : j < k
  · rw [List.getElem?_append_left (by rw [List.length_take]; omega)] at hj
    obtain ⟨A', c', h1⟩ := h.at_ j y hj
    exact ⟨A', c', by rw [List.getElem?_append_left (by omega)]; exact h1⟩
  · have hjl := (List.getElem?_eq_some_iff.1 hj).1
    simp at hjl
    have : j = k := by omega
    subst this
    rw [List.getElem?_append_right (by rw [List.length_take]; omega)] at hj
    rw [List.length_take, Nat.min_eq_left (by omega), Nat.sub_self] at hj
    simp at hj
    subst hj
    exact ⟨A, c, by rw [List.getElem?_append_right (by omega), hl]; simp⟩
/-- While ref runs. -/
structure RfS (w0 : World) (D R O : Nat) (nm : ByteArray) (A : Option Addr) (n cp : Nat) (SA : Option Addr) (sc : Nat) (Ls : List Stp) (w : World) : Prop where
  d : Blk w D 24 #[.string nm, .slice A n cp]
  r : Blk w R 47 #[.string ⟨#[]⟩, .slice none 0 0]
  o : Blk w O 47 #[.string nm, .slice SA Ls.length sc]
  ne : R ≠ O
  os : w.ownsRow w0.heap.size 40 9 (.slice SA Ls.length sc) Ls.length (Ls.flatMap enSt)
  st : ∀ s ∈ Ls, OwnSt w0.heap.size w s
  bel : Below w0.heap.size w0 w
  lo : w0.heap.size ≤ R ∧ w0.heap.size ≤ O
section
variable {w0 : World} {D R O : Nat} {nm : ByteArray} {A : Option Addr} {n cp : Nat} {SA : Option Addr} {sc : Nat} {Ls : List Stp} {w w' : World}
theorem RfS.next (h : RfS w0 D R O nm A n cp SA sc Ls w) (hb : Below w.heap.size w w') : RfS w0 D R O nm A n cp SA sc Ls w' :=
  ⟨h.d.next hb, h.r.next hb, h.o.next hb, h.ne, own_next h.os hb, fun s hs => own_next (h.st s hs) hb, bthen h.bel hb, h.lo⟩
theorem RfS.grew {g cap : Nat} (h : RfS w0 D R O nm A n cp SA sc Ls w) (hg : w.grownBy w' (Value.slice SA Ls.length sc).ownBlock) (t : Stp) (ho : w'.ownsRow w0.heap.size 40 9 (.slice (some ⟨g, 0, none⟩) (Ls.length + 1) cap) (Ls.length + 1) (Ls.flatMap enSt ++ enSt t)) (ht : OwnSt w0.heap.size w t) :
    RfS w0 D R O nm A n cp (some ⟨g, 0, none⟩) cap (Ls ++ [t]) (w'.setCell ⟨O, 1, none⟩ (.slice (some ⟨g, 0, none⟩) (Ls.length + 1) cap)) := by
  have hT := touch_own hg
  have hd := hT.blk h.d (fun e => own_notBlk h.os h.d (by decide) e)
  have hr := hT.blk h.r (fun e => own_notBlk h.os h.r (by decide) e)
  have hO := hT.blk h.o (fun e => own_notBlk h.os h.o (by decide) e)
  have hT2 := Touch.setCell w' O 1 (.slice (some ⟨g, 0, none⟩) (Ls.length + 1) cap)
  have no : ∀ {base : Nat} {e : TypeId} {size : Nat} {v : Value} {n : Nat} {xs : List Value}, 40 ≠ e → w.ownsRow base e size v n xs → w'.ownsRow base e size v n xs := fun hne ho2 => own_touch ho2 hT (fun g hg e => own_other h.os ho2 hne hg e)
  have no2 : ∀ {base : Nat} {e : TypeId} {size : Nat} {v : Value} {n : Nat} {xs : List Value}, e ≠ 47 → w'.ownsRow base e size v n xs → (w'.setCell ⟨O, 1, none⟩ (.slice (some ⟨g, 0, none⟩) (Ls.length + 1) cap)).ownsRow base e size v n xs := fun hne ho2 => own_touch ho2 hT2 (fun g hg e => own_notBlk ho2 hO hne (by rw [hg, e]))
  have hb := h.bel.trans (hT.below h.bel.size (fun k hk => (h.os.lt k hk).1))
  have hl : (Ls ++ [t]).length = Ls.length + 1 := by simp
  refine ⟨hT2.blk hd (fun e => hd.ne_ hO (by decide) e), hT2.blk hr (fun e => h.ne e), ?_, h.ne, ?_, fun s hs => ?_, hb.trans (hT2.below hb.size (fun k hk => by rw [hk]; exact h.lo.2)), h.lo⟩
  · rw [hl]; exact hO.set_ 1 _
  · have := no2 (by decide) ho
    rw [List.flatMap_append, hl]
    simpa using this
  · rcases List.mem_append.1 hs with hs | hs
    · exact no2 (by decide) (no (by decide) (h.st s hs))
    · simp at hs; subst hs; exact no2 (by decide) (no (by decide) ht)
end
theorem flat_enB_len : ∀ xl : List ByteArray, (xl.flatMap enB).length = xl.length * 1
  | [] => rfl
  | x :: xl => by rw [List.flatMap_cons, List.length_append, flat_enB_len xl]; simp [enB]; omega
theorem info_rstep12 : (Try.prog.info? 40).map (fun i => (i.zero, i.size, i.bytes)) = some (some (.agg #[.string ⟨#[]⟩, .string ⟨#[]⟩, .string ⟨#[]⟩, .string ⟨#[]⟩, .bool false, .int .i64 0, .int .i64 0, .int .i64 0, .slice none 0 0]), 9, 120) := by kernel_rfl
/-- What ref answers. -/
def RefR (nm : ByteArray) (l : List Stp) (w : World) (e : Ending) (w' : World) : Prop := ∃ (SA : Option Addr) (sc : Nat) (Ls : List Stp), e = .returned (.agg #[.string nm, .slice SA Ls.length sc]) ∧ Twins l Ls ∧ w'.ownsRow w.heap.size 40 9 (.slice SA Ls.length sc) Ls.length (Ls.flatMap enSt) ∧ (∀ s ∈ Ls, OwnSt w.heap.size w' s) ∧ Below w.heap.size w w'

set_option maxRecDepth 100000 in
set_option maxHeartbeats 32000000 in
theorem ref_any (nm : ByteArray) (l : List Stp) (A : Option Addr) (cp : Nat) (w : World) (hR : Rd w A (l.flatMap enSt)) (hok : ∀ s ∈ l, OkSt w s) (hl : l.length ≤ 1000) :
    Calls Try.prog 20 #[.agg #[.string nm, .slice A l.length cp]] w (RefR nm l w) := by
  have HOK := hid hok
  have HR := hid hR
  clear hok hR
  have hD0 := Blk.new w 24 #[.string nm, .slice A l.length cp]
  have b0 : Below w.heap.size w (w.alloc (.cells #[.string nm, .slice A l.length cp] 24)) := (Below.refl _ _).alloc (Nat.le_refl _) _
  obtain ⟨w1, e1⟩ : ∃ w1, w1 = w.alloc (.cells #[.string nm, .slice A l.length cp] 24) := ⟨_, rfl⟩
  obtain ⟨D, g1⟩ : ∃ D, D = w.heap.size := ⟨_, rfl⟩
  rw [← e1] at hD0 b0
  rw [← g1] at hD0
  have hR0 := Blk.new w1 47 #[.string ⟨#[]⟩, .slice none 0 0]
  have b1 : Below w1.heap.size w1 (w1.alloc (.cells #[.string ⟨#[]⟩, .slice none 0 0] 47)) := (Below.refl _ _).alloc (Nat.le_refl _) _
  obtain ⟨w2, e2⟩ : ∃ w2, w2 = w1.alloc (.cells #[.string ⟨#[]⟩, .slice none 0 0] 47) := ⟨_, rfl⟩
  obtain ⟨R, g2⟩ : ∃ R, R = w1.heap.size := ⟨_, rfl⟩
  rw [← e2] at hR0 b1
  rw [← g2] at hR0
  have hO0 := Blk.new w2 47 #[.string nm, .slice none 0 0]
  have b2 : Below w2.heap.size w2 (w2.alloc (.cells #[.string nm, .slice none 0 0] 47)) := (Below.refl _ _).alloc (Nat.le_refl _) _
  obtain ⟨w3, e3⟩ : ∃ w3, w3 = w2.alloc (.cells #[.string nm, .slice none 0 0] 47) := ⟨_, rfl⟩
  obtain ⟨O, g3⟩ : ∃ O, O = w2.heap.size := ⟨_, rfl⟩
  rw [← e3] at hO0 b2
  rw [← g3] at hO0
  have hs1 : w1.heap.size = w.heap.size + 1 := by rw [e1, World.size_alloc]
  have hs2 : w2.heap.size = w1.heap.size + 1 := by rw [e2, World.size_alloc]
  have hS : RfS w D R O nm A l.length cp none 0 [] w3 := ⟨(hD0.next b1).next b2, hR0.next b2, hO0, by omega, World.ownsRow_nil _ _ _ _, (fun s hs => by cases hs), bthen (bthen b0 b1) b2, by omega, by omega⟩
  have HS := hid hS
  have c0 : w1.cell? ⟨D, 0, none⟩ = some (.string nm) := hD0.cell 0
  have c2 : w2.cell? ⟨D, 0, none⟩ = some (.string nm) := (hD0.next b1).cell 0
  have lD : D < w1.heap.size := hD0.lt
  have lD2 : D < w2.heap.size := by omega
  have HE := hid (And.intro e1 (And.intro g1 (And.intro e2 (And.intro g2 (And.intro e3 g3)))))
  have HSZ := hid (And.intro hs1 hs2)
  have HT0 := hid (show Twins (l.take 0) [] from ⟨by simp, fun k s h => by simp at h⟩)
  clear hD0 b0 e1 g1 hR0 b1 e2 g2 hO0 b2 e3 g3 hS hs1 hs2
  go_enter Try.func20, Try.ntmps20
  go_upto_region 1 with fail
  rw [← HE.out.1, ← HE.out.2.2.1, ← HE.out.2.1, show D + 1 = R from by rw [HE.out.2.2.2.1, HSZ.out.1, HE.out.2.1]]
  go_upto_region 2 with fail
  rw [← HE.out.2.2.2.2.2, ← HE.out.2.2.2.2.1]
  have d1 : w3.cell? ⟨D, 1, none⟩ = some (.slice A l.length cp) := HS.out.d.cell 1
  have lD3 := HS.out.d.lt
  clear c0 c2 lD lD2 HSZ HE
  obtain ⟨i1, hi, hz0, hz1, hz2⟩ := info_parts info_str12
  obtain ⟨i2, hj, hy0, hy1, hy2⟩ := info_parts info_rstep12
  go_wp2_with fail
  go_loopw [12] (fun i wr => ∃ (k : Nat) (SA : Option Addr) (sc : Nat) (Ls : List Stp), k ≤ l.length ∧ i = .int .i64 k ∧ Hid (RfS w D R O nm A l.length cp SA sc Ls wr) ∧ Hid (Twins (l.take k) Ls)) (fun i _ => l.length - nOf i)
  case atStart => exact ⟨0, none, 0, [], Nat.zero_le _, rfl, HS, HT0⟩
  case round =>
    clear HS HT0 d1 lD3
    obtain ⟨k, SA, sc, Ls, hk, rfl, HS, HT⟩ := hrel
    by_cases hlt : k < l.length
    · obtain ⟨s, hs⟩ : ∃ s, l[k]? = some s := ⟨l[k], List.getElem?_eq_getElem hlt⟩
      obtain ⟨b, o, hAA, hbs, hcc⟩ := (HR.out.below HS.out.bel).at_ 9 enSt_len (by omega) hs
      have HTS := hid (fun (A' : Option Addr) (c' : Nat) => HT.out.snoc hs A' c')
      have HOS := hid ((HOK.out s (List.mem_of_getElem? hs)).next HS.out.bel)
      have hLk : Ls.length = k := by have := HT.out.len; rw [List.length_take, Nat.min_eq_left (by omega)] at this; exact this
      obtain ⟨xn, xv, xu, xe, xf, xr, xy, xw, xA, xc, xl⟩ := s
      have q0 : wr.cell? ⟨b, o + k * 9, none⟩ = some (.string xn) := hcc 0 _ rfl
      have q1 : wr.cell? ⟨b, o + k * 9 + 1, none⟩ = some (.string xv) := hcc 1 _ rfl
      have q2 : wr.cell? ⟨b, o + k * 9 + 2, none⟩ = some (.string xu) := hcc 2 _ rfl
      have q3 : wr.cell? ⟨b, o + k * 9 + 3, none⟩ = some (.string xe) := hcc 3 _ rfl
      have q4 : wr.cell? ⟨b, o + k * 9 + 4, none⟩ = some (.bool xf) := hcc 4 _ rfl
      have q5 : wr.cell? ⟨b, o + k * 9 + 5, none⟩ = some (.int .i64 xr) := hcc 5 _ rfl
      have q6 : wr.cell? ⟨b, o + k * 9 + 6, none⟩ = some (.int .i64 xy) := hcc 6 _ rfl
      have q7 : wr.cell? ⟨b, o + k * 9 + 7, none⟩ = some (.int .i64 xw) := hcc 7 _ rfl
      have q8 : wr.cell? ⟨b, o + k * 9 + 8, none⟩ = some (.slice xA xl.length xc) := hcc 8 _ rfl
      have hvb := Blk.new wr 34 #[.string xn, .string xv, .string xu, .string xe, .bool xf, .int .i64 xr, .int .i64 xy, .int .i64 xw, .slice xA xl.length xc]
      have hwa : Below wr.heap.size wr (wr.alloc (.cells #[.string xn, .string xv, .string xu, .string xe, .bool xf, .int .i64 xr, .int .i64 xy, .int .i64 xw, .slice xA xl.length xc] 34)) := (Below.refl _ _).alloc (Nat.le_refl _) _
      have hS3 := HS.out.next hwa
      have hOS3 := HOS.out.next hwa
      obtain ⟨w4, hw4⟩ : ∃ w4, w4 = wr.alloc (.cells #[.string xn, .string xv, .string xu, .string xe, .bool xf, .int .i64 xr, .int .i64 xy, .int .i64 xw, .slice xA xl.length xc] 34) := ⟨_, rfl⟩
      obtain ⟨V, hV⟩ : ∃ V, V = wr.heap.size := ⟨_, rfl⟩
      rw [← hw4] at hvb hS3 hOS3
      rw [← hV] at hvb
      have HW4 := hid (And.intro hw4 hV)
      have HS4 := hid hS3
      have HOS4 := hid hOS3
      have HVB := hid hvb
      clear hw4 hV hvb hS3 hOS3 hwa hcc hs HS HOS HT
      subst hAA
      go_upto_region 5 with fail
      rw [← HW4.out.1, ← HW4.out.2]
      clear q0 q1 q2 q3 q4 q5 q6 q7 q8 hbs
      obtain ⟨C, hCd⟩ : ∃ C : World → Prop, ∀ w', C w' ↔ Below w4.heap.size w4 w' := ⟨_, fun _ => Iff.rfl⟩
      have hC : C w4.drew := (hCd _).2 (Below.refl _ _).drew
      have hV : ∀ p : In C, Blk p.w V 34 #[.string xn, .string xv, .string xu, .string xe, .bool xf, .int .i64 xr, .int .i64 xy, .int .i64 xw, .slice xA xl.length xc] := fun p => HVB.out.next ((hCd _).1 p.h)
      have v0 : ∀ p : In C, p.w.cell? ⟨V, 0, none⟩ = some (.string xn) := fun p => (hV p).cell 0
      have v1 : ∀ p : In C, p.w.cell? ⟨V, 1, none⟩ = some (.string xv) := fun p => (hV p).cell 1
      have v2 : ∀ p : In C, p.w.cell? ⟨V, 2, none⟩ = some (.string xu) := fun p => (hV p).cell 2
      have v3 : ∀ p : In C, p.w.cell? ⟨V, 3, none⟩ = some (.string xe) := fun p => (hV p).cell 3
      have v4 : ∀ p : In C, p.w.cell? ⟨V, 4, none⟩ = some (.bool xf) := fun p => (hV p).cell 4
      have v5 : ∀ p : In C, p.w.cell? ⟨V, 5, none⟩ = some (.int .i64 xr) := fun p => (hV p).cell 5
      have v6 : ∀ p : In C, p.w.cell? ⟨V, 6, none⟩ = some (.int .i64 xy) := fun p => (hV p).cell 6
      have v7 : ∀ p : In C, p.w.cell? ⟨V, 7, none⟩ = some (.int .i64 xw) := fun p => (hV p).cell 7
      have v8 : ∀ p : In C, p.w.cell? ⟨V, 8, none⟩ = some (.slice xA xl.length xc) := fun p => (hV p).cell 8
      have lV : ∀ p : In C, V < p.w.heap.size := fun p => (hV p).lt
      have o1 : ∀ p : In C, p.w.cell? ⟨O, 1, none⟩ = some (.slice SA k sc) := fun p => by have := (HS4.out.next ((hCd _).1 p.h)).o.cell 1; rw [hLk] at this; exact this
      have lO : ∀ p : In C, O < p.w.heap.size := fun p => (HS4.out.next ((hCd _).1 p.h)).o.lt
      have HC0 := hid hC
      have HCd := hid hCd
      have HLk := hid hLk
      clear hC hCd hV hLk
      have hne : Nonempty (In C) := ⟨⟨_, HC0.out⟩⟩
      refine wp_region_many C (fun _ => none) 23 (by kernel_rfl) (by kernel_rfl) HC0.out ?_
      simp only [List.take_succ_cons, List.take_zero, List.drop_succ_cons, List.drop_zero]
      refine wpM_part (fun a D D' hd h w' hC hD' => h w' hC (hd w' hD')) ⟨_, HC0.out⟩ 20 20 (by kernel_rfl) (by kernel_rfl) (by kernel_rfl) ?_
      simp only [List.take_succ_cons, List.take_zero, List.drop_succ_cons, List.drop_zero]
      repeat (first | go_big_quiet_step (fail) | quiet_step (fail))
      refine wpQuiet_nil ?_
      clear v0 v1 v2 v3 v4 v5 v6 v7 v8 lV o1 lO hne
      refine wpM_many (fun a D D' hd h w' hC hD' => h w' hC (hd w' hD')) rfl (by kernel_rfl) (fun u w' => ∃ A7 c7, u = .slice A7 xl.length c7 ∧ w'.ownsRow w4.heap.size 9 1 (.slice A7 xl.length c7) xl.length (xl.flatMap enB)) (fun u w1 w2 ⟨A7, c7, h1, h2⟩ hb => ⟨A7, c7, h1, own_next h2 hb⟩) (fun w' hw' => ?_) ?_
      · have hb' := (HCd.out _).1 hw'
        have hOS' := HOS4.out.next hb'
        exact exec_append_any (X := fun u w7 => C w7 ∧ Below w'.heap.size w' w7 ∧ ∃ A7 c7, u = .slice A7 xl.length c7 ∧ w7.ownsRow w4.heap.size 9 1 (.slice A7 xl.length c7) xl.length (xl.flatMap enB)) _ _ 32 rfl 9 i1 _ 1 16 Try.underlying32 hi hz0 hz1 hz2 rfl (by decide) (by rfl) xA xl.length xc (xl.flatMap enB) (by rfl) (flat_enB_len xl) hOS'.row (enB_one xl) (by have := hOS'.len; simp only at this; unfold maxLen; omega) hOS'.len (fun A7 c7 w7 h2 h3 => ⟨(HCd.out _).2 (bthen hb' h3), h3, A7, c7, rfl, own_base h2 hb'.size⟩)
      rintro u ⟨wu, A7, c7, rfl, _⟩
      refine wpM_one (fun a D D' hd h w' hC hD' => h w' hC (hd w' hD')) rfl (by kernel_rfl) (.agg #[.string xn, .string xv, .string xu, .string xe, .bool xf, .int .i64 xr, .int .i64 xy, .int .i64 xw, .slice A7 xl.length c7]) (fun w' hw' => by go_simp) ?_
      refine wpM_many (fun a D D' hd h w' hC hD' => h w' hC (hd w' hD')) rfl (by kernel_rfl) (fun u w' => ∃ g, u = .slice (some ⟨g, 0, none⟩) 1 1 ∧ Blk w' g 40 #[.string xn, .string xv, .string xu, .string xe, .bool xf, .int .i64 xr, .int .i64 xy, .int .i64 xw, .slice A7 xl.length c7] ∧ w4.heap.size ≤ g) (fun u w1 w2 ⟨g, h1, h2, h3⟩ hb => ⟨g, h1, h2.next hb, h3⟩) (fun w' hw' => ⟨_, _, by go_simp, (HCd.out _).2 (((HCd.out _).1 hw').alloc ((HCd.out _).1 hw').size _), (Below.refl _ _).alloc (Nat.le_refl _) _, ⟨w'.heap.size, rfl, Blk.new _ _ _, ((HCd.out _).1 hw').size⟩⟩) ?_
      rintro u ⟨wu, g, rfl, _, _⟩
      refine wpM_nil ?_
      intro wf hC hD
      obtain ⟨⟨_, A7', c7', e1, hO7⟩, g', e2, hBg, hgl⟩ := hD
      simp only [Value.slice.injEq, Option.some.injEq, Addr.mk.injEq, and_true, true_and] at e1 e2
      obtain ⟨rfl, rfl⟩ := e1
      subst e2
      have hS5 := HS4.out.next ((HCd.out _).1 hC)
      have hT5 := HTS.out A7 c7
      have hbase := hS5.bel.size
      have HS5 := hid hS5
      have HO5 := hid (show OwnSt w.heap.size wf (twn (⟨xn, xv, xu, xe, xf, xr, xy, xw, xA, xc, xl⟩ : Stp) A7 c7) from own_base hO7 HS4.out.bel.size)
      have hOS := hS5.os
      rw [HLk.out] at hOS
      have hOo := hS5.o
      rw [HLk.out] at hOo
      have HT5 := hid hT5
      have HOo := hid hOo
      have HBg := hid hBg
      have HN5 := hid (show (∀ A2 c2, enSt (twn (⟨xn, xv, xu, xe, xf, xr, xy, xw, xA, xc, xl⟩ : Stp) A2 c2) = [.string xn, .string xv, .string xu, .string xe, .bool xf, .int .i64 xr, .int .i64 xy, .int .i64 xw, .slice A2 xl.length c2]) from fun _ _ => rfl)
      clear hS5 hT5 hO7 hBg hgl hOo HCd HC0 HVB HW4 HTS HOS4
      have hOS' := hid hOS
      clear hOS
      go_wp2_with (first
        | (refine wpList_append_lies _ rfl _ _ _ rfl w.heap.size 40 i2 _ 9 120 Try.underlying45 hj hy0 hy1 hy2 rfl (by decide) (.slice SA k sc) k (Ls.flatMap enSt) rfl hOS'.out ⟨g, 0, none⟩ 1 1 [.string xn, .string xv, .string xu, .string xe, .bool xf, .int .i64 xr, .int .i64 xy, .int .i64 xw, .slice A7 xl.length c7] rfl rfl (blk_news HBg.out) (by rw [← HN5.out]; exact enSt_one _) (by omega) (by unfold maxLen; omega) (by omega) hbase _ rfl ?_; intro g9 c9 w9 hO9 hg9 hat9 hl9; have hB9 := HOo.out.grown hg9 (fun e => own_notBlk hOS'.out HOo.out (by decide) e.symm); have o1 := hB9.cell 1; have o2 := hB9.free 1; have o3 := hB9.lt))
      have hfin := HS5.out.grew (g := g9) (cap := c9) (w' := w9) (by rw [HLk.out]; exact hg9) (twn (⟨xn, xv, xu, xe, xf, xr, xy, xw, xA, xc, xl⟩ : Stp) A7 c7) (by rw [HLk.out, HN5.out]; exact hO9) HO5.out
      rw [HLk.out] at hfin
      go_roundw
      case rel => exact ⟨k + 1, _, _, _, by omega, by go_num, hid hfin, HT5⟩
      case measure => simp [nOf]; omega
    · have hk' : k = l.length := by omega
      subst hk'
      have HT' := hid (show Twins l Ls from by have := HT.out; rwa [List.take_length] at this)
      have o0 : wr.cell? ⟨O, 0, none⟩ = some (.string nm) := HS.out.o.cell 0
      have o1 : wr.cell? ⟨O, 1, none⟩ = some (.slice SA Ls.length sc) := HS.out.o.cell 1
      have lO := HS.out.o.lt
      have hT5 := Touch.setRow wr R #[.string nm, .slice SA Ls.length sc]
      have hC5 := HS.out.r.setRow #[.string nm, .slice SA Ls.length sc]
      have hb5 := HS.out.bel.trans (hT5.below HS.out.bel.size (fun k hk => by rw [hk]; exact HS.out.lo.1))
      have hO5 := own_touch HS.out.os hT5 (fun g hg e => own_notBlk HS.out.os HS.out.r (by decide) (by rw [hg, e]))
      have hst5 : ∀ s ∈ Ls, OwnSt w.heap.size (wr.setRow R #[.string nm, .slice SA Ls.length sc]) s := fun s hs => own_touch (HS.out.st s hs) hT5 (fun g hg e => own_notBlk (HS.out.st s hs) HS.out.r (by decide) (by rw [hg, e]))
      obtain ⟨w5, hw5⟩ : ∃ w5, w5 = wr.setRow R #[.string nm, .slice SA Ls.length sc] := ⟨_, rfl⟩
      rw [← hw5] at hC5 hb5 hO5 hst5
      have HW5 := hid hw5
      have HB := hid HS.out.r
      have r0 : w5.cell? ⟨R, 0, none⟩ = some (.string nm) := hC5.cell 0
      have r1 : w5.cell? ⟨R, 1, none⟩ = some (.slice SA Ls.length sc) := hC5.cell 1
      have lR5 := hC5.lt
      have HF := hid (And.intro hO5 (And.intro hst5 hb5))
      clear hw5 hC5 hb5 hO5 hst5 hT5 HS HT hlt hk
      go_wp2_with (first
        | (refine wpList_store_row rfl 47 _ _ rfl R #[.string ⟨#[]⟩, .slice none 0 0] rfl rfl 47 _ HB.out (by kernel_rfl) (by rfl) (by simp [Value.oneCell']) ?_; rw [← HW5.out])
        | (refine wpList_store_row rfl 47 _ _ rfl R #[.string nm, .slice SA Ls.length sc] rfl rfl 47 _ HB.out (by kernel_rfl) (by rfl) (by simp [Value.oneCell']) ?_; rw [← HW5.out]))
      refine bodyPost_ret (v := .agg #[.string nm, .slice SA Ls.length sc]) (by simp [results, Try.results20, go_sem, r0, r1]) rfl ?_
      exact ⟨SA, sc, Ls, rfl, HT'.out, HF.out.1, HF.out.2.1, HF.out.2.2⟩

/-- step: a step, copied for the document. -/
def RstR (s : Stp) (w : World) (e : Ending) (w' : World) : Prop := ∃ A cap, e = .returned (.agg (enSt (twn s A cap)).toArray) ∧ Rd w' A (s.after.flatMap enB) ∧ Below w.heap.size w w'
set_option maxRecDepth 100000 in
set_option maxHeartbeats 8000000 in
theorem rstep_any (s : Stp) (w : World) (hok : OkSt w s) : Calls Try.prog 16 #[.agg (enSt s).toArray] w (RstR s w) := by
  obtain ⟨xn, xv, xu, xe, xf, xr, xy, xw, xA, xc, xl⟩ := s
  have b0 : Below w.heap.size w (w.alloc (.cells #[.string xn, .string xv, .string xu, .string xe, .bool xf, .int .i64 xr, .int .i64 xy, .int .i64 xw, .slice xA xl.length xc] 34)) := (Below.refl _ _).alloc (Nat.le_refl _) _
  obtain ⟨w1, e1⟩ : ∃ w1, w1 = w.alloc (.cells #[.string xn, .string xv, .string xu, .string xe, .bool xf, .int .i64 xr, .int .i64 xy, .int .i64 xw, .slice xA xl.length xc] 34) := ⟨_, rfl⟩
  rw [← e1] at b0
  have hR0 := Blk.new w1 40 #[.string ⟨#[]⟩, .string ⟨#[]⟩, .string ⟨#[]⟩, .string ⟨#[]⟩, .bool false, .int .i64 0, .int .i64 0, .int .i64 0, .slice none 0 0]
  have b1 : Below w1.heap.size w1 (w1.alloc (.cells #[.string ⟨#[]⟩, .string ⟨#[]⟩, .string ⟨#[]⟩, .string ⟨#[]⟩, .bool false, .int .i64 0, .int .i64 0, .int .i64 0, .slice none 0 0] 40)) := (Below.refl _ _).alloc (Nat.le_refl _) _
  obtain ⟨w2, e2⟩ : ∃ w2, w2 = w1.alloc (.cells #[.string ⟨#[]⟩, .string ⟨#[]⟩, .string ⟨#[]⟩, .string ⟨#[]⟩, .bool false, .int .i64 0, .int .i64 0, .int .i64 0, .slice none 0 0] 40) := ⟨_, rfl⟩
  rw [← e2] at hR0 b1
  have hS0 := Blk.new w2 34 #[.string xn, .string xv, .string xu, .string xe, .bool xf, .int .i64 xr, .int .i64 xy, .int .i64 xw, .slice xA xl.length xc]
  have b2 : Below w2.heap.size w2 (w2.alloc (.cells #[.string xn, .string xv, .string xu, .string xe, .bool xf, .int .i64 xr, .int .i64 xy, .int .i64 xw, .slice xA xl.length xc] 34)) := (Below.refl _ _).alloc (Nat.le_refl _) _
  obtain ⟨w3, e3⟩ : ∃ w3, w3 = w2.alloc (.cells #[.string xn, .string xv, .string xu, .string xe, .bool xf, .int .i64 xr, .int .i64 xy, .int .i64 xw, .slice xA xl.length xc] 34) := ⟨_, rfl⟩
  rw [← e3] at hS0 b2
  have hs1 : w1.heap.size = w.heap.size + 1 := by rw [e1, World.size_alloc]
  have hs2 : w2.heap.size = w.heap.size + 1 + 1 := by rw [e2, World.size_alloc, hs1]
  rw [hs1] at hR0
  rw [hs2] at hS0
  have hb3 := bthen (bthen b0 b1) b2
  have KR := hid (ref_any ⟨#[]⟩ [(⟨xn, xv, xu, xe, xf, xr, xy, xw, xA, xc, xl⟩ : Stp)] (some ⟨w.heap.size + 1 + 1, 0, none⟩) 1 w3 (by
    have := hS0.rd12 (xs := enSt (⟨xn, xv, xu, xe, xf, xr, xy, xw, xA, xc, xl⟩ : Stp)) rfl
    simpa using this) (fun s hs => by simp at hs; subst hs; exact hok.next hb3) (by simp))
  have HS := hid (And.intro (hR0.next b2) hb3)
  have HE := hid (And.intro e1 (And.intro e2 e3))
  clear hok hR0 hS0 b0 b1 b2 e1 e2 e3 hs1 hs2 hb3
  rw [show (enSt ⟨xn, xv, xu, xe, xf, xr, xy, xw, xA, xc, xl⟩).toArray = #[.string xn, .string xv, .string xu, .string xe, .bool xf, .int .i64 xr, .int .i64 xy, .int .i64 xw, .slice xA xl.length xc] from rfl]
  go_enter Try.func16, Try.ntmps16
  go_wp2_with fail
  rw [← HE.out.1, ← HE.out.2.1, ← HE.out.2.2]
  obtain ⟨R, hR⟩ : ∃ R, R = w.heap.size + 1 := ⟨_, rfl⟩
  rw [← hR] at KR HS
  rw [← hR]
  have HRW := hid hR
  clear HE hR
  refine KR.out.mono ?_
  rintro e w4 ⟨SA, sc, Ls, rfl, hT, hO, hst, hb4⟩
  have hlen := hT.len
  simp only [List.length_singleton] at hlen
  obtain ⟨A5, c5, h5⟩ := hT.at_ 0 _ rfl
  obtain ⟨b, o, hAA, _, hcc⟩ := (own_rd hO).at_ 9 enSt_len (by omega) h5
  subst hAA
  rw [hlen]
  have q0 : w4.cell? ⟨b, o, none⟩ = some (.string xn) := by have := hcc 0 _ rfl; simpa [twn] using this
  have q1 : w4.cell? ⟨b, o + 1, none⟩ = some (.string xv) := by have := hcc 1 _ rfl; simpa [twn] using this
  have q2 : w4.cell? ⟨b, o + 2, none⟩ = some (.string xu) := by have := hcc 2 _ rfl; simpa [twn] using this
  have q3 : w4.cell? ⟨b, o + 3, none⟩ = some (.string xe) := by have := hcc 3 _ rfl; simpa [twn] using this
  have q4 : w4.cell? ⟨b, o + 4, none⟩ = some (.bool xf) := by have := hcc 4 _ rfl; simpa [twn] using this
  have q5 : w4.cell? ⟨b, o + 5, none⟩ = some (.int .i64 xr) := by have := hcc 5 _ rfl; simpa [twn] using this
  have q6 : w4.cell? ⟨b, o + 6, none⟩ = some (.int .i64 xy) := by have := hcc 6 _ rfl; simpa [twn] using this
  have q7 : w4.cell? ⟨b, o + 7, none⟩ = some (.int .i64 xw) := by have := hcc 7 _ rfl; simpa [twn] using this
  have q8 : w4.cell? ⟨b, o + 8, none⟩ = some (.slice A5 xl.length c5) := by have := hcc 8 _ rfl; simpa [twn] using this
  have hfd : ∀ w : World, (Instr.field 47 (.agg #[.string ⟨#[]⟩, .slice (some ⟨b, o, none⟩) 1 sc]) 1).run Try.prog w = .ok (.slice (some ⟨b, o, none⟩) 1 sc) w := fun _ => by kernel_rfl
  have hB4 := HS.out.1.next hb4
  have hT5 := Touch.setRow w4 R #[.string xn, .string xv, .string xu, .string xe, .bool xf, .int .i64 xr, .int .i64 xy, .int .i64 xw, .slice A5 xl.length c5]
  have hC5 := hB4.setRow #[.string xn, .string xv, .string xu, .string xe, .bool xf, .int .i64 xr, .int .i64 xy, .int .i64 xw, .slice A5 xl.length c5]
  have hb04 := bthen HS.out.2 hb4
  have hb5 := hb04.trans (hT5.below hb04.size (fun k hk => by rw [hk, HRW.out]; omega))
  have hrow := own_rd (own_touch (hst _ (List.mem_of_getElem? h5)) hT5 (fun g hg e => own_notBlk (hst _ (List.mem_of_getElem? h5)) hB4 (by decide) (by rw [hg, e])))
  obtain ⟨w5, hw5⟩ : ∃ w5, w5 = w4.setRow R #[.string xn, .string xv, .string xu, .string xe, .bool xf, .int .i64 xr, .int .i64 xy, .int .i64 xw, .slice A5 xl.length c5] := ⟨_, rfl⟩
  rw [← hw5] at hC5 hb5 hrow
  have HW5 := hid hw5
  have HB := hid hB4
  have HF := hid (And.intro hrow hb5)
  have r0 : w5.cell? ⟨R, 0, none⟩ = some (.string xn) := hC5.cell 0
  have r1 : w5.cell? ⟨R, 1, none⟩ = some (.string xv) := hC5.cell 1
  have r2 : w5.cell? ⟨R, 2, none⟩ = some (.string xu) := hC5.cell 2
  have r3 : w5.cell? ⟨R, 3, none⟩ = some (.string xe) := hC5.cell 3
  have r4 : w5.cell? ⟨R, 4, none⟩ = some (.bool xf) := hC5.cell 4
  have r5 : w5.cell? ⟨R, 5, none⟩ = some (.int .i64 xr) := hC5.cell 5
  have r6 : w5.cell? ⟨R, 6, none⟩ = some (.int .i64 xy) := hC5.cell 6
  have r7 : w5.cell? ⟨R, 7, none⟩ = some (.int .i64 xw) := hC5.cell 7
  have r8 : w5.cell? ⟨R, 8, none⟩ = some (.slice A5 xl.length c5) := hC5.cell 8
  have lR5 := hC5.lt
  clear hw5 hC5 hb5 hrow hT5 hB4 hb04 hcc h5 hT hO hst hb4 hlen KR HS
  go_wp2_with (first
    | (refine wpList_store_row rfl 40 _ _ rfl R #[.string xn, .string xv, .string xu, .string xe, .bool xf, .int .i64 xr, .int .i64 xy, .int .i64 xw, .slice A5 xl.length c5] rfl rfl 40 _ HB.out (by kernel_rfl) (by rfl) (by simp [Value.oneCell']) ?_; rw [← HW5.out]))
  refine bodyPost_ret (v := .agg #[.string xn, .string xv, .string xu, .string xe, .bool xf, .int .i64 xr, .int .i64 xy, .int .i64 xw, .slice A5 xl.length c5]) (by simp [results, Try.results16, go_sem, r0, r1, r2, r3, r4, r5, r6, r7, r8]) rfl ?_
  exact ⟨A5, c5, rfl, HF.out.1, HF.out.2⟩

end Go.Proofs.Ytemhoaapapeilaa
