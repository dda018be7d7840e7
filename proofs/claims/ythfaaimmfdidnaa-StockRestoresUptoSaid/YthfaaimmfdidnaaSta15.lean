/-
  Layer 15: the laws' word 'lines'.
  Layer 15: the laws' word 'state'.
-/
import Derived.Test.YthfaaimmfdidnaaRf15
import Derived.Test.YthfaaimmfdidnaaRo15
import Derived.Test.YthfaaimmfdidnaaSl15
import Derived.Test.YthfaaimmfdidnaaAggSame
import Derived.Test.YthfaaimmfdidnaaOnw15
namespace Go.Proofs.Ythfaaimmfdidnaa
open Go.RowKit Go.WideShapes Go.ChangeShapes Go.ChangeAt Go.Deep
set_option linter.unusedVariables false

/-- A row of the document's lines, of the call's own. -/
def LinesPost (ls : List Ln) (w : World) (e : Ending) (w' : World) : Prop :=
  ∃ (A : Option Addr) (cap : Nat), e = .returned (.slice A ls.length cap) ∧ w'.ownsRow w.heap.size 96 2 (.slice A ls.length cap) ls.length (ls.flatMap enL) ∧ Below w.heap.size w w'

set_option maxRecDepth 100000 in
set_option maxHeartbeats 4000000 in
theorem lines_any (ls : List Ln) (A : Option Addr) (cap : Nat) (w : World) (hR : Rd w A (ls.flatMap enL)) (hl : ls.length * 16 ≤ 140737488351232) :
    Calls Try.prog 23 #[.slice A ls.length cap] w (LinesPost ls w) := by
  obtain ⟨i0, hi, hz0, hz1, hz2⟩ := info_parts info_rl
  go_enter Try.func23, Try.ntmps23
  go_wp2_with fail
  go_loopw [8, 3] (fun i v wr => ∃ k : Nat, k ≤ ls.length ∧ i = .int .i64 k ∧ wr.ownsRow w.heap.size 96 2 v k ((ls.take k).flatMap enL) ∧ Below w.heap.size w wr) (fun i _ _ => ls.length - nOf i)
  case atStart => exact ⟨0, Nat.zero_le _, rfl, World.ownsRow_nil _ _ _ _, Below.refl _ _⟩
  case round =>
    obtain ⟨k, hk, rfl, hO, hb⟩ := hrel
    have hwz : w.heap.size ≤ wr.heap.size := hb.size
    by_cases hlt : k < ls.length
    · obtain ⟨x, hx⟩ : ∃ x, ls[k]? = some x := ⟨ls[k], List.getElem?_eq_getElem hlt⟩
      obtain ⟨b, off, hAA, hbs, hcc⟩ := (hR.below hb).at_ 2 enL_len (by omega) hx
      have HT := hid (show ls.take (k + 1) = ls.take k ++ [x] from by rw [List.take_add_one, hx]; rfl)
      obtain ⟨xi, xq⟩ := x
      have q0 : wr.cell? ⟨b, off + k * 2, none⟩ = some (.int .i64 xi) := hcc 0 _ rfl
      have q1 : wr.cell? ⟨b, off + k * 2 + 1, none⟩ = some (.int .i64 xq) := hcc 1 _ rfl
      have hO3 := hO.alloc (.cells #[.int .i64 xi, .int .i64 xq] 33)
      have HO := hid hO3
      have hYB := Blk.new wr 33 #[.int .i64 xi, .int .i64 xq]
      have r0 : (wr.alloc (.cells #[.int .i64 xi, .int .i64 xq] 33)).cell? ⟨wr.heap.size, 0, none⟩ = some (.int .i64 xi) := hYB.cell 0
      have r1 : (wr.alloc (.cells #[.int .i64 xi, .int .i64 xq] 33)).cell? ⟨wr.heap.size, 1, none⟩ = some (.int .i64 xq) := hYB.cell 1
      have hb3 := hid ((hb.alloc hb.size (.cells #[.int .i64 xi, .int .i64 xq] 33)).alloc (by simp; omega) (.cells #[.int .i64 xi, .int .i64 xq] 96))
      subst hAA
      clear hcc hx hbs hO hb hO3 hYB
      go_wp2_with (first
        | (at_builtin; refine wpList_push _ rfl _ _ 64 rfl w.heap.size 96 i0 _ 2 16 Try.underlying64 hi hz0 hz1 hz2 rfl (by decide) _ _ _ (by rfl) HO.out #[.int .i64 xi, .int .i64 xq] (wr.heap.size + 1) (by simp) (by rfl) (by rfl) (by rfl) (by unfold maxLen; omega) (by omega) (by simp; omega) ?_; intro v' w3 hO4 hg4))
      have hb4 := hb3.out.grown hg4 (by simp; omega) (fun k hk => (HO.out.lt k hk).1)
      have hO5 : w3.ownsRow w.heap.size 96 2 v' (k + 1) ((ls.take (k + 1)).flatMap enL) := by
        rw [HT.out, List.flatMap_append]
        simpa [enL] using hO4
      clear hO4 hg4 HO hb3 r0 r1
      go_roundw
      case rel => exact ⟨k + 1, by omega, by go_num, hO5, hb4⟩
      case measure => simp [nOf]; omega
    · have hk' : k = ls.length := by omega
      subst hk'
      rw [List.take_length] at hO
      obtain ⟨A', cap', rfl, _⟩ := own_slice hO
      have HH := hid (And.intro hO hb)
      clear hO hb hk hlt
      go_wp2_with fail
      go_ret
      exact ⟨A', cap', rfl, HH.out.1, HH.out.2⟩

end Go.Proofs.Ythfaaimmfdidnaa

namespace Go.Proofs.Ythfaaimmfdidnaa
open Go.RowKit Go.WideShapes Go.ChangeShapes Go.ChangeAt Go.Deep
set_option linter.unusedVariables false

theorem same_ln (x : Ln) (w : World) : (Op.equalIn 10000 33 (.agg #[.int .i64 x.i, .int .i64 x.q]) (.agg #[.int .i64 x.i, .int .i64 x.q])).run Try.prog w = .ok true w := by
  refine agg_same (L := [(3, 0), (3, 1)]) (by kernel_rfl) (by kernel_rfl) (by kernel_rfl) ?_ w
  intro q hq
  simp only [List.mem_cons, List.not_mem_nil, or_false] at hq
  rcases hq with rfl | rfl
  · exact sameAt_int Try.underlying3 isAgg_int rfl
  · exact sameAt_int Try.underlying3 isAgg_int rfl
theorem guard_ln : Try.prog.eqGuardType Try.prog.depth 33 = false := by kernel_rfl
theorem same_rln (x : Ln) (w : World) : (Op.equalIn 10000 96 (.agg #[.int .i64 x.i, .int .i64 x.q]) (.agg #[.int .i64 x.i, .int .i64 x.q])).run Try.prog w = .ok true w := by
  refine agg_same (L := [(3, 0), (3, 1)]) (by kernel_rfl) (by kernel_rfl) (by kernel_rfl) ?_ w
  intro q hq
  simp only [List.mem_cons, List.not_mem_nil, or_false] at hq
  rcases hq with rfl | rfl
  · exact sameAt_int Try.underlying3 isAgg_int rfl
  · exact sameAt_int Try.underlying3 isAgg_int rfl
theorem guard_rln : Try.prog.eqGuardType Try.prog.depth 96 = false := by kernel_rfl
theorem same_lev (a b c d e f : Int) (w : World) : (Op.equalIn 10000 63 (.agg #[.int .i64 a, .int .i64 b, .int .i64 c, .int .i64 d, .int .i64 e, .int .i64 f]) (.agg #[.int .i64 a, .int .i64 b, .int .i64 c, .int .i64 d, .int .i64 e, .int .i64 f])).run Try.prog w = .ok true w := by
  refine agg_same (L := [(3, 0), (3, 1), (3, 2), (3, 3), (3, 4), (3, 5)]) (by kernel_rfl) (by kernel_rfl) (by kernel_rfl) ?_ w
  intro q hq
  simp only [List.mem_cons, List.not_mem_nil, or_false] at hq
  rcases hq with rfl | rfl | rfl | rfl | rfl | rfl
  all_goals exact sameAt_int Try.underlying3 isAgg_int rfl
theorem guard_lev : Try.prog.eqGuardType Try.prog.depth 63 = false := by kernel_rfl

section
variable {n0 base R c1 c2 X BL BG : Nat} {A1 A2 : Option Addr} {is : List (Int × Int)} {rs : List Gd} {lv : List (Int × Lv)} {gs : List (Int × Gd)} {w w' : World}
/-- What the book tells, place by place, is what the document has. -/
theorem lev_at (hM : RelS lv gs is rs) (hG : GoodB lv gs) {ids : List Int} (hp : ids.Perm (lv.map (·.1))) (hr : ids.Pairwise (fun a b => a < b)) {k : Nat} {id : Int} (hk : ids[k]? = some id) :
    ∃ a, mget lv id = some a ∧ is[k]? = some (id, a.r) ∧ lvAt lv id = a ∧ a.i = id := by
  have h1 : is.map Prod.fst = ids := by
    refine SortedK.perm_eq (key := fun x : Int => x) linI ?_ (hr.imp (fun h => by simpa [ltI] using h)) (hM.its.keysPerm.trans hp.symm)
    have := hM.sortI
    unfold SortedK at this ⊢
    rw [List.pairwise_map]
    exact this
  have h2 : (is.map Prod.fst)[k]? = some id := by rw [h1]; exact hk
  rw [List.getElem?_map] at h2
  cases hi : is[k]? with
  | none => rw [hi] at h2; cases h2
  | some y =>
    rw [hi] at h2
    injection h2 with h2
    subst h2
    obtain ⟨a, ha, hy⟩ := hM.its.mem (List.mem_of_getElem? hi)
    refine ⟨a, ha, ?_, by unfold lvAt; rw [ha]; rfl, (hG.lk _ a ha).1⟩
    rw [hy]
    rfl
theorem all_at (hM : RelS lv gs is rs) (hG : GoodB lv gs) {l : List Gd} (hp : (l.map bareG).Perm (gs.map (fun p => bareG p.2))) (hs : l.Pairwise (fun a b => ltG b a = false)) : l.map bareG = rs.map bareG := by
  refine hM.gds.unique' linI ?_ ?_
  · refine hp.trans (List.Perm.of_eq (List.map_congr_left fun q hq => (toBareG_bare (hG.gm q hq).1).symm))
  · rw [List.pairwise_map]
    refine hs.imp ?_
    intro a b h
    exact decide_eq_false (ltG_no h)
theorem goods_at {l : List Gd} (h : l.map bareG = rs.map bareG) {k : Nat} {d : Gd} (hk : l[k]? = some d) : ∃ d', rs[k]? = some d' ∧ d'.o = d.o ∧ d'.st = d.st ∧ d'.ls = d.ls := by
  have h1 := congrArg (fun x => x[k]?) h
  simp only [List.getElem?_map, hk, Option.map_some] at h1
  cases hi : rs[k]? with
  | none => rw [hi] at h1; cases h1
  | some d' =>
    rw [hi] at h1
    injection h1 with h1
    exact ⟨d', rfl, (by have := congrArg Gd.o h1; exact this.symm), (by have := congrArg Gd.st h1; exact this.symm), (by have := congrArg Gd.ls h1; exact this.symm)⟩

set_option maxRecDepth 100000 in
set_option maxHeartbeats 16000000 in
theorem state_any (h : IsBook n0 w X BL BG lv gs) (hG : GoodB lv gs) (hF : IsRef base w R A1 c1 is A2 c2 rs) (hM : RelS lv gs is rs) (hl : gs.length ≤ 3000000000000) :
    Calls Try.prog 20 #[.pointer (some ⟨X, 0, none⟩), .pointer (some ⟨R, 0, none⟩)] w fun e w' => e = .returned (.bool true) ∧ Below w.heap.size w w' := by
  have hfew := hG.few
  have HL1 := hid hM.lenI
  have HL2 := hid hM.lenG
  have hli : is.length ≤ 64 := by rw [hM.lenI]; exact hfew
  have hlr : rs.length ≤ 3000000000000 := by rw [hM.lenG]; exact hl
  have P := hid (levels_any h hfew)
  have HB := hid (fun w1 (hb : Below w.heap.size w w1) => all_any (h.next hb) hG.four (by omega))
  unfold LevPost at P
  unfold AllPost at HB
  have HM := hid (And.intro hM hG)
  have H0 := hid (And.intro h hF)
  clear h hF hM hG
  go_enter Try.func20, Try.ntmps20
  go_wp2_with fail
  refine P.out.mono ?_
  rintro e w1 ⟨A3, c3, ids, rfl, hpi, hri, hO1, hb1⟩
  go_wp2_with fail
  refine (HB.out _ hb1).mono ?_
  rintro e w2 ⟨A4, c4, l, rfl, hpg, hso, hO2, hL2, hb2⟩
  have hil : ids.length = is.length := by have := hpi.length_eq; have := HL1.out; simp at *; omega
  have hgl : l.length = rs.length := by have := hpg.length_eq; have := HL2.out; simp at *; omega
  have HAT := hid (fun k id (hk : ids[k]? = some id) => lev_at HM.out.1 HM.out.2 hpi hri hk)
  have HGA := hid (all_at HM.out.1 HM.out.2 hpg hso)
  have HPG := hid hpg
  clear P HB hpi hri hpg hso
  have hb := bthen hb1 hb2
  have h := H0.out.1.next hb
  have hF := H0.out.2.next hb
  have hR1 := (own_rd hO1).below hb2
  have hR2 := own_rd hO2
  have HL := hid hL2
  clear H0 hO1 hO2 hb1 hb2 hL2
  have c0 : w2.cell? ⟨R, 0, none⟩ = some (.slice A1 is.length c1) := hF.cell0
  have c1' : w2.cell? ⟨R, 1, none⟩ = some (.slice A2 rs.length c2) := hF.cell1
  have s1 : ((ids.length : Int) != (is.length : Int)) = false := by rw [hil]; simp
  have s2 : ((l.length : Int) != (rs.length : Int)) = false := by rw [hgl]; simp
  have hll : l.length ≤ 3000000000000 := by omega
  have hli2 : ids.length ≤ 64 := by omega
  clear hil hgl
  go_wp2_with fail
  clear c0 c1' s1 s2
  have H2 := hid (And.intro h (And.intro hF (And.intro hR1 (And.intro hR2 hb))))
  clear h hF hR1 hR2 hb
  go_loopw [40] (fun i wr => ∃ k : Nat, k ≤ ids.length ∧ i = .int .i64 k ∧ Below w2.heap.size w2 wr) (fun i _ => ids.length - nOf i)
  case atStart => exact ⟨0, Nat.zero_le _, rfl, Below.refl _ _⟩
  case round =>
    obtain ⟨k, hk, rfl, hb⟩ := hrel
    by_cases hlt : k < ids.length
    · obtain ⟨id, hid'⟩ : ∃ id, ids[k]? = some id := ⟨ids[k], List.getElem?_eq_getElem hlt⟩
      obtain ⟨a, ha, hy, hla, hai⟩ := HAT.out k id hid'
      obtain ⟨_, hF, hR1, _, _⟩ := H2.out
      obtain ⟨b, off, rfl, _, hcc⟩ := (hR1.below hb).at_ (l := ids.map (lvAt lv)) (k := k) (x := a) 6 enV6_len (by omega) (by rw [List.getElem?_map, hid', ← hla]; rfl)
      have hsm := HM.out.2.sm id a ha
      have hlk := HM.out.2.lk id a ha
      have hLE := fun w' (hb' : Below w2.heap.size w2 w') => rlevelOf_any (hF.next hb') k id a.r hy hlk.2.2 (fun d hd => ⟨(HM.out.1.rsOk HM.out.2 d hd).1.1.2.2, (HM.out.1.rsOk HM.out.2 d hd).1.2, (HM.out.1.rsOk HM.out.2 d hd).2⟩) (by omega) (by omega)
      rw [HM.out.1.sums HM.out.2, HM.out.1.sums HM.out.2, HM.out.1.sums HM.out.2] at hLE
      unfold lvC at hLE
      rw [← hsm.2.2.2.1, ← hsm.1, ← hsm.2.1, ← hsm.2.2.1] at hLE
      obtain ⟨ag, ai, ar, ah, aa, a5, at'⟩ := a
      simp only at hai hLE
      subst hai
      have q0 : wr.cell? ⟨b, off + k * 6, none⟩ = some (.int .i64 ai) := hcc 0 _ rfl
      have q1 : wr.cell? ⟨b, off + k * 6 + 1, none⟩ = some (.int .i64 ar) := hcc 1 _ rfl
      have q2 : wr.cell? ⟨b, off + k * 6 + 2, none⟩ = some (.int .i64 ah) := hcc 2 _ rfl
      have q3 : wr.cell? ⟨b, off + k * 6 + 3, none⟩ = some (.int .i64 aa) := hcc 3 _ rfl
      have q4 : wr.cell? ⟨b, off + k * 6 + 4, none⟩ = some (.int .i64 a5) := hcc 4 _ rfl
      have q5 : wr.cell? ⟨b, off + k * 6 + 5, none⟩ = some (.int .i64 at') := hcc 5 _ rfl
      have hwb : Below wr.heap.size wr (wr.alloc (.cells #[.int .i64 ai, .int .i64 ar, .int .i64 ah, .int .i64 aa, .int .i64 a5, .int .i64 at'] 38)) := (Below.refl _ _).alloc (Nat.le_refl _) _
      have hYB := Blk.new wr 38 #[.int .i64 ai, .int .i64 ar, .int .i64 ah, .int .i64 aa, .int .i64 a5, .int .i64 at']
      have hbz := bthen hb hwb
      obtain ⟨wz, hwz⟩ : ∃ wz, wz = wr.alloc (.cells #[.int .i64 ai, .int .i64 ar, .int .i64 ah, .int .i64 aa, .int .i64 a5, .int .i64 at'] 38) := ⟨_, rfl⟩
      obtain ⟨G, hG⟩ : ∃ G, G = wr.heap.size := ⟨_, rfl⟩
      have HW := hid hwz
      have HG := hid hG
      rw [← hwz] at hbz hYB
      rw [← hG] at hYB
      obtain ⟨C, hCd⟩ : ∃ C : World → Prop, ∀ w', C w' ↔ Below w2.heap.size w2 w' ∧ Below wz.heap.size wz w' := ⟨_, fun _ => Iff.rfl⟩
      have hC : C wz.drew := (hCd _).2 ⟨hbz.drew, (Below.refl _ _).drew⟩
      have p0 : ∀ p : In C, p.w.cell? ⟨G, 0, none⟩ = some (.int .i64 ai) := fun p => (hYB.next ((hCd _).1 p.h).2).cell 0
      have p1 : ∀ p : In C, p.w.cell? ⟨G, 1, none⟩ = some (.int .i64 ar) := fun p => (hYB.next ((hCd _).1 p.h).2).cell 1
      have p2 : ∀ p : In C, p.w.cell? ⟨G, 2, none⟩ = some (.int .i64 ah) := fun p => (hYB.next ((hCd _).1 p.h).2).cell 2
      have p3 : ∀ p : In C, p.w.cell? ⟨G, 3, none⟩ = some (.int .i64 aa) := fun p => (hYB.next ((hCd _).1 p.h).2).cell 3
      have p4 : ∀ p : In C, p.w.cell? ⟨G, 4, none⟩ = some (.int .i64 a5) := fun p => (hYB.next ((hCd _).1 p.h).2).cell 4
      have p5 : ∀ p : In C, p.w.cell? ⟨G, 5, none⟩ = some (.int .i64 at') := fun p => (hYB.next ((hCd _).1 p.h).2).cell 5
      have O : Hid (∀ p : In C, Calls Try.prog 45 #[.pointer (some ⟨R, 0, none⟩), .int .i64 k] p.w fun e w' => e = .returned (.agg #[.int .i64 ai, .int .i64 ar, .int .i64 ah, .int .i64 aa, .int .i64 a5, .int .i64 at']) ∧ C w') :=
        hid (fun p => (hLE _ ((hCd _).1 p.h).1).mono fun _ _ ⟨e1, e2⟩ => ⟨e1, (hCd _).2 ⟨bthen ((hCd _).1 p.h).1 e2, bthen ((hCd _).1 p.h).2 e2⟩⟩)
      have hse := same_lev ai ar ah aa a5 at'
      have hgd := guard_lev
      have HCd := hid hCd
      clear hCd hLE hwb hYB hbz hwz hG hsm hlk hF hR1 ha hy hla hcc hb hid'
      go_wp2_with fail
      rw [← HW.out, ← HG.out]
      refine wp_region_in C (by kernel_rfl) (by kernel_rfl) hC ?_
      intro hne
      clear hC
      repeat (first | go_big_quiet_step ((go_at_call 45; exact Calls.in_of (O.out _))) | quiet_step ((go_at_call 45; exact Calls.in_of (O.out _))))
      refine wpQuiet_nil ?_
      intro wq hq
      have hb := ((HCd.out _).1 hq).1
      clear p0 p1 p2 p3 p4 p5 q0 q1 q2 q3 q4 q5 O hne hq HCd hse hgd HW HG
      go_wp2_with fail
      go_roundw
      case rel => exact ⟨k + 1, by omega, by go_num, hb⟩
      case measure => simp [nOf]; omega
    · have hk' : k = ids.length := by omega
      subst hk'
      clear hk hlt HAT
      go_wp2_with fail
      go_loopw [65] (fun i wr => ∃ k : Nat, k ≤ l.length ∧ i = .int .i64 k ∧ Below w2.heap.size w2 wr) (fun i _ => l.length - nOf i)
      case atStart => exact ⟨0, Nat.zero_le _, rfl, hb⟩
      case round =>
        clear hb
        obtain ⟨k, hk, rfl, hb⟩ := hrel
        by_cases hlt : k < l.length
        · obtain ⟨d, hd⟩ : ∃ d, l[k]? = some d := ⟨l[k], List.getElem?_eq_getElem hlt⟩
          obtain ⟨d', hd', ho, hs, hls⟩ := goods_at HGA.out hd
          obtain ⟨dd, hdd, hdo, hds, hdl⟩ : ∃ dd, mget gs d.o = some dd ∧ dd.o = d.o ∧ dd.st = d.st ∧ dd.ls = d.ls := by
            obtain ⟨q, hq, e⟩ := List.mem_map.1 (HPG.out.mem_iff.1 (List.mem_map_of_mem (f := bareG) (List.mem_of_getElem? hd)))
            have e1 : q.2.o = d.o := by have := congrArg Gd.o e; exact this
            have e2 : q.2.st = d.st := by have := congrArg Gd.st e; exact this
            have e3 : q.2.ls = d.ls := by have := congrArg Gd.ls e; exact this
            have hm := mget_of_mem HM.out.2.ng hq
            rw [← (HM.out.2.gm q hq).1, e1] at hm
            exact ⟨q.2, hm, e1, e2, e3⟩
          have h4 := (HM.out.2.gk _ dd hdd).2.1.1.2
          rw [hdl] at h4
          obtain ⟨h, hF, _, hR2, _⟩ := H2.out
          obtain ⟨b, off, rfl, _, hcc⟩ := (hR2.below hb).at_ 3 enG3_len (by omega) hd
          have hFr := hF.next hb
          obtain ⟨g, hA2, _, hpr⟩ := hFr.elem2 hd'
          have cR := hFr.cell1
          rw [hA2] at cR
          have HLN := hid (fun w' (hb' : Below w2.heap.size w2 w') => own_rd ((HL.out d (List.mem_of_getElem? hd)).next hb').own)
          have HLR := hid (fun w' (hb' : Below w2.heap.size w2 w') => ((hF.next hb').lns d' (List.mem_of_getElem? hd')).1)
          have HGO := hid (fun w' (hb' : Below w2.heap.size w2 w') => goods_some (h.next hb') d.o hdd (by rw [hdl]; exact h4.1) (by rw [hdl]; exact h4.2))
          obtain ⟨dg, do', dst, db, dcap, dls⟩ := d
          obtain ⟨eg, eo, est, eb, ecap, els⟩ := d'
          obtain ⟨fg, fo, fst, fb, fcap, fls⟩ := dd
          simp only at ho hs hls hdo hds hdl h4 HLN HLR HGO
          subst ho hs hls hdo hds hdl
          have q0 : wr.cell? ⟨b, off + k * 3, none⟩ = some (.int .i64 fo) := hcc 0 _ rfl
          have q1 : wr.cell? ⟨b, off + k * 3 + 1, none⟩ = some (.int .i64 fst) := hcc 1 _ rfl
          have q2 : wr.cell? ⟨b, off + k * 3 + 2, none⟩ = some (.slice (some ⟨db, 0, none⟩) fls.length dcap) := hcc 2 _ rfl
          have p0 : wr.cell? ⟨g, k * 3, none⟩ = some (.int .i64 fo) := hpr.2 0 _ rfl
          have p1 : wr.cell? ⟨g, k * 3 + 1, none⟩ = some (.int .i64 fst) := hpr.2 1 _ rfl
          have p2 : wr.cell? ⟨g, k * 3 + 2, none⟩ = some (.slice (some ⟨eb, 0, none⟩) fls.length ecap) := hpr.2 2 _ rfl
          have lg : g < wr.heap.size := hpr.1
          have lR : R < wr.heap.size := hFr.blk.lt
          have hkr : k < rs.length := (List.getElem?_eq_some_iff.1 hd').1
          have HB := hid hb
          clear hcc hpr hR2 hFr h hF hdd hd' hd hb hA2
          go_upto_region 14 with fail
          clear q0 q1 q2 p0 p1 p2 cR lg lR
          have hwa : Below wr.heap.size wr (wr.alloc (.cells #[.int .i64 fo, .int .i64 fst, .slice (some ⟨db, 0, none⟩) fls.length dcap] 45)) := (Below.refl _ _).alloc (Nat.le_refl _) _
          have hwb : Below wr.heap.size wr ((wr.alloc (.cells #[.int .i64 fo, .int .i64 fst, .slice (some ⟨db, 0, none⟩) fls.length dcap] 45)).alloc (.cells #[.int .i64 fo, .int .i64 fst, .slice (some ⟨eb, 0, none⟩) fls.length ecap] 67)) := hwa.alloc (by simp) _
          have hB10 := (Blk.new wr 45 #[.int .i64 fo, .int .i64 fst, .slice (some ⟨db, 0, none⟩) fls.length dcap]).alloc (.cells #[.int .i64 fo, .int .i64 fst, .slice (some ⟨eb, 0, none⟩) fls.length ecap] 67)
          have hB11 := Blk.new (wr.alloc (.cells #[.int .i64 fo, .int .i64 fst, .slice (some ⟨db, 0, none⟩) fls.length dcap] 45)) 67 #[.int .i64 fo, .int .i64 fst, .slice (some ⟨eb, 0, none⟩) fls.length ecap]
          rw [World.size_alloc] at hB11
          have hbz := bthen HB.out hwb
          obtain ⟨wz, hwz⟩ : ∃ wz, wz = (wr.alloc (.cells #[.int .i64 fo, .int .i64 fst, .slice (some ⟨db, 0, none⟩) fls.length dcap] 45)).alloc (.cells #[.int .i64 fo, .int .i64 fst, .slice (some ⟨eb, 0, none⟩) fls.length ecap] 67) := ⟨_, rfl⟩
          obtain ⟨G, hG⟩ : ∃ G, G = wr.heap.size := ⟨_, rfl⟩
          rw [← hwz] at hB10 hB11 hbz ⊢
          rw [← hG] at hB10 hB11 ⊢
          clear hwz hG hwa hwb HB
          have a0 : wz.cell? ⟨G, 0, none⟩ = some (.int .i64 fo) := hB10.cell 0
          have HZ := hid (And.intro hB10 (And.intro hB11 hbz))
          have KG := hid (HGO.out _ hbz)
          clear hB10 hB11 hbz
          go_wp2_with fail
          refine KG.out.mono ?_
          rintro e w7 ⟨b7, cp7, rfl, hL7, hb7⟩
          have hwb : Below w7.heap.size w7 (w7.alloc (.cells #[.int .i64 fo, .int .i64 fst, .slice (some ⟨b7, 0, none⟩) fls.length cp7] 45)) := (Below.refl _ _).alloc (Nat.le_refl _) _
          obtain ⟨hB10, hB11, hbz⟩ := HZ.out
          replace hbz := bthen hbz (bthen hb7 hwb)
          replace hB10 := hB10.next (bthen hb7 hwb)
          replace hB11 := hB11.next (bthen hb7 hwb)
          have hB12 := Blk.new w7 45 #[.int .i64 fo, .int .i64 fst, .slice (some ⟨b7, 0, none⟩) fls.length cp7]
          have hL8 := own_rd (hL7.next hwb).own
          obtain ⟨w8, hw8⟩ : ∃ w8, w8 = w7.alloc (.cells #[.int .i64 fo, .int .i64 fst, .slice (some ⟨b7, 0, none⟩) fls.length cp7] 45) := ⟨_, rfl⟩
          obtain ⟨G12, hG12⟩ : ∃ G12, G12 = w7.heap.size := ⟨_, rfl⟩
          have HW8 := hid hw8
          have HG12 := hid hG12
          rw [← hw8] at hB10 hB11 hB12 hbz hL8
          rw [← hG12] at hB12
          have m0 : w8.cell? ⟨G, 0, none⟩ = some (.int .i64 fo) := hB10.cell 0
          have m1 : w8.cell? ⟨G, 1, none⟩ = some (.int .i64 fst) := hB10.cell 1
          have m2 : w8.cell? ⟨G, 2, none⟩ = some (.slice (some ⟨db, 0, none⟩) fls.length dcap) := hB10.cell 2
          have n0' : w8.cell? ⟨G + 1, 0, none⟩ = some (.int .i64 fo) := hB11.cell 0
          have n1 : w8.cell? ⟨G + 1, 1, none⟩ = some (.int .i64 fst) := hB11.cell 1
          have n2 : w8.cell? ⟨G + 1, 2, none⟩ = some (.slice (some ⟨eb, 0, none⟩) fls.length ecap) := hB11.cell 2
          have o1 : w8.cell? ⟨G12, 1, none⟩ = some (.int .i64 fst) := hB12.cell 1
          have o2 : w8.cell? ⟨G12, 2, none⟩ = some (.slice (some ⟨b7, 0, none⟩) fls.length cp7) := hB12.cell 2
          have t1 : (fo != fo) = false := by simp
          have t2 : (fst != fst) = false := by simp
          have t3 : ((fls.length : Int) != (fls.length : Int)) = false := by simp
          have KL := hid (lines_any fls (some ⟨db, 0, none⟩) dcap w8 (HLN.out _ hbz) (by omega))
          have H8 := hid (And.intro hB10 (And.intro hB11 (And.intro hB12 (And.intro hbz hL8))))
          clear hw8 hG12 hB10 hB11 hB12 hbz hL8 hL7 hb7 hwb KG HZ a0
          go_upto_region 15 with fail
          rw [← HW8.out, ← HG12.out]
          go_wp2_with fail
          refine KL.out.mono ?_
          rintro e w9 ⟨A9, c9, rfl, hO9, hb9⟩
          obtain ⟨hB10, hB11, hB12, hbz, hL8⟩ := H8.out
          have H9 := hid (And.intro (hB10.next hb9) (And.intro (hB11.next hb9) (And.intro (hB12.next hb9) (And.intro (bthen hbz hb9) (And.intro (hL8.below hb9) (own_rd hO9))))))
          clear KL H8 hB10 hB11 hB12 hbz hL8 hO9 hb9 m0 m1 m2 n0' n1 n2 o1 o2 t1 t2 t3 HW8 HG12
          go_wp2_with fail
          go_loopw [129] (fun i wr => ∃ j : Nat, j ≤ fls.length ∧ i = .int .i64 j ∧ Below w9.heap.size w9 wr) (fun i _ => fls.length - nOf i)
          case atStart => exact ⟨0, Nat.zero_le _, rfl, Below.refl _ _⟩
          case round =>
            obtain ⟨j, hj, rfl, hb⟩ := hrel
            obtain ⟨hB10, hB11, hB12, hbz, hL8, hR9⟩ := H9.out
            by_cases hjl : j < fls.length
            · obtain ⟨y, hy⟩ : ∃ y, fls[j]? = some y := ⟨fls[j], List.getElem?_eq_getElem hjl⟩
              obtain ⟨b9, off9, hA9, _, hc9⟩ := (hR9.below hb).at_ 2 enL_len (by omega) hy
              obtain ⟨yi, yq⟩ := y
              have q0 : wr.cell? ⟨b9, off9 + j * 2, none⟩ = some (.int .i64 yi) := hc9 0 _ rfl
              have q1 : wr.cell? ⟨b9, off9 + j * 2 + 1, none⟩ = some (.int .i64 yq) := hc9 1 _ rfl
              have hwb : Below wr.heap.size wr (wr.alloc (.cells #[.int .i64 yi, .int .i64 yq] 96)) := (Below.refl _ _).alloc (Nat.le_refl _) _
              have hYB := Blk.new wr 96 #[.int .i64 yi, .int .i64 yq]
              have hbw := bthen hb hwb
              obtain ⟨wz, hwz⟩ : ∃ wz, wz = wr.alloc (.cells #[.int .i64 yi, .int .i64 yq] 96) := ⟨_, rfl⟩
              obtain ⟨G15, hG15⟩ : ∃ G15, G15 = wr.heap.size := ⟨_, rfl⟩
              have HW := hid hwz
              have HG := hid hG15
              rw [← hwz] at hbw hYB
              rw [← hG15] at hYB
              have z0 : wz.cell? ⟨G15, 0, none⟩ = some (.int .i64 yi) := hYB.cell 0
              have z1 : wz.cell? ⟨G15, 1, none⟩ = some (.int .i64 yq) := hYB.cell 1
              have m2 : wz.cell? ⟨G, 2, none⟩ = some (.slice (some ⟨db, 0, none⟩) fls.length dcap) := (hB10.next hbw).cell 2
              have n2 : wz.cell? ⟨G + 1, 2, none⟩ = some (.slice (some ⟨eb, 0, none⟩) fls.length ecap) := (hB11.next hbw).cell 2
              have o2 : wz.cell? ⟨G12, 2, none⟩ = some (.slice (some ⟨b7, 0, none⟩) fls.length cp7) := (hB12.next hbw).cell 2
              obtain ⟨x1, x2, e, _, hc1⟩ := (HLR.out _ (bthen hbz hbw)).at_ 2 enL_len (by omega) hy
              simp only [Option.some.injEq, Addr.mk.injEq, and_true] at e
              obtain ⟨rfl, rfl⟩ := e
              obtain ⟨x1, x2, e, _, hc2⟩ := (HLN.out _ (bthen hbz hbw)).at_ 2 enL_len (by omega) hy
              simp only [Option.some.injEq, Addr.mk.injEq, and_true] at e
              obtain ⟨rfl, rfl⟩ := e
              obtain ⟨x1, x2, e, _, hc3⟩ := (hL8.below hbw).at_ 2 enL_len (by omega) hy
              simp only [Option.some.injEq, Addr.mk.injEq, and_true] at e
              obtain ⟨rfl, rfl⟩ := e
              have r0 : wz.cell? ⟨eb, j * 2, none⟩ = some (.int .i64 yi) := by have := hc1 0 _ rfl; simpa using this
              have r1 : wz.cell? ⟨eb, j * 2 + 1, none⟩ = some (.int .i64 yq) := by have := hc1 1 _ rfl; simpa using this
              have s0 : wz.cell? ⟨db, j * 2, none⟩ = some (.int .i64 yi) := by have := hc2 0 _ rfl; simpa using this
              have s1 : wz.cell? ⟨db, j * 2 + 1, none⟩ = some (.int .i64 yq) := by have := hc2 1 _ rfl; simpa using this
              have v0 : wz.cell? ⟨b7, j * 2, none⟩ = some (.int .i64 yi) := by have := hc3 0 _ rfl; simpa using this
              have v1 : wz.cell? ⟨b7, j * 2 + 1, none⟩ = some (.int .i64 yq) := by have := hc3 1 _ rfl; simpa using this
              have e1 := same_ln ⟨yi, yq⟩
              have e2 := guard_ln
              have e3 := same_rln ⟨yi, yq⟩
              have e4 := guard_rln
              have HBW := hid hbw
              subst hA9
              clear hc1 hc2 hc3 hc9 hy hB10 hB11 hB12 hbz hL8 hR9 hwb hYB hbw hwz hG15 hb
              go_wp2_with fail
              rw [← HW.out, ← HG.out]
              go_quiet (fail)
              have hbq := below_drewN HBW.out nq
              clear z0 z1 m2 n2 o2 r0 r1 s0 s1 v0 v1 e1 e2 e3 e4 q0 q1 HBW HW HG
              go_wp2_with fail
              go_roundw
              case rel => exact ⟨j + 1, by omega, by go_num, hbq⟩
              case measure => simp [nOf]; omega
            · have hbq := bthen hbz hb
              clear hj hB10 hB11 hB12 hbz hL8 hR9 hb
              go_wp2_with fail
              go_roundw
              case rel => exact ⟨k + 1, by omega, by go_num, hbq⟩
              case measure => simp [nOf]; omega
        · clear hk
          go_wp2_with fail
          go_ret
          exact ⟨rfl, bthen H2.out.2.2.2.2 hb⟩
end

end Go.Proofs.Ythfaaimmfdidnaa
