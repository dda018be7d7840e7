/-
  Layer 13: the laws' alike.
  A range over a map, inside a fence: for the iterators of the library (maps.Keys, maps.Values).
  The closure of a library function, laid at this program (the numbers as the kit's command told them). No condition.
  Keys, sorted: slices.Sort at ints.
  maps.Keys over a map of the book: its iterator's contracts; slices.Sorted of the keys (printed by gen_keys.py).
  (*Engine).Orders, (*Engine).Live.
  Layer 13: the laws' state, of one instance.
  (*Engine).Reply, at an instance that is there.
  Structs of scalars compared: a struct is equal to itself.
  Layer 13: the laws' wakes.
-/
import Derived.Test.YtoemmakhbiiknaaGreatQa13
import Derived.Shelf.SlIterI.Sorted
import Derived.Shelf.SlLaysZI
import Derived.Test.YtoemmakhbiiknaaGreatProg
import Derived.Shelf.SortM.Plain
import Derived.Shelf.SortM.SortNone
import Derived.Laws.StructEq
namespace Go.Proofs.YtoemmakhbiiknaaGreat
open Go.RowKit Go.WideShapes Go.ChangeShapes Go.ChangeAt Go.Deep
set_option linter.unusedVariables false

/-- The document's instance holds these. -/
structure DsI (J RP : Nat) (v : Iv) (l : Il) (w : World) : Prop where
  b : Blk w J 106 (inD RP v l)
  m : Rd w l.MA (v.ms.flatMap en1)
  t : Rd w l.TA (v.ts.flatMap en1)
theorem DsI.next {J RP : Nat} {v : Iv} {l : Il} {w w' : World} (h : DsI J RP v l w) (hb : Below w.heap.size w w') : DsI J RP v l w' := ⟨h.b.next hb, h.m.below hb, h.t.below hb⟩
set_option maxRecDepth 100000 in
set_option maxHeartbeats 32000000 in
theorem alike_any (v : Iv) (MA TA : Option Addr) (mc tc : Nat) (J RP : Nat) (l : Il) (w : World) (hd : DsI J RP v l w) (hm : Rd w MA (v.ms.flatMap en1)) (ht : Rd w TA (v.ts.flatMap en1)) (hn : v.ms.length ≤ 1000) (htl : v.ts.length = v.ms.length) :
    Calls Tryz.prog 59 #[.agg (svC v.ord v.st v.paid v.ms MA mc v.ts TA tc), .pointer (some ⟨J, 0, none⟩)] w fun e w' => e = .returned (.bool true) ∧ Below w.heap.size w w' := by
  have hb1 : Below w.heap.size w (w.alloc (.cells (svC v.ord v.st v.paid v.ms MA mc v.ts TA tc) 40)) := (Below.refl _ _).alloc (Nat.le_refl _) _
  have hB := Blk.new w 40 (svC v.ord v.st v.paid v.ms MA mc v.ts TA tc)
  obtain ⟨W, hW⟩ : ∃ W, W = w.alloc (.cells (svC v.ord v.st v.paid v.ms MA mc v.ts TA tc) 40) := ⟨_, rfl⟩
  obtain ⟨G, hG⟩ : ∃ G, G = w.heap.size := ⟨_, rfl⟩
  rw [← hW] at hb1 hB
  rw [← hG] at hB
  obtain ⟨C, hCd⟩ : ∃ C : World → Prop, ∀ w', C w' ↔ Below W.heap.size W w' := ⟨_, fun _ => Iff.rfl⟩
  have HCd := hid hCd
  have HW := hid (And.intro hW hG)
  have HB1 := hid hb1
  have HM := hid (hm.below hb1)
  have HTR := hid (ht.below hb1)
  have HD := hid (hd.next hb1)
  obtain ⟨vo, vs, vp, ms, ts, vu⟩ := v
  obtain ⟨n, hn0⟩ : ∃ n, n = ms.length := ⟨_, rfl⟩
  have hB' : Blk W G 40 #[.int .i64 vo, .int .i64 vs, .bool vp, .slice MA n mc, .slice TA n tc] := by rw [hn0]; simp only [svC] at hB; simp only at htl; rw [htl] at hB; exact hB
  have hJ' : Blk W J 106 #[.int .i64 vo, .int .i64 vs, .bool vp, .slice l.MA n l.mc, .slice l.TA n l.tc, .pointer (some ⟨RP, 0, none⟩)] := by
    have := HD.out.b
    simp only [inD] at this
    simp only at htl
    rw [hn0]
    rw [htl] at this
    exact this
  have HBB := hid hB'
  have HJJ := hid hJ'
  have HN := hid (And.intro hn0 htl)
  have hn' : n ≤ 1000 := by rw [hn0]; exact hn
  have g0 : ∀ p : In C, p.w.cell? ⟨G, 0, none⟩ = some (.int .i64 vo) := fun p => (hB'.next ((hCd _).1 p.h)).cell 0
  have g1 : ∀ p : In C, p.w.cell? ⟨G, 1, none⟩ = some (.int .i64 vs) := fun p => (hB'.next ((hCd _).1 p.h)).cell 1
  have g2 : ∀ p : In C, p.w.cell? ⟨G, 2, none⟩ = some (.bool vp) := fun p => (hB'.next ((hCd _).1 p.h)).cell 2
  have g3 : ∀ p : In C, p.w.cell? ⟨G, 3, none⟩ = some (.slice MA n mc) := fun p => (hB'.next ((hCd _).1 p.h)).cell 3
  have g4 : ∀ p : In C, p.w.cell? ⟨G, 4, none⟩ = some (.slice TA n tc) := fun p => (hB'.next ((hCd _).1 p.h)).cell 4
  have j0 : ∀ p : In C, p.w.cell? ⟨J, 0, none⟩ = some (.int .i64 vo) := fun p => (hJ'.next ((hCd _).1 p.h)).cell 0
  have j1 : ∀ p : In C, p.w.cell? ⟨J, 1, none⟩ = some (.int .i64 vs) := fun p => (hJ'.next ((hCd _).1 p.h)).cell 1
  have j2 : ∀ p : In C, p.w.cell? ⟨J, 2, none⟩ = some (.bool vp) := fun p => (hJ'.next ((hCd _).1 p.h)).cell 2
  have j3 : ∀ p : In C, p.w.cell? ⟨J, 3, none⟩ = some (.slice l.MA n l.mc) := fun p => (hJ'.next ((hCd _).1 p.h)).cell 3
  have j4 : ∀ p : In C, p.w.cell? ⟨J, 4, none⟩ = some (.slice l.TA n l.tc) := fun p => (hJ'.next ((hCd _).1 p.h)).cell 4
  have t1 : (vo != vo) = false := by simp
  have t2 : (vs != vs) = false := by simp
  have t3 : (vp != vp) = false := by simp
  have t4 : ((n : Int) != (n : Int)) = false := by simp
  have hCW : C W.drew := (hCd _).2 (Below.refl _ _).drew
  clear hW hG hb1 hm ht hd hn hB hJ' hB' hn0 htl hCd
  go_enter Tryz.func59, Tryz.ntmps59
  go_upto_region 1 with fail
  rw [← HW.out.1, ← HW.out.2]
  refine wp_region_in C (by kernel_rfl) (by kernel_rfl) hCW ?_
  intro hne
  clear hCW
  repeat (first | go_big_quiet_step (fail) | quiet_step (fail))
  refine wpQuiet_nil ?_
  intro wq hq
  have HQ := hid ((HCd.out _).1 hq)
  have j3q : wq.cell? ⟨J, 3, none⟩ = some (.slice l.MA n l.mc) := (HJJ.out.next HQ.out).cell 3
  have lJq := (HJJ.out.next HQ.out).lt
  clear g0 g1 g2 g3 g4 j0 j1 j2 j3 j4 t1 t2 t3 t4 hne hq
  go_wp2_with fail
  clear j3q lJq
  go_loopw [58] (fun i wr => ∃ k : Nat, k ≤ n ∧ i = .int .i64 k ∧ Hid (Below W.heap.size W wr)) (fun i _ => n - nOf i)
  case atStart => exact ⟨0, Nat.zero_le _, rfl, HQ⟩
  case round =>
    obtain ⟨k, hk, rfl, HBR⟩ := hrel
    by_cases hlt : k < n
    · have hk1 : k < ms.length := by have := HN.out.1; omega
      have hk2 : k < ts.length := by have h1 := HN.out.1; have h2 : ts.length = ms.length := HN.out.2; omega
      obtain ⟨m, hm⟩ : ∃ m, ms[k]? = some m := ⟨_, List.getElem?_eq_getElem hk1⟩
      obtain ⟨tq, htq⟩ : ∃ tq, ts[k]? = some tq := ⟨_, List.getElem?_eq_getElem hk2⟩
      obtain ⟨b1, o1, hA1, _, _⟩ := HM.out.at_ 1 (fun _ => rfl) (by omega) hm
      obtain ⟨b2, o2, hA2, _, _⟩ := HTR.out.at_ 1 (fun _ => rfl) (by omega) htq
      obtain ⟨b3, o3, hA3, _, _⟩ := HD.out.m.at_ 1 (fun _ => rfl) (by omega) hm
      obtain ⟨b4, o4, hA4, _, _⟩ := HD.out.t.at_ 1 (fun _ => rfl) (by omega) htq
      have hb0 : Below W.heap.size W wr := HBR.out
      have hx : ∀ {A : Option Addr} {l : List Int} {z : Int} {b o : Nat}, Rd W A (l.flatMap en1) → A = some ⟨b, o, none⟩ → l[k]? = some z → ∀ w', Below W.heap.size W w' → w'.cell? ⟨b, o + k, none⟩ = some (.int .i64 z) := fun {A l z b o} hr hA hz w' hb => by
        subst hA
        obtain ⟨b', o', e, _, hcc⟩ := (hr.below hb).at_ 1 (fun _ => rfl) (by omega) hz
        simp only [Option.some.injEq, Addr.mk.injEq, and_true] at e
        obtain ⟨rfl, rfl⟩ := e
        have := hcc 0 _ rfl
        rw [Nat.mul_one] at this
        exact this
      have x1 : ∀ p : In C, p.w.cell? ⟨b1, o1 + k, none⟩ = some (.int .i64 m) := fun p => hx HM.out hA1 hm _ ((HCd.out _).1 p.h)
      have x2 : ∀ p : In C, p.w.cell? ⟨b2, o2 + k, none⟩ = some (.int .i64 tq) := fun p => hx HTR.out hA2 htq _ ((HCd.out _).1 p.h)
      have x3 : ∀ p : In C, p.w.cell? ⟨b3, o3 + k, none⟩ = some (.int .i64 m) := fun p => hx HD.out.m hA3 hm _ ((HCd.out _).1 p.h)
      have x4 : ∀ p : In C, p.w.cell? ⟨b4, o4 + k, none⟩ = some (.int .i64 tq) := fun p => hx HD.out.t hA4 htq _ ((HCd.out _).1 p.h)
      have g3 : ∀ p : In C, p.w.cell? ⟨G, 3, none⟩ = some (.slice (some ⟨b1, o1, none⟩) n mc) := fun p => by rw [← hA1]; exact (HBB.out.next ((HCd.out _).1 p.h)).cell 3
      have g4 : ∀ p : In C, p.w.cell? ⟨G, 4, none⟩ = some (.slice (some ⟨b2, o2, none⟩) n tc) := fun p => by rw [← hA2]; exact (HBB.out.next ((HCd.out _).1 p.h)).cell 4
      have j3 : ∀ p : In C, p.w.cell? ⟨J, 3, none⟩ = some (.slice (some ⟨b3, o3, none⟩) n l.mc) := fun p => by rw [← hA3]; exact (HJJ.out.next ((HCd.out _).1 p.h)).cell 3
      have j4 : ∀ p : In C, p.w.cell? ⟨J, 4, none⟩ = some (.slice (some ⟨b4, o4, none⟩) n l.tc) := fun p => by rw [← hA4]; exact (HJJ.out.next ((HCd.out _).1 p.h)).cell 4
      have t1 : (m != m) = false := by simp
      have t2 : (tq != tq) = false := by simp
      have hCW : C wr.drew := (HCd.out _).2 hb0.drew
      clear hx hA1 hA2 hA3 hA4 hm htq hb0 hk1 hk2
      go_upto_region 6 with fail
      refine wp_region_in C (by kernel_rfl) (by kernel_rfl) hCW ?_
      intro hne
      clear hCW
      repeat (first | go_big_quiet_step (fail) | quiet_step (fail))
      refine wpQuiet_nil ?_
      intro wq2 hq2
      have HQ2 := hid ((HCd.out _).1 hq2)
      clear x1 x2 x3 x4 g3 g4 j3 j4 t1 t2 hne hq2
      go_wp2_with fail
      go_roundw
      case rel => exact ⟨k + 1, by omega, by go_num, HQ2⟩
      case measure => simp [nOf]; omega
    · have hk' : k = n := by omega
      subst hk'
      go_wp2_with fail
      go_ret
      exact ⟨rfl, bthen HB1.out HBR.out⟩

end Go.Proofs.YtoemmakhbiiknaaGreat

namespace Go.Proofs.YtoemmakhbiiknaaGreat
open Go.RowKit Go.MapKept Go.ChangeMaps
set_option linter.unusedVariables false

section
variable {κ ν : Type} {P : Program} {w w' : World} {r B : Nat} {kE : κ → Value} {vE : ν → Value} {m left : List (κ × ν)} {F : Fence} {n : Nat}

theorem IsMap.of_walks (h : IsMap w B kE vE m) (hk : KeepsWalks w w') : IsMap w' B kE vE m := by
  obtain ⟨es, clock, h1, h2, h3, h4, h5⟩ := h
  exact ⟨es, clock, hk.same B _ h1 rfl, h2, h3, h4, h5⟩
theorem IsIter.of_walks (h : IsIter w r B kE vE m left) (hk : KeepsWalks w w') : IsIter w' r B kE vE m left := by
  obtain ⟨es, clock, since, c0, seen, h1, h2, h3, h4, h5, h6, h7, h8, h9⟩ := h
  exact ⟨es, clock, since, c0, seen, hk.same B _ h1 rfl, h2, h3, h4, h5, h6, h7, hk.same r _ h8 rfl, h9⟩
theorem IsIter.iter_walk (h : IsIter w r B kE vE m left) : ∃ o : Obj, w.heap[r]? = some o ∧ o.isWalk = true := by
  obtain ⟨es, clock, since, c0, seen, _, _, _, _, _, _, _, h8, _⟩ := h
  exact ⟨_, h8, rfl⟩

theorem wpListIn_range_m {ops : Array Oper} {rest : List Oper} {o : Oper} {a : Act} {Q : Exit → Act → World → Prop} (w : World)
    (hg : o.guard = none) (mo : Operand) (mt kt et : TypeId) (hop : o.op = Op.range mt mo) (hm : P.underlying mt = some (.map kt et)) (B : Nat) (m : List (κ × ν)) (hM : a.eval mo = .map (some B)) (h : IsMap w B kE vE m)
    (hK : ∀ w', IsIter w' w.heap.size B kE vE m m → w.grownBy w' none → w'.heap.size = w.heap.size + 1 → wpListIn F n P ops Q rest (a.put o.dst (.pointer (some ⟨w.heap.size, 0, none⟩))) w') : wpListIn F n P ops Q (o :: rest) a w := by
  refine wpListIn_plain hg fun K' hK' => ?_
  obtain ⟨w', hrun, r1, r2, r3⟩ := h.range hm
  unfold Oper.wpIn
  refine ⟨?_, ?_⟩
  · simp [Oper.about, hop]
  · rw [Oper.semAt_plain F _ _ (by rw [hop]; intro c hc'; cases hc')]
    simp [execOp, hop, hM, hrun, Result.andThen]
    exact hK' _ _ (hK w' r1 ⟨r2.os, r2.tape, r2.output, by omega, fun i hi _ => r2.block i hi⟩ r3)

theorem wpListIn_next_m {ops : Array Oper} {rest : List Oper} {o : Oper} {a : Act} {Q : Exit → Act → World → Prop} (w : World)
    (hg : o.guard = none) (it : Operand) (hop : o.op = Op.next it false) (r B : Nat) (m left : List (κ × ν)) (hit : a.eval it = .pointer (some ⟨r, 0, none⟩)) (h : IsIter w r B kE vE m left)
    (hDone : left = [] → wpListIn F n P ops Q rest (a.put o.dst (.tuple #[.bool false])) w)
    (hMore : ∀ (k : κ) (v : ν) (left' : List (κ × ν)) (w' : World), left.Perm ((k, v) :: left') → IsIter w' r B kE vE m left' → w.grownBy w' (some r) → w'.heap.size = w.heap.size →
      (Instr.entry (.pointer (some ⟨r, 0, none⟩))).run P w' = .ok (.tuple #[kE k, vE v]) w' → wpListIn F n P ops Q rest (a.put o.dst (.tuple #[.bool true, kE k, vE v])) w') : wpListIn F n P ops Q (o :: rest) a w := by
  refine wpListIn_plain hg fun K' hK' => ?_
  unfold Oper.wpIn
  refine ⟨by simp [Oper.about, hop], ?_⟩
  rw [Oper.semAt_plain F _ _ (by rw [hop]; intro c hc'; cases hc')]
  rcases h.step (P := P) o.type with ⟨h0, hrun⟩ | ⟨k, v, left', w', hp, hrun, hi, hgr, hs, hen⟩
  · simp [execOp, hop, hit, hrun, Result.andThen]
    exact hK' _ _ (hDone h0)
  · simp [execOp, hop, hit, hrun, Result.andThen]
    exact hK' _ _ (hMore k v left' w' hp hi hgr hs hen)
end

end Go.Proofs.YtoemmakhbiiknaaGreat

namespace Go.Proofs
open Go.Shelf
def Tryz.sortedI_ren : Go.Shelf.Ren := ⟨fun | 6 => 54 | 8 => 84 | 9 => 66 | 11 => 108 | 13 => 95 | 12 => 94 | 23 => 121 | 24 => 122 | 14 => 112 | 15 => 113 | 16 => 114 | 17 => 115 | 18 => 116 | 19 => 117 | 20 => 118 | 21 => 119 | 22 => 120 | 25 => 130 | 26 => 131 | 27 => 132 | 28 => 133 | 29 => 134 | 30 => 135 | 31 => 144 | n => n, fun | 26 => 3 | 28 => 137 | 24 => 38 | 0 => 0 | 3 => 3 | 37 => 187 | 48 => 113 | 50 => 212 | 4 => 4 | 40 => 204 | 39 => 203 | 45 => 149 | 5 => 5 | 9 => 9 | 51 => 218 | 55 => 222 | 57 => 231 | 58 => 232 | 33 => 129 | n => n, fun | n => n⟩
theorem Tryz.sortedI : SlLaysZI.n6 Tryz.prog Tryz.sortedI_ren := {
  mixed := by kernel_rfl
  f6 := ⟨Tryz.f54.name, by decide, Tryz.func54.trans (congrArg some (by kernel_rfl))⟩
  f8 := ⟨Tryz.f84.name, by decide, Tryz.func84.trans (congrArg some (by kernel_rfl))⟩
  f11 := ⟨Tryz.f108.name, by decide, Tryz.func108.trans (congrArg some (by kernel_rfl))⟩
  t0 := Tryz.underlying0
  a0 := Tryz.isAgg0
  z0 := Tryz.sizeOf0
  v0 := Tryz.zeroValue0
  t24 := Tryz.underlying38
  a24 := Tryz.isAgg38
  z24 := Tryz.sizeOf38
  v24 := Tryz.zeroValue38
  t26 := Tryz.underlying3
  a26 := Tryz.isAgg3
  z26 := Tryz.sizeOf3
  v26 := Tryz.zeroValue3
  t28 := Tryz.underlying137
  a28 := Tryz.isAgg137
  z28 := Tryz.sizeOf137
  v28 := Tryz.zeroValue137
  i26 := by kernel_rfl
}
end Go.Proofs

namespace Go.Proofs.YtoemmakhbiiknaaGreat
open Go.RowKit Go.Maps Go.Sort
set_option linter.unusedVariables false

theorem sortsI (m : Nat) : AnyZI.SortsIn Tryz.prog Tryz.sortedI_ren Fence.wide m :=
  ⟨fun blk off cap ss W hH hblk hsz => callsIn_wide.2 (AnyM.slices_Sort_int Tryz.sortI blk off cap ss W hH hblk hsz),
   fun p cap W => callsIn_wide.2 (AnyM.slices_Sort_int_none Tryz.sortI p cap W)⟩
/-- The keys, sorted. -/
def srt (l : List Int) : List Int := l.mergeSort (fun x y => decide (x ≤ y))
theorem srt_perm (l : List Int) : (srt l).Perm l := List.mergeSort_perm _ _
theorem srt_sorted (l : List Int) : (srt l).Pairwise (fun a b => a ≤ b) := by
  have := List.pairwise_mergeSort (le := fun x y : Int => decide (x ≤ y)) (fun a b c h g => by simp only [decide_eq_true_eq] at *; omega) (fun a b => by simp only [Bool.or_eq_true, decide_eq_true_eq]; omega) l
  exact this.imp (fun h => by simpa using h)
theorem srt_rise {l : List Int} (hn : l.Nodup) : (srt l).Pairwise (fun a b => a < b) := by
  have h1 := srt_sorted l
  have h2 : (srt l).Nodup := (srt_perm l).nodup_iff.2 hn
  refine (h1.and h2).imp ?_
  rintro a b ⟨h, h'⟩
  omega

end Go.Proofs.YtoemmakhbiiknaaGreat

namespace Go.Proofs.YtoemmakhbiiknaaGreat
open Go.RowKit Go.Maps Go.Sort
set_option linter.unusedVariables false

set_option maxRecDepth 100000 in
set_option maxHeartbeats 2000000 in
theorem keys1_inE13 (F : Fence) (n : Nat) (hf : F.fn 85) (hro : F.round = none) (hn : 1 ≤ n) (l Bm b : Nat) (m : List (Int × Nat)) (J : List Int → World → Prop)
    (hY : ∀ pre x W, J pre W → pre.length < m.length → YieldAt F (n - 1) Tryz.prog l #[kE13 x] W fun e W' => e = .returned (.bool true) ∧ J (pre ++ [x]) W' ∧ KeepsWalks W W')
    (W : World) (hJ : AbidesFrom W.heap.size J) (hm : W.cell? ⟨Bm, 0, none⟩ = some (.map (some b))) (hM : IsMap W b kE13 pB m) (h0 : J [] W) :
    CallsIn F n Tryz.prog 85 #[.func (.yield l) #[] #[], .pointer (some ⟨Bm, 0, none⟩)] W fun e W' => (∃ v, e = .returned v) ∧ ∃ xs : List Int, xs.Perm (m.map (·.1)) ∧ J xs W' := by
  refine callsIn_of_wp Tryz.func85 rfl hf ?_ hro
  simp only [Tryz.ntmps85, List.size_toArray, List.length_cons, List.length_nil, Nat.reduceAdd, Nat.reduceSub, Array.replicate_succ, Array.replicate_zero, List.push_toArray, List.append_toArray, List.nil_append, List.cons_append]
  gi_wp2_with (first
    | (gi_at_range; refine wpListIn_range_m _ rfl _ 88 3 91 rfl Tryz.underlying88 b m rfl hM ?_; intro w0 hrg0 hg0 hs0)
    | gi_in)
  go_frame
  gi_loopw [3] (fun _ wr => ∃ (left ps : List (Int × Nat)), IsIter wr W.heap.size b kE13 pB m left ∧ (ps ++ left).Perm m ∧ J (ps.map (·.1)) wr)
    (fun _ wr => wr.rangeLeft b W.heap.size)
  case atStart =>
    exact ⟨m, [], hrg0, List.Perm.refl _, hJ [] W w0 none h0 hg0 (fun r e => by cases e)⟩
  case round =>
    obtain ⟨left, ps, hrg, hP, hJs⟩ := hrel
    gi_wp2_with (first
      | (gi_at_next; refine wpListIn_next_m _ rfl _ rfl W.heap.size b m left rfl hrg ?_ ?_)
      | gi_in)
    · intro hl0
      subst hl0
      gi_wp2
      go_end0
      exact ⟨⟨_, rfl⟩, ps.map (·.1), by rw [List.append_nil] at hP; exact hP.map _, hJs⟩
    · intro k v left' w2 hp hrg2 hg2 hs2 hen
      have hJ2 : J (ps.map (·.1)) w2 := hJ _ wr w2 (some W.heap.size) hJs hg2 (fun r e => by cases e; exact ⟨Nat.le_refl _, hrg.iter_walk⟩)
      have hlen : (ps.map (·.1)).length < m.length := by
        have h1 := hP.length_eq
        have h2 := hp.length_eq
        simp at h1 h2 ⊢
        omega
      obtain ⟨fn, tmps, assign, body, hy, hR⟩ := hY _ k _ hJ2 hlen
      clear hs2
      simp only [kE13] at hen hy
      gi_wp2
      refine hR.mono ?_
      rintro e W3 ⟨rfl, hJ4, hk4⟩
      gi_wp2
      have hrg4 := hrg2.of_walks hk4
      go_roundw
      case rel => exact ⟨left', ps ++ [(k, v)], hrg4, by rw [List.append_assoc]; exact ((hp.symm).append_left ps).trans hP, by simpa using hJ4⟩
      case measure => rw [hrg4.left_len, hrg.left_len]; have := hp.length_eq; simp at this; omega

theorem keys_givesE13 (F : Fence) (n : Nat) (hf : F.fn 85) (hro : F.round = none) (hn : 1 ≤ n) (Bm b : Nat) (m : List (Int × Nat)) (w : World) (hBm : Bm < w.heap.size)
    (hm : w.cell? ⟨Bm, 0, none⟩ = some (.map (some b))) (hM : IsMap w b kE13 pB m) :
    SeqGives F n Tryz.prog 85 #[.pointer (some ⟨Bm, 0, none⟩)] kE13 (fun xs => xs.Perm (m.map (·.1))) m.length w := fun l J W hW hJ hY h0 =>
  keys1_inE13 F n hf hro hn l Bm b m J hY W hJ ((hW.cell (p := ⟨Bm, 0, none⟩) hBm).trans hm) (hM.next hW) h0

set_option maxHeartbeats 1000000 in
theorem keysCall_inE13 (F : Fence) (n : Nat) (hf : F.fn 55) (hro : F.round = none) (mb : Option Nat) (w : World) :
    CallsIn F n Tryz.prog 55 #[.map mb] w fun e w' => e = .returned (.func (.func 85) #[] #[.pointer (some ⟨w.heap.size, 0, none⟩)]) ∧ w' = w.alloc (.cells #[.map mb] 88) := by
  refine callsIn_of_wp Tryz.func55 rfl hf ?_ hro
  simp only [Tryz.ntmps55, List.size_toArray, List.length_cons, List.length_nil, Nat.reduceAdd, Nat.reduceSub, Array.replicate_succ, Array.replicate_zero, List.push_toArray, List.append_toArray, List.nil_append, List.cons_append]
  gi_wp2
  go_ret
  exact ⟨rfl, rfl⟩

set_option maxRecDepth 100000 in
set_option maxHeartbeats 2000000 in
theorem sortedKeysE13 (w : World) (Bm b : Nat) (m : List (Int × Nat)) (hm : m.length * 8 ≤ 140737488351232) (hBm : Bm < w.heap.size) (hc : w.cell? ⟨Bm, 0, none⟩ = some (.map (some b))) (hM : IsMap w b kE13 pB m) :
    Calls Tryz.prog 54 #[.func (.func 85) #[] #[.pointer (some ⟨Bm, 0, none⟩)]] w fun e w' =>
      ∃ (v : Value) (ss : List Int), e = .returned v ∧ ss.Perm (m.map (·.1)) ∧ w'.ownsRow w.heap.size 3 1 v ss.length ((srt ss).map kE13) ∧ Below w.heap.size w w' := by
  refine (callsIn_wide (n := 5)).1 ?_
  have hseq : SeqGives Fence.wide 2 Tryz.prog 85 #[.pointer (some ⟨Bm, 0, none⟩)] kE13 (fun xs => xs.Perm (m.map (·.1))) m.length w := keys_givesE13 Fence.wide 2 trivial rfl (by omega) Bm b m w hBm hc hM
  have cS := AnyZI.sorted_in Tryz.sortedI Fence.wide 5 trivial trivial trivial trivial rfl (by omega) (sortsI _) (enters_of Tryz.func66 (by kernel_rfl) rfl) 85 #[.pointer (some ⟨Bm, 0, none⟩)] trivial (enters_of Tryz.func85 (by kernel_rfl) rfl) _ m.length (by unfold maxLen; omega) (by omega) w hseq
  exact cS.mono fun e w' ⟨v, ss, h1, h2, h3, _, h5⟩ => ⟨v, ss, h1, h2, h3, h5⟩

end Go.Proofs.YtoemmakhbiiknaaGreat

namespace Go.Proofs.YtoemmakhbiiknaaGreat
open Go.RowKit Go.WideShapes Go.ChangeShapes Go.ChangeAt Go.Deep Go.Maps Go.Sort
set_option linter.unusedVariables false

section
variable {n0 X M : Nat} {es : List (Int × Nat)} {w w' : World}
theorem ownsRow_low13 {n m : Nat} {t s : Nat} {v : Value} {k : Nat} {xs : List Value} (h : w.ownsRow n t s v k xs) (hm : m ≤ n) : w.ownsRow m t s v k xs := own_base h hm
/-- What Orders answers: the orders, rising. -/
def OrdR (es : List (Int × Nat)) (w : World) (e : Ending) (w' : World) : Prop := ∃ (A : Option Addr) (cap : Nat) (ids : List Int), e = .returned (.slice A ids.length cap) ∧ ids.Perm (es.map (·.1)) ∧ ids.Pairwise (fun a b => a < b) ∧ w'.ownsRow w.heap.size 3 1 (.slice A ids.length cap) ids.length (ids.map kE13) ∧ Below w.heap.size w w'
set_option maxRecDepth 100000 in
set_option maxHeartbeats 4000000 in
theorem orders_any (h : IsEng n0 X M es w) (hl : es.length * 8 ≤ 140737488351232) :
    Calls Tryz.prog 22 #[.pointer (some ⟨X, 0, none⟩)] w (OrdR es w) := by
  have c0 : w.cell? ⟨X, 0, none⟩ = some (.map (some M)) := h.blk.cell 0
  have lX := h.blk.lt
  have hb1 : Below w.heap.size w (w.alloc (.cells #[.map (some M)] 88)) := (Below.refl _ _).alloc (Nat.le_refl _) _
  have K := hid (sortedKeysE13 (w.alloc (.cells #[.map (some M)] 88)) w.heap.size M es hl (by simp) (by simp) (h.map.alloc _))
  have V := hid ((callsIn_wide (n := 6)).1 (keysCall_inE13 Fence.wide 6 trivial rfl (some M) w))
  have HND := hid h.map.nodup
  have HB1 := hid hb1
  clear h hb1
  go_enter Tryz.func22, Tryz.ntmps22
  go_wp2_with fail
  refine V.out.mono ?_
  rintro e w1 ⟨rfl, rfl⟩
  go_wp2_with fail
  refine K.out.mono ?_
  rintro e w2 ⟨v, ss, rfl, hp, hrow, hb2⟩
  have HB := hid (bthen HB1.out hb2)
  have hln : (srt ss).length = ss.length := (srt_perm ss).length_eq
  have HPM := hid ((srt_perm ss).trans hp)
  have HRS := hid (srt_rise (hp.nodup_iff.2 HND.out))
  have hrow' : w2.ownsRow w.heap.size 3 1 v ss.length ((srt ss).map kE13) := own_base hrow (by simp)
  clear K V hp hrow
  obtain ⟨A, cap, rfl, _⟩ := own_slice hrow'
  have HO := hid hrow'
  have HL := hid hln
  clear hrow' hln
  go_wp2_with fail
  go_ret
  exact ⟨A, cap, srt ss, by rw [HL.out]; rfl, HPM.out, HRS.out, by rw [HL.out]; exact HO.out, HB.out⟩
def livB (f : Int → Int) (o : Int) : Bool := f o == 0 || f o == 1
set_option maxRecDepth 100000 in
set_option maxHeartbeats 8000000 in
theorem live_any (h : IsEng n0 X M es w) (hl : es.length * 8 ≤ 140737488351232) (f : Int → Int) (hall : ∀ p ∈ es, ∃ base vP v l, IsI base p.2 vP v l w ∧ v.st = f p.1) :
    Calls Tryz.prog 20 #[.pointer (some ⟨X, 0, none⟩)] w fun e w' => e = .returned (.int .i64 (((es.map (·.1)).countP (livB f) : Nat) : Int)) ∧ Below w.heap.size w w' := by
  have K := hid (orders_any h hl)
  have HE := hid h
  have HALL := hid hall
  have HL := hid hl
  clear h hall hl
  go_enter Tryz.func20, Tryz.ntmps20
  go_wp2_with fail
  refine K.out.mono ?_
  rintro e w2 ⟨A, cap, ids, rfl, hpm, _, hO, hb⟩
  have HPM := hid hpm
  have HB := hid hb
  have HRd := hid (show Rd w2 A (ids.flatMap en1) from by rw [flat_en1]; exact own_rd hO)
  have hlen : ids.length * 8 ≤ 140737488351232 := by have h1 := hpm.length_eq; have h2 := HL.out; simp at h1; omega
  have HCN := hid (show (ids.countP (livB f)) = (es.map (·.1)).countP (livB f) from hpm.countP_eq _)
  clear K hpm hO hb
  go_wp2_with fail
  go_loopw [3, 5, 6, 10] (fun n _a _b i wr => ∃ k : Nat, k ≤ ids.length ∧ i = .int .i64 k ∧ n = .int .i64 (((ids.take k).countP (livB f) : Nat) : Int) ∧ wr = w2) (fun _n _a _b i _ => ids.length - nOf i)
  case atStart => exact ⟨0, Nat.zero_le _, rfl, rfl, rfl⟩
  case round =>
    obtain ⟨k, hk, rfl, rfl, rfl⟩ := hrel
    by_cases hlt : k < ids.length
    · obtain ⟨o, ho⟩ : ∃ o, ids[k]? = some o := ⟨ids[k], List.getElem?_eq_getElem hlt⟩
      obtain ⟨b, off, hAA, hbs, hcc⟩ := HRd.out.at_ 1 (fun _ => rfl) (by omega) ho
      subst hAA
      have q0 : wr.cell? ⟨b, off + k * 1, none⟩ = some (.int .i64 o) := hcc 0 _ rfl
      rw [Nat.mul_one] at q0
      have hE := HE.out.next HB.out
      have hom : o ∈ es.map (·.1) := HPM.out.mem_iff.1 (List.mem_of_getElem? ho)
      obtain ⟨p, hp, hpo⟩ := List.mem_map.1 hom
      have hg : mget es o = some p.2 := by rw [← hpo]; exact mget_of_mem HE.out.map.nodup hp
      obtain ⟨base, vP, v, l, hi, hst⟩ := HALL.out p hp
      have hLk := hE.look o
      rw [hg] at hLk
      simp only [pB] at hLk
      have hi2 := hi.next HB.out
      have c1 : wr.cell? ⟨p.2, 1, none⟩ = some (.int .i64 v.st) := hi2.b.cell 1
      have lI := hi2.b.lt
      have c0 : wr.cell? ⟨X, 0, none⟩ = some (.map (some M)) := hE.blk.cell 0
      have lX := hE.blk.lt
      have HTK := hid (take_succ_of ho)
      have HST := hid (show v.st = f o from by rw [hst, hpo])
      obtain ⟨st, hs⟩ : ∃ st, st = v.st := ⟨_, rfl⟩
      rw [← hs] at c1 HST
      have hcl : ((ids.take k).countP (livB f)) ≤ ids.length := Nat.le_trans List.countP_le_length (by simp; omega)
      have HLV := hid (show ((ids.take (k + 1)).countP (livB f)) = (ids.take k).countP (livB f) + (if livB f o = true then 1 else 0) from by rw [HTK.out, List.countP_append]; simp [List.countP_cons])
      generalize (ids.take k).countP (livB f) = cn at hcl HLV ⊢
      clear hcc ho hE hom hg hi hi2 hs hst hpo hp
      cases h0 : (st == 0) with
      | true =>
        have HZ := hid (show livB f o = true from by unfold livB; rw [← HST.out, h0]; rfl)
        go_wp2_with fail
        go_roundw
        case rel => exact ⟨k + 1, by omega, by go_num, by rw [HLV.out, if_pos HZ.out]; go_num, by trivial⟩
        case measure => simp [nOf]; omega
      | false =>
        cases h1 : (st == 1) with
        | true =>
          have HZ := hid (show livB f o = true from by unfold livB; rw [← HST.out, h0, h1]; rfl)
          go_wp2_with fail
          go_roundw
          case rel => exact ⟨k + 1, by omega, by go_num, by rw [HLV.out, if_pos HZ.out]; go_num, by trivial⟩
          case measure => simp [nOf]; omega
        | false =>
          have HZ := hid (show livB f o = false from by unfold livB; rw [← HST.out, h0, h1]; rfl)
          go_wp2_with fail
          go_roundw
          case rel => exact ⟨k + 1, by omega, by go_num, by rw [HLV.out, if_neg (by rw [HZ.out]; decide)]; rfl, by trivial⟩
          case measure => simp [nOf]; omega
    · have hk' : k = ids.length := by omega
      subst hk'
      have HTA := hid (show ids.take ids.length = ids from List.take_length)
      rw [HTA.out]
      go_wp2_with fail
      go_ret
      exact ⟨by rw [HCN.out]; rfl, HB.out⟩
end

end Go.Proofs.YtoemmakhbiiknaaGreat

namespace Go.Proofs.YtoemmakhbiiknaaGreat
open Go.RowKit Go.WideShapes Go.ChangeShapes Go.ChangeAt Go.Deep
set_option linter.unusedVariables false

set_option maxRecDepth 100000 in
set_option maxHeartbeats 32000000 in
theorem state_one {n0 X M I base b2 P R J RP n1 lc b3 sc : Nat} {nm : ByteArray} {vS vB vH vO : Value} {Ls Lr : List Stp} {Bs Hs : List IRow} {dn : Bool} {ask : Int} {v : Iv} {l lj : Il} {LA SA : Option Addr} {od : Nat → Int} (w : World) (hE : IsEng n0 X M [(v.ord, I)] w) (hI : IsI base I (.pointer (some ⟨P, 0, none⟩)) v l w) (hP : PlW b2 nm P vS vB vH Ls Bs Hs dn ask w) (hD : DEn n1 R LA lc [J] od vO w) (hod : od J = v.ord) (hJ : DsI J RP v lj w) (hRP : RpS b3 RP nm SA sc Lr w) :
    Calls Tryz.prog 24 #[.pointer (some ⟨X, 0, none⟩), .pointer (some ⟨R, 0, none⟩)] w fun e w' => e = .returned (.bool true) ∧ Below w.heap.size w w' := by
  have HE := hid hE
  have HI := hid hI
  have HP := hid hP
  have HD := hid hD
  have HJ := hid hJ
  have HRP := hid hRP
  have hn := hI.n
  have KO := hid (orders_any hE (by simp))
  clear hE hI hP hD hJ hRP
  go_enter Tryz.func24, Tryz.ntmps24
  go_wp2_with fail
  refine KO.out.mono ?_
  rintro e w1 ⟨A, cap, ids, rfl, hperm, _, hO, hb1⟩
  have hids : ids = [v.ord] := List.perm_singleton.1 hperm
  subst hids
  clear KO hperm
  have HB1 := hid hb1
  have HO := hid (show Rd w1 A ([v.ord].flatMap en1) from own_rd hO)
  have r0 : w1.cell? ⟨R, 0, none⟩ = some (.slice LA 1 lc) := (HD.out.next hb1).r.cell 0
  have lR := (HD.out.next hb1).r.lt
  have KL := hid (live_any (HE.out.next hb1) (by simp) (fun _ => v.st) (fun p hp => by
    obtain rfl : p = (v.ord, I) := by simpa using hp
    exact ⟨_, _, _, _, HI.out.next hb1, rfl⟩))
  obtain ⟨c, hc⟩ : ∃ c : Int, c = ((([(v.ord, I)].map (·.1)).countP (livB fun _ => v.st) : Nat) : Int) := ⟨_, rfl⟩
  rw [← hc] at KL
  have HC := hid hc
  clear hc hO hb1
  go_wp2_with fail
  refine KL.out.mono ?_
  rintro e w2 ⟨rfl, hb2⟩
  have HB2 := hid (bthen HB1.out hb2)
  clear r0 lR KL
  have hD2 := HD.out.next HB2.out
  have KD := hid (dlive_any R LA lc [J] (fun _ => v.st) w2 (hD2.r.cell 0) hD2.r.lt (own_rd hD2.own) (by simp) (fun b hb => by
    obtain rfl : b = J := by simpa using hb
    have := HJ.out.next HB2.out
    exact ⟨this.b.cell 1, this.b.lt⟩))
  rw [show (([J].countP (livS fun _ => v.st) : Nat) : Int) = c from by rw [HC.out]; simp [livS, livB, List.countP_cons]] at KD
  have HO2 := hid (HO.out.below hb2)
  have tc : (c != c) = false := by simp
  clear hD2 hb2
  go_wp2_with fail
  refine KD.out.mono ?_
  rintro e w3 ⟨rfl, rfl⟩
  go_wp2_with fail
  clear tc
  go_loopw [31] (fun i wr => ∃ k : Nat, k ≤ 1 ∧ i = .int .i64 k ∧ Hid (Below w3.heap.size w3 wr)) (fun i _ => 1 - nOf i)
  case atStart => exact ⟨0, by omega, rfl, hid (Below.refl _ _)⟩
  case round =>
    obtain ⟨k, hk, rfl, HBR⟩ := hrel
    by_cases hlt : k < 1
    · obtain rfl : k = 0 := by omega
      have HBA := hid (bthen HB2.out HBR.out)
      obtain ⟨b, off, hAA, _, hcc⟩ := (HO2.out.below HBR.out).at_ (l := [v.ord]) 1 (fun _ => rfl) (by omega) (k := 0) rfl
      have q0 : wr.cell? ⟨b, off, none⟩ = some (.int .i64 v.ord) := by simpa using hcc 0 _ rfl
      have HAA := hid hAA
      rw [hAA]
      have hDr := HD.out.next HBA.out
      have KF := hid (hDr.find v.ord (by simp))
      rw [show dfV od [J] v.ord = .pointer (some ⟨J, 0, none⟩) from by unfold dfV; simp [hod]; rfl] at KF
      have KG := hid (get_some (HI.out.next HBA.out) (.pointer (some ⟨X, 0, none⟩)) v.ord (fun w' hb' => by
        have := efind_any ((HE.out.next HBA.out).next hb') v.ord
        rw [show findV [(v.ord, I)] v.ord = (.pointer (some ⟨I, 0, none⟩), 0) from by unfold findV; simp [mget, pB]] at this
        exact this))
      clear hcc hDr hAA
      go_wp2_with fail
      refine KF.out.mono ?_
      rintro e w4 ⟨rfl, rfl⟩
      clear KF
      go_wp2_with fail
      refine KG.out.mono ?_
      rintro e w5 ⟨MA, mc, TA, tc', rfl, hm, ht, hb5⟩
      clear KG
      have HB5 := hid (bthen HBA.out hb5)
      have HM := hid (own_rd hm)
      have HT := hid (own_rd ht)
      have HBX := hid (bthen HBR.out hb5)
      clear hm ht hb5 q0
      rw [show svC v.ord v.st v.paid v.ms MA mc v.ts TA tc' = #[.int .i64 v.ord, .int .i64 v.st, .bool v.paid, .slice MA v.ms.length mc, .slice TA v.ts.length tc'] from rfl]
      have hB := Blk.new w5 40 #[.int .i64 v.ord, .int .i64 v.st, .bool v.paid, .slice MA v.ms.length mc, .slice TA v.ts.length tc']
      have hbW : Below w5.heap.size w5 (w5.alloc (.cells #[.int .i64 v.ord, .int .i64 v.st, .bool v.paid, .slice MA v.ms.length mc, .slice TA v.ts.length tc'] 40)) := (Below.refl _ _).alloc (Nat.le_refl _) _
      go_upto_region 9 with fail
      generalize w5.alloc (.cells #[.int .i64 v.ord, .int .i64 v.st, .bool v.paid, .slice MA v.ms.length mc, .slice TA v.ts.length tc'] 40) = W1 at hB hbW ⊢
      have HBW := hid (bthen HB5.out hbW)
      have HBZ := hid (bthen HBX.out hbW)
      have HMW := hid (HM.out.below hbW)
      have HTW := hid (HT.out.below hbW)
      generalize w5.heap.size = G at hB hbW ⊢
      obtain ⟨C, hCd⟩ : ∃ C : World → Prop, ∀ w', C w' ↔ Below W1.heap.size W1 w' := ⟨_, fun _ => Iff.rfl⟩
      have HCd := hid hCd
      have hCW : C W1.drew := (hCd _).2 (Below.refl _ _).drew
      have g0 : ∀ p : In C, p.w.cell? ⟨G, 0, none⟩ = some (.int .i64 v.ord) := fun p => (hB.next ((hCd _).1 p.h)).cell 0
      have g1 : ∀ p : In C, p.w.cell? ⟨G, 1, none⟩ = some (.int .i64 v.st) := fun p => (hB.next ((hCd _).1 p.h)).cell 1
      have g2 : ∀ p : In C, p.w.cell? ⟨G, 2, none⟩ = some (.bool v.paid) := fun p => (hB.next ((hCd _).1 p.h)).cell 2
      have g3 : ∀ p : In C, p.w.cell? ⟨G, 3, none⟩ = some (.slice MA v.ms.length mc) := fun p => (hB.next ((hCd _).1 p.h)).cell 3
      have g4 : ∀ p : In C, p.w.cell? ⟨G, 4, none⟩ = some (.slice TA v.ts.length tc') := fun p => (hB.next ((hCd _).1 p.h)).cell 4
      have j5 : ∀ p : In C, p.w.cell? ⟨J, 5, none⟩ = some (.pointer (some ⟨RP, 0, none⟩)) := fun p => ((HJ.out.next HBW.out).next ((hCd _).1 p.h)).b.cell 5
      have r0 : ∀ p : In C, p.w.cell? ⟨RP, 0, none⟩ = some (.string nm) := fun p => ((HRP.out.next HBW.out).next ((hCd _).1 p.h)).p.cell 0
      have O1 : Hid (∀ p : In C, Calls Tryz.prog 59 #[.agg #[.int .i64 v.ord, .int .i64 v.st, .bool v.paid, .slice MA v.ms.length mc, .slice TA v.ts.length tc'], .pointer (some ⟨J, 0, none⟩)] p.w fun e w' => e = .returned (.bool true) ∧ C w') :=
        hid (fun p => (alike_any v MA TA mc tc' J RP lj p.w ((HJ.out.next HBW.out).next ((hCd _).1 p.h)) (HMW.out.below ((hCd _).1 p.h)) (HTW.out.below ((hCd _).1 p.h)) hn HI.out.tl).mono fun _ _ ⟨e1, e2⟩ => ⟨e1, (hCd _).2 (bthen ((hCd _).1 p.h) e2)⟩)
      have O2 : Hid (∀ p : In C, Calls Tryz.prog 60 #[.pointer (some ⟨P, 0, none⟩)] p.w fun e w' => e = .returned (.string nm) ∧ C w') :=
        hid (fun p => (name_some ((HP.out.next HBW.out).next ((hCd _).1 p.h))).mono fun _ _ ⟨e1, e2⟩ => ⟨e1, by rw [e2]; exact p.h⟩)
      have t1 : (nm.toList == nm.toList) = true := by simp
      clear hCd hB hbW
      refine wp_region_in C (by kernel_rfl) (by kernel_rfl) hCW ?_
      intro hne
      clear hCW
      repeat (first | go_big_quiet_step ((first | (go_at_call 59; exact Calls.in_of (O1.out _)) | (go_at_call 60; exact Calls.in_of (O2.out _)))) | quiet_step ((first | (go_at_call 59; exact Calls.in_of (O1.out _)) | (go_at_call 60; exact Calls.in_of (O2.out _)))))
      refine wpQuiet_nil ?_
      intro wq hq
      have HQ := hid (bthen HBZ.out ((HCd.out _).1 hq))
      clear g0 g1 g2 g3 g4 j5 r0 O1 O2 t1 hne hq
      go_wp2_with fail
      go_roundw
      case rel => exact ⟨1, by omega, by go_num, HQ⟩
      case measure => simp [nOf]
    · have hk' : k = 1 := by omega
      subst hk'
      go_wp2_with fail
      go_ret
      exact ⟨rfl, bthen HB2.out HBR.out⟩

end Go.Proofs.YtoemmakhbiiknaaGreat

namespace Go.Proofs.YtoemmakhbiiknaaGreat
open Go.RowKit Go.WideShapes Go.ChangeShapes Go.ChangeAt Go.Deep
set_option linter.unusedVariables false

section
variable {base base2 I P : Nat} {nm : ByteArray} {Ls : List Stp} {Bs : List IRow} {ask : Int} {y y1 y2 : Pw} {v v1 v2 : Iv} {l l1 l2 : Il} {w w' w1 w2 : World} {X : Nat → Prop}
/-- What a call answers: the effects of r, the instance as r without them. -/
def EffR (base base2 I P : Nat) (nm : ByteArray) (Ls : List Stp) (Bs : List IRow) (ask : Int) (y : Pw) (v : Iv) (l : Il) (r : Iv) (w : World) (e : Ending) (w' : World) : Prop :=
  ∃ OA oc ask' y' l', e = .returned (.tuple #[.slice OA r.out.length oc, .int .i64 0]) ∧ (ask ≤ ask' ∧ ask' ≤ ask + 1000) ∧ InP base base2 I P nm Ls Bs ask' y' { r with out := [] } l' w' ∧ Mw I P Ls Bs y v l y' { r with out := [] } l' w w' ∧ w'.ownsRow base 55 6 (.slice OA r.out.length oc) r.out.length (r.out.flatMap enEf) ∧ l'.OA = none
/-- What was answered stays, whatever comes later. -/
theorem eff_keep {b n m : Nat} {x : Value} {xs : List Value} {y' : Pw} {v' : Iv} {l' : Il} (hO : w.ownsRow b 55 m x n xs) (hI : InP base base2 I P nm Ls Bs ask y v l w) (hl : l.OA = none) (hm : Mw I P Ls Bs y v l y' v' l' w w') : w'.ownsRow b 55 m x n xs :=
  own_touch hO hm.m.t (fun g hg hu => by
    rcases hu with (hu | hu | hu | hu) | hu
    · exact own_notBlk hO hI.i.b (by decide) (by rw [hg, hu])
    · exact own_ne (own_base hO (Nat.zero_le _)) (own_base hI.i.m (Nat.zero_le _)) (by decide) hg hu
    · exact own_ne (own_base hO (Nat.zero_le _)) (own_base hI.i.t (Nat.zero_le _)) (by decide) hg hu
    · rw [hl] at hu
      cases hu
    · exact own_notBlk hO hI.p.p.p (by decide) (by rw [hg, hu]))
theorem effR_of {ask' : Int} {y' : Pw} {r : Iv} {l' : Il} (h : InP base base2 I P nm Ls Bs ask' y' r l' w1) (ha : ask ≤ ask' ∧ ask' ≤ ask + 1000) (hm : Mw I P Ls Bs y v l y' r l' w w1) (E1 : IsI base I (.pointer (some ⟨P, 0, none⟩)) { r with out := [] } { l' with OA := none, oc := 0 } w2) (E2 : Mv (fun _ => False) I r l' { r with out := [] } { l' with OA := none, oc := 0 } w1 w2) (E3 : w2.ownsRow base 55 6 (.slice l'.OA r.out.length l'.oc) r.out.length (r.out.flatMap enEf)) :
    EffR base base2 I P nm Ls Bs ask y v l r w (.returned (.tuple #[.slice l'.OA r.out.length l'.oc, .int .i64 0])) w2 :=
  ⟨_, _, ask', y', _, rfl, ha, h.upd E1 E2 rfl, hm.trans (Mw.of E2), E3, rfl⟩
def rpV (Ls : List Stp) (Bs : List IRow) (v : Iv) (t : Stp) (s : Nat) (tr : Int) (un : Bool) (code : Int) : Iv :=
  if un = true then (if (mkA v.ms s == 4) = true then uwV Ls Bs { v with ms := v.ms.set s 5 } else v)
  else if (v.st != 0 || (mkA v.ms s != 1 || mkA v.ts s != tr)) = true then v
  else if (code == 0 || (t.event.toList.isEmpty && t.fin)) = true then goV Ls Bs { v with ms := v.ms.set s 3 }
  else if (code == 150 && decide (tr ≤ t.ret)) = true then { v with ms := v.ms.set s 2, out := v.out ++ [⟨2, v.ord, s, 0, t.ev, false⟩] }
  else turnV Ls Bs { v with ms := v.ms.set s 5 }
set_option maxRecDepth 100000 in
set_option maxHeartbeats 32000000 in
theorem reply_any (h : InP base base2 I P nm Ls Bs ask y v l w) (ho : v.out.length ≤ 1000) (ha : 0 ≤ ask ∧ ask ≤ 4611686018427386904) (xv : Value) (o tr code : Int) (un : Bool) (s : Nat) (t : Stp) (ht : Ls[s]? = some t)
    (hat : Calls Tryz.prog 30 #[xv, .int .i64 o, .int .i64 s] w fun e w' => e = .returned (.tuple #[.pointer (some ⟨I, 0, none⟩), .int .i64 0]) ∧ w' = w) :
    Calls Tryz.prog 10 #[xv, .int .i64 o, .int .i64 s, .int .i64 tr, .bool un, .int .i64 code] w (EffR base base2 I P nm Ls Bs ask y v l (rpV Ls Bs v t s tr un code) w) := by
  have HAT := hid (hat)
  have HT := hid ht
  have HA := hid ha
  have HO := hid ho
  have HI := hid h
  have KS := hid (step_in h.p.p s t ht (h.p.aft t (List.mem_of_getElem? ht)))
  have HHS := hid (show s < v.ms.length from by rw [h.mn]; exact (List.getElem?_eq_some_iff.1 ht).1)
  have i5 : w.cell? ⟨I, 5, none⟩ = some (.pointer (some ⟨P, 0, none⟩)) := h.i.b.cell 5
  have lI := h.i.b.lt
  have hn := h.i.n
  clear h ht hat ha ho
  go_enter Tryz.func10, Tryz.ntmps10
  go_wp2_with fail
  refine HAT.out.mono ?_
  rintro e w0 ⟨rfl, rfl⟩
  clear HAT
  go_wp2_with fail
  refine KS.out.mono ?_
  rintro e w1 ⟨A, cap, rfl, _, hb1⟩
  have HI1 := hid (HI.out.next hb1)
  clear KS i5
  obtain ⟨xn, xv2, xu, xe, xf, xr, xy, xw, xA, xc, xl⟩ := t
  rw [show (enSt (twn ⟨xn, xv2, xu, xe, xf, xr, xy, xw, xA, xc, xl⟩ A cap)).toArray = #[.string xn, .string xv2, .string xu, .string xe, .bool xf, .int .i64 xr, .int .i64 xy, .int .i64 xw, .slice A xl.length cap] from rfl]
  go_upto_region 7 with fail
  have hB := Blk.new w1 69 #[.string xn, .string xv2, .string xu, .string xe, .bool xf, .int .i64 xr, .int .i64 xy, .int .i64 xw, .slice A xl.length cap]
  have hbW : Below w1.heap.size w1 (w1.alloc (.cells #[.string xn, .string xv2, .string xu, .string xe, .bool xf, .int .i64 xr, .int .i64 xy, .int .i64 xw, .slice A xl.length cap] 69)) := (Below.refl _ _).alloc (Nat.le_refl _) _
  generalize w1.alloc (.cells #[.string xn, .string xv2, .string xu, .string xe, .bool xf, .int .i64 xr, .int .i64 xy, .int .i64 xw, .slice A xl.length cap] 69) = W at hB hbW ⊢
  have HIW := hid (HI1.out.next hbW)
  have HBW := hid (bthen hb1 hbW)
  have HMW : Hid (Mw I P Ls Bs y v l y v l w0 W) := hid (Mw.of (HBW.out.mv))
  clear hbW
  have hGlt := hid (show ∀ g, IU I v l g → g < w1.heap.size from fun g hg => (HI1.out.i.use hg).2)
  generalize w1.heap.size = G at hB hGlt ⊢
  obtain ⟨gm, hgm, lgm⟩ := HIW.out.i.ma HHS.out
  obtain ⟨gt, hgt, lgt⟩ := HIW.out.i.ta HHS.out
  have HGM := hid hgm
  have HGT := hid hgt
  have b3 : W.cell? ⟨G, 3, none⟩ = some (.string xe) := hB.cell 3
  have b4 : W.cell? ⟨G, 4, none⟩ = some (.bool xf) := hB.cell 4
  have b5 : W.cell? ⟨G, 5, none⟩ = some (.int .i64 xr) := hB.cell 5
  have b6 : W.cell? ⟨G, 6, none⟩ = some (.int .i64 xy) := hB.cell 6
  have lG := hB.lt
  have i1 : W.cell? ⟨I, 1, none⟩ = some (.int .i64 v.st) := HIW.out.i.b.cell 1
  have i3 : W.cell? ⟨I, 3, none⟩ = some (.slice (some ⟨gm, 0, none⟩) v.ms.length l.mc) := by rw [HIW.out.i.b.cell 3, ← hgm]; rfl
  have i4 : W.cell? ⟨I, 4, none⟩ = some (.slice (some ⟨gt, 0, none⟩) v.ts.length l.tc) := by rw [HIW.out.i.b.cell 4, ← hgt]; rfl
  have lIW := HIW.out.i.b.lt
  have hsz := HHS.out
  have hst : s < v.ts.length := by rw [HIW.out.i.tl]; exact hsz
  have hn2 : v.ts.length ≤ 1000 := by rw [HIW.out.i.tl]; exact hn
  obtain ⟨m, hm⟩ : ∃ m, v.ms[s]? = some m := ⟨_, List.getElem?_eq_getElem hsz⟩
  obtain ⟨q, hq⟩ : ∃ q, v.ts[s]? = some q := ⟨_, List.getElem?_eq_getElem hst⟩
  have cm : W.cell? ⟨gm, s, none⟩ = some (.int .i64 m) := HIW.out.i.mark hgm hm
  have ct : W.cell? ⟨gt, s, none⟩ = some (.int .i64 q) := HIW.out.i.try_ hgt hq
  have fm : W.frozen? ⟨gm, s, none⟩ = false := own_free (by have := HIW.out.i.m; rw [hgm] at this; exact this) s
  have hgG : gm ≠ G := fun e => by have := hGlt.out gm (.inr (.inl (by rw [hgm]; rfl))); omega
  have hmk : mkA v.ms s = m := by simp [mkA, List.getD, hm]
  have hqk : mkA v.ts s = q := by simp [mkA, List.getD, hq]
  have HMK := hid (And.intro hmk hqk)
  clear hgm hgt hB hb1 HI HI1 hGlt hm hq hmk hqk
  cases un with
  | true =>
    cases hz : (m == 4) with
    | true =>
      have HV := hid (show rpV Ls Bs v ⟨xn, xv2, xu, xe, xf, xr, xy, xw, xA, xc, xl⟩ s tr true code = uwV Ls Bs { v with ms := v.ms.set s 5 } from by
        unfold rpV
        rw [if_pos rfl, HMK.out.1, if_pos hz])
      obtain ⟨m1, m2⟩ := HIW.out.i.setMark (X := fun _ => False) HGM.out HHS.out 5
      have HU := hid (And.intro (HIW.out.upd m1 m2 (by simp)) (HMW.out.trans (Mw.of m2)))
      clear m1 m2
      have KU := hid (unwind_any HU.out.1 (by have := HO.out; simp only; omega) HA.out)
      go_wp2_with fail
      refine KU.out.mono ?_
      rintro e w5 ⟨rfl, ask', y', l', q1, q2, q3, q4⟩
      have HF := hid (And.intro q3 (HU.out.2.trans q4))
      clear q3 q4 KU HU
      have KE := hid (effects_any (X := fun _ => False) HF.out.1.i)
      go_wp2_with fail
      refine KE.out.mono ?_
      rintro e w9 ⟨rfl, E1, E2, E3⟩
      have HE := hid (effR_of (v := v) (l := l) (y := y) (w := w0) (ask := ask) HF.out.1 ⟨q1, q2⟩ HF.out.2 E1 E2 E3)
      clear E1 E2 E3 KE
      go_wp2_with fail
      go_ret2
      rw [HV.out]
      exact HE.out
    | false =>
      have HV := hid (show rpV Ls Bs v ⟨xn, xv2, xu, xe, xf, xr, xy, xw, xA, xc, xl⟩ s tr true code = v from by
        unfold rpV
        rw [if_pos rfl, HMK.out.1, if_neg (by rw [hz]; decide)])
      have KE := hid (effects_any (X := fun _ => False) HIW.out.i)
      go_wp2_with fail
      refine KE.out.mono ?_
      rintro e w9 ⟨rfl, E1, E2, E3⟩
      have HE := hid (effR_of (v := v) (l := l) (y := y) (w := w0) (ask := ask) HIW.out ⟨by omega, by omega⟩ HMW.out E1 E2 E3)
      clear E1 E2 E3 KE
      go_wp2_with fail
      go_ret2
      rw [HV.out]
      exact HE.out
  | false =>
    cases h1 : (v.st != 0) with
    | true =>
      have HV := hid (show rpV Ls Bs v ⟨xn, xv2, xu, xe, xf, xr, xy, xw, xA, xc, xl⟩ s tr false code = v from by
        unfold rpV
        rw [if_neg (by decide), if_pos (by rw [h1]; rfl)])
      have KE := hid (effects_any (X := fun _ => False) HIW.out.i)
      go_wp2_with fail
      refine KE.out.mono ?_
      rintro e w9 ⟨rfl, E1, E2, E3⟩
      have HE := hid (effR_of (v := v) (l := l) (y := y) (w := w0) (ask := ask) HIW.out ⟨by omega, by omega⟩ HMW.out E1 E2 E3)
      clear E1 E2 E3 KE
      go_wp2_with fail
      go_ret2
      rw [HV.out]
      exact HE.out
    | false =>
      cases h2 : (m != 1) with
      | true =>
        have HV := hid (show rpV Ls Bs v ⟨xn, xv2, xu, xe, xf, xr, xy, xw, xA, xc, xl⟩ s tr false code = v from by
          unfold rpV
          rw [if_neg (by decide), HMK.out.1, if_pos (by rw [h1, h2]; rfl)])
        have KE := hid (effects_any (X := fun _ => False) HIW.out.i)
        go_wp2_with fail
        refine KE.out.mono ?_
        rintro e w9 ⟨rfl, E1, E2, E3⟩
        have HE := hid (effR_of (v := v) (l := l) (y := y) (w := w0) (ask := ask) HIW.out ⟨by omega, by omega⟩ HMW.out E1 E2 E3)
        clear E1 E2 E3 KE
        go_wp2_with fail
        go_ret2
        rw [HV.out]
        exact HE.out
      | false =>
        cases h3 : (q != tr) with
        | true =>
          have HV := hid (show rpV Ls Bs v ⟨xn, xv2, xu, xe, xf, xr, xy, xw, xA, xc, xl⟩ s tr false code = v from by
            unfold rpV
            rw [if_neg (by decide), HMK.out.1, HMK.out.2, if_pos (by rw [h1, h2, h3]; rfl)])
          have KE := hid (effects_any (X := fun _ => False) HIW.out.i)
          go_wp2_with fail
          refine KE.out.mono ?_
          rintro e w9 ⟨rfl, E1, E2, E3⟩
          have HE := hid (effR_of (v := v) (l := l) (y := y) (w := w0) (ask := ask) HIW.out ⟨by omega, by omega⟩ HMW.out E1 E2 E3)
          clear E1 E2 E3 KE
          go_wp2_with fail
          go_ret2
          rw [HV.out]
          exact HE.out
        | false =>
          have HN3 := hid (show ¬ ((v.st != 0 || (mkA v.ms s != 1 || mkA v.ts s != tr)) = true) from by rw [HMK.out.1, HMK.out.2, h1, h2, h3]; decide)
          cases h4 : (code == 0) with
          | true =>
            have HV := hid (show rpV Ls Bs v ⟨xn, xv2, xu, xe, xf, xr, xy, xw, xA, xc, xl⟩ s tr false code = goV Ls Bs { v with ms := v.ms.set s 3 } from by
              unfold rpV
              rw [if_neg (by decide), if_neg HN3.out, if_pos (by rw [h4]; rfl)])
            obtain ⟨m1, m2⟩ := HIW.out.i.setMark (X := fun _ => False) HGM.out HHS.out 3
            have HU := hid (And.intro (HIW.out.upd m1 m2 (by simp)) (HMW.out.trans (Mw.of m2)))
            clear m1 m2
            have KU := hid (goOn_any HU.out.1 (by have := HO.out; simp only; omega))
            go_wp2_with fail
            refine KU.out.mono ?_
            rintro e w5 ⟨rfl, l', q3, q4⟩
            have HF := hid (And.intro q3 (HU.out.2.trans q4))
            clear q3 q4 KU HU
            have KE := hid (effects_any (X := fun _ => False) HF.out.1.i)
            go_wp2_with fail
            refine KE.out.mono ?_
            rintro e w9 ⟨rfl, E1, E2, E3⟩
            have HE := hid (effR_of (v := v) (l := l) (y := y) (w := w0) (ask := ask) HF.out.1 ⟨by omega, by omega⟩ HF.out.2 E1 E2 E3)
            clear E1 E2 E3 KE
            go_wp2_with fail
            go_ret2
            rw [HV.out]
            exact HE.out
          | false =>
            cases h5 : xe.toList.isEmpty with
            | true =>
              cases xf with
              | true =>
                have HV := hid (show rpV Ls Bs v ⟨xn, xv2, xu, xe, true, xr, xy, xw, xA, xc, xl⟩ s tr false code = goV Ls Bs { v with ms := v.ms.set s 3 } from by
                  unfold rpV
                  rw [if_neg (by decide), if_neg HN3.out, if_pos (by simp only; rw [h4, h5]; rfl)])
                obtain ⟨m1, m2⟩ := HIW.out.i.setMark (X := fun _ => False) HGM.out HHS.out 3
                have HU := hid (And.intro (HIW.out.upd m1 m2 (by simp)) (HMW.out.trans (Mw.of m2)))
                clear m1 m2
                have KU := hid (goOn_any HU.out.1 (by have := HO.out; simp only; omega))
                go_wp2_with fail
                refine KU.out.mono ?_
                rintro e w5 ⟨rfl, l', q3, q4⟩
                have HF := hid (And.intro q3 (HU.out.2.trans q4))
                clear q3 q4 KU HU
                have KE := hid (effects_any (X := fun _ => False) HF.out.1.i)
                go_wp2_with fail
                refine KE.out.mono ?_
                rintro e w9 ⟨rfl, E1, E2, E3⟩
                have HE := hid (effR_of (v := v) (l := l) (y := y) (w := w0) (ask := ask) HF.out.1 ⟨by omega, by omega⟩ HF.out.2 E1 E2 E3)
                clear E1 E2 E3 KE
                go_wp2_with fail
                go_ret2
                rw [HV.out]
                exact HE.out
              | false =>
                cases h7 : (code == 150) with
                | true =>
                  by_cases h8 : tr ≤ xr
                  · have HV := hid (show rpV Ls Bs v ⟨xn, xv2, xu, xe, false, xr, xy, xw, xA, xc, xl⟩ s tr false code = { v with ms := v.ms.set s 2, out := v.out ++ [⟨2, v.ord, s, 0, xy, false⟩] } from by
                      unfold rpV
                      rw [if_neg (by decide), if_neg HN3.out, if_neg (by simp only; rw [h4, h5]; decide), if_pos (by simp only; rw [h7, decide_eq_true h8]; rfl)])
                    obtain ⟨m1, m2⟩ := HIW.out.i.setMark (X := fun _ => False) HGM.out HHS.out 2
                    have HU := hid (And.intro (HIW.out.upd m1 m2 (by simp)) (HMW.out.trans (Mw.of m2)))
                    clear m1 m2
                    have KT := hid (tell_any (X := fun _ => False) HU.out.1.i (by have := HO.out; simp only; omega) 2 s 0 xy false)
                    go_wp2_with fail
                    refine KT.out.mono ?_
                    rintro e w7 ⟨rfl, OA', oc', T1, T2⟩
                    have HF := hid (And.intro (HU.out.1.upd T1 T2 rfl) (HU.out.2.trans (Mw.of T2)))
                    clear T1 T2 KT HU
                    obtain ⟨r, hr⟩ : ∃ r : Iv, r = { v with ms := v.ms.set s 2, out := v.out ++ [⟨2, v.ord, s, 0, xy, false⟩] } := ⟨_, rfl⟩
                    rw [← hr] at HF HV
                    clear hr
                    have KE := hid (effects_any (X := fun _ => False) HF.out.1.i)
                    go_wp2_with fail
                    refine KE.out.mono ?_
                    rintro e w9 ⟨rfl, E1, E2, E3⟩
                    have HE := hid (effR_of (v := v) (l := l) (y := y) (w := w0) (ask := ask) HF.out.1 ⟨by omega, by omega⟩ HF.out.2 E1 E2 E3)
                    clear E1 E2 E3 KE
                    go_wp2_with fail
                    go_ret2
                    rw [HV.out]
                    exact HE.out
                  · have HV := hid (show rpV Ls Bs v ⟨xn, xv2, xu, xe, false, xr, xy, xw, xA, xc, xl⟩ s tr false code = turnV Ls Bs { v with ms := v.ms.set s 5 } from by
                      unfold rpV
                      rw [if_neg (by decide), if_neg HN3.out, if_neg (by simp only; rw [h4, h5]; decide), if_neg (by simp only; rw [h7, decide_eq_false h8]; decide)])
                    obtain ⟨m1, m2⟩ := HIW.out.i.setMark (X := fun _ => False) HGM.out HHS.out 5
                    have HU := hid (And.intro (HIW.out.upd m1 m2 (by simp)) (HMW.out.trans (Mw.of m2)))
                    clear m1 m2
                    have KU := hid (turn_any HU.out.1 (by have := HO.out; simp only; omega) HA.out)
                    go_wp2_with fail
                    refine KU.out.mono ?_
                    rintro e w5 ⟨rfl, ask', y', l', q1, q2, q3, q4⟩
                    have HF := hid (And.intro q3 (HU.out.2.trans q4))
                    clear q3 q4 KU HU
                    have KE := hid (effects_any (X := fun _ => False) HF.out.1.i)
                    go_wp2_with fail
                    refine KE.out.mono ?_
                    rintro e w9 ⟨rfl, E1, E2, E3⟩
                    have HE := hid (effR_of (v := v) (l := l) (y := y) (w := w0) (ask := ask) HF.out.1 ⟨q1, q2⟩ HF.out.2 E1 E2 E3)
                    clear E1 E2 E3 KE
                    go_wp2_with fail
                    go_ret2
                    rw [HV.out]
                    exact HE.out
                | false =>
                  have HV := hid (show rpV Ls Bs v ⟨xn, xv2, xu, xe, false, xr, xy, xw, xA, xc, xl⟩ s tr false code = turnV Ls Bs { v with ms := v.ms.set s 5 } from by
                    unfold rpV
                    rw [if_neg (by decide), if_neg HN3.out, if_neg (by simp only; rw [h4, h5]; decide), if_neg (by simp only; rw [h7]; simp)])
                  obtain ⟨m1, m2⟩ := HIW.out.i.setMark (X := fun _ => False) HGM.out HHS.out 5
                  have HU := hid (And.intro (HIW.out.upd m1 m2 (by simp)) (HMW.out.trans (Mw.of m2)))
                  clear m1 m2
                  have KU := hid (turn_any HU.out.1 (by have := HO.out; simp only; omega) HA.out)
                  go_wp2_with fail
                  refine KU.out.mono ?_
                  rintro e w5 ⟨rfl, ask', y', l', q1, q2, q3, q4⟩
                  have HF := hid (And.intro q3 (HU.out.2.trans q4))
                  clear q3 q4 KU HU
                  have KE := hid (effects_any (X := fun _ => False) HF.out.1.i)
                  go_wp2_with fail
                  refine KE.out.mono ?_
                  rintro e w9 ⟨rfl, E1, E2, E3⟩
                  have HE := hid (effR_of (v := v) (l := l) (y := y) (w := w0) (ask := ask) HF.out.1 ⟨q1, q2⟩ HF.out.2 E1 E2 E3)
                  clear E1 E2 E3 KE
                  go_wp2_with fail
                  go_ret2
                  rw [HV.out]
                  exact HE.out
            | false =>
              cases h7 : (code == 150) with
              | true =>
                by_cases h8 : tr ≤ xr
                · have HV := hid (show rpV Ls Bs v ⟨xn, xv2, xu, xe, xf, xr, xy, xw, xA, xc, xl⟩ s tr false code = { v with ms := v.ms.set s 2, out := v.out ++ [⟨2, v.ord, s, 0, xy, false⟩] } from by
                    unfold rpV
                    rw [if_neg (by decide), if_neg HN3.out, if_neg (by simp only; rw [h4, h5]; simp), if_pos (by simp only; rw [h7, decide_eq_true h8]; rfl)])
                  obtain ⟨m1, m2⟩ := HIW.out.i.setMark (X := fun _ => False) HGM.out HHS.out 2
                  have HU := hid (And.intro (HIW.out.upd m1 m2 (by simp)) (HMW.out.trans (Mw.of m2)))
                  clear m1 m2
                  have KT := hid (tell_any (X := fun _ => False) HU.out.1.i (by have := HO.out; simp only; omega) 2 s 0 xy false)
                  go_wp2_with fail
                  refine KT.out.mono ?_
                  rintro e w7 ⟨rfl, OA', oc', T1, T2⟩
                  have HF := hid (And.intro (HU.out.1.upd T1 T2 rfl) (HU.out.2.trans (Mw.of T2)))
                  clear T1 T2 KT HU
                  obtain ⟨r, hr⟩ : ∃ r : Iv, r = { v with ms := v.ms.set s 2, out := v.out ++ [⟨2, v.ord, s, 0, xy, false⟩] } := ⟨_, rfl⟩
                  rw [← hr] at HF HV
                  clear hr
                  have KE := hid (effects_any (X := fun _ => False) HF.out.1.i)
                  go_wp2_with fail
                  refine KE.out.mono ?_
                  rintro e w9 ⟨rfl, E1, E2, E3⟩
                  have HE := hid (effR_of (v := v) (l := l) (y := y) (w := w0) (ask := ask) HF.out.1 ⟨by omega, by omega⟩ HF.out.2 E1 E2 E3)
                  clear E1 E2 E3 KE
                  go_wp2_with fail
                  go_ret2
                  rw [HV.out]
                  exact HE.out
                · have HV := hid (show rpV Ls Bs v ⟨xn, xv2, xu, xe, xf, xr, xy, xw, xA, xc, xl⟩ s tr false code = turnV Ls Bs { v with ms := v.ms.set s 5 } from by
                    unfold rpV
                    rw [if_neg (by decide), if_neg HN3.out, if_neg (by simp only; rw [h4, h5]; simp), if_neg (by simp only; rw [h7, decide_eq_false h8]; decide)])
                  obtain ⟨m1, m2⟩ := HIW.out.i.setMark (X := fun _ => False) HGM.out HHS.out 5
                  have HU := hid (And.intro (HIW.out.upd m1 m2 (by simp)) (HMW.out.trans (Mw.of m2)))
                  clear m1 m2
                  have KU := hid (turn_any HU.out.1 (by have := HO.out; simp only; omega) HA.out)
                  go_wp2_with fail
                  refine KU.out.mono ?_
                  rintro e w5 ⟨rfl, ask', y', l', q1, q2, q3, q4⟩
                  have HF := hid (And.intro q3 (HU.out.2.trans q4))
                  clear q3 q4 KU HU
                  have KE := hid (effects_any (X := fun _ => False) HF.out.1.i)
                  go_wp2_with fail
                  refine KE.out.mono ?_
                  rintro e w9 ⟨rfl, E1, E2, E3⟩
                  have HE := hid (effR_of (v := v) (l := l) (y := y) (w := w0) (ask := ask) HF.out.1 ⟨q1, q2⟩ HF.out.2 E1 E2 E3)
                  clear E1 E2 E3 KE
                  go_wp2_with fail
                  go_ret2
                  rw [HV.out]
                  exact HE.out
              | false =>
                have HV := hid (show rpV Ls Bs v ⟨xn, xv2, xu, xe, xf, xr, xy, xw, xA, xc, xl⟩ s tr false code = turnV Ls Bs { v with ms := v.ms.set s 5 } from by
                  unfold rpV
                  rw [if_neg (by decide), if_neg HN3.out, if_neg (by simp only; rw [h4, h5]; simp), if_neg (by simp only; rw [h7]; simp)])
                obtain ⟨m1, m2⟩ := HIW.out.i.setMark (X := fun _ => False) HGM.out HHS.out 5
                have HU := hid (And.intro (HIW.out.upd m1 m2 (by simp)) (HMW.out.trans (Mw.of m2)))
                clear m1 m2
                have KU := hid (turn_any HU.out.1 (by have := HO.out; simp only; omega) HA.out)
                go_wp2_with fail
                refine KU.out.mono ?_
                rintro e w5 ⟨rfl, ask', y', l', q1, q2, q3, q4⟩
                have HF := hid (And.intro q3 (HU.out.2.trans q4))
                clear q3 q4 KU HU
                have KE := hid (effects_any (X := fun _ => False) HF.out.1.i)
                go_wp2_with fail
                refine KE.out.mono ?_
                rintro e w9 ⟨rfl, E1, E2, E3⟩
                have HE := hid (effR_of (v := v) (l := l) (y := y) (w := w0) (ask := ask) HF.out.1 ⟨q1, q2⟩ HF.out.2 E1 E2 E3)
                clear E1 E2 E3 KE
                go_wp2_with fail
                go_ret2
                rw [HV.out]
                exact HE.out
end

end Go.Proofs.YtoemmakhbiiknaaGreat

namespace Go.Proofs.YtoemmakhbiiknaaGreat
open Go.RowKit
set_option linter.unusedVariables false

theorem eqFields_same {P : Program} {d : Nat} {xs : Array Value} : ∀ (fs : List Field), (∀ f ∈ fs, ∃ v, (∀ w, (part f.type xs f.offset).run P w = .ok v w) ∧ ∀ w, (Op.equalIn d f.type v v).run P w = .ok true w) → ∀ w, (Op.eqFields d xs xs fs).run P w = .ok true w
  | [], _, w => by simp [Op.eqFields]
  | f :: fs, h, w => by
    obtain ⟨v, h1, h2⟩ := h f (by simp)
    simp only [Op.eqFields]
    split
    · simp [h1, h2]
      exact eqFields_same fs (fun g hg => h g (by simp [hg])) w
    · exact eqFields_same fs (fun g hg => h g (by simp [hg])) w

/-- A scalar's field, read out of a struct, is equal to itself. -/
def SameAt (P : Program) (xs : Array Value) (q : TypeId × Nat) : Prop := ∃ v, (∀ w, (part q.1 xs q.2).run P w = .ok v w) ∧ ∀ w, (Op.equalIn 9999 q.1 v v).run P w = .ok true w
theorem sameAt_int {P : Program} {xs : Array Value} {t : TypeId} {o : Nat} {k k' : IntKind} {n : Int} (hu : P.underlying t = some (.int k')) (ha : ∀ w, (isAgg t).run P w = .ok false w) (hx : xs[o]? = some (.int k n)) : SameAt P xs (t, o) :=
  ⟨.int k n, fun w => by unfold part; simp [ha, hx], fun w => by
    have := run_equalIn_int (P := P) w 9998 t k k' n n hu
    simpa using this⟩
theorem sameAt_bool {P : Program} {xs : Array Value} {t : TypeId} {o : Nat} {b : Bool} (hu : P.underlying t = some .bool) (ha : ∀ w, (isAgg t).run P w = .ok false w) (hx : xs[o]? = some (.bool b)) : SameAt P xs (t, o) :=
  ⟨.bool b, fun w => by unfold part; simp [ha, hx], fun w => by
    have := run_equalIn_bool' (P := P) w 9998 t b b hu
    simpa using this⟩
theorem sameAt_str {P : Program} {xs : Array Value} {t : TypeId} {o : Nat} {s : ByteArray} (hu : P.underlying t = some .string) (ha : ∀ w, (isAgg t).run P w = .ok false w) (hx : xs[o]? = some (.string s)) : SameAt P xs (t, o) :=
  ⟨.string s, fun w => by unfold part; simp [ha, hx], fun w => by
    have := run_equalIn_string (P := P) w 9998 t s s hu
    simpa using this⟩

theorem agg_same {P : Program} {t : TypeId} {xs : Array Value} {L : List (TypeId × Nat)} (ht : P.underlying t = some (.struct (P.fieldsOf t))) (hp : P.stoodInHeld t = false) (hL : (P.fieldsOf t).toList.map (fun f => (f.type, f.offset)) = L) (h : ∀ q ∈ L, SameAt P xs q) (w : World) :
    (Op.equalIn 10000 t (.agg xs) (.agg xs)).run P w = .ok true w := by
  have := run_equalIn_struct (P := P) w 9999 t xs xs ht hp
  rw [this]
  refine eqFields_same _ (fun f hf => ?_) w
  exact h (f.type, f.offset) (by rw [← hL]; exact List.mem_map.2 ⟨f, hf, rfl⟩)

end Go.Proofs.YtoemmakhbiiknaaGreat

namespace Go.Proofs.YtoemmakhbiiknaaGreat
open Go.RowKit Go.WideShapes Go.ChangeShapes Go.ChangeAt Go.Deep
set_option linter.unusedVariables false

abbrev wkH : ByteArray := ⟨#[104, 111, 108, 100]⟩
abbrev wkP : ByteArray := ⟨#[112, 105, 99, 107]⟩
abbrev wkCH : ByteArray := ⟨#[99, 114, 101, 100, 105, 116, 46, 104, 111, 108, 100]⟩
abbrev wkCR : ByteArray := ⟨#[99, 114, 101, 100, 105, 116, 46, 114, 101, 108, 101, 97, 115, 101]⟩
abbrev wkSA : ByteArray := ⟨#[115, 116, 111, 99, 107, 46, 97, 108, 108, 111, 99, 97, 116, 101]⟩
abbrev wkSF : ByteArray := ⟨#[115, 116, 111, 99, 107, 46, 102, 114, 101, 101]⟩
def wkS0 : Stp := ⟨wkH, wkCH, wkCR, ⟨#[]⟩, false, 0, 0, 0, none, 0, []⟩
def wkS1 (ga : Option Addr) : Stp := ⟨wkP, wkSA, wkSF, ⟨#[]⟩, false, 1, 5, 0, ga, 1, [wkH]⟩
def wkM (ga : Option Addr) : List Stp := [wkS0, wkS1 ga]
theorem wkM_grf (ga : Option Addr) : grf (wkM ga) = [[], [0]] := by
  show grf (wkM none) = _
  decide +kernel
theorem wkM_ord (ga : Option Addr) : ordN (grf (wkM ga)) 2 = [0, 1] := by
  rw [wkM_grf]
  decide +kernel
theorem adj_wkM (i k : Nat) (h : k ∈ adj [[], [0]] i) : i = 1 ∧ k = 0 := by
  match i, h with
  | 0, h => simp [adj] at h
  | 1, h => simpa [adj] using h
  | n + 2, h => simp [adj] at h
theorem wkM_acy : Acy [[], [0]] := by
  have key : ∀ {i k : Nat}, Rch [[], [0]] i k → i = 1 ∧ k = 0 := by
    intro i k h
    induction h with
    | one h => exact adj_wkM _ _ h
    | step h r ih =>
      have h1 := adj_wkM _ _ h
      omega
  intro i h
  have := key h
  omega
theorem wkM_check (ga : Option Addr) : checkN (wkM ga) = 0 := by
  rw [checkN_zero_iff, wkM_grf]
  refine ⟨⟨?_, ?_⟩, wkM_acy, ?_, ?_⟩
  · show ([wkH, wkP] : List ByteArray).Nodup
    decide +kernel
  · show ∀ s ∈ wkM ga, ∀ a ∈ s.after, a ∈ [wkH, wkP]
    intro s hs a ha
    simp only [wkM, List.mem_cons, List.not_mem_nil, or_false] at hs
    rcases hs with rfl | rfl <;> simp [wkS0, wkS1] at ha <;> subst ha <;> simp
  · rintro ⟨i, s, hs, hf, _⟩
    have hs := List.mem_of_getElem? hs
    simp only [wkM, List.mem_cons, List.not_mem_nil, or_false] at hs
    rcases hs with rfl | rfl <;> simp [isFin, wkS0, wkS1] at hf
  · intro s hs
    simp only [wkM, List.mem_cons, List.not_mem_nil, or_false] at hs
    rcases hs with rfl | rfl
    · decide +kernel
    · show oneN (wkS1 none) = 0
      decide +kernel
/-- What the plan holds. -/
theorem wkM_rows {ga : Option Addr} {Ls : List Stp} {Bs : List IRow} (h : PlG (wkM ga) [0, 1] Ls Bs) : ∃ (A0 : Option Addr) (c0 : Nat) (A1 : Option Addr) (c1 : Nat) (b0 b1 : IRow), Ls = [twn wkS0 A0 c0, twn (wkS1 ga) A1 c1] ∧ Bs = [b0, b1] ∧ b0.xs = [] ∧ b1.xs = [0] ∧ RowsOk Ls Bs := by
  obtain ⟨s, A0, c0, h1, h2⟩ := h.step 0 0 rfl
  obtain rfl : s = wkS0 := by
    have h1' : some wkS0 = some s := h1
    exact (Option.some.inj h1').symm
  obtain ⟨s, A1, c1, h3, h4⟩ := h.step 1 1 rfl
  obtain rfl : s = wkS1 ga := by
    have h1' : some (wkS1 ga) = some s := h3
    exact (Option.some.inj h1').symm
  have hg := wkM_grf ga
  obtain ⟨b0, r0, g0⟩ := h.row 0 0 rfl
  obtain ⟨b1, r1, g1⟩ := h.row 1 1 rfl
  rw [hg] at g0 g1
  have e0 : b0.xs = [] := List.eq_nil_iff_forall_not_mem.2 (fun x hx => by
    obtain ⟨k, hk, _⟩ := (g0.2 x).1 hx
    have := adj_wkM _ _ hk
    omega)
  have e1 : b1.xs = [0] := rise_one g1.1 (fun y => by
    rw [g1.2]
    constructor
    · rintro ⟨k, hk, rfl⟩
      obtain ⟨_, rfl⟩ := adj_wkM _ _ hk
      decide
    · rintro rfl
      exact ⟨0, by decide, by decide⟩)
  have ho : OrdOk (grf (wkM ga)) [0, 1] := by
    rw [← wkM_ord ga]
    exact ordN_ok _ _
  have hL := h.ls
  have hB := h.bs
  have hr := h.rows ho (by decide)
  match Ls, hL, h2, h4 with
  | [x, y], _, h2, h4 =>
    match Bs, hB, r0, r1 with
    | [a, b], _, r0, r1 =>
      simp at h2 h4 r0 r1
      subst h2 h4 r0 r1
      exact ⟨A0, c0, A1, c1, a, b, rfl, rfl, e0, e1, hr⟩
theorem wk_st0 (A0 A1 ga : Option Addr) (c0 c1 : Nat) (b0 b1 : IRow) (h0 : b0.xs = []) (h1 : b1.xs = [0]) : goV [twn wkS0 A0 c0, twn (wkS1 ga) A1 c1] [b0, b1] (newV 7 2) = ⟨7, 0, false, [1, 0], [1, 0], [⟨1, 7, 0, 1, 0, false⟩]⟩ := by
  obtain ⟨a0, k0, x0⟩ := b0
  obtain ⟨a1, k1, x1⟩ := b1
  simp only at h0 h1
  subst h0 h1
  kernel_rfl
theorem wk_st1 (A0 A1 ga : Option Addr) (c0 c1 : Nat) (b0 b1 : IRow) (h0 : b0.xs = []) (h1 : b1.xs = [0]) : rpV [twn wkS0 A0 c0, twn (wkS1 ga) A1 c1] [b0, b1] ⟨7, 0, false, [1, 0], [1, 0], []⟩ (twn wkS0 A0 c0) 0 1 false 0 = ⟨7, 0, false, [3, 1], [1, 1], [⟨1, 7, 1, 1, 0, false⟩]⟩ := by
  obtain ⟨a0, k0, x0⟩ := b0
  obtain ⟨a1, k1, x1⟩ := b1
  simp only at h0 h1
  subst h0 h1
  kernel_rfl
theorem wk_st2 (A0 A1 ga : Option Addr) (c0 c1 : Nat) (b0 b1 : IRow) (h0 : b0.xs = []) (h1 : b1.xs = [0]) : rpV [twn wkS0 A0 c0, twn (wkS1 ga) A1 c1] [b0, b1] ⟨7, 0, false, [3, 1], [1, 1], []⟩ (twn (wkS1 ga) A1 c1) 1 1 false 150 = ⟨7, 0, false, [3, 2], [1, 1], [⟨2, 7, 1, 0, 5, false⟩]⟩ := by
  obtain ⟨a0, k0, x0⟩ := b0
  obtain ⟨a1, k1, x1⟩ := b1
  simp only at h0 h1
  subst h0 h1
  kernel_rfl
theorem isAgg_int13 (w : World) : (isAgg 3).run Tryz.prog w = .ok false w := by kernel_rfl
theorem isAgg_kind13 (w : World) : (isAgg 53).run Tryz.prog w = .ok false w := by kernel_rfl
theorem isAgg_bool13 (w : World) : (isAgg 4).run Tryz.prog w = .ok false w := by kernel_rfl
theorem same_eff13 (f : Eff) (w : World) : (Op.equalIn 10000 55 (.agg #[.int .i64 f.kind, .int .i64 f.order, .int .i64 f.step, .int .i64 f.tr, .int .i64 f.ticks, .bool f.undo]) (.agg #[.int .i64 f.kind, .int .i64 f.order, .int .i64 f.step, .int .i64 f.tr, .int .i64 f.ticks, .bool f.undo])).run Tryz.prog w = .ok true w := by
  refine agg_same (L := [(53, 0), (3, 1), (3, 2), (3, 3), (3, 4), (4, 5)]) (by kernel_rfl) (by kernel_rfl) (by kernel_rfl) ?_ w
  intro q hq
  simp only [List.mem_cons, List.not_mem_nil, or_false] at hq
  rcases hq with rfl | rfl | rfl | rfl | rfl | rfl
  · exact sameAt_int Tryz.underlying53 isAgg_kind13 rfl
  · exact sameAt_int Tryz.underlying3 isAgg_int13 rfl
  · exact sameAt_int Tryz.underlying3 isAgg_int13 rfl
  · exact sameAt_int Tryz.underlying3 isAgg_int13 rfl
  · exact sameAt_int Tryz.underlying3 isAgg_int13 rfl
  · exact sameAt_bool Tryz.underlying4 isAgg_bool13 rfl
theorem guard_eff13 : Tryz.prog.eqGuardType Tryz.prog.depth 55 = false := by kernel_rfl
theorem Mw.below {base base2 I P n0 : Nat} {nm : ByteArray} {Ls : List Stp} {Bs : List IRow} {ask : Int} {y y' : Pw} {v v' : Iv} {l l' : Il} {w0 w w' : World} (hm : Mw I P Ls Bs y v l y' v' l' w w') (hb : Below n0 w0 w) (hI : InP base base2 I P nm Ls Bs ask y v l w) (h1 : n0 ≤ base) (h2 : n0 ≤ P) : Below n0 w0 w' :=
  hb.trans (hm.m.t.below (by have := (hI.i.use (.inl rfl : IU I v l I)); omega) (fun k hk => by
    rcases hk with hk | hk
    · have := (hI.i.use hk).1; omega
    · rw [hk]; exact h2))
theorem wk_comp13 {wc : World} {gs ga : Nat} (hs : Blk wc gs 69 #[.string wkH, .string wkCH, .string wkCR, .string ⟨#[]⟩, .bool false, .int .i64 0, .int .i64 0, .int .i64 0, .slice none 0 0, .string wkP, .string wkSA, .string wkSF, .string ⟨#[]⟩, .bool false, .int .i64 1, .int .i64 5, .int .i64 0, .slice (some ⟨ga, 0, none⟩) 1 1]) (ha : Blk wc ga 9 #[.string wkH]) :
    Calls Tryz.prog 25 #[.agg #[.string ⟨#[97]⟩, .slice (some ⟨gs, 0, none⟩) 2 2]] wc fun e w' => ∃ P Ls Bs, e = .returned (.tuple #[.pointer (some ⟨P, 0, none⟩), .int .i64 0]) ∧ (∃ y, PlY wc.heap.size ⟨#[97]⟩ P Ls Bs 0 y w') ∧ (∃ (A0 : Option Addr) (c0 : Nat) (A1 : Option Addr) (c1 : Nat) (b0 b1 : IRow), Ls = [twn wkS0 A0 c0, twn (wkS1 (some ⟨ga, 0, none⟩)) A1 c1] ∧ Bs = [b0, b1] ∧ b0.xs = [] ∧ b1.xs = [0]) ∧ Below wc.heap.size wc w' := by
  refine (compile_any ⟨#[97]⟩ (wkM (some ⟨ga, 0, none⟩)) (some ⟨gs, 0, none⟩) 2 wc (hs.rd12 rfl) (fun s hm => ?_) (by show 2 ≤ 1000; omega)).mono ?_
  · simp only [wkM, List.mem_cons, List.not_mem_nil, or_false] at hm
    rcases hm with rfl | rfl
    · exact ⟨Rd.nil _ _, show 0 * 16 ≤ 140737488355328 by omega⟩
    · exact ⟨ha.rd12 rfl, show 1 * 16 ≤ 140737488355328 by omega⟩
  · rintro e w2 ⟨hbw, ⟨h1, _⟩ | ⟨_, P, vS, vB, Ls, Bs, rfl, hp, hg⟩⟩
    · exact absurd (wkM_check _) h1
    · have : (wkM (some ⟨ga, 0, none⟩)).length = 2 := rfl
      rw [this, wkM_ord] at hg
      obtain ⟨A0, c0, A1, c1, b0, b1, rfl, rfl, e0, e1, hr⟩ := wkM_rows hg
      refine ⟨P, _, _, rfl, ⟨⟨vS, vB, .slice none 0 0, [], false⟩, hp.plw, fun e => (by cases e), fun _ => rfl, hr, ?_⟩, ⟨A0, c0, A1, c1, b0, b1, rfl, rfl, e0, e1⟩, hbw⟩
      intro s hs
      simp only [List.mem_cons, List.not_mem_nil, or_false] at hs
      rcases hs with rfl | rfl
      · show 0 * 16 ≤ _; omega
      · show 1 * 16 ≤ _; omega
set_option maxRecDepth 100000 in
set_option maxHeartbeats 16000000 in
theorem wakes13 (w : World) : Calls Tryz.prog 8 #[] w fun e w' => e = .returned (.bool true) ∧ Below w.heap.size w w' := by
  have hA := (Blk.new w 9 #[.string wkH]).alloc (.cells #[.string wkH, .string wkCH, .string wkCR, .string ⟨#[]⟩, .bool false, .int .i64 0, .int .i64 0, .int .i64 0, .slice none 0 0, .string wkP, .string wkSA, .string wkSF, .string ⟨#[]⟩, .bool false, .int .i64 1, .int .i64 5, .int .i64 0, .slice (some ⟨w.heap.size, 0, none⟩) 1 1] 69)
  have hS := Blk.new (w.alloc (.cells #[.string wkH] 9)) 69 #[.string wkH, .string wkCH, .string wkCR, .string ⟨#[]⟩, .bool false, .int .i64 0, .int .i64 0, .int .i64 0, .slice none 0 0, .string wkP, .string wkSA, .string wkSF, .string ⟨#[]⟩, .bool false, .int .i64 1, .int .i64 5, .int .i64 0, .slice (some ⟨w.heap.size, 0, none⟩) 1 1]
  rw [World.size_alloc] at hS
  have hb2 : Below w.heap.size w ((w.alloc (.cells #[.string wkH] 9)).alloc (.cells #[.string wkH, .string wkCH, .string wkCR, .string ⟨#[]⟩, .bool false, .int .i64 0, .int .i64 0, .int .i64 0, .slice none 0 0, .string wkP, .string wkSA, .string wkSF, .string ⟨#[]⟩, .bool false, .int .i64 1, .int .i64 5, .int .i64 0, .slice (some ⟨w.heap.size, 0, none⟩) 1 1] 69)) := ((Below.refl _ _).alloc (Nat.le_refl _) _).alloc (by simp) _
  have KC := hid (wk_comp13 hS hA)
  have HB2 := hid hb2
  clear hA hS hb2
  go_enter Tryz.func8, Tryz.ntmps8
  go_wp2_with fail
  refine KC.out.mono ?_
  rintro e w2 ⟨P, Ls, Bs, rfl, ⟨y, hP⟩, ⟨A0, c0, A1, c1, b0, b1, rfl, rfl, e0, e1⟩, hb3⟩
  have HP := hid hP
  have HB3 := hid (bthen HB2.out hb3)
  have HE := hid (And.intro e0 e1)
  have HLO := hid (Nat.le_trans HB2.out.size hP.p.lo)
  have KN := hid (enew_any w2)
  clear hP hb3 KC e0 e1
  generalize ((w.alloc (.cells #[.string wkH] 9)).alloc (.cells #[.string wkH, .string wkCH, .string wkCR, .string ⟨#[]⟩, .bool false, .int .i64 0, .int .i64 0, .int .i64 0, .slice none 0 0, .string wkP, .string wkSA, .string wkSF, .string ⟨#[]⟩, .bool false, .int .i64 1, .int .i64 5, .int .i64 0, .slice (some ⟨w.heap.size, 0, none⟩) 1 1] 69)).heap.size = bp at HP
  generalize (some ⟨w.heap.size, 0, none⟩ : Option Addr) = ga at HP
  go_wp2_with fail
  refine KN.out.mono ?_
  rintro e w3 ⟨X, M, rfl, hE, hb3⟩
  have HW3 := hid (bthen HB3.out hb3)
  have HXM := hid (show w.heap.size ≤ X ∧ w.heap.size ≤ M from by have := hE.low; have := HB3.out.size; omega)
  have KS := hid (start_any (HP.out.next hb3) hE 7 rfl)
  clear KN hE hb3 HP
  go_wp2_with fail
  refine KS.out.mono ?_
  rintro e w4 ⟨I, OA, oc, l4, rfl, hI4, hE4, hT4, hO4, hl4⟩
  clear KS
  rw [show ([twn wkS0 A0 c0, twn (wkS1 ga) A1 c1] : List Stp).length = 2 from rfl, wk_st0 A0 A1 ga c0 c1 b0 b1 HE.out.1 HE.out.2] at hI4 hO4 ⊢
  simp only [List.length_cons, List.length_nil, Nat.zero_add] at hO4 ⊢
  have hI4 : InP w3.heap.size bp I P ⟨#[97]⟩ [twn wkS0 A0 c0, twn (wkS1 ga) A1 c1] [b0, b1] 0 y ⟨7, 0, false, [1, 0], [1, 0], []⟩ l4 w4 := hI4
  have HW4 := hid (HW3.out.trans (hT4.below HW3.out.size (fun k hk => by
    rcases hk with hk | hk
    · rw [hk]; exact HXM.out.2
    · rw [hk]; exact HLO.out)))
  have HI4 := hid hI4
  have HE4 := hid hE4
  have HO4 := hid hO4
  have HIlo := hid (Nat.le_trans HW3.out.size hI4.i.lo)
  have HAT4 := at_some hE4 7 0 rfl hI4.i
  rw [if_pos (by decide)] at HAT4
  have KR := hid (reply_any hI4 (by decide) (by decide) (.pointer (some ⟨X, 0, none⟩)) 7 1 0 false 0 _ rfl HAT4)
  rw [wk_st1 A0 A1 ga c0 c1 b0 b1 HE.out.1 HE.out.2] at KR
  have HL4 := hid hl4
  clear hI4 hE4 hT4 hO4 hl4 HAT4
  go_wp2_with fail
  refine KR.out.mono ?_
  rintro e w5 ⟨OB, ob, ask5, y5, l5, rfl, ha5, hI5, hM5, hO5, hl5⟩
  clear KR
  simp only [List.length_cons, List.length_nil, Nat.zero_add] at hO5 ⊢
  have hI5 : InP w3.heap.size bp I P ⟨#[97]⟩ [twn wkS0 A0 c0, twn (wkS1 ga) A1 c1] [b0, b1] ask5 y5 ⟨7, 0, false, [3, 1], [1, 1], []⟩ l5 w5 := hI5
  have hE5 := HE4.out.mw HI4.out hM5
  have HO45 := hid (eff_keep HO4.out HI4.out HL4.out hM5)
  have HW5 := hid (hM5.below HW4.out HI4.out HW3.out.size HLO.out)
  have HAT5 := at_some hE5 7 1 rfl hI5.i
  rw [if_pos (by decide)] at HAT5
  have KR := hid (reply_any hI5 (by decide) (by omega) (.pointer (some ⟨X, 0, none⟩)) 7 1 150 false 1 _ rfl HAT5)
  rw [wk_st2 A0 A1 ga c0 c1 b0 b1 HE.out.1 HE.out.2] at KR
  have HI5 := hid hI5
  have HO5 := hid hO5
  have HL5 := hid hl5
  clear hI5 hE5 hO5 hl5 HAT5 hM5 ha5 HO4 HE4
  go_wp2_with fail
  refine KR.out.mono ?_
  rintro e w6 ⟨OC, oc6, ask6, y6, l6, rfl, ha6, hI6, hM6, hO6, hl6⟩
  clear KR
  simp only [List.length_cons, List.length_nil, Nat.zero_add] at hO6 ⊢
  have hO46 := eff_keep HO45.out HI5.out HL5.out hM6
  have hO56 := eff_keep HO5.out HI5.out HL5.out hM6
  have HW6 := hid (hM6.below HW5.out HI5.out HW3.out.size HLO.out)
  have len6 : ∀ f : Eff, (enEf f).length = 6 := enEf_len
  obtain ⟨ga6, ca, e', hbg, hgl⟩ := own_form hO46 (by decide)
  simp only [Value.slice.injEq] at e'
  obtain ⟨rfl, -, rfl⟩ := e'
  obtain ⟨gb6, cb, e', hbgb, hglb⟩ := own_form hO56 (by decide)
  simp only [Value.slice.injEq] at e'
  obtain ⟨rfl, -, rfl⟩ := e'
  obtain ⟨gc6, cc, e', hbgc, hglc⟩ := own_form hO6 (by decide)
  simp only [Value.slice.injEq] at e'
  obtain ⟨rfl, -, rfl⟩ := e'
  have a0 : w6.cell? ⟨ga6, 0, none⟩ = some (.int .i64 1) := own_cells (k := 0) (j := 0) enEf_len hO46 rfl rfl
  have a1 : w6.cell? ⟨ga6, 1, none⟩ = some (.int .i64 7) := own_cells (k := 0) (j := 1) enEf_len hO46 rfl rfl
  have a2 : w6.cell? ⟨ga6, 2, none⟩ = some (.int .i64 0) := own_cells (k := 0) (j := 2) enEf_len hO46 rfl rfl
  have a3 : w6.cell? ⟨ga6, 3, none⟩ = some (.int .i64 1) := own_cells (k := 0) (j := 3) enEf_len hO46 rfl rfl
  have a4 : w6.cell? ⟨ga6, 4, none⟩ = some (.int .i64 0) := own_cells (k := 0) (j := 4) enEf_len hO46 rfl rfl
  have a5 : w6.cell? ⟨ga6, 5, none⟩ = some (.bool false) := own_cells (k := 0) (j := 5) enEf_len hO46 rfl rfl
  have b2 : w6.cell? ⟨gb6, 2, none⟩ = some (.int .i64 1) := own_cells (k := 0) (j := 2) enEf_len hO56 rfl rfl
  have d0 : w6.cell? ⟨gc6, 0, none⟩ = some (.int .i64 2) := own_cells (k := 0) (j := 0) enEf_len hO6 rfl rfl
  have d1 : w6.cell? ⟨gc6, 1, none⟩ = some (.int .i64 7) := own_cells (k := 0) (j := 1) enEf_len hO6 rfl rfl
  have d2 : w6.cell? ⟨gc6, 2, none⟩ = some (.int .i64 1) := own_cells (k := 0) (j := 2) enEf_len hO6 rfl rfl
  have d3 : w6.cell? ⟨gc6, 3, none⟩ = some (.int .i64 0) := own_cells (k := 0) (j := 3) enEf_len hO6 rfl rfl
  have d4 : w6.cell? ⟨gc6, 4, none⟩ = some (.int .i64 5) := own_cells (k := 0) (j := 4) enEf_len hO6 rfl rfl
  have d5 : w6.cell? ⟨gc6, 5, none⟩ = some (.bool false) := own_cells (k := 0) (j := 5) enEf_len hO6 rfl rfl
  have hs1 := same_eff13 ⟨1, 7, 0, 1, 0, false⟩
  have hs2 := same_eff13 ⟨2, 7, 1, 0, 5, false⟩
  simp only at hs1 hs2
  have hgd := guard_eff13
  clear hI6 hM6 hO6 hl6 hO46 hO56 hbg hgl hbgb hglb hbgc hglc ha6 len6
  go_wp2_with fail
  go_ret
  exact ⟨rfl, HW6.out⟩

end Go.Proofs.YtoemmakhbiiknaaGreat
