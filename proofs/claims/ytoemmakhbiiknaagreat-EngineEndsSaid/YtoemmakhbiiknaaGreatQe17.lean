/-
  Layer 13: the laws' ints, same, sameSaved.
  EngineAlone: all instances, all plans, the document's engine: what a call keeps of them.
  EngineAlone: the engine's calls over all instances.
  EngineAlone: the laws' step, of an operation that starts or puts or does nothing.
-/
import Derived.Test.YtoemmakhbiiknaaGreatQe16
import Derived.Deep.RegionHeldLaw
namespace Go.Proofs.YtoemmakhbiiknaaGreat
open Go.RowKit Go.WideShapes Go.ChangeShapes Go.ChangeAt Go.Deep
set_option linter.unusedVariables false

set_option maxRecDepth 100000 in
set_option maxHeartbeats 16000000 in
theorem ints13_any (xs : List Int) (A : Option Addr) (cp : Nat) (w : World) (hR : Rd w A (xs.flatMap en1)) (hl : xs.length * 8 ≤ 140737488351232) :
    Calls Tryz.prog 41 #[.slice A xs.length cp] w (NewRowOf en1 3 1 xs w) := by
  obtain ⟨i0, hi, hz0, hz1, hz2⟩ := info_parts info_int13
  have HR := hid hR
  clear hR
  go_enter Tryz.func41, Tryz.ntmps41
  go_wp2_with fail
  go_loopw [3, 8] (fun r i wr => ∃ (k : Nat) (OA : Option Addr) (oc : Nat), k ≤ xs.length ∧ r = .slice OA (xs.take k).length oc ∧ i = .int .i64 k ∧ Hid (wr.ownsRow w.heap.size 3 1 (.slice OA (xs.take k).length oc) (xs.take k).length ((xs.take k).flatMap en1)) ∧ Hid (Below w.heap.size w wr)) (fun _ i _ => xs.length - nOf i)
  case atStart => exact ⟨0, none, 0, Nat.zero_le _, rfl, rfl, hid (World.ownsRow_nil _ _ _ _), hid (Below.refl _ _)⟩
  case round =>
    obtain ⟨k, OA, oc, hk, rfl, rfl, HO, HB⟩ := hrel
    by_cases hlt : k < xs.length
    · obtain ⟨x, hx⟩ : ∃ x, xs[k]? = some x := ⟨xs[k], List.getElem?_eq_getElem hlt⟩
      obtain ⟨b, off, hAA, _, hcc⟩ := (HR.out.below HB.out).at_ 1 (fun _ => rfl) (by omega) hx
      have q0 : wr.cell? ⟨b, off + k * 1, none⟩ = some (.int .i64 x) := hcc 0 _ rfl
      rw [Nat.mul_one] at q0
      have HTK := hid (take_succ_of hx)
      have htl : (xs.take k).length = k := by rw [List.length_take]; omega
      have HBZ := HB.out.size
      generalize xs.take k = tk at HO HTK htl ⊢
      rw [hAA]
      clear hcc hx hAA
      go_wp2_with (at_builtin; refine wpList_push_at _ rfl _ _ 38 rfl w.heap.size 3 i0 _ 1 8 Tryz.underlying38 hi hz0 hz1 hz2 rfl (by decide) _ _ _ (by rfl) HO.out #[.int .i64 x] wr.heap.size rfl (by rfl) (by rfl) (by rfl) (by unfold maxLen; omega) (by omega) HBZ ?_; intro v' w3 hO4 hg4 hat4; obtain ⟨A', cap', rfl, _⟩ := own_slice hO4; have HO4 := hid hO4; have HG4 := hid hg4; clear hO4 hg4 hat4)
      have HO5 := hid (show w3.ownsRow w.heap.size 3 1 (.slice A' (xs.take (k + 1)).length cap') (xs.take (k + 1)).length ((xs.take (k + 1)).flatMap en1) from by
        have := HO4.out
        rw [HTK.out]
        simpa [en1] using this)
      have HLN := hid (show tk.length + 1 = (xs.take (k + 1)).length from by rw [HTK.out]; simp)
      have HB5 := hid ((HB.out.alloc HB.out.size (.cells #[.int .i64 x] 3)).trans (Touch.below (S := fun b => (Value.slice OA tk.length oc).ownBlock = some b) ⟨HG4.out.os, HG4.out.tape, HG4.out.output, HG4.out.size, fun k hk hn => HG4.out.block k hk (fun e => hn e.symm)⟩ (by simp; omega) (fun k hk => (HO.out.lt k hk).1)))
      go_roundw
      case rel => exact ⟨k + 1, A', cap', by omega, by rw [← HLN.out, htl], by go_num, HO5, HB5⟩
      case measure => simp [nOf]; omega
    · have hk' : k = xs.length := by omega
      subst hk'
      have HTA := hid (show xs.take xs.length = xs from List.take_length)
      rw [HTA.out] at HO ⊢
      go_wp2_with fail
      go_ret
      exact ⟨OA, oc, rfl, HO.out, HB.out⟩
set_option maxRecDepth 100000 in
set_option maxHeartbeats 32000000 in
theorem same13_any (fs : List Eff) (A B : Option Addr) (ca cb : Nat) (w : World) (hA : Rd w A (fs.flatMap enEf)) (hB : Rd w B (fs.flatMap enEf)) (hl : fs.length ≤ 1000000) :
    Calls Tryz.prog 42 #[.slice A fs.length ca, .slice B fs.length cb] w fun e w' => e = .returned (.bool true) ∧ Below w.heap.size w w' := by
  have HA := hid hA
  have HB := hid hB
  have tl : ((fs.length : Int) != (fs.length : Int)) = false := by simp
  clear hA hB
  go_enter Tryz.func42, Tryz.ntmps42
  go_wp2_with fail
  clear tl
  go_loopw [14] (fun i wr => ∃ k : Nat, k ≤ fs.length ∧ i = .int .i64 k ∧ Hid (Below w.heap.size w wr)) (fun i _ => fs.length - nOf i)
  case atStart => exact ⟨0, Nat.zero_le _, rfl, hid (Below.refl _ _)⟩
  case round =>
    obtain ⟨k, hk, rfl, HBR⟩ := hrel
    by_cases hlt : k < fs.length
    · obtain ⟨f, hf⟩ : ∃ f, fs[k]? = some f := ⟨fs[k], List.getElem?_eq_getElem hlt⟩
      obtain ⟨b1, o1, hA1, _, hc1⟩ := (HA.out.below HBR.out).at_ 6 enEf_len (by omega) hf
      obtain ⟨b2, o2, hA2, _, _⟩ := (HB.out.below HBR.out).at_ 6 enEf_len (by omega) hf
      have HF := hid hf
      have HA2 := hid hA2
      obtain ⟨fk, fo, fs', ft, fc, fu⟩ := f
      have q0 : wr.cell? ⟨b1, o1 + k * 6, none⟩ = some (.int .i64 fk) := hc1 0 _ rfl
      have q1 : wr.cell? ⟨b1, o1 + k * 6 + 1, none⟩ = some (.int .i64 fo) := hc1 1 _ rfl
      have q2 : wr.cell? ⟨b1, o1 + k * 6 + 2, none⟩ = some (.int .i64 fs') := hc1 2 _ rfl
      have q3 : wr.cell? ⟨b1, o1 + k * 6 + 3, none⟩ = some (.int .i64 ft) := hc1 3 _ rfl
      have q4 : wr.cell? ⟨b1, o1 + k * 6 + 4, none⟩ = some (.int .i64 fc) := hc1 4 _ rfl
      have q5 : wr.cell? ⟨b1, o1 + k * 6 + 5, none⟩ = some (.bool fu) := hc1 5 _ rfl
      rw [hA1, hA2]
      clear hc1 hf hA1 hA2
      go_upto_region 6 with fail
      have hGB := Blk.new wr 55 #[.int .i64 fk, .int .i64 fo, .int .i64 fs', .int .i64 ft, .int .i64 fc, .bool fu]
      have hbW : Below wr.heap.size wr (wr.alloc (.cells #[.int .i64 fk, .int .i64 fo, .int .i64 fs', .int .i64 ft, .int .i64 fc, .bool fu] 55)) := (Below.refl _ _).alloc (Nat.le_refl _) _
      clear q0 q1 q2 q3 q4 q5
      generalize wr.alloc (.cells #[.int .i64 fk, .int .i64 fo, .int .i64 fs', .int .i64 ft, .int .i64 fc, .bool fu] 55) = W at hGB hbW ⊢
      have HBW := hid (bthen HBR.out hbW)
      generalize wr.heap.size = G at hGB ⊢
      have HG := hid hGB
      obtain ⟨C, hCd⟩ : ∃ C : World → Prop, ∀ w', C w' ↔ Below W.heap.size W w' := ⟨_, fun _ => Iff.rfl⟩
      have HCd := hid hCd
      have hCW : C W.drew := (hCd _).2 (Below.refl _ _).drew
      have hx2 : ∀ w', Below W.heap.size W w' → ∀ j u, (enEf ⟨fk, fo, fs', ft, fc, fu⟩)[j]? = some u → w'.cell? ⟨b2, o2 + k * 6 + j, none⟩ = some u := fun w' hb j u hu => by
        obtain ⟨b', o', e, _, hcc⟩ := (HB.out.below (bthen HBW.out hb)).at_ 6 enEf_len (by omega) HF.out
        rw [HA2.out] at e
        simp only [Option.some.injEq, Addr.mk.injEq, and_true] at e
        obtain ⟨rfl, rfl⟩ := e
        exact hcc j u hu
      clear hCd hGB hbW
      have g0 : ∀ p : In C, p.w.cell? ⟨G, 0, none⟩ = some (.int .i64 fk) := fun p => (HG.out.next ((HCd.out _).1 p.h)).cell 0
      have g1 : ∀ p : In C, p.w.cell? ⟨G, 1, none⟩ = some (.int .i64 fo) := fun p => (HG.out.next ((HCd.out _).1 p.h)).cell 1
      have g2 : ∀ p : In C, p.w.cell? ⟨G, 2, none⟩ = some (.int .i64 fs') := fun p => (HG.out.next ((HCd.out _).1 p.h)).cell 2
      have g3 : ∀ p : In C, p.w.cell? ⟨G, 3, none⟩ = some (.int .i64 ft) := fun p => (HG.out.next ((HCd.out _).1 p.h)).cell 3
      have g4 : ∀ p : In C, p.w.cell? ⟨G, 4, none⟩ = some (.int .i64 fc) := fun p => (HG.out.next ((HCd.out _).1 p.h)).cell 4
      have g5 : ∀ p : In C, p.w.cell? ⟨G, 5, none⟩ = some (.bool fu) := fun p => (HG.out.next ((HCd.out _).1 p.h)).cell 5
      have x0 : ∀ p : In C, p.w.cell? ⟨b2, o2 + k * 6, none⟩ = some (.int .i64 fk) := fun p => hx2 _ ((HCd.out _).1 p.h) 0 _ rfl
      have x1 : ∀ p : In C, p.w.cell? ⟨b2, o2 + k * 6 + 1, none⟩ = some (.int .i64 fo) := fun p => hx2 _ ((HCd.out _).1 p.h) 1 _ rfl
      have x2 : ∀ p : In C, p.w.cell? ⟨b2, o2 + k * 6 + 2, none⟩ = some (.int .i64 fs') := fun p => hx2 _ ((HCd.out _).1 p.h) 2 _ rfl
      have x3 : ∀ p : In C, p.w.cell? ⟨b2, o2 + k * 6 + 3, none⟩ = some (.int .i64 ft) := fun p => hx2 _ ((HCd.out _).1 p.h) 3 _ rfl
      have x4 : ∀ p : In C, p.w.cell? ⟨b2, o2 + k * 6 + 4, none⟩ = some (.int .i64 fc) := fun p => hx2 _ ((HCd.out _).1 p.h) 4 _ rfl
      have x5 : ∀ p : In C, p.w.cell? ⟨b2, o2 + k * 6 + 5, none⟩ = some (.bool fu) := fun p => hx2 _ ((HCd.out _).1 p.h) 5 _ rfl
      have t0 : (fk != fk) = false := by simp
      have t1 : (fo != fo) = false := by simp
      have t2 : (fs' != fs') = false := by simp
      have t3 : (ft != ft) = false := by simp
      have t4 : (fc != fc) = false := by simp
      have t5 : (fu != fu) = false := by simp
      clear hx2
      refine wp_region_in C (by kernel_rfl) (by kernel_rfl) hCW ?_
      intro hne
      clear hCW
      repeat (first | go_big_quiet_step (fail) | quiet_step (fail))
      refine wpQuiet_nil ?_
      intro wq hq
      have HQ := hid (bthen HBW.out ((HCd.out _).1 hq))
      clear g0 g1 g2 g3 g4 g5 x0 x1 x2 x3 x4 x5 t0 t1 t2 t3 t4 t5 hne hq
      go_wp2_with fail
      go_roundw
      case rel => exact ⟨k + 1, by omega, by go_num, HQ⟩
      case measure => simp [nOf]; omega
    · have hk' : k = fs.length := by omega
      subst hk'
      go_wp2_with fail
      go_ret
      exact ⟨rfl, HBR.out⟩
set_option maxRecDepth 100000 in
set_option maxHeartbeats 32000000 in
theorem sameSaved13_any (vo vs : Int) (vp : Bool) (ms ts : List Int) (n : Nat) (MA TA MB TB : Option Addr) (ma ta mb tb : Nat) (w : World) (hma : Rd w MA (ms.flatMap en1)) (hta : Rd w TA (ts.flatMap en1)) (hmb : Rd w MB (ms.flatMap en1)) (htb : Rd w TB (ts.flatMap en1)) (hm : ms.length = n) (ht : ts.length = n) (hn : n ≤ 1000) :
    Calls Tryz.prog 15 #[.agg #[.int .i64 vo, .int .i64 vs, .bool vp, .slice MA n ma, .slice TA n ta], .agg #[.int .i64 vo, .int .i64 vs, .bool vp, .slice MB n mb, .slice TB n tb]] w fun e w' => e = .returned (.bool true) ∧ Below w.heap.size w w' := by
  have hb1 : Below w.heap.size w ((w.alloc (.cells #[.int .i64 vo, .int .i64 vs, .bool vp, .slice MA n ma, .slice TA n ta] 40)).alloc (.cells #[.int .i64 vo, .int .i64 vs, .bool vp, .slice MB n mb, .slice TB n tb] 40)) := ((Below.refl _ _).alloc (Nat.le_refl _) _).alloc (by simp) _
  have hGa := (Blk.new w 40 #[.int .i64 vo, .int .i64 vs, .bool vp, .slice MA n ma, .slice TA n ta]).alloc (.cells #[.int .i64 vo, .int .i64 vs, .bool vp, .slice MB n mb, .slice TB n tb] 40)
  have hGb := Blk.new (w.alloc (.cells #[.int .i64 vo, .int .i64 vs, .bool vp, .slice MA n ma, .slice TA n ta] 40)) 40 #[.int .i64 vo, .int .i64 vs, .bool vp, .slice MB n mb, .slice TB n tb]
  rw [World.size_alloc] at hGb
  obtain ⟨W, hW⟩ : ∃ W, W = (w.alloc (.cells #[.int .i64 vo, .int .i64 vs, .bool vp, .slice MA n ma, .slice TA n ta] 40)).alloc (.cells #[.int .i64 vo, .int .i64 vs, .bool vp, .slice MB n mb, .slice TB n tb] 40) := ⟨_, rfl⟩
  rw [← hW] at hb1 hGa hGb
  have HB1 := hid hb1
  have HMA := hid (hma.below hb1)
  have HTA := hid (hta.below hb1)
  have HMB := hid (hmb.below hb1)
  have HTB := hid (htb.below hb1)
  have HN := hid (And.intro hm ht)
  obtain ⟨Ga, hga⟩ : ∃ g, g = w.heap.size := ⟨_, rfl⟩
  obtain ⟨Gb, hgb⟩ : ∃ g, g = w.heap.size + 1 := ⟨_, rfl⟩
  rw [← hga] at hGa
  rw [← hgb] at hGb
  have HGa := hid hGa
  have HGb := hid hGb
  have HW := hid (And.intro hW (And.intro hga hgb))
  have lGa := hGa.lt
  have lGb := hGb.lt
  clear hm ht hma hta hmb htb hb1
  have t1 : (vo != vo) = false := by simp
  have t2 : (vs != vs) = false := by simp
  have t3 : (vp != vp) = false := by simp
  have t4 : ((n : Int) != (n : Int)) = false := by simp
  have a0 : W.cell? ⟨Ga, 0, none⟩ = some (.int .i64 vo) := hGa.cell 0
  have a1 : W.cell? ⟨Ga, 1, none⟩ = some (.int .i64 vs) := hGa.cell 1
  have a2 : W.cell? ⟨Ga, 2, none⟩ = some (.bool vp) := hGa.cell 2
  have a3 : W.cell? ⟨Ga, 3, none⟩ = some (.slice MA n ma) := hGa.cell 3
  have b0 : W.cell? ⟨Gb, 0, none⟩ = some (.int .i64 vo) := hGb.cell 0
  have b1 : W.cell? ⟨Gb, 1, none⟩ = some (.int .i64 vs) := hGb.cell 1
  have b2 : W.cell? ⟨Gb, 2, none⟩ = some (.bool vp) := hGb.cell 2
  have b3 : W.cell? ⟨Gb, 3, none⟩ = some (.slice MB n mb) := hGb.cell 3
  clear hW hga hgb hGa hGb
  go_enter Tryz.func15, Tryz.ntmps15
  go_upto_region 1 with fail
  rw [← HW.out.1, ← HW.out.2.2, ← HW.out.2.1]
  go_wp2_with fail
  clear a0 a1 a2 a3 b0 b1 b2 b3 t1 t2 t3 t4
  obtain ⟨C, hCd⟩ : ∃ C : World → Prop, ∀ w', C w' ↔ Below W.heap.size W w' := ⟨_, fun _ => Iff.rfl⟩
  have HCd := hid hCd
  clear hCd
  go_loopw [37] (fun i wr => ∃ k : Nat, k ≤ n ∧ i = .int .i64 k ∧ Hid (Below W.heap.size W wr)) (fun i _ => n - nOf i)
  case atStart => exact ⟨0, Nat.zero_le _, rfl, hid (Below.refl _ _)⟩
  case round =>
    obtain ⟨k, hk, rfl, HBR⟩ := hrel
    by_cases hlt : k < n
    · have hk1 : k < ms.length := by have := HN.out.1; omega
      have hk2 : k < ts.length := by have := HN.out.2; omega
      obtain ⟨m, hm⟩ : ∃ m, ms[k]? = some m := ⟨_, List.getElem?_eq_getElem hk1⟩
      obtain ⟨tq, htq⟩ : ∃ tq, ts[k]? = some tq := ⟨_, List.getElem?_eq_getElem hk2⟩
      obtain ⟨d1, o1, hA1, _, _⟩ := HMA.out.at_ 1 (fun _ => rfl) (by omega) hm
      obtain ⟨d2, o2, hA2, _, _⟩ := HTA.out.at_ 1 (fun _ => rfl) (by omega) htq
      obtain ⟨d3, o3, hA3, _, _⟩ := HMB.out.at_ 1 (fun _ => rfl) (by omega) hm
      obtain ⟨d4, o4, hA4, _, _⟩ := HTB.out.at_ 1 (fun _ => rfl) (by omega) htq
      have hx : ∀ {A : Option Addr} {l : List Int} {z : Int} {b o : Nat}, Rd W A (l.flatMap en1) → A = some ⟨b, o, none⟩ → l[k]? = some z → ∀ w', Below W.heap.size W w' → w'.cell? ⟨b, o + k, none⟩ = some (.int .i64 z) := fun {A l z b o} hr hA hz w' hb => by
        subst hA
        obtain ⟨b', o', e, _, hcc⟩ := (hr.below hb).at_ 1 (fun _ => rfl) (by omega) hz
        simp only [Option.some.injEq, Addr.mk.injEq, and_true] at e
        obtain ⟨rfl, rfl⟩ := e
        have := hcc 0 _ rfl
        rw [Nat.mul_one] at this
        exact this
      have x1 : ∀ p : In C, p.w.cell? ⟨d1, o1 + k, none⟩ = some (.int .i64 m) := fun p => hx HMA.out hA1 hm _ ((HCd.out _).1 p.h)
      have x2 : ∀ p : In C, p.w.cell? ⟨d2, o2 + k, none⟩ = some (.int .i64 tq) := fun p => hx HTA.out hA2 htq _ ((HCd.out _).1 p.h)
      have x3 : ∀ p : In C, p.w.cell? ⟨d3, o3 + k, none⟩ = some (.int .i64 m) := fun p => hx HMB.out hA3 hm _ ((HCd.out _).1 p.h)
      have x4 : ∀ p : In C, p.w.cell? ⟨d4, o4 + k, none⟩ = some (.int .i64 tq) := fun p => hx HTB.out hA4 htq _ ((HCd.out _).1 p.h)
      have g3 : ∀ p : In C, p.w.cell? ⟨Ga, 3, none⟩ = some (.slice (some ⟨d1, o1, none⟩) n ma) := fun p => by rw [← hA1]; exact (HGa.out.next ((HCd.out _).1 p.h)).cell 3
      have g4 : ∀ p : In C, p.w.cell? ⟨Ga, 4, none⟩ = some (.slice (some ⟨d2, o2, none⟩) n ta) := fun p => by rw [← hA2]; exact (HGa.out.next ((HCd.out _).1 p.h)).cell 4
      have j3 : ∀ p : In C, p.w.cell? ⟨Gb, 3, none⟩ = some (.slice (some ⟨d3, o3, none⟩) n mb) := fun p => by rw [← hA3]; exact (HGb.out.next ((HCd.out _).1 p.h)).cell 3
      have j4 : ∀ p : In C, p.w.cell? ⟨Gb, 4, none⟩ = some (.slice (some ⟨d4, o4, none⟩) n tb) := fun p => by rw [← hA4]; exact (HGb.out.next ((HCd.out _).1 p.h)).cell 4
      have t1 : (m != m) = false := by simp
      have t2 : (tq != tq) = false := by simp
      have hCW : C wr.drew := (HCd.out _).2 HBR.out.drew
      clear hx hA1 hA2 hA3 hA4 hm htq hk1 hk2
      go_upto_region 6 with fail
      refine wp_region_in C (by kernel_rfl) (by kernel_rfl) hCW ?_
      intro hne
      clear hCW
      repeat (first | go_big_quiet_step (fail) | quiet_step (fail))
      refine wpQuiet_nil ?_
      intro wq2 hq2
      have HQ2 := hid ((HCd.out _).1 hq2)
      clear x1 x2 x3 x4 g3 g4 j3 j4 t1 t2 hne hq2
      go_wp2_with fail
      go_roundw
      case rel => exact ⟨k + 1, by omega, by go_num, HQ2⟩
      case measure => simp [nOf]; omega
    · have hk' : k = n := by omega
      subst hk'
      go_wp2_with fail
      go_ret
      exact ⟨rfl, bthen HB1.out HBR.out⟩

end Go.Proofs.YtoemmakhbiiknaaGreat

namespace Go.Proofs.YtoemmakhbiiknaaGreat
open Go.RowKit Go.WideShapes Go.ChangeShapes Go.ChangeAt Go.Deep
set_option linter.unusedVariables false

/-- An instance, its plan. -/
structure Ins where
  I : Nat
  base : Nat
  d : PlD
  v : Iv
  l : Il
def Ins.U (i : Ins) (g : Nat) : Prop := IU i.I i.v i.l g
def PlD.V (d : PlD) (Y : Nat → Pw) (g : Nat) : Prop := PlV d.P d.Ls d.Bs (Y d.P) g
def esOf (ins : List Ins) : List (Int × Nat) := ins.map fun i => (i.v.ord, i.I)
def insAt (ins : List Ins) (o : Int) : Option Ins := ins.find? fun i => i.v.ord == o
theorem mget_ins (o : Int) : ∀ ins : List Ins, mget (esOf ins) o = (insAt ins o).map (·.I)
  | [] => rfl
  | i :: ins => by
    unfold esOf insAt
    rw [List.map_cons, List.find?_cons]
    by_cases h : i.v.ord = o
    · simp [mget, h]
    · have ih := mget_ins o ins
      unfold esOf insAt at ih
      rw [show (i.v.ord == o) = false from by simpa using h]
      simp only [mget] at ih ⊢
      rw [List.find?_cons, show decide ((i.v.ord, i.I).fst = o) = false from decide_eq_false h]
      exact ih
theorem insAt_mem {ins : List Ins} {o : Int} {i : Ins} (h : insAt ins o = some i) : i ∈ ins ∧ i.v.ord = o := ⟨List.mem_of_find?_eq_some h, by simpa using List.find?_some h⟩
structure AlS (w0 : World) (ds : List PlD) (X M n0 : Nat) (ins : List Ins) (A : Nat → Int) (Y : Nat → Pw) (n1 R : Nat) (LA : Option Addr) (lc : Nat) (bs : List Nat) (od : Nat → Int) (vO : Value) (pA : Option Addr) (pc : Nat) (rA : Option Addr) (rc : Nat) (K : Int) (w : World) : Prop where
  e : IsEng n0 X M (esOf ins) w
  nd : (ins.map fun i => i.v.ord).Nodup
  i : ∀ i ∈ ins, i.d ∈ ds ∧ IsI i.base i.I (.pointer (some ⟨i.d.P, 0, none⟩)) i.v i.l w ∧ i.v.ms.length = i.d.Ls.length ∧ i.v.out = [] ∧ w0.heap.size ≤ i.base ∧ IvP i.v.ord (1099511627776 + K) i.v
  p : ∀ d ∈ ds, PlF d ∧ PlOk d (A d.P) (Y d.P) w ∧ (0 ≤ A d.P ∧ A d.P ≤ 1000 * K) ∧ d.hi ≤ n1 ∧ w0.heap.size ≤ d.P
  dq : ∀ a ∈ ds, ∀ b ∈ ds, a.P = b.P → a = b
  pp : ∀ a ∈ ds, ∀ b ∈ ds, a.P ≠ b.P → ∀ g, a.V Y g → ¬ b.V Y g
  pr : ∀ a ∈ ds, ∀ b ∈ ds, ∀ g, a.V Y g → ¬ b.RU g
  ip : ∀ i ∈ ins, ∀ d ∈ ds, ∀ g, i.U g → ¬ d.V Y g ∧ ¬ d.RU g
  ii : ∀ i ∈ ins, ∀ j ∈ ins, i.v.ord ≠ j.v.ord → ∀ g, i.U g → ¬ j.U g
  dn : DEn n1 R LA lc bs od vO w
  po : w.ownsRow w0.heap.size 43 1 (.slice pA ds.length pc) ds.length (ds.flatMap fun d => enB13 d.P)
  ro : w.ownsRow w0.heap.size 77 1 (.slice rA ds.length rc) ds.length (ds.flatMap fun d => enB13 d.RP)
  b : Below w0.heap.size w0 w
  lo : w0.heap.size ≤ n0 ∧ w0.heap.size ≤ n1
  k : 0 ≤ K
  hn : ∀ d ∈ ds, d.hi ≤ n0
section
variable {w0 w w' : World} {ds : List PlD} {X M n0 : Nat} {ins : List Ins} {A : Nat → Int} {Y : Nat → Pw} {n1 R lc pc rc : Nat} {LA pA rA : Option Addr} {bs : List Nat} {od : Nat → Int} {vO : Value} {K : Int}
/-- Which types the blocks of a plan have. -/
theorem PlY.typ {base : Nat} {nm : ByteArray} {P : Nat} {Ls : List Stp} {Bs : List IRow} {ask : Int} {y : Pw} (h : PlY base nm P Ls Bs ask y w) {g : Nat} (hu : PlV P Ls Bs y g) : ∃ t cs r, w.heap[g]? = some (.cells cs t r) ∧ (t = 126 ∨ t = 69 ∨ t = 38 ∨ t = 9 ∨ t = 3) := by
  have own : ∀ {b : Nat} {t : TypeId} {s n : Nat} {v : Value} {xs : List Value}, w.ownsRow b t s v n xs → v.ownBlock = some g → ∃ cs r, w.heap[g]? = some (.cells cs t r) := fun {b t s n v xs} ho hg => by
    rcases ho.2 with ⟨e, _⟩ | ⟨g1, c1, cur1, e, _, hh, _⟩
    · rw [e] at hg; cases hg
    · rw [e] at hg
      have : g1 = g := by simpa [Value.ownBlock] using hg
      subst this
      exact ⟨_, _, hh⟩
  rcases hu with e | e | e | ⟨s, hs, e⟩ | ⟨b, hb, e⟩ | ⟨hd, e⟩
  · subst e
    exact ⟨_, _, _, h.p.p, .inl rfl⟩
  · obtain ⟨cs, r, hh⟩ := own h.p.os e
    exact ⟨_, cs, r, hh, .inr (.inl rfl)⟩
  · obtain ⟨cs, r, hh⟩ := own h.p.ob e
    exact ⟨_, cs, r, hh, .inr (.inr (.inl rfl))⟩
  · obtain ⟨cs, r, hh⟩ := own (h.p.st s hs) e
    exact ⟨_, cs, r, hh, .inr (.inr (.inr (.inl rfl)))⟩
  · obtain ⟨cs, r, hh⟩ := own (h.p.rw b hb) e
    exact ⟨_, cs, r, hh, .inr (.inr (.inr (.inr rfl)))⟩
  · obtain ⟨H, h1, h2, h3, h4⟩ := h.p.hs hd
    rcases e with e | ⟨b, hb, e⟩
    · rw [h1] at e
      have e2 : H = g := by simpa [Value.ownBlock] using e
      subst e2
      exact ⟨_, _, _, h2, .inr (.inr (.inl rfl))⟩
    · obtain ⟨cs, r, hh⟩ := own (h4 b hb) e
      exact ⟨_, cs, r, hh, .inr (.inr (.inr (.inr rfl)))⟩
theorem IsI.typ {base I : Nat} {vP : Value} {v : Iv} {l : Il} (h : IsI base I vP v l w) {g : Nat} (hu : IU I v l g) : ∃ t cs r, w.heap[g]? = some (.cells cs t r) ∧ (t = 96 ∨ t = 71 ∨ t = 3 ∨ t = 55) := by
  have own : ∀ {b : Nat} {t : TypeId} {s n : Nat} {v : Value} {xs : List Value}, w.ownsRow b t s v n xs → v.ownBlock = some g → ∃ cs r, w.heap[g]? = some (.cells cs t r) := fun {b t s n v xs} ho hg => by
    rcases ho.2 with ⟨e, _⟩ | ⟨g1, c1, cur1, e, _, hh, _⟩
    · rw [e] at hg; cases hg
    · rw [e] at hg
      have : g1 = g := by simpa [Value.ownBlock] using hg
      subst this
      exact ⟨_, _, hh⟩
  rcases hu with e | e | e | e
  · subst e
    exact ⟨_, _, _, h.b, .inl rfl⟩
  · obtain ⟨cs, r, hh⟩ := own h.m e
    exact ⟨_, cs, r, hh, .inr (.inl rfl)⟩
  · obtain ⟨cs, r, hh⟩ := own h.t e
    exact ⟨_, cs, r, hh, .inr (.inr (.inl rfl))⟩
  · obtain ⟨cs, r, hh⟩ := own h.o e
    exact ⟨_, cs, r, hh, .inr (.inr (.inr rfl))⟩
theorem blk_typ {g : Nat} {t t' : TypeId} {cs cs' : Array Value} {r : Nat × Nat} (h : Blk w g t cs) (h' : w.heap[g]? = some (.cells cs' t' r)) : t = t' := by
  unfold Blk at h
  rw [h] at h'
  simp only [Option.some.injEq, Obj.cells.injEq] at h'
  exact h'.2.1
theorem own_typ {b n s g : Nat} {t t' : TypeId} {v : Value} {xs : List Value} {cs' : Array Value} {r : Nat × Nat} (h : w.ownsRow b t s v n xs) (hg : v.ownBlock = some g) (h' : w.heap[g]? = some (.cells cs' t' r)) : t = t' := by
  rcases h.2 with ⟨e, _⟩ | ⟨g1, c1, cur1, e, _, hh, _⟩
  · rw [e] at hg; cases hg
  · rw [e] at hg
    have : g1 = g := by simpa [Value.ownBlock] using hg
    subst this
    rw [hh] at h'
    simp only [Option.some.injEq, Obj.cells.injEq] at h'
    exact h'.2.1
/-- A call that leaves all instances and plans alone. -/
theorem AlS.frame {S : Nat → Prop} {LA' : Option Addr} {lc' : Nat} {bs' : List Nat} {od' : Nat → Int} {vO' : Value} (h : AlS w0 ds X M n0 ins A Y n1 R LA lc bs od vO pA pc rA rc K w) (hT : Touch S w w') (hS : ∀ g, S g → w0.heap.size ≤ g ∧ g ≠ X ∧ g ≠ M ∧ (∀ i ∈ ins, ¬ i.U g) ∧ (∀ d ∈ ds, ¬ d.V Y g ∧ ¬ d.RU g) ∧ (Value.slice pA ds.length pc).ownBlock ≠ some g ∧ (Value.slice rA ds.length rc).ownBlock ≠ some g) (hd : DEn n1 R LA' lc' bs' od' vO' w') : AlS w0 ds X M n0 ins A Y n1 R LA' lc' bs' od' vO' pA pc rA rc K w' :=
  ⟨h.e.touch hT (fun hg => (hS X hg).2.1 rfl) (fun hg => (hS M hg).2.2.1 rfl), h.nd, fun i hi => by
    obtain ⟨a, b, c⟩ := h.i i hi
    exact ⟨a, b.touch hT (fun g hg hu => (hS g hg).2.2.2.1 i hi hu), c⟩, fun d hd' => by
    obtain ⟨a, b, c⟩ := h.p d hd'
    exact ⟨a, b.touch hT (fun g hg hu => ((hS g hg).2.2.2.2.1 d hd').1 hu) (fun g hg hu => ((hS g hg).2.2.2.2.1 d hd').2 hu), c⟩, h.dq, h.pp, h.pr, h.ip, h.ii, hd, own_touch h.po hT (fun g hg hs => (hS g hs).2.2.2.2.2.1 hg), own_touch h.ro hT (fun g hg hs => (hS g hs).2.2.2.2.2.2 hg), h.b.trans (hT.below h.b.size (fun k hk => (hS k hk).1)), h.lo, h.k, h.hn⟩
theorem AlS.next (h : AlS w0 ds X M n0 ins A Y n1 R LA lc bs od vO pA pc rA rc K w) (hb : Below w.heap.size w w') : AlS w0 ds X M n0 ins A Y n1 R LA lc bs od vO pA pc rA rc K w' := h.frame (S := fun _ => False) (Touch.of_below hb) (fun _ hf => hf.elim) (h.dn.next hb)
theorem AlS.mono {K' : Int} (h : AlS w0 ds X M n0 ins A Y n1 R LA lc bs od vO pA pc rA rc K w) (hk : K ≤ K') : AlS w0 ds X M n0 ins A Y n1 R LA lc bs od vO pA pc rA rc K' w := ⟨h.e, h.nd, fun i hi => by
    obtain ⟨a, b, c, d, e, f⟩ := h.i i hi
    exact ⟨a, b, c, d, e, f.mono (by omega)⟩, fun d hd => by
    obtain ⟨a, b, c, e⟩ := h.p d hd
    exact ⟨a, b, ⟨c.1, by omega⟩, e⟩, h.dq, h.pp, h.pr, h.ip, h.ii, h.dn, h.po, h.ro, h.b, h.lo, by have := h.k; omega, h.hn⟩
/-- What is of the document's engine is no instance's and no plan's. -/
theorem AlS.docS (h : AlS w0 ds X M n0 ins A Y n1 R LA lc bs od vO pA pc rA rc K w) {g : Nat} (hg : DV R LA bs.length lc g) : w0.heap.size ≤ g ∧ g ≠ X ∧ g ≠ M ∧ (∀ i ∈ ins, ¬ i.U g) ∧ (∀ d ∈ ds, ¬ d.V Y g ∧ ¬ d.RU g) ∧ (Value.slice pA ds.length pc).ownBlock ≠ some g ∧ (Value.slice rA ds.length rc).ownBlock ≠ some g := by
  have hn1 : n1 ≤ g := by
    rcases hg with hg | hg
    · rw [hg]; exact h.dn.lo.1
    · exact (h.dn.own.lt g hg).1
  have ht : ∀ {t : TypeId} {cs : Array Value} {r : Nat × Nat}, w.heap[g]? = some (.cells cs t r) → t = 34 ∨ t = 139 := fun {t cs r} hh => by
    rcases hg with hg | hg
    · left; rw [hg] at hh; exact (blk_typ h.dn.r hh).symm
    · right; exact (own_typ h.dn.own hg hh).symm
  refine ⟨Nat.le_trans h.lo.2 hn1, fun e => ?_, fun e => ?_, fun i hi hu => ?_, fun d hd => ⟨fun hu => ?_, fun hu => ?_⟩, fun e => ?_, fun e => ?_⟩
  · have hh := h.e.blk
    unfold Blk at hh
    rw [← e] at hh
    rcases ht hh with h1 | h1 <;> revert h1 <;> decide
  · rcases hg with hg | hg
    · exact h.e.map.notBlk h.dn.r (by rw [← e, hg])
    · exact h.e.map.notOwn h.dn.own (by rw [hg, e])
  · obtain ⟨t, cs, r, hh, h1⟩ := (h.i i hi).2.1.typ hu
    rcases ht hh with h2 | h2 <;> subst h2 <;> revert h1 <;> decide
  · obtain ⟨t, cs, r, hh, h1⟩ := (h.p d hd).2.1.p.typ hu
    rcases ht hh with h2 | h2 <;> subst h2 <;> revert h1 <;> decide
  · have h1 := (h.p d hd).1.ir g hu
    have h2 := (h.p d hd).2.2.2.1
    omega
  · rcases hg with hg | hg
    · exact own_notBlk h.po h.dn.r (by decide) (by rw [e, hg])
    · exact own_ne (own_base h.po (Nat.zero_le _)) (own_base h.dn.own (Nat.zero_le _)) (by decide) e hg
  · rcases hg with hg | hg
    · exact own_notBlk h.ro h.dn.r (by decide) (by rw [e, hg])
    · exact own_ne (own_base h.ro (Nat.zero_le _)) (own_base h.dn.own (Nat.zero_le _)) (by decide) e hg
theorem AlS.doc {LA' : Option Addr} {lc' : Nat} {bs' : List Nat} {od' : Nat → Int} {vO' : Value} (h : AlS w0 ds X M n0 ins A Y n1 R LA lc bs od vO pA pc rA rc K w) (hT : Touch (DV R LA bs.length lc) w w') (hd : DEn n1 R LA' lc' bs' od' vO' w') : AlS w0 ds X M n0 ins A Y n1 R LA' lc' bs' od' vO' pA pc rA rc K w' := h.frame hT (fun g hg => h.docS hg) hd
/-- The instance of an order is changed. -/
def insSet (ins : List Ins) (o : Int) (v' : Iv) (l' : Il) : List Ins := ins.map fun j => if j.v.ord = o then { j with v := v', l := l' } else j
def upN {α : Type} (f : Nat → α) (p : Nat) (x : α) (q : Nat) : α := if q = p then x else f q
theorem upN_eq {α : Type} (f : Nat → α) (p : Nat) (x : α) : upN f p x p = x := if_pos rfl
theorem upN_ne {α : Type} (f : Nat → α) {p q : Nat} (x : α) (h : q ≠ p) : upN f p x q = f q := if_neg h
theorem mem_insSet {o : Int} {v' : Iv} {l' : Il} {j : Ins} (h : j ∈ insSet ins o v' l') : (∃ i ∈ ins, i.v.ord = o ∧ j = { i with v := v', l := l' }) ∨ (j ∈ ins ∧ j.v.ord ≠ o) := by
  obtain ⟨i, hi, e⟩ := List.mem_map.1 h
  by_cases ho : i.v.ord = o
  · rw [if_pos ho] at e
    exact .inl ⟨i, hi, ho, e.symm⟩
  · rw [if_neg ho] at e
    subst e
    exact .inr ⟨hi, ho⟩
theorem esOf_set {o : Int} {v' : Iv} {l' : Il} (hv : v'.ord = o) : esOf (insSet ins o v' l') = esOf ins := by
  unfold esOf insSet
  rw [List.map_map]
  refine List.map_congr_left fun j _ => ?_
  simp only [Function.comp]
  split
  · rename_i e
    simp [hv, e]
  · rfl
theorem insAt_set {o o2 : Int} {v' : Iv} {l' : Il} (hv : v'.ord = o) (hne : o2 ≠ o) : ∀ ins : List Ins, insAt (insSet ins o v' l') o2 = insAt ins o2
  | [] => rfl
  | i :: ins => by
    have ih := insAt_set (l' := l') hv hne ins
    unfold insAt insSet at ih ⊢
    rw [List.map_cons, List.find?_cons, List.find?_cons, ih]
    by_cases e : i.v.ord = o
    · rw [if_pos e]
      have h1 : (v'.ord == o2) = false := by rw [hv]; simpa using fun e => hne e.symm
      have h2 : (i.v.ord == o2) = false := by rw [e]; simpa using fun e => hne e.symm
      simp [h1, h2]
    · rw [if_neg e]
theorem AlS.uniq (h : AlS w0 ds X M n0 ins A Y n1 R LA lc bs od vO pA pc rA rc K w) {i j : Ins} (hi : i ∈ ins) (hj : j ∈ ins) (e : i.v.ord = j.v.ord) : i = j := by
  have hp : ins.Pairwise fun a b => a.v.ord ≠ b.v.ord := List.pairwise_map.1 h.nd
  exact (pw_all (S := fun a b => a = b ∨ a.v.ord ≠ b.v.ord) (fun x => .inl rfl) hp (fun {x y} hxy => ⟨.inr hxy, .inr fun e => hxy e.symm⟩) hi hj).resolve_right (fun hne => hne e)
theorem AlS.inp (h : AlS w0 ds X M n0 ins A Y n1 R LA lc bs od vO pA pc rA rc K w) {i : Ins} (hi : i ∈ ins) : InP i.base i.d.base i.I i.d.P i.d.nm i.d.Ls i.d.Bs (A i.d.P) (Y i.d.P) i.v i.l w := by
  obtain ⟨hd, a, b, _⟩ := h.i i hi
  exact ⟨a, (h.p i.d hd).2.1.p, fun g hg hu => (h.ip i hi i.d hd g hu).1 hg, b⟩
/-- A call for one order. -/
theorem AlS.eff (h : AlS w0 ds X M n0 ins A Y n1 R LA lc bs od vO pA pc rA rc K w) {i : Ins} (hi : i ∈ ins) {ask' : Int} {y' : Pw} {v' : Iv} {l' : Il} {K' : Int} (hI : InP i.base i.d.base i.I i.d.P i.d.nm i.d.Ls i.d.Bs ask' y' v' l' w') (hM : Mw i.I i.d.P i.d.Ls i.d.Bs (Y i.d.P) i.v i.l y' v' l' w w') (ho : v'.out = []) (hv : IvP i.v.ord (1099511627776 + K') v') (ha : 0 ≤ ask' ∧ ask' ≤ 1000 * K') (hK : K ≤ K') : AlS w0 ds X M n0 (insSet ins i.v.ord v' l') (upN A i.d.P ask') (upN Y i.d.P y') n1 R LA lc bs od vO pA pc rA rc K' w' := by
  obtain ⟨hid, hii, hmn, _, hbb, _⟩ := h.i i hi
  obtain ⟨hPf, hPo, _, hhi, hPl⟩ := h.p i.d hid
  have hT := hM.m.t
  have hSi : ∀ g, (IU i.I i.v i.l g ∨ g = i.d.P) → w0.heap.size ≤ g := fun g hg => by
    rcases hg with hg | hg
    · have := (hii.use hg).1; omega
    · rw [hg]; exact hPl
  have hty : ∀ g, (IU i.I i.v i.l g ∨ g = i.d.P) → ∃ t cs r, w.heap[g]? = some (.cells cs t r) ∧ (t = 126 ∨ t = 96 ∨ t = 71 ∨ t = 3 ∨ t = 55) := fun g hg => by
    rcases hg with hg | hg
    · obtain ⟨t, cs, r, a, b⟩ := hii.typ hg
      exact ⟨t, cs, r, a, .inr b⟩
    · subst hg
      exact ⟨_, _, _, hPo.p.p.p, .inl rfl⟩
  have hnb : ∀ {g : Nat} {t : TypeId} {cs : Array Value}, Blk w g t cs → (t ≠ 126 ∧ t ≠ 96 ∧ t ≠ 71 ∧ t ≠ 3 ∧ t ≠ 55) → ¬ (IU i.I i.v i.l g ∨ g = i.d.P) := fun {g t cs} hb ht hg => by
    obtain ⟨t', cs', r, a, b⟩ := hty g hg
    have := blk_typ hb a
    subst this
    rcases b with b | b | b | b | b
    · exact ht.1 b
    · exact ht.2.1 b
    · exact ht.2.2.1 b
    · exact ht.2.2.2.1 b
    · exact ht.2.2.2.2 b
  have hno : ∀ {b n s g : Nat} {t : TypeId} {x : Value} {xs : List Value}, w.ownsRow b t s x n xs → x.ownBlock = some g → (t ≠ 126 ∧ t ≠ 96 ∧ t ≠ 71 ∧ t ≠ 3 ∧ t ≠ 55) → ¬ (IU i.I i.v i.l g ∨ g = i.d.P) := fun {b n s g t x xs} hb hx ht hg => by
    obtain ⟨t', cs', r, a, b⟩ := hty g hg
    have := own_typ hb hx a
    subst this
    rcases b with b | b | b | b | b
    · exact ht.1 b
    · exact ht.2.1 b
    · exact ht.2.2.1 b
    · exact ht.2.2.2.1 b
    · exact ht.2.2.2.2 b
  have hVo : ∀ d ∈ ds, ∀ g, d.V (upN Y i.d.P y') g → d.V Y g ∨ (d = i.d ∧ w.heap.size ≤ g) := fun d hd g hg => by
    unfold PlD.V at hg
    by_cases e : d.P = i.d.P
    · have := h.dq d hd i.d hid e
      subst this
      rw [upN_eq] at hg
      rcases hM.p g hg with h1 | h1
      · exact .inl h1
      · exact .inr ⟨rfl, h1⟩
    · rw [upN_ne _ _ e] at hg
      exact .inl hg
  have hVl : ∀ d ∈ ds, ∀ g, d.V Y g → g < w.heap.size := fun d hd g hg => ((h.p d hd).2.1.p.p.use hg).2
  have hRl : ∀ d ∈ ds, ∀ g, d.RU g → g < w.heap.size := fun d hd g hg => by
    have h1 := (h.p d hd).1.ir g hg
    have h2 := (h.p d hd).2.2.2.1
    have h3 := h.dn.lo.1
    have h4 := h.dn.r.lt
    omega
  have hUo : ∀ j ∈ insSet ins i.v.ord v' l', ∀ g, j.U g → (∃ j0 ∈ ins, j0.v.ord = j.v.ord ∧ j0.U g) ∨ (j.v.ord = i.v.ord ∧ w.heap.size ≤ g) := fun j hj g hg => by
    rcases mem_insSet hj with ⟨i2, hi2, e, rfl⟩ | ⟨hj, _⟩
    · have := h.uniq hi2 hi e
      subst this
      rcases hM.m.u g hg with h1 | h1
      · exact .inl ⟨i2, hi2, hv.ord.symm, h1⟩
      · exact .inr ⟨hv.ord, h1⟩
    · exact .inl ⟨j, hj, rfl, hg⟩
  have hUl : ∀ j ∈ ins, ∀ g, j.U g → g < w.heap.size := fun j hj g hg => ((h.i j hj).2.1.use hg).2
  refine ⟨?_, ?_, fun j hj => ?_, fun d hd => ?_, h.dq, fun a ha b hb hne g hg hg' => ?_, fun a ha b hb g hg hr => ?_, fun j hj d hd g hg => ⟨fun hv2 => ?_, fun hr => ?_⟩, fun j hj k hk hne g hg hg' => ?_, h.dn.touch hT (hnb h.dn.r (by decide)) (fun g hg => hno h.dn.own hg (by decide)) (fun b hb => ?_), own_touch h.po hT (fun g hg => hno h.po hg (by decide)), own_touch h.ro hT (fun g hg => hno h.ro hg (by decide)), h.b.trans (hT.below h.b.size hSi), h.lo, by have := h.k; omega, h.hn⟩
  · rw [esOf_set hv.ord]
    exact h.e.mw (h.inp hi) hM
  · have := congrArg (List.map (·.1)) (esOf_set (ins := ins) (l' := l') hv.ord)
    unfold esOf at this
    rw [List.map_map, List.map_map] at this
    have h2 : (insSet ins i.v.ord v' l').map (fun i => i.v.ord) = ins.map (fun i => i.v.ord) := this
    rw [h2]
    exact h.nd
  · rcases mem_insSet hj with ⟨i2, hi2, e, rfl⟩ | ⟨hj, hne⟩
    · have := h.uniq hi2 hi e
      subst this
      exact ⟨hid, hI.i, hI.mn, ho, hbb, by show IvP v'.ord _ v'; rw [hv.ord]; exact hv⟩
    · obtain ⟨a, b, c, d, e, f⟩ := h.i j hj
      exact ⟨a, b.touch hT (fun g hg hu => by
        rcases hg with hg | hg
        · exact h.ii i hi j hj (fun e => hne e.symm) g hg hu
        · exact (h.ip j hj i.d hid g hu).1 (.inl hg)), c, d, e, f.mono (by omega)⟩
  · obtain ⟨a, b, c, e⟩ := h.p d hd
    by_cases ed : d.P = i.d.P
    · have := h.dq d hd i.d hid ed
      subst this
      refine ⟨a, ⟨by rw [upN_eq, upN_eq]; exact hI.p, ?_⟩, by rw [upN_eq]; exact ha, e⟩
      have hru : ∀ g, (IU i.I i.v i.l g ∨ g = i.d.P) → ¬ i.d.RU g := fun g hg hr => by
        rcases hg with hg | hg
        · exact (h.ip i hi i.d hid g hg).2 hr
        · exact h.pr i.d hid i.d hid g (.inl hg) hr
      exact ⟨hT.blk b.r.p (fun e => hru _ e (.inl rfl)), own_touch b.r.os hT (fun g hg e => hru g e (.inr (.inl hg))), fun s hs => ⟨hT.rd (b.r.ok s hs).row (fun bb hb e => hru bb e (.inr (.inr ⟨s, hs, hb⟩))), (b.r.ok s hs).len⟩, b.r.n⟩
    · refine ⟨a, ?_, by rw [upN_ne _ _ ed]; exact ⟨c.1, by omega⟩, e⟩
      rw [upN_ne _ _ ed, upN_ne _ _ ed]
      exact b.touch hT (fun g hg hu => by
        rcases hg with hg | hg
        · exact (h.ip i hi d hd g hg).1 hu
        · exact h.pp d hd i.d hid ed g hu (.inl hg)) (fun g hg hr => by
        rcases hg with hg | hg
        · exact (h.ip i hi d hd g hg).2 hr
        · exact h.pr i.d hid d hd g (.inl hg) hr)
  · rcases hVo a ha g hg with h1 | ⟨rfl, h1⟩
    · rcases hVo b hb g hg' with h2 | ⟨rfl, h2⟩
      · exact h.pp a ha b hb hne g h1 h2
      · have := hVl a ha g h1; omega
    · rcases hVo b hb g hg' with h2 | ⟨rfl, h2⟩
      · have := hVl b hb g h2; omega
      · exact hne rfl
  · rcases hVo a ha g hg with h1 | ⟨rfl, h1⟩
    · exact h.pr a ha b hb g h1 hr
    · have := hRl b hb g hr; omega
  · rcases hUo j hj g hg with ⟨j0, hj0, _, h1⟩ | ⟨_, h1⟩
    · rcases hVo d hd g hv2 with h2 | ⟨rfl, h2⟩
      · exact (h.ip j0 hj0 d hd g h1).1 h2
      · have := hUl j0 hj0 g h1; omega
    · rcases hVo d hd g hv2 with h2 | ⟨rfl, h2⟩
      · have := hVl d hd g h2; omega
      · rcases mem_insSet hj with ⟨i2, hi2, e, rfl⟩ | ⟨hj2, hne2⟩
        · have := h.uniq hi2 hi e
          subst this
          refine hI.dj g ?_ hg
          unfold PlD.V at hv2
          rw [upN_eq] at hv2
          exact hv2
        · have := hUl j hj2 g hg; omega
  · rcases hUo j hj g hg with ⟨j0, hj0, _, h1⟩ | ⟨_, h1⟩
    · exact (h.ip j0 hj0 d hd g h1).2 hr
    · have := hRl d hd g hr; omega
  · rcases hUo j hj g hg with ⟨j0, hj0, e1, h1⟩ | ⟨e1, h1⟩
    · rcases hUo k hk g hg' with ⟨k0, hk0, e2, h2⟩ | ⟨e2, h2⟩
      · exact h.ii j0 hj0 k0 hk0 (by rw [e1, e2]; exact hne) g h1 h2
      · have := hUl j0 hj0 g h1; omega
    · rcases hUo k hk g hg' with ⟨k0, hk0, e2, h2⟩ | ⟨e2, h2⟩
      · have := hUl k0 hk0 g h2; omega
      · exact hne (e1.trans e2.symm)
  · obtain ⟨v2, l2, RP2, a, _⟩ := h.dn.inst b hb
    exact hnb a (by decide)
theorem insAt_more {o2 : Int} {n : Ins} (hne : o2 ≠ n.v.ord) (ins : List Ins) : insAt (ins ++ [n]) o2 = insAt ins o2 := by
  unfold insAt
  rw [List.find?_append]
  have h1 : (n.v.ord == o2) = false := by simpa using fun e => hne e.symm
  rw [List.find?_cons, h1]
  simp
/-- One instance more. -/
theorem AlS.more (h : AlS w0 ds X M n0 ins A Y n1 R LA lc bs od vO pA pc rA rc K w) {d : PlD} (hd : d ∈ ds) {I : Nat} {v : Iv} {l : Il} {K' : Int} (hT : Touch (fun g => g = M ∨ g = d.P) w w') (hI : InP w.heap.size d.base I d.P d.nm d.Ls d.Bs (A d.P) (Y d.P) v l w') (hE : IsEng n0 X M (mset (esOf ins) v.ord I) w') (hno : mget (esOf ins) v.ord = none) (ho : v.out = []) (hv : IvP v.ord (1099511627776 + K') v) (hK : K ≤ K') : AlS w0 ds X M n0 (ins ++ [⟨I, w.heap.size, d, v, l⟩]) A Y n1 R LA lc bs od vO pA pc rA rc K' w' := by
  have hPd : d.V Y d.P := .inl rfl
  have hnM : ∀ {g : Nat} {t : TypeId} {cs : Array Value} {r : Nat × Nat}, w.heap[g]? = some (.cells cs t r) → g ≠ M := fun {g t cs r} hh e => by
    obtain ⟨es, c, h1, _⟩ := h.e.map
    rw [e, h1] at hh
    cases hh
  have hPt := (h.p d hd).2.1.p.p.p
  have hVl : ∀ d ∈ ds, ∀ g, d.V Y g → g < w.heap.size := fun d hd g hg => ((h.p d hd).2.1.p.p.use hg).2
  have hRl : ∀ d ∈ ds, ∀ g, d.RU g → g < w.heap.size := fun d hd g hg => by
    have h1 := (h.p d hd).1.ir g hg
    have h2 := (h.p d hd).2.2.2.1
    have h3 := h.dn.lo.1
    have h4 := h.dn.r.lt
    omega
  have hUl : ∀ j ∈ ins, ∀ g, j.U g → g < w.heap.size := fun j hj g hg => ((h.i j hj).2.1.use hg).2
  have hnew : ∀ g, IU I v l g → w.heap.size ≤ g := fun g hg => (hI.i.use hg).1
  have hMl := h.e.low.2
  have hnb : ∀ {g : Nat} {t : TypeId} {cs : Array Value}, Blk w g t cs → t ≠ 126 → ¬ (g = M ∨ g = d.P) := fun {g t cs} hb ht hg => by
    rcases hg with hg | hg
    · exact hnM hb hg
    · exact ht (blk_typ (by rw [← hg]; exact hb) hPt)
  have hno2 : ∀ {b n s g : Nat} {t : TypeId} {x : Value} {xs : List Value}, w.ownsRow b t s x n xs → x.ownBlock = some g → t ≠ 126 → ¬ (g = M ∨ g = d.P) := fun {b n s g t x xs} hb hx ht hg => by
    rcases hg with hg | hg
    · exact h.e.map.notOwn hb (by rw [hx, hg])
    · exact ht (own_typ hb hx (by rw [hg]; exact hPt))
  have hmem : ∀ {j : Ins}, j ∈ ins ++ [⟨I, w.heap.size, d, v, l⟩] → j ∈ ins ∨ j = ⟨I, w.heap.size, d, v, l⟩ := fun {j} hj => by
    rcases List.mem_append.1 hj with hj | hj
    · exact .inl hj
    · exact .inr (by simpa using hj)
  have hordn : ∀ j ∈ ins, j.v.ord ≠ v.ord := fun j hj e => by
    rw [mget_ins] at hno
    cases hf : insAt ins v.ord with
    | none =>
      have := List.find?_eq_none.1 hf j hj
      simp [e] at this
    | some x => rw [hf] at hno; cases hno
  refine ⟨?_, ?_, fun j hj => ?_, fun b hb => ?_, h.dq, h.pp, h.pr, fun j hj b hb g hg => ?_, fun j hj k hk hne g hg hg' => ?_, h.dn.touch hT (hnb h.dn.r (by decide)) (fun g hg => hno2 h.dn.own hg (by decide)) (fun b hb => ?_), own_touch h.po hT (fun g hg => hno2 h.po hg (by decide)), own_touch h.ro hT (fun g hg => hno2 h.ro hg (by decide)), h.b.trans (hT.below h.b.size (fun k hk => ?_)), h.lo, by have := h.k; omega, h.hn⟩
  · rw [mset_new hno] at hE
    unfold esOf at hE ⊢
    rw [List.map_append]
    exact hE
  · rw [List.map_append]
    refine List.nodup_append.2 ⟨h.nd, by simp, fun a ha b hb => ?_⟩
    obtain ⟨j, hj, rfl⟩ := List.mem_map.1 ha
    have : b = v.ord := by simpa using hb
    rw [this]
    exact hordn j hj
  · rcases hmem hj with hj | rfl
    · obtain ⟨a, b, c, e, f, g⟩ := h.i j hj
      exact ⟨a, b.touch hT (fun q hq hu => by
        obtain ⟨t, cs, r, hh, h1⟩ := b.typ hu
        rcases hq with hq | hq
        · exact hnM hh hq
        · have := blk_typ hPt (by rw [← hq]; exact hh)
          rw [← this] at h1
          revert h1
          decide), c, e, f, g.mono (by omega)⟩
    · exact ⟨hd, hI.i, hI.mn, ho, h.b.size, hv⟩
  · obtain ⟨a, b2, c, e⟩ := h.p b hb
    refine ⟨a, ?_, ⟨c.1, by omega⟩, e⟩
    by_cases eP : b.P = d.P
    · have := h.dq b hb d hd eP
      subst this
      refine ⟨hI.p, ?_⟩
      have hru : ∀ g, (g = M ∨ g = b.P) → ¬ b.RU g := fun g hg hr => by
        rcases hg with hg | hg
        · subst hg
          rcases hr with e | e | ⟨s, hs, e⟩
          · exact hnM b2.r.p e.symm
          · exact h.e.map.notOwn b2.r.os e.symm
          · have h1 := a.ir g (.inr (.inr ⟨s, hs, e⟩))
            have h2 := h.hn b hb
            omega
        · exact h.pr b hb b hb g (.inl hg) hr
      exact ⟨hT.blk b2.r.p (fun e => hru _ e (.inl rfl)), own_touch b2.r.os hT (fun g hg e => hru g e (.inr (.inl hg))), fun s hs => ⟨hT.rd (b2.r.ok s hs).row (fun bb hb e => hru bb e (.inr (.inr ⟨s, hs, hb⟩))), (b2.r.ok s hs).len⟩, b2.r.n⟩
    · exact b2.touch hT (fun g hg hu => by
        rcases hg with hg | hg
        · obtain ⟨t, cs, r, hh, _⟩ := b2.p.typ hu
          exact hnM hh hg
        · exact h.pp b hb d hd eP g hu (.inl hg)) (fun g hg hr => by
        rcases hg with hg | hg
        · have h1 := a.ir g hr
          have h2 := h.hn b hb
          omega
        · exact h.pr d hd b hb g (.inl hg) hr)
  · rcases hmem hj with hj | rfl
    · exact h.ip j hj b hb g hg
    · have h1 := hnew g hg
      exact ⟨fun hv2 => by have := hVl b hb g hv2; omega, fun hr => by have := hRl b hb g hr; omega⟩
  · rcases hmem hj with hj | rfl
    · rcases hmem hk with hk | rfl
      · exact h.ii j hj k hk hne g hg hg'
      · have h1 := hnew g hg'
        have h2 := hUl j hj g hg
        omega
    · rcases hmem hk with hk | rfl
      · have h1 := hnew g hg
        have h2 := hUl k hk g hg'
        omega
      · exact hne rfl
  · obtain ⟨v2, l2, RP2, a, _⟩ := h.dn.inst b hb
    exact hnb a (by decide)
  · rcases hk with hk | hk
    · rw [hk]; have := h.lo; omega
    · rw [hk]; exact (h.p d hd).2.2.2.2
end

end Go.Proofs.YtoemmakhbiiknaaGreat

namespace Go.Proofs.YtoemmakhbiiknaaGreat
open Go.RowKit Go.WideShapes Go.ChangeShapes Go.ChangeAt Go.Deep
set_option linter.unusedVariables false

theorem own_max13 {w : World} {base n cap : Nat} {e : TypeId} {size : Nat} {A : Option Addr} {xs : List Value} (h : w.ownsRow base e size (.slice A n cap) n xs) : n ≤ maxLen := by
  rcases h.2 with ⟨_, h0⟩ | ⟨g', cap', cur, h, hb, hg, hnc, hcm, hcs, htk⟩
  · omega
  · omega
section
variable {w0 w w' : World} {ds : List PlD} {X M n0 : Nat} {ins : List Ins} {A : Nat → Int} {Y : Nat → Pw} {n1 R lc pc rc : Nat} {LA pA rA : Option Addr} {bs : List Nat} {od : Nat → Int} {vO : Value} {K : Int}
/-- What a call may write of what was there. -/
def OwnA (ds : List PlD) (M : Nat) (ins : List Ins) (Y : Nat → Pw) (R : Nat) (LA : Option Addr) (lc n : Nat) (g : Nat) : Prop := (∃ i ∈ ins, i.U g) ∨ (∃ d ∈ ds, g = d.P) ∨ g = M ∨ DV R LA n lc g
theorem AlS.own_lt (h : AlS w0 ds X M n0 ins A Y n1 R LA lc bs od vO pA pc rA rc K w) {g : Nat} (hg : OwnA ds M ins Y R LA lc bs.length g) : g < w.heap.size := by
  rcases hg with ⟨i, hi, hg⟩ | ⟨d, hd, hg⟩ | hg | hg | hg
  · exact ((h.i i hi).2.1.use hg).2
  · subst hg
    exact (h.p d hd).2.1.p.p.p.lt
  · rw [hg]; exact h.e.map.lt
  · rw [hg]; exact h.dn.r.lt
  · exact (h.dn.own.lt g hg).2
/-- What Get tells. -/
def savC (s : Option Ins) : Int × Int × Bool := match s with | some i => (i.v.ord, i.v.st, i.v.paid) | none => (0, 0, false)
def savM (s : Option Ins) : List Int := match s with | some i => i.v.ms | none => []
def savT (s : Option Ins) : List Int := match s with | some i => i.v.ts | none => []
def SavR (s : Option Ins) (w : World) (e : Ending) (w' : World) : Prop := ∃ MA mc TA tc pv, e = .returned (.tuple #[.agg #[.int .i64 (savC s).1, .int .i64 (savC s).2.1, .bool (savC s).2.2, .slice MA (savM s).length mc, .slice TA (savM s).length tc], pv, .bool s.isSome]) ∧ w'.ownsRow w.heap.size 71 1 (.slice MA (savM s).length mc) (savM s).length ((savM s).flatMap en1) ∧ w'.ownsRow w.heap.size 3 1 (.slice TA (savM s).length tc) (savM s).length ((savT s).flatMap en1) ∧ Below w.heap.size w w' ∧ (savT s).length = (savM s).length ∧ (savM s).length ≤ 1000
theorem AlS.get (h : AlS w0 ds X M n0 ins A Y n1 R LA lc bs od vO pA pc rA rc K w) (o : Int) : Calls Tryz.prog 9 #[.pointer (some ⟨X, 0, none⟩), .int .i64 o] w (SavR (insAt ins o) w) := by
  cases hs : insAt ins o with
  | none =>
    refine (get_err (w := w) (.pointer (some ⟨X, 0, none⟩)) o 70 (.inr rfl) (fun w' hb => ?_)).mono ?_
    · have := efind_any (h.e.next hb) o
      rw [show findV (esOf ins) o = (.pointer none, 70) from by unfold findV; rw [mget_ins, hs]; rfl] at this
      exact this
    · rintro e w2 ⟨rfl, hb⟩
      exact ⟨none, 0, none, 0, .pointer none, rfl, World.ownsRow_nil _ _ _ _, World.ownsRow_nil _ _ _ _, hb, rfl, by simp [savM]⟩
  | some i =>
    obtain ⟨hi, ho⟩ := insAt_mem hs
    have hii := (h.i i hi).2.1
    refine (get_some hii (.pointer (some ⟨X, 0, none⟩)) o (fun w' hb => ?_)).mono ?_
    · have := efind_any (h.e.next hb) o
      rw [show findV (esOf ins) o = (.pointer (some ⟨i.I, 0, none⟩), 0) from by unfold findV; rw [mget_ins, hs]; rfl] at this
      exact this
    · rintro e w2 ⟨MA, mc, TA, tc, rfl, h1, h2, hb⟩
      have hl := hii.tl
      refine ⟨MA, mc, TA, tc, .pointer (some ⟨i.d.P, 0, none⟩), ?_, h1, ?_, hb, hl, hii.n⟩
      · rw [show svC i.v.ord i.v.st i.v.paid i.v.ms MA mc i.v.ts TA tc = #[.int .i64 i.v.ord, .int .i64 i.v.st, .bool i.v.paid, .slice MA i.v.ms.length mc, .slice TA i.v.ts.length tc] from rfl, hl]
        rfl
      · rw [hl] at h2
        exact h2
/-- What a call for one order leaves. -/
def CallR (w0 : World) (ds : List PlD) (X M n0 : Nat) (ins : List Ins) (A : Nat → Int) (Y : Nat → Pw) (n1 R : Nat) (LA : Option Addr) (lc : Nat) (bs : List Nat) (od : Nat → Int) (vO : Value) (pA : Option Addr) (pc : Nat) (rA : Option Addr) (rc : Nat) (K : Int) (o : Int) (w : World) (e : Ending) (w' : World) : Prop :=
  ∃ (OA : Option Addr) (fs : List Eff) (oc : Nat) (c : Int) (ins' : List Ins) (A' : Nat → Int) (Y' : Nat → Pw), e = .returned (.tuple #[.slice OA fs.length oc, .int .i64 c]) ∧ Rd w' OA (fs.flatMap enEf) ∧ (∀ f ∈ fs, f.order = o) ∧ AlS w0 ds X M n0 ins' A' Y' n1 R LA lc bs od vO pA pc rA rc (K + 1) w' ∧ (∀ o2, o2 ≠ o → insAt ins' o2 = insAt ins o2) ∧ Touch (OwnA ds M ins Y R LA lc bs.length) w w' ∧ fs.length ≤ maxLen
theorem AlS.no_eff (h : AlS w0 ds X M n0 ins A Y n1 R LA lc bs od vO pA pc rA rc K w) {o c : Int} {e : Ending} {w' : World} (he : e = .returned (.tuple #[.slice none 0 0, .int .i64 c]) ∧ Below w.heap.size w w') : CallR w0 ds X M n0 ins A Y n1 R LA lc bs od vO pA pc rA rc K o w e w' :=
  ⟨none, [], 0, c, ins, A, Y, he.1, .inl rfl, fun f hf => (by cases hf), (h.next he.2).mono (by omega), fun _ _ => rfl, Touch.of_below he.2, by simp [maxLen]⟩
theorem AlS.of_eff (h : AlS w0 ds X M n0 ins A Y n1 R LA lc bs od vO pA pc rA rc K w) {o : Int} {i : Ins} (hs : insAt ins o = some i) {r : Iv} {e : Ending} {w' : World} (hr : IvP o (1099511627776 + K + 1) r) (hE : EffR i.base i.d.base i.I i.d.P i.d.nm i.d.Ls i.d.Bs (A i.d.P) (Y i.d.P) i.v i.l r w e w') : CallR w0 ds X M n0 ins A Y n1 R LA lc bs od vO pA pc rA rc K o w e w' := by
  obtain ⟨hi, ho⟩ := insAt_mem hs
  obtain ⟨OA, oc, ask', y', l', rfl, ha, hI, hM, hO, _⟩ := hE
  have hA := (h.p i.d (h.i i hi).1).2.2.1
  subst ho
  refine ⟨OA, r.out, oc, 0, _, _, _, rfl, own_rd hO, hr.out, h.eff hi hI hM rfl (by have := hr.zero; rw [show (1099511627776 + (K + 1) : Int) = 1099511627776 + K + 1 from by omega]; exact this) ⟨by omega, by omega⟩ (by omega), fun o2 ho2 => insAt_set (by exact hr.ord) ho2 ins, hM.m.t.mono (fun g hg => ?_), ?_⟩
  · rcases hg with hg | hg
    · exact .inl ⟨i, hi, hg⟩
    · exact .inr (.inl ⟨i.d, (h.i i hi).1, hg⟩)
  · exact own_max13 hO
theorem AlS.reply (h : AlS w0 ds X M n0 ins A Y n1 R LA lc bs od vO pA pc rA rc K w) (hK : K ≤ 1000000000000000) (o s tr code : Int) (un : Bool) : Calls Tryz.prog 10 #[.pointer (some ⟨X, 0, none⟩), .int .i64 o, .int .i64 s, .int .i64 tr, .bool un, .int .i64 code] w (CallR w0 ds X M n0 ins A Y n1 R LA lc bs od vO pA pc rA rc K o w) := by
  have hk := h.k
  cases hs : insAt ins o with
  | none =>
    refine (reply_err (w := w) (.pointer (some ⟨X, 0, none⟩)) o s tr code un 70 (.inr (.inl rfl)) (at_none h.e o s (by rw [mget_ins, hs]; rfl))).mono ?_
    rintro e w2 ⟨rfl, rfl⟩
    exact h.no_eff ⟨rfl, Below.refl _ _⟩
  | some i =>
    obtain ⟨hi, ho⟩ := insAt_mem hs
    obtain ⟨hd, hii, hmn, hout, _, hiv⟩ := h.i i hi
    have hat := at_some h.e o s (by rw [mget_ins, hs]; rfl) hii
    by_cases hr : 0 ≤ s ∧ s < i.v.ms.length
    · rw [if_pos hr] at hat
      obtain ⟨q, rfl⟩ : ∃ q : Nat, s = (q : Int) := ⟨s.toNat, by omega⟩
      have hq : q < i.d.Ls.length := by omega
      refine (reply_any (h.inp hi) (by rw [hout]; simp) (by have := (h.p i.d hd).2.2.1; omega) (.pointer (some ⟨X, 0, none⟩)) o tr code un q _ (List.getElem?_eq_getElem hq) hat).mono (fun e w2 hE => h.of_eff hs ?_ hE)
      rw [ho] at hiv
      exact (hiv.rp (by omega) _ _ _ _ _ _ _).mono (by omega)
    · rw [if_neg hr] at hat
      refine (reply_err (w := w) (.pointer (some ⟨X, 0, none⟩)) o s tr code un 70 (.inr (.inl rfl)) hat).mono ?_
      rintro e w2 ⟨rfl, rfl⟩
      exact h.no_eff ⟨rfl, Below.refl _ _⟩
theorem AlS.fire (h : AlS w0 ds X M n0 ins A Y n1 R LA lc bs od vO pA pc rA rc K w) (hK : K ≤ 1000000000000000) (o s : Int) : Calls Tryz.prog 11 #[.pointer (some ⟨X, 0, none⟩), .int .i64 o, .int .i64 s] w (CallR w0 ds X M n0 ins A Y n1 R LA lc bs od vO pA pc rA rc K o w) := by
  have hk := h.k
  cases hs : insAt ins o with
  | none =>
    refine (fire_err (w := w) (.pointer (some ⟨X, 0, none⟩)) o s 70 (.inr (.inl rfl)) (at_none h.e o s (by rw [mget_ins, hs]; rfl))).mono ?_
    rintro e w2 ⟨rfl, rfl⟩
    exact h.no_eff ⟨rfl, Below.refl _ _⟩
  | some i =>
    obtain ⟨hi, ho⟩ := insAt_mem hs
    obtain ⟨hd, hii, hmn, hout, _, hiv⟩ := h.i i hi
    have hat := at_some h.e o s (by rw [mget_ins, hs]; rfl) hii
    by_cases hr : 0 ≤ s ∧ s < i.v.ms.length
    · rw [if_pos hr] at hat
      obtain ⟨q, rfl⟩ : ∃ q : Nat, s = (q : Int) := ⟨s.toNat, by omega⟩
      have hq : q < i.d.Ls.length := by omega
      have hm := mkA_ts hiv (by omega) q
      refine (fire_any (h.inp hi) (by rw [hout]; simp) (by have := (h.p i.d hd).2.2.1; omega) (.pointer (some ⟨X, 0, none⟩)) o q _ (List.getElem?_eq_getElem hq) (by omega) hat).mono (fun e w2 hE => h.of_eff hs ?_ hE)
      rw [ho] at hiv
      exact hiv.fr (by omega) _ _ _ _
    · rw [if_neg hr] at hat
      refine (fire_err (w := w) (.pointer (some ⟨X, 0, none⟩)) o s 70 (.inr (.inl rfl)) hat).mono ?_
      rintro e w2 ⟨rfl, rfl⟩
      exact h.no_eff ⟨rfl, Below.refl _ _⟩
theorem AlS.paid (h : AlS w0 ds X M n0 ins A Y n1 R LA lc bs od vO pA pc rA rc K w) (o : Int) : Calls Tryz.prog 12 #[.pointer (some ⟨X, 0, none⟩), .int .i64 o] w (CallR w0 ds X M n0 ins A Y n1 R LA lc bs od vO pA pc rA rc K o w) := by
  have hk := h.k
  have hf := efind_any h.e o
  cases hs : insAt ins o with
  | none =>
    rw [show findV (esOf ins) o = (.pointer none, 70) from by unfold findV; rw [mget_ins, hs]; rfl] at hf
    refine (paid_err (w := w) (.pointer (some ⟨X, 0, none⟩)) o 70 (.inr (.inl rfl)) hf).mono ?_
    rintro e w2 ⟨rfl, rfl⟩
    exact h.no_eff ⟨rfl, Below.refl _ _⟩
  | some i =>
    obtain ⟨hi, ho⟩ := insAt_mem hs
    obtain ⟨hd, hii, hmn, hout, _, hiv⟩ := h.i i hi
    rw [show findV (esOf ins) o = (.pointer (some ⟨i.I, 0, none⟩), 0) from by unfold findV; rw [mget_ins, hs]; rfl] at hf
    refine (paid_any (h.inp hi) (by rw [hout]; simp) (.pointer (some ⟨X, 0, none⟩)) o hf).mono (fun e w2 hE => h.of_eff hs ?_ hE)
    rw [ho] at hiv
    exact (hiv.pd (by omega) _ _).mono (by omega)
theorem AlS.cancel (h : AlS w0 ds X M n0 ins A Y n1 R LA lc bs od vO pA pc rA rc K w) (hK : K ≤ 1000000000000000) (o : Int) : Calls Tryz.prog 13 #[.pointer (some ⟨X, 0, none⟩), .int .i64 o] w (CallR w0 ds X M n0 ins A Y n1 R LA lc bs od vO pA pc rA rc K o w) := by
  have hk := h.k
  have hf := efind_any h.e o
  cases hs : insAt ins o with
  | none =>
    rw [show findV (esOf ins) o = (.pointer none, 70) from by unfold findV; rw [mget_ins, hs]; rfl] at hf
    refine (cancel_err (w := w) (.pointer (some ⟨X, 0, none⟩)) o 70 (.inr (.inl rfl)) hf).mono ?_
    rintro e w2 ⟨rfl, rfl⟩
    exact h.no_eff ⟨rfl, Below.refl _ _⟩
  | some i =>
    obtain ⟨hi, ho⟩ := insAt_mem hs
    obtain ⟨hd, hii, hmn, hout, _, hiv⟩ := h.i i hi
    rw [show findV (esOf ins) o = (.pointer (some ⟨i.I, 0, none⟩), 0) from by unfold findV; rw [mget_ins, hs]; rfl] at hf
    refine (cancel_any (h.inp hi) (by rw [hout]; simp) (by have := (h.p i.d hd).2.2.1; omega) (.pointer (some ⟨X, 0, none⟩)) o hf).mono (fun e w2 hE => ?_)
    unfold CanR at hE
    split at hE
    · exact h.no_eff hE
    · refine h.of_eff hs ?_ hE
      rw [ho] at hiv
      exact (hiv.turn _ _).mono (by omega)
end

end Go.Proofs.YtoemmakhbiiknaaGreat

namespace Go.Proofs.YtoemmakhbiiknaaGreat
open Go.RowKit Go.WideShapes Go.ChangeShapes Go.ChangeAt Go.Deep
set_option linter.unusedVariables false

/-- An operation. -/
structure OpE where
  kd : Int
  o : Int
  s : Int
  tr : Int
  code : Int
  un : Bool
  so : Int
  ss : Int
  sp : Bool
  MA : Option Addr
  mc : Nat
  ms : List Int
  TA : Option Addr
  tc : Nat
  ts : List Int
def enOpE (x : OpE) : List Value := [.int .i64 x.kd, .int .i64 x.o, .int .i64 x.s, .int .i64 x.tr, .int .i64 x.code, .bool x.un, .int .i64 x.so, .int .i64 x.ss, .bool x.sp, .slice x.MA x.ms.length x.mc, .slice x.TA x.ts.length x.tc]
theorem enOpE_len (x : OpE) : (enOpE x).length = 11 := rfl
structure OkOpE (w : World) (x : OpE) : Prop where
  m : Rd w x.MA (x.ms.flatMap en1)
  t : Rd w x.TA (x.ts.flatMap en1)
  ml : x.ms.length * 8 ≤ 140737488351232
  tl : x.ts.length * 8 ≤ 140737488351232
  sw : -9223372036854775808 ≤ x.s ∧ x.s ≤ 9223372036854775807
theorem OkOpE.next {w w' : World} {x : OpE} (h : OkOpE w x) (hb : Below w.heap.size w w') : OkOpE w' x := ⟨h.m.below hb, h.t.below hb, h.ml, h.tl, h.sw⟩
section
variable {w0 w w' : World} {ds : List PlD} {X M n0 : Nat} {ins : List Ins} {A : Nat → Int} {Y : Nat → Pw} {n1 R lc pc rc : Nat} {LA pA rA : Option Addr} {bs : List Nat} {od : Nat → Int} {vO : Value} {K : Int}
theorem AlS.start (h : AlS w0 ds X M n0 ins A Y n1 R LA lc bs od vO pA pc rA rc K w) {d : PlD} (hd : d ∈ ds) (o : Int) : Calls Tryz.prog 16 #[.pointer (some ⟨X, 0, none⟩), .int .i64 o, .pointer (some ⟨d.P, 0, none⟩)] w fun e w' => ∃ (OA : Option Addr) (fs : List Eff) (oc : Nat) (c : Int) (ins' : List Ins), e = .returned (.tuple #[.slice OA fs.length oc, .int .i64 c]) ∧ w'.ownsRow w.heap.size 55 6 (.slice OA fs.length oc) fs.length (fs.flatMap enEf) ∧ AlS w0 ds X M n0 ins' A Y n1 R LA lc bs od vO pA pc rA rc K w' ∧ (∀ o2, o2 ≠ o → insAt ins' o2 = insAt ins o2) ∧ Touch (fun g => g = M ∨ g = d.P) w w' ∧ ((c = 0 ∧ fs = (goV d.Ls d.Bs (newV o d.Ls.length)).out) ∨ (c = 71 ∧ fs = [])) := by
  have hk := h.k
  have hroom := room_any h.e o d.P
  cases hs : insAt ins o with
  | some i =>
    rw [show roomV (esOf ins) o = 71 from by unfold roomV; rw [mget_ins, hs]; rfl] at hroom
    refine (start_err (w := w) (.pointer (some ⟨X, 0, none⟩)) o (.pointer (some ⟨d.P, 0, none⟩)) 71 (.inr (.inr rfl)) hroom).mono ?_
    rintro e w2 ⟨rfl, rfl⟩
    exact ⟨none, [], 0, 71, ins, rfl, World.ownsRow_nil _ _ _ _, h, fun _ _ => rfl, Touch.refl _ _, .inr ⟨rfl, rfl⟩⟩
  | none =>
    have hno : mget (esOf ins) o = none := by rw [mget_ins, hs]; rfl
    refine (start_any (h.p d hd).2.1.p h.e o hno).mono ?_
    rintro e w2 ⟨I, OA, oc, l', rfl, hI, hE, hT, hO, _⟩
    have hord : (goV d.Ls d.Bs (newV o d.Ls.length)).ord = o := by rw [goV_ord]; rfl
    have hiv : IvP o (1099511627776 + K) (goV d.Ls d.Bs (newV o d.Ls.length)) := (IvP.new o d.Ls.length (by omega) (List.replicate d.Ls.length 0) (fun t ht => List.eq_of_mem_replicate ht)).go (by omega) _ _
    have hm := h.more hd (K' := K) hT hI (by show IsEng n0 X M (mset (esOf ins) (goV d.Ls d.Bs (newV o d.Ls.length)).ord I) w2; rw [hord]; exact hE) (by show mget (esOf ins) (goV d.Ls d.Bs (newV o d.Ls.length)).ord = none; rw [hord]; exact hno) rfl (by have := hiv.zero; show IvP (goV d.Ls d.Bs (newV o d.Ls.length)).ord _ _; rw [hord]; exact this) (Int.le_refl _)
    exact ⟨OA, _, oc, 0, _, rfl, hO, hm, fun o2 h2 => insAt_more (by show o2 ≠ (goV d.Ls d.Bs (newV o d.Ls.length)).ord; rw [hord]; exact h2) ins, hT, .inl ⟨rfl, rfl⟩⟩
theorem AlS.dstart (h : AlS w0 ds X M n0 ins A Y n1 R LA lc bs od vO pA pc rA rc K w) {d : PlD} (hd : d ∈ ds) (o : Int) (hl : bs.length * 8 + 8 ≤ 140737488355328) : Calls Tryz.prog 23 #[.pointer (some ⟨R, 0, none⟩), .int .i64 o, .pointer (some ⟨d.RP, 0, none⟩)] w fun e w' => ∃ (OA : Option Addr) (fs : List Eff) (oc : Nat) (c : Int) (LA' : Option Addr) (lc' : Nat) (bs' : List Nat) (od' : Nat → Int) (vO' : Value), e = .returned (.tuple #[.slice OA fs.length oc, .int .i64 c]) ∧ Rd w' OA (fs.flatMap enEf) ∧ AlS w0 ds X M n0 ins A Y n1 R LA' lc' bs' od' vO' pA pc rA rc K w' ∧ Touch (DV R LA bs.length lc) w w' ∧ bs'.length ≤ bs.length + 1 ∧ ((c = 0 ∧ fs = (goV d.Ls d.Bs (newV o d.Ls.length)).out) ∨ (c = 71 ∧ fs = [])) := by
  obtain ⟨hf, hp, _, hhi, _⟩ := h.p d hd
  cases hb : bs.find? (fun b => od b == o) with
  | some b =>
    refine (dstart_no h.dn o (.pointer (some ⟨d.RP, 0, none⟩)) (by omega) b (by unfold dfV; rw [hb])).mono ?_
    rintro e w2 ⟨rfl, rfl⟩
    exact ⟨none, [], 0, 71, LA, lc, bs, od, vO, rfl, .inl rfl, h, Touch.refl _ _, by omega, .inr ⟨rfl, rfl⟩⟩
  | none =>
    refine (dstart_any (bG := d.hi) h.dn hp.r (fun s hs b hbb => (hf.ir b (.inr (.inr ⟨s, hs, hbb⟩))).2) hhi hf.s o hl (by unfold dfV; rw [hb])).mono ?_
    rintro e w2 ⟨J, LA', lc', l', n00, Xs, rfl, hDE, hD, hT, _, _⟩
    exact ⟨l'.OA, _, l'.oc, 0, LA', lc', _, _, _, rfl, own_rd hD.o, h.doc hT hDE, hT, by simp, .inl ⟨rfl, rfl⟩⟩
theorem putB_ts {n : Nat} {st : Int} {ms ts : List Int} (h : putB n st ms ts = true) : ∀ t ∈ ts, 0 ≤ t ∧ t ≤ 1099511627776 := fun t ht => by
  unfold putB at h
  simp only [Bool.not_eq_true', Bool.or_eq_false_iff] at h
  have := List.any_eq_false.1 h.2.2.2.2.2 t ht
  simp [belB] at this
  omega
theorem AlS.put (h : AlS w0 ds X M n0 ins A Y n1 R LA lc bs od vO pA pc rA rc K w) {d : PlD} (hd : d ∈ ds) (o st : Int) (pd : Bool) (ms : List Int) (MA : Option Addr) (mc : Nat) (ts : List Int) (TA : Option Addr) (tc : Nat) (hm : Rd w MA (ms.flatMap en1)) (ht : Rd w TA (ts.flatMap en1)) (hml : ms.length ≤ 140737488355328) (htl : ts.length ≤ 140737488355328) : Calls Tryz.prog 21 #[.pointer (some ⟨X, 0, none⟩), .agg #[.int .i64 o, .int .i64 st, .bool pd, .slice MA ms.length mc, .slice TA ts.length tc], .pointer (some ⟨d.P, 0, none⟩)] w fun e w' => ∃ (c : Int) (ins' : List Ins), e = .returned (.int .i64 c) ∧ AlS w0 ds X M n0 ins' A Y n1 R LA lc bs od vO pA pc rA rc K w' ∧ (∀ o2, o2 ≠ o → insAt ins' o2 = insAt ins o2) ∧ Touch (· = M) w w' := by
  have hk := h.k
  cases hs : insAt ins o with
  | some i =>
    refine (put_err (w := w) (.pointer (some ⟨X, 0, none⟩)) (.pointer (some ⟨d.P, 0, none⟩)) o st pd (.slice MA ms.length mc) (.slice TA ts.length tc) 71 (.inr rfl) (fun w' hb => ?_) rfl rfl).mono ?_
    · have := room_any (h.e.next hb) o d.P
      rw [show roomV (esOf ins) o = 71 from by unfold roomV; rw [mget_ins, hs]; rfl] at this
      exact this
    · rintro e w2 ⟨rfl, hb⟩
      exact ⟨71, ins, rfl, h.next hb, fun _ _ => rfl, Touch.of_below hb⟩
  | none =>
    have hno : mget (esOf ins) o = none := by rw [mget_ins, hs]; rfl
    cases hp : putB d.Ls.length st ms ts with
    | true =>
      refine (put_good (h.p d hd).2.1.p h.e o st hno pd ms MA mc ts TA tc hm ht hml htl hp).mono ?_
      rintro e w2 ⟨I, l', rfl, hI, hE, hT⟩
      have hm := h.more hd (K' := K) (hT.mono (fun k hk => .inl hk)) hI hE hno rfl ⟨rfl, fun t ht => by have := putB_ts hp t ht; omega, fun f hf => by cases hf⟩ (Int.le_refl _)
      exact ⟨0, _, rfl, hm, fun o2 h2 => insAt_more h2 ins, hT⟩
    | false =>
      refine (put_bad (h.p d hd).2.1.p (.pointer (some ⟨X, 0, none⟩)) o st pd ms MA mc ts TA tc hm ht hml htl (fun w' hb => ?_) hp).mono ?_
      · have := room_any (h.e.next hb) o d.P
        rw [show roomV (esOf ins) o = 0 from by unfold roomV; rw [hno]] at this
        exact this
      · rintro e w2 ⟨rfl, hb⟩
        exact ⟨2, ins, rfl, h.next hb, fun _ _ => rfl, Touch.of_below hb⟩
/-- What step leaves. -/
def StepS (w0 : World) (ds : List PlD) (X M n0 : Nat) (ins : List Ins) (Y : Nat → Pw) (n1 R : Nat) (LA : Option Addr) (lc : Nat) (bs : List Nat) (pA : Option Addr) (pc : Nat) (rA : Option Addr) (rc : Nat) (K : Int) (x : OpE) (w w' : World) : Prop :=
  ∃ (LA' : Option Addr) (lc' : Nat) (bs' : List Nat) (od' : Nat → Int) (vO' : Value) (ins' : List Ins) (A' : Nat → Int) (Y' : Nat → Pw), AlS w0 ds X M n0 ins' A' Y' n1 R LA' lc' bs' od' vO' pA pc rA rc (K + 1) w' ∧ (∀ o2, (x.kd = 1 → o2 ≠ x.o) → (x.kd = 6 → o2 ≠ x.so) → insAt ins' o2 = insAt ins o2) ∧ Touch (OwnA ds M ins Y R LA lc bs.length) w w' ∧ bs'.length ≤ bs.length + 1
def StepT (w0 : World) (ds : List PlD) (X M n0 : Nat) (ins : List Ins) (Y : Nat → Pw) (n1 R : Nat) (LA : Option Addr) (lc : Nat) (bs : List Nat) (pA : Option Addr) (pc : Nat) (rA : Option Addr) (rc : Nat) (K : Int) (x : OpE) (w : World) (e : Ending) (w' : World) : Prop := ∃ b : Bool, e = .returned (.bool b) ∧ StepS w0 ds X M n0 ins Y n1 R LA lc bs pA pc rA rc K x w w'
set_option maxRecDepth 100000 in
set_option maxHeartbeats 64000000 in
theorem AlS.step (h : AlS w0 ds X M n0 ins A Y n1 R LA lc bs od vO pA pc rA rc K w) (hK : K ≤ 1000000000000000) (x : OpE) (hx : OkOpE w0 x) (hkd : x.kd ≠ 2 ∧ x.kd ≠ 3 ∧ x.kd ≠ 4 ∧ x.kd ≠ 5) (hbl : bs.length * 8 + 8 ≤ 140737488355328) (hdl : ds.length ≤ 140737488355328) :
    Calls Tryz.prog 14 #[.pointer (some ⟨X, 0, none⟩), .pointer (some ⟨R, 0, none⟩), .agg (enOpE x).toArray, .slice pA ds.length pc, .slice rA ds.length rc] w (StepT w0 ds X M n0 ins Y n1 R LA lc bs pA pc rA rc K x w) := by
  have HA := hid h
  have HX := hid hx
  have HKD := hid hkd
  have hsw := hx.sw
  obtain ⟨xk, xo, xs, xt, xc, xu, so, ss, sp, MA, mc, ms, TA, tc, ts⟩ := x
  rw [show (enOpE ⟨xk, xo, xs, xt, xc, xu, so, ss, sp, MA, mc, ms, TA, tc, ts⟩).toArray = #[.int .i64 xk, .int .i64 xo, .int .i64 xs, .int .i64 xt, .int .i64 xc, .bool xu, .int .i64 so, .int .i64 ss, .bool sp, .slice MA ms.length mc, .slice TA ts.length tc] from rfl]
  simp only at hsw
  clear h hx hkd
  go_enter Tryz.func14, Tryz.ntmps14
  go_upto_region 6 with fail
  have hB := Blk.new w 42 #[.int .i64 xk, .int .i64 xo, .int .i64 xs, .int .i64 xt, .int .i64 xc, .bool xu, .int .i64 so, .int .i64 ss, .bool sp, .slice MA ms.length mc, .slice TA ts.length tc]
  have hbW : Below w.heap.size w (w.alloc (.cells #[.int .i64 xk, .int .i64 xo, .int .i64 xs, .int .i64 xt, .int .i64 xc, .bool xu, .int .i64 so, .int .i64 ss, .bool sp, .slice MA ms.length mc, .slice TA ts.length tc] 42)) := (Below.refl _ _).alloc (Nat.le_refl _) _
  generalize w.alloc (.cells #[.int .i64 xk, .int .i64 xo, .int .i64 xs, .int .i64 xt, .int .i64 xc, .bool xu, .int .i64 so, .int .i64 ss, .bool sp, .slice MA ms.length mc, .slice TA ts.length tc] 42) = W at hB hbW ⊢
  generalize hG : w.heap.size = G at hB ⊢
  have HG := hid hG
  have HGB := hid hB
  have HBW := hid hbW
  have HAW := hid (HA.out.next hbW)
  obtain ⟨n, hn⟩ : ∃ n : Nat, max 0 xs % max 1 (ds.length : Int) = (n : Int) := ⟨(max 0 xs % max 1 (ds.length : Int)).toNat, by have := Int.emod_nonneg (max 0 xs) (show max 1 (ds.length : Int) ≠ 0 by omega); omega⟩
  have hnl : 0 < ds.length → n < ds.length := fun h0 => by
    have := Int.emod_lt_of_pos (max 0 xs) (show (0 : Int) < max 1 (ds.length : Int) by omega)
    omega
  rw [hn]
  have HNL := hid hnl
  clear hn hnl hG hbW hB hsw
  have g0 : W.cell? ⟨G, 0, none⟩ = some (.int .i64 xk) := HGB.out.cell 0
  have lG := HGB.out.lt
  have HNO := hid (show (xk ≠ 1 ∨ ds.length = 0) → (xk ≠ 6 ∨ ds.length = 0) → ∀ {w2 : World}, Below W.heap.size W w2 → StepS w0 ds X M n0 ins Y n1 R LA lc bs pA pc rA rc K ⟨xk, xo, xs, xt, xc, xu, so, ss, sp, MA, mc, ms, TA, tc, ts⟩ w w2 from fun _ _ {w2} hb => ⟨LA, lc, bs, od, vO, ins, A, Y, (HAW.out.next hb).mono (by omega), fun _ _ _ => rfl, Touch.of_below (bthen HBW.out hb), by omega⟩)
  by_cases h1 : xk = 1
  · subst h1
    by_cases h0 : ds.length = 0
    · rw [h0]
      go_wp2_with fail
      go_ret
      first
        | exact ⟨true, rfl, HNO.out (.inr h0) (.inr h0) (Below.refl _ _)⟩
        | exact ⟨false, rfl, HNO.out (.inr h0) (.inr h0) (Below.refl _ _)⟩
        | exact ⟨rfl, HNO.out (.inr h0) (.inr h0) (Below.refl _ _)⟩
    · have HN := hid (HNL.out (by omega))
      have t0 : ((ds.length : Int) == 0) = false := by rw [beq_eq_false_iff_ne]; omega
      obtain ⟨d, hd⟩ : ∃ d, ds[n]? = some d := ⟨_, List.getElem?_eq_getElem HN.out⟩
      have HD := hid (List.mem_of_getElem? hd)
      have HDN := hid hd
      obtain ⟨b1, o1, hA1, _, hc1⟩ := (own_rd HAW.out.po).at_ (enc := fun d : PlD => enB13 d.P) 1 (fun _ => rfl) (by omega) hd
      obtain ⟨b2, o2, hA2, _, _⟩ := (own_rd HAW.out.ro).at_ (enc := fun d : PlD => enB13 d.RP) 1 (fun _ => rfl) (by omega) hd
      have q0 : W.cell? ⟨b1, o1 + n * 1, none⟩ = some (.pointer (some ⟨d.P, 0, none⟩)) := hc1 0 _ rfl
      rw [Nat.mul_one] at q0
      have g1 : W.cell? ⟨G, 1, none⟩ = some (.int .i64 xo) := HGB.out.cell 1
      have hnn := HN.out
      have KS := hid (fun w' (hb : Below W.heap.size W w') => (HAW.out.next hb).start HD.out xo)
      have HGW := hid (show ∀ w3 : World, Touch (fun g => g = M ∨ g = d.P) (W.drewN 1) w3 → Blk w3 G 42 #[.int .i64 1, .int .i64 xo, .int .i64 xs, .int .i64 xt, .int .i64 xc, .bool xu, .int .i64 so, .int .i64 ss, .bool sp, .slice MA ms.length mc, .slice TA ts.length tc] from fun w3 hT => hT.blk (HGB.out.next (below_drewN (Below.refl _ _) 1)) (fun hg => by
        rcases hg with hg | hg
        · exact HAW.out.e.map.notBlk HGB.out hg.symm
        · exact HGB.out.ne_ (HAW.out.p d HD.out).2.1.p.p.p (by decide) hg))
      subst hA1 hA2
      clear hc1 hd
      go_upto_region 10 with fail
      go_region_with ((go_at_call 16; refine (KS.out _ (below_drewN (Below.refl _ _) _)).mono ?_; rintro e w3 ⟨OA, fs, oc, c, ins', rfl, hrd, hal, hin, hT, hcf⟩; have HG3 := hid (HGW.out w3 hT)))
      all_goals
        have HRD := hid hrd
        have HAL := hid hal
        have HIN := hid hin
        have HTT := hid hT
        have HCF := hid hcf
        have g1 : w3.cell? ⟨G, 1, none⟩ = some (.int .i64 xo) := HG3.out.cell 1
        have lG := HG3.out.lt
        obtain ⟨b2', o2', hA2, _, hc2⟩ := (own_rd hal.ro).at_ (enc := fun d : PlD => enB13 d.RP) 1 (fun _ => rfl) (by omega) HDN.out
        simp only [Option.some.injEq, Addr.mk.injEq, and_true] at hA2
        obtain ⟨rfl, rfl⟩ := hA2
        have q2 : w3.cell? ⟨b2, o2 + n * 1, none⟩ = some (.pointer (some ⟨d.RP, 0, none⟩)) := hc2 0 _ rfl
        rw [Nat.mul_one] at q2
        have KD := hid (fun w' (hb : Below w3.heap.size w3 w') => (HAL.out.next hb).dstart HD.out xo hbl)
        clear hc2 hrd hal hin hT hcf q0 KS
        go_upto_region 11 with fail
        go_region_with ((go_at_call 23; refine (KD.out _ (below_drewN (Below.refl _ _) _)).mono ?_; rintro e w4 ⟨OB, gs, obc, c2, LA', lc', bs', od', vO', rfl, hrd2, hal2, hT2, hbs2, hcf2⟩))
        all_goals
          have HR2 := hid hrd2
          have HRO := hid (show Rd w4 OA (fs.flatMap enEf) from own_rd (own_touch (own_next HRD.out (below_drewN (Below.refl _ _) 1)) hT2 (fun g hg hs => by
            have hdn := (HAL.out.next (below_drewN (Below.refl _ _) 1)).dn
            have hro := own_next HRD.out (below_drewN (Below.refl w3.heap.size w3) 1)
            rcases hs with hs | hs
            · exact own_notBlk hro hdn.r (by decide) (by rw [hg, hs])
            · exact own_ne (own_base hro (Nat.zero_le _)) (own_base hdn.own (Nat.zero_le _)) (by decide) hg hs)))
          have HST := hid (show ∀ w5, Below w4.heap.size w4 w5 → StepS w0 ds X M n0 ins Y n1 R LA lc bs (some ⟨b1, o1, none⟩) pc (some ⟨b2, o2, none⟩) rc K ⟨1, xo, xs, xt, xc, xu, so, ss, sp, MA, mc, ms, TA, tc, ts⟩ w w5 from fun w5 hb => ⟨LA', lc', bs', od', vO', ins', A, Y, (hal2.next hb).mono (by omega), fun o2 h2 _ => HIN.out o2 (h2 rfl), by
            have a1 : Touch (OwnA ds M ins Y R LA lc bs.length) w (W.drewN 1) := Touch.of_below (bthen HBW.out (below_drewN (Below.refl _ _) 1))
            have a2 : Touch (OwnA ds M ins Y R LA lc bs.length) (W.drewN 1) w3 := HTT.out.mono (fun g hg => by
              rcases hg with hg | hg
              · exact .inr (.inr (.inl hg))
              · exact .inr (.inl ⟨d, HD.out, hg⟩))
            have a3 : Touch (OwnA ds M ins Y R LA lc bs.length) w3 (w3.drewN 1) := Touch.of_below (below_drewN (Below.refl _ _) 1)
            have a4 : Touch (OwnA ds M ins Y R LA lc bs.length) (w3.drewN 1) w4 := hT2.mono (fun g hg => .inr (.inr (.inr hg)))
            exact (((a1.then a2).then a3).then a4).then (Touch.of_below hb), hbs2⟩)
          have HC2 := hid hcf2
          clear hrd2 hal2 hT2 hbs2 hcf2 KD q2 g1 lG
          rcases HCF.out with ⟨rfl, hfs⟩ | ⟨rfl, rfl⟩
          · rcases HC2.out with ⟨rfl, hgs⟩ | ⟨rfl, rfl⟩
            · obtain rfl : gs = fs := by rw [hfs, hgs]
              have hlf : gs.length ≤ 1000000 := by
                rw [hgs]
                have := goN_out d.Ls d.Bs (newV xo d.Ls.length) (newV xo d.Ls.length).ms.length
                have h4 := (HA.out.p d HD.out).1.n40
                have h5 : (newV xo d.Ls.length).ms.length = d.Ls.length := by simp [newV]
                have h6 : (newV xo d.Ls.length).out.length = 0 := rfl
                unfold goV
                split
                · omega
                · show (goN d.Ls d.Bs (newV xo d.Ls.length) (newV xo d.Ls.length).ms.length).out.length ≤ _
                  omega
              have KZ := hid (same13_any gs OA OB oc obc w4 HRO.out HR2.out hlf)
              clear hfs hgs
              go_wp2_with fail
              refine KZ.out.mono ?_
              rintro e w5 ⟨rfl, hb5⟩
              have HSZ := hid (HST.out w5 hb5)
              clear KZ hb5
              go_wp2_with fail
              go_ret
              first
                | exact ⟨true, rfl, HSZ.out⟩
                | exact ⟨false, rfl, HSZ.out⟩
                | exact ⟨rfl, HSZ.out⟩
            · clear hfs
              have HSZ := hid (HST.out w4 (Below.refl _ _))
              go_wp2_with fail
              go_ret
              first
                | exact ⟨true, rfl, HSZ.out⟩
                | exact ⟨false, rfl, HSZ.out⟩
                | exact ⟨rfl, HSZ.out⟩
          · rcases HC2.out with ⟨rfl, hgs⟩ | ⟨rfl, rfl⟩
            · clear hgs
              have HSZ := hid (HST.out w4 (Below.refl _ _))
              go_wp2_with fail
              go_ret
              first
                | exact ⟨true, rfl, HSZ.out⟩
                | exact ⟨false, rfl, HSZ.out⟩
                | exact ⟨rfl, HSZ.out⟩
            · have KZ := hid (same13_any [] OA OB oc obc w4 HRO.out HR2.out (by simp))
              simp only [List.length_nil] at KZ ⊢
              go_wp2_with fail
              refine KZ.out.mono ?_
              rintro e w5 ⟨rfl, hb5⟩
              have HSZ := hid (HST.out w5 hb5)
              clear KZ hb5
              go_wp2_with fail
              go_ret
              first
                | exact ⟨true, rfl, HSZ.out⟩
                | exact ⟨false, rfl, HSZ.out⟩
                | exact ⟨rfl, HSZ.out⟩
  · have f1 : (xk == 1) = false := by rw [beq_eq_false_iff_ne]; exact h1
    have f2 : (xk == 2) = false := by rw [beq_eq_false_iff_ne]; exact HKD.out.1
    have f3 : (xk == 3) = false := by rw [beq_eq_false_iff_ne]; exact HKD.out.2.1
    have f4 : (xk == 4) = false := by rw [beq_eq_false_iff_ne]; exact HKD.out.2.2.1
    have f5 : (xk == 5) = false := by rw [beq_eq_false_iff_ne]; exact HKD.out.2.2.2
    by_cases h6 : xk = 6
    · subst h6
      clear f1 f2 f3 f4 f5 h1
      by_cases h0 : ds.length = 0
      · rw [h0]
        go_wp2_with fail
        go_ret
        first
          | exact ⟨true, rfl, HNO.out (.inr h0) (.inr h0) (Below.refl _ _)⟩
          | exact ⟨rfl, HNO.out (.inr h0) (.inr h0) (Below.refl _ _)⟩
      · have HN := hid (HNL.out (by omega))
        have t0 : ((ds.length : Int) == 0) = false := by rw [beq_eq_false_iff_ne]; omega
        obtain ⟨d, hd⟩ : ∃ d, ds[n]? = some d := ⟨_, List.getElem?_eq_getElem HN.out⟩
        have HD := hid (List.mem_of_getElem? hd)
        have HDN := hid hd
        have g6 : W.cell? ⟨G, 6, none⟩ = some (.int .i64 so) := HGB.out.cell 6
        have g7 : W.cell? ⟨G, 7, none⟩ = some (.int .i64 ss) := HGB.out.cell 7
        have g8 : W.cell? ⟨G, 8, none⟩ = some (.bool sp) := HGB.out.cell 8
        have g9 : W.cell? ⟨G, 9, none⟩ = some (.slice MA ms.length mc) := HGB.out.cell 9
        have g10 : W.cell? ⟨G, 10, none⟩ = some (.slice TA ts.length tc) := HGB.out.cell 10
        have hnn := HN.out
        clear hd
        go_upto_region 28 with fail
        have hB2 := Blk.new W 40 #[.int .i64 so, .int .i64 ss, .bool sp, .slice MA ms.length mc, .slice TA ts.length tc]
        have hbW2 : Below W.heap.size W (W.alloc (.cells #[.int .i64 so, .int .i64 ss, .bool sp, .slice MA ms.length mc, .slice TA ts.length tc] 40)) := (Below.refl _ _).alloc (Nat.le_refl _) _
        have HA2W := hid (HAW.out.next hbW2)
        have HBW2 := hid hbW2
        clear g0 g6 g7 g8 g9 g10 lG
        generalize W.alloc (.cells #[.int .i64 so, .int .i64 ss, .bool sp, .slice MA ms.length mc, .slice TA ts.length tc] 40) = W2 at hB2 HA2W HBW2 ⊢
        generalize W.heap.size = G2 at hB2 ⊢
        have HG2 := hid hB2
        obtain ⟨b1, o1, hA1, _, hc1⟩ := (own_rd HA2W.out.po).at_ (enc := fun d : PlD => enB13 d.P) 1 (fun _ => rfl) (by omega) HDN.out
        obtain ⟨b2, o2, hA2, _, _⟩ := (own_rd HA2W.out.ro).at_ (enc := fun d : PlD => enB13 d.RP) 1 (fun _ => rfl) (by omega) HDN.out
        have q0 : W2.cell? ⟨b1, o1 + n * 1, none⟩ = some (.pointer (some ⟨d.P, 0, none⟩)) := hc1 0 _ rfl
        rw [Nat.mul_one] at q0
        have s0 : W2.cell? ⟨G2, 0, none⟩ = some (.int .i64 so) := hB2.cell 0
        have s1 : W2.cell? ⟨G2, 1, none⟩ = some (.int .i64 ss) := hB2.cell 1
        have s2 : W2.cell? ⟨G2, 2, none⟩ = some (.bool sp) := hB2.cell 2
        have s3 : W2.cell? ⟨G2, 3, none⟩ = some (.slice MA ms.length mc) := hB2.cell 3
        have s4 : W2.cell? ⟨G2, 4, none⟩ = some (.slice TA ts.length tc) := hB2.cell 4
        have lG2 := hB2.lt
        have HX2 := hid (show OkOpE W2 _ from ⟨HX.out.m.below HA2W.out.b, HX.out.t.below HA2W.out.b, HX.out.ml, HX.out.tl, HX.out.sw⟩)
        have KP := hid (fun w' (hb : Below W2.heap.size W2 w') => (HA2W.out.next hb).put HD.out so ss sp ms MA mc ts TA tc (HX2.out.m.below hb) (HX2.out.t.below hb) (by have := HX2.out.ml; simp only at this; omega) (by have := HX2.out.tl; simp only at this; omega))
        subst hA1 hA2
        clear hc1 hB2 hbW2
        go_region_with ((go_at_call 21; refine (KP.out _ (below_drewN (Below.refl _ _) _)).mono ?_; rintro e w3 ⟨c, ins', rfl, hal, hin, hT⟩))
        all_goals
          have HAL := hid hal
          have HIN := hid hin
          have HTT := hid hT
          have hG3 : Blk w3 G2 40 #[.int .i64 so, .int .i64 ss, .bool sp, .slice MA ms.length mc, .slice TA ts.length tc] := hT.blk (HG2.out.next (below_drewN (Below.refl _ _) 1)) (fun hg => HA2W.out.e.map.notBlk HG2.out hg.symm)
          have s0 : w3.cell? ⟨G2, 0, none⟩ = some (.int .i64 so) := hG3.cell 0
          have s1 : w3.cell? ⟨G2, 1, none⟩ = some (.int .i64 ss) := hG3.cell 1
          have s2 : w3.cell? ⟨G2, 2, none⟩ = some (.bool sp) := hG3.cell 2
          have s3 : w3.cell? ⟨G2, 3, none⟩ = some (.slice MA ms.length mc) := hG3.cell 3
          have s4 : w3.cell? ⟨G2, 4, none⟩ = some (.slice TA ts.length tc) := hG3.cell 4
          have lG2 := hG3.lt
          obtain ⟨b2', o2', hA2, _, hc2⟩ := (own_rd hal.ro).at_ (enc := fun d : PlD => enB13 d.RP) 1 (fun _ => rfl) (by omega) HDN.out
          simp only [Option.some.injEq, Addr.mk.injEq, and_true] at hA2
          obtain ⟨rfl, rfl⟩ := hA2
          have q2 : w3.cell? ⟨b2, o2 + n * 1, none⟩ = some (.pointer (some ⟨d.RP, 0, none⟩)) := hc2 0 _ rfl
          rw [Nat.mul_one] at q2
          have hmx := HX.out.ml
          have htx := HX.out.tl
          simp only at hmx htx
          have hRM : ∀ w', Below w3.heap.size w3 w' → Rd w' MA (ms.flatMap en1) := fun w' hb => HX.out.m.below (HAL.out.next hb).b
          have HRT := hid (show ∀ w', Below w3.heap.size w3 w' → Rd w' TA (ts.flatMap en1) from fun w' hb => HX.out.t.below (HAL.out.next hb).b)
          have KI := hid (fun w' (hb : Below w3.heap.size w3 w') => ints13_any ms MA mc w' (hRM w' hb) hmx)
          obtain ⟨i2, hk2, hx0, hx1, hx2⟩ := info_parts info_int13
          have KQ := hid (fun w' (hb : Below w3.heap.size w3 w') IA OA ic oc (h1 : Rd w' IA (ms.flatMap en1)) (h2 : Rd w' OA (ts.flatMap en1)) => dput_any w' (HAL.out.next hb).dn ((HAL.out.next hb).p d HD.out).2.1.r so ss sp ms ts IA OA ic oc h1 h2 hbl (by omega) (by omega))
          have HRW := hid (show ∀ w', Rd w' (some ⟨b2, o2, none⟩) (ds.flatMap fun d => enB13 d.RP) → w'.cell? ⟨b2, o2 + n, none⟩ = some (.pointer (some ⟨d.RP, 0, none⟩)) from fun w' hr => by
            obtain ⟨b', o', e, _, hcc⟩ := hr.at_ (enc := fun d : PlD => enB13 d.RP) 1 (fun _ => rfl) (by omega) HDN.out
            simp only [Option.some.injEq, Addr.mk.injEq, and_true] at e
            obtain ⟨rfl, rfl⟩ := e
            have := hcc 0 _ rfl
            rw [Nat.mul_one] at this
            exact this)
          have HGB3 := hid hG3
          have HSF := hid (show ∀ w', Below w3.heap.size w3 w' → (w'.cell? ⟨G2, 0, none⟩ = some (.int .i64 so) ∧ w'.cell? ⟨G2, 1, none⟩ = some (.int .i64 ss) ∧ w'.cell? ⟨G2, 2, none⟩ = some (.bool sp) ∧ w'.cell? ⟨G2, 3, none⟩ = some (.slice MA ms.length mc) ∧ w'.cell? ⟨G2, 4, none⟩ = some (.slice TA ts.length tc) ∧ w'.cell? ⟨b2, o2 + n, none⟩ = some (.pointer (some ⟨d.RP, 0, none⟩))) from fun w' hb => by
            have hg := HGB3.out.next hb
            exact ⟨hg.cell 0, hg.cell 1, hg.cell 2, hg.cell 3, hg.cell 4, HRW.out _ (own_rd (HAL.out.next hb).ro)⟩)
          have HSD := hid (show ∀ (w' w5 : World) (LA' : Option Addr) (lc' : Nat) (bs' : List Nat) (od' : Nat → Int), Below w3.heap.size w3 w' → Touch (DV R LA bs.length lc) w' w5 → DEn n1 R LA' lc' bs' od' vO w5 → (w5.cell? ⟨G2, 0, none⟩ = some (.int .i64 so) ∧ w5.cell? ⟨G2, 1, none⟩ = some (.int .i64 ss) ∧ w5.cell? ⟨G2, 2, none⟩ = some (.bool sp) ∧ w5.cell? ⟨G2, 3, none⟩ = some (.slice MA ms.length mc) ∧ w5.cell? ⟨G2, 4, none⟩ = some (.slice TA ts.length tc) ∧ w5.cell? ⟨b2, o2 + n, none⟩ = some (.pointer (some ⟨d.RP, 0, none⟩))) from fun w' w5 LA' lc' bs' od' hb hT hd => by
            have ha := HAL.out.next hb
            have hg : Blk w5 G2 40 #[.int .i64 so, .int .i64 ss, .bool sp, .slice MA ms.length mc, .slice TA ts.length tc] := hT.blk (HGB3.out.next hb) (fun hu => by
              rcases hu with hu | hu
              · exact (HGB3.out.next hb).ne_ ha.dn.r (by decide) hu
              · exact own_notBlk ha.dn.own (HGB3.out.next hb) (by decide) hu)
            exact ⟨hg.cell 0, hg.cell 1, hg.cell 2, hg.cell 3, hg.cell 4, HRW.out _ (own_rd (ha.doc hT hd).ro)⟩)
          have D3 := hid (Below.refl w3.heap.size w3).drew
          clear hc2 hal hin hT q0 KP hG3 hRM s0 s1 s2 s3 s4 q2
          go_upto_region 29 with fail
          go_region_held_law (fun w' => w'.cell? ⟨G2, 0, none⟩ = some (.int .i64 so) ∧ w'.cell? ⟨G2, 1, none⟩ = some (.int .i64 ss) ∧ w'.cell? ⟨G2, 2, none⟩ = some (.bool sp) ∧ w'.cell? ⟨G2, 3, none⟩ = some (.slice MA ms.length mc) ∧ w'.cell? ⟨G2, 4, none⟩ = some (.slice TA ts.length tc) ∧ w'.cell? ⟨b2, o2 + n, none⟩ = some (.pointer (some ⟨d.RP, 0, none⟩))) ((first | exact HSF.out _ D3.out | exact HSF.out _ (Below.refl _ _) | exact c9 | exact HSF.out _ (bthen (bthen D3.out hbi) hb7) | exact HSF.out _ (bthen (bthen D3.out hb7) hbi) | exact HSF.out _ (bthen D3.out hbi) | exact HSF.out _ (bthen D3.out hb7))) ((first
            | (refine step_append_any _ (by rfl) _ _ 38 (by rfl) 3 i2 _ 1 8 Tryz.underlying38 hk2 hx0 hx1 hx2 rfl (by decide) (by rfl) TA ts.length tc (ts.flatMap en1) (by rfl) (by rw [flat_en1]; simp) (HRT.out _ (by first | exact D3.out | exact bthen D3.out hbi)) (by rw [flat_en1]; intro u hu; obtain ⟨z, _, rfl⟩ := List.mem_map.1 hu; rfl) (by unfold maxLen; omega) (by omega) ?_; intro A7 c7 w7 hO7 hb7)
            | (go_at_call 41; refine (KI.out _ (by first | exact D3.out | exact bthen D3.out hb7)).mono ?_; rintro e wi ⟨IA, ic, rfl, hOi, hbi⟩)
            | (go_at_call 40; refine (by first | exact KQ.out _ (bthen (bthen D3.out hbi) hb7) _ _ _ _ (own_rd (own_next hOi hb7)) (own_rd hO7) | exact KQ.out _ (bthen (bthen D3.out hb7) hbi) _ _ _ _ (own_rd hOi) (own_rd (own_next hO7 hbi)) : Calls _ _ _ _ _).mono ?_; rintro e w4 ⟨c2, LA', lc', bs', od', rfl, hd4, hT4, hbs4⟩; have c9 := (by first | exact HSD.out _ _ _ _ _ _ (bthen (bthen D3.out hbi) hb7) hT4 hd4 | exact HSD.out _ _ _ _ _ _ (bthen (bthen D3.out hb7) hbi) hT4 hd4))))
          all_goals
            have HST := hid (show ∀ w5, Below w4.heap.size w4 w5 → StepS w0 ds X M n0 ins Y n1 R LA lc bs (some ⟨b1, o1, none⟩) pc (some ⟨b2, o2, none⟩) rc K ⟨6, xo, xs, xt, xc, xu, so, ss, sp, MA, mc, ms, TA, tc, ts⟩ w w5 from fun w5 hb => by
              have hbz := (by first | exact bthen (bthen D3.out hbi) hb7 | exact bthen (bthen D3.out hb7) hbi : Below w3.heap.size w3 _)
              have ha := ((HAL.out.next hbz).doc hT4 hd4).next hb
              refine ⟨LA', lc', bs', od', vO, ins', A, Y, ha.mono (by omega), fun o2 _ h2 => HIN.out o2 (h2 rfl), ?_, hbs4⟩
              have a1 : Touch (OwnA ds M ins Y R LA lc bs.length) w (W2.drewN 1) := Touch.of_below (bthen (bthen HBW.out HBW2.out) (below_drewN (Below.refl _ _) 1))
              have a2 : Touch (OwnA ds M ins Y R LA lc bs.length) (W2.drewN 1) w3 := HTT.out.mono (fun g hg => .inr (.inr (.inl hg)))
              have a3 : Touch (OwnA ds M ins Y R LA lc bs.length) w3 _ := Touch.of_below hbz
              have a4 : Touch (OwnA ds M ins Y R LA lc bs.length) _ w4 := hT4.mono (fun g hg => .inr (.inr (.inr hg)))
              exact (((a1.then a2).then a3).then a4).then (Touch.of_below hb))
            have KZ := hid (same13_any [] none none 0 0 w4 (.inl rfl) (.inl rfl) (by simp))
            simp only [List.length_nil] at KZ
            clear hOi hO7 hbi hb7 hd4 hT4 hbs4 c9
            cases hcc : (c == c2) with
            | true =>
              go_wp2_with fail
              refine KZ.out.mono ?_
              rintro e w5 ⟨rfl, hb5⟩
              have HSZ := hid (HST.out w5 hb5)
              clear KZ hb5
              go_wp2_with fail
              go_ret
              exact ⟨true, rfl, HSZ.out⟩
            | false =>
              have HSZ := hid (HST.out w4 (Below.refl _ _))
              go_wp2_with fail
              go_ret
              exact ⟨false, rfl, HSZ.out⟩
    · have f6 : (xk == 6) = false := by rw [beq_eq_false_iff_ne]; exact h6
      have KZ := hid (same13_any [] none none 0 0 W (.inl rfl) (.inl rfl) (by simp))
      simp only [List.length_nil] at KZ
      go_wp2_with fail
      refine KZ.out.mono ?_
      rintro e w5 ⟨rfl, hb5⟩
      have HSZ := hid (HNO.out (.inl h1) (.inl h6) hb5)
      clear KZ hb5
      go_wp2_with fail
      go_ret
      exact ⟨true, rfl, HSZ.out⟩
end

end Go.Proofs.YtoemmakhbiiknaaGreat
