/-
  (*Plan).gather: what stands behind each step.
  (*Plan).Behind and Asked.
  What Compile leaves is known of the rows.
  A plan, while a law asks it: every method, at every number.
  append of a whole slice, wherever it lies, to nil: a row of the call's own.
  Steps copied; append of a whole slice to nil.
-/
import Derived.Test.YtoemmakhbiiknaaGreatQe7
import Derived.Deep.RegionWith
import Derived.Deep.AppendLies
namespace Go.Proofs.YtoemmakhbiiknaaGreat
open Go.RowKit Go.WideShapes Go.ChangeShapes Go.ChangeAt Go.Deep
set_option linter.unusedVariables false

theorem made_norow (N : Nat) : madeCells (Value.slice none 0 0).cells N = (Array.range N).map fun _ => Value.slice none 0 0 := by
  unfold madeCells
  simp [Value.cells]
  intro a _
  rw [Nat.mod_one]
  rfl
theorem hitsB_len {Bs : List IRow} (h : ∀ b ∈ Bs, b.xs.Pairwise (· < ·)) (k : Nat) : ∀ i, (hitsB Bs k i).length ≤ i
  | 0 => by simp [hitsB]
  | i + 1 => by
    unfold hitsB
    rw [List.length_append]
    have h1 := hitsB_len h k i
    have h2 : (hitsR k i ((Bs[i]?).map IRow.xs |>.getD [])).length ≤ 1 := by
      cases e : Bs[i]? with
      | none => simp [hitsR]
      | some b => exact hitsR_rise (h b (List.mem_of_getElem? e))
    omega
def planD (nm : ByteArray) (vS vB vH : Value) (ask : Int) : Array Value := #[.string nm, vS, vB, .int .u32 0, .int .i32 1, .int .u32 0, vH, .int .i64 ask]
/-- What gather leaves. -/
structure GaP (w0 : World) (nm : ByteArray) (P : Nat) (vS vB : Value) (n : Nat) (Bs : List IRow) (ask : Int) (H : Nat) (f : Nat → IRow) (w : World) : Prop where
  s : GaS w0 P H n (planD nm vS vB (.slice (some ⟨H, 0, none⟩) n n) ask) f w
  x : ∀ k, k < n → (f k).xs = hitsB Bs k Bs.length

set_option maxRecDepth 100000 in
set_option maxHeartbeats 64000000 in
theorem gather_any (base : Nat) (nm : ByteArray) (P : Nat) (SA : Option Addr) (sc : Nat) (vB : Value) (n : Nat) (Bs : List IRow) (ask : Int) (w : World) (hP : Blk w P 126 (planD nm (.slice SA n sc) vB (.slice none 0 0) ask)) (hob : w.ownsRow base 38 1 vB Bs.length (Bs.flatMap enR)) (hrw : ∀ b ∈ Bs, OwnR base w b) (hn : n ≤ 1000) (hm : Bs.length ≤ 1000)
    (hup : ∀ b ∈ Bs, b.xs.Pairwise (· < ·)) (hin : ∀ b ∈ Bs, ∀ x ∈ b.xs, ∃ q : Nat, x = (q : Int) ∧ q < n) (hlen : ∀ b ∈ Bs, b.xs.length ≤ 1000) :
    Calls Tryz.prog 46 #[.pointer (some ⟨P, 0, none⟩)] w fun e w' => e = .returned (.tuple #[]) ∧ ∃ H f, GaP w nm P (.slice SA n sc) vB n Bs ask H f w' := by
  have HOB := hid hob
  have HRW := hid hrw
  have HUP := hid hup
  have HIN := hid hin
  have HLE := hid hlen
  obtain ⟨i1, hj, hy0, hy1, hy2⟩ := info_parts info_irow12
  have hmk : ∀ w : World, (Instr.makeSlice 109 (.int .i64 (n : Int)) (.int .i64 (n : Int))).run Tryz.prog w = .ok (.slice (some ⟨w.heap.size, 0, none⟩) n n) (w.alloc (.cells ((Array.range n).map fun _ => Value.slice none 0 0) 38)) := fun w => by
    have := run_makeSlice (P := Tryz.prog) (w := w) 109 38 i1 (.slice none 0 0) Tryz.underlying109 hj hy0 .i64 .i64 (n : Int) (n : Int) (by omega) (Int.le_refl _) (by rw [hy1]; simp; omega) (by rw [hy2]; omega) (by omega)
    rw [hy1] at this
    simp only [Int.toNat_natCast, Nat.mul_one] at this
    rw [made_norow] at this
    exact this
  clear hj hy0 hy1 hy2
  obtain ⟨CN, hCN⟩ : ∃ CN, CN = (Array.range n).map fun _ => Value.slice none 0 0 := ⟨_, rfl⟩
  rw [← hCN] at hmk
  have p1 : w.cell? ⟨P, 1, none⟩ = some (.slice SA n sc) := hP.cell 1
  have p6 : w.cell? ⟨P, 6, none⟩ = some (.slice none 0 0) := hP.cell 6
  have f6 := hP.free 6
  have lP := hP.lt
  have hGS : GaS w P w.heap.size n (planD nm (.slice SA n sc) vB (.slice (some ⟨w.heap.size, 0, none⟩) n n) ask) (fun _ => ⟨none, 0, []⟩) ((w.setCell ⟨P, 6, none⟩ (.slice (some ⟨w.heap.size, 0, none⟩) n n)).alloc (.cells CN 38)) := by
    have hT := Touch.setCell w P 6 (.slice (some ⟨w.heap.size, 0, none⟩) n n)
    have hsz : (w.setCell ⟨P, 6, none⟩ (.slice (some ⟨w.heap.size, 0, none⟩) n n)).heap.size = w.heap.size := by simp [World.setCell]
    have hp1 := (hP.set_ 6 (.slice (some ⟨w.heap.size, 0, none⟩) n n)).alloc (.cells CN 38)
    have hh := Blk.new (w.setCell ⟨P, 6, none⟩ (.slice (some ⟨w.heap.size, 0, none⟩) n n)) 38 CN
    rw [hsz] at hh
    refine ⟨hp1, by rw [hCN] at hh ⊢; exact hh, fun k hk => World.ownsRow_nil _ _ _ _, fun k k' q _ _ _ hq => by simp [Value.ownBlock] at hq, hT.then (Touch.of_below ((Below.refl _ _).alloc (Nat.le_refl _) _)), Nat.le_refl _, lP⟩
  have HGS := hid hGS
  have HP0 := hid hP
  clear hP hob hrw hup hin hlen hGS hCN
  go_enter Tryz.func46, Tryz.ntmps46
  go_upto_region 1 with fail
  obtain ⟨W, hW⟩ : ∃ W, W = (w.setCell ⟨P, 6, none⟩ (.slice (some ⟨w.heap.size, 0, none⟩) n n)).alloc (.cells CN 38) := ⟨_, rfl⟩
  obtain ⟨H, hH⟩ : ∃ H, H = w.heap.size := ⟨_, rfl⟩
  rw [← hW, ← hH] at HGS
  rw [← hW, ← hH]
  clear hW hH hmk p1 p6 f6 lP
  obtain ⟨BA, bc, hvB, _⟩ := own_slice HOB.out
  subst hvB
  have p2 : W.cell? ⟨P, 2, none⟩ = some (.slice BA Bs.length bc) := HGS.out.p.cell 2
  have lP := HGS.out.p.lt
  go_wp2_with fail
  clear p2 lP
  have HBP := hid (show (Value.slice BA Bs.length bc).ownBlock ≠ some P from own_notBlk HOB.out HP0.out (by decide))
  go_loopw [20] (fun v wr => ∃ (i : Nat) (f : Nat → IRow), i ≤ Bs.length ∧ v = .int .i64 i ∧ Hid (GaS w P H n (planD nm (.slice SA n sc) (.slice BA Bs.length bc) (.slice (some ⟨H, 0, none⟩) n n) ask) f wr) ∧ Hid (∀ k, k < n → (f k).xs = hitsB Bs k i)) (fun v _ => Bs.length - nOf v)
  case atStart => exact ⟨0, _, Nat.zero_le _, rfl, HGS, hid (fun k hk => rfl)⟩
  case round =>
    clear HGS
    obtain ⟨i, f, hi, rfl, HS, HX⟩ := hrel
    by_cases hlt : i < Bs.length
    · obtain ⟨b, hb⟩ : ∃ b, Bs[i]? = some b := ⟨Bs[i], List.getElem?_eq_getElem hlt⟩
      have HMB := hid (List.mem_of_getElem? hb)
      have HBI := hid hb
      have HOT := hid (fun wx (hx : GaS w P H n (planD nm (.slice SA n sc) (.slice BA Bs.length bc) (.slice (some ⟨H, 0, none⟩) n n) ask) f wx) => hx.t)
      have hobr := own_touch HOB.out HS.out.t (fun q hq e => HBP.out (by rw [hq, e]))
      obtain ⟨g1, o1, hAA, _, hcc⟩ := (own_rd hobr).at_ 1 enR_len (by omega) hb
      have q0 : wr.cell? ⟨g1, o1 + i * 1, none⟩ = some (.slice b.A b.xs.length b.cap) := hcc 0 _ rfl
      rw [Nat.mul_one] at q0
      subst hAA
      clear hobr hcc hb
      go_wp2_with fail
      clear q0
      have hbl := HLE.out b HMB.out
      go_loopw [27] (fun v wr => ∃ (j : Nat) (f : Nat → IRow), j ≤ b.xs.length ∧ v = .int .i64 j ∧ Hid (GaS w P H n (planD nm (.slice SA n sc) (.slice (some ⟨g1, o1, none⟩) Bs.length bc) (.slice (some ⟨H, 0, none⟩) n n) ask) f wr) ∧ Hid (∀ k, k < n → (f k).xs = hitsB Bs k i ++ hitsR k i (b.xs.take j))) (fun v _ => b.xs.length - nOf v)
      case atStart => exact ⟨0, f, Nat.zero_le _, rfl, HS, hid (fun k hk => by rw [HX.out k hk]; simp [hitsR])⟩
      case round =>
        clear HS HX
        obtain ⟨j, f, hj, rfl, HS, HX⟩ := hrel
        by_cases hjl : j < b.xs.length
        · obtain ⟨x, hx⟩ : ∃ x, b.xs[j]? = some x := ⟨b.xs[j], List.getElem?_eq_getElem hjl⟩
          obtain ⟨q, hq, hqn⟩ := HIN.out b HMB.out x (List.mem_of_getElem? hx)
          subst hq
          have HTJ := hid (take_succ_of hx)
          have hrb := own_touch (HRW.out b HMB.out) HS.out.t (fun r hr e => own_notBlk (HRW.out b HMB.out) HP0.out (by decide) (by rw [hr, e]))
          obtain ⟨g2, o2, hA2, _, hc2⟩ := (own_rd hrb).at_ 1 en1_len (by omega) hx
          have q1 : wr.cell? ⟨g2, o2 + j * 1, none⟩ = some (.int .i64 (q : Int)) := hc2 0 _ rfl
          rw [Nat.mul_one] at q1
          have HBA := hid hA2
          generalize b.A = bA at hA2
          subst hA2
          clear hc2 hx hrb
          go_upto_region 7 with fail
          clear q1
          obtain ⟨vk, hvk⟩ : ∃ vk, vk = Value.slice (f q).A (f q).xs.length (f q).cap := ⟨_, rfl⟩
          have hrq := HS.out.r q hqn
          have hlq : (f q).xs.length ≤ 2000 := by
            have h1 := HX.out q hqn
            rw [h1, List.length_append]
            have h2 := hitsB_len HUP.out q i
            have h3 := hitsR_len q i (b.xs.take j)
            have h4 : (b.xs.take j).length ≤ 1000 := by rw [List.length_take]; omega
            omega
          obtain ⟨E, hE⟩ : ∃ E : World → World → Prop, ∀ w w', E w w' ↔ Touch (fun r => vk.ownBlock = some r) w w' := ⟨_, fun _ _ => Iff.rfl⟩
          obtain ⟨CB, hCF, hCT⟩ : ∃ CB : Bool → Bool → World → Prop, (∀ b' w', CB false b' w' ↔ Below wr.heap.size wr w') ∧ (∀ b' w', CB true b' w' ↔ E wr w') := ⟨fun b _ w' => match b with | false => Below wr.heap.size wr w' | true => E wr w', fun _ _ => Iff.rfl, fun _ _ => Iff.rfl⟩
          have hEB : ∀ w w', Below w.heap.size w w' → E w w' := fun w w' hb => (hE _ _).2 (Touch.of_below hb)
          obtain ⟨C, hCd⟩ : ∃ C : World → Prop, ∀ w', C w' ↔ E wr w' := ⟨_, fun _ => Iff.rfl⟩
          have HCC := hid (show ∀ b b' w', CB b b' w' → C w' from fun b b' w' h => (hCd _).2 (by
            cases b with
            | false => exact hEB _ _ ((hCF _ _).1 h)
            | true => exact (hCT _ _).1 h))
          have HCF := hid (show ∀ b', CB false b' wr.drew from fun b' => (hCF _ _).2 (Below.refl _ _).drew)
          have hall : ∀ p : In C, Blk p.w P 126 (planD nm (.slice SA n sc) (.slice (some ⟨g1, o1, none⟩) Bs.length bc) (.slice (some ⟨H, 0, none⟩) n n) ask) ∧ Blk p.w H 38 (rngC n fun k => .slice (f k).A (f k).xs.length (f k).cap) := fun p => by
            have hT := (hE _ _).1 ((hCd _).1 p.h)
            exact ⟨hT.blk HS.out.p (fun e => own_notBlk hrq HS.out.p (by decide) (by rw [← hvk]; exact e)), hT.blk HS.out.h (fun e => own_notBlk hrq HS.out.h (by decide) (by rw [← hvk]; exact e))⟩
          have hne : Nonempty (In C) := ⟨⟨_, HCC.out _ _ _ (HCF.out false)⟩⟩
          have p6 : ∀ p : In C, p.w.cell? ⟨P, 6, none⟩ = some (.slice (some ⟨H, 0, none⟩) n n) := fun p => (hall p).1.cell 6
          have lP : ∀ p : In C, P < p.w.heap.size := fun p => (hall p).1.lt
          have hk0 : ∀ p : In C, p.w.cell? ⟨H, q, none⟩ = some vk := fun p => by rw [(hall p).2.cell, rngC_at _ hqn, hvk]
          have lH : ∀ p : In C, H < p.w.heap.size := fun p => (hall p).2.lt
          have HE := hid hE
          have HFF := hid hCF
          have HFT := hid hCT
          have HVB := hid (show ∀ r, vk.ownBlock = some r → r < wr.heap.size from fun r hr => (hrq.lt r (by rw [← hvk]; exact hr)).2)
          obtain ⟨KM, hKM⟩ : ∃ KM : Value → World → Prop, ∀ u w', KM u w' ↔ ∃ g, u = .slice (some ⟨g, 0, none⟩) 1 1 ∧ Blk w' g 3 #[.int .i64 (i : Int)] ∧ wr.heap.size ≤ g := ⟨_, fun _ _ => Iff.rfl⟩
          have GR : Grow E E 99 (fun _ => none) KM := by
            refine ⟨fun u w w' hk he => ?_, hEB, fun _ _ h => h, fun w w' w'' h1 h2 => (hE _ _).2 (((hE _ _).1 h1).then ((hE _ _).1 h2)), (fun i R hi => by cases hi), (fun R hi => by cases hi)⟩
            obtain ⟨g, h1, h2, h3⟩ := (hKM _ _).1 hk
            exact (hKM _ _).2 ⟨g, h1, ((hE _ _).1 he).blk h2 (fun e => by have := HVB.out g e; omega), h3⟩
          have HKM := hid hKM
          have HVK := hid hvk
          have HRQ := hid hrq
          clear hCd hall hE hEB hCF hCT hKM hvk hrq
          refine wp_region_grow CB E E (fun _ => none) KM 14 99 15 13 44 (by decide) GR (by kernel_rfl) (by simp) (by kernel_rfl) (by kernel_rfl) (HCF.out false) ⟨_, HCF.out true⟩ ?_
          simp only [List.take_succ_cons, List.take_zero, List.drop_succ_cons, List.drop_zero]
          refine wpG_part (fun a D D' hd h w' hC hD' => h w' hC (hd w' hD')) C HCC.out ⟨_, HCF.out false⟩ 1 1 (by kernel_rfl) (by kernel_rfl) (by kernel_rfl) ?_
          simp only [List.take_succ_cons, List.take_zero, List.drop_succ_cons, List.drop_zero]
          repeat (first | go_big_quiet_step (fail) | quiet_step (fail))
          refine wpQuiet_nil ?_
          refine wpG_one (fun a D D' hd h w' hC hD' => h w' hC (hd w' hD')) (by kernel_rfl) (by kernel_rfl) (by kernel_rfl) (.pointer (some ⟨P, 0, none⟩)) (fun b1 b2 w' _ hb' => by go_simp) ?_
          refine wpG_part (fun a D D' hd h w' hC hD' => h w' hC (hd w' hD')) C HCC.out ⟨_, HCF.out false⟩ 4 6 (by kernel_rfl) (by kernel_rfl) (by kernel_rfl) ?_
          simp only [List.take_succ_cons, List.take_zero, List.drop_succ_cons, List.drop_zero]
          repeat (first | go_big_quiet_step (fail) | quiet_step (fail))
          refine wpQuiet_nil ?_
          refine wpG_one (fun a D D' hd h w' hC hD' => h w' hC (hd w' hD')) (by kernel_rfl) (by kernel_rfl) (by kernel_rfl) (.pointer (some ⟨P, 0, none⟩)) (fun b1 b2 w' _ hb' => by go_simp) ?_
          refine wpG_part (fun a D D' hd h w' hC hD' => h w' hC (hd w' hD')) C HCC.out ⟨_, HCF.out false⟩ 6 13 (by kernel_rfl) (by kernel_rfl) (by kernel_rfl) ?_
          simp only [List.take_succ_cons, List.take_zero, List.drop_succ_cons, List.drop_zero]
          repeat (first | go_big_quiet_step (fail) | quiet_step (fail))
          refine wpQuiet_nil ?_
          clear p6 lP hk0 lH hne
          refine wpG_key (fun a D D' hd h w' hC hD' => h w' hC (hd w' hD')) (by kernel_rfl) (by kernel_rfl) (by kernel_rfl) (by kernel_rfl) (by kernel_rfl) (fun u w' => True) (fun u w' w'' _ _ => trivial) (fun w' hw' => ⟨.slice (some ⟨w'.heap.size, 0, none⟩) 1 1, w'.alloc (.cells #[.int .i64 (i : Int)] 3), by go_simp, (HFF.out _ _).2 (((HFF.out _ _).1 hw').alloc ((HFF.out _ _).1 hw').size _), (Below.refl _ _).alloc (Nat.le_refl _) _, (HKM.out _ _).2 ⟨w'.heap.size, rfl, Blk.new _ _ _, ((HFF.out _ _).1 hw').size⟩, trivial⟩) (fun w' h _ => (HFF.out _ _).2 ((HFF.out _ _).1 h)) (fun w' h _ => (HFF.out _ _).2 ((HFF.out _ _).1 h)) ?_
          rintro u ⟨wu, hu1, hu2, _⟩
          obtain ⟨g, rfl, _⟩ := (HKM.out _ _).1 hu2
          obtain ⟨ii, hii, hz0, hz1, hz2⟩ := info_parts info_int12
          refine wpG_turn (fun a D D' hd h w' hC hD' => h w' hC (hd w' hD')) (v0 := .slice (some ⟨g, 0, none⟩) 1 1) (by rfl) ⟨wu, hu1, hu2⟩ (by kernel_rfl) (fun u w' => ∃ g9 cap9, u = .slice (some ⟨g9, 0, none⟩) ((f q).xs.length + 1) cap9 ∧ w'.ownsRow w.heap.size 3 1 (.slice (some ⟨g9, 0, none⟩) ((f q).xs.length + 1) cap9) ((f q).xs.length + 1) ((f q).xs.flatMap en1 ++ [.int .i64 (i : Int)]) ∧ (vk.ownBlock = some g9 ∨ wr.heap.size ≤ g9)) (fun u w' w'' ⟨g9, c9, h1, h2, h3⟩ hb => ⟨g9, c9, h1, own_next h2 hb, h3⟩) (fun w' hw' hk' => ?_) ?_
          · obtain ⟨g', e1, h2, h3⟩ := (HKM.out _ _).1 hk'
            simp only [Value.slice.injEq, Option.some.injEq, Addr.mk.injEq, and_true] at e1
            subst e1
            have hbw := (HFF.out _ _).1 hw'
            have hro := own_next HRQ.out hbw
            rw [← HVK.out] at hro
            refine exec_append_lies (Operand.tmp 42) (Operand.tmp 44) 38 (by rfl) w.heap.size 3 ii _ 1 8 Tryz.underlying38 hii hz0 hz1 hz2 rfl (by decide) vk (f q).xs.length ((f q).xs.flatMap en1) (by rfl) hro ⟨g, 0, none⟩ 1 1 [.int .i64 (i : Int)] (by rfl) (by rfl) (blk_news h2) (by intro u hu; simp at hu; subst hu; rfl) (by omega) (by unfold maxLen; omega) (by omega) (Nat.le_trans HS.out.t.size hbw.size) ?_
            intro g9 cap9 w'' hO hgr hlie
            have hTo := touch_own hgr
            exact ⟨(HFT.out _ _).2 ((HE.out _ _).2 ((Touch.of_below hbw).then hTo)), (HE.out _ _).2 hTo, g9, cap9, rfl, hO, hlie.imp id (fun e => by rw [e]; exact hbw.size)⟩
          rintro u ⟨wu2, hu5⟩
          obtain ⟨g9, cap9, rfl, _⟩ := hu5
          clear hu1 hu2
          refine wpG_nil ?_
          intro wf hCf hDf
          obtain ⟨_, g8, cap8, e8, hD8, hD9⟩ := hDf
          simp only [Value.slice.injEq, Option.some.injEq, Addr.mk.injEq, and_true, true_and] at e8
          obtain ⟨rfl, rfl⟩ := e8
          have hTf := (HE.out _ _).1 ((HFT.out _ _).1 hCf)
          rw [HVK.out] at hTf hD9
          have hS8 := HS.out.put hqn hTf hD8 hD9
          have hh8 := hTf.blk HS.out.h (fun e => own_notBlk HRQ.out HS.out.h (by decide) e)
          have k8 : wf.cell? ⟨H, q, none⟩ = some vk := by rw [hh8.cell, rngC_at _ hqn, HVK.out]
          have f8 := hh8.free q
          have l8 := hh8.lt
          have HS8 := hid hS8
          have HX8 := hid (show ∀ k, k < n → (if k = q then (⟨some ⟨g9, 0, none⟩, cap9, (f q).xs ++ [(i : Int)]⟩ : IRow) else f k).xs = hitsB Bs k i ++ hitsR k i (b.xs.take (j + 1)) from fun k hk => by
            rw [HTJ.out]
            by_cases e : k = q
            · subst e
              rw [if_pos rfl, hitsR_snoc_eq, ← List.append_assoc, ← HX.out k hk]
            · rw [if_neg e, hitsR_snoc_ne e]
              exact HX.out k hk)
          clear hS8 hh8 hTf hD8 hD9 hCf HE HFF HFT HVB HKM HCC HCF GR HS HX HVK HRQ hlq
          go_wp2_with fail
          go_roundw
          case rel => exact ⟨j + 1, _, by omega, by go_num, HS8, HX8⟩
          case measure => simp [nOf]; omega
        · have hj' : j = b.xs.length := by omega
          subst hj'
          have HX9 := hid (show ∀ k, k < n → (f k).xs = hitsB Bs k (i + 1) from fun k hk => by
            rw [HX.out k hk, List.take_length]
            show _ = hitsB Bs k i ++ hitsR k i ((Bs[i]?).map IRow.xs |>.getD [])
            rw [HBI.out]
            rfl)
          clear hj hjl HX
          go_wp2_with fail
          go_roundw
          case rel => exact ⟨i + 1, f, by omega, by go_num, HS, HX9⟩
          case measure => simp [nOf]; omega
    · have hi' : i = Bs.length := by omega
      subst hi'
      clear hi hlt
      go_wp2_with fail
      go_end0
      exact ⟨rfl, H, f, HS.out, HX.out⟩

end Go.Proofs.YtoemmakhbiiknaaGreat

namespace Go.Proofs.YtoemmakhbiiknaaGreat
open Go.RowKit Go.WideShapes Go.ChangeShapes Go.ChangeAt Go.Deep
set_option linter.unusedVariables false

/-- What was gathered is right. -/
def HsOk (Bs Hs : List IRow) (n : Nat) : Prop := Hs.length = n ∧ ∀ (k : Nat) (b : IRow), Hs[k]? = some b → b.xs = hitsB Bs k Bs.length
theorem rowsC_map (n : Nat) (f : Nat → IRow) : rowsC ((List.range n).map f) = rngC n fun k => .slice (f k).A (f k).xs.length (f k).cap := by
  unfold rowsC rngC
  apply Array.ext'
  rw [List.flatMap_map]
  simp only [enR, Array.toList_map, Array.toList_range]
  induction n with
  | zero => rfl
  | succ n ih => simp only [List.range_succ, List.flatMap_append, List.map_append, ih]; rfl
theorem rowsC_at {Hs : List IRow} {q : Nat} {b : IRow} (h : Hs[q]? = some b) : (rowsC Hs)[q]? = some (.slice b.A b.xs.length b.cap) := by
  have e : ∀ Hs : List IRow, Hs.flatMap enR = Hs.map fun b => .slice b.A b.xs.length b.cap := fun Hs => by
    induction Hs with
    | nil => rfl
    | cons b Hs ih => rw [List.flatMap_cons, ih]; rfl
  unfold rowsC
  rw [e]
  simp [h]
section
variable {base : Nat} {nm : ByteArray} {P : Nat} {vS vB vH : Value} {Ls : List Stp} {Bs Hs : List IRow} {dn : Bool} {ask : Int} {w w' : World}
/-- What is known of the rows of a plan. -/
structure RowsOk (Ls : List Stp) (Bs : List IRow) : Prop where
  len : Bs.length = Ls.length
  n : Ls.length ≤ 1000
  up : ∀ b ∈ Bs, b.xs.Pairwise (· < ·)
  lt : ∀ b ∈ Bs, ∀ x ∈ b.xs, ∃ q : Nat, x = (q : Int) ∧ q < Ls.length
theorem rise_len : ∀ {xs : List Int} {n : Nat}, xs.Pairwise (· < ·) → (∀ x ∈ xs, ∃ q : Nat, x = (q : Int) ∧ q < n) → xs.length ≤ n := fun {xs n} h hi => by
  have hd : xs.Nodup := h.imp (fun e => by omega)
  have := sub_lenG (b := (List.range n).map fun k : Nat => (k : Int)) hd (fun x hx => by
    obtain ⟨q, rfl, hq⟩ := hi x hx
    exact List.mem_map.2 ⟨q, List.mem_range.2 hq, rfl⟩)
  simpa using this
theorem PlW.touchP {ask' : Int} {vH' : Value} {Hs' : List IRow} {dn' : Bool} (h : PlW base nm P vS vB vH Ls Bs Hs dn ask w) (hT : Touch (· = P) w w') (hp : Blk w' P 126 #[.string nm, vS, vB, onceV dn', .int .i32 0, .int .u32 0, vH', .int .i64 ask'])
    (hh : dn' = true → ∃ H, vH' = .slice (some ⟨H, 0, none⟩) Ls.length Ls.length ∧ Blk w' H 38 (rowsC Hs') ∧ base ≤ H ∧ ∀ b ∈ Hs', OwnR base w' b) (hl : dn' = true → Hs'.length = Ls.length) : PlW base nm P vS vB vH' Ls Bs Hs' dn' ask' w' := by
  have no : ∀ {b0 : Nat} {e : TypeId} {size : Nat} {v : Value} {n : Nat} {xs : List Value}, e ≠ 126 → w.ownsRow b0 e size v n xs → w'.ownsRow b0 e size v n xs := fun hne ho => own_touch ho hT (fun g hg e => own_notBlk ho h.p hne (by rw [hg, e]))
  exact ⟨hp, no (by decide) h.os, no (by decide) h.ob, fun s hs => no (by decide) (h.st s hs), fun b hb => no (by decide) (h.rw b hb), hh, hl, h.lo⟩

set_option maxRecDepth 100000 in
theorem behind_nil (i : Int) (w : World) : Calls Tryz.prog 18 #[.pointer none, .int .i64 i] w fun e w' => e = .returned (.slice none 0 0) ∧ w' = w := by
  go_enter Tryz.func18, Tryz.ntmps18
  go_wp2_with fail
  go_ret
  exact ⟨rfl, rfl⟩
theorem gather_enter (args : Array Value) (w : World) : (callFunc 46 args).run Tryz.prog w = .ok (.enter 46 args) w := by
  have f1 := Tryz.func46
  have f2 : (Tryz.f46.name == "runtime.NumGoroutine") = false := by kernel_rfl
  obtain ⟨c, f3⟩ : ∃ c, Tryz.f46.body = some c := ⟨_, rfl⟩
  have h1 : Tryz.f46.name ≠ "runtime.NumGoroutine" := by simpa using f2
  simp [callFunc, f1, h1, f3]
/-- once.Do(p.gather). -/
theorem do_any (h : PlW base nm P vS vB vH Ls Bs Hs dn ask w) (hr : RowsOk Ls Bs) (hok : dn = true → HsOk Bs Hs Ls.length) (hnil : dn = false → vH = .slice none 0 0) :
    Calls Tryz.prog 45 #[.pointer (some ⟨P, 3, none⟩), .func (.func 46) #[.pointer (some ⟨P, 0, none⟩)] #[]] w fun e w' => e = .returned (.tuple #[]) ∧ ∃ vH' Hs', PlW base nm P vS vB vH' Ls Bs Hs' true ask w' ∧ HsOk Bs Hs' Ls.length ∧ Touch (· = P) w w' := by
  cases dn with
  | true =>
    refine (do_done12 P _ w (by have := h.p.cell 3; simpa [onceV] using this)).mono ?_
    rintro e w' ⟨rfl, rfl⟩
    exact ⟨rfl, vH, Hs, h, hok rfl, Touch.refl _ _⟩
  | false =>
    obtain ⟨SA, sc, hvS, _⟩ := own_slice h.os
    have hP0 : Blk w P 126 #[.string nm, vS, vB, .int .u32 0, .int .i32 0, .int .u32 0, vH, .int .i64 ask] := by simpa [onceV] using h.p
    have hvH := hnil rfl
    subst hvH
    have hp4 := hP0.set_ 4 (.int .i32 1)
    have hT4 := Touch.setCell w P 4 (.int .i32 1)
    obtain ⟨w2, hw2⟩ : ∃ w2, w2 = w.setCell ⟨P, 4, none⟩ (.int .i32 1) := ⟨_, rfl⟩
    have no : ∀ {b0 : Nat} {e : TypeId} {size : Nat} {v : Value} {n : Nat} {xs : List Value}, e ≠ 126 → w.ownsRow b0 e size v n xs → w2.ownsRow b0 e size v n xs := fun hne ho => by rw [hw2]; exact own_touch ho hT4 (fun g hg e => own_notBlk ho h.p hne (by rw [hg, e]))
    have hob2 := no (by decide) h.ob
    have hos2 := no (by decide) h.os
    have hst2 : ∀ s ∈ Ls, OwnSt base w2 s := fun s hs => no (by decide) (h.st s hs)
    have hrw2 : ∀ b ∈ Bs, OwnR base w2 b := fun b hb => no (by decide) (h.rw b hb)
    have hp2 : Blk w2 P 126 (planD nm (.slice SA Ls.length sc) vB (.slice none 0 0) ask) := by rw [hw2, ← hvS]; exact hp4
    have hG := gather_any base nm P SA sc vB Ls.length Bs ask w2 hp2 hob2 hrw2 hr.n (by rw [hr.len]; exact hr.n) hr.up hr.lt (fun b hb => Nat.le_trans (rise_len (hr.up b hb) (hr.lt b hb)) hr.n)
    refine do_first12 P _ w (fun w' => ∃ vH' Hs', PlW base nm P vS vB vH' Ls Bs Hs' true ask w' ∧ HsOk Bs Hs' Ls.length ∧ Touch (· = P) w w') (by rw [hP0.cell]; rfl) ?_
    refine (slow12 P 46 (.pointer (some ⟨P, 0, none⟩)) w _ hP0 rfl rfl (fun w' => ∃ H f, GaP w2 nm P (.slice SA Ls.length sc) vB Ls.length Bs ask H f w') ?_ ?_ ?_).mono ?_
    · rintro w' ⟨H, f, g⟩
      exact ⟨_, g.s.p, rfl, rfl⟩
    · intro w
      exact gather_enter _ w
    · rw [← hw2]; exact hG
    · rintro e w' ⟨rfl, w1, ⟨H, f, g⟩, rfl⟩
      refine ⟨rfl, .slice (some ⟨H, 0, none⟩) Ls.length Ls.length, (List.range Ls.length).map f, ?_⟩
      rw [← and_assoc, and_comm (b := HsOk _ _ _), and_assoc]
      refine ⟨⟨by simp, fun k b hb => ?_⟩, ?_⟩
      · rw [List.getElem?_map] at hb
        by_cases hk : k < Ls.length
        · rw [List.getElem?_range hk] at hb
          simp only [Option.map_some, Option.some.injEq] at hb
          rw [← hb]
          exact g.x k hk
        · rw [List.getElem?_eq_none (by simp; omega)] at hb
          simp at hb
      · have hsz1 : w.heap.size ≤ w1.heap.size := by have := g.s.t.size; rw [hw2] at this; simpa [World.setCell] using this
        have hbs : base ≤ w2.heap.size := by have := h.p.lt; have := h.lo; rw [hw2]; simp [World.setCell]; omega
        have hd : Touch (· = P) w1 w1.drew := (Touch.refl _ _).drew
        have hT := (hd.then (Touch.setCell w1.drew P 3 (.int .u32 1))).then (Touch.setCell (w1.drew.setCell ⟨P, 3, none⟩ (.int .u32 1)) P 4 (.int .i32 0))
        have hT0 := ((hT4.then (by rw [hw2] at g; exact g.s.t)).then hT)
        have hpd : Blk w1.drew P 126 _ := g.s.p
        have hp5 := (hpd.set_ 3 (.int .u32 1)).set_ 4 (.int .i32 0)
        have no5 : ∀ {b0 : Nat} {e : TypeId} {size : Nat} {v : Value} {n : Nat} {xs : List Value}, e ≠ 126 → w1.ownsRow b0 e size v n xs → ((w1.drew.setCell ⟨P, 3, none⟩ (.int .u32 1)).setCell ⟨P, 4, none⟩ (.int .i32 0)).ownsRow b0 e size v n xs := fun hne ho => own_touch ho hT (fun g' hg' e => own_notBlk ho g.s.p hne (by rw [hg', e]))
        refine ⟨h.touchP hT0 (by rw [hvS]; exact hp5) (fun _ => ⟨H, rfl, ?_, ?_, ?_⟩) (fun _ => by simp), hT0⟩
        · rw [rowsC_map]
          exact hT.blk g.s.h (fun e => g.s.h.ne_ g.s.p (by decide) e)
        · exact Nat.le_trans hbs g.s.lo
        · intro b hb
          obtain ⟨k, hk, rfl⟩ := List.mem_map.1 hb
          exact no5 (by decide) (own_base (g.s.r k (List.mem_range.1 hk)) hbs)

/-- What stands behind a step. -/
def behL (Bs : List IRow) (n : Nat) (i : Int) : List Int := if hasN n i then hitsB Bs i.toNat Bs.length else []
/-- What Behind leaves. -/
def BehR (xs : List Int) (base : Nat) (nm : ByteArray) (P : Nat) (vS vB : Value) (Ls : List Stp) (Bs : List IRow) (ask : Int) (w : World) (e : Ending) (w' : World) : Prop := ∃ A cap vH' Hs', e = .returned (.slice A xs.length cap) ∧ w'.ownsRow w.heap.size 3 1 (.slice A xs.length cap) xs.length (xs.flatMap en1) ∧ PlW base nm P vS vB vH' Ls Bs Hs' true (ask + 1) w' ∧ HsOk Bs Hs' Ls.length ∧ Touch (· = P) w w'
set_option maxRecDepth 100000 in
set_option maxHeartbeats 8000000 in
theorem behind_any (h : PlW base nm P vS vB vH Ls Bs Hs dn ask w) (hr : RowsOk Ls Bs) (hok : dn = true → HsOk Bs Hs Ls.length) (hnil : dn = false → vH = .slice none 0 0) (i : Int) (ha : 0 ≤ ask ∧ ask ≤ 4611686018427387904) :
    Calls Tryz.prog 18 #[.pointer (some ⟨P, 0, none⟩), .int .i64 i] w (BehR (behL Bs Ls.length i) base nm P vS vB Ls Bs ask w) := by
  have hT1 := Touch.setCell w P 7 (.int .i64 (ask + 1))
  have h1 := h.touchP (ask' := ask + 1) (vH' := vH) (Hs' := Hs) (dn' := dn) hT1 (h.p.set_ 7 (.int .i64 (ask + 1))) (fun e => by
    obtain ⟨H, a, b, c, d⟩ := h.hs e
    exact ⟨H, a, hT1.blk b (fun e => b.ne_ h.p (by decide) e), c, fun x hx => own_touch (d x hx) hT1 (fun g hg e => own_notBlk (d x hx) h.p (by decide) (by rw [hg, e]))⟩) h.hl
  have KA := hid (add12 P ask w (h.p.cell 7) (h.p.free 7) (by omega))
  obtain ⟨w1, hw1⟩ : ∃ w1, w1 = w.setCell ⟨P, 7, none⟩ (.int .i64 (ask + 1)) := ⟨_, rfl⟩
  rw [← hw1] at h1 KA hT1
  have KD := hid (do_any h1 hr hok hnil)
  have lP1 := h1.p.lt
  have HT1 := hid hT1
  have lP := h.p.lt
  clear hw1 h1 h hT1 hok hnil
  go_enter Tryz.func18, Tryz.ntmps18
  go_wp2_with fail
  refine KA.out.mono ?_
  rintro e w2 ⟨rfl, rfl⟩
  go_wp2_with fail
  refine KD.out.mono ?_
  rintro e w3 ⟨rfl, vH3, Hs3, h3, o3, t3⟩
  have hT := HT1.out.then t3
  have KH := hid (has_any (.pointer (some ⟨P, 0, none⟩)) Ls.length i w3 (len_some h3))
  by_cases hi : hasN Ls.length i = true
  · obtain ⟨q, rfl, hq⟩ := hasN_in hi
    rw [hi] at KH
    obtain ⟨H, hvH, bH, hlo, hro⟩ := h3.hs rfl
    have hbq : q < Hs3.length := by rw [o3.1]; exact hq
    have hcell : w3.cell? ⟨H, q, none⟩ = some (.slice Hs3[q].A Hs3[q].xs.length Hs3[q].cap) := by
      rw [bH.cell]
      exact rowsC_at (List.getElem?_eq_getElem hbq)
    have hx := o3.2 q Hs3[q] (List.getElem?_eq_getElem hbq)
    have KC := hid (cloneI_any Hs3[q].xs Hs3[q].A Hs3[q].cap w3 (own_rd (hro _ (List.getElem_mem hbq))) (by rw [hx]; have := hitsB_len hr.up q Bs.length; have := hr.len; have := hr.n; omega))
    have p6 : w3.cell? ⟨P, 6, none⟩ = some (.slice (some ⟨H, 0, none⟩) Ls.length Ls.length) := by rw [h3.p.cell, ← hvH]; rfl
    have lP3 := h3.p.lt
    have lH := bH.lt
    have HF := hid (And.intro h3 (And.intro o3 (And.intro hT hx)))
    have hE : behL Bs Ls.length (q : Int) = Hs3[q].xs := by rw [hx]; simp [behL, hi]
    have HE := hid hE
    clear hE
    obtain ⟨bq, hbq'⟩ : ∃ bq, bq = Hs3[q] := ⟨_, rfl⟩
    rw [← hbq'] at hcell KC HF HE
    clear hbq' hx bH hro h3 o3 hT t3 hlo hvH
    go_wp2_with fail
    refine KH.out.mono ?_
    rintro e w4 ⟨rfl, rfl⟩
    go_wp2_with fail
    refine KC.out.mono ?_
    rintro e w5 ⟨A5, c5, rfl, hO5, hb5⟩
    have HF5 := hid (And.intro hO5 hb5)
    clear hO5 hb5 KC KH p6 lP3 lH hcell
    go_wp2_with fail
    go_ret
    unfold BehR
    rw [HE.out]
    exact ⟨A5, c5, vH3, Hs3, rfl, own_base HF5.out.1 HF.out.2.2.1.size, HF.out.1.next HF5.out.2, HF.out.2.1, HF.out.2.2.1.then (Touch.of_below HF5.out.2)⟩
  · have hi : hasN Ls.length i = false := by simpa using hi
    rw [hi] at KH
    have hE : behL Bs Ls.length i = [] := by simp [behL, hi]
    have HE := hid hE
    clear hE
    have HF := hid (And.intro h3 (And.intro o3 hT))
    have lP3 := h3.p.lt
    clear h3 o3 hT t3 hi
    go_wp2_with fail
    refine KH.out.mono ?_
    rintro e w4 ⟨rfl, rfl⟩
    go_wp2_with fail
    go_ret
    unfold BehR
    rw [HE.out]
    exact ⟨none, 0, vH3, Hs3, rfl, World.ownsRow_nil _ _ _ _, HF.out.1, HF.out.2.1, HF.out.2.2⟩
end

end Go.Proofs.YtoemmakhbiiknaaGreat

namespace Go.Proofs.YtoemmakhbiiknaaGreat
open Go.RowKit Go.MapKept Go.ChangeMaps Go.WideShapes Go.ChangeShapes Go.ChangeAt Go.Deep
set_option linter.unusedVariables false

theorem belowN (w : World) (n : Nat) : Below w.heap.size w (w.drewN n) := ⟨rfl, rfl, rfl, Nat.le_refl _, fun _ _ => rfl⟩
theorem Blk.rd12 {w : World} {g : Nat} {t : TypeId} {cs : Array Value} (h : Blk w g t cs) {xs : List Value} (hx : cs.toList = xs) : Rd w (some ⟨g, 0, none⟩) xs := by
  subst hx
  exact .inr ⟨g, 0, rfl, h.lt, fun j u hu => by rw [Nat.zero_add]; rw [h.cell]; simpa using hu⟩
theorem rise_one {xs : List Int} {x : Int} (h : xs.Pairwise (· < ·)) (hm : ∀ y, y ∈ xs ↔ y = x) : xs = [x] := by
  match xs, h with
  | [], _ => exact absurd ((hm x).2 rfl) (by simp)
  | [y], _ => rw [(hm y).1 (by simp)]
  | y :: z :: r, h =>
    have h1 := (hm y).1 (by simp)
    have h2 := (hm z).1 (by simp)
    have h3 := (List.pairwise_cons.1 h).1 z (by simp)
    omega
theorem PlG.rows {l : List Stp} {ds : List Nat} {Ls : List Stp} {Bs : List IRow} (h : PlG l ds Ls Bs) (ho : OrdOk (grf l) ds) (hn : ds.length ≤ 1000) : RowsOk Ls Bs := by
  have key : ∀ b ∈ Bs, ∃ p i : Nat, ds[p]? = some i ∧ BfOk (grf l) ds i b.xs := fun b hb => by
    obtain ⟨p, hp⟩ := List.mem_iff_getElem?.1 hb
    have hpl : p < ds.length := by have := (List.getElem?_eq_some_iff.1 hp).1; have := h.bs; omega
    obtain ⟨b', h1, h2⟩ := h.row p ds[p] (List.getElem?_eq_getElem hpl)
    rw [hp] at h1
    injection h1 with h1
    subst h1
    exact ⟨p, _, List.getElem?_eq_getElem hpl, h2⟩
  refine ⟨by rw [h.bs, h.ls], by rw [h.ls]; exact hn, fun b hb => ?_, fun b hb x hx => ?_⟩
  · obtain ⟨p, i, _, h2⟩ := key b hb
    exact h2.1
  · obtain ⟨p, i, h1, h2⟩ := key b hb
    obtain ⟨k, hk, rfl⟩ := (h2.2 x).1 hx
    exact ⟨_, rfl, by rw [h.ls]; exact List.idxOf_lt_length_of_mem (List.mem_of_mem_take (ho.before p i h1 k hk))⟩

end Go.Proofs.YtoemmakhbiiknaaGreat

namespace Go.Proofs.YtoemmakhbiiknaaGreat
open Go.RowKit Go.WideShapes Go.ChangeShapes Go.ChangeAt Go.Deep
set_option linter.unusedVariables false

structure AsS (w0 : World) (base : Nat) (nm : ByteArray) (P : Nat) (vS vB : Value) (Ls : List Stp) (Bs : List IRow) (ask : Int) (w : World) : Prop where
  ex : ∃ vH Hs dn, PlW base nm P vS vB vH Ls Bs Hs dn ask w ∧ (dn = true → HsOk Bs Hs Ls.length) ∧ (dn = false → vH = .slice none 0 0)
  rows : RowsOk Ls Bs
  aft : ∀ s ∈ Ls, s.after.length * 16 ≤ 140737488355328
  bel : Below w0.heap.size w0 w
  lo : w0.heap.size ≤ base
theorem hasN_out {n : Nat} {i : Int} (h : hasN n i = false) : i < 0 ∨ (n : Int) ≤ i := by
  unfold hasN at h
  by_cases h0 : 0 ≤ i
  · right
    simpa [h0] using h
  · left; omega
theorem rowAt_out {Bs : List IRow} {i : Int} (h : hasN Bs.length i = false) : rowAt Bs i = [] := by
  unfold rowAt
  split
  · rename_i h0
    rcases hasN_out h with h1 | h1
    · omega
    · rw [List.getElem?_eq_none (by omega)]; rfl
  · rfl
/-- Made by Compile: what a law has in hand. -/
theorem made_as {w0 w1 : World} {nm : ByteArray} {l : List Stp} {P : Nat} {vS vB : Value} {Ls : List Stp} {Bs : List IRow} {base : Nat} (hc : checkN l = 0) (hp : PlB base nm P vS vB Ls Bs w1) (hg : PlG l (ordN (grf l) l.length) Ls Bs) (hl : l.length ≤ 1000) (hok : ∀ s ∈ l, s.after.length * 16 ≤ 140737488355328) (hb : Below w0.heap.size w0 w1) (hlo : w0.heap.size ≤ base) :
    AsS w0 base nm P vS vB Ls Bs 0 w1 ∧ Ls.length = l.length := by
  obtain ⟨h1, h2, h3, h4⟩ := checkN_zero hc
  have hol : (ordN (grf l) l.length).length = l.length := ordN_len h2 (grf_shut h1) l.length (by rw [grf_len]; exact Nat.le_refl _)
  refine ⟨⟨⟨_, _, _, hp.plw, (fun e => by cases e), fun _ => rfl⟩, hg.rows (ordN_ok _ _) (by omega), fun s hs => ?_, hb, hlo⟩, by rw [hg.ls, hol]⟩
  obtain ⟨p, hp⟩ := List.mem_iff_getElem?.1 hs
  have hpl : p < (ordN (grf l) l.length).length := by rw [← hg.ls]; exact (List.getElem?_eq_some_iff.1 hp).1
  obtain ⟨s', A', c', g1, g2⟩ := hg.step p _ (List.getElem?_eq_getElem hpl)
  rw [hp] at g2
  injection g2 with g2
  rw [g2]
  exact hok s' (List.mem_of_getElem? g1)
set_option maxRecDepth 100000 in
set_option maxHeartbeats 8000000 in
theorem step_out2 (pv : Value) (n : Nat) (i : Int) (w : World) (KL : ∀ w2, Below w.heap.size w w2 → Calls Tryz.prog 17 #[pv] w2 fun e w' => e = .returned (.int .i64 (n : Int)) ∧ w' = w2) (hi : hasN n i = false) : Calls Tryz.prog 19 #[pv, .int .i64 i] w (StepR zeroSt w) := by
  have hwa : Below w.heap.size w (w.alloc (.cells #[.string ⟨#[]⟩, .string ⟨#[]⟩, .string ⟨#[]⟩, .string ⟨#[]⟩, .bool false, .int .i64 0, .int .i64 0, .int .i64 0, .slice none 0 0] 69)) := (Below.refl _ _).alloc (Nat.le_refl _) _
  have hB := Blk.new w 69 #[.string ⟨#[]⟩, .string ⟨#[]⟩, .string ⟨#[]⟩, .string ⟨#[]⟩, .bool false, .int .i64 0, .int .i64 0, .int .i64 0, .slice none 0 0]
  obtain ⟨W, hW⟩ : ∃ W, W = w.alloc (.cells #[.string ⟨#[]⟩, .string ⟨#[]⟩, .string ⟨#[]⟩, .string ⟨#[]⟩, .bool false, .int .i64 0, .int .i64 0, .int .i64 0, .slice none 0 0] 69) := ⟨_, rfl⟩
  obtain ⟨G, hG⟩ : ∃ G, G = w.heap.size := ⟨_, rfl⟩
  rw [← hW] at hwa hB
  rw [← hG] at hB
  have HK := hid (has_any pv n i W (KL W hwa))
  rw [hi] at HK
  have HWG := hid (And.intro hW hG)
  have HB := hid hB
  have hT5 := Touch.setRow W G #[.string ⟨#[]⟩, .string ⟨#[]⟩, .string ⟨#[]⟩, .string ⟨#[]⟩, .bool false, .int .i64 0, .int .i64 0, .int .i64 0, .slice none 0 0]
  have hC5 := hB.setRow #[.string ⟨#[]⟩, .string ⟨#[]⟩, .string ⟨#[]⟩, .string ⟨#[]⟩, .bool false, .int .i64 0, .int .i64 0, .int .i64 0, .slice none 0 0]
  have hb5 := hwa.trans (hT5.below hwa.size (fun k hk => by rw [hk]; omega))
  obtain ⟨w5, hw5⟩ : ∃ w5, w5 = W.setRow G #[.string ⟨#[]⟩, .string ⟨#[]⟩, .string ⟨#[]⟩, .string ⟨#[]⟩, .bool false, .int .i64 0, .int .i64 0, .int .i64 0, .slice none 0 0] := ⟨_, rfl⟩
  rw [← hw5] at hC5 hb5
  have HW5 := hid hw5
  have HF := hid hb5
  have r0 : w5.cell? ⟨G, 0, none⟩ = some (.string ⟨#[]⟩) := hC5.cell 0
  have r1 : w5.cell? ⟨G, 1, none⟩ = some (.string ⟨#[]⟩) := hC5.cell 1
  have r2 : w5.cell? ⟨G, 2, none⟩ = some (.string ⟨#[]⟩) := hC5.cell 2
  have r3 : w5.cell? ⟨G, 3, none⟩ = some (.string ⟨#[]⟩) := hC5.cell 3
  have r4 : w5.cell? ⟨G, 4, none⟩ = some (.bool false) := hC5.cell 4
  have r5 : w5.cell? ⟨G, 5, none⟩ = some (.int .i64 0) := hC5.cell 5
  have r6 : w5.cell? ⟨G, 6, none⟩ = some (.int .i64 0) := hC5.cell 6
  have r7 : w5.cell? ⟨G, 7, none⟩ = some (.int .i64 0) := hC5.cell 7
  have r8 : w5.cell? ⟨G, 8, none⟩ = some (.slice none 0 0) := hC5.cell 8
  have lG5 := hC5.lt
  clear hwa hB hW hG hT5 hC5 hb5 hw5 KL
  go_enter Tryz.func19, Tryz.ntmps19
  go_upto_region 1 with fail
  rw [← HWG.out.1, ← HWG.out.2]
  go_wp2_with fail
  refine HK.out.mono ?_
  rintro e w2 ⟨rfl, rfl⟩
  go_wp2_with (first
    | (refine wpList_store_row rfl 69 _ _ rfl G #[.string ⟨#[]⟩, .string ⟨#[]⟩, .string ⟨#[]⟩, .string ⟨#[]⟩, .bool false, .int .i64 0, .int .i64 0, .int .i64 0, .slice none 0 0] rfl rfl 69 _ HB.out (by kernel_rfl) (by rfl) (by simp [Value.oneCell']) ?_; rw [← HW5.out]))
  refine bodyPost_ret (v := .agg #[.string ⟨#[]⟩, .string ⟨#[]⟩, .string ⟨#[]⟩, .string ⟨#[]⟩, .bool false, .int .i64 0, .int .i64 0, .int .i64 0, .slice none 0 0]) (by simp [results, Tryz.results19, go_sem, r0, r1, r2, r3, r4, r5, r6, r7, r8]) rfl ?_
  exact ⟨none, 0, rfl, World.ownsRow_nil _ _ _ _, HF.out⟩
section
variable {w0 : World} {base : Nat} {nm : ByteArray} {P : Nat} {vS vB : Value} {Ls : List Stp} {Bs : List IRow} {ask : Int} {w w' : World}
theorem AsS.next (h : AsS w0 base nm P vS vB Ls Bs ask w) (hb : Below w.heap.size w w') : AsS w0 base nm P vS vB Ls Bs ask w' := by
  obtain ⟨vH, Hs, dn, a, b, c⟩ := h.ex
  exact ⟨⟨vH, Hs, dn, a.next hb, b, c⟩, h.rows, h.aft, bthen h.bel hb, h.lo⟩
/-- Only another plan was touched. -/
theorem AsS.far {P2 : Nat} {cs : Array Value} (h : AsS w0 base nm P vS vB Ls Bs ask w) (hT : Touch (· = P2) w w') (hne : P2 ≠ P) (hp2 : Blk w P2 126 cs) (hlo : w0.heap.size ≤ P2) : AsS w0 base nm P vS vB Ls Bs ask w' := by
  obtain ⟨vH, Hs, dn, a, b, c⟩ := h.ex
  have no : ∀ {b0 : Nat} {e : TypeId} {size : Nat} {v : Value} {n : Nat} {xs : List Value}, e ≠ 126 → w.ownsRow b0 e size v n xs → w'.ownsRow b0 e size v n xs := fun hn ho => own_touch ho hT (fun g hg e => own_notBlk ho hp2 hn (by rw [hg, e]))
  refine ⟨⟨vH, Hs, dn, ⟨hT.blk a.p (fun e => hne e.symm), no (by decide) a.os, no (by decide) a.ob, fun s hs => no (by decide) (a.st s hs), fun x hx => no (by decide) (a.rw x hx), fun e => ?_, a.hl, a.lo⟩, b, c⟩, h.rows, h.aft, h.bel.trans (hT.below h.bel.size (fun k hk => by rw [hk]; exact hlo)), h.lo⟩
  obtain ⟨H, q1, q2, q3, q4⟩ := a.hs e
  exact ⟨H, q1, hT.blk q2 (fun e => q2.ne_ hp2 (by decide) e), q3, fun x hx => no (by decide) (q4 x hx)⟩
theorem AsS.len (h : AsS w0 base nm P vS vB Ls Bs ask w) : Calls Tryz.prog 17 #[.pointer (some ⟨P, 0, none⟩)] w fun e w' => e = .returned (.int .i64 (Ls.length : Int)) ∧ w' = w := by
  obtain ⟨vH, Hs, dn, a, b, c⟩ := h.ex
  exact len_some a
theorem AsS.name (h : AsS w0 base nm P vS vB Ls Bs ask w) : Calls Tryz.prog 60 #[.pointer (some ⟨P, 0, none⟩)] w fun e w' => e = .returned (.string nm) ∧ w' = w := by
  obtain ⟨vH, Hs, dn, a, b, c⟩ := h.ex
  exact name_some a
theorem AsS.before (h : AsS w0 base nm P vS vB Ls Bs ask w) (i : Int) : Calls Tryz.prog 73 #[.pointer (some ⟨P, 0, none⟩), .int .i64 i] w (NewRowOf en1 3 1 (rowAt Bs i) w) := by
  obtain ⟨vH, Hs, dn, a, b, c⟩ := h.ex
  by_cases hi : hasN Ls.length i = true
  · obtain ⟨q, rfl, hq⟩ := hasN_in hi
    have hqb : q < Bs.length := by rw [h.rows.len]; exact hq
    have hx := List.getElem?_eq_getElem hqb
    rw [rowAt_in hx]
    refine before_in a q _ hx h.rows.len ?_
    have h1 := rise_len (h.rows.up _ (List.getElem_mem hqb)) (h.rows.lt _ (List.getElem_mem hqb))
    have := h.rows.n
    omega
  · have hi : hasN Ls.length i = false := by simpa using hi
    rw [rowAt_out (by rw [h.rows.len]; exact hi)]
    exact before_out _ Ls.length i w (len_some a) hi
theorem AsS.step (h : AsS w0 base nm P vS vB Ls Bs ask w) (i : Int) : Calls Tryz.prog 19 #[.pointer (some ⟨P, 0, none⟩), .int .i64 i] w (StepR (stepAt Ls i) w) := by
  obtain ⟨vH, Hs, dn, a, b, c⟩ := h.ex
  by_cases hi : hasN Ls.length i = true
  · obtain ⟨q, rfl, hq⟩ := hasN_in hi
    have hx := List.getElem?_eq_getElem hq
    rw [stepAt_in hx]
    exact step_in a q _ hx (h.aft _ (List.getElem_mem hq))
  · have hi : hasN Ls.length i = false := by simpa using hi
    rw [stepAt_out hi]
    exact step_out2 _ Ls.length i w (fun w2 hb => len_some (a.next hb)) hi
theorem AsS.behind (h : AsS w0 base nm P vS vB Ls Bs ask w) (i : Int) (ha : 0 ≤ ask ∧ ask ≤ 4611686018427387904) : Calls Tryz.prog 18 #[.pointer (some ⟨P, 0, none⟩), .int .i64 i] w fun e w' => ∃ A cap, e = .returned (.slice A (behL Bs Ls.length i).length cap) ∧ w'.ownsRow w.heap.size 3 1 (.slice A (behL Bs Ls.length i).length cap) (behL Bs Ls.length i).length ((behL Bs Ls.length i).flatMap en1) ∧ AsS w0 base nm P vS vB Ls Bs (ask + 1) w' ∧ Touch (· = P) w w' := by
  obtain ⟨vH, Hs, dn, a, b, c⟩ := h.ex
  refine (behind_any a h.rows b c i ha).mono ?_
  rintro e w' ⟨A, cap, vH', Hs', rfl, hO, hP, hH, hT⟩
  exact ⟨A, cap, rfl, hO, ⟨⟨vH', Hs', true, hP, (fun _ => hH), (fun e => by cases e)⟩, h.rows, h.aft, h.bel.trans (hT.below h.bel.size (fun k hk => by rw [hk]; exact Nat.le_trans h.lo a.lo)), h.lo⟩, hT⟩
end

end Go.Proofs.YtoemmakhbiiknaaGreat

namespace Go.Proofs.YtoemmakhbiiknaaGreat
open Go.RowKit Go.MapKept Go.ChangeMaps Go.WideShapes Go.ChangeShapes Go.ChangeAt Go.Deep
set_option linter.unusedVariables false

theorem append_nil_run {P : Program} {w : World} {t e : TypeId} {i : TypeInfo} (ht : P.underlying t = some (.slice e)) (hi : P.info? e = some i) (ty : TypeId) (c : Nat) :
    (Builtin.append_ #[t, t] ty #[.slice none 0 0, .slice none 0 c]).run P w = .ok (.slice none 0 0) w := by
  simp [Builtin.append_, run_underlying ht, sizeOf, typeInfo, hi, Result.andThen, Sem.run_bind, go_sem]

/-- 'append([]T(nil), x...)'. -/
theorem wpList_append_any {P : Program} {ops : Array Oper} {rest : List Oper} {o : Oper} {a : Act} {Q : Exit → Act → World → Prop} (w : World) (hgd : o.guard = none) (s x : Operand) (t : TypeId)
    (ho : o.op = .call { callee := .builtin .append, args := #[s, x], argTypes := #[t, t] })
    (e : TypeId) (i : TypeInfo) (z : Value) (size bytes : Nat) (ht : P.underlying t = some (.slice e)) (hi : P.info? e = some i) (hz : i.zero = some z)
    (hsize : i.size = size) (hby : i.bytes = bytes) (hzs : z.cells.size = size) (hsz : 0 < size)
    (hs : a.eval s = .slice none 0 0) (A : Option Addr) (m c : Nat) (xs : List Value) (hx : a.eval x = .slice A m c) (hl : xs.length = m * size) (hR : Rd w A xs) (h1 : ∀ u ∈ xs, u.oneCell' = true)
    (h63 : m ≤ maxLen) (hb : m * bytes ≤ 140737488355328)
    (h : ∀ v' w', w'.ownsRow w.heap.size e size v' m xs → Below w.heap.size w w' → wpList P ops Q rest (a.put o.dst v') w') : wpList P ops Q (o :: rest) a w := by
  cases A with
  | none =>
    have hm : m = 0 := by
      rcases hR with h0 | ⟨b, off, hA, hx1, hx2⟩
      · rw [h0] at hl
        rcases Nat.eq_zero_or_pos m with h | h
        · exact h
        · have := Nat.mul_pos h hsz
          rw [← hl] at this
          simp at this
      · exact absurd hA (by simp)
    subst hm
    refine wpList_plain hgd fun K' hK' => ?_
    have hrun := append_nil_run (P := P) (w := w) ht hi o.type c
    unfold Oper.wp
    simp [execOp, ho, resolve, invoke, builtin, hs, hx, hrun, Result.andThen]
    refine hK' _ _ (h _ _ ?_ (Below.refl _ _))
    have : xs = [] := List.eq_nil_of_length_eq_zero (by simpa using hl)
    subst this
    exact World.ownsRow_nil _ _ _ _
  | some ad =>
    refine wpList_append_own _ hgd s x t ho w.heap.size e i z size bytes ht hi hz hsize hby hzs hsz _ 0 [] hs (World.ownsRow_nil _ _ _ _) ad m c xs hx hl ?_ h1 (by omega) (by rw [Nat.zero_add]; exact hb) (Nat.le_refl _) (fun v' w' h2 h3 _ => h v' w' (by simpa using h2) ((Below.refl _ _).grown h3 (Nat.le_refl _) (fun k hk => by simp [Value.ownBlock] at hk)))
    intro j u hu
    rcases hR with h0 | ⟨b, off, hA, hlt, hc⟩
    · rw [h0] at hu; simp at hu
    · injection hA with hA
      subst hA
      rw [add_plain]
      exact hc j u hu

end Go.Proofs.YtoemmakhbiiknaaGreat

namespace Go.Proofs.YtoemmakhbiiknaaGreat
open Go.RowKit Go.MapKept Go.ChangeMaps Go.WideShapes Go.ChangeShapes Go.ChangeAt Go.Deep
set_option linter.unusedVariables false

theorem run_append_any {P : Program} (w : World) (t ty : TypeId) (e : TypeId) (i : TypeInfo) (z : Value) (size bytes : Nat) (ht : P.underlying t = some (.slice e)) (hi : P.info? e = some i) (hz : i.zero = some z)
    (hsize : i.size = size) (hby : i.bytes = bytes) (hzs : z.cells.size = size) (hsz : 0 < size)
    (A : Option Addr) (m c : Nat) (xs : List Value) (hl : xs.length = m * size) (hR : Rd w A xs) (h1 : ∀ u ∈ xs, u.oneCell' = true) (h63 : m ≤ maxLen) (hb : m * bytes ≤ 140737488355328) :
    ∃ v' w', (Builtin.append_ #[t, t] ty #[.slice none 0 0, .slice A m c]).run P w = .ok v' w' ∧ w'.ownsRow w.heap.size e size v' m xs ∧ Below w.heap.size w w' := by
  cases A with
  | none =>
    have hm : m = 0 := by
      rcases hR with h0 | ⟨b, off, hA, hx1, hx2⟩
      · rw [h0] at hl
        rcases Nat.eq_zero_or_pos m with h | h
        · exact h
        · have := Nat.mul_pos h hsz
          rw [← hl] at this
          simp at this
      · exact absurd hA (by simp)
    subst hm
    have : xs = [] := List.eq_nil_of_length_eq_zero (by simpa using hl)
    subst this
    exact ⟨_, w, append_nil_run (P := P) (w := w) ht hi ty c, World.ownsRow_nil _ _ _ _, Below.refl _ _⟩
  | some ad =>
    obtain ⟨v', w', hr, h2, h3, _, _⟩ := run_append_own_at (P := P) w w.heap.size t ty e i z size bytes ht hi hz hsize hby hzs hsz (.slice none 0 0) 0 [] (World.ownsRow_nil _ _ _ _) ad m c xs hl (by
      intro j u hu
      rcases hR with h0 | ⟨b, off, hA, hlt, hc⟩
      · rw [h0] at hu; simp at hu
      · injection hA with hA
        subst hA
        rw [add_plain]
        exact hc j u hu) h1 (by omega) (by rw [Nat.zero_add]; exact hb) (Nat.le_refl _)
    exact ⟨v', w', hr, by simpa using h2, (Below.refl _ _).grown h3 (Nat.le_refl _) (fun k hk => by simp [Value.ownBlock] at hk)⟩

theorem step_append_any {P : Program} (w : World) {ops : Array Oper} {o : Oper} {a : Act} {K : Act → World → Prop} {Q : Exit → Act → World → Prop} {E : Prop} (hgd : o.guard = none) (s x : Operand) (t : TypeId)
    (ho : o.op = .call { callee := .builtin .append, args := #[s, x], argTypes := #[t, t] })
    (e : TypeId) (i : TypeInfo) (z : Value) (size bytes : Nat) (ht : P.underlying t = some (.slice e)) (hi : P.info? e = some i) (hz : i.zero = some z)
    (hsize : i.size = size) (hby : i.bytes = bytes) (hzs : z.cells.size = size) (hsz : 0 < size) (hs : a.eval s = .slice none 0 0)
    (A : Option Addr) (m c : Nat) (xs : List Value) (hx : a.eval x = .slice A m c) (hl : xs.length = m * size) (hR : Rd w A xs) (h1 : ∀ u ∈ xs, u.oneCell' = true) (h63 : m ≤ maxLen) (hb : m * bytes ≤ 140737488355328)
    (h : ∀ A' cap' w', w'.ownsRow w.heap.size e size (.slice A' m cap') m xs → Below w.heap.size w w' → K (a.put o.dst (.slice A' m cap')) w') :
    if Region.wanted o (yielded ops a.tmps) = true then Oper.wp P o a w K Q else E := by
  have hw : Region.wanted o (yielded ops a.tmps) = true := by simp [Region.wanted, hgd]
  rw [if_pos hw]
  obtain ⟨v', w', hr, h2, h3⟩ := run_append_any (P := P) w t o.type e i z size bytes ht hi hz hsize hby hzs hsz A m c xs hl hR h1 h63 hb
  obtain ⟨A', cap', rfl, _⟩ := own_slice h2
  unfold Oper.wp execOp
  simp only [ho, resolve, invoke, builtin, Sem.run_bind, Sem.run_pure, Result.andThen_ok, List.map_toArray, List.map_cons, List.map_nil, hs, hx, hr]
  exact h A' cap' w' h2 h3
theorem exec_append_any {P : Program} {w : World} {o : Oper} {a : Act} {X : Value → World → Prop} (s x : Operand) (t : TypeId)
    (ho : o.op = .call { callee := .builtin .append, args := #[s, x], argTypes := #[t, t] })
    (e : TypeId) (i : TypeInfo) (z : Value) (size bytes : Nat) (ht : P.underlying t = some (.slice e)) (hi : P.info? e = some i) (hz : i.zero = some z)
    (hsize : i.size = size) (hby : i.bytes = bytes) (hzs : z.cells.size = size) (hsz : 0 < size) (hs : a.eval s = .slice none 0 0)
    (A : Option Addr) (m c : Nat) (xs : List Value) (hx : a.eval x = .slice A m c) (hl : xs.length = m * size) (hR : Rd w A xs) (h1 : ∀ u ∈ xs, u.oneCell' = true) (h63 : m ≤ maxLen) (hb : m * bytes ≤ 140737488355328)
    (h : ∀ A' cap' w', w'.ownsRow w.heap.size e size (.slice A' m cap') m xs → Below w.heap.size w w' → X (.slice A' m cap') w') :
    ∃ u w', (execOp a.eval o).run P w = .ok (.value u) w' ∧ X u w' := by
  obtain ⟨v', w', hr, h2, h3⟩ := run_append_any (P := P) w t o.type e i z size bytes ht hi hz hsize hby hzs hsz A m c xs hl hR h1 h63 hb
  obtain ⟨A', cap', rfl, _⟩ := own_slice h2
  refine ⟨.slice A' m cap', w', ?_, h A' cap' w' h2 h3⟩
  unfold execOp
  simp only [ho, resolve, invoke, builtin, Sem.run_bind, Sem.run_pure, Result.andThen_ok, List.map_toArray, List.map_cons, List.map_nil, hs, hx, hr]

end Go.Proofs.YtoemmakhbiiknaaGreat

namespace Go.Proofs.YtoemmakhbiiknaaGreat
open Go.RowKit Go.MapKept Go.ChangeMaps Go.WideShapes Go.ChangeShapes Go.ChangeAt Go.Deep
set_option linter.unusedVariables false

/-- The steps, copied: each is what it was, but for where its names lie. -/
structure Twins (l Ls : List Stp) : Prop where
  len : Ls.length = l.length
  at_ : ∀ (k : Nat) (s : Stp), l[k]? = some s → ∃ A c, Ls[k]? = some (twn s A c)
theorem Twins.snoc {l Ls : List Stp} {k : Nat} {s : Stp} (h : Twins (l.take k) Ls) (hs : l[k]? = some s) (A : Option Addr) (c : Nat) : Twins (l.take (k + 1)) (Ls ++ [twn s A c]) := by
  have hk : k < l.length := (List.getElem?_eq_some_iff.1 hs).1
  have hl := h.len
  rw [List.length_take, Nat.min_eq_left (by omega)] at hl
  rw [take_succ_of hs]
  refine ⟨by rw [List.length_append, List.length_append, h.len]; rfl, fun j y hj => ?_⟩
  by_cases hjk : j < k
  · rw [List.getElem?_append_left (by rw [List.length_take]; omega)] at hj
    obtain ⟨A', c', h1⟩ := h.at_ j y hj
    exact ⟨A', c', by rw [List.getElem?_append_left (by omega)]; exact h1⟩
  · have hjl := (List.getElem?_eq_some_iff.1 hj).1
    simp at hjl
    have : j = k := by omega
    subst this
    rw [List.getElem?_append_right (by rw [List.length_take]; omega)] at hj
    rw [List.length_take, Nat.min_eq_left (by omega), Nat.sub_self] at hj
    simp at hj
    subst hj
    exact ⟨A, c, by rw [List.getElem?_append_right (by omega), hl]; simp⟩
theorem flat_enB_len : ∀ xl : List ByteArray, (xl.flatMap enB).length = xl.length * 1
  | [] => rfl
  | x :: xl => by rw [List.flatMap_cons, List.length_append, flat_enB_len xl]; simp [enB]; omega

end Go.Proofs.YtoemmakhbiiknaaGreat
