/-
  (*Plan).gather: what stands behind each step.
-/
import Derived.Test.YtemhoaapapeilaaGp12
namespace Go.Proofs.Ytemhoaapapeilaa
open Go.RowKit Go.WideShapes Go.ChangeShapes Go.ChangeAt Go.Deep
set_option linter.unusedVariables false

theorem made_norow (N : Nat) : madeCells (Value.slice none 0 0).cells N = (Array.range N).map fun _ => Value.slice none 0 0 := by
  unfold madeCells
  simp [Value.cells]
  intro a _
  rw [Nat.mod_one]
  rfl
theorem hitsB_len {Bs : List IRow} (h : ∀ b ∈ Bs, b.xs.Pairwise (· < ·)) (k : Nat) : ∀ i, (hitsB Bs k i).length ≤ i
  | 0 => by simp [hitsB]
  | i + 1 => by
    unfold hitsB
    rw [List.length_append]
    have h1 := hitsB_len h k i
    have h2 : (hitsR k i ((Bs[i]?).map IRow.xs |>.getD [])).length ≤ 1 := by
      cases e : Bs[i]? with
      | none => simp [hitsR]
      | some b => exact hitsR_rise (h b (List.mem_of_getElem? e))
    omega
def planD (nm : ByteArray) (vS vB vH : Value) (ask : Int) : Array Value := #[.string nm, vS, vB, .int .u32 0, .int .i32 1, .int .u32 0, vH, .int .i64 ask]
/-- What gather leaves. -/
structure GaP (w0 : World) (nm : ByteArray) (P : Nat) (vS vB : Value) (n : Nat) (Bs : List IRow) (ask : Int) (H : Nat) (f : Nat → IRow) (w : World) : Prop where
  s : GaS w0 P H n (planD nm vS vB (.slice (some ⟨H, 0, none⟩) n n) ask) f w
  x : ∀ k, k < n → (f k).xs = hitsB Bs k Bs.length

set_option maxRecDepth 100000 in
set_option maxHeartbeats 64000000 in
theorem gather_any (base : Nat) (nm : ByteArray) (P : Nat) (SA : Option Addr) (sc : Nat) (vB : Value) (n : Nat) (Bs : List IRow) (ask : Int) (w : World) (hP : Blk w P 75 (planD nm (.slice SA n sc) vB (.slice none 0 0) ask)) (hob : w.ownsRow base 36 1 vB Bs.length (Bs.flatMap enR)) (hrw : ∀ b ∈ Bs, OwnR base w b) (hn : n ≤ 1000) (hm : Bs.length ≤ 1000)
    (hup : ∀ b ∈ Bs, b.xs.Pairwise (· < ·)) (hin : ∀ b ∈ Bs, ∀ x ∈ b.xs, ∃ q : Nat, x = (q : Int) ∧ q < n) (hlen : ∀ b ∈ Bs, b.xs.length ≤ 1000) :
    Calls Try.prog 38 #[.pointer (some ⟨P, 0, none⟩)] w fun e w' => e = .returned (.tuple #[]) ∧ ∃ H f, GaP w nm P (.slice SA n sc) vB n Bs ask H f w' := by
  have HOB := hid hob
  have HRW := hid hrw
  have HUP := hid hup
  have HIN := hid hin
  have HLE := hid hlen
  obtain ⟨i1, hj, hy0, hy1, hy2⟩ := info_parts info_irow12
  have hmk : ∀ w : World, (Instr.makeSlice 58 (.int .i64 (n : Int)) (.int .i64 (n : Int))).run Try.prog w = .ok (.slice (some ⟨w.heap.size, 0, none⟩) n n) (w.alloc (.cells ((Array.range n).map fun _ => Value.slice none 0 0) 36)) := fun w => by
    have := run_makeSlice (P := Try.prog) (w := w) 58 36 i1 (.slice none 0 0) Try.underlying58 hj hy0 .i64 .i64 (n : Int) (n : Int) (by omega) (Int.le_refl _) (by rw [hy1]; simp; omega) (by rw [hy2]; omega) (by omega)
    rw [hy1] at this
    simp only [Int.toNat_natCast, Nat.mul_one] at this
    rw [made_norow] at this
    exact this
  clear hj hy0 hy1 hy2
  obtain ⟨CN, hCN⟩ : ∃ CN, CN = (Array.range n).map fun _ => Value.slice none 0 0 := ⟨_, rfl⟩
  rw [← hCN] at hmk
  have p1 : w.cell? ⟨P, 1, none⟩ = some (.slice SA n sc) := hP.cell 1
  have p6 : w.cell? ⟨P, 6, none⟩ = some (.slice none 0 0) := hP.cell 6
  have f6 := hP.free 6
  have lP := hP.lt
  have hGS : GaS w P w.heap.size n (planD nm (.slice SA n sc) vB (.slice (some ⟨w.heap.size, 0, none⟩) n n) ask) (fun _ => ⟨none, 0, []⟩) ((w.setCell ⟨P, 6, none⟩ (.slice (some ⟨w.heap.size, 0, none⟩) n n)).alloc (.cells CN 36)) := by
    have hT := Touch.setCell w P 6 (.slice (some ⟨w.heap.size, 0, none⟩) n n)
    have hsz : (w.setCell ⟨P, 6, none⟩ (.slice (some ⟨w.heap.size, 0, none⟩) n n)).heap.size = w.heap.size := by simp [World.setCell]
    have hp1 := (hP.set_ 6 (.slice (some ⟨w.heap.size, 0, none⟩) n n)).alloc (.cells CN 36)
    have hh := Blk.new (w.setCell ⟨P, 6, none⟩ (.slice (some ⟨w.heap.size, 0, none⟩) n n)) 36 CN
    rw [hsz] at hh
    refine ⟨hp1, by rw [hCN] at hh ⊢; exact hh, fun k hk => World.ownsRow_nil _ _ _ _, fun k k' q _ _ _ hq => by simp [Value.ownBlock] at hq, hT.then (Touch.of_below ((Below.refl _ _).alloc (Nat.le_refl _) _)), Nat.le_refl _, lP⟩
  have HGS := hid hGS
  have HP0 := hid hP
  clear hP hob hrw hup hin hlen hGS hCN
  go_enter Try.func38, Try.ntmps38
  go_upto_region 1 with fail
  obtain ⟨W, hW⟩ : ∃ W, W = (w.setCell ⟨P, 6, none⟩ (.slice (some ⟨w.heap.size, 0, none⟩) n n)).alloc (.cells CN 36) := ⟨_, rfl⟩
  obtain ⟨H, hH⟩ : ∃ H, H = w.heap.size := ⟨_, rfl⟩
  rw [← hW, ← hH] at HGS
  rw [← hW, ← hH]
  clear hW hH hmk p1 p6 f6 lP
  obtain ⟨BA, bc, hvB, _⟩ := own_slice HOB.out
  subst hvB
  have p2 : W.cell? ⟨P, 2, none⟩ = some (.slice BA Bs.length bc) := HGS.out.p.cell 2
  have lP := HGS.out.p.lt
  go_wp2_with fail
  clear p2 lP
  have HBP := hid (show (Value.slice BA Bs.length bc).ownBlock ≠ some P from own_notBlk HOB.out HP0.out (by decide))
  go_loopw [20] (fun v wr => ∃ (i : Nat) (f : Nat → IRow), i ≤ Bs.length ∧ v = .int .i64 i ∧ Hid (GaS w P H n (planD nm (.slice SA n sc) (.slice BA Bs.length bc) (.slice (some ⟨H, 0, none⟩) n n) ask) f wr) ∧ Hid (∀ k, k < n → (f k).xs = hitsB Bs k i)) (fun v _ => Bs.length - nOf v)
  case atStart => exact ⟨0, _, Nat.zero_le _, rfl, HGS, hid (fun k hk => rfl)⟩
  case round =>
    clear HGS
    obtain ⟨i, f, hi, rfl, HS, HX⟩ := hrel
    by_cases hlt : i < Bs.length
    · obtain ⟨b, hb⟩ : ∃ b, Bs[i]? = some b := ⟨Bs[i], List.getElem?_eq_getElem hlt⟩
      have HMB := hid (List.mem_of_getElem? hb)
      have HBI := hid hb
      have HOT := hid (fun wx (hx : GaS w P H n (planD nm (.slice SA n sc) (.slice BA Bs.length bc) (.slice (some ⟨H, 0, none⟩) n n) ask) f wx) => hx.t)
      have hobr := own_touch HOB.out HS.out.t (fun q hq e => HBP.out (by rw [hq, e]))
      obtain ⟨g1, o1, hAA, _, hcc⟩ := (own_rd hobr).at_ 1 enR_len (by omega) hb
      have q0 : wr.cell? ⟨g1, o1 + i * 1, none⟩ = some (.slice b.A b.xs.length b.cap) := hcc 0 _ rfl
      rw [Nat.mul_one] at q0
      subst hAA
      clear hobr hcc hb
      go_wp2_with fail
      clear q0
      have hbl := HLE.out b HMB.out
      go_loopw [27] (fun v wr => ∃ (j : Nat) (f : Nat → IRow), j ≤ b.xs.length ∧ v = .int .i64 j ∧ Hid (GaS w P H n (planD nm (.slice SA n sc) (.slice (some ⟨g1, o1, none⟩) Bs.length bc) (.slice (some ⟨H, 0, none⟩) n n) ask) f wr) ∧ Hid (∀ k, k < n → (f k).xs = hitsB Bs k i ++ hitsR k i (b.xs.take j))) (fun v _ => b.xs.length - nOf v)
      case atStart => exact ⟨0, f, Nat.zero_le _, rfl, HS, hid (fun k hk => by rw [HX.out k hk]; simp [hitsR])⟩
      case round =>
        clear HS HX
        obtain ⟨j, f, hj, rfl, HS, HX⟩ := hrel
        by_cases hjl : j < b.xs.length
        · obtain ⟨x, hx⟩ : ∃ x, b.xs[j]? = some x := ⟨b.xs[j], List.getElem?_eq_getElem hjl⟩
          obtain ⟨q, hq, hqn⟩ := HIN.out b HMB.out x (List.mem_of_getElem? hx)
          subst hq
          have HTJ := hid (take_succ_of hx)
          have hrb := own_touch (HRW.out b HMB.out) HS.out.t (fun r hr e => own_notBlk (HRW.out b HMB.out) HP0.out (by decide) (by rw [hr, e]))
          obtain ⟨g2, o2, hA2, _, hc2⟩ := (own_rd hrb).at_ 1 en1_len (by omega) hx
          have q1 : wr.cell? ⟨g2, o2 + j * 1, none⟩ = some (.int .i64 (q : Int)) := hc2 0 _ rfl
          rw [Nat.mul_one] at q1
          have HBA := hid hA2
          generalize b.A = bA at hA2
          subst hA2
          clear hc2 hx hrb
          go_upto_region 7 with fail
          clear q1
          obtain ⟨vk, hvk⟩ : ∃ vk, vk = Value.slice (f q).A (f q).xs.length (f q).cap := ⟨_, rfl⟩
          have hrq := HS.out.r q hqn
          have hlq : (f q).xs.length ≤ 2000 := by
            have h1 := HX.out q hqn
            rw [h1, List.length_append]
            have h2 := hitsB_len HUP.out q i
            have h3 := hitsR_len q i (b.xs.take j)
            have h4 : (b.xs.take j).length ≤ 1000 := by rw [List.length_take]; omega
            omega
          obtain ⟨E, hE⟩ : ∃ E : World → World → Prop, ∀ w w', E w w' ↔ Touch (fun r => vk.ownBlock = some r) w w' := ⟨_, fun _ _ => Iff.rfl⟩
          obtain ⟨CB, hCF, hCT⟩ : ∃ CB : Bool → Bool → World → Prop, (∀ b' w', CB false b' w' ↔ Below wr.heap.size wr w') ∧ (∀ b' w', CB true b' w' ↔ E wr w') := ⟨fun b _ w' => match b with | false => Below wr.heap.size wr w' | true => E wr w', fun _ _ => Iff.rfl, fun _ _ => Iff.rfl⟩
          have hEB : ∀ w w', Below w.heap.size w w' → E w w' := fun w w' hb => (hE _ _).2 (Touch.of_below hb)
          obtain ⟨C, hCd⟩ : ∃ C : World → Prop, ∀ w', C w' ↔ E wr w' := ⟨_, fun _ => Iff.rfl⟩
          have HCC := hid (show ∀ b b' w', CB b b' w' → C w' from fun b b' w' h => (hCd _).2 (by
            cases b with
            | false => exact hEB _ _ ((hCF _ _).1 h)
            | true => exact (hCT _ _).1 h))
          have HCF := hid (show ∀ b', CB false b' wr.drew from fun b' => (hCF _ _).2 (Below.refl _ _).drew)
          have hall : ∀ p : In C, Blk p.w P 75 (planD nm (.slice SA n sc) (.slice (some ⟨g1, o1, none⟩) Bs.length bc) (.slice (some ⟨H, 0, none⟩) n n) ask) ∧ Blk p.w H 36 (rngC n fun k => .slice (f k).A (f k).xs.length (f k).cap) := fun p => by
            have hT := (hE _ _).1 ((hCd _).1 p.h)
            exact ⟨hT.blk HS.out.p (fun e => own_notBlk hrq HS.out.p (by decide) (by rw [← hvk]; exact e)), hT.blk HS.out.h (fun e => own_notBlk hrq HS.out.h (by decide) (by rw [← hvk]; exact e))⟩
          have hne : Nonempty (In C) := ⟨⟨_, HCC.out _ _ _ (HCF.out false)⟩⟩
          have p6 : ∀ p : In C, p.w.cell? ⟨P, 6, none⟩ = some (.slice (some ⟨H, 0, none⟩) n n) := fun p => (hall p).1.cell 6
          have lP : ∀ p : In C, P < p.w.heap.size := fun p => (hall p).1.lt
          have hk0 : ∀ p : In C, p.w.cell? ⟨H, q, none⟩ = some vk := fun p => by rw [(hall p).2.cell, rngC_at _ hqn, hvk]
          have lH : ∀ p : In C, H < p.w.heap.size := fun p => (hall p).2.lt
          have HE := hid hE
          have HFF := hid hCF
          have HFT := hid hCT
          have HVB := hid (show ∀ r, vk.ownBlock = some r → r < wr.heap.size from fun r hr => (hrq.lt r (by rw [← hvk]; exact hr)).2)
          obtain ⟨KM, hKM⟩ : ∃ KM : Value → World → Prop, ∀ u w', KM u w' ↔ ∃ g, u = .slice (some ⟨g, 0, none⟩) 1 1 ∧ Blk w' g 3 #[.int .i64 (i : Int)] ∧ wr.heap.size ≤ g := ⟨_, fun _ _ => Iff.rfl⟩
          have GR : Grow E E 99 (fun _ => none) KM := by
            refine ⟨fun u w w' hk he => ?_, hEB, fun _ _ h => h, fun w w' w'' h1 h2 => (hE _ _).2 (((hE _ _).1 h1).then ((hE _ _).1 h2)), (fun i R hi => by cases hi), (fun R hi => by cases hi)⟩
            obtain ⟨g, h1, h2, h3⟩ := (hKM _ _).1 hk
            exact (hKM _ _).2 ⟨g, h1, ((hE _ _).1 he).blk h2 (fun e => by have := HVB.out g e; omega), h3⟩
          have HKM := hid hKM
          have HVK := hid hvk
          have HRQ := hid hrq
          clear hCd hall hE hEB hCF hCT hKM hvk hrq
          refine wp_region_grow CB E E (fun _ => none) KM 14 99 15 13 44 (by decide) GR (by kernel_rfl) (by simp) (by kernel_rfl) (by kernel_rfl) (HCF.out false) ⟨_, HCF.out true⟩ ?_
          simp only [List.take_succ_cons, List.take_zero, List.drop_succ_cons, List.drop_zero]
          refine wpG_part (fun a D D' hd h w' hC hD' => h w' hC (hd w' hD')) C HCC.out ⟨_, HCF.out false⟩ 1 1 (by kernel_rfl) (by kernel_rfl) (by kernel_rfl) ?_
          simp only [List.take_succ_cons, List.take_zero, List.drop_succ_cons, List.drop_zero]
          repeat (first | go_big_quiet_step (fail) | quiet_step (fail))
          refine wpQuiet_nil ?_
          refine wpG_one (fun a D D' hd h w' hC hD' => h w' hC (hd w' hD')) (by kernel_rfl) (by kernel_rfl) (by kernel_rfl) (.pointer (some ⟨P, 0, none⟩)) (fun b1 b2 w' _ hb' => by go_simp) ?_
          refine wpG_part (fun a D D' hd h w' hC hD' => h w' hC (hd w' hD')) C HCC.out ⟨_, HCF.out false⟩ 4 6 (by kernel_rfl) (by kernel_rfl) (by kernel_rfl) ?_
          simp only [List.take_succ_cons, List.take_zero, List.drop_succ_cons, List.drop_zero]
          repeat (first | go_big_quiet_step (fail) | quiet_step (fail))
          refine wpQuiet_nil ?_
          refine wpG_one (fun a D D' hd h w' hC hD' => h w' hC (hd w' hD')) (by kernel_rfl) (by kernel_rfl) (by kernel_rfl) (.pointer (some ⟨P, 0, none⟩)) (fun b1 b2 w' _ hb' => by go_simp) ?_
          refine wpG_part (fun a D D' hd h w' hC hD' => h w' hC (hd w' hD')) C HCC.out ⟨_, HCF.out false⟩ 6 13 (by kernel_rfl) (by kernel_rfl) (by kernel_rfl) ?_
          simp only [List.take_succ_cons, List.take_zero, List.drop_succ_cons, List.drop_zero]
          repeat (first | go_big_quiet_step (fail) | quiet_step (fail))
          refine wpQuiet_nil ?_
          clear p6 lP hk0 lH hne
          refine wpG_key (fun a D D' hd h w' hC hD' => h w' hC (hd w' hD')) (by kernel_rfl) (by kernel_rfl) (by kernel_rfl) (by kernel_rfl) (by kernel_rfl) (fun u w' => True) (fun u w' w'' _ _ => trivial) (fun w' hw' => ⟨.slice (some ⟨w'.heap.size, 0, none⟩) 1 1, w'.alloc (.cells #[.int .i64 (i : Int)] 3), by go_simp, (HFF.out _ _).2 (((HFF.out _ _).1 hw').alloc ((HFF.out _ _).1 hw').size _), (Below.refl _ _).alloc (Nat.le_refl _) _, (HKM.out _ _).2 ⟨w'.heap.size, rfl, Blk.new _ _ _, ((HFF.out _ _).1 hw').size⟩, trivial⟩) (fun w' h _ => (HFF.out _ _).2 ((HFF.out _ _).1 h)) (fun w' h _ => (HFF.out _ _).2 ((HFF.out _ _).1 h)) ?_
          rintro u ⟨wu, hu1, hu2, _⟩
          obtain ⟨g, rfl, _⟩ := (HKM.out _ _).1 hu2
          obtain ⟨ii, hii, hz0, hz1, hz2⟩ := info_parts info_int12
          refine wpG_turn (fun a D D' hd h w' hC hD' => h w' hC (hd w' hD')) (v0 := .slice (some ⟨g, 0, none⟩) 1 1) (by rfl) ⟨wu, hu1, hu2⟩ (by kernel_rfl) (fun u w' => ∃ g9 cap9, u = .slice (some ⟨g9, 0, none⟩) ((f q).xs.length + 1) cap9 ∧ w'.ownsRow w.heap.size 3 1 (.slice (some ⟨g9, 0, none⟩) ((f q).xs.length + 1) cap9) ((f q).xs.length + 1) ((f q).xs.flatMap en1 ++ [.int .i64 (i : Int)]) ∧ (vk.ownBlock = some g9 ∨ wr.heap.size ≤ g9)) (fun u w' w'' ⟨g9, c9, h1, h2, h3⟩ hb => ⟨g9, c9, h1, own_next h2 hb, h3⟩) (fun w' hw' hk' => ?_) ?_
          · obtain ⟨g', e1, h2, h3⟩ := (HKM.out _ _).1 hk'
            simp only [Value.slice.injEq, Option.some.injEq, Addr.mk.injEq, and_true] at e1
            subst e1
            have hbw := (HFF.out _ _).1 hw'
            have hro := own_next HRQ.out hbw
            rw [← HVK.out] at hro
            refine exec_append_lies (Operand.tmp 42) (Operand.tmp 44) 36 (by rfl) w.heap.size 3 ii _ 1 8 Try.underlying36 hii hz0 hz1 hz2 rfl (by decide) vk (f q).xs.length ((f q).xs.flatMap en1) (by rfl) hro ⟨g, 0, none⟩ 1 1 [.int .i64 (i : Int)] (by rfl) (by rfl) (blk_news h2) (by intro u hu; simp at hu; subst hu; rfl) (by omega) (by unfold maxLen; omega) (by omega) (Nat.le_trans HS.out.t.size hbw.size) ?_
            intro g9 cap9 w'' hO hgr hlie
            have hTo := touch_own hgr
            exact ⟨(HFT.out _ _).2 ((HE.out _ _).2 ((Touch.of_below hbw).then hTo)), (HE.out _ _).2 hTo, g9, cap9, rfl, hO, hlie.imp id (fun e => by rw [e]; exact hbw.size)⟩
          rintro u ⟨wu2, hu5⟩
          obtain ⟨g9, cap9, rfl, _⟩ := hu5
          clear hu1 hu2
          refine wpG_nil ?_
          intro wf hCf hDf
          obtain ⟨_, g8, cap8, e8, hD8, hD9⟩ := hDf
          simp only [Value.slice.injEq, Option.some.injEq, Addr.mk.injEq, and_true, true_and] at e8
          obtain ⟨rfl, rfl⟩ := e8
          have hTf := (HE.out _ _).1 ((HFT.out _ _).1 hCf)
          rw [HVK.out] at hTf hD9
          have hS8 := HS.out.put hqn hTf hD8 hD9
          have hh8 := hTf.blk HS.out.h (fun e => own_notBlk HRQ.out HS.out.h (by decide) e)
          have k8 : wf.cell? ⟨H, q, none⟩ = some vk := by rw [hh8.cell, rngC_at _ hqn, HVK.out]
          have f8 := hh8.free q
          have l8 := hh8.lt
          have HS8 := hid hS8
          have HX8 := hid (show ∀ k, k < n → (if k = q then (⟨some ⟨g9, 0, none⟩, cap9, (f q).xs ++ [(i : Int)]⟩ : IRow) else f k).xs = hitsB Bs k i ++ hitsR k i (b.xs.take (j + 1)) from fun k hk => by
            rw [HTJ.out]
            by_cases e : k = q
            · subst e
              rw [if_pos rfl, hitsR_snoc_eq, ← List.append_assoc, ← HX.out k hk]
            · rw [if_neg e, hitsR_snoc_ne e]
              exact HX.out k hk)
          clear hS8 hh8 hTf hD8 hD9 hCf HE HFF HFT HVB HKM HCC HCF GR HS HX HVK HRQ hlq
          go_wp2_with fail
          go_roundw
          case rel => exact ⟨j + 1, _, by omega, by go_num, HS8, HX8⟩
          case measure => simp [nOf]; omega
        · have hj' : j = b.xs.length := by omega
          subst hj'
          have HX9 := hid (show ∀ k, k < n → (f k).xs = hitsB Bs k (i + 1) from fun k hk => by
            rw [HX.out k hk, List.take_length]
            show _ = hitsB Bs k i ++ hitsR k i ((Bs[i]?).map IRow.xs |>.getD [])
            rw [HBI.out]
            rfl)
          clear hj hjl HX
          go_wp2_with fail
          go_roundw
          case rel => exact ⟨i + 1, f, by omega, by go_num, HS, HX9⟩
          case measure => simp [nOf]; omega
    · have hi' : i = Bs.length := by omega
      subst hi'
      clear hi hlt
      go_wp2_with fail
      go_end0
      exact ⟨rfl, H, f, HS.out, HX.out⟩

end Go.Proofs.Ytemhoaapapeilaa
