/-
  PlanTurned: the walk.
-/
import Derived.Test.YtemhoaapapeilaaTu12
namespace Go.Proofs.Ytemhoaapapeilaa
open Go.RowKit Go.MapKept Go.ChangeMaps Go.WideShapes Go.ChangeShapes Go.ChangeAt Go.Deep
set_option linter.unusedVariables false

/-- The steps, turned round. -/
def rotN (l : List Stp) (b : Nat) : List Stp := l.drop b ++ l.take b
theorem rot_len {l : List Stp} {b : Nat} (hb : b ≤ l.length) : (rotN l b).length = l.length := by unfold rotN; rw [List.length_append, List.length_drop, List.length_take]; omega
theorem rot_perm (l : List Stp) (b : Nat) : l.Perm (rotN l b) := by
  have h : l = l.take b ++ l.drop b := (List.take_append_drop b l).symm
  conv => lhs; rw [h]
  exact List.perm_append_comm
theorem rot_at {l : List Stp} {b k : Nat} (hb : b < l.length) (hk : k < l.length) : (rotN l b)[k]? = l[(k + b) % l.length]? := by
  unfold rotN
  by_cases h : k < l.length - b
  · rw [List.getElem?_append_left (by rw [List.length_drop]; exact h), List.getElem?_drop, Nat.mod_eq_of_lt (by omega), Nat.add_comm]
  · rw [List.getElem?_append_right (by rw [List.length_drop]; omega), List.length_drop, List.getElem?_take, if_pos (by omega)]
    have : (k + b) % l.length = k - (l.length - b) := by
      rw [show k + b = (k - (l.length - b)) + l.length from by omega, Nat.add_mod_right, Nat.mod_eq_of_lt (by omega)]
    rw [this]
/-- While the definition is turned round. -/
structure TuS (w0 : World) (G T : Nat) (nm : ByteArray) (A : Option Addr) (n cp : Nat) (TA : Option Addr) (tc : Nat) (Tl : List Stp) (w : World) : Prop where
  d : Blk w G 24 #[.string nm, .slice A n cp]
  t : Blk w T 24 #[.string nm, .slice TA Tl.length tc]
  os : w.ownsRow w0.heap.size 34 9 (.slice TA Tl.length tc) Tl.length (Tl.flatMap enSt)
  ne : G ≠ T
  bel : Below w0.heap.size w0 w
  lo : w0.heap.size ≤ T
section
variable {w0 : World} {G T : Nat} {nm : ByteArray} {A : Option Addr} {n cp : Nat} {TA : Option Addr} {tc : Nat} {Tl : List Stp} {w w' : World}
theorem TuS.next (h : TuS w0 G T nm A n cp TA tc Tl w) (hb : Below w.heap.size w w') : TuS w0 G T nm A n cp TA tc Tl w' := ⟨h.d.next hb, h.t.next hb, own_next h.os hb, h.ne, bthen h.bel hb, h.lo⟩
theorem TuS.grew {g cap : Nat} (h : TuS w0 G T nm A n cp TA tc Tl w) (hg : w.grownBy w' (Value.slice TA Tl.length tc).ownBlock) (t : Stp) (ho : w'.ownsRow w0.heap.size 34 9 (.slice (some ⟨g, 0, none⟩) (Tl.length + 1) cap) (Tl.length + 1) (Tl.flatMap enSt ++ enSt t)) :
    TuS w0 G T nm A n cp (some ⟨g, 0, none⟩) cap (Tl ++ [t]) (w'.setCell ⟨T, 1, none⟩ (.slice (some ⟨g, 0, none⟩) (Tl.length + 1) cap)) := by
  have hT := touch_own hg
  have hd := hT.blk h.d (fun e => own_notBlk h.os h.d (by decide) e)
  have ht := hT.blk h.t (fun e => own_notBlk h.os h.t (by decide) e)
  have hT2 := Touch.setCell w' T 1 (.slice (some ⟨g, 0, none⟩) (Tl.length + 1) cap)
  have hb := h.bel.trans (hT.below h.bel.size (fun k hk => (h.os.lt k hk).1))
  have hl : (Tl ++ [t]).length = Tl.length + 1 := by simp
  refine ⟨hT2.blk hd (fun e => h.ne e), ?_, ?_, h.ne, hb.trans (hT2.below hb.size (fun k hk => by rw [hk]; exact h.lo)), h.lo⟩
  · rw [hl]; exact ht.set_ 1 _
  · have := own_touch ho hT2 (fun g hg e => own_notBlk ho ht (by decide) (by rw [hg, e]))
    rw [List.flatMap_append, hl]
    simpa using this
end

/-- Compile, and what its plan's pairs are. -/
theorem comp_pairs (nm : ByteArray) (l : List Stp) (A : Option Addr) (cp : Nat) (w : World) (hR : Rd w A (l.flatMap enSt)) (hok : ∀ s ∈ l, OkSt w s) (hnm : ∀ s ∈ l, s.name.size ≤ 140737488351232) (hl : l.length ≤ 60) :
    Calls Try.prog 10 #[.agg #[.string nm, .slice A l.length cp]] w fun e w' => ∃ pv c ks, e = .returned (.tuple #[pv, .int .i64 c]) ∧ Below w.heap.size w w' ∧ (c == 0) = decide (checkN l = 0) ∧ (checkN l = 0 → ks.Perm (l.flatMap (keyS spB))) ∧ (checkN l ≠ 0 → ks = []) ∧ ∀ w2, Below w'.heap.size w' w2 → Calls Try.prog 19 #[pv] w2 (PairR ks w2) := by
  refine (compile_any nm l A cp w hR hok (by omega)).mono ?_
  rintro e w1 ⟨hb1, ⟨hc, rfl⟩ | ⟨hc, P, vS, vB, Ls, Bs, rfl, hp, hg⟩⟩
  · refine ⟨_, _, [], rfl, hb1, ?_, fun h => absurd h hc, fun _ => rfl, fun w2 hb2 => pairs_nil w2⟩
    rw [decide_eq_false hc]
    exact beq_eq_false_iff_ne.2 hc
  · obtain ⟨hS, hLl⟩ := made_as (w0 := w) hc hp hg (by omega) (fun s hs => (hok s hs).len) hb1 (Nat.le_refl _)
    have hz := checkN_zero hc
    refine ⟨_, _, keyB spB Ls Bs Ls.length, rfl, hb1, ?_, fun _ => keyB_perm hz.1 hz.2.1 hg, fun h => absurd hc h, fun w2 hb2 => pairs_some (hS.next hb2) (by omega) (fun s hs => ?_)⟩
    · rw [decide_eq_true hc]; rfl
    · obtain ⟨p, hp⟩ := List.mem_iff_getElem?.1 hs
      have hpl : p < (ordN (grf l) l.length).length := by rw [← hg.ls]; exact (List.getElem?_eq_some_iff.1 hp).1
      obtain ⟨s', A', c', g1, g2⟩ := hg.step p _ (List.getElem?_eq_getElem hpl)
      rw [hp] at g2
      injection g2 with g2
      rw [g2]
      exact hnm s' (List.mem_of_getElem? g1)

set_option maxRecDepth 100000 in
set_option maxHeartbeats 64000000 in
theorem planTurned_walk (nm : ByteArray) (l : List Stp) (A : Option Addr) (cp : Nat) (by_ : Int) (w : World) (hR : Rd w A (l.flatMap enSt)) (hok : ∀ s ∈ l, OkSt w s) (hnm : ∀ s ∈ l, s.name.size ≤ 140737488351232) (hby : I64 by_) :
    Calls Try.prog 5 #[.agg #[.string nm, .slice A l.length cp], .int .i64 by_] w (Law w) := by
  have HOK := hid hok
  have HR := hid hR
  have HNM := hid hnm
  clear hok hR hnm
  have hB0 := Blk.new w 24 #[.string nm, .slice A l.length cp]
  have hwa : Below w.heap.size w (w.alloc (.cells #[.string nm, .slice A l.length cp] 24)) := (Below.refl _ _).alloc (Nat.le_refl _) _
  obtain ⟨W, hW⟩ : ∃ W, W = w.alloc (.cells #[.string nm, .slice A l.length cp] 24) := ⟨_, rfl⟩
  obtain ⟨G, hG⟩ : ∃ G, G = w.heap.size := ⟨_, rfl⟩
  rw [← hW] at hB0 hwa
  rw [← hG] at hB0
  have HWG := hid (And.intro hW hG)
  have HB0 := hid (And.intro hB0 hwa)
  have d0 : W.cell? ⟨G, 0, none⟩ = some (.string nm) := hB0.cell 0
  have d1 : W.cell? ⟨G, 1, none⟩ = some (.slice A l.length cp) := hB0.cell 1
  have lG := hB0.lt
  clear hB0 hwa hW hG
  go_enter Try.func5, Try.ntmps5
  go_upto_region 1 with fail
  rw [← HWG.out.1, ← HWG.out.2]
  by_cases hz : l.length = 0
  · have hz' : ((l.length : Int) == 0) = true := by simp [hz]
    clear hz
    go_wp2_with fail
    refine (wakes12 W).mono ?_
    rintro e w2 ⟨rfl, hb⟩
    have HF := hid (bthen HB0.out.2 hb)
    clear hb d0 d1
    go_wp2_with fail
    go_ret
    exact ⟨rfl, HF.out⟩
  have hz' : ((l.length : Int) == 0) = false := beq_eq_false_iff_ne.2 (by omega)
  by_cases h60 : (60 : Int) < l.length
  · go_wp2_with fail
    refine (wakes12 W).mono ?_
    rintro e w2 ⟨rfl, hb⟩
    have HF := hid (bthen HB0.out.2 hb)
    clear hb d0 d1
    go_wp2_with fail
    go_ret
    exact ⟨rfl, HF.out⟩
  have hl : l.length ≤ 60 := by omega
  obtain ⟨b, hb0⟩ : ∃ b : Nat, max 0 by_ % (l.length : Int) = (b : Int) := ⟨(max 0 by_ % (l.length : Int)).toNat, by
    have := Int.emod_nonneg (max 0 by_) (show (l.length : Int) ≠ 0 by omega)
    omega⟩
  have hbl : b < l.length := by
    have := Int.emod_lt_of_pos (max 0 by_) (show (0 : Int) < (l.length : Int) by omega)
    omega
  have HBE := hid hb0
  clear hb0
  go_upto_region 5 with fail
  rw [HBE.out]
  generalize max 0 by_ = m0
  clear HBE
  obtain ⟨n, hn⟩ : ∃ n, n = l.length := ⟨_, rfl⟩
  have HN := hid hn
  rw [← hn] at hl hbl h60 hz hz' d1 HB0 HWG ⊢
  clear hn h60 hz
  have hO0 := Blk.new W 24 #[.string nm, .slice none 0 0]
  have b2 : Below W.heap.size W (W.alloc (.cells #[.string nm, .slice none 0 0] 24)) := (Below.refl _ _).alloc (Nat.le_refl _) _
  obtain ⟨w3, e3⟩ : ∃ w3, w3 = W.alloc (.cells #[.string nm, .slice none 0 0] 24) := ⟨_, rfl⟩
  obtain ⟨T, g3⟩ : ∃ T, T = W.heap.size := ⟨_, rfl⟩
  rw [← e3] at hO0 b2
  rw [← g3] at hO0
  have hS : TuS w G T nm A n cp none 0 ((rotN l b).take 0) w3 := ⟨HB0.out.1.next b2, hO0, World.ownsRow_nil _ _ _ _, (by omega), bthen HB0.out.2 b2, (by rw [g3]; exact HB0.out.2.size)⟩
  have HS := hid hS
  have HE := hid (And.intro e3 g3)
  clear hO0 b2 e3 g3 hS
  go_upto_region 6 with fail
  rw [← HE.out.1, ← HE.out.2]
  clear HE d0 d1 lG
  obtain ⟨i2, hj, hy0, hy1, hy2⟩ := info_parts info_step12
  go_wp2_with fail
  go_loopw [35] (fun i wr => ∃ (k : Nat) (TA : Option Addr) (tc : Nat), k ≤ n ∧ i = .int .i64 k ∧ Hid (TuS w G T nm A n cp TA tc ((rotN l b).take k) wr)) (fun i _ => n - nOf i)
  case atStart => exact ⟨0, none, 0, Nat.zero_le _, rfl, HS⟩
  case round =>
    clear HS
    obtain ⟨k, TA, tc, hk, rfl, HS⟩ := hrel
    by_cases hlt : k < n
    · obtain ⟨r, hr⟩ : ∃ r, r = (k + b) % n := ⟨_, rfl⟩
      have hrn : r < n := by rw [hr]; exact Nat.mod_lt _ (by omega)
      obtain ⟨s, hs⟩ : ∃ s, l[r]? = some s := ⟨l[r]'(by rw [← HN.out]; exact hrn), List.getElem?_eq_getElem _⟩
      have hrs : (rotN l b)[k]? = some s := by rw [rot_at (by rw [← HN.out]; exact hbl) (by rw [← HN.out]; exact hlt), ← HN.out, ← hr]; exact hs
      have HTK := hid (take_succ_of hrs)
      have htl : ((rotN l b).take k).length = k := by rw [List.length_take, rot_len (by rw [← HN.out]; omega), ← HN.out]; omega
      have hri : ((k : Int) + (b : Int)) % (n : Int) = (r : Int) := by rw [hr]; push_cast; rfl
      have HROW := hid (fun w' (hb' : Below wr.heap.size wr w') => (HR.out.below (bthen HS.out.bel hb')).at_ 9 enSt_len (by omega) hs)
      obtain ⟨bb, o, hAA, _, _⟩ := HROW.out wr (Below.refl _ _)
      obtain ⟨xn, xv, xu, xe, xf, xr, xy, xw, xA, xc, xl⟩ := s
      subst hAA
      go_upto_region 9 with fail
      obtain ⟨C, hCd⟩ : ∃ C : World → Prop, ∀ w', C w' ↔ Below wr.heap.size wr w' := ⟨_, fun _ => Iff.rfl⟩
      have hC : C wr.drew := (hCd _).2 (Below.refl _ _).drew
      have hV : ∀ p : In C, ∀ j u, (enSt (⟨xn, xv, xu, xe, xf, xr, xy, xw, xA, xc, xl⟩ : Stp))[j]? = some u → p.w.cell? ⟨bb, o + r * 9 + j, none⟩ = some u := fun p => by
        obtain ⟨b', o', e, _, hc⟩ := HROW.out p.w ((hCd _).1 p.h)
        simp only [Option.some.injEq, Addr.mk.injEq, and_true] at e
        obtain ⟨rfl, rfl⟩ := e
        exact hc
      have v0 : ∀ p : In C, p.w.cell? ⟨bb, o + r * 9, none⟩ = some (.string xn) := fun p => hV p 0 _ rfl
      have v1 : ∀ p : In C, p.w.cell? ⟨bb, o + r * 9 + 1, none⟩ = some (.string xv) := fun p => hV p 1 _ rfl
      have v2 : ∀ p : In C, p.w.cell? ⟨bb, o + r * 9 + 2, none⟩ = some (.string xu) := fun p => hV p 2 _ rfl
      have v3 : ∀ p : In C, p.w.cell? ⟨bb, o + r * 9 + 3, none⟩ = some (.string xe) := fun p => hV p 3 _ rfl
      have v4 : ∀ p : In C, p.w.cell? ⟨bb, o + r * 9 + 4, none⟩ = some (.bool xf) := fun p => hV p 4 _ rfl
      have v5 : ∀ p : In C, p.w.cell? ⟨bb, o + r * 9 + 5, none⟩ = some (.int .i64 xr) := fun p => hV p 5 _ rfl
      have v6 : ∀ p : In C, p.w.cell? ⟨bb, o + r * 9 + 6, none⟩ = some (.int .i64 xy) := fun p => hV p 6 _ rfl
      have v7 : ∀ p : In C, p.w.cell? ⟨bb, o + r * 9 + 7, none⟩ = some (.int .i64 xw) := fun p => hV p 7 _ rfl
      have v8 : ∀ p : In C, p.w.cell? ⟨bb, o + r * 9 + 8, none⟩ = some (.slice xA xl.length xc) := fun p => hV p 8 _ rfl
      have g1 : ∀ p : In C, p.w.cell? ⟨G, 1, none⟩ = some (.slice (some ⟨bb, o, none⟩) n cp) := fun p => (HS.out.next ((hCd _).1 p.h)).d.cell 1
      have lG : ∀ p : In C, G < p.w.heap.size := fun p => (HS.out.next ((hCd _).1 p.h)).d.lt
      have t1 : ∀ p : In C, p.w.cell? ⟨T, 1, none⟩ = some (.slice TA k tc) := fun p => by have := (HS.out.next ((hCd _).1 p.h)).t.cell 1; rw [htl] at this; exact this
      have lT : ∀ p : In C, T < p.w.heap.size := fun p => (HS.out.next ((hCd _).1 p.h)).t.lt
      have HC0 := hid hC
      have HCd := hid hCd
      have HLk := hid htl
      clear hC hCd hV htl hr hs hrs
      have hne : Nonempty (In C) := ⟨⟨_, HC0.out⟩⟩
      refine wp_region_many C (fun _ => none) 12 (by kernel_rfl) (by kernel_rfl) HC0.out ?_
      simp only [List.take_succ_cons, List.take_zero, List.drop_succ_cons, List.drop_zero]
      refine wpM_part (fun a D D' hd h w' hC hD' => h w' hC (hd w' hD')) ⟨_, HC0.out⟩ 11 11 (by kernel_rfl) (by kernel_rfl) (by kernel_rfl) ?_
      simp only [List.take_succ_cons, List.take_zero, List.drop_succ_cons, List.drop_zero]
      repeat (first | go_big_quiet_step (fail) | quiet_step (fail))
      refine wpQuiet_nil ?_
      clear v0 v1 v2 v3 v4 v5 v6 v7 v8 lG g1 t1 lT hne
      refine wpM_many (fun a D D' hd h w' hC hD' => h w' hC (hd w' hD')) rfl (by kernel_rfl) (fun u w' => ∃ g, u = .slice (some ⟨g, 0, none⟩) 1 1 ∧ Blk w' g 34 #[.string xn, .string xv, .string xu, .string xe, .bool xf, .int .i64 xr, .int .i64 xy, .int .i64 xw, .slice xA xl.length xc]) (fun u w1 w2 ⟨g, h1, h2⟩ hb => ⟨g, h1, h2.next hb⟩) (fun w' hw' => ⟨_, _, by go_simp, (HCd.out _).2 (((HCd.out _).1 hw').alloc ((HCd.out _).1 hw').size _), (Below.refl _ _).alloc (Nat.le_refl _) _, ⟨w'.heap.size, rfl, Blk.new _ _ _⟩⟩) ?_
      rintro u ⟨wu, g, rfl, _⟩
      refine wpM_nil ?_
      intro wf hC hD
      obtain ⟨_, g', e2, hBg⟩ := hD
      simp only [Value.slice.injEq, Option.some.injEq, Addr.mk.injEq, and_true] at e2
      subst e2
      have hS5 := HS.out.next ((HCd.out _).1 hC)
      have hbase := hS5.bel.size
      have HS5 := hid hS5
      have hOS := hS5.os
      rw [HLk.out] at hOS
      have hOo := hS5.t
      rw [HLk.out] at hOo
      have HOo := hid hOo
      have HBg := hid hBg
      have HN5 := hid (show (enSt (⟨xn, xv, xu, xe, xf, xr, xy, xw, xA, xc, xl⟩ : Stp) = [.string xn, .string xv, .string xu, .string xe, .bool xf, .int .i64 xr, .int .i64 xy, .int .i64 xw, .slice xA xl.length xc]) from rfl)
      clear hS5 hBg hOo HCd HC0 HROW
      have hOS' := hid hOS
      clear hOS
      go_wp2_with (first
        | (refine wpList_append_lies _ rfl _ _ _ rfl w.heap.size 34 i2 _ 9 120 Try.underlying22 hj hy0 hy1 hy2 rfl (by decide) (.slice TA k tc) k (((rotN l b).take k).flatMap enSt) rfl hOS'.out ⟨g, 0, none⟩ 1 1 [.string xn, .string xv, .string xu, .string xe, .bool xf, .int .i64 xr, .int .i64 xy, .int .i64 xw, .slice xA xl.length xc] rfl rfl (blk_news HBg.out) (by rw [← HN5.out]; exact enSt_one _) (by omega) (by unfold maxLen; omega) (by omega) hbase _ rfl ?_; intro g9 c9 w9 hO9 hg9 hat9 hl9; have hB9 := HOo.out.grown hg9 (fun e => own_notBlk hOS'.out HOo.out (by decide) e.symm); have o1 := hB9.cell 1; have o2 := hB9.free 1; have o3 := hB9.lt))
      have hfin := HS5.out.grew (g := g9) (cap := c9) (w' := w9) (by rw [HLk.out]; exact hg9) (⟨xn, xv, xu, xe, xf, xr, xy, xw, xA, xc, xl⟩ : Stp) (by rw [HLk.out, HN5.out]; exact hO9)
      rw [HLk.out, ← HTK.out] at hfin
      go_roundw
      case rel => exact ⟨k + 1, _, _, by omega, by go_num, hid hfin⟩
      case measure => simp [nOf]; omega
    · have hk' : k = n := by omega
      subst hk'
      have hrl : (rotN l b).length = k := by rw [rot_len (by rw [← HN.out]; omega), ← HN.out]
      rw [List.take_of_length_le (by omega)] at HS
      obtain ⟨l', hl'⟩ : ∃ l', l' = rotN l b := ⟨_, rfl⟩
      have HPM := hid (show l.Perm l' from by rw [hl']; exact rot_perm l b)
      rw [← hl'] at HS hrl
      clear hl' hlt hk
      have HRL := hid hrl
      have g0 : wr.cell? ⟨G, 0, none⟩ = some (.string nm) := HS.out.d.cell 0
      have g1 : wr.cell? ⟨G, 1, none⟩ = some (.slice A k cp) := HS.out.d.cell 1
      have lG := HS.out.d.lt
      have KC := hid (comp_pairs nm l A cp wr (HR.out.below HS.out.bel) (fun s hs => (HOK.out s hs).next HS.out.bel) HNM.out (by rw [← HN.out]; exact hl))
      rw [← HN.out] at KC
      clear hrl
      go_wp2_with fail
      refine KC.out.mono ?_
      rintro e w1 ⟨pv, c1, ks1, rfl, hb1, hc1, hp1, hq1, hk1⟩
      have HS1 := hid (HS.out.next hb1)
      have t0 : w1.cell? ⟨T, 0, none⟩ = some (.string nm) := HS1.out.t.cell 0
      have t1 : w1.cell? ⟨T, 1, none⟩ = some (.slice TA k tc) := by have := HS1.out.t.cell 1; rw [HRL.out] at this; exact this
      have lT := HS1.out.t.lt
      have KC2 := hid (comp_pairs nm l' TA tc w1 (own_rd HS1.out.os) (fun s hs => (HOK.out s (HPM.out.mem_iff.2 hs)).next HS1.out.bel) (fun s hs => HNM.out s (HPM.out.mem_iff.2 hs)) (by rw [HRL.out]; exact hl))
      rw [HRL.out] at KC2
      have H1 := hid (And.intro hc1 (And.intro hp1 hq1))
      have HK1 := hid hk1
      clear g0 g1 lG KC hb1 hc1 hp1 hq1 hk1 HS
      go_wp2_with fail
      refine KC2.out.mono ?_
      rintro e w2 ⟨qv, c2, ks2, rfl, hb2, hc2, hp2, hq2, hk2⟩
      have hcc : (c2 == 0) = (c1 == 0) := by
        rw [hc2, H1.out.1]
        exact decide_eq_decide.2 (check_perm HPM.out).symm
      have HKP := hid (show ks1.Perm ks2 from by
        by_cases hz : checkN l = 0
        · exact (H1.out.2.1 hz).trans ((HPM.out.flatMap_right _).trans (hp2 ((check_perm HPM.out).1 hz)).symm)
        · rw [H1.out.2.2 hz, hq2 (fun h => hz ((check_perm HPM.out).2 h))])
      have HS2 := hid (And.intro (bthen HS1.out.bel hb2) hb2)
      have HK2 := hid hk2
      clear t0 t1 lT KC2 hb2 hc2 hp2 hq2 hk2 H1 HS1
      obtain ⟨z, hz0⟩ : ∃ z, z = (c1 == 0) := ⟨_, rfl⟩
      rw [← hz0] at hcc
      have hz := hz0.symm
      clear hz0
      have tz : (z != z) = false := by cases z <;> rfl
      go_wp2_with fail
      refine (wakes12 w2).mono ?_
      rintro e w3 ⟨rfl, hb3⟩
      have HB3 := hid hb3
      clear hb3
      go_wp2_with fail
      clear hcc hz tz
      refine (HK1.out w3 (bthen HS2.out.2 HB3.out)).mono ?_
      rintro e w4 ⟨M1, rfl, hM1, hb4⟩
      have H4 := hid (And.intro hM1 (bthen HB3.out hb4))
      clear hM1 hb4 HK1
      go_wp2_with fail
      refine (HK2.out w4 H4.out.2).mono ?_
      rintro e w5 ⟨M2, rfl, hM2, hb5⟩
      have H5 := hid (And.intro (H4.out.1.next hb5) (And.intro hM2 (bthen HS2.out.1 (bthen H4.out.2 hb5))))
      clear hM2 hb5 HK2 H4 HB3 HS2
      have hM1 := H5.out.1
      go_wp2_with (first
        | (at_range; refine wpList_range _ rfl _ 30 9 3 rfl Try.underlying30 M1 (cntL ks1) rfl hM1 ?_; intro w6 hI6 hb6 hz6))
      go_frame
      go_loopw [] (fun wq => ∃ lft : List (ByteArray × Int), IsIter wq w5.heap.size M1 kS vN (cntL ks1) lft ∧ Hid (∀ q ∈ lft, q ∈ cntL ks1) ∧ Below w5.heap.size w5 wq) (fun wq => wq.rangeLeft M1 w5.heap.size)
      case atStart => exact ⟨cntL ks1, hI6, hid (fun q hq => hq), hb6⟩
      case round =>
        clear hI6 hb6 hz6 hM1
        obtain ⟨lft, hI, hIn, hb⟩ := hrel
        have HLL := hid hI.left_len
        go_wp2_with (first
          | (at_next; refine wpList_next _ rfl _ rfl w5.heap.size M1 (cntL ks1) lft rfl hI ?_ ?_))
        · intro hl0
          subst hl0
          have hMA := H5.out.1.next hb
          have hMB := H5.out.2.1.next hb
          have HLE := hid (cntL_perm HKP.out).1
          have HF := hid (bthen H5.out.2.2 hb)
          have te : (((cntL ks1).length : Int) == ((cntL ks2).length : Int)) = true := by rw [HLE.out]; simp
          clear hI hIn hb HLL HLE
          go_wp2_with (first
            | (at_len; refine wpList_maplen _ rfl _ 30 3 rfl Try.underlying30 M1 (cntL ks1) rfl hMA ?_)
            | (at_len; refine wpList_maplen _ rfl _ 30 3 rfl Try.underlying30 M2 (cntL ks2) rfl hMB ?_))
          go_ret
          exact ⟨rfl, HF.out⟩
        · intro a c left' w7 hp hI2 hg2 hs2 hen
          simp only [kS, vN] at hen
          have hmem := hIn.out (a, c) (hp.mem_iff.2 (List.mem_cons_self ..))
          have hIn2 := hid (fun q (hq : q ∈ left') => hIn.out q (hp.mem_iff.2 (List.mem_cons_of_mem _ hq)))
          have hb7 := hb.trans (grown_below hg2 hb.size (Nat.le_refl _))
          have HLT := hid (show left'.length < lft.length from by have := hp.length_eq; simp at this; omega)
          have hcv := cntL_mem hmem
          have lk : (Instr.lookup 30 (.map (some M2)) (.string a) false).run Try.prog w7 = .ok (.int .i64 c) w7 := by
            have := (H5.out.2.1.next hb7).look keyStr12 Try.underlying30 (zeroN _) a
            rw [looked_vN, ← (cntL_perm HKP.out).2 a, cntL_getD, ← hcv] at this
            exact this
          have te : (c != c) = false := by simp
          have HLW := hid (And.intro HLL.out hI2.left_len)
          clear hI hIn hb hp hg2 hs2 hmem hcv HLL
          go_wp2_with fail
          go_roundw
          case rel => exact ⟨left', hI2, hIn2, hb7⟩
          case measure => rw [HLW.out.1, HLW.out.2]; exact HLT.out

end Go.Proofs.Ytemhoaapapeilaa
