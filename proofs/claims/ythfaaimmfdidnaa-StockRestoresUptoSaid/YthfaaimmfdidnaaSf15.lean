/-
  The stock book: fit.
-/
import Derived.Test.YthfaaimmfdidnaaSi15
import Derived.Test.YthfaaimmfdidnaaIn
namespace Go.Proofs.Ythfaaimmfdidnaa
open Go.RowKit Go.WideShapes Go.ChangeShapes Go.ChangeAt Go.Deep
set_option linter.unusedVariables false

def hasI (l : List Ln) (id : Int) : Bool := l.any fun x => x.i == id
def LnOk (ls : List Ln) (k : Nat) : Prop := ∀ x, ls[k]? = some x → 1 ≤ x.q ∧ x.q ≤ 1000000 ∧ hasI (ls.take k) x.i = false
def headF (o : Int) (n : Nat) : Prop := 1 ≤ o ∧ 1 ≤ n ∧ n ≤ 4
def FitOk (o : Int) (ls : List Ln) : Prop := headF o ls.length ∧ ∀ k, LnOk ls k
def knowF (lv : List (Int × Lv)) (ls : List Ln) : Bool := ls.all fun x => (mget lv x.i).isSome
open Classical in
noncomputable def errF (lv : List (Int × Lv)) (gs : List (Int × Gd)) (o : Int) (ls : List Ln) : Int :=
  if FitOk o ls then (if knowF lv ls = true then (if (mget gs o).isSome = true then 71 else 0) else 70) else 2
section
variable {n0 : Nat} {w w' : World} {X BL BG : Nat} {lv : List (Int × Lv)} {gs : List (Int × Gd)} {o : Int} {ls : List Ln}
theorem errF_bad (h : ¬ FitOk o ls) : errF lv gs o ls = 2 := if_neg h
theorem errF_none (h : FitOk o ls) (hk : knowF lv ls = false) : errF lv gs o ls = 70 := by unfold errF; rw [if_pos h, hk]; rfl
theorem errF_there (h : FitOk o ls) (hk : knowF lv ls = true) (ht : (mget gs o).isSome = true) : errF lv gs o ls = 71 := by unfold errF; rw [if_pos h, if_pos hk, if_pos ht]
theorem errF_ok (h : FitOk o ls) (hk : knowF lv ls = true) (ht : (mget gs o).isSome = false) : errF lv gs o ls = 0 := by unfold errF; rw [if_pos h, if_pos hk, ht]; rfl
theorem errF_zero (h : errF lv gs o ls = 0) : FitOk o ls ∧ knowF lv ls = true ∧ mget gs o = none := by
  by_cases h1 : FitOk o ls
  · cases h2 : knowF lv ls with
    | false => rw [errF_none h1 h2] at h; omega
    | true =>
      cases h3 : mget gs o with
      | some d => rw [errF_there h1 h2 (by rw [h3]; rfl)] at h; omega
      | none => exact ⟨h1, rfl, rfl⟩
  · rw [errF_bad h1] at h; omega

set_option maxRecDepth 100000 in
set_option maxHeartbeats 4000000 in
theorem fit1_any (x : Ln) (G : Nat) (id : Int) (w : World) (hG : w.cell? ⟨G, 0, none⟩ = some (.int .i64 id)) (hGl : G < w.heap.size) :
    Calls Try.prog 54 #[.agg #[.int .i64 x.i, .int .i64 x.q], .pointer (some ⟨G, 0, none⟩)] w fun e w' => e = .returned (.bool (x.i == id)) ∧ Below w.heap.size w w' := by
  obtain ⟨xi, xq⟩ := x
  go_enter Try.func54, Try.ntmps54
  go_wp2_with fail
  go_ret
  exact ⟨rfl, (Below.refl _ _).alloc (Nat.le_refl _) _⟩
set_option maxRecDepth 100000 in
set_option maxHeartbeats 4000000 in
theorem fit2_any (h : IsBook n0 w X BL BG lv gs) (x : Ln) (B : Nat) (hB : Blk w B 25 #[.pointer (some ⟨X, 0, none⟩)]) :
    Calls Try.prog 55 #[.agg #[.int .i64 x.i, .int .i64 x.q], .pointer (some ⟨B, 0, none⟩)] w fun e w' => e = .returned (.bool (mget lv x.i).isNone) ∧ Below w.heap.size w w' := by
  obtain ⟨xi, xq⟩ := x
  have hwb : Below w.heap.size w (w.alloc (.cells #[.int .i64 xi, .int .i64 xq] 33)) := (Below.refl _ _).alloc (Nat.le_refl _) _
  have hG0 : Blk (w.alloc (.cells #[.int .i64 xi, .int .i64 xq] 33)) w.heap.size 33 #[.int .i64 xi, .int .i64 xq] := Blk.new _ _ _
  obtain ⟨wz, hwz⟩ : ∃ wz, wz = w.alloc (.cells #[.int .i64 xi, .int .i64 xq] 33) := ⟨_, rfl⟩
  obtain ⟨G, hGG⟩ : ∃ G, G = w.heap.size := ⟨_, rfl⟩
  have HW := hid hwz
  have HGG := hid hGG
  rw [← hwz] at hwb hG0
  rw [← hGG] at hG0
  obtain ⟨C, hCd⟩ : ∃ C : World → Prop, ∀ w', C w' ↔ Below wz.heap.size wz w' := ⟨_, fun _ => Iff.rfl⟩
  have hC : C wz.drew := (hCd _).2 ((Below.refl _ _).drew)
  have hI := fun (p : In C) => h.next (bthen hwb ((hCd _).1 p.h))
  have g0 : ∀ p : In C, p.w.cell? ⟨G, 0, none⟩ = some (.int .i64 xi) := fun p => (hG0.next ((hCd _).1 p.h)).cell 0
  have b0 : ∀ p : In C, p.w.cell? ⟨B, 0, none⟩ = some (.pointer (some ⟨X, 0, none⟩)) := fun p => (hB.next (bthen hwb ((hCd _).1 p.h))).cell 0
  have c0 : ∀ p : In C, p.w.cell? ⟨X, 0, none⟩ = some (.map (some BL)) := fun p => (hI p).cellL
  have l0 : ∀ p : In C, (Instr.lookup 71 (.map (some BL)) (.int .i64 xi) false).run Try.prog p.w = .ok (.pointer (ptrL lv xi)) p.w := fun p => (hI p).lookL xi
  have HCd := hid hCd
  have HWB := hid hwb
  clear hCd hI hG0 hwz hGG hwb h hB
  unfold ptrL at l0
  cases hm : mget lv xi with
  | none =>
    rw [hm] at l0
    simp only [Option.map_none] at l0
    clear hm
    go_enter Try.func55, Try.ntmps55
    go_wp2_with fail
    rw [← HW.out, ← HGG.out]
    refine wp_region_in C (by kernel_rfl) (by kernel_rfl) hC ?_
    intro hne
    clear hC
    repeat (first | go_big_quiet_step (fail) | quiet_step (fail))
    refine wpQuiet_nil ?_
    intro wq hq
    have hb := bthen HWB.out ((HCd.out _).1 hq)
    clear g0 b0 c0 l0 hne hq HCd
    go_wp2_with fail
    go_ret
    exact ⟨rfl, hb⟩
  | some a =>
    rw [hm] at l0
    simp only [Option.map_some] at l0
    clear hm
    go_enter Try.func55, Try.ntmps55
    go_wp2_with fail
    rw [← HW.out, ← HGG.out]
    refine wp_region_in C (by kernel_rfl) (by kernel_rfl) hC ?_
    intro hne
    clear hC
    repeat (first | go_big_quiet_step (fail) | quiet_step (fail))
    refine wpQuiet_nil ?_
    intro wq hq
    have hb := bthen HWB.out ((HCd.out _).1 hq)
    clear g0 b0 c0 l0 hne hq HCd
    go_wp2_with fail
    go_ret
    exact ⟨rfl, hb⟩

set_option maxRecDepth 100000 in
set_option maxHeartbeats 4000000 in
theorem fit_head (o : Int) (A : Option Addr) (cap : Nat) (ls : List Ln) (v : Addr) (hno : ¬ headF o ls.length) :
    Calls Try.prog 25 #[.pointer (some v), .int .i64 o, .slice A ls.length cap] w fun e w' => e = .returned (.int .i64 2) ∧ Below w.heap.size w w' := by
  unfold headF at hno
  rcases (show o < 1 ∨ (1 ≤ o ∧ ls.length = 0) ∨ (1 ≤ o ∧ 4 < ls.length) from by omega) with h1 | ⟨h1, h2⟩ | ⟨h1, h2⟩
  · clear hno
    go_enter Try.func25, Try.ntmps25
    go_wp2_with fail
    go_ret
    exact ⟨rfl, (Below.refl _ _).alloc (Nat.le_refl _) _⟩
  · have b1 : decide (o < 1) = false := decide_eq_false (by omega)
    rw [h2]
    clear hno h1 h2
    go_enter Try.func25, Try.ntmps25
    go_wp2_with fail
    go_ret
    exact ⟨rfl, (Below.refl _ _).alloc (Nat.le_refl _) _⟩
  · have b1 : decide (o < 1) = false := decide_eq_false (by omega)
    have b2 : ((ls.length : Int) == 0) = false := beq_eq_false_iff_ne.2 (by omega)
    have b3 : decide ((4 : Int) < (ls.length : Int)) = true := decide_eq_true (by omega)
    clear hno h1 h2
    go_enter Try.func25, Try.ntmps25
    go_wp2_with fail
    go_ret
    exact ⟨rfl, (Below.refl _ _).alloc (Nat.le_refl _) _⟩

theorem any_know (lv : List (Int × Lv)) (ls : List Ln) : (ls.any fun x => (mget lv x.i).isNone) = !(knowF lv ls) := by
  unfold knowF
  induction ls with
  | nil => rfl
  | cons x l ih => simp only [List.any_cons, List.all_cons, ih]; cases mget lv x.i <;> simp

set_option maxRecDepth 100000 in
set_option maxHeartbeats 16000000 in
theorem fit_body (h : IsBook n0 w X BL BG lv gs) (o : Int) (A : Option Addr) (cap : Nat) (ls : List Ln) (hok : headF o ls.length) (hR : Rd w A (ls.flatMap enL)) (hcap : ls.length ≤ cap) (hcm : cap ≤ maxLen) :
    Calls Try.prog 25 #[.pointer (some ⟨X, 0, none⟩), .int .i64 o, .slice A ls.length cap] w fun e w' => e = .returned (.int .i64 (errF lv gs o ls)) ∧ Below w.heap.size w w' := by
  have hmf : ∀ (fn : Fn) (first cap : Array Value) (w : World), (Instr.makeFunc fn first cap).run Try.prog w = .ok (.func fn first cap) w := fun _ _ _ _ => rfl
  have HK := hid hok
  obtain ⟨h1, h2, h3⟩ := hok
  have b1 : decide (o < 1) = false := decide_eq_false (by omega)
  have b2 : ((ls.length : Int) == 0) = false := beq_eq_false_iff_ne.2 (by omega)
  have b3 : decide ((4 : Int) < (ls.length : Int)) = false := decide_eq_false (by omega)
  unfold maxLen at hcm
  obtain ⟨w1, hw1⟩ : ∃ w1, w1 = w.alloc (.cells #[.pointer (some ⟨X, 0, none⟩)] 25) := ⟨_, rfl⟩
  obtain ⟨B, hBB⟩ : ∃ B, B = w.heap.size := ⟨_, rfl⟩
  have hb1 : Below w.heap.size w w1 := by rw [hw1]; exact (Below.refl _ _).alloc (Nat.le_refl _) _
  have HB := hid (show Blk w1 B 25 #[.pointer (some ⟨X, 0, none⟩)] from by rw [hw1, hBB]; exact Blk.new _ _ _)
  have H0 := hid (h.next hb1)
  have hR1 := hR.below hb1
  have HB1 := hid hb1
  have HW1 := hid hw1
  have HBB := hid hBB
  clear h hR hb1 hw1 hBB h1
  go_enter Try.func25, Try.ntmps25
  go_wp2_with fail
  rw [← HW1.out, ← HBB.out]
  clear b1 b2 b3
  go_loopw [23] (fun i wr => ∃ k : Nat, k ≤ ls.length ∧ i = .int .i64 k ∧ Hid (∀ j, j < k → LnOk ls j) ∧ Below w1.heap.size w1 wr) (fun i _ => ls.length - nOf i)
  case atStart => exact ⟨0, Nat.zero_le _, rfl, hid (fun j hj => by omega), Below.refl _ _⟩
  case round =>
    obtain ⟨k, hk, rfl, hG, hb⟩ := hrel
    by_cases hlt : k < ls.length
    · obtain ⟨x, hx⟩ : ∃ x, ls[k]? = some x := ⟨ls[k], List.getElem?_eq_getElem hlt⟩
      obtain ⟨b, off, hAA, hbs, hcc⟩ := (hR1.below hb).at_ 2 enL_len (by omega) hx
      have HX := hid hx
      have hln : (ls.take k).length = k := by simp; omega
      obtain ⟨xi, xq⟩ := x
      have q0 : wr.cell? ⟨b, off + k * 2, none⟩ = some (.int .i64 xi) := hcc 0 _ rfl
      have q1 : wr.cell? ⟨b, off + k * 2 + 1, none⟩ = some (.int .i64 xq) := hcc 1 _ rfl
      have hwb : Below wr.heap.size wr (wr.alloc (.cells #[.int .i64 xi, .int .i64 xq] 33)) := (Below.refl _ _).alloc (Nat.le_refl _) _
      have hG0 : Blk (wr.alloc (.cells #[.int .i64 xi, .int .i64 xq] 33)) wr.heap.size 33 #[.int .i64 xi, .int .i64 xq] := Blk.new _ _ _
      obtain ⟨wz, hwz⟩ : ∃ wz, wz = wr.alloc (.cells #[.int .i64 xi, .int .i64 xq] 33) := ⟨_, rfl⟩
      obtain ⟨G, hGG⟩ : ∃ G, G = wr.heap.size := ⟨_, rfl⟩
      have HW := hid hwz
      have HGG := hid hGG
      have hbz := bthen hb hwb
      rw [← hwz, ← hGG] at hG0
      rw [← hwz] at hbz
      clear hcc hx hwb hwz hGG hb hbs
      have g1 : wz.cell? ⟨G, 1, none⟩ = some (.int .i64 xq) := hG0.cell 1
      by_cases hq1 : 1 ≤ xq
      · by_cases hq2 : xq ≤ 1000000
        · have K := containsF_any (ls.take k) A cap 54 (.pointer (some ⟨G, 0, none⟩)) (fun x => x.i == xi) wz ((hR1.below hbz).take k) (by omega) (fun _ _ => by go_simp) (fun y _ w' hb' => fit1_any y G xi w' ((hG0.next hb').cell 0) (hG0.next hb').lt)
          rw [hln] at K
          have d1 : decide (xq < 1) = false := decide_eq_false (by omega)
          have d2 : decide (1000000 < xq) = false := decide_eq_false (by omega)
          subst hAA
          cases hh : hasI (ls.take k) xi with
          | true =>
            rw [show ((ls.take k).any fun x => x.i == xi) = true from hh] at K
            have HE := hid (errF_bad (lv := lv) (gs := gs) (show ¬ FitOk o ls from fun hb => by have := (hb.2 k _ HX.out).2.2; rw [hh] at this; cases this))
            replace K := hid K
            have HBZ := hid hbz
            clear hh hln hbz hG0 hR1
            go_wp2_with fail
            rw [← HW.out, ← HGG.out]
            go_wp2_with (first | (go_at_call 26; refine K.out.mono ?_; rintro e w5 ⟨rfl, hb5⟩))
            go_ret
            rw [HE.out]
            exact ⟨rfl, bthen HB1.out (bthen HBZ.out hb5)⟩
          | false =>
            rw [show ((ls.take k).any fun x => x.i == xi) = false from hh] at K
            have HGOOD := hid (show LnOk ls k from fun y hy => by rw [HX.out] at hy; injection hy with hy; subst hy; exact ⟨hq1, hq2, hh⟩)
            replace K := hid K
            have HBZ := hid hbz
            clear hh hln hbz hG0
            go_wp2_with fail
            rw [← HW.out, ← HGG.out]
            go_wp2_with (first | (go_at_call 26; refine K.out.mono ?_; rintro e w5 ⟨rfl, hb5⟩))
            have hbq := bthen HBZ.out hb5
            clear K hb5 g1 q0 q1 d1 d2
            go_roundw
            case rel => exact ⟨k + 1, by omega, by go_num, hid (fun j hj => (Nat.lt_succ_iff_lt_or_eq.1 hj).elim (fun h => hG.out j h) (fun e => by subst e; exact HGOOD.out)), hbq⟩
            case measure => simp [nOf]; omega
        · have d1 : decide (xq < 1) = false := decide_eq_false (by omega)
          have d2 : decide (1000000 < xq) = true := decide_eq_true (by omega)
          have HE := hid (errF_bad (lv := lv) (gs := gs) (show ¬ FitOk o ls from fun hb => hq2 (hb.2 k _ HX.out).2.1))
          have HBZ := hid hbz
          subst hAA
          clear hln hbz hG0 hR1 hq2
          go_wp2_with fail
          rw [← HW.out, ← HGG.out]
          go_wp2_with fail
          go_ret
          rw [HE.out]
          exact ⟨rfl, bthen HB1.out HBZ.out⟩
      · have d1 : decide (xq < 1) = true := decide_eq_true (by omega)
        have HE := hid (errF_bad (lv := lv) (gs := gs) (show ¬ FitOk o ls from fun hb => hq1 (hb.2 k _ HX.out).1))
        have HBZ := hid hbz
        subst hAA
        clear hln hbz hG0 hR1 hq1
        go_wp2_with fail
        rw [← HW.out, ← HGG.out]
        go_wp2_with fail
        go_ret
        rw [HE.out]
        exact ⟨rfl, bthen HB1.out HBZ.out⟩
    · have hk' : k = ls.length := by omega
      subst hk'
      have hOK : FitOk o ls := ⟨HK.out, fun j => by
        by_cases hj : j < ls.length
        · exact hG.out j hj
        · intro p hp
          rw [List.getElem?_eq_none (by omega)] at hp
          cases hp⟩
      have K := containsF_any ls A cap 55 (.pointer (some ⟨B, 0, none⟩)) (fun x => (mget lv x.i).isNone) wr (hR1.below hb) (by omega) (fun _ _ => by go_simp) (fun y _ w' hb' => fit2_any (H0.out.next (bthen hb hb')) y B (HB.out.next (bthen hb hb')))
      rw [any_know] at K
      have HBR := hid hb
      have HOKK := hid hOK
      clear hG hk hlt hb hOK hR1
      cases hkn : knowF lv ls with
      | false =>
        rw [hkn] at K
        have HE := hid (errF_none (gs := gs) HOKK.out hkn)
        replace K := hid K
        clear hkn
        go_wp2_with (first | (go_at_call 26; refine K.out.mono ?_; rintro e w5 ⟨rfl, hb5⟩))
        go_ret
        rw [HE.out]
        exact ⟨rfl, bthen HB1.out (bthen HBR.out hb5)⟩
      | true =>
        rw [hkn] at K
        have HKN := hid hkn
        replace K := hid K
        clear hkn
        cases hm : mget gs o with
        | none =>
          have HE := hid (errF_ok (lv := lv) HOKK.out HKN.out (show (mget gs o).isSome = false from by rw [hm]; rfl))
          have HL := hid (fun (w' : World) (h : IsBook n0 w' X BL BG lv gs) => (show (Instr.lookup 72 (.map (some BG)) (.int .i64 o) false).run Try.prog w' = .ok (.pointer none) w' from by
            have := h.lookG o
            unfold ptrG at this
            rw [hm] at this
            exact this))
          clear hm
          go_wp2_with (first
            | (go_at_call 26; refine K.out.mono ?_; rintro e w5 ⟨rfl, hb5⟩
               have hI := H0.out.next (bthen HBR.out hb5)
               have b0 : w5.cell? ⟨B, 0, none⟩ = some (.pointer (some ⟨X, 0, none⟩)) := (HB.out.next (bthen HBR.out hb5)).cell 0
               have c1 := hI.cellG
               have l2 := HL.out w5 hI
               have HB5 := hid (bthen HB1.out (bthen HBR.out hb5))
               clear hI hb5))
          go_ret
          rw [HE.out]
          exact ⟨rfl, HB5.out⟩
        | some d =>
          have HE := hid (errF_there HOKK.out HKN.out (show (mget gs o).isSome = true from by rw [hm]; rfl))
          have HL := hid (fun (w' : World) (h : IsBook n0 w' X BL BG lv gs) => (show (Instr.lookup 72 (.map (some BG)) (.int .i64 o) false).run Try.prog w' = .ok (.pointer (some ⟨d.g, 0, none⟩)) w' from by
            have := h.lookG o
            unfold ptrG at this
            rw [hm] at this
            exact this))
          clear hm
          go_wp2_with (first
            | (go_at_call 26; refine K.out.mono ?_; rintro e w5 ⟨rfl, hb5⟩
               have hI := H0.out.next (bthen HBR.out hb5)
               have b0 : w5.cell? ⟨B, 0, none⟩ = some (.pointer (some ⟨X, 0, none⟩)) := (HB.out.next (bthen HBR.out hb5)).cell 0
               have c1 := hI.cellG
               have l2 := HL.out w5 hI
               have HB5 := hid (bthen HB1.out (bthen HBR.out hb5))
               clear hI hb5))
          go_ret
          rw [HE.out]
          exact ⟨rfl, HB5.out⟩

theorem fit_any (h : IsBook n0 w X BL BG lv gs) (o : Int) (A : Option Addr) (cap : Nat) (ls : List Ln) (hR : Rd w A (ls.flatMap enL)) (hcap : ls.length ≤ cap) (hcm : cap ≤ maxLen) :
    Calls Try.prog 25 #[.pointer (some ⟨X, 0, none⟩), .int .i64 o, .slice A ls.length cap] w fun e w' => e = .returned (.int .i64 (errF lv gs o ls)) ∧ Below w.heap.size w w' := by
  by_cases hok : headF o ls.length
  · exact fit_body h o A cap ls hok hR hcap hcm
  · rw [errF_bad (lv := lv) (gs := gs) (fun h => hok h.1)]
    exact fit_head o A cap ls _ hok
end

end Go.Proofs.Ythfaaimmfdidnaa
