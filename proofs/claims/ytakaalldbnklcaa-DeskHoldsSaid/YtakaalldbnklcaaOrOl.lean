/-
  The orders' book: lines, May.
-/
import Derived.Test.YtakaalldbnklcaaOrOb
import Derived.Test.YtakaalldbnklcaaBill
namespace Go.Proofs.Ytakaalldbnklcaa.Or
open Go.RowKit Go.WideShapes Go.ChangeShapes Go.ChangeAt Go.Deep
set_option linter.unusedVariables false

def LnOk (ls : List Ln) (k : Nat) : Prop := ∀ x, ls[k]? = some x → 1 ≤ x.q ∧ x.q ≤ 1000000 ∧ hasI (ls.take k) x.i = false
def headOk (id c : Int) (f : ByteArray) (n : Nat) : Prop := 1 ≤ id ∧ id ≤ 256 ∧ 1 ≤ c ∧ c ≤ 64 ∧ isW f = true ∧ 1 ≤ n ∧ n ≤ 4
def OrdOk (id c : Int) (f : ByteArray) (ls : List Ln) : Prop := headOk id c f ls.length ∧ ∀ k, LnOk ls k
def knowB (pr : List (Int × Int)) (ls : List Ln) : Bool := ls.all fun x => (mget pr x.i).isSome
def prL (pr : List (Int × Int)) (ls : List Ln) : List (Int × Int) := ls.map fun x => (x.q, (mget pr x.i).getD 0)
open Classical in
noncomputable def errL (pr : List (Int × Int)) (os : List (Int × Od)) (id c : Int) (f : ByteArray) (ls : List Ln) : Int :=
  if OrdOk id c f ls then (if knowB pr ls = true then (if (mget os id).isSome = true then 71 else 0) else 70) else 2
theorem errL_bad {pr : List (Int × Int)} {os : List (Int × Od)} {id c : Int} {f : ByteArray} {ls : List Ln} (h : ¬ OrdOk id c f ls) : errL pr os id c f ls = 2 := if_neg h
theorem errL_none {pr : List (Int × Int)} {os : List (Int × Od)} {id c : Int} {f : ByteArray} {ls : List Ln} (h : OrdOk id c f ls) (hk : knowB pr ls = false) : errL pr os id c f ls = 70 := by
  unfold errL; rw [if_pos h, hk]; rfl
theorem errL_there {pr : List (Int × Int)} {os : List (Int × Od)} {id c : Int} {f : ByteArray} {ls : List Ln} (h : OrdOk id c f ls) (hk : knowB pr ls = true) (ht : (mget os id).isSome = true) : errL pr os id c f ls = 71 := by
  unfold errL; rw [if_pos h, if_pos hk, if_pos ht]
theorem errL_ok {pr : List (Int × Int)} {os : List (Int × Od)} {id c : Int} {f : ByteArray} {ls : List Ln} (h : OrdOk id c f ls) (hk : knowB pr ls = true) (ht : (mget os id).isSome = false) : errL pr os id c f ls = 0 := by
  unfold errL; rw [if_pos h, if_pos hk, ht]; rfl
theorem errL_zero {pr : List (Int × Int)} {os : List (Int × Od)} {id c : Int} {f : ByteArray} {ls : List Ln} (h : errL pr os id c f ls = 0) : OrdOk id c f ls ∧ knowB pr ls = true ∧ mget os id = none := by
  by_cases h1 : OrdOk id c f ls
  · cases h2 : knowB pr ls with
    | false => rw [errL_none h1 h2] at h; omega
    | true =>
      cases h3 : mget os id with
      | some o => rw [errL_there h1 h2 (by rw [h3]; rfl)] at h; omega
      | none => exact ⟨h1, rfl, rfl⟩
  · rw [errL_bad h1] at h; omega

theorem info_bl : (Try.prog.info? 108).map (fun i => (i.zero, i.size, i.bytes)) = some (some (.agg #[.int .i64 0, .int .i64 0]), 2, 16) := by kernel_rfl

/-- What lines leaves. -/
def LinPost (pr : List (Int × Int)) (os : List (Int × Od)) (id c : Int) (f : ByteArray) (ls : List Ln) (w : World) (e : Ending) (w' : World) : Prop :=
  ∃ (A : Option Addr) (n cap : Nat), e = .returned (.tuple #[.slice A n cap, .int .i64 (errL pr os id c f ls)]) ∧ (errL pr os id c f ls = 0 → n = ls.length ∧ Rd w' A ((prL pr ls).flatMap en2)) ∧ Below w.heap.size w w'

section
variable {n0 : Nat} {w w' : World} {X BP BO : Nat} {pr : List (Int × Int)} {os : List (Int × Od)}

theorem linPost_bad {id c : Int} {f : ByteArray} {ls : List Ln} (hb : Below w.heap.size w w') (h : ¬ OrdOk id c f ls) : LinPost pr os id c f ls w (.returned (.tuple #[.slice none 0 0, .int .i64 2])) w' :=
  ⟨none, 0, 0, by rw [errL_bad h], fun h0 => (by rw [errL_bad h] at h0; omega), hb⟩

theorem linPost_err {id c m : Int} {f : ByteArray} {ls : List Ln} (he : errL pr os id c f ls = m) (hm : m ≠ 0) (hb : Below w.heap.size w w') : LinPost pr os id c f ls w (.returned (.tuple #[.slice none 0 0, .int .i64 m])) w' :=
  ⟨none, 0, 0, by rw [he], fun h0 => absurd (he.symm.trans h0) hm, hb⟩
set_option maxRecDepth 100000 in
set_option maxHeartbeats 8000000 in
theorem lines_head (id c : Int) (f : ByteArray) (A : Option Addr) (cap : Nat) (ls : List Ln) (v : Addr) (hfs : f.size ≤ maxLen) (hno : ¬ headOk id c f ls.length) :
    Calls Try.prog 23 #[.pointer (some v), .int .i64 id, .int .i64 c, .string f, .slice A ls.length cap] w (LinPost pr os id c f ls w) := by
  have HB := hid (show ¬ OrdOk id c f ls from fun h => hno h.1)
  have W := hid (fun w => isWord_any f w hfs)
  unfold headOk at hno
  have hcs : id < 1 ∨ (1 ≤ id ∧ 256 < id) ∨ ((1 ≤ id ∧ id ≤ 256) ∧ c < 1) ∨ ((1 ≤ id ∧ id ≤ 256 ∧ 1 ≤ c) ∧ 64 < c) ∨ ((1 ≤ id ∧ id ≤ 256 ∧ 1 ≤ c ∧ c ≤ 64) ∧ isW f = false) ∨ ((1 ≤ id ∧ id ≤ 256 ∧ 1 ≤ c ∧ c ≤ 64) ∧ isW f = true ∧ ls.length = 0) ∨ ((1 ≤ id ∧ id ≤ 256 ∧ 1 ≤ c ∧ c ≤ 64) ∧ isW f = true ∧ 4 < ls.length) := by
    generalize ls.length = m at hno ⊢
    generalize isW f = b at hno ⊢
    cases b <;> simp only [Bool.false_eq_true, Bool.true_eq_false, and_false, false_and, true_and, and_true, or_false, false_or, not_false_eq_true] at hno ⊢ <;> omega
  clear hno
  rcases hcs with h1 | ⟨h1, h2⟩ | ⟨⟨h1, h2⟩, h3⟩ | ⟨⟨h1, h2, h3⟩, h4⟩ | ⟨⟨h1, h2, h3, h4⟩, h5⟩ | ⟨⟨h1, h2, h3, h4⟩, h5, h6⟩ | ⟨⟨h1, h2, h3, h4⟩, h5, h6⟩
  · go_enter Try.func23, Try.ntmps23
    go_wp2_with fail
    go_ret2
    exact linPost_bad (Below.refl _ _) HB.out
  · go_enter Try.func23, Try.ntmps23
    go_wp2_with fail
    go_ret2
    exact linPost_bad (Below.refl _ _) HB.out
  · go_enter Try.func23, Try.ntmps23
    go_wp2_with fail
    go_ret2
    exact linPost_bad (Below.refl _ _) HB.out
  · go_enter Try.func23, Try.ntmps23
    go_wp2_with fail
    go_ret2
    exact linPost_bad (Below.refl _ _) HB.out
  · rw [h5] at W
    clear h5
    go_enter Try.func23, Try.ntmps23
    go_wp2_with (first | (go_at_call 29; refine (W.out _).mono ?_; rintro e w5 ⟨rfl, rfl⟩))
    go_ret2
    exact linPost_bad (Below.refl _ _) HB.out
  · rw [h5] at W
    clear h5
    have e1 : ((ls.length : Int) == 0) = true := by simp [h6]
    clear h6
    go_enter Try.func23, Try.ntmps23
    go_wp2_with (first | (go_at_call 29; refine (W.out _).mono ?_; rintro e w5 ⟨rfl, rfl⟩))
    go_ret2
    exact linPost_bad (Below.refl _ _) HB.out
  · rw [h5] at W
    clear h5
    have e1 : ((ls.length : Int) == 0) = false := beq_eq_false_iff_ne.2 (by omega)
    have e2 : decide ((4 : Int) < (ls.length : Int)) = true := decide_eq_true (by omega)
    clear h6
    go_enter Try.func23, Try.ntmps23
    go_wp2_with (first | (go_at_call 29; refine (W.out _).mono ?_; rintro e w5 ⟨rfl, rfl⟩))
    go_ret2
    exact linPost_bad (Below.refl _ _) HB.out

theorem knowB_snoc {ls : List Ln} {k : Nat} {x : Ln} (hx : ls[k]? = some x) : knowB pr (ls.take (k + 1)) = (knowB pr (ls.take k) && (mget pr x.i).isSome) := by
  unfold knowB
  rw [List.take_add_one, hx]
  simp [List.all_append]
theorem prL_snoc {ls : List Ln} {k : Nat} {x : Ln} (hx : ls[k]? = some x) : prL pr (ls.take (k + 1)) = prL pr (ls.take k) ++ [(x.q, (mget pr x.i).getD 0)] := by
  unfold prL
  rw [List.take_add_one, hx]
  simp
theorem prL_len (ls : List Ln) : (prL pr ls).length = ls.length := by simp [prL]

set_option maxRecDepth 100000 in
set_option maxHeartbeats 16000000 in
theorem lines_body (h : IsBook n0 w X BP BO pr os) (id c : Int) (f : ByteArray) (A : Option Addr) (cap : Nat) (ls : List Ln) (hfs : f.size ≤ maxLen) (hok : headOk id c f ls.length) (hR : Rd w A (ls.flatMap enL)) (hcap : ls.length ≤ cap) (hcm : cap ≤ maxLen) :
    Calls Try.prog 23 #[.pointer (some ⟨X, 0, none⟩), .int .i64 id, .int .i64 c, .string f, .slice A ls.length cap] w (LinPost pr os id c f ls w) := by
  have HK := hid hok
  obtain ⟨h1, h2, h3, h4, h5, h6, h7⟩ := hok
  have W := hid (fun w => isWord_any f w hfs)
  rw [h5] at W
  obtain ⟨i0, hi, hz0, hz1, hz2⟩ := info_parts info_bl
  have e1 : ((ls.length : Int) == 0) = false := beq_eq_false_iff_ne.2 (by omega)
  have e2 : decide ((4 : Int) < (ls.length : Int)) = false := decide_eq_false (by omega)
  unfold maxLen at hcm
  have H0 := hid h
  clear h5 h
  go_enter Try.func23, Try.ntmps23
  go_wp2_with (first | (go_at_call 29; refine (W.out _).mono ?_; rintro e w5 ⟨rfl, rfl⟩))
  clear W
  go_loopw [12, 13, 55] (fun v kn i wr => ∃ k : Nat, k ≤ ls.length ∧ i = .int .i64 k ∧ kn = .bool (knowB pr (ls.take k)) ∧ Hid (∀ j, j < k → LnOk ls j) ∧ wr.ownsRow w.heap.size 108 2 v k ((prL pr (ls.take k)).flatMap en2) ∧ Below w.heap.size w wr) (fun _ _ i _ => ls.length - nOf i)
  case atStart => exact ⟨0, Nat.zero_le _, rfl, rfl, hid (fun j hj => by omega), World.ownsRow_nil _ _ _ _, Below.refl _ _⟩
  case round =>
    obtain ⟨k, hk, rfl, rfl, hG, hO, hb⟩ := hrel
    by_cases hlt : k < ls.length
    · obtain ⟨x, hx⟩ : ∃ x, ls[k]? = some x := ⟨ls[k], List.getElem?_eq_getElem hlt⟩
      obtain ⟨b, off, hAA, hbs, hcc⟩ := (hR.below hb).at_ 2 enL_len (by omega) hx
      have HX := hid hx
      have HKN := hid (knowB_snoc (pr := pr) hx)
      have HPR := hid (prL_snoc (pr := pr) hx)
      have hln : (ls.take k).length = k := by simp; omega
      obtain ⟨xi, xq⟩ := x
      simp only at HKN HPR
      have q0 : wr.cell? ⟨b, off + k * 2, none⟩ = some (.int .i64 xi) := hcc 0 _ rfl
      have q1 : wr.cell? ⟨b, off + k * 2 + 1, none⟩ = some (.int .i64 xq) := hcc 1 _ rfl
      have hwb : Below wr.heap.size wr (wr.alloc (.cells #[.int .i64 xi, .int .i64 xq] 45)) := (Below.refl _ _).alloc (Nat.le_refl _) _
      have hG0 : Blk (wr.alloc (.cells #[.int .i64 xi, .int .i64 xq] 45)) wr.heap.size 45 #[.int .i64 xi, .int .i64 xq] := Blk.new _ _ _
      have hOz := hO.alloc (.cells #[.int .i64 xi, .int .i64 xq] 45)
      obtain ⟨wz, hwz⟩ : ∃ wz, wz = wr.alloc (.cells #[.int .i64 xi, .int .i64 xq] 45) := ⟨_, rfl⟩
      obtain ⟨G, hGG⟩ : ∃ G, G = wr.heap.size := ⟨_, rfl⟩
      have HW := hid hwz
      have HGG := hid hGG
      have hbz := bthen hb hwb
      rw [← hwz, ← hGG] at hG0
      rw [← hwz] at hbz hOz
      clear hcc hx hwb hwz hGG hb hO
      have g0 : wz.cell? ⟨G, 0, none⟩ = some (.int .i64 xi) := hG0.cell 0
      have g1 : wz.cell? ⟨G, 1, none⟩ = some (.int .i64 xq) := hG0.cell 1
      have lG : G < wz.heap.size := hG0.lt
      by_cases hq1 : 1 ≤ xq
      · by_cases hq2 : xq ≤ 1000000
        · have K := containsI_any (ls.take k) A cap G xi wz ((hR.below hbz).take k) (by omega) g0 lG
          rw [hln] at K
          have b1 : decide (xq < 1) = false := decide_eq_false (by omega)
          have b2 : decide (1000000 < xq) = false := decide_eq_false (by omega)
          subst hAA
          cases hh : hasI (ls.take k) xi with
          | true =>
            rw [hh] at K
            have HBAD := hid (show ¬ OrdOk id c f ls from fun hb => by have := (hb.2 k _ HX.out).2.2; rw [hh] at this; cases this)
            replace K := hid K
            have HB := hid hbz
            clear hh hln hOz hbz hG0 hR hbs
            go_wp2_with fail
            rw [← HW.out, ← HGG.out]
            go_wp2_with (first | (go_at_call 30; refine K.out.mono ?_; rintro e w5 ⟨rfl, hb5⟩))
            go_ret2
            exact linPost_bad (bthen HB.out hb5) HBAD.out
          | false =>
            rw [hh] at K
            have HGOOD := hid (show LnOk ls k from fun y hy => by rw [HX.out] at hy; injection hy with hy; subst hy; exact ⟨hq1, hq2, hh⟩)
            replace K := hid K
            clear hh hln hbs
            go_wp2_with fail
            rw [← HW.out, ← HGG.out]
            go_wp2_with (first | (go_at_call 30; refine K.out.mono ?_; rintro e w5 ⟨rfl, hb5⟩))
            have hOq := hOz.kept (grown_of_below hb5 none) (by cases hv : u12.ownBlock <;> simp)
            have hbq := bthen hbz hb5
            have hGq := hG0.next hb5
            clear K hOz hbz hG0 g0 g1 lG hb5 HW HGG q0 q1
            obtain ⟨C, hCd⟩ : ∃ C : World → Prop, ∀ w', C w' ↔ Below w5.heap.size w5 w' := ⟨_, fun _ => Iff.rfl⟩
            have hC : C w5.drew := (hCd _).2 ((Below.refl _ _).drew)
            have g0 : ∀ p : In C, p.w.cell? ⟨G, 0, none⟩ = some (.int .i64 xi) := fun p => (hGq.next ((hCd _).1 p.h)).cell 0
            have c0 : ∀ p : In C, p.w.cell? ⟨X, 0, none⟩ = some (.map (some BP)) := fun p => (H0.out.next (bthen hbq ((hCd _).1 p.h))).cellP
            have l0 : ∀ p : In C, (Instr.lookup 73 (.map (some BP)) (.int .i64 xi) true).run Try.prog p.w = .ok (.tuple #[.int .i64 ((mget pr xi).getD 0), .bool (mget pr xi).isSome]) p.w := fun p => (H0.out.next (bthen hbq ((hCd _).1 p.h))).lookP xi
            have HCd := hid hCd
            have HQ := hid (And.intro hOq (And.intro hbq hGq))
            clear hCd hOq hbq hGq
            obtain ⟨pv, hpv⟩ : ∃ pv, pv = (mget pr xi).getD 0 := ⟨_, rfl⟩
            obtain ⟨ps, hps⟩ : ∃ ps, ps = (mget pr xi).isSome := ⟨_, rfl⟩
            rw [← hpv, ← hps] at l0
            rw [← hps] at HKN
            rw [← hpv] at HPR
            clear hpv hps
            refine wp_region_in C (by kernel_rfl) (by kernel_rfl) hC ?_
            intro hne
            clear hC
            repeat (first | go_big_quiet_step (fail) | quiet_step (fail))
            refine wpQuiet_nil ?_
            intro wq hq
            have hbq2 := (HCd.out _).1 hq
            clear g0 c0 l0 hne hq HCd
            obtain ⟨hOq, hbq, hGq⟩ := HQ.out
            have hO6 := hOq.kept (grown_of_below hbq2 none) (by cases hv : u12.ownBlock <;> simp)
            have hb6 := bthen hbq hbq2
            have hG6 := hGq.next hbq2
            clear HQ hOq hbq hGq hbq2
            have g1 : wq.cell? ⟨G, 1, none⟩ = some (.int .i64 xq) := hG6.cell 1
            have lG : G < wq.heap.size := hG6.lt
            have HO6 := hid hO6
            have hO3 := hid (hO6.alloc (.cells #[.int .i64 xq, .int .i64 pv] 108))
            have hb3 := hid (hb6.alloc hb6.size (.cells #[.int .i64 xq, .int .i64 pv] 108))
            have hwz := hb6.size
            clear hO6 hb6 hG6
            generalize hkn : knowB pr (ls.take k) = kn at HKN ⊢
            clear hkn
            cases kn
            all_goals
              go_wp2_with (first
                | (at_builtin; refine wpList_push _ rfl _ _ 77 rfl w.heap.size 108 i0 _ 2 16 Try.underlying77 hi hz0 hz1 hz2 rfl (by decide) _ _ _ (by rfl) HO6.out #[.int .i64 xq, .int .i64 pv] wq.heap.size (by simp) (by rfl) (by rfl) (by rfl) (by unfold maxLen; omega) (by omega) hwz ?_; intro v' w3 hO4 hg4))
              have hb4 := hb3.out.grown hg4 (by simp; omega) (fun k hk => (HO6.out.lt k hk).1)
              have hO5 : w3.ownsRow w.heap.size 108 2 v' (k + 1) ((prL pr (ls.take (k + 1))).flatMap en2) := by
                rw [HPR.out, List.flatMap_append]
                simpa [en2] using hO4
              clear hO4 hg4 HO6 hO3 hb3
              go_roundw
              case rel => exact ⟨k + 1, by omega, by go_num, by rw [HKN.out]; simp, hid (fun j hj => (Nat.lt_succ_iff_lt_or_eq.1 hj).elim (fun h => hG.out j h) (fun e => by subst e; exact HGOOD.out)), hO5, hb4⟩
              case measure => simp [nOf]; omega
        · have b1 : decide (xq < 1) = false := decide_eq_false (by omega)
          have b2 : decide (1000000 < xq) = true := decide_eq_true (by omega)
          have HBAD := hid (show ¬ OrdOk id c f ls from fun hb => hq2 (hb.2 k _ HX.out).2.1)
          have HB := hid hbz
          subst hAA
          clear hln hOz hbz hG0 hR hbs hq2
          go_wp2_with fail
          go_ret2
          rw [← HW.out]
          exact linPost_bad HB.out HBAD.out
      · have b1 : decide (xq < 1) = true := decide_eq_true (by omega)
        have HBAD := hid (show ¬ OrdOk id c f ls from fun hb => hq1 (hb.2 k _ HX.out).1)
        have HB := hid hbz
        subst hAA
        clear hln hOz hbz hG0 hR hbs hq1
        go_wp2_with fail
        go_ret2
        rw [← HW.out]
        exact linPost_bad HB.out HBAD.out
    · have hk' : k = ls.length := by omega
      subst hk'
      rw [List.take_length] at hO
      have hOK : OrdOk id c f ls := ⟨HK.out, fun j => by
        by_cases hj : j < ls.length
        · exact hG.out j hj
        · intro p hp
          rw [List.getElem?_eq_none (by omega)] at hp
          cases hp⟩
      have hI := H0.out.next hb
      have cO := hI.cellO
      have lX : X < wr.heap.size := hI.blk.lt
      have l2 := hI.lookO id
      rw [List.take_length]
      obtain ⟨A', cap', rfl, hrd⟩ := own_slice hO
      have HRD := hid (fun wz (hb : Below wr.heap.size wr wz) => hrd.below hb)
      have HB := hid hb
      have hOKK := hid hOK
      clear hO hb hI hk hlt hG hOK hrd
      unfold looked at l2
      cases hm : mget os id with
      | none =>
        rw [hm] at l2
        simp only [Option.isSome_none, zO] at l2
        cases hkn : knowB pr ls with
        | false =>
          have HE := hid (errL_none (os := os) hOKK.out hkn)
          clear hkn hm
          go_wp2_with fail
          go_ret2
          exact linPost_err HE.out (by omega) (HB.out.alloc HB.out.size _)
        | true =>
          have HE := hid (errL_ok (os := os) hOKK.out hkn (by rw [hm]; rfl))
          clear hkn hm
          go_wp2_with fail
          go_ret2
          exact ⟨A', ls.length, cap', by rw [HE.out]; rfl, fun _ => ⟨rfl, HRD.out _ ((Below.refl _ _).alloc (Nat.le_refl _) _)⟩, HB.out.alloc HB.out.size _⟩
      | some o =>
        rw [hm] at l2
        simp only [Option.isSome_some, enO] at l2
        obtain ⟨oi, oc, of, ob, ocp, ols, on, ot⟩ := o
        simp only at l2
        cases hkn : knowB pr ls with
        | false =>
          have HE := hid (errL_none (os := os) hOKK.out hkn)
          clear hkn hm
          go_wp2_with fail
          go_ret2
          exact linPost_err HE.out (by omega) (HB.out.alloc HB.out.size _)
        | true =>
          have HE := hid (errL_there (os := os) hOKK.out hkn (by rw [hm]; rfl))
          clear hkn hm
          go_wp2_with fail
          go_ret2
          exact linPost_err HE.out (by omega) (HB.out.alloc HB.out.size _)

theorem lines_any (h : IsBook n0 w X BP BO pr os) (id c : Int) (f : ByteArray) (A : Option Addr) (cap : Nat) (ls : List Ln) (hfs : f.size ≤ maxLen) (hR : Rd w A (ls.flatMap enL)) (hcap : ls.length ≤ cap) (hcm : cap ≤ maxLen) :
    Calls Try.prog 23 #[.pointer (some ⟨X, 0, none⟩), .int .i64 id, .int .i64 c, .string f, .slice A ls.length cap] w (LinPost pr os id c f ls w) := by
  by_cases hok : headOk id c f ls.length
  · exact lines_body h id c f A cap ls hfs hok hR hcap hcm
  · exact lines_head id c f A cap ls _ hfs hok
end

end Go.Proofs.Ytakaalldbnklcaa.Or
