/-
  Layer 19: Restore (printed by gen_rst19.py).
-/
import Derived.Test.YtdgoifnhlpjnpaaRstP19
import Derived.Test.YtdgoifnhlpjnpaaInTurn
import Derived.Deep.RegionHeld3
import Derived.StillTailTactics
namespace Go.Proofs.Ytdgoifnhlpjnpaa
open Go.RowKit Go.WideShapes Go.ChangeShapes Go.ChangeAt Go.Deep
set_option linter.unusedVariables false

theorem mset_twice {κ ν : Type} [DecidableEq κ] {m : List (κ × ν)} {a : κ} {b c : ν} : mset (mset m a b) a c = mset m a c := by
  have hk : a ∈ (mset m a b).map (·.1) := by
    rw [mset_keys]; split
    · assumption
    · simp
  rw [mset, if_pos hk]
  unfold mset
  split
  · rw [List.map_map]
    refine List.map_congr_left fun p _ => ?_
    simp only [Function.comp]
    split <;> simp_all
  · rename_i hn
    rw [List.map_append]
    congr 1
    · conv => rhs; rw [← List.map_id m]
      refine List.map_congr_left fun p hp => ?_
      have : ¬ p.1 = a := fun e => hn (by rw [← e]; exact List.mem_map_of_mem hp)
      simp [this]
    · simp

theorem money_yes (n : Int) (w : World) (h : moneyOk n) : Calls Try.prog 33 #[.int .i64 n] w fun e w' => e = .returned (.bool true) ∧ w = w' := by
  obtain ⟨h1, h2⟩ := h
  have b1 : decide ((0 : Int) ≤ n) = true := decide_eq_true h1
  have b2 : decide (n ≤ 281474976710656) = true := decide_eq_true h2
  clear h1 h2
  go_enter Try.func33, Try.ntmps33
  go_wp2_with fail
  go_ret
  exact ⟨rfl, rfl⟩
theorem money_no (n : Int) (w : World) (h : ¬ moneyOk n) : Calls Try.prog 33 #[.int .i64 n] w fun e w' => e = .returned (.bool false) ∧ w = w' := by
  unfold moneyOk at h
  by_cases h1 : 0 ≤ n
  · have b1 : decide ((0 : Int) ≤ n) = true := decide_eq_true h1
    have b2 : decide (n ≤ 281474976710656) = false := decide_eq_false (by omega)
    clear h1 h
    go_enter Try.func33, Try.ntmps33
    go_wp2_with fail
    go_ret
    exact ⟨rfl, rfl⟩
  · have b1 : decide ((0 : Int) ≤ n) = false := decide_eq_false h1
    clear h1 h
    go_enter Try.func33, Try.ntmps33
    go_wp2_with fail
    go_ret
    exact ⟨rfl, rfl⟩

/-- The book in Restore, and the order at hand. -/
structure RW (w0 : World) (X BP BO G : Nat) (cs : Array Value) (il : List (Int × Int)) (os : List (Int × Od)) (w : World) : Prop where
  book : IsBook w0.heap.size w X BP BO il os
  blk : Blk w G 35 cs
  bel : Below w0.heap.size w0 w
section
variable {w0 w w' : World} {X BP BO G : Nat} {cs : Array Value} {il : List (Int × Int)} {os os' : List (Int × Od)}
theorem RW.next (h : RW w0 X BP BO G cs il os w) (hb : Below w.heap.size w w') : RW w0 X BP BO G cs il os w' := ⟨h.book.next hb, h.blk.next hb, bthen h.bel hb⟩
theorem RW.step (h : RW w0 X BP BO G cs il os w) (hB : IsBook w0.heap.size w' X BP BO il os') (hT : Touch (Own BP BO) w w') : RW w0 X BP BO G cs il os' w' :=
  ⟨hB, hT.blk h.blk (notOwn h.book h.blk), h.bel.trans (hT.below h.bel.size (fun k hk => h.book.own_low hk))⟩
end

def RestP (il : List (Int × Int)) (ol : List OrdA) (w : World) (e : Ending) (w' : World) : Prop :=
  (GoodR il ol → ∃ X BP BO os, e = .returned (.tuple #[.pointer (some ⟨X, 0, none⟩), .int .i64 0]) ∧ IsBook w.heap.size w' X BP BO il os ∧ OsOk os ∧ os.map toBare = ol.map bareA) ∧ (¬ GoodR il ol → e = .returned (.tuple #[.pointer none, .int .i64 2]))
theorem RestP.bad {il : List (Int × Int)} {ol : List OrdA} {w w' : World} (h : ¬ GoodR il ol) : RestP il ol w (.returned (.tuple #[.pointer none, .int .i64 2])) w' := ⟨fun hh => absurd hh h, fun _ => rfl⟩

set_option maxRecDepth 100000 in
set_option maxHeartbeats 16000000 in
theorem restore_any (il : List (Int × Int)) (A1 : Option Addr) (cp1 : Nat) (ol : List OrdA) (A2 : Option Addr) (cp2 : Nat) (w : World) (hR1 : Rd w A1 (il.flatMap en2)) (hR2 : Rd w A2 (ol.flatMap enA)) (hok : ∀ o ∈ ol, OkA w o) (hb1 : il.length ≤ 140737488351232) (hb2 : ol.length ≤ 140737488351232) :
    Calls Try.prog 20 #[.slice A1 il.length cp1, .slice A2 ol.length cp2] w fun e w' => RestP il ol w e w' ∧ Below w.heap.size w w' := by
  have HOK := hid hok
  clear hok
  go_enter Try.func20, Try.ntmps20
  go_wp2_with fail
  refine (new_any _).mono ?_
  rintro e w1 ⟨X, BP, BO, rfl, h, hb⟩
  go_wp2_with fail
  go_loopw [15] (fun i wr => ∃ k : Nat, k ≤ il.length ∧ i = .int .i64 k ∧ Hid (∀ j, j < k → GoodI il j) ∧ IsBook w.heap.size wr X BP BO (il.take k) [] ∧ Below w.heap.size w wr) (fun i _ => il.length - nOf i)
  case atStart => exact ⟨0, Nat.zero_le _, rfl, hid (fun j hj => by omega), h, hb⟩
  case round =>
    clear h hb
    obtain ⟨k, hk, rfl, hG, h, hb⟩ := hrel
    by_cases hlt : k < il.length
    · obtain ⟨q, hq⟩ : ∃ q, il[k]? = some q := ⟨il[k], List.getElem?_eq_getElem hlt⟩
      obtain ⟨b, off, hAA, hbs, hcc⟩ := (hR1.below hb).at_ 2 en2_len (by omega) hq
      have HQ := hid hq
      obtain ⟨qi, qp⟩ := q
      have q0 : wr.cell? ⟨b, off + k * 2, none⟩ = some (.int .i64 qi) := hcc 0 _ rfl
      have q1 : wr.cell? ⟨b, off + k * 2 + 1, none⟩ = some (.int .i64 qp) := hcc 1 _ rfl
      have hwb : Below wr.heap.size wr (wr.alloc (.cells #[.int .i64 qi, .int .i64 qp] 44)) := (Below.refl _ _).alloc (Nat.le_refl _) _
      have hG0 : Blk (wr.alloc (.cells #[.int .i64 qi, .int .i64 qp] 44)) wr.heap.size 44 #[.int .i64 qi, .int .i64 qp] := Blk.new _ _ _
      obtain ⟨wz, hwz⟩ : ∃ wz, wz = wr.alloc (.cells #[.int .i64 qi, .int .i64 qp] 44) := ⟨_, rfl⟩
      obtain ⟨G, hGG⟩ : ∃ G, G = wr.heap.size := ⟨_, rfl⟩
      have HW := hid hwz
      have HGG := hid hGG
      have hz := h.next hwb
      have hbz := bthen hb hwb
      rw [← hwz, ← hGG] at hG0
      rw [← hwz] at hz hbz
      have HH := hid (fun (w' : World) (hb' : Below wz.heap.size wz w') => And.intro (hz.next hb') (bthen hbz hb'))
      have HPV := hid (fun (p : Int × Int) (hp : il[k - 1]? = some p) (w' : World) (hb' : Below wz.heap.size wz w') => (show w'.cell? ⟨b, off + (k - 1) * 2, none⟩ = some (.int .i64 p.1) from by
        obtain ⟨b', off', e, _, hc⟩ := (hR1.below (bthen hbz hb')).at_ 2 en2_len (by omega) hp
        rw [hAA] at e
        simp only [Option.some.injEq, Addr.mk.injEq, and_true] at e
        obtain ⟨rfl, rfl⟩ := e
        exact hc 0 _ rfl))
      obtain ⟨C, hCd⟩ : ∃ C : World → Prop, ∀ w', C w' ↔ Below wz.heap.size wz w' := ⟨_, fun _ => Iff.rfl⟩
      have hC : C wz.drew := (hCd _).2 ((Below.refl _ _).drew)
      have g0 : ∀ p : In C, p.w.cell? ⟨G, 0, none⟩ = some (.int .i64 qi) := fun p => (hG0.next ((hCd _).1 p.h)).cell 0
      have g1 : ∀ p : In C, p.w.cell? ⟨G, 1, none⟩ = some (.int .i64 qp) := fun p => (hG0.next ((hCd _).1 p.h)).cell 1
      have HCd := hid hCd
      clear hcc hq hwb hwz hGG h hb hz hbz hG0 hbs hCd
      subst hAA
      by_cases hk0 : 0 < k
      · obtain ⟨p, hp⟩ : ∃ p, il[k - 1]? = some p := ⟨il[k - 1], List.getElem?_eq_getElem (by omega)⟩
        have HP := hid hp
        obtain ⟨pi, pp⟩ := p
        have r0 : ∀ p : In C, p.w.cell? ⟨b, off + (k - 1) * 2, none⟩ = some (.int .i64 pi) := fun p => HPV.out _ hp _ ((HCd.out _).1 p.h)
        have b0 : decide ((0 : Int) < (k : Int)) = true := decide_eq_true (by omega)
        have hkw : IntKind.i64.wrap ((k : Int) - 1) = ((k - 1 : Nat) : Int) := by rw [IntWalk.i64_in _ ⟨by omega, by omega⟩]; omega
        have hkl : k - 1 < il.length := by omega
        clear hp
        by_cases hri : pi < qi
        · have t5 : decide (qi ≤ pi) = false := decide_eq_false (by omega)
          have HRI := hid (show ∀ p : Int × Int, 0 < k → il[k - 1]? = some p → p.1 < qi from fun p _ hp => by rw [HP.out] at hp; injection hp with hp; subst hp; exact hri)
          clear hri
          by_cases hok : itemOk qi qp
          · have K := hid (fun (w' : World) (hb' : Below wz.heap.size wz w') => item_yes (HH.out _ hb').1 qi qp hok)
            rw [mset_items hG.out HQ.out (HRI.out)] at K
            have HGOOD := hid (show GoodI il k from fun q hq => by
              rw [HQ.out] at hq; injection hq with hq; subst hq
              exact ⟨hok, HRI.out⟩)
            clear hok
            go_wp2_with fail
            rw [← HW.out, ← HGG.out]
            refine wp_region_in_tail C 19 (by kernel_rfl) (by kernel_rfl) hC ?_
            intro hne
            clear hC
            refine wpIn_quiet ?_
            simp only [List.take_succ_cons, List.take_zero, List.drop_succ_cons, List.drop_zero]
            repeat (first | go_big_quiet_step (fail) | quiet_step (fail))
            refine wpQuiet_nil ?_
            intro wp hwp
            have hbp := (HCd.out _).1 hwp
            clear g0 g1 hne hwp HCd q0 q1
            go_wp2_with fail
            refine (K.out _ hbp).mono ?_
            rintro e w6 ⟨rfl, h6, hT6⟩
            obtain ⟨hz, hbz⟩ := HH.out _ hbp
            have hb6 := hbz.trans (hT6.below hbz.size (fun k hk => hz.own_low hk))
            clear K HH hT6 hz hbz hbp
            go_wp2_with fail
            go_roundw
            case rel => exact ⟨k + 1, by omega, by go_num, hid (good_next hG.out HGOOD.out), h6, hb6⟩
            case measure => simp [nOf]; omega
          · have K := hid (fun (w' : World) (hb' : Below wz.heap.size wz w') => item_no (HH.out _ hb').1 qi qp hok)
            have HBAD := hid (show ¬ GoodR il ol from fun hh => hok (hh.1 k _ HQ.out).1)
            clear hok
            go_wp2_with fail
            rw [← HW.out, ← HGG.out]
            refine wp_region_in_tail C 19 (by kernel_rfl) (by kernel_rfl) hC ?_
            intro hne
            clear hC
            refine wpIn_quiet ?_
            simp only [List.take_succ_cons, List.take_zero, List.drop_succ_cons, List.drop_zero]
            repeat (first | go_big_quiet_step (fail) | quiet_step (fail))
            refine wpQuiet_nil ?_
            intro wp hwp
            have hbp := (HCd.out _).1 hwp
            clear g0 g1 hne hwp HCd q0 q1
            go_wp2_with fail
            refine (K.out _ hbp).mono ?_
            rintro e w6 ⟨rfl, rfl⟩
            have HB := hid (HH.out _ hbp).2
            clear hbp
            go_wp2_with fail
            go_ret2
            exact ⟨.bad HBAD.out, HB.out⟩
        · have t5 : decide (qi ≤ pi) = true := decide_eq_true (by omega)
          have HBAD := hid (show ¬ GoodR il ol from fun hh => hri ((hh.1 k _ HQ.out).2 _ hk0 HP.out))
          clear hri
          go_wp2_with fail
          rw [← HW.out, ← HGG.out]
          refine wp_region_in C (by kernel_rfl) (by kernel_rfl) hC ?_
          intro hne
          clear hC
          repeat (first | go_big_quiet_step (fail) | quiet_step (fail))
          refine wpQuiet_nil ?_
          intro wq hq
          have hbq := (HCd.out _).1 hq
          clear g0 g1 hne hq HCd q0 q1
          go_wp2_with fail
          go_ret2
          exact ⟨.bad HBAD.out, (HH.out _ hbq).2⟩
      · have b0 : decide ((0 : Int) < (k : Int)) = false := decide_eq_false (by omega)
        have b0' : decide (0 < k) = false := decide_eq_false hk0
        by_cases hok : itemOk qi qp
        · have K := hid (fun (w' : World) (hb' : Below wz.heap.size wz w') => item_yes (HH.out _ hb').1 qi qp hok)
          rw [mset_items hG.out HQ.out ((fun p h0 _ => absurd h0 hk0))] at K
          have HGOOD := hid (show GoodI il k from fun q hq => by
            rw [HQ.out] at hq; injection hq with hq; subst hq
            exact ⟨hok, (fun p h0 _ => absurd h0 hk0)⟩)
          clear hok
          go_wp2_with fail
          rw [← HW.out, ← HGG.out]
          refine wp_region_in_tail C 19 (by kernel_rfl) (by kernel_rfl) hC ?_
          intro hne
          clear hC
          refine wpIn_quiet ?_
          simp only [List.take_succ_cons, List.take_zero, List.drop_succ_cons, List.drop_zero]
          repeat (first | go_big_quiet_step (fail) | quiet_step (fail))
          refine wpQuiet_nil ?_
          intro wp hwp
          have hbp := (HCd.out _).1 hwp
          clear g0 g1 hne hwp HCd q0 q1
          go_wp2_with fail
          refine (K.out _ hbp).mono ?_
          rintro e w6 ⟨rfl, h6, hT6⟩
          obtain ⟨hz, hbz⟩ := HH.out _ hbp
          have hb6 := hbz.trans (hT6.below hbz.size (fun k hk => hz.own_low hk))
          clear K HH hT6 hz hbz hbp
          go_wp2_with fail
          go_roundw
          case rel => exact ⟨k + 1, by omega, by go_num, hid (good_next hG.out HGOOD.out), h6, hb6⟩
          case measure => simp [nOf]; omega
        · have K := hid (fun (w' : World) (hb' : Below wz.heap.size wz w') => item_no (HH.out _ hb').1 qi qp hok)
          have HBAD := hid (show ¬ GoodR il ol from fun hh => hok (hh.1 k _ HQ.out).1)
          clear hok
          go_wp2_with fail
          rw [← HW.out, ← HGG.out]
          refine wp_region_in_tail C 19 (by kernel_rfl) (by kernel_rfl) hC ?_
          intro hne
          clear hC
          refine wpIn_quiet ?_
          simp only [List.take_succ_cons, List.take_zero, List.drop_succ_cons, List.drop_zero]
          repeat (first | go_big_quiet_step (fail) | quiet_step (fail))
          refine wpQuiet_nil ?_
          intro wp hwp
          have hbp := (HCd.out _).1 hwp
          clear g0 g1 hne hwp HCd q0 q1
          go_wp2_with fail
          refine (K.out _ hbp).mono ?_
          rintro e w6 ⟨rfl, rfl⟩
          have HB := hid (HH.out _ hbp).2
          clear hbp
          go_wp2_with fail
          go_ret2
          exact ⟨.bad HBAD.out, HB.out⟩
    · have hk' : k = il.length := by omega
      subst hk'
      rw [List.take_length] at h
      clear hk hlt
      go_wp2_with fail
      go_loopw [45] (fun i wr => ∃ (k : Nat) (os : List (Int × Od)), k ≤ ol.length ∧ i = .int .i64 k ∧ Hid ((∀ j, j < k → GoodO il ol j) ∧ OsOk os ∧ os.map toBare = (ol.take k).map bareA) ∧ IsBook w.heap.size wr X BP BO il os ∧ Below w.heap.size w wr) (fun i _ => ol.length - nOf i)
      case atStart => exact ⟨0, [], Nat.zero_le _, rfl, hid ⟨fun j hj => by omega, (fun p hp => by cases hp), rfl⟩, h, hb⟩
      case round =>
        clear h hb
        obtain ⟨k, os, hk, rfl, hO, h, hb⟩ := hrel
        by_cases hlt : k < ol.length
        · obtain ⟨o, ho⟩ : ∃ o, ol[k]? = some o := ⟨ol[k], List.getElem?_eq_getElem hlt⟩
          have HX := hid (HOK.out o (List.mem_of_getElem? ho))
          obtain ⟨b, off, hAA, hbs, hcc⟩ := (hR2.below hb).at_ 6 enA_len (by omega) ho
          have HO := hid ho
          obtain ⟨oi, oc, of, oA, ocp, ols, on, ot⟩ := o
          have q0 : wr.cell? ⟨b, off + k * 6, none⟩ = some (.int .i64 oi) := hcc 0 _ rfl
          have q1 : wr.cell? ⟨b, off + k * 6 + 1, none⟩ = some (.int .i64 oc) := hcc 1 _ rfl
          have q2 : wr.cell? ⟨b, off + k * 6 + 2, none⟩ = some (.string of) := hcc 2 _ rfl
          have q3 : wr.cell? ⟨b, off + k * 6 + 3, none⟩ = some (.slice oA ols.length ocp) := hcc 3 _ rfl
          have q4 : wr.cell? ⟨b, off + k * 6 + 4, none⟩ = some (.int .i64 on) := hcc 4 _ rfl
          have q5 : wr.cell? ⟨b, off + k * 6 + 5, none⟩ = some (.int .i64 ot) := hcc 5 _ rfl
          have hwb : Below wr.heap.size wr (wr.alloc (.cells #[.int .i64 oi, .int .i64 oc, .string of, .slice oA ols.length ocp, .int .i64 on, .int .i64 ot] 35)) := (Below.refl _ _).alloc (Nat.le_refl _) _
          have hP0 : RW w X BP BO wr.heap.size #[.int .i64 oi, .int .i64 oc, .string of, .slice oA ols.length ocp, .int .i64 on, .int .i64 ot] il os (wr.alloc (.cells #[.int .i64 oi, .int .i64 oc, .string of, .slice oA ols.length ocp, .int .i64 on, .int .i64 ot] 35)) := ⟨h.next hwb, Blk.new _ _ _, bthen hb hwb⟩
          obtain ⟨wz, hwz⟩ : ∃ wz, wz = wr.alloc (.cells #[.int .i64 oi, .int .i64 oc, .string of, .slice oA ols.length ocp, .int .i64 on, .int .i64 ot] 35) := ⟨_, rfl⟩
          obtain ⟨G, hGG⟩ : ∃ G, G = wr.heap.size := ⟨_, rfl⟩
          have HW := hid hwz
          have HGG := hid hGG
          rw [← hwz, ← hGG] at hP0
          have HPV := hid (fun (p : OrdA) (hp : ol[k - 1]? = some p) (w' : World) (hb' : Below w.heap.size w w') => (show w'.cell? ⟨b, off + (k - 1) * 6, none⟩ = some (.int .i64 p.i) from by
            obtain ⟨b', off', e, _, hc⟩ := (hR2.below hb').at_ 6 enA_len (by omega) hp
            rw [hAA] at e
            simp only [Option.some.injEq, Addr.mk.injEq, and_true] at e
            obtain ⟨rfl, rfl⟩ := e
            exact hc 0 _ rfl))
          have hP : RW w X BP BO G #[.int .i64 oi, .int .i64 oc, .string of, .slice oA ols.length ocp, .int .i64 on, .int .i64 ot] il os wz.drew := hP0.next (below_drewN (Below.refl _ _) 1)
          have HPR0 := hid (show PrOk il from by have := goodI_ok hG.out; rwa [List.take_length] at this)
          clear hcc ho hwb hwz hGG h hb hP0 hbs
          subst hAA
          by_cases hk0 : 0 < k
          · obtain ⟨p, hp⟩ : ∃ p, ol[k - 1]? = some p := ⟨ol[k - 1], List.getElem?_eq_getElem (by omega)⟩
            have HP := hid hp
            obtain ⟨pi, pc, pf, pA, pcp, pls, pn, pt⟩ := p
            have HPR := hid (fun w' (hb' : Below w.heap.size w w') => (show w'.cell? ⟨b, off + (k - 1) * 6, none⟩ = some (.int .i64 pi) from HPV.out _ hp w' hb'))
            have b0 : decide ((0 : Int) < (k : Int)) = true := decide_eq_true (by omega)
            have hkw : IntKind.i64.wrap ((k : Int) - 1) = ((k - 1 : Nat) : Int) := by rw [IntWalk.i64_in _ ⟨by omega, by omega⟩]; omega
            have hkl : k - 1 < ol.length := by omega
            clear hp
            by_cases hri : pi < oi
            · have t5 : decide (oi ≤ pi) = false := decide_eq_false (by omega)
              have HRI := hid (show ∀ p : OrdA, 0 < k → ol[k - 1]? = some p → p.i < oi from fun p _ hp => by rw [HP.out] at hp; injection hp with hp; subst hp; exact hri)
              clear hri
              have HNONE := hid (show mget os oi = none from none_of_below (fun y hy => by
                rw [keysA_of hO.out.2.2] at hy
                obtain ⟨o', ho', rfl⟩ := List.mem_map.1 hy
                exact belowO_take hO.out.1 HO.out (HRI.out) o' ho'))
              by_cases hz : errL il os oi oc of ols = 0
              · have KA : Hid (∀ w', RW w X BP BO G #[.int .i64 oi, .int .i64 oc, .string of, .slice oA ols.length ocp, .int .i64 on, .int .i64 ot] il os w' → Calls Try.prog 14 #[.pointer (some ⟨X, 0, none⟩), .int .i64 oi, .int .i64 oc, .string of, .slice oA ols.length ocp] w' fun e w'' => e = .returned (.int .i64 0) ∧ ∃ oo, RW w X BP BO G #[.int .i64 oi, .int .i64 oc, .string of, .slice oA ols.length ocp, .int .i64 on, .int .i64 ot] il (mset os oi oo) w'') := hid (fun w' h => (add_new h.book HPR0.out oi oc of oA ocp ols HX.out.flow (HX.out.rd.below h.bel) HX.out.room HX.out.cap h.bel.size hz).mono fun e w'' ⟨oo, h1, h2, _, _, h4⟩ => ⟨h1, oo, h.step h2 h4⟩)
                by_cases hn : moneyOk on
                · by_cases ht : moneyOk ot
                  · have M1 := hid (fun w => money_yes on w hn)
                    have M2 := hid (fun w => money_yes ot w ht)
                    have HGOOD := hid (show GoodO il ol k from fun q hq => by
                      rw [HO.out] at hq; injection hq with hq; subst hq
                      exact ⟨HRI.out, (errL_zero hz).1, (errL_zero hz).2.1, hn, ht⟩)
                    have HOK2 := hid (errL_zero hz).1
                    clear hn ht hz
                    obtain ⟨CB, hCB0, hCB1⟩ : ∃ CB : Bool → World → Prop, (∀ w', CB false w' ↔ RW w X BP BO G #[.int .i64 oi, .int .i64 oc, .string of, .slice oA ols.length ocp, .int .i64 on, .int .i64 ot] il os w') ∧ (∀ w', CB true w' ↔ ∃ oo, RW w X BP BO G #[.int .i64 oi, .int .i64 oc, .string of, .slice oA ols.length ocp, .int .i64 on, .int .i64 ot] il (mset os oi oo) w') := ⟨fun b w' => match b with | false => RW w X BP BO G #[.int .i64 oi, .int .i64 oc, .string of, .slice oA ols.length ocp, .int .i64 on, .int .i64 ot] il os w' | true => ∃ oo, RW w X BP BO G #[.int .i64 oi, .int .i64 oc, .string of, .slice oA ols.length ocp, .int .i64 on, .int .i64 ot] il (mset os oi oo) w', fun _ => Iff.rfl, fun _ => Iff.rfl⟩
                    have hRW : ∀ w', (∃ b, CB b w') → Blk w' G 35 #[.int .i64 oi, .int .i64 oc, .string of, .slice oA ols.length ocp, .int .i64 on, .int .i64 ot] ∧ Below w.heap.size w w' := fun w' hb => by
                      obtain ⟨bb, hb⟩ := hb
                      cases bb with
                      | false => exact ⟨((hCB0 _).1 hb).blk, ((hCB0 _).1 hb).bel⟩
                      | true => obtain ⟨oo, h⟩ := (hCB1 _).1 hb; exact ⟨h.blk, h.bel⟩
                    obtain ⟨C, hCd⟩ : ∃ C : World → Prop, ∀ w', C w' ↔ ∃ b, CB b w' := ⟨_, fun _ => Iff.rfl⟩
                    have HCC := hid (fun b w' (h : CB b w') => (hCd w').2 ⟨b, h⟩)
                    have hC : CB false wz.drew := (hCB0 _).2 hP
                    have g0 : ∀ p : In C, p.w.cell? ⟨G, 0, none⟩ = some (.int .i64 oi) := fun p => (hRW _ ((hCd _).1 p.h)).1.cell 0
                    have g1 : ∀ p : In C, p.w.cell? ⟨G, 1, none⟩ = some (.int .i64 oc) := fun p => (hRW _ ((hCd _).1 p.h)).1.cell 1
                    have g2 : ∀ p : In C, p.w.cell? ⟨G, 2, none⟩ = some (.string of) := fun p => (hRW _ ((hCd _).1 p.h)).1.cell 2
                    have g3 : ∀ p : In C, p.w.cell? ⟨G, 3, none⟩ = some (.slice oA ols.length ocp) := fun p => (hRW _ ((hCd _).1 p.h)).1.cell 3
                    have g4 : ∀ p : In C, p.w.cell? ⟨G, 4, none⟩ = some (.int .i64 on) := fun p => (hRW _ ((hCd _).1 p.h)).1.cell 4
                    have g5 : ∀ p : In C, p.w.cell? ⟨G, 5, none⟩ = some (.int .i64 ot) := fun p => (hRW _ ((hCd _).1 p.h)).1.cell 5
                    have r0 : ∀ p : In C, p.w.cell? ⟨b, off + (k - 1) * 6, none⟩ = some (.int .i64 pi) := fun p => HPR.out _ (hRW _ ((hCd _).1 p.h)).2
                    have KT : Hid (∀ wp, CB false wp → Calls Try.prog 14 #[.pointer (some ⟨X, 0, none⟩), .int .i64 oi, .int .i64 oc, .string of, .slice oA ols.length ocp] wp fun e w' => e = .returned (.int .i64 0) ∧ CB true w') := hid (fun wp h => (KA.out wp ((hCB0 _).1 h)).mono fun e w' ⟨h1, h2⟩ => ⟨h1, (hCB1 _).2 h2⟩)
                    clear KA
                    have HC1 := hid hCB1
                    clear hCB0 hCB1 hRW hP hCd
                    have M1c : Hid (∀ bb wp, CB bb wp → Calls Try.prog 33 #[.int .i64 on] wp fun e w' => e = .returned (.bool true) ∧ CB bb w') := hid (fun bb wp h => (M1.out wp).mono fun e w' ⟨h1, h2⟩ => ⟨h1, h2 ▸ h⟩)
                    have M2c : Hid (∀ bb wp, CB bb wp → Calls Try.prog 33 #[.int .i64 ot] wp fun e w' => e = .returned (.bool true) ∧ CB bb w') := hid (fun bb wp h => (M2.out wp).mono fun e w' ⟨h1, h2⟩ => ⟨h1, h2 ▸ h⟩)
                    go_wp2_with fail
                    rw [← HW.out, ← HGG.out]
                    refine wp_region_turn CB 23 39 (by decide) (by kernel_rfl) (by kernel_rfl) hC ?_
                    have hne : Nonempty (In C) := ⟨⟨wz.drew, HCC.out _ _ hC⟩⟩
                    clear hC
                    refine wpT_part C HCC.out 23 23 (by kernel_rfl) (by kernel_rfl) (by decide) ?_
                    simp only [List.take_succ_cons, List.take_zero, List.drop_succ_cons, List.drop_zero]
                    repeat (first | go_big_quiet_step (fail) | quiet_step (fail))
                    refine wpQuiet_nil ?_
                    refine wpT_turn (.int .i64 0) (by kernel_rfl) (fun wp hwp => ?_) ?_
                    · have K := KT.out wp hwp
                      clear KT
                      go_simp
                      exact K
                    refine wpT_part C HCC.out 6 30 (by kernel_rfl) (by kernel_rfl) (by decide) ?_
                    simp only [List.take_succ_cons, List.take_zero, List.drop_succ_cons, List.drop_zero]
                    repeat (first | go_big_quiet_step (fail) | quiet_step (fail))
                    refine wpQuiet_nil ?_
                    refine wpT_call (by rfl) (.bool true) (by kernel_rfl) (fun bb wp hwp => ?_) ?_
                    · have K := M1c.out bb wp hwp
                      clear M1c M2c
                      go_simp
                      exact K
                    refine wpT_part C HCC.out 6 37 (by kernel_rfl) (by kernel_rfl) (by decide) ?_
                    simp only [List.take_succ_cons, List.take_zero, List.drop_succ_cons, List.drop_zero]
                    repeat (first | go_big_quiet_step (fail) | quiet_step (fail))
                    refine wpQuiet_nil ?_
                    refine wpT_call (by rfl) (.bool true) (by kernel_rfl) (fun bb wp hwp => ?_) ?_
                    · have K := M2c.out bb wp hwp
                      clear M1c M2c
                      go_simp
                      exact K
                    refine wpT_part C HCC.out 1 39 (by kernel_rfl) (by kernel_rfl) (by decide) ?_
                    simp only [List.take_succ_cons, List.take_zero, List.drop_succ_cons, List.drop_zero]
                    repeat (first | go_big_quiet_step (fail) | quiet_step (fail))
                    refine wpQuiet_nil ?_
                    refine wpT_nil ?_
                    intro wq hq
                    have hP7 := (HC1.out _).1 hq
                    clear g0 g1 g2 g3 g4 g5 hne hq HC1 HCC KT M1c M2c q0 q1 q2 q3 q4 q5 r0 hkw
                    obtain ⟨oo, hP⟩ := hP7
                    clear M1 M2 HPV
                    have hol := HOK2.out.1.2.2.2.2.2
                    obtain ⟨ab, aoff, hA⟩ : ∃ ab aoff, oA = some ⟨ab, aoff, none⟩ := by
                      rcases HX.out.rd with h0 | ⟨b, off, hA, _, _⟩
                      · have := length_flatMap_const enL 2 enL_len ols
                        rw [h0] at this
                        simp at this
                        omega
                      · exact ⟨b, off, hA⟩
                    subst hA
                    have KT := hid (fun w' (h : RW w X BP BO G #[.int .i64 oi, .int .i64 oc, .string of, .slice (some ⟨ab, aoff, none⟩) ols.length ocp, .int .i64 on, .int .i64 ot] il (mset os oi oo) w') => twin_off oi oc of ab aoff ocp ols on ot w' (HX.out.rd.below h.bel) hol.1 hol.2)
                    replace hP := hP.next (below_drewN (Below.refl _ _) 1)
                    go_wp2_with fail
                    go_region_held3 (fun w' => w'.cell? ⟨X, 1, none⟩ = some (.map (some BO)) ∧ w'.cell? ⟨G, 0, none⟩ = some (.int .i64 oi) ∧ w'.cell? ⟨G, 1, none⟩ = some (.int .i64 oc) ∧ w'.cell? ⟨G, 2, none⟩ = some (.string of) ∧ w'.cell? ⟨G, 3, none⟩ = some (.slice (some ⟨ab, aoff, none⟩) ols.length ocp) ∧ w'.cell? ⟨G, 4, none⟩ = some (.int .i64 on) ∧ w'.cell? ⟨G, 5, none⟩ = some (.int .i64 ot)) (first | exact ⟨hP.book.cellO, hP.blk.cell 0, hP.blk.cell 1, hP.blk.cell 2, hP.blk.cell 3, hP.blk.cell 4, hP.blk.cell 5⟩ | exact ⟨hP7.book.cellO, hP7.blk.cell 0, hP7.blk.cell 1, hP7.blk.cell 2, hP7.blk.cell 3, hP7.blk.cell 4, hP7.blk.cell 5⟩ | exact ⟨hP8.book.cellO, hP8.blk.cell 0, hP8.blk.cell 1, hP8.blk.cell 2, hP8.blk.cell 3, hP8.blk.cell 4, hP8.blk.cell 5⟩)
                      (first
                        | (go_at_call 26; refine (KT.out _ hP).mono ?_; rintro e w7 ⟨tb, tcp, rfl, hL7, hb7⟩
                           have hI7 := hP.book.next hb7
                           have hP7 := hP.next hb7
                           obtain ⟨w8, hrun, hM8, hg8, hs8⟩ := hI7.ods.store (P := Try.prog) (mt := 72) (et := 35) keyL Try.underlying72 oi (⟨oi, oc, of, tb, tcp, ols, on, ot⟩ : Od)
                           simp only [enO, kI] at hrun
                           have hI8 := hI7.order (o := (⟨oi, oc, of, tb, tcp, ols, on, ot⟩ : Od)) (own_rd hL7.own) (show w.heap.size ≤ tb from Nat.le_trans hP.bel.size (hL7.own.lt tb rfl).1) (rowBlk hL7.own rfl) hM8 hg8
                           rw [mset_twice] at hI8
                           have hP8 := hP7.step hI8 ((Touch.of_grown hg8).mono (fun k hk => (.inr hk : Own BP BO k)))
                           have HF := hid hP8
                           clear hI7 hL7 hb7 hM8 hg8 hs8 hI8 hP))
                    all_goals
                      go_wp2_with fail
                      go_roundw
                      case rel => exact ⟨k + 1, mset os oi (⟨oi, oc, of, tb, tcp, ols, on, ot⟩ : Od), by omega, by go_num, hid ⟨good_next hO.out.1 HGOOD.out, osOk_set hO.out.2.1 HOK2.out rfl rfl rfl, by rw [mset_new HNONE.out, List.map_append, hO.out.2.2, takeA_snoc HO.out, List.map_append]; rfl⟩, HF.out.book, HF.out.bel⟩
                      case measure => simp [nOf]; omega
                  · have M1 := hid (fun w => money_yes on w hn)
                    have M2 := hid (fun w => money_no ot w ht)
                    have HBAD := hid (show ¬ GoodR il ol from fun hh => ht (hh.2 k _ HO.out).2.2.2.2)
                    clear hn ht hz
                    obtain ⟨CB, hCB0, hCB1⟩ : ∃ CB : Bool → World → Prop, (∀ w', CB false w' ↔ RW w X BP BO G #[.int .i64 oi, .int .i64 oc, .string of, .slice oA ols.length ocp, .int .i64 on, .int .i64 ot] il os w') ∧ (∀ w', CB true w' ↔ ∃ oo, RW w X BP BO G #[.int .i64 oi, .int .i64 oc, .string of, .slice oA ols.length ocp, .int .i64 on, .int .i64 ot] il (mset os oi oo) w') := ⟨fun b w' => match b with | false => RW w X BP BO G #[.int .i64 oi, .int .i64 oc, .string of, .slice oA ols.length ocp, .int .i64 on, .int .i64 ot] il os w' | true => ∃ oo, RW w X BP BO G #[.int .i64 oi, .int .i64 oc, .string of, .slice oA ols.length ocp, .int .i64 on, .int .i64 ot] il (mset os oi oo) w', fun _ => Iff.rfl, fun _ => Iff.rfl⟩
                    have hRW : ∀ w', (∃ b, CB b w') → Blk w' G 35 #[.int .i64 oi, .int .i64 oc, .string of, .slice oA ols.length ocp, .int .i64 on, .int .i64 ot] ∧ Below w.heap.size w w' := fun w' hb => by
                      obtain ⟨bb, hb⟩ := hb
                      cases bb with
                      | false => exact ⟨((hCB0 _).1 hb).blk, ((hCB0 _).1 hb).bel⟩
                      | true => obtain ⟨oo, h⟩ := (hCB1 _).1 hb; exact ⟨h.blk, h.bel⟩
                    obtain ⟨C, hCd⟩ : ∃ C : World → Prop, ∀ w', C w' ↔ ∃ b, CB b w' := ⟨_, fun _ => Iff.rfl⟩
                    have HCC := hid (fun b w' (h : CB b w') => (hCd w').2 ⟨b, h⟩)
                    have hC : CB false wz.drew := (hCB0 _).2 hP
                    have g0 : ∀ p : In C, p.w.cell? ⟨G, 0, none⟩ = some (.int .i64 oi) := fun p => (hRW _ ((hCd _).1 p.h)).1.cell 0
                    have g1 : ∀ p : In C, p.w.cell? ⟨G, 1, none⟩ = some (.int .i64 oc) := fun p => (hRW _ ((hCd _).1 p.h)).1.cell 1
                    have g2 : ∀ p : In C, p.w.cell? ⟨G, 2, none⟩ = some (.string of) := fun p => (hRW _ ((hCd _).1 p.h)).1.cell 2
                    have g3 : ∀ p : In C, p.w.cell? ⟨G, 3, none⟩ = some (.slice oA ols.length ocp) := fun p => (hRW _ ((hCd _).1 p.h)).1.cell 3
                    have g4 : ∀ p : In C, p.w.cell? ⟨G, 4, none⟩ = some (.int .i64 on) := fun p => (hRW _ ((hCd _).1 p.h)).1.cell 4
                    have g5 : ∀ p : In C, p.w.cell? ⟨G, 5, none⟩ = some (.int .i64 ot) := fun p => (hRW _ ((hCd _).1 p.h)).1.cell 5
                    have r0 : ∀ p : In C, p.w.cell? ⟨b, off + (k - 1) * 6, none⟩ = some (.int .i64 pi) := fun p => HPR.out _ (hRW _ ((hCd _).1 p.h)).2
                    have KT : Hid (∀ wp, CB false wp → Calls Try.prog 14 #[.pointer (some ⟨X, 0, none⟩), .int .i64 oi, .int .i64 oc, .string of, .slice oA ols.length ocp] wp fun e w' => e = .returned (.int .i64 0) ∧ CB true w') := hid (fun wp h => (KA.out wp ((hCB0 _).1 h)).mono fun e w' ⟨h1, h2⟩ => ⟨h1, (hCB1 _).2 h2⟩)
                    clear KA
                    have HC1 := hid hCB1
                    clear hCB0 hCB1 hRW hP hCd
                    have M1c : Hid (∀ bb wp, CB bb wp → Calls Try.prog 33 #[.int .i64 on] wp fun e w' => e = .returned (.bool true) ∧ CB bb w') := hid (fun bb wp h => (M1.out wp).mono fun e w' ⟨h1, h2⟩ => ⟨h1, h2 ▸ h⟩)
                    have M2c : Hid (∀ bb wp, CB bb wp → Calls Try.prog 33 #[.int .i64 ot] wp fun e w' => e = .returned (.bool false) ∧ CB bb w') := hid (fun bb wp h => (M2.out wp).mono fun e w' ⟨h1, h2⟩ => ⟨h1, h2 ▸ h⟩)
                    go_wp2_with fail
                    rw [← HW.out, ← HGG.out]
                    refine wp_region_turn CB 23 39 (by decide) (by kernel_rfl) (by kernel_rfl) hC ?_
                    have hne : Nonempty (In C) := ⟨⟨wz.drew, HCC.out _ _ hC⟩⟩
                    clear hC
                    refine wpT_part C HCC.out 23 23 (by kernel_rfl) (by kernel_rfl) (by decide) ?_
                    simp only [List.take_succ_cons, List.take_zero, List.drop_succ_cons, List.drop_zero]
                    repeat (first | go_big_quiet_step (fail) | quiet_step (fail))
                    refine wpQuiet_nil ?_
                    refine wpT_turn (.int .i64 0) (by kernel_rfl) (fun wp hwp => ?_) ?_
                    · have K := KT.out wp hwp
                      clear KT
                      go_simp
                      exact K
                    refine wpT_part C HCC.out 6 30 (by kernel_rfl) (by kernel_rfl) (by decide) ?_
                    simp only [List.take_succ_cons, List.take_zero, List.drop_succ_cons, List.drop_zero]
                    repeat (first | go_big_quiet_step (fail) | quiet_step (fail))
                    refine wpQuiet_nil ?_
                    refine wpT_call (by rfl) (.bool true) (by kernel_rfl) (fun bb wp hwp => ?_) ?_
                    · have K := M1c.out bb wp hwp
                      clear M1c M2c
                      go_simp
                      exact K
                    refine wpT_part C HCC.out 6 37 (by kernel_rfl) (by kernel_rfl) (by decide) ?_
                    simp only [List.take_succ_cons, List.take_zero, List.drop_succ_cons, List.drop_zero]
                    repeat (first | go_big_quiet_step (fail) | quiet_step (fail))
                    refine wpQuiet_nil ?_
                    refine wpT_call (by rfl) (.bool false) (by kernel_rfl) (fun bb wp hwp => ?_) ?_
                    · have K := M2c.out bb wp hwp
                      clear M1c M2c
                      go_simp
                      exact K
                    refine wpT_part C HCC.out 1 39 (by kernel_rfl) (by kernel_rfl) (by decide) ?_
                    simp only [List.take_succ_cons, List.take_zero, List.drop_succ_cons, List.drop_zero]
                    repeat (first | go_big_quiet_step (fail) | quiet_step (fail))
                    refine wpQuiet_nil ?_
                    refine wpT_nil ?_
                    intro wq hq
                    have hP7 := (HC1.out _).1 hq
                    clear g0 g1 g2 g3 g4 g5 hne hq HC1 HCC KT M1c M2c q0 q1 q2 q3 q4 q5 r0 hkw
                    obtain ⟨oo, hP7⟩ := hP7
                    have HB := hid hP7.bel
                    clear hP7
                    go_wp2_with fail
                    go_ret2
                    exact ⟨.bad HBAD.out, HB.out⟩
                · have M1 := hid (fun w => money_no on w hn)
                  have HBAD := hid (show ¬ GoodR il ol from fun hh => hn (hh.2 k _ HO.out).2.2.2.1)
                  clear hn hz
                  obtain ⟨CB, hCB0, hCB1⟩ : ∃ CB : Bool → World → Prop, (∀ w', CB false w' ↔ RW w X BP BO G #[.int .i64 oi, .int .i64 oc, .string of, .slice oA ols.length ocp, .int .i64 on, .int .i64 ot] il os w') ∧ (∀ w', CB true w' ↔ ∃ oo, RW w X BP BO G #[.int .i64 oi, .int .i64 oc, .string of, .slice oA ols.length ocp, .int .i64 on, .int .i64 ot] il (mset os oi oo) w') := ⟨fun b w' => match b with | false => RW w X BP BO G #[.int .i64 oi, .int .i64 oc, .string of, .slice oA ols.length ocp, .int .i64 on, .int .i64 ot] il os w' | true => ∃ oo, RW w X BP BO G #[.int .i64 oi, .int .i64 oc, .string of, .slice oA ols.length ocp, .int .i64 on, .int .i64 ot] il (mset os oi oo) w', fun _ => Iff.rfl, fun _ => Iff.rfl⟩
                  have hRW : ∀ w', (∃ b, CB b w') → Blk w' G 35 #[.int .i64 oi, .int .i64 oc, .string of, .slice oA ols.length ocp, .int .i64 on, .int .i64 ot] ∧ Below w.heap.size w w' := fun w' hb => by
                    obtain ⟨bb, hb⟩ := hb
                    cases bb with
                    | false => exact ⟨((hCB0 _).1 hb).blk, ((hCB0 _).1 hb).bel⟩
                    | true => obtain ⟨oo, h⟩ := (hCB1 _).1 hb; exact ⟨h.blk, h.bel⟩
                  obtain ⟨C, hCd⟩ : ∃ C : World → Prop, ∀ w', C w' ↔ ∃ b, CB b w' := ⟨_, fun _ => Iff.rfl⟩
                  have HCC := hid (fun b w' (h : CB b w') => (hCd w').2 ⟨b, h⟩)
                  have hC : CB false wz.drew := (hCB0 _).2 hP
                  have g0 : ∀ p : In C, p.w.cell? ⟨G, 0, none⟩ = some (.int .i64 oi) := fun p => (hRW _ ((hCd _).1 p.h)).1.cell 0
                  have g1 : ∀ p : In C, p.w.cell? ⟨G, 1, none⟩ = some (.int .i64 oc) := fun p => (hRW _ ((hCd _).1 p.h)).1.cell 1
                  have g2 : ∀ p : In C, p.w.cell? ⟨G, 2, none⟩ = some (.string of) := fun p => (hRW _ ((hCd _).1 p.h)).1.cell 2
                  have g3 : ∀ p : In C, p.w.cell? ⟨G, 3, none⟩ = some (.slice oA ols.length ocp) := fun p => (hRW _ ((hCd _).1 p.h)).1.cell 3
                  have g4 : ∀ p : In C, p.w.cell? ⟨G, 4, none⟩ = some (.int .i64 on) := fun p => (hRW _ ((hCd _).1 p.h)).1.cell 4
                  have g5 : ∀ p : In C, p.w.cell? ⟨G, 5, none⟩ = some (.int .i64 ot) := fun p => (hRW _ ((hCd _).1 p.h)).1.cell 5
                  have r0 : ∀ p : In C, p.w.cell? ⟨b, off + (k - 1) * 6, none⟩ = some (.int .i64 pi) := fun p => HPR.out _ (hRW _ ((hCd _).1 p.h)).2
                  have KT : Hid (∀ wp, CB false wp → Calls Try.prog 14 #[.pointer (some ⟨X, 0, none⟩), .int .i64 oi, .int .i64 oc, .string of, .slice oA ols.length ocp] wp fun e w' => e = .returned (.int .i64 0) ∧ CB true w') := hid (fun wp h => (KA.out wp ((hCB0 _).1 h)).mono fun e w' ⟨h1, h2⟩ => ⟨h1, (hCB1 _).2 h2⟩)
                  clear KA
                  have HC1 := hid hCB1
                  clear hCB0 hCB1 hRW hP hCd
                  have M1c : Hid (∀ bb wp, CB bb wp → Calls Try.prog 33 #[.int .i64 on] wp fun e w' => e = .returned (.bool false) ∧ CB bb w') := hid (fun bb wp h => (M1.out wp).mono fun e w' ⟨h1, h2⟩ => ⟨h1, h2 ▸ h⟩)
                  have M2c := hid trivial
                  go_wp2_with fail
                  rw [← HW.out, ← HGG.out]
                  refine wp_region_turn CB 23 39 (by decide) (by kernel_rfl) (by kernel_rfl) hC ?_
                  have hne : Nonempty (In C) := ⟨⟨wz.drew, HCC.out _ _ hC⟩⟩
                  clear hC
                  refine wpT_part C HCC.out 23 23 (by kernel_rfl) (by kernel_rfl) (by decide) ?_
                  simp only [List.take_succ_cons, List.take_zero, List.drop_succ_cons, List.drop_zero]
                  repeat (first | go_big_quiet_step (fail) | quiet_step (fail))
                  refine wpQuiet_nil ?_
                  refine wpT_turn (.int .i64 0) (by kernel_rfl) (fun wp hwp => ?_) ?_
                  · have K := KT.out wp hwp
                    clear KT
                    go_simp
                    exact K
                  refine wpT_part C HCC.out 6 30 (by kernel_rfl) (by kernel_rfl) (by decide) ?_
                  simp only [List.take_succ_cons, List.take_zero, List.drop_succ_cons, List.drop_zero]
                  repeat (first | go_big_quiet_step (fail) | quiet_step (fail))
                  refine wpQuiet_nil ?_
                  refine wpT_call (by rfl) (.bool false) (by kernel_rfl) (fun bb wp hwp => ?_) ?_
                  · have K := M1c.out bb wp hwp
                    clear M1c M2c
                    go_simp
                    exact K
                  refine wpT_part C HCC.out 6 37 (by kernel_rfl) (by kernel_rfl) (by decide) ?_
                  simp only [List.take_succ_cons, List.take_zero, List.drop_succ_cons, List.drop_zero]
                  repeat (first | go_big_quiet_step (fail) | quiet_step (fail))
                  refine wpQuiet_nil ?_
                  refine wpT_skip (by rfl) (by kernel_rfl) ?_
                  refine wpT_part C HCC.out 1 39 (by kernel_rfl) (by kernel_rfl) (by decide) ?_
                  simp only [List.take_succ_cons, List.take_zero, List.drop_succ_cons, List.drop_zero]
                  repeat (first | go_big_quiet_step (fail) | quiet_step (fail))
                  refine wpQuiet_nil ?_
                  refine wpT_nil ?_
                  intro wq hq
                  have hP7 := (HC1.out _).1 hq
                  clear g0 g1 g2 g3 g4 g5 hne hq HC1 HCC KT M1c M2c q0 q1 q2 q3 q4 q5 r0 hkw
                  obtain ⟨oo, hP7⟩ := hP7
                  have HB := hid hP7.bel
                  clear hP7
                  go_wp2_with fail
                  go_ret2
                  exact ⟨.bad HBAD.out, HB.out⟩
              · have KA : Hid (∀ w', RW w X BP BO G #[.int .i64 oi, .int .i64 oc, .string of, .slice oA ols.length ocp, .int .i64 on, .int .i64 ot] il os w' → Calls Try.prog 14 #[.pointer (some ⟨X, 0, none⟩), .int .i64 oi, .int .i64 oc, .string of, .slice oA ols.length ocp] w' fun e w'' => e = .returned (.int .i64 (errL il os oi oc of ols)) ∧ RW w X BP BO G #[.int .i64 oi, .int .i64 oc, .string of, .slice oA ols.length ocp, .int .i64 on, .int .i64 ot] il os w'') := hid (fun w' h => (add_no h.book oi oc of oA ocp ols HX.out.flow (HX.out.rd.below h.bel) HX.out.room HX.out.cap hz).mono fun e w'' ⟨h1, h2⟩ => ⟨h1, h.next h2⟩)
                have HBAD := hid (show ¬ GoodR il ol from fun hh => hz (by
                  obtain ⟨_, h2, h3, _⟩ := hh.2 k _ HO.out
                  exact errL_ok h2 h3 (by rw [HNONE.out]; rfl)))
                have hzb : (errL il os oi oc of ols != 0) = true := by simpa using hz
                generalize errL il os oi oc of ols = z at KA hzb
                clear hz
                obtain ⟨CB, hCB0, hCB1⟩ : ∃ CB : Bool → World → Prop, (∀ w', CB false w' ↔ RW w X BP BO G #[.int .i64 oi, .int .i64 oc, .string of, .slice oA ols.length ocp, .int .i64 on, .int .i64 ot] il os w') ∧ (∀ w', CB true w' ↔ RW w X BP BO G #[.int .i64 oi, .int .i64 oc, .string of, .slice oA ols.length ocp, .int .i64 on, .int .i64 ot] il os w') := ⟨fun b w' => match b with | false => RW w X BP BO G #[.int .i64 oi, .int .i64 oc, .string of, .slice oA ols.length ocp, .int .i64 on, .int .i64 ot] il os w' | true => RW w X BP BO G #[.int .i64 oi, .int .i64 oc, .string of, .slice oA ols.length ocp, .int .i64 on, .int .i64 ot] il os w', fun _ => Iff.rfl, fun _ => Iff.rfl⟩
                have hRW : ∀ w', (∃ b, CB b w') → Blk w' G 35 #[.int .i64 oi, .int .i64 oc, .string of, .slice oA ols.length ocp, .int .i64 on, .int .i64 ot] ∧ Below w.heap.size w w' := fun w' hb => by
                  obtain ⟨bb, hb⟩ := hb
                  cases bb with
                  | false => exact ⟨((hCB0 _).1 hb).blk, ((hCB0 _).1 hb).bel⟩
                  | true => exact ⟨((hCB1 _).1 hb).blk, ((hCB1 _).1 hb).bel⟩
                obtain ⟨C, hCd⟩ : ∃ C : World → Prop, ∀ w', C w' ↔ ∃ b, CB b w' := ⟨_, fun _ => Iff.rfl⟩
                have HCC := hid (fun b w' (h : CB b w') => (hCd w').2 ⟨b, h⟩)
                have hC : CB false wz.drew := (hCB0 _).2 hP
                have g0 : ∀ p : In C, p.w.cell? ⟨G, 0, none⟩ = some (.int .i64 oi) := fun p => (hRW _ ((hCd _).1 p.h)).1.cell 0
                have g1 : ∀ p : In C, p.w.cell? ⟨G, 1, none⟩ = some (.int .i64 oc) := fun p => (hRW _ ((hCd _).1 p.h)).1.cell 1
                have g2 : ∀ p : In C, p.w.cell? ⟨G, 2, none⟩ = some (.string of) := fun p => (hRW _ ((hCd _).1 p.h)).1.cell 2
                have g3 : ∀ p : In C, p.w.cell? ⟨G, 3, none⟩ = some (.slice oA ols.length ocp) := fun p => (hRW _ ((hCd _).1 p.h)).1.cell 3
                have g4 : ∀ p : In C, p.w.cell? ⟨G, 4, none⟩ = some (.int .i64 on) := fun p => (hRW _ ((hCd _).1 p.h)).1.cell 4
                have g5 : ∀ p : In C, p.w.cell? ⟨G, 5, none⟩ = some (.int .i64 ot) := fun p => (hRW _ ((hCd _).1 p.h)).1.cell 5
                have r0 : ∀ p : In C, p.w.cell? ⟨b, off + (k - 1) * 6, none⟩ = some (.int .i64 pi) := fun p => HPR.out _ (hRW _ ((hCd _).1 p.h)).2
                have KT : Hid (∀ wp, CB false wp → Calls Try.prog 14 #[.pointer (some ⟨X, 0, none⟩), .int .i64 oi, .int .i64 oc, .string of, .slice oA ols.length ocp] wp fun e w' => e = .returned (.int .i64 z) ∧ CB true w') := hid (fun wp h => (KA.out wp ((hCB0 _).1 h)).mono fun e w' ⟨h1, h2⟩ => ⟨h1, (hCB1 _).2 h2⟩)
                clear KA
                have HC1 := hid hCB1
                clear hCB0 hCB1 hRW hP hCd
                have M1c := hid trivial
                have M2c := hid trivial
                go_wp2_with fail
                rw [← HW.out, ← HGG.out]
                refine wp_region_turn CB 23 39 (by decide) (by kernel_rfl) (by kernel_rfl) hC ?_
                have hne : Nonempty (In C) := ⟨⟨wz.drew, HCC.out _ _ hC⟩⟩
                clear hC
                refine wpT_part C HCC.out 23 23 (by kernel_rfl) (by kernel_rfl) (by decide) ?_
                simp only [List.take_succ_cons, List.take_zero, List.drop_succ_cons, List.drop_zero]
                repeat (first | go_big_quiet_step (fail) | quiet_step (fail))
                refine wpQuiet_nil ?_
                refine wpT_turn (.int .i64 z) (by kernel_rfl) (fun wp hwp => ?_) ?_
                · have K := KT.out wp hwp
                  clear KT
                  go_simp
                  exact K
                refine wpT_part C HCC.out 6 30 (by kernel_rfl) (by kernel_rfl) (by decide) ?_
                simp only [List.take_succ_cons, List.take_zero, List.drop_succ_cons, List.drop_zero]
                repeat (first | go_big_quiet_step (fail) | quiet_step (fail))
                refine wpQuiet_nil ?_
                refine wpT_skip (by rfl) (by kernel_rfl) ?_
                refine wpT_part C HCC.out 6 37 (by kernel_rfl) (by kernel_rfl) (by decide) ?_
                simp only [List.take_succ_cons, List.take_zero, List.drop_succ_cons, List.drop_zero]
                repeat (first | go_big_quiet_step (fail) | quiet_step (fail))
                refine wpQuiet_nil ?_
                refine wpT_skip (by rfl) (by kernel_rfl) ?_
                refine wpT_part C HCC.out 1 39 (by kernel_rfl) (by kernel_rfl) (by decide) ?_
                simp only [List.take_succ_cons, List.take_zero, List.drop_succ_cons, List.drop_zero]
                repeat (first | go_big_quiet_step (fail) | quiet_step (fail))
                refine wpQuiet_nil ?_
                refine wpT_nil ?_
                intro wq hq
                have hP7 := (HC1.out _).1 hq
                clear g0 g1 g2 g3 g4 g5 hne hq HC1 HCC KT M1c M2c q0 q1 q2 q3 q4 q5 r0 hkw
                have HB := hid hP7.bel
                clear hP7
                go_wp2_with fail
                go_ret2
                exact ⟨.bad HBAD.out, HB.out⟩
            · have t5 : decide (oi ≤ pi) = true := decide_eq_true (by omega)
              have HBAD := hid (show ¬ GoodR il ol from fun hh => hri ((hh.2 k _ HO.out).1 _ hk0 HP.out))
              clear hri
              obtain ⟨C, hCd⟩ : ∃ C : World → Prop, ∀ w', C w' ↔ RW w X BP BO G #[.int .i64 oi, .int .i64 oc, .string of, .slice oA ols.length ocp, .int .i64 on, .int .i64 ot] il os w' := ⟨_, fun _ => Iff.rfl⟩
              have hC : C wz.drew := (hCd _).2 hP
              have g0 : ∀ p : In C, p.w.cell? ⟨G, 0, none⟩ = some (.int .i64 oi) := fun p => ((hCd _).1 p.h).blk.cell 0
              have r0 : ∀ p : In C, p.w.cell? ⟨b, off + (k - 1) * 6, none⟩ = some (.int .i64 pi) := fun p => HPR.out _ ((hCd _).1 p.h).bel
              have HCd := hid hCd
              clear hCd hP
              go_wp2_with fail
              rw [← HW.out, ← HGG.out]
              refine wp_region_in C (by kernel_rfl) (by kernel_rfl) hC ?_
              intro hne
              clear hC
              repeat (first | go_big_quiet_step (fail) | quiet_step (fail))
              refine wpQuiet_nil ?_
              intro wq hq
              have HB := hid ((HCd.out _).1 hq)
              clear g0 r0 hne hq HCd q0 q1 q2 q3 q4 q5
              go_wp2_with fail
              go_ret2
              exact ⟨.bad HBAD.out, HB.out.bel⟩
          · have b0 : decide ((0 : Int) < (k : Int)) = false := decide_eq_false (by omega)
            have b0' : decide (0 < k) = false := decide_eq_false hk0
            have HNONE := hid (show mget os oi = none from none_of_below (fun y hy => by
              rw [keysA_of hO.out.2.2] at hy
              obtain ⟨o', ho', rfl⟩ := List.mem_map.1 hy
              exact belowO_take hO.out.1 HO.out ((fun p h0 _ => absurd h0 hk0)) o' ho'))
            by_cases hz : errL il os oi oc of ols = 0
            · have KA : Hid (∀ w', RW w X BP BO G #[.int .i64 oi, .int .i64 oc, .string of, .slice oA ols.length ocp, .int .i64 on, .int .i64 ot] il os w' → Calls Try.prog 14 #[.pointer (some ⟨X, 0, none⟩), .int .i64 oi, .int .i64 oc, .string of, .slice oA ols.length ocp] w' fun e w'' => e = .returned (.int .i64 0) ∧ ∃ oo, RW w X BP BO G #[.int .i64 oi, .int .i64 oc, .string of, .slice oA ols.length ocp, .int .i64 on, .int .i64 ot] il (mset os oi oo) w'') := hid (fun w' h => (add_new h.book HPR0.out oi oc of oA ocp ols HX.out.flow (HX.out.rd.below h.bel) HX.out.room HX.out.cap h.bel.size hz).mono fun e w'' ⟨oo, h1, h2, _, _, h4⟩ => ⟨h1, oo, h.step h2 h4⟩)
              by_cases hn : moneyOk on
              · by_cases ht : moneyOk ot
                · have M1 := hid (fun w => money_yes on w hn)
                  have M2 := hid (fun w => money_yes ot w ht)
                  have HGOOD := hid (show GoodO il ol k from fun q hq => by
                    rw [HO.out] at hq; injection hq with hq; subst hq
                    exact ⟨(fun p h0 _ => absurd h0 hk0), (errL_zero hz).1, (errL_zero hz).2.1, hn, ht⟩)
                  have HOK2 := hid (errL_zero hz).1
                  clear hn ht hz
                  obtain ⟨CB, hCB0, hCB1⟩ : ∃ CB : Bool → World → Prop, (∀ w', CB false w' ↔ RW w X BP BO G #[.int .i64 oi, .int .i64 oc, .string of, .slice oA ols.length ocp, .int .i64 on, .int .i64 ot] il os w') ∧ (∀ w', CB true w' ↔ ∃ oo, RW w X BP BO G #[.int .i64 oi, .int .i64 oc, .string of, .slice oA ols.length ocp, .int .i64 on, .int .i64 ot] il (mset os oi oo) w') := ⟨fun b w' => match b with | false => RW w X BP BO G #[.int .i64 oi, .int .i64 oc, .string of, .slice oA ols.length ocp, .int .i64 on, .int .i64 ot] il os w' | true => ∃ oo, RW w X BP BO G #[.int .i64 oi, .int .i64 oc, .string of, .slice oA ols.length ocp, .int .i64 on, .int .i64 ot] il (mset os oi oo) w', fun _ => Iff.rfl, fun _ => Iff.rfl⟩
                  have hRW : ∀ w', (∃ b, CB b w') → Blk w' G 35 #[.int .i64 oi, .int .i64 oc, .string of, .slice oA ols.length ocp, .int .i64 on, .int .i64 ot] ∧ Below w.heap.size w w' := fun w' hb => by
                    obtain ⟨bb, hb⟩ := hb
                    cases bb with
                    | false => exact ⟨((hCB0 _).1 hb).blk, ((hCB0 _).1 hb).bel⟩
                    | true => obtain ⟨oo, h⟩ := (hCB1 _).1 hb; exact ⟨h.blk, h.bel⟩
                  obtain ⟨C, hCd⟩ : ∃ C : World → Prop, ∀ w', C w' ↔ ∃ b, CB b w' := ⟨_, fun _ => Iff.rfl⟩
                  have HCC := hid (fun b w' (h : CB b w') => (hCd w').2 ⟨b, h⟩)
                  have hC : CB false wz.drew := (hCB0 _).2 hP
                  have g0 : ∀ p : In C, p.w.cell? ⟨G, 0, none⟩ = some (.int .i64 oi) := fun p => (hRW _ ((hCd _).1 p.h)).1.cell 0
                  have g1 : ∀ p : In C, p.w.cell? ⟨G, 1, none⟩ = some (.int .i64 oc) := fun p => (hRW _ ((hCd _).1 p.h)).1.cell 1
                  have g2 : ∀ p : In C, p.w.cell? ⟨G, 2, none⟩ = some (.string of) := fun p => (hRW _ ((hCd _).1 p.h)).1.cell 2
                  have g3 : ∀ p : In C, p.w.cell? ⟨G, 3, none⟩ = some (.slice oA ols.length ocp) := fun p => (hRW _ ((hCd _).1 p.h)).1.cell 3
                  have g4 : ∀ p : In C, p.w.cell? ⟨G, 4, none⟩ = some (.int .i64 on) := fun p => (hRW _ ((hCd _).1 p.h)).1.cell 4
                  have g5 : ∀ p : In C, p.w.cell? ⟨G, 5, none⟩ = some (.int .i64 ot) := fun p => (hRW _ ((hCd _).1 p.h)).1.cell 5
                  have KT : Hid (∀ wp, CB false wp → Calls Try.prog 14 #[.pointer (some ⟨X, 0, none⟩), .int .i64 oi, .int .i64 oc, .string of, .slice oA ols.length ocp] wp fun e w' => e = .returned (.int .i64 0) ∧ CB true w') := hid (fun wp h => (KA.out wp ((hCB0 _).1 h)).mono fun e w' ⟨h1, h2⟩ => ⟨h1, (hCB1 _).2 h2⟩)
                  clear KA
                  have HC1 := hid hCB1
                  clear hCB0 hCB1 hRW hP hCd
                  have M1c : Hid (∀ bb wp, CB bb wp → Calls Try.prog 33 #[.int .i64 on] wp fun e w' => e = .returned (.bool true) ∧ CB bb w') := hid (fun bb wp h => (M1.out wp).mono fun e w' ⟨h1, h2⟩ => ⟨h1, h2 ▸ h⟩)
                  have M2c : Hid (∀ bb wp, CB bb wp → Calls Try.prog 33 #[.int .i64 ot] wp fun e w' => e = .returned (.bool true) ∧ CB bb w') := hid (fun bb wp h => (M2.out wp).mono fun e w' ⟨h1, h2⟩ => ⟨h1, h2 ▸ h⟩)
                  go_wp2_with fail
                  rw [← HW.out, ← HGG.out]
                  refine wp_region_turn CB 23 39 (by decide) (by kernel_rfl) (by kernel_rfl) hC ?_
                  have hne : Nonempty (In C) := ⟨⟨wz.drew, HCC.out _ _ hC⟩⟩
                  clear hC
                  refine wpT_part C HCC.out 23 23 (by kernel_rfl) (by kernel_rfl) (by decide) ?_
                  simp only [List.take_succ_cons, List.take_zero, List.drop_succ_cons, List.drop_zero]
                  repeat (first | go_big_quiet_step (fail) | quiet_step (fail))
                  refine wpQuiet_nil ?_
                  refine wpT_turn (.int .i64 0) (by kernel_rfl) (fun wp hwp => ?_) ?_
                  · have K := KT.out wp hwp
                    clear KT
                    go_simp
                    exact K
                  refine wpT_part C HCC.out 6 30 (by kernel_rfl) (by kernel_rfl) (by decide) ?_
                  simp only [List.take_succ_cons, List.take_zero, List.drop_succ_cons, List.drop_zero]
                  repeat (first | go_big_quiet_step (fail) | quiet_step (fail))
                  refine wpQuiet_nil ?_
                  refine wpT_call (by rfl) (.bool true) (by kernel_rfl) (fun bb wp hwp => ?_) ?_
                  · have K := M1c.out bb wp hwp
                    clear M1c M2c
                    go_simp
                    exact K
                  refine wpT_part C HCC.out 6 37 (by kernel_rfl) (by kernel_rfl) (by decide) ?_
                  simp only [List.take_succ_cons, List.take_zero, List.drop_succ_cons, List.drop_zero]
                  repeat (first | go_big_quiet_step (fail) | quiet_step (fail))
                  refine wpQuiet_nil ?_
                  refine wpT_call (by rfl) (.bool true) (by kernel_rfl) (fun bb wp hwp => ?_) ?_
                  · have K := M2c.out bb wp hwp
                    clear M1c M2c
                    go_simp
                    exact K
                  refine wpT_part C HCC.out 1 39 (by kernel_rfl) (by kernel_rfl) (by decide) ?_
                  simp only [List.take_succ_cons, List.take_zero, List.drop_succ_cons, List.drop_zero]
                  repeat (first | go_big_quiet_step (fail) | quiet_step (fail))
                  refine wpQuiet_nil ?_
                  refine wpT_nil ?_
                  intro wq hq
                  have hP7 := (HC1.out _).1 hq
                  clear g0 g1 g2 g3 g4 g5 hne hq HC1 HCC KT M1c M2c q0 q1 q2 q3 q4 q5
                  obtain ⟨oo, hP⟩ := hP7
                  clear M1 M2 HPV
                  have hol := HOK2.out.1.2.2.2.2.2
                  obtain ⟨ab, aoff, hA⟩ : ∃ ab aoff, oA = some ⟨ab, aoff, none⟩ := by
                    rcases HX.out.rd with h0 | ⟨b, off, hA, _, _⟩
                    · have := length_flatMap_const enL 2 enL_len ols
                      rw [h0] at this
                      simp at this
                      omega
                    · exact ⟨b, off, hA⟩
                  subst hA
                  have KT := hid (fun w' (h : RW w X BP BO G #[.int .i64 oi, .int .i64 oc, .string of, .slice (some ⟨ab, aoff, none⟩) ols.length ocp, .int .i64 on, .int .i64 ot] il (mset os oi oo) w') => twin_off oi oc of ab aoff ocp ols on ot w' (HX.out.rd.below h.bel) hol.1 hol.2)
                  replace hP := hP.next (below_drewN (Below.refl _ _) 1)
                  go_wp2_with fail
                  go_region_held3 (fun w' => w'.cell? ⟨X, 1, none⟩ = some (.map (some BO)) ∧ w'.cell? ⟨G, 0, none⟩ = some (.int .i64 oi) ∧ w'.cell? ⟨G, 1, none⟩ = some (.int .i64 oc) ∧ w'.cell? ⟨G, 2, none⟩ = some (.string of) ∧ w'.cell? ⟨G, 3, none⟩ = some (.slice (some ⟨ab, aoff, none⟩) ols.length ocp) ∧ w'.cell? ⟨G, 4, none⟩ = some (.int .i64 on) ∧ w'.cell? ⟨G, 5, none⟩ = some (.int .i64 ot)) (first | exact ⟨hP.book.cellO, hP.blk.cell 0, hP.blk.cell 1, hP.blk.cell 2, hP.blk.cell 3, hP.blk.cell 4, hP.blk.cell 5⟩ | exact ⟨hP7.book.cellO, hP7.blk.cell 0, hP7.blk.cell 1, hP7.blk.cell 2, hP7.blk.cell 3, hP7.blk.cell 4, hP7.blk.cell 5⟩ | exact ⟨hP8.book.cellO, hP8.blk.cell 0, hP8.blk.cell 1, hP8.blk.cell 2, hP8.blk.cell 3, hP8.blk.cell 4, hP8.blk.cell 5⟩)
                    (first
                      | (go_at_call 26; refine (KT.out _ hP).mono ?_; rintro e w7 ⟨tb, tcp, rfl, hL7, hb7⟩
                         have hI7 := hP.book.next hb7
                         have hP7 := hP.next hb7
                         obtain ⟨w8, hrun, hM8, hg8, hs8⟩ := hI7.ods.store (P := Try.prog) (mt := 72) (et := 35) keyL Try.underlying72 oi (⟨oi, oc, of, tb, tcp, ols, on, ot⟩ : Od)
                         simp only [enO, kI] at hrun
                         have hI8 := hI7.order (o := (⟨oi, oc, of, tb, tcp, ols, on, ot⟩ : Od)) (own_rd hL7.own) (show w.heap.size ≤ tb from Nat.le_trans hP.bel.size (hL7.own.lt tb rfl).1) (rowBlk hL7.own rfl) hM8 hg8
                         rw [mset_twice] at hI8
                         have hP8 := hP7.step hI8 ((Touch.of_grown hg8).mono (fun k hk => (.inr hk : Own BP BO k)))
                         have HF := hid hP8
                         clear hI7 hL7 hb7 hM8 hg8 hs8 hI8 hP))
                  all_goals
                    go_wp2_with fail
                    go_roundw
                    case rel => exact ⟨k + 1, mset os oi (⟨oi, oc, of, tb, tcp, ols, on, ot⟩ : Od), by omega, by go_num, hid ⟨good_next hO.out.1 HGOOD.out, osOk_set hO.out.2.1 HOK2.out rfl rfl rfl, by rw [mset_new HNONE.out, List.map_append, hO.out.2.2, takeA_snoc HO.out, List.map_append]; rfl⟩, HF.out.book, HF.out.bel⟩
                    case measure => simp [nOf]; omega
                · have M1 := hid (fun w => money_yes on w hn)
                  have M2 := hid (fun w => money_no ot w ht)
                  have HBAD := hid (show ¬ GoodR il ol from fun hh => ht (hh.2 k _ HO.out).2.2.2.2)
                  clear hn ht hz
                  obtain ⟨CB, hCB0, hCB1⟩ : ∃ CB : Bool → World → Prop, (∀ w', CB false w' ↔ RW w X BP BO G #[.int .i64 oi, .int .i64 oc, .string of, .slice oA ols.length ocp, .int .i64 on, .int .i64 ot] il os w') ∧ (∀ w', CB true w' ↔ ∃ oo, RW w X BP BO G #[.int .i64 oi, .int .i64 oc, .string of, .slice oA ols.length ocp, .int .i64 on, .int .i64 ot] il (mset os oi oo) w') := ⟨fun b w' => match b with | false => RW w X BP BO G #[.int .i64 oi, .int .i64 oc, .string of, .slice oA ols.length ocp, .int .i64 on, .int .i64 ot] il os w' | true => ∃ oo, RW w X BP BO G #[.int .i64 oi, .int .i64 oc, .string of, .slice oA ols.length ocp, .int .i64 on, .int .i64 ot] il (mset os oi oo) w', fun _ => Iff.rfl, fun _ => Iff.rfl⟩
                  have hRW : ∀ w', (∃ b, CB b w') → Blk w' G 35 #[.int .i64 oi, .int .i64 oc, .string of, .slice oA ols.length ocp, .int .i64 on, .int .i64 ot] ∧ Below w.heap.size w w' := fun w' hb => by
                    obtain ⟨bb, hb⟩ := hb
                    cases bb with
                    | false => exact ⟨((hCB0 _).1 hb).blk, ((hCB0 _).1 hb).bel⟩
                    | true => obtain ⟨oo, h⟩ := (hCB1 _).1 hb; exact ⟨h.blk, h.bel⟩
                  obtain ⟨C, hCd⟩ : ∃ C : World → Prop, ∀ w', C w' ↔ ∃ b, CB b w' := ⟨_, fun _ => Iff.rfl⟩
                  have HCC := hid (fun b w' (h : CB b w') => (hCd w').2 ⟨b, h⟩)
                  have hC : CB false wz.drew := (hCB0 _).2 hP
                  have g0 : ∀ p : In C, p.w.cell? ⟨G, 0, none⟩ = some (.int .i64 oi) := fun p => (hRW _ ((hCd _).1 p.h)).1.cell 0
                  have g1 : ∀ p : In C, p.w.cell? ⟨G, 1, none⟩ = some (.int .i64 oc) := fun p => (hRW _ ((hCd _).1 p.h)).1.cell 1
                  have g2 : ∀ p : In C, p.w.cell? ⟨G, 2, none⟩ = some (.string of) := fun p => (hRW _ ((hCd _).1 p.h)).1.cell 2
                  have g3 : ∀ p : In C, p.w.cell? ⟨G, 3, none⟩ = some (.slice oA ols.length ocp) := fun p => (hRW _ ((hCd _).1 p.h)).1.cell 3
                  have g4 : ∀ p : In C, p.w.cell? ⟨G, 4, none⟩ = some (.int .i64 on) := fun p => (hRW _ ((hCd _).1 p.h)).1.cell 4
                  have g5 : ∀ p : In C, p.w.cell? ⟨G, 5, none⟩ = some (.int .i64 ot) := fun p => (hRW _ ((hCd _).1 p.h)).1.cell 5
                  have KT : Hid (∀ wp, CB false wp → Calls Try.prog 14 #[.pointer (some ⟨X, 0, none⟩), .int .i64 oi, .int .i64 oc, .string of, .slice oA ols.length ocp] wp fun e w' => e = .returned (.int .i64 0) ∧ CB true w') := hid (fun wp h => (KA.out wp ((hCB0 _).1 h)).mono fun e w' ⟨h1, h2⟩ => ⟨h1, (hCB1 _).2 h2⟩)
                  clear KA
                  have HC1 := hid hCB1
                  clear hCB0 hCB1 hRW hP hCd
                  have M1c : Hid (∀ bb wp, CB bb wp → Calls Try.prog 33 #[.int .i64 on] wp fun e w' => e = .returned (.bool true) ∧ CB bb w') := hid (fun bb wp h => (M1.out wp).mono fun e w' ⟨h1, h2⟩ => ⟨h1, h2 ▸ h⟩)
                  have M2c : Hid (∀ bb wp, CB bb wp → Calls Try.prog 33 #[.int .i64 ot] wp fun e w' => e = .returned (.bool false) ∧ CB bb w') := hid (fun bb wp h => (M2.out wp).mono fun e w' ⟨h1, h2⟩ => ⟨h1, h2 ▸ h⟩)
                  go_wp2_with fail
                  rw [← HW.out, ← HGG.out]
                  refine wp_region_turn CB 23 39 (by decide) (by kernel_rfl) (by kernel_rfl) hC ?_
                  have hne : Nonempty (In C) := ⟨⟨wz.drew, HCC.out _ _ hC⟩⟩
                  clear hC
                  refine wpT_part C HCC.out 23 23 (by kernel_rfl) (by kernel_rfl) (by decide) ?_
                  simp only [List.take_succ_cons, List.take_zero, List.drop_succ_cons, List.drop_zero]
                  repeat (first | go_big_quiet_step (fail) | quiet_step (fail))
                  refine wpQuiet_nil ?_
                  refine wpT_turn (.int .i64 0) (by kernel_rfl) (fun wp hwp => ?_) ?_
                  · have K := KT.out wp hwp
                    clear KT
                    go_simp
                    exact K
                  refine wpT_part C HCC.out 6 30 (by kernel_rfl) (by kernel_rfl) (by decide) ?_
                  simp only [List.take_succ_cons, List.take_zero, List.drop_succ_cons, List.drop_zero]
                  repeat (first | go_big_quiet_step (fail) | quiet_step (fail))
                  refine wpQuiet_nil ?_
                  refine wpT_call (by rfl) (.bool true) (by kernel_rfl) (fun bb wp hwp => ?_) ?_
                  · have K := M1c.out bb wp hwp
                    clear M1c M2c
                    go_simp
                    exact K
                  refine wpT_part C HCC.out 6 37 (by kernel_rfl) (by kernel_rfl) (by decide) ?_
                  simp only [List.take_succ_cons, List.take_zero, List.drop_succ_cons, List.drop_zero]
                  repeat (first | go_big_quiet_step (fail) | quiet_step (fail))
                  refine wpQuiet_nil ?_
                  refine wpT_call (by rfl) (.bool false) (by kernel_rfl) (fun bb wp hwp => ?_) ?_
                  · have K := M2c.out bb wp hwp
                    clear M1c M2c
                    go_simp
                    exact K
                  refine wpT_part C HCC.out 1 39 (by kernel_rfl) (by kernel_rfl) (by decide) ?_
                  simp only [List.take_succ_cons, List.take_zero, List.drop_succ_cons, List.drop_zero]
                  repeat (first | go_big_quiet_step (fail) | quiet_step (fail))
                  refine wpQuiet_nil ?_
                  refine wpT_nil ?_
                  intro wq hq
                  have hP7 := (HC1.out _).1 hq
                  clear g0 g1 g2 g3 g4 g5 hne hq HC1 HCC KT M1c M2c q0 q1 q2 q3 q4 q5
                  obtain ⟨oo, hP7⟩ := hP7
                  have HB := hid hP7.bel
                  clear hP7
                  go_wp2_with fail
                  go_ret2
                  exact ⟨.bad HBAD.out, HB.out⟩
              · have M1 := hid (fun w => money_no on w hn)
                have HBAD := hid (show ¬ GoodR il ol from fun hh => hn (hh.2 k _ HO.out).2.2.2.1)
                clear hn hz
                obtain ⟨CB, hCB0, hCB1⟩ : ∃ CB : Bool → World → Prop, (∀ w', CB false w' ↔ RW w X BP BO G #[.int .i64 oi, .int .i64 oc, .string of, .slice oA ols.length ocp, .int .i64 on, .int .i64 ot] il os w') ∧ (∀ w', CB true w' ↔ ∃ oo, RW w X BP BO G #[.int .i64 oi, .int .i64 oc, .string of, .slice oA ols.length ocp, .int .i64 on, .int .i64 ot] il (mset os oi oo) w') := ⟨fun b w' => match b with | false => RW w X BP BO G #[.int .i64 oi, .int .i64 oc, .string of, .slice oA ols.length ocp, .int .i64 on, .int .i64 ot] il os w' | true => ∃ oo, RW w X BP BO G #[.int .i64 oi, .int .i64 oc, .string of, .slice oA ols.length ocp, .int .i64 on, .int .i64 ot] il (mset os oi oo) w', fun _ => Iff.rfl, fun _ => Iff.rfl⟩
                have hRW : ∀ w', (∃ b, CB b w') → Blk w' G 35 #[.int .i64 oi, .int .i64 oc, .string of, .slice oA ols.length ocp, .int .i64 on, .int .i64 ot] ∧ Below w.heap.size w w' := fun w' hb => by
                  obtain ⟨bb, hb⟩ := hb
                  cases bb with
                  | false => exact ⟨((hCB0 _).1 hb).blk, ((hCB0 _).1 hb).bel⟩
                  | true => obtain ⟨oo, h⟩ := (hCB1 _).1 hb; exact ⟨h.blk, h.bel⟩
                obtain ⟨C, hCd⟩ : ∃ C : World → Prop, ∀ w', C w' ↔ ∃ b, CB b w' := ⟨_, fun _ => Iff.rfl⟩
                have HCC := hid (fun b w' (h : CB b w') => (hCd w').2 ⟨b, h⟩)
                have hC : CB false wz.drew := (hCB0 _).2 hP
                have g0 : ∀ p : In C, p.w.cell? ⟨G, 0, none⟩ = some (.int .i64 oi) := fun p => (hRW _ ((hCd _).1 p.h)).1.cell 0
                have g1 : ∀ p : In C, p.w.cell? ⟨G, 1, none⟩ = some (.int .i64 oc) := fun p => (hRW _ ((hCd _).1 p.h)).1.cell 1
                have g2 : ∀ p : In C, p.w.cell? ⟨G, 2, none⟩ = some (.string of) := fun p => (hRW _ ((hCd _).1 p.h)).1.cell 2
                have g3 : ∀ p : In C, p.w.cell? ⟨G, 3, none⟩ = some (.slice oA ols.length ocp) := fun p => (hRW _ ((hCd _).1 p.h)).1.cell 3
                have g4 : ∀ p : In C, p.w.cell? ⟨G, 4, none⟩ = some (.int .i64 on) := fun p => (hRW _ ((hCd _).1 p.h)).1.cell 4
                have g5 : ∀ p : In C, p.w.cell? ⟨G, 5, none⟩ = some (.int .i64 ot) := fun p => (hRW _ ((hCd _).1 p.h)).1.cell 5
                have KT : Hid (∀ wp, CB false wp → Calls Try.prog 14 #[.pointer (some ⟨X, 0, none⟩), .int .i64 oi, .int .i64 oc, .string of, .slice oA ols.length ocp] wp fun e w' => e = .returned (.int .i64 0) ∧ CB true w') := hid (fun wp h => (KA.out wp ((hCB0 _).1 h)).mono fun e w' ⟨h1, h2⟩ => ⟨h1, (hCB1 _).2 h2⟩)
                clear KA
                have HC1 := hid hCB1
                clear hCB0 hCB1 hRW hP hCd
                have M1c : Hid (∀ bb wp, CB bb wp → Calls Try.prog 33 #[.int .i64 on] wp fun e w' => e = .returned (.bool false) ∧ CB bb w') := hid (fun bb wp h => (M1.out wp).mono fun e w' ⟨h1, h2⟩ => ⟨h1, h2 ▸ h⟩)
                have M2c := hid trivial
                go_wp2_with fail
                rw [← HW.out, ← HGG.out]
                refine wp_region_turn CB 23 39 (by decide) (by kernel_rfl) (by kernel_rfl) hC ?_
                have hne : Nonempty (In C) := ⟨⟨wz.drew, HCC.out _ _ hC⟩⟩
                clear hC
                refine wpT_part C HCC.out 23 23 (by kernel_rfl) (by kernel_rfl) (by decide) ?_
                simp only [List.take_succ_cons, List.take_zero, List.drop_succ_cons, List.drop_zero]
                repeat (first | go_big_quiet_step (fail) | quiet_step (fail))
                refine wpQuiet_nil ?_
                refine wpT_turn (.int .i64 0) (by kernel_rfl) (fun wp hwp => ?_) ?_
                · have K := KT.out wp hwp
                  clear KT
                  go_simp
                  exact K
                refine wpT_part C HCC.out 6 30 (by kernel_rfl) (by kernel_rfl) (by decide) ?_
                simp only [List.take_succ_cons, List.take_zero, List.drop_succ_cons, List.drop_zero]
                repeat (first | go_big_quiet_step (fail) | quiet_step (fail))
                refine wpQuiet_nil ?_
                refine wpT_call (by rfl) (.bool false) (by kernel_rfl) (fun bb wp hwp => ?_) ?_
                · have K := M1c.out bb wp hwp
                  clear M1c M2c
                  go_simp
                  exact K
                refine wpT_part C HCC.out 6 37 (by kernel_rfl) (by kernel_rfl) (by decide) ?_
                simp only [List.take_succ_cons, List.take_zero, List.drop_succ_cons, List.drop_zero]
                repeat (first | go_big_quiet_step (fail) | quiet_step (fail))
                refine wpQuiet_nil ?_
                refine wpT_skip (by rfl) (by kernel_rfl) ?_
                refine wpT_part C HCC.out 1 39 (by kernel_rfl) (by kernel_rfl) (by decide) ?_
                simp only [List.take_succ_cons, List.take_zero, List.drop_succ_cons, List.drop_zero]
                repeat (first | go_big_quiet_step (fail) | quiet_step (fail))
                refine wpQuiet_nil ?_
                refine wpT_nil ?_
                intro wq hq
                have hP7 := (HC1.out _).1 hq
                clear g0 g1 g2 g3 g4 g5 hne hq HC1 HCC KT M1c M2c q0 q1 q2 q3 q4 q5
                obtain ⟨oo, hP7⟩ := hP7
                have HB := hid hP7.bel
                clear hP7
                go_wp2_with fail
                go_ret2
                exact ⟨.bad HBAD.out, HB.out⟩
            · have KA : Hid (∀ w', RW w X BP BO G #[.int .i64 oi, .int .i64 oc, .string of, .slice oA ols.length ocp, .int .i64 on, .int .i64 ot] il os w' → Calls Try.prog 14 #[.pointer (some ⟨X, 0, none⟩), .int .i64 oi, .int .i64 oc, .string of, .slice oA ols.length ocp] w' fun e w'' => e = .returned (.int .i64 (errL il os oi oc of ols)) ∧ RW w X BP BO G #[.int .i64 oi, .int .i64 oc, .string of, .slice oA ols.length ocp, .int .i64 on, .int .i64 ot] il os w'') := hid (fun w' h => (add_no h.book oi oc of oA ocp ols HX.out.flow (HX.out.rd.below h.bel) HX.out.room HX.out.cap hz).mono fun e w'' ⟨h1, h2⟩ => ⟨h1, h.next h2⟩)
              have HBAD := hid (show ¬ GoodR il ol from fun hh => hz (by
                obtain ⟨_, h2, h3, _⟩ := hh.2 k _ HO.out
                exact errL_ok h2 h3 (by rw [HNONE.out]; rfl)))
              have hzb : (errL il os oi oc of ols != 0) = true := by simpa using hz
              generalize errL il os oi oc of ols = z at KA hzb
              clear hz
              obtain ⟨CB, hCB0, hCB1⟩ : ∃ CB : Bool → World → Prop, (∀ w', CB false w' ↔ RW w X BP BO G #[.int .i64 oi, .int .i64 oc, .string of, .slice oA ols.length ocp, .int .i64 on, .int .i64 ot] il os w') ∧ (∀ w', CB true w' ↔ RW w X BP BO G #[.int .i64 oi, .int .i64 oc, .string of, .slice oA ols.length ocp, .int .i64 on, .int .i64 ot] il os w') := ⟨fun b w' => match b with | false => RW w X BP BO G #[.int .i64 oi, .int .i64 oc, .string of, .slice oA ols.length ocp, .int .i64 on, .int .i64 ot] il os w' | true => RW w X BP BO G #[.int .i64 oi, .int .i64 oc, .string of, .slice oA ols.length ocp, .int .i64 on, .int .i64 ot] il os w', fun _ => Iff.rfl, fun _ => Iff.rfl⟩
              have hRW : ∀ w', (∃ b, CB b w') → Blk w' G 35 #[.int .i64 oi, .int .i64 oc, .string of, .slice oA ols.length ocp, .int .i64 on, .int .i64 ot] ∧ Below w.heap.size w w' := fun w' hb => by
                obtain ⟨bb, hb⟩ := hb
                cases bb with
                | false => exact ⟨((hCB0 _).1 hb).blk, ((hCB0 _).1 hb).bel⟩
                | true => exact ⟨((hCB1 _).1 hb).blk, ((hCB1 _).1 hb).bel⟩
              obtain ⟨C, hCd⟩ : ∃ C : World → Prop, ∀ w', C w' ↔ ∃ b, CB b w' := ⟨_, fun _ => Iff.rfl⟩
              have HCC := hid (fun b w' (h : CB b w') => (hCd w').2 ⟨b, h⟩)
              have hC : CB false wz.drew := (hCB0 _).2 hP
              have g0 : ∀ p : In C, p.w.cell? ⟨G, 0, none⟩ = some (.int .i64 oi) := fun p => (hRW _ ((hCd _).1 p.h)).1.cell 0
              have g1 : ∀ p : In C, p.w.cell? ⟨G, 1, none⟩ = some (.int .i64 oc) := fun p => (hRW _ ((hCd _).1 p.h)).1.cell 1
              have g2 : ∀ p : In C, p.w.cell? ⟨G, 2, none⟩ = some (.string of) := fun p => (hRW _ ((hCd _).1 p.h)).1.cell 2
              have g3 : ∀ p : In C, p.w.cell? ⟨G, 3, none⟩ = some (.slice oA ols.length ocp) := fun p => (hRW _ ((hCd _).1 p.h)).1.cell 3
              have g4 : ∀ p : In C, p.w.cell? ⟨G, 4, none⟩ = some (.int .i64 on) := fun p => (hRW _ ((hCd _).1 p.h)).1.cell 4
              have g5 : ∀ p : In C, p.w.cell? ⟨G, 5, none⟩ = some (.int .i64 ot) := fun p => (hRW _ ((hCd _).1 p.h)).1.cell 5
              have KT : Hid (∀ wp, CB false wp → Calls Try.prog 14 #[.pointer (some ⟨X, 0, none⟩), .int .i64 oi, .int .i64 oc, .string of, .slice oA ols.length ocp] wp fun e w' => e = .returned (.int .i64 z) ∧ CB true w') := hid (fun wp h => (KA.out wp ((hCB0 _).1 h)).mono fun e w' ⟨h1, h2⟩ => ⟨h1, (hCB1 _).2 h2⟩)
              clear KA
              have HC1 := hid hCB1
              clear hCB0 hCB1 hRW hP hCd
              have M1c := hid trivial
              have M2c := hid trivial
              go_wp2_with fail
              rw [← HW.out, ← HGG.out]
              refine wp_region_turn CB 23 39 (by decide) (by kernel_rfl) (by kernel_rfl) hC ?_
              have hne : Nonempty (In C) := ⟨⟨wz.drew, HCC.out _ _ hC⟩⟩
              clear hC
              refine wpT_part C HCC.out 23 23 (by kernel_rfl) (by kernel_rfl) (by decide) ?_
              simp only [List.take_succ_cons, List.take_zero, List.drop_succ_cons, List.drop_zero]
              repeat (first | go_big_quiet_step (fail) | quiet_step (fail))
              refine wpQuiet_nil ?_
              refine wpT_turn (.int .i64 z) (by kernel_rfl) (fun wp hwp => ?_) ?_
              · have K := KT.out wp hwp
                clear KT
                go_simp
                exact K
              refine wpT_part C HCC.out 6 30 (by kernel_rfl) (by kernel_rfl) (by decide) ?_
              simp only [List.take_succ_cons, List.take_zero, List.drop_succ_cons, List.drop_zero]
              repeat (first | go_big_quiet_step (fail) | quiet_step (fail))
              refine wpQuiet_nil ?_
              refine wpT_skip (by rfl) (by kernel_rfl) ?_
              refine wpT_part C HCC.out 6 37 (by kernel_rfl) (by kernel_rfl) (by decide) ?_
              simp only [List.take_succ_cons, List.take_zero, List.drop_succ_cons, List.drop_zero]
              repeat (first | go_big_quiet_step (fail) | quiet_step (fail))
              refine wpQuiet_nil ?_
              refine wpT_skip (by rfl) (by kernel_rfl) ?_
              refine wpT_part C HCC.out 1 39 (by kernel_rfl) (by kernel_rfl) (by decide) ?_
              simp only [List.take_succ_cons, List.take_zero, List.drop_succ_cons, List.drop_zero]
              repeat (first | go_big_quiet_step (fail) | quiet_step (fail))
              refine wpQuiet_nil ?_
              refine wpT_nil ?_
              intro wq hq
              have hP7 := (HC1.out _).1 hq
              clear g0 g1 g2 g3 g4 g5 hne hq HC1 HCC KT M1c M2c q0 q1 q2 q3 q4 q5
              have HB := hid hP7.bel
              clear hP7
              go_wp2_with fail
              go_ret2
              exact ⟨.bad HBAD.out, HB.out⟩
        · have hk' : k = ol.length := by omega
          subst hk'
          have HALL := hid (show RestP il ol w (.returned (.tuple #[.pointer (some ⟨X, 0, none⟩), .int .i64 0])) wr ∧ Below w.heap.size w wr from ⟨⟨fun _ => ⟨X, BP, BO, os, rfl, h, hO.out.2.1, by rw [hO.out.2.2, List.take_length]⟩, fun hh => absurd (goodR_all hG.out hO.out.1) hh⟩, hb⟩)
          clear hk hlt h hb
          go_wp2_with fail
          go_ret2
          exact HALL.out

end Go.Proofs.Ytdgoifnhlpjnpaa
