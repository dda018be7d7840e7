/-
  Layer 19: the walk of OrdersRise.
-/
import Derived.Test.YtdgoifnhlpjnpaaOmayW
namespace Go.Proofs.Ytdgoifnhlpjnpaa
open Go.RowKit Go.WideShapes Go.ChangeShapes Go.ChangeAt Go.Deep
set_option linter.unusedVariables false

section
variable {w0 w w' : World} {n0 X BP BO : Nat} {pr : List (Int × Int)} {os : List (Int × Od)}
theorem rise_at {ids : List Int} (h : ids.Pairwise (fun a b => a < b)) {k : Nat} {a b : Int} (hk : 0 < k) (ha : ids[k - 1]? = some a) (hb : ids[k]? = some b) : a < b := by
  have h1 := (List.getElem?_eq_some_iff.1 ha).1
  have h2 := (List.getElem?_eq_some_iff.1 hb).1
  have := (List.pairwise_iff_getElem.1 h) (k - 1) k h1 h2 (by omega)
  rw [(List.getElem?_eq_some_iff.1 ha).2, (List.getElem?_eq_some_iff.1 hb).2] at this
  exact this
/-- An order that All tells. -/
theorem bare_at (hk : OsOk os) (hd : (os.map (·.1)).Nodup) {ids : List Int} {l : List Od} (hp : ids.Perm (os.map (·.1))) (hb : l.map bare = ids.map (fun id => bare (odAt os id))) {k : Nat} {o : Od} (ho : l[k]? = some o) :
    ∃ id, ids[k]? = some id ∧ o.i = id ∧ 1 ≤ id ∧ id ≤ 256 ∧ 1 ≤ o.c ∧ o.c ≤ 64 ∧ 1 ≤ o.ls.length ∧ o.ls.length ≤ 4 := by
  have h1 := congrArg (fun x => x[k]?) hb
  simp only [List.getElem?_map, ho, Option.map_some] at h1
  cases hi : ids[k]? with
  | none => rw [hi] at h1; simp at h1
  | some id =>
    rw [hi] at h1
    simp only [Option.map_some, Option.some.injEq] at h1
    obtain ⟨v, hv⟩ := mget_key (hp.mem_iff.1 (List.mem_of_getElem? hi))
    obtain ⟨a1, a2, a3, a4, a5, a6, a7⟩ := hk _ (mget_mem hv)
    simp only at a1 a2 a3 a4 a5 a6 a7
    have e : odAt os id = v := by unfold odAt; rw [hv]; rfl
    rw [e] at h1
    have e1 : o.i = v.i := (show (bare o).i = (bare v).i from by rw [h1])
    have e2 : o.c = v.c := (show (bare o).c = (bare v).c from by rw [h1])
    have e3 : o.ls = v.ls := (show (bare o).ls = (bare v).ls from by rw [h1])
    exact ⟨id, rfl, by rw [e1, a3], a1, a2, by rw [e2]; exact a4, by rw [e2]; exact a5, by rw [e3]; exact a6, by rw [e3]; exact a7⟩
end

set_option maxRecDepth 100000 in
set_option maxHeartbeats 16000000 in
theorem ordersRise_walk (l : List Opn) (A : Option Addr) (cp : Nat) (w : World) (hR : Rd w A (l.flatMap enOp)) (hok : ∀ x ∈ l, OkOp w x) (hl : l.length * 72 ≤ 140737488351232) :
    Calls Try.prog 5 #[.slice A l.length cp] w (Law w) := by
  have HOK := hid hok
  clear hok
  go_enter Try.func5, Try.ntmps5
  go_wp2_with fail
  refine (wakes_any _).mono ?_
  rintro e w1 ⟨rfl, hb⟩
  go_wp2_with fail
  refine (new_any _).mono ?_
  rintro e w2 ⟨X, BP, BO, rfl, h, hb1⟩
  have hS : St w w1.heap.size X BP BO [] [] w2 := ⟨h, (fun _ _ hp => by simp [mget] at hp), (fun p hp => by cases hp), bthen hb hb1, hb.size, hb1.size⟩
  have hw := hb.size
  clear h hb hb1
  obtain ⟨n0, hn0⟩ : ∃ n0, n0 = w1.heap.size := ⟨_, rfl⟩
  rw [← hn0] at hS hw
  clear hn0
  go_wp2_with fail
  go_loopw [17] (fun i wr => ∃ (k : Nat) (pr : List (Int × Int)) (os : List (Int × Od)), k ≤ l.length ∧ i = .int .i64 k ∧ St w n0 X BP BO pr os wr) (fun i _ => l.length - nOf i)
  case atStart => exact ⟨0, [], [], Nat.zero_le _, rfl, hS⟩
  case round =>
    clear hS
    obtain ⟨k, pr, os, hk, rfl, hS⟩ := hrel
    by_cases hlt : k < l.length
    · obtain ⟨x, hx⟩ : ∃ x, l[k]? = some x := ⟨l[k], List.getElem?_eq_getElem hlt⟩
      have HX := hid (HOK.out x (List.mem_of_getElem? hx))
      obtain ⟨b, off, hAA, hbs, hcc⟩ := (hR.below hS.bel).at_ 6 enOp_len (by omega) hx
      obtain ⟨xo, xi, xc, xp, xf, xA, xcap, xls⟩ := x
      have q0 : wr.cell? ⟨b, off + k * 6, none⟩ = some (.bool xo) := hcc 0 _ rfl
      have q1 : wr.cell? ⟨b, off + k * 6 + 1, none⟩ = some (.int .i64 xi) := hcc 1 _ rfl
      have q2 : wr.cell? ⟨b, off + k * 6 + 2, none⟩ = some (.int .i64 xc) := hcc 2 _ rfl
      have q3 : wr.cell? ⟨b, off + k * 6 + 3, none⟩ = some (.int .i64 xp) := hcc 3 _ rfl
      have q4 : wr.cell? ⟨b, off + k * 6 + 4, none⟩ = some (.string xf) := hcc 4 _ rfl
      have q5 : wr.cell? ⟨b, off + k * 6 + 5, none⟩ = some (.slice xA xls.length xcap) := hcc 5 _ rfl
      have hwb : Below wr.heap.size wr (wr.alloc (.cells #[.bool xo, .int .i64 xi, .int .i64 xc, .int .i64 xp, .string xf, .slice xA xls.length xcap] 28)) := (Below.refl _ _).alloc (Nat.le_refl _) _
      have hP : Pl w n0 X BP BO wr.heap.size ⟨xo, xi, xc, xp, xf, xA, xcap, xls⟩ pr os (wr.alloc (.cells #[.bool xo, .int .i64 xi, .int .i64 xc, .int .i64 xp, .string xf, .slice xA xls.length xcap] 28)) := ⟨hS.next hwb, Blk.new _ _ _⟩
      obtain ⟨wz, hwz⟩ : ∃ wz, wz = wr.alloc (.cells #[.bool xo, .int .i64 xi, .int .i64 xc, .int .i64 xp, .string xf, .slice xA xls.length xcap] 28) := ⟨_, rfl⟩
      obtain ⟨G, hG⟩ : ∃ G, G = wr.heap.size := ⟨_, rfl⟩
      have HW := hid hwz
      have HG := hid hG
      rw [← hwz, ← hG] at hP
      clear hcc hx hwb hS hwz hG hbs
      subst hAA
      obtain ⟨p0, p1, p2, p3, p4, p5, lG⟩ := hP.cells
      simp only at p0 p1 p2 p3 p4 p5
      cases xo with
      | false =>
        have K := hid (hP.item xi xp)
        clear hP
        go_wp2_with fail
        rw [← HW.out, ← HG.out]
        go_wp2_with fail
        refine K.out.mono ?_
        rintro e w5 ⟨z, pr', rfl, hP⟩
        clear K p0 p1 p2 p3 p4 p5 lG q0 q1 q2 q3 q4 q5
        go_wp2_with fail
        go_roundw
        case rel => exact ⟨k + 1, pr', os, by omega, by go_num, hP.st⟩
        case measure => simp [nOf]; omega
      | true =>
        have K := hid (hP.add HX.out)
        simp only at K
        clear hP
        go_wp2_with fail
        rw [← HW.out, ← HG.out]
        go_wp2_with fail
        refine K.out.mono ?_
        rintro e w5 ⟨z, os', rfl, hP⟩
        clear K p0 p1 p2 p3 p4 p5 lG q0 q1 q2 q3 q4 q5
        go_wp2_with fail
        go_roundw
        case rel => exact ⟨k + 1, pr, os', by omega, by go_num, hP.st⟩
        case measure => simp [nOf]; omega
    · clear hk HOK hR
      have K1 := hid (items_any hS.book hS.fewP)
      have K2 := hid (fun w' (hb : Below wr.heap.size wr w') => all_any (hS.next hb).book hS.fewO hS.four)
      unfold ItemsPost at K1
      unfold AllPost at K2
      have H0 := hid hS
      clear hS
      generalize wr = wA at *
      go_wp2_with fail
      refine K1.out.mono ?_
      rintro e w5 ⟨A5, c5, ids, rfl, hp5, hr5, hO5, hb5⟩
      go_wp2_with fail
      refine (K2.out _ hb5).mono ?_
      rintro e w6 ⟨A6, c6, ids2, l2, rfl, hl2, hp6, hr6, hbr, hO6, _, hb6⟩
      have hRI := hid (And.intro (own_rd (hO5.kept (grown_of_below hb6 none) (by cases hv : (Value.slice A5 ids.length c5).ownBlock <;> simp))) (own_rd hO6))
      have HB := hid (bthen (bthen H0.out.bel hb5) hb6)
      have HI := hid (And.intro hp5 hr5)
      have HJ := hid (And.intro hp6 (And.intro hr6 (And.intro hbr hl2)))
      have h64 : ids.length ≤ 64 := by have := hp5.length_eq; have := H0.out.fewP; simp at *; omega
      have h256 : l2.length ≤ 256 := by have := hp6.length_eq; have := H0.out.fewO; simp at *; omega
      clear K1 K2 hp5 hr5 hO5 hb5 hp6 hr6 hbr hO6 hb6 hl2
      go_wp2_with fail
      go_loopw [46] (fun i wr => ∃ k : Nat, k ≤ ids.length ∧ i = .int .i64 k ∧ Below w6.heap.size w6 wr) (fun i _ => ids.length - nOf i)
      case atStart => exact ⟨0, Nat.zero_le _, rfl, Below.refl _ _⟩
      case round =>
        obtain ⟨k, hk, rfl, hb⟩ := hrel
        by_cases hlt : k < ids.length
        · obtain ⟨id, hid'⟩ : ∃ id, ids[k]? = some id := ⟨ids[k], List.getElem?_eq_getElem hlt⟩
          have hin : id ∈ pr.map (·.1) := HI.out.1.mem_iff.1 (List.mem_of_getElem? hid')
          obtain ⟨pv, hpv⟩ := mget_key hin
          obtain ⟨b1, b2, b3, b4⟩ := H0.out.pok id pv hpv
          have hel : (itL pr ids)[k]? = some (id, pv) := by unfold itL; rw [List.getElem?_map, hid']; simp [hpv]
          obtain ⟨b, off, rfl, hbl, hcc⟩ := (hRI.out.1.below hb).at_ 2 en2_len (by omega) hel
          have q0 : wr.cell? ⟨b, off + k * 2, none⟩ = some (.int .i64 id) := hcc 0 _ rfl
          have q1 : wr.cell? ⟨b, off + k * 2 + 1, none⟩ = some (.int .i64 pv) := hcc 1 _ rfl
          have t1 : decide (id < 1) = false := decide_eq_false (by omega)
          have t2 : decide (64 < id) = false := decide_eq_false (by omega)
          have t3 : decide (pv < 0) = false := decide_eq_false (by omega)
          have t4 : decide (1000000 < pv) = false := decide_eq_false (by omega)
          have hwb : Below wr.heap.size wr (wr.alloc (.cells #[.int .i64 id, .int .i64 pv] 44)) := (Below.refl _ _).alloc (Nat.le_refl _) _
          have hG0 : Blk (wr.alloc (.cells #[.int .i64 id, .int .i64 pv] 44)) wr.heap.size 44 #[.int .i64 id, .int .i64 pv] := Blk.new _ _ _
          obtain ⟨wz, hwz⟩ : ∃ wz, wz = wr.alloc (.cells #[.int .i64 id, .int .i64 pv] 44) := ⟨_, rfl⟩
          obtain ⟨G, hGG⟩ : ∃ G, G = wr.heap.size := ⟨_, rfl⟩
          have HW := hid hwz
          have HGG := hid hGG
          have hbz := bthen hb hwb
          rw [← hwz, ← hGG] at hG0
          rw [← hwz] at hbz
          have hID := hid hid'
          clear hcc hwb hwz hGG hb hel hin hpv hid' b1 b2 b3 b4
          obtain ⟨C, hCd⟩ : ∃ C : World → Prop, ∀ w', C w' ↔ Below wz.heap.size wz w' := ⟨_, fun _ => Iff.rfl⟩
          have hC : C wz.drew := (hCd _).2 ((Below.refl _ _).drew)
          have g0 : ∀ p : In C, p.w.cell? ⟨G, 0, none⟩ = some (.int .i64 id) := fun p => (hG0.next ((hCd _).1 p.h)).cell 0
          have g1 : ∀ p : In C, p.w.cell? ⟨G, 1, none⟩ = some (.int .i64 pv) := fun p => (hG0.next ((hCd _).1 p.h)).cell 1
          have HCd := hid hCd
          have HBZ := hid hbz
          clear hCd hbz hG0
          by_cases hk0 : 0 < k
          · obtain ⟨pid, hpid⟩ : ∃ pid, ids[k - 1]? = some pid := ⟨ids[k - 1], List.getElem?_eq_getElem (by omega)⟩
            have hlt2 := rise_at HI.out.2 hk0 hpid hID.out
            have t5 : decide (id ≤ pid) = false := decide_eq_false (by omega)
            have t6 : decide ((0 : Int) < (k : Int)) = true := decide_eq_true (by omega)
            have hkw : IntKind.i64.wrap ((k : Int) - 1) = ((k - 1 : Nat) : Int) := by rw [IntWalk.i64_in _ ⟨by omega, by omega⟩]; omega
            have hkl : k - 1 < ids.length := by omega
            have hel : (itL pr ids)[k - 1]? = some (pid, (mget pr pid).getD 0) := by unfold itL; rw [List.getElem?_map, hpid]; rfl
            have r0 : ∀ p : In C, p.w.cell? ⟨b, off + (k - 1) * 2, none⟩ = some (.int .i64 pid) := fun p => by
              obtain ⟨b', off', e, _, hc⟩ := (hRI.out.1.below (bthen HBZ.out ((HCd.out _).1 p.h))).at_ 2 en2_len (by omega) hel
              simp only [Option.some.injEq, Addr.mk.injEq, and_true] at e
              obtain ⟨rfl, rfl⟩ := e
              exact hc 0 _ rfl
            clear hpid hel hlt2
            go_wp2_with fail
            rw [← HW.out, ← HGG.out]
            refine wp_region_in C (by kernel_rfl) (by kernel_rfl) hC ?_
            intro hne
            clear hC
            repeat (first | go_big_quiet_step (fail) | quiet_step (fail))
            refine wpQuiet_nil ?_
            intro wq hq
            have hb := bthen HBZ.out ((HCd.out _).1 hq)
            clear g0 g1 r0 hne hq HCd hkw
            go_wp2_with fail
            go_roundw
            case rel => exact ⟨k + 1, by omega, by go_num, hb⟩
            case measure => simp [nOf]; omega
          · have t6 : decide ((0 : Int) < (k : Int)) = false := decide_eq_false (by omega)
            have t7 : decide (0 < k) = false := decide_eq_false (by omega)
            go_wp2_with fail
            rw [← HW.out, ← HGG.out]
            refine wp_region_in C (by kernel_rfl) (by kernel_rfl) hC ?_
            intro hne
            clear hC
            repeat (first | go_big_quiet_step (fail) | quiet_step (fail))
            refine wpQuiet_nil ?_
            intro wq hq
            have hb := bthen HBZ.out ((HCd.out _).1 hq)
            clear g0 g1 hne hq HCd
            go_wp2_with fail
            go_roundw
            case rel => exact ⟨k + 1, by omega, by go_num, hb⟩
            case measure => simp [nOf]; omega
        · clear hk
          go_wp2_with fail
          go_loopw [87] (fun i wr => ∃ k : Nat, k ≤ l2.length ∧ i = .int .i64 k ∧ Below w6.heap.size w6 wr) (fun i _ => l2.length - nOf i)
          case atStart => exact ⟨0, Nat.zero_le _, rfl, hb⟩
          case round =>
            clear hb
            obtain ⟨k, hk, rfl, hb⟩ := hrel
            by_cases hlt : k < l2.length
            · obtain ⟨o, ho⟩ : ∃ o, l2[k]? = some o := ⟨l2[k], List.getElem?_eq_getElem hlt⟩
              obtain ⟨id, hid', h1, h2, h3, h4, h5, h6, h7⟩ := bare_at H0.out.ook H0.out.book.ods.nodup HJ.out.1 HJ.out.2.2.1 ho
              obtain ⟨b, off, rfl, hbl, hcc⟩ := (hRI.out.2.below hb).at_ 6 enO6_len (by omega) ho
              obtain ⟨oi, oc, of, ob, ocp, ols, on, ot⟩ := o
              simp only at h1 h2 h3 h4 h5 h6 h7
              have q0 : wr.cell? ⟨b, off + k * 6, none⟩ = some (.int .i64 oi) := hcc 0 _ rfl
              have q1 : wr.cell? ⟨b, off + k * 6 + 1, none⟩ = some (.int .i64 oc) := hcc 1 _ rfl
              have q2 : wr.cell? ⟨b, off + k * 6 + 2, none⟩ = some (.string of) := hcc 2 _ rfl
              have q3 : wr.cell? ⟨b, off + k * 6 + 3, none⟩ = some (.slice (some ⟨ob, 0, none⟩) ols.length ocp) := hcc 3 _ rfl
              have q4 : wr.cell? ⟨b, off + k * 6 + 4, none⟩ = some (.int .i64 on) := hcc 4 _ rfl
              have q5 : wr.cell? ⟨b, off + k * 6 + 5, none⟩ = some (.int .i64 ot) := hcc 5 _ rfl
              have t1 : decide (oi < 1) = false := decide_eq_false (by omega)
              have t2 : decide (256 < oi) = false := decide_eq_false (by omega)
              have t3 : decide (oc < 1) = false := decide_eq_false (by omega)
              have t4 : decide (64 < oc) = false := decide_eq_false (by omega)
              have t8 : decide ((ols.length : Int) < 1) = false := decide_eq_false (by omega)
              have t9 : decide ((4 : Int) < (ols.length : Int)) = false := decide_eq_false (by omega)
              have hwb : Below wr.heap.size wr (wr.alloc (.cells (enO6 ⟨oi, oc, of, ob, ocp, ols, on, ot⟩).toArray 35)) := (Below.refl _ _).alloc (Nat.le_refl _) _
              have hG0 : Blk (wr.alloc (.cells #[.int .i64 oi, .int .i64 oc, .string of, .slice (some ⟨ob, 0, none⟩) ols.length ocp, .int .i64 on, .int .i64 ot] 35)) wr.heap.size 35 #[.int .i64 oi, .int .i64 oc, .string of, .slice (some ⟨ob, 0, none⟩) ols.length ocp, .int .i64 on, .int .i64 ot] := Blk.new _ _ _
              obtain ⟨wz, hwz⟩ : ∃ wz, wz = wr.alloc (.cells #[.int .i64 oi, .int .i64 oc, .string of, .slice (some ⟨ob, 0, none⟩) ols.length ocp, .int .i64 on, .int .i64 ot] 35) := ⟨_, rfl⟩
              obtain ⟨G, hGG⟩ : ∃ G, G = wr.heap.size := ⟨_, rfl⟩
              have HW := hid hwz
              have HGG := hid hGG
              have hbz : Below w6.heap.size w6 wz := by rw [hwz]; exact bthen hb hwb
              rw [← hwz, ← hGG] at hG0
              have hID := hid hid'
              have HO := hid ho
              have HI1 := hid h1
              clear hcc hwb hwz hGG hb hid' ho h1 h2 h3 h4 h5 h6 h7
              obtain ⟨C, hCd⟩ : ∃ C : World → Prop, ∀ w', C w' ↔ Below wz.heap.size wz w' := ⟨_, fun _ => Iff.rfl⟩
              have hC : C wz.drew := (hCd _).2 ((Below.refl _ _).drew)
              have g0 : ∀ p : In C, p.w.cell? ⟨G, 0, none⟩ = some (.int .i64 oi) := fun p => (hG0.next ((hCd _).1 p.h)).cell 0
              have g1 : ∀ p : In C, p.w.cell? ⟨G, 1, none⟩ = some (.int .i64 oc) := fun p => (hG0.next ((hCd _).1 p.h)).cell 1
              have g3 : ∀ p : In C, p.w.cell? ⟨G, 3, none⟩ = some (.slice (some ⟨ob, 0, none⟩) ols.length ocp) := fun p => (hG0.next ((hCd _).1 p.h)).cell 3
              have HCd := hid hCd
              have HBZ := hid hbz
              clear hCd hbz hG0
              by_cases hk0 : 0 < k
              · obtain ⟨o', ho'⟩ : ∃ o', l2[k - 1]? = some o' := ⟨l2[k - 1], List.getElem?_eq_getElem (by omega)⟩
                obtain ⟨pid, hpid, hi', _⟩ := bare_at H0.out.ook H0.out.book.ods.nodup HJ.out.1 HJ.out.2.2.1 ho'
                have hlt2 := rise_at HJ.out.2.1 hk0 hpid hID.out
                have hi1 := HI1.out
                have t5 : decide (oi ≤ o'.i) = false := decide_eq_false (by omega)
                have t6 : decide ((0 : Int) < (k : Int)) = true := decide_eq_true (by omega)
                have hkw : IntKind.i64.wrap ((k : Int) - 1) = ((k - 1 : Nat) : Int) := by rw [IntWalk.i64_in _ ⟨by omega, by omega⟩]; omega
                have hkl : k - 1 < l2.length := by omega
                have r0 : ∀ p : In C, p.w.cell? ⟨b, off + (k - 1) * 6, none⟩ = some (.int .i64 o'.i) := fun p => by
                  obtain ⟨b', off', e, _, hc⟩ := (hRI.out.2.below (bthen HBZ.out ((HCd.out _).1 p.h))).at_ 6 enO6_len (by omega) ho'
                  simp only [Option.some.injEq, Addr.mk.injEq, and_true] at e
                  obtain ⟨rfl, rfl⟩ := e
                  exact hc 0 _ rfl
                clear hpid hlt2 hi' hi1 ho'
                go_wp2_with fail
                rw [← HW.out, ← HGG.out]
                refine wp_region_in C (by kernel_rfl) (by kernel_rfl) hC ?_
                intro hne
                clear hC
                repeat (first | go_big_quiet_step (fail) | quiet_step (fail))
                refine wpQuiet_nil ?_
                intro wq hq
                have hb := bthen HBZ.out ((HCd.out _).1 hq)
                clear g0 g1 g3 r0 hne hq HCd hkw
                go_wp2_with fail
                go_roundw
                case rel => exact ⟨k + 1, by omega, by go_num, hb⟩
                case measure => simp [nOf]; omega
              · have t6 : decide ((0 : Int) < (k : Int)) = false := decide_eq_false (by omega)
                have t7 : decide (0 < k) = false := decide_eq_false (by omega)
                go_wp2_with fail
                rw [← HW.out, ← HGG.out]
                refine wp_region_in C (by kernel_rfl) (by kernel_rfl) hC ?_
                intro hne
                clear hC
                repeat (first | go_big_quiet_step (fail) | quiet_step (fail))
                refine wpQuiet_nil ?_
                intro wq hq
                have hb := bthen HBZ.out ((HCd.out _).1 hq)
                clear g0 g1 g3 hne hq HCd
                go_wp2_with fail
                go_roundw
                case rel => exact ⟨k + 1, by omega, by go_num, hb⟩
                case measure => simp [nOf]; omega
            · clear hk
              have hbf := hid (bthen HB.out hb)
              clear hb
              go_wp2_with fail
              go_ret
              exact ⟨by simp, hbf.out⟩

end Go.Proofs.Ytdgoifnhlpjnpaa
