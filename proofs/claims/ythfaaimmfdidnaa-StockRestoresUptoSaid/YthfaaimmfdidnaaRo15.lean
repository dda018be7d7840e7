/-
  The document's stock book: Receive, Fit, Onward.
  The document's stock book: Fit, Onward, Free.
  The document's stock book: Onward, Free.
  The document's stock book: Allocate.
-/
import Derived.Test.YthfaaimmfdidnaaRp15
import Derived.Test.YthfaaimmfdidnaaRl15
import Derived.Test.YthfaaimmfdidnaaPs15
import Derived.StillTailTactics
namespace Go.Proofs.Ythfaaimmfdidnaa
open Go.RowKit Go.WideShapes Go.ChangeShapes Go.ChangeAt Go.Deep
set_option linter.unusedVariables false

def RT2 (n R : Nat) (A1 A2 : Option Addr) (k : Nat) : Prop := RT n R A1 k ∨ RT n R A2 k
def RefPost (base R : Nat) (A1 A2 : Option Addr) (z : Int) (X : MapRel) (w : World) (e : Ending) (w' : World) : Prop :=
  ∃ A1' c1' is' A2' c2' rs', e = .returned (.int .i64 z) ∧ IsRef base w' R A1' c1' is' A2' c2' rs' ∧ (∀ lv' gs', X lv' gs' → RelS lv' gs' is' rs') ∧ Touch (RT2 w.heap.size R A1 A2) w w'

section
variable {base R c1 c2 : Nat} {A1 A2 : Option Addr} {is : List (Int × Int)} {rs : List Gd} {lv : List (Int × Lv)} {gs : List (Int × Gd)} {w w' : World}
theorem RefPost.same {z : Int} {X : MapRel} {e : Ending} (h : IsRef base w R A1 c1 is A2 c2 rs) (hX : ∀ lv' gs', X lv' gs' → RelS lv' gs' is rs) (he : e = .returned (.int .i64 z)) (hb : Below w.heap.size w w') : RefPost base R A1 A2 z X w e w' :=
  ⟨_, _, _, _, _, _, he, h.next hb, hX, .of_below hb⟩

theorem ritem_step (h : IsRef base w R A1 c1 is A2 c2 rs) (hM : RelS lv gs is rs) (hG : GoodB lv gs) (hbw : base ≤ w.heap.size) (id : Int) :
    Calls Try.prog 39 #[.pointer (some ⟨R, 0, none⟩), .int .i64 id] w (RefPost base R A1 A2 (itemZ id) (ItemR lv gs id) w) := by
  have hlen : is.length ≤ 64 := by rw [hM.lenI]; exact hG.few
  by_cases hok : 1 ≤ id ∧ id ≤ 64
  · have hz : itemZ id = 0 := if_pos hok
    rw [hz]
    rcases hM.item id with ⟨k, a, hk, hy, hm, he⟩ | ⟨hm, hn, he⟩
    · refine (ritem_old h id hok (by omega) he).mono ?_
      rintro e w' ⟨h1, rfl⟩
      refine .same h (fun lv' gs' hx => ?_) h1 (Below.refl _ _)
      rcases hx with ⟨rfl, ⟨_, rfl⟩ | ⟨_, _, rfl⟩ | ⟨_, h3, _⟩⟩
      · exact hM
      · exact hM
      · rw [hm] at h3; cases h3
    · refine (ritem_new h hM.sortI id hok hn (by omega) hbw).mono ?_
      rintro e w' ⟨A', c', h1, h2, h3⟩
      refine ⟨_, _, _, _, _, _, h1, h2, fun lv' gs' hx => ?_, h3.mono (fun k hk => .inl hk)⟩
      rcases hx with ⟨rfl, ⟨h4, _⟩ | ⟨_, ⟨a, h4⟩, _⟩ | ⟨_, _, g, rfl⟩⟩
      · exact absurd hok h4
      · rw [hm] at h4; cases h4
      · exact hM.itemR hm g
  · have hz : itemZ id = 2 := if_neg hok
    rw [hz]
    refine (ritem_no (w := w) id hok (.pointer (some ⟨R, 0, none⟩))).mono ?_
    rintro e w' ⟨h1, rfl⟩
    refine .same h (fun lv' gs' hx => ?_) h1 (Below.refl _ _)
    rcases hx with ⟨rfl, ⟨_, rfl⟩ | ⟨h4, _⟩ | ⟨h4, _⟩⟩
    · exact hM
    · exact absurd h4 hok
    · exact absurd h4 hok

set_option maxRecDepth 100000 in
set_option maxHeartbeats 4000000 in
theorem rrecv_arg (id q : Int) (hno : ¬ (1 ≤ q ∧ q ≤ 1000000)) (v : Value) :
    Calls Try.prog 40 #[v, .int .i64 id, .int .i64 q] w fun e w' => e = .returned (.int .i64 2) ∧ w = w' := by
  rcases (show q < 1 ∨ (1 ≤ q ∧ 1000000 < q) from by omega) with h1 | ⟨h1, h2⟩
  all_goals
    clear hno
    go_enter Try.func40, Try.ntmps40
    go_wp2_with fail
    go_ret
    exact ⟨rfl, rfl⟩
set_option maxRecDepth 100000 in
set_option maxHeartbeats 8000000 in
theorem rrecv_step (h : IsRef base w R A1 c1 is A2 c2 rs) (hM : RelS lv gs is rs) (hG : GoodB lv gs) (id q : Int) :
    Calls Try.prog 40 #[.pointer (some ⟨R, 0, none⟩), .int .i64 id, .int .i64 q] w (RefPost base R A1 A2 (recvZ lv id q) (RecvR lv gs id q) w) := by
  have hlen : is.length ≤ 64 := by rw [hM.lenI]; exact hG.few
  by_cases hok : 1 ≤ q ∧ q ≤ 1000000
  · have F := rfind_any h id (by omega)
    rcases hM.item id with ⟨k, a, hk, hy, hm, he⟩ | ⟨hm, hn, he⟩
    · rw [he] at F
      have hr := (hG.lk id a hm).2.2
      obtain ⟨g, rfl, hbg, hpr⟩ := h.elem1 hy
      have c0 := h.cell0
      have q1 : w.cell? ⟨g, k * 2 + 1, none⟩ = some (.int .i64 a.r) := hpr.2 1 _ rfl
      by_cases hb : 1125899906842624 - q < a.r
      · have hz : recvZ lv id q = 72 := by unfold recvZ; rw [if_pos hok, hm]; simp only; rw [if_pos hb]
        have HX : Hid (∀ lv' gs', RecvR lv gs id q lv' gs' → RelS lv' gs' is rs) := hid (fun lv' gs' hx => by
          rcases hx with ⟨rfl, ⟨_, rfl⟩ | ⟨h4, _⟩⟩
          · exact hM
          · rw [hz] at h4; cases h4)
        rw [hz]
        obtain ⟨o1, o2⟩ := hok
        obtain ⟨r1, r2⟩ := hr
        have w1 : IntKind.i64.wrap (a.r + q) = a.r + q := IntWalk.i64_in _ ⟨by omega, by omega⟩
        have b1 : decide (1125899906842624 < a.r + q) = true := decide_eq_true (by omega)
        have b2 : decide (q < 1) = false := decide_eq_false (by omega)
        have b3 : decide (1000000 < q) = false := decide_eq_false (by omega)
        have HF := hid F
        have H := hid h
        have lR : R < w.heap.size := h.blk.lt
        generalize a.r = ar at q1 w1 b1
        clear F he hy hpr h hz hb hM hm hG r1 r2
        go_enter Try.func40, Try.ntmps40
        go_wp2_with fail
        refine HF.out.mono ?_
        rintro e w1 ⟨rfl, rfl⟩
        go_wp2_with fail
        go_ret
        exact .same H.out HX.out rfl (Below.refl _ _)
      · have hz : recvZ lv id q = 0 := by unfold recvZ; rw [if_pos hok, hm]; simp only; rw [if_neg hb]
        have HX : Hid (∀ lv' gs', RecvR lv gs id q lv' gs' → RelS lv' gs' (is.set k (id, a.r + q)) rs) := hid (fun lv' gs' hx => by
          rcases hx with ⟨rfl, ⟨h4, _⟩ | ⟨_, _, b, h4, _, rfl⟩⟩
          · exact absurd hz h4
          · rw [hm] at h4; injection h4 with h4; subst h4; exact hM.recvR hm hy)
        rw [hz]
        obtain ⟨o1, o2⟩ := hok
        obtain ⟨r1, r2⟩ := hr
        have w1 : IntKind.i64.wrap (a.r + q) = a.r + q := IntWalk.i64_in _ ⟨by omega, by omega⟩
        have b1 : decide (1125899906842624 < a.r + q) = false := decide_eq_false (by omega)
        have b2 : decide (q < 1) = false := decide_eq_false (by omega)
        have b3 : decide (1000000 < q) = false := decide_eq_false (by omega)
        have f1 : w.frozen? ⟨g, k * 2 + 1, none⟩ = false := own_free h.own1 _
        have hI : InsRow en2 2 102 base g c1 w is w := ⟨h.own1, Touch.refl _ _⟩
        have hJ := hI.field (k := k) (j := 1) (x' := (id, a.r + q)) (v := .int .i64 (a.r + q)) en2_len hy (by omega) rfl
        have hB : Blk w R 54 #[.slice (some ⟨g, 0, none⟩) (is.set k (id, a.r + q)).length c1, .slice A2 rs.length c2] := by rw [List.length_set]; exact h.blk
        have hX := hid (h.ins1 hJ hB (Touch.refl _ _) (.inr (.inl rfl)) (by have := h.lt; omega) trivial)
        have HF := hid F
        have lR : R < w.heap.size := h.blk.lt
        have lg : g < w.heap.size := hpr.1
        generalize a.r = ar at q1 w1 b1 hX HX
        clear F he hy hpr h hz hb hM hm hG r1 r2 hI hJ hB
        go_enter Try.func40, Try.ntmps40
        go_wp2_with fail
        refine HF.out.mono ?_
        rintro e w1 ⟨rfl, rfl⟩
        go_wp2_with fail
        refine wp_tail 17 (by kernel_rfl) (by kernel_rfl) ?_
        simp only [List.take_succ_cons, List.take_zero, List.drop_succ_cons, List.drop_zero]
        repeat still_step
        refine wpStill_nil ?_
        go_wp2_with fail
        go_ret
        exact ⟨_, _, _, _, _, _, rfl, hX.out.1.next (below_drewN (Below.refl _ _) 1), HX.out, (hX.out.2.mono (fun k hk => .inl hk)).drewN 1⟩
    · rw [he] at F
      have hz : recvZ lv id q = 70 := by unfold recvZ; rw [if_pos hok, hm]
      have HX : Hid (∀ lv' gs', RecvR lv gs id q lv' gs' → RelS lv' gs' is rs) := hid (fun lv' gs' hx => by
        rcases hx with ⟨rfl, ⟨_, rfl⟩ | ⟨h4, _⟩⟩
        · exact hM
        · rw [hz] at h4; cases h4)
      rw [hz]
      obtain ⟨o1, o2⟩ := hok
      have b2 : decide (q < 1) = false := decide_eq_false (by omega)
      have b3 : decide (1000000 < q) = false := decide_eq_false (by omega)
      have HF := hid F
      have H := hid h
      clear F he hn h hz hM hm hG
      go_enter Try.func40, Try.ntmps40
      go_wp2_with fail
      refine HF.out.mono ?_
      rintro e w1 ⟨rfl, rfl⟩
      go_wp2_with fail
      go_ret
      exact .same H.out HX.out rfl (Below.refl _ _)
  · have hz : recvZ lv id q = 2 := if_neg hok
    rw [hz]
    refine (rrecv_arg (w := w) id q hok (.pointer (some ⟨R, 0, none⟩))).mono ?_
    rintro e w' ⟨h1, rfl⟩
    refine .same h (fun lv' gs' hx => ?_) h1 (Below.refl _ _)
    rcases hx with ⟨rfl, ⟨_, rfl⟩ | ⟨h4, _⟩⟩
    · exact hM
    · rw [hz] at h4; cases h4
end

end Go.Proofs.Ythfaaimmfdidnaa

namespace Go.Proofs.Ythfaaimmfdidnaa
open Go.RowKit Go.WideShapes Go.ChangeShapes Go.ChangeAt Go.Deep
set_option linter.unusedVariables false

section
variable {base R c1 c2 : Nat} {A1 A2 : Option Addr} {is : List (Int × Int)} {rs : List Gd} {lv : List (Int × Lv)} {gs : List (Int × Gd)} {w w' : World}
set_option maxRecDepth 100000 in
set_option maxHeartbeats 4000000 in
theorem rfit_head (o : Int) (A : Option Addr) (cap : Nat) (ls : List Ln) (v : Value) (hno : ¬ headF o ls.length) :
    Calls Try.prog 52 #[v, .int .i64 o, .slice A ls.length cap] w fun e w' => e = .returned (.int .i64 2) ∧ Below w.heap.size w w' := by
  unfold headF at hno
  rcases (show o < 1 ∨ (1 ≤ o ∧ ls.length = 0) ∨ (1 ≤ o ∧ 4 < ls.length) from by omega) with h1 | ⟨h1, h2⟩ | ⟨h1, h2⟩
  · clear hno
    go_enter Try.func52, Try.ntmps52
    go_wp2_with fail
    go_ret
    exact ⟨rfl, Below.refl _ _⟩
  · have b1 : decide (o < 1) = false := decide_eq_false (by omega)
    rw [h2]
    clear hno h1 h2
    go_enter Try.func52, Try.ntmps52
    go_wp2_with fail
    go_ret
    exact ⟨rfl, Below.refl _ _⟩
  · have b1 : decide (o < 1) = false := decide_eq_false (by omega)
    have b2 : decide ((ls.length : Int) < 1) = false := decide_eq_false (by omega)
    have b3 : decide ((4 : Int) < (ls.length : Int)) = true := decide_eq_true (by omega)
    clear hno h1 h2
    go_enter Try.func52, Try.ntmps52
    go_wp2_with fail
    go_ret
    exact ⟨rfl, Below.refl _ _⟩

theorem hasI_false {ls : List Ln} {k : Nat} {id : Int} (h : ∀ j y, j < k → ls[j]? = some y → (y.i == id) = false) : hasI (ls.take k) id = false := by
  unfold hasI
  rw [List.any_eq_false]
  intro y hy
  obtain ⟨j, hj⟩ := List.mem_iff_getElem?.1 hy
  have hjk : j < k := by have := (List.getElem?_eq_some_iff.1 hj).1; simp at this; omega
  rw [List.getElem?_take_of_lt hjk] at hj
  simpa using h j y hjk hj
theorem hasI_true {ls : List Ln} {k j : Nat} {id : Int} {y : Ln} (hjk : j < k) (hj : ls[j]? = some y) (hy : y.i = id) : hasI (ls.take k) id = true := by
  unfold hasI
  rw [List.any_eq_true]
  exact ⟨y, List.mem_of_getElem? (i := j) (by rw [List.getElem?_take_of_lt hjk]; exact hj), by simpa using hy⟩

set_option maxRecDepth 100000 in
set_option maxHeartbeats 16000000 in
theorem rfit_bodyW (h : IsRef base w R A1 c1 is A2 c2 rs) (hM : RelS lv gs is rs) (hlen : is.length ≤ 64) (hrl : rs.length ≤ 140737488355328) (o : Int) (A : Option Addr) (cap : Nat) (ls : List Ln) (hok : headF o ls.length) (hR : Rd w A (ls.flatMap enL)) :
    Calls Try.prog 52 #[.pointer (some ⟨R, 0, none⟩), .int .i64 o, .slice A ls.length cap] w fun e w' => e = .returned (.int .i64 (errF lv gs o ls)) ∧ Below w.heap.size w w' := by
  have HK := hid hok
  obtain ⟨h1, h2, h3⟩ := hok
  have b1 : decide (o < 1) = false := decide_eq_false (by omega)
  have b2 : decide ((ls.length : Int) < 1) = false := decide_eq_false (by omega)
  have b3 : decide ((4 : Int) < (ls.length : Int)) = false := decide_eq_false (by omega)
  have H0 := hid (And.intro h hM)
  clear h hM h1
  go_enter Try.func52, Try.ntmps52
  go_wp2_with fail
  clear b1 b2 b3
  go_loopw [7] (fun i wr => ∃ k : Nat, k ≤ ls.length ∧ i = .int .i64 k ∧ Hid (∀ j, j < k → LnOk ls j) ∧ Below w.heap.size w wr) (fun i _ => ls.length - nOf i)
  case atStart => exact ⟨0, Nat.zero_le _, rfl, hid (fun j hj => by omega), Below.refl _ _⟩
  case round =>
    obtain ⟨k, hk, rfl, hLk, hb⟩ := hrel
    by_cases hlt : k < ls.length
    · obtain ⟨x, hx⟩ : ∃ x, ls[k]? = some x := ⟨ls[k], List.getElem?_eq_getElem hlt⟩
      obtain ⟨b, off, hAA, hbs, hcc⟩ := (hR.below hb).at_ 2 enL_len (by omega) hx
      have HX := hid hx
      obtain ⟨xi, xq⟩ := x
      have q0 : wr.cell? ⟨b, off + k * 2, none⟩ = some (.int .i64 xi) := hcc 0 _ rfl
      have q1 : wr.cell? ⟨b, off + k * 2 + 1, none⟩ = some (.int .i64 xq) := hcc 1 _ rfl
      subst hAA
      clear hcc hx hbs
      by_cases hq1 : 1 ≤ xq
      · by_cases hq2 : xq ≤ 1000000
        · have d1 : decide (xq < 1) = false := decide_eq_false (by omega)
          have d2 : decide (1000000 < xq) = false := decide_eq_false (by omega)
          have HQ := hid (And.intro hq1 hq2)
          have HB := hid hb
          clear hq1 hq2 hb
          go_wp2_with fail
          clear q0 q1 d1 d2
          go_loopw [8] (fun j wr => ∃ m : Nat, m ≤ k ∧ j = .int .i64 m ∧ Hid (∀ j y, j < m → ls[j]? = some y → (y.i == xi) = false) ∧ Below w.heap.size w wr) (fun j _ => k - nOf j)
          case atStart => exact ⟨0, Nat.zero_le _, rfl, hid (fun j y hj => by omega), HB.out⟩
          case round =>
            clear HB
            obtain ⟨m, hm, rfl, hN, hb⟩ := hrel
            by_cases hmk : m < k
            · obtain ⟨y, hy⟩ : ∃ y, ls[m]? = some y := ⟨ls[m], List.getElem?_eq_getElem (by omega)⟩
              obtain ⟨b', off', e, hbs, hcc⟩ := (hR.below hb).at_ 2 enL_len (by omega) hy
              simp only [Option.some.injEq, Addr.mk.injEq, and_true] at e
              obtain ⟨rfl, rfl⟩ := e
              obtain ⟨b', off', e, _, hcx⟩ := (hR.below hb).at_ 2 enL_len (by omega) HX.out
              simp only [Option.some.injEq, Addr.mk.injEq, and_true] at e
              obtain ⟨rfl, rfl⟩ := e
              obtain ⟨yi, yq⟩ := y
              have q0 : wr.cell? ⟨b, off + k * 2, none⟩ = some (.int .i64 xi) := hcx 0 _ rfl
              have q1 : wr.cell? ⟨b, off + m * 2, none⟩ = some (.int .i64 yi) := hcc 0 _ rfl
              have HY := hid hy
              have HB := hid hb
              clear hcc hcx hy hb hbs
              by_cases e : yi = xi
              · have e1 : (yi == xi) = true := by simpa using e
                have HE := hid (errF_bad (lv := lv) (gs := gs) (show ¬ FitOk o ls from fun hb => by
                  have := (hb.2 k _ HX.out).2.2
                  rw [hasI_true hmk HY.out e] at this
                  cases this))
                clear e
                go_wp2_with fail
                go_quiet (fail)
                go_wp2_with fail
                go_ret
                rw [HE.out]
                exact ⟨rfl, below_drewN HB.out nq⟩
              · have e1 : (yi == xi) = false := by simpa using e
                have HE := hid e1
                clear e
                go_wp2_with fail
                go_quiet (fail)
                go_wp2_with fail
                go_roundw
                case rel => exact ⟨m + 1, by omega, by go_num, hid (fun j z hj hz => by
                  by_cases e : j = m
                  · subst e; rw [HY.out] at hz; injection hz with hz; subst hz; exact HE.out
                  · exact hN.out j z (by omega) hz), below_drewN HB.out nq⟩
                case measure => simp [nOf]; omega
            · have hmm : m = k := by omega
              subst hmm
              have HG := hid (show LnOk ls m from fun y hy => by
                rw [HX.out] at hy; injection hy with hy; subst hy
                exact ⟨HQ.out.1, HQ.out.2, hasI_false hN.out⟩)
              clear hN hm hmk
              go_wp2_with fail
              go_roundw
              case rel => exact ⟨m + 1, by omega, by go_num, hid (fun j hj => (Nat.lt_succ_iff_lt_or_eq.1 hj).elim (fun h => hLk.out j h) (fun e => by subst e; exact HG.out)), hb⟩
              case measure => simp [nOf]; omega
        · have d1 : decide (xq < 1) = false := decide_eq_false (by omega)
          have d2 : decide (1000000 < xq) = true := decide_eq_true (by omega)
          have HE := hid (errF_bad (lv := lv) (gs := gs) (show ¬ FitOk o ls from fun hb => hq2 (hb.2 k _ HX.out).2.1))
          clear hq2 hq1
          go_wp2_with fail
          go_ret
          rw [HE.out]
          exact ⟨rfl, hb⟩
      · have d1 : decide (xq < 1) = true := decide_eq_true (by omega)
        have HE := hid (errF_bad (lv := lv) (gs := gs) (show ¬ FitOk o ls from fun hb => hq1 (hb.2 k _ HX.out).1))
        clear hq1
        go_wp2_with fail
        go_ret
        rw [HE.out]
        exact ⟨rfl, hb⟩
    · have hk' : k = ls.length := by omega
      subst hk'
      have hOK : FitOk o ls := ⟨HK.out, fun j => by
        by_cases hj : j < ls.length
        · exact hLk.out j hj
        · intro p hp
          rw [List.getElem?_eq_none (by omega)] at hp
          cases hp⟩
      have HOKK := hid hOK
      have HB := hid hb
      clear hLk hk hlt hb hOK
      go_wp2_with fail
      go_loopw [9] (fun i wr => ∃ k : Nat, k ≤ ls.length ∧ i = .int .i64 k ∧ Hid (∀ x ∈ ls.take k, ∃ a, mget lv x.i = some a) ∧ Below w.heap.size w wr) (fun i _ => ls.length - nOf i)
      case atStart => exact ⟨0, Nat.zero_le _, rfl, hid (fun x hx => by simp at hx), HB.out⟩
      case round =>
        clear HB
        obtain ⟨k, hk, rfl, hN, hb⟩ := hrel
        by_cases hlt : k < ls.length
        · obtain ⟨x, hx⟩ : ∃ x, ls[k]? = some x := ⟨ls[k], List.getElem?_eq_getElem hlt⟩
          obtain ⟨b, off, hAA, hbs, hcc⟩ := (hR.below hb).at_ 2 enL_len (by omega) hx
          have F := rfind_any (H0.out.1.next hb) x.i (by omega)
          have HXM := hid (List.mem_of_getElem? hx)
          have HT := hid (show ls.take (k + 1) = ls.take k ++ [x] from by rw [List.take_add_one, hx]; rfl)
          rcases H0.out.2.item x.i with ⟨j, a, hj, hy, hm, he⟩ | ⟨hm, hn, he⟩
          · rw [he] at F
            have HM2 := hid hm
            obtain ⟨xi, xq⟩ := x
            simp only at F
            have q0 : wr.cell? ⟨b, off + k * 2, none⟩ = some (.int .i64 xi) := hcc 0 _ rfl
            replace F := hid F
            subst hAA
            clear hcc hx hbs hy hm he hj
            go_wp2_with fail
            refine F.out.mono ?_
            rintro e w5 ⟨rfl, rfl⟩
            clear q0
            go_wp2_with fail
            go_roundw
            case rel => exact ⟨k + 1, by omega, by go_num, hid (fun y hy => by
              rw [HT.out] at hy
              rcases List.mem_append.1 hy with hy | hy
              · exact hN.out y hy
              · simp only [List.mem_singleton] at hy; subst hy; exact ⟨_, HM2.out⟩), hb⟩
            case measure => simp [nOf]; omega
          · rw [he] at F
            have HE := hid (errF_none (gs := gs) HOKK.out (show knowF lv ls = false from by
              cases hk : knowF lv ls with
              | false => rfl
              | true => obtain ⟨a, ha⟩ := knowF_iff.1 hk x HXM.out; rw [hm] at ha; cases ha))
            obtain ⟨xi, xq⟩ := x
            simp only at F
            have q0 : wr.cell? ⟨b, off + k * 2, none⟩ = some (.int .i64 xi) := hcc 0 _ rfl
            replace F := hid F
            subst hAA
            clear hcc hx hbs hn hm he
            go_wp2_with fail
            refine F.out.mono ?_
            rintro e w5 ⟨rfl, rfl⟩
            clear q0
            go_wp2_with fail
            go_ret
            rw [HE.out]
            exact ⟨rfl, hb⟩
        · have hk' : k = ls.length := by omega
          subst hk'
          rw [List.take_length] at hN
          have hkn : knowF lv ls = true := knowF_iff.2 hN.out
          have G := rgoodsOf_any (H0.out.1.next hb) o (by omega)
          rcases H0.out.2.goodsW o with ⟨j, d', d, hj, hy, hm, _, _, _, he⟩ | ⟨hm, hn, he⟩
          · rw [he] at G
            have HE := hid (errF_there HOKK.out hkn (show (mget gs o).isSome = true from by rw [hm]; rfl))
            replace G := hid G
            clear hN hk hlt hkn hj hy hm he
            go_wp2_with fail
            refine G.out.mono ?_
            rintro e w5 ⟨rfl, rfl⟩
            go_wp2_with fail
            go_ret
            rw [HE.out]
            exact ⟨rfl, hb⟩
          · rw [he] at G
            have HE := hid (errF_ok HOKK.out hkn (show (mget gs o).isSome = false from by rw [hm]; rfl))
            replace G := hid G
            clear hN hk hlt hkn hm he hn
            go_wp2_with fail
            refine G.out.mono ?_
            rintro e w5 ⟨rfl, rfl⟩
            go_wp2_with fail
            go_ret
            rw [HE.out]
            exact ⟨rfl, hb⟩
theorem rfit_anyW (h : IsRef base w R A1 c1 is A2 c2 rs) (hM : RelS lv gs is rs) (hlen : is.length ≤ 64) (hrl : rs.length ≤ 140737488355328) (o : Int) (A : Option Addr) (cap : Nat) (ls : List Ln) (hR : Rd w A (ls.flatMap enL)) :
    Calls Try.prog 52 #[.pointer (some ⟨R, 0, none⟩), .int .i64 o, .slice A ls.length cap] w fun e w' => e = .returned (.int .i64 (errF lv gs o ls)) ∧ Below w.heap.size w w' := by
  by_cases hok : headF o ls.length
  · exact rfit_bodyW h hM hlen hrl o A cap ls hok hR
  · rw [errF_bad (lv := lv) (gs := gs) (fun h => hok h.1)]
    exact rfit_head o A cap ls _ hok
theorem rfit_any (h : IsRef base w R A1 c1 is A2 c2 rs) (hM : RelS lv gs is rs) (hG : GoodB lv gs) (hrl : rs.length ≤ 140737488355328) (o : Int) (A : Option Addr) (cap : Nat) (ls : List Ln) (hR : Rd w A (ls.flatMap enL)) :
    Calls Try.prog 52 #[.pointer (some ⟨R, 0, none⟩), .int .i64 o, .slice A ls.length cap] w fun e w' => e = .returned (.int .i64 (errF lv gs o ls)) ∧ Below w.heap.size w w' :=
  rfit_anyW h hM (by rw [hM.lenI]; exact hG.few) hrl o A cap ls hR
end

end Go.Proofs.Ythfaaimmfdidnaa

namespace Go.Proofs.Ythfaaimmfdidnaa
open Go.RowKit Go.WideShapes Go.ChangeShapes Go.ChangeAt Go.Deep
set_option linter.unusedVariables false

theorem eraseG_step {l : List Gd} {k j : Nat} {x : Gd} (hk : l[k]? = some x) : (l.take (k + 1)).eraseIdx j = if k = j then (l.take k).eraseIdx j else (l.take k).eraseIdx j ++ [x] := by
  have hl := (List.getElem?_eq_some_iff.1 hk).1
  have hln : (l.take k).length = k := by simp; omega
  rw [List.take_add_one, hk]
  show (l.take k ++ [x]).eraseIdx j = _
  split
  · rename_i e
    subst e
    rw [List.eraseIdx_append_of_length_le (by omega), hln, Nat.sub_self, List.eraseIdx_of_length_le (l := l.take k) (by omega)]
    simp
  · rename_i e
    rcases Nat.lt_or_ge j k with h | h
    · rw [List.eraseIdx_append_of_lt_length (by omega)]
    · rw [List.eraseIdx_append_of_length_le (by omega), hln, List.eraseIdx_of_length_le (l := l.take k) (by omega)]
      rw [List.eraseIdx_of_length_le (l := [x]) (by simp only [List.length_cons, List.length_nil]; omega)]
theorem eraseG_len {l : List Gd} {k j : Nat} : ((l.take k).eraseIdx j).length ≤ k := by
  have h1 := List.length_eraseIdx_le (l.take k) j
  have h2 := List.length_take_le k l
  omega

section
variable {base R c1 c2 : Nat} {A1 A2 : Option Addr} {is : List (Int × Int)} {rs : List Gd} {lv : List (Int × Lv)} {gs : List (Int × Gd)} {w w' : World}
set_option maxRecDepth 100000 in
set_option maxHeartbeats 8000000 in
theorem rgo_step (h : IsRef base w R A1 c1 is A2 c2 rs) (hM : RelS lv gs is rs) (hG : GoodB lv gs) (hrl : rs.length ≤ 140737488355328) (o st : Int) (hst : 1 ≤ st ∧ st ≤ 2) (X : MapRel)
    (hX0 : ∀ lv' gs', goZ gs o st ≠ 0 → X lv' gs' → lv' = lv ∧ gs' = gs) (hX1 : ∀ lv' gs' d, goZ gs o st = 0 → mget gs o = some d → X lv' gs' → ∃ f : Lv → Int → Lv, (∀ a q, (f a q).r = a.r) ∧ lv' = mvL f lv d.ls ∧ gs' = mset gs o (nextG d)) :
    Calls Try.prog 43 #[.pointer (some ⟨R, 0, none⟩), .int .i64 o, .int .i64 st] w (RefPost base R A1 A2 (goZ gs o st) X w) := by
  have F := rgoodsOf_any h o (by omega)
  rcases hM.goods hG o with ⟨k, d', d, hk, hy, hm, ho, hs, hls, he⟩ | ⟨hm, hn, he⟩
  · rw [he] at F
    obtain ⟨g, hA, hbg, hpr⟩ := h.elem2 hy
    have c0 := h.cell1
    have lR : R < w.heap.size := h.blk.lt
    by_cases hb : d.st = st
    · have hz : goZ gs o st = 0 := by unfold goZ; rw [hm]; simp only; rw [if_pos hb]
      have HX : Hid (∀ lv' gs', X lv' gs' → RelS lv' gs' is (rs.set k ⟨d'.g, d'.o, st + 1, d'.b, d'.cap, d'.ls⟩)) := hid (fun lv' gs' hx => by
        obtain ⟨f, hf, rfl, rfl⟩ := hX1 lv' gs' d hz hm hx
        exact hM.goR hf hy ho hm hs hls d.ls (by omega))
      rw [hz]
      rw [hA] at h c0
      have hI : InsRow enG3 3 67 base g c2 w rs w := ⟨h.own2, Touch.refl _ _⟩
      have hJ := hI.field (k := k) (j := 1) (x' := ⟨d'.g, d'.o, st + 1, d'.b, d'.cap, d'.ls⟩) (v := .int .i64 (st + 1)) enG3_len hy (by omega) rfl
      have hB : Blk w R 54 #[.slice A1 is.length c1, .slice (some ⟨g, 0, none⟩) (rs.set k ⟨d'.g, d'.o, st + 1, d'.b, d'.cap, d'.ls⟩).length c2] := by rw [List.length_set]; exact h.blk
      have hX := hid (h.ins2 hJ hB (Touch.refl _ _) (.inr (.inl rfl)) (by have := h.lt; omega) (fun x hx => by
        rcases List.mem_or_eq_of_mem_set hx with hx | rfl
        · exact h.lns x hx
        · exact h.lns d' (List.mem_of_getElem? hy)))
      have q1 : w.cell? ⟨g, k * 3 + 1, none⟩ = some (.int .i64 st) := by have := hpr.2 1 _ rfl; rw [hs, hb] at this; exact this
      have f1 : w.frozen? ⟨g, k * 3 + 1, none⟩ = false := own_free h.own2 _
      have lg : g < w.heap.size := hpr.1
      have t1 : (st != st) = false := by simp
      obtain ⟨s1, s2⟩ := hst
      have w1 : IntKind.i64.wrap (st + 1) = st + 1 := IntWalk.i64_in _ ⟨by omega, by omega⟩
      have HF := hid F
      subst hA
      clear F he hy hpr h hz hb hM hm hG hI hJ hB hX0 hX1 ho hs hls
      go_enter Try.func43, Try.ntmps43
      go_wp2_with fail
      refine HF.out.mono ?_
      rintro e w1 ⟨rfl, rfl⟩
      go_wp2_with fail
      go_ret
      exact ⟨_, _, _, _, _, _, rfl, hX.out.1, HX.out, hX.out.2.mono (fun k hk => .inr hk)⟩
    · have hz : goZ gs o st = 130 := by unfold goZ; rw [hm]; simp only; rw [if_neg hb]
      have HX : Hid (∀ lv' gs', X lv' gs' → RelS lv' gs' is rs) := hid (fun lv' gs' hx => by
        obtain ⟨rfl, rfl⟩ := hX0 lv' gs' (by rw [hz]; decide) hx
        exact hM)
      rw [hz]
      have q1 : w.cell? ⟨g, k * 3 + 1, none⟩ = some (.int .i64 d.st) := by have := hpr.2 1 _ rfl; rw [hs] at this; exact this
      have t1 : (d.st != st) = true := by simpa using hb
      have HF := hid F
      have H := hid h
      rw [hA] at c0
      clear F he hy hpr h hz hb hM hm hG hX0 hX1 ho hs hls hA
      go_enter Try.func43, Try.ntmps43
      go_wp2_with fail
      refine HF.out.mono ?_
      rintro e w1 ⟨rfl, rfl⟩
      go_wp2_with fail
      go_ret
      exact .same H.out HX.out rfl (Below.refl _ _)
  · rw [he] at F
    have hz : goZ gs o st = 70 := by unfold goZ; rw [hm]
    have HX : Hid (∀ lv' gs', X lv' gs' → RelS lv' gs' is rs) := hid (fun lv' gs' hx => by
      obtain ⟨rfl, rfl⟩ := hX0 lv' gs' (by rw [hz]; decide) hx
      exact hM)
    rw [hz]
    have HF := hid F
    have H := hid h
    clear F he hn h hz hM hm hG hX0 hX1
    go_enter Try.func43, Try.ntmps43
    go_wp2_with fail
    refine HF.out.mono ?_
    rintro e w1 ⟨rfl, rfl⟩
    go_wp2_with fail
    go_ret
    exact .same H.out HX.out rfl (Below.refl _ _)
theorem rship_step (h : IsRef base w R A1 c1 is A2 c2 rs) (hM : RelS lv gs is rs) (hG : GoodB lv gs) (hrl : rs.length ≤ 140737488355328) (o : Int) :
    Calls Try.prog 43 #[.pointer (some ⟨R, 0, none⟩), .int .i64 o, .int .i64 1] w (RefPost base R A1 A2 (goZ gs o 1) (ShipR lv gs o) w) :=
  rgo_step h hM hG hrl o 1 (by omega) _ (fun lv' gs' hz hx => by
    rcases hx with ⟨_, h1, h2⟩ | ⟨h1, _⟩
    · exact ⟨h1, h2⟩
    · exact absurd h1 hz) (fun lv' gs' d hz hm hx => by
    rcases hx with ⟨h1, _⟩ | ⟨_, d2, h2, _, h3, h4⟩
    · exact absurd hz h1
    · rw [hm] at h2; injection h2 with h2; subst h2; exact ⟨shipL, fun _ _ => rfl, h3, h4⟩)
theorem rrestock_step (h : IsRef base w R A1 c1 is A2 c2 rs) (hM : RelS lv gs is rs) (hG : GoodB lv gs) (hrl : rs.length ≤ 140737488355328) (o : Int) :
    Calls Try.prog 43 #[.pointer (some ⟨R, 0, none⟩), .int .i64 o, .int .i64 2] w (RefPost base R A1 A2 (goZ gs o 2) (RestockR lv gs o) w) :=
  rgo_step h hM hG hrl o 2 (by omega) _ (fun lv' gs' hz hx => by
    rcases hx with ⟨_, h1, h2⟩ | ⟨h1, _⟩
    · exact ⟨h1, h2⟩
    · exact absurd h1 hz) (fun lv' gs' d hz hm hx => by
    rcases hx with ⟨h1, _⟩ | ⟨_, d2, h2, _, h3, h4⟩
    · exact absurd hz h1
    · rw [hm] at h2; injection h2 with h2; subst h2; exact ⟨restockL, fun _ _ => rfl, h3, h4⟩)

set_option maxRecDepth 100000 in
set_option maxHeartbeats 8000000 in
theorem rfree_step (h : IsRef base w R A1 c1 is A2 c2 rs) (hM : RelS lv gs is rs) (hG : GoodB lv gs) (hl : rs.length * 40 + 40 ≤ 140737488355328) (hbw : base ≤ w.heap.size) (o : Int) :
    Calls Try.prog 42 #[.pointer (some ⟨R, 0, none⟩), .int .i64 o] w (RefPost base R A1 A2 (freeZ gs o) (FreeR lv gs o) w) := by
  have F := rgoodsOf_any h o (by omega)
  rcases hM.goods hG o with ⟨j, d', d, hj, hy, hm, ho, hs, hls, he⟩ | ⟨hm, hn, he⟩
  · rw [he] at F
    obtain ⟨g, hA, hbg, hpr⟩ := h.elem2 hy
    have c0 := h.cell1
    have lR : R < w.heap.size := h.blk.lt
    have hst := (hG.gk o d hm).2.2
    have q1 : w.cell? ⟨g, j * 3 + 1, none⟩ = some (.int .i64 d.st) := by have := hpr.2 1 _ rfl; rw [hs] at this; exact this
    rcases (show d.st = 1 ∨ d.st = 2 ∨ d.st = 3 from by omega) with hb | hb | hb
    · have hz : freeZ gs o = 0 := by unfold freeZ; rw [hm]; simp only; rw [if_neg (by omega)]
      have HX : Hid (∀ lv' gs', FreeR lv gs o lv' gs' → RelS lv' gs' is (rs.eraseIdx j)) := hid (fun lv' gs' hx => by
        rcases hx with ⟨h1, _⟩ | ⟨_, d2, h2, _, rfl, rfl⟩
        · exact absurd hb (h1 d hm)
        · exact hM.freeR hy ho d2.ls)
      rw [hz]
      rw [hb] at q1
      obtain ⟨i0, hi, hz0, hz1, hz2⟩ := info_parts info_rd
      have HF := hid F
      have H0 := hid h
      rw [hA] at c0
      clear F he hy hpr hz hb hM hm hG ho hs hls hst hA
      go_enter Try.func42, Try.ntmps42
      go_wp2_with fail
      refine HF.out.mono ?_
      rintro e w1 ⟨rfl, rfl⟩
      go_wp2_with fail
      clear c0 q1 lR
      go_loopw [6, 7] (fun v i wr => ∃ k : Nat, k ≤ rs.length ∧ i = .int .i64 k ∧ wr.ownsRow w.heap.size 67 3 v ((rs.take k).eraseIdx j).length (((rs.take k).eraseIdx j).flatMap enG3) ∧ Below w.heap.size w wr) (fun _ i _ => rs.length - nOf i)
      case atStart => exact ⟨0, Nat.zero_le _, rfl, World.ownsRow_nil _ _ _ _, Below.refl _ _⟩
      case round =>
        have hRb := h.lt
        clear h HF
        obtain ⟨k, hk, rfl, hO, hb⟩ := hrel
        have h := H0.out.next hb
        have c0 := h.cell1
        have lR : R < wr.heap.size := h.blk.lt
        have hwz : w.heap.size ≤ wr.heap.size := hb.size
        by_cases hlt : k < rs.length
        · obtain ⟨y, hy⟩ : ∃ y, rs[k]? = some y := ⟨rs[k], List.getElem?_eq_getElem hlt⟩
          have hst := eraseG_step (j := j) hy
          by_cases hkj : k = j
          · subst hkj
            rw [if_pos rfl] at hst
            rw [← hst] at hO
            have HO := hid (And.intro hO hb)
            clear hO h hb hy hst
            go_wp2_with fail
            go_roundw
            case rel => exact ⟨k + 1, by omega, by go_num, HO.out.1, HO.out.2⟩
            case measure => simp [nOf]; omega
          · rw [if_neg hkj] at hst
            have HST := hid hst
            have hlen : ((rs.take k).eraseIdx j).length ≤ k := eraseG_len
            obtain ⟨m, hm⟩ : ∃ m, m = ((rs.take k).eraseIdx j).length := ⟨_, rfl⟩
            rw [← hm] at hO hlen
            have HM := hid hm
            have b1 : ((k : Int) == (j : Int)) = false := by simp; omega
            have b2 : ((k : Int) != (j : Int)) = true := by simp; omega
            obtain ⟨g, hA, _, hpr⟩ := h.elem2 hy
            rw [hA] at c0
            obtain ⟨yg, yo, yst, yb, ycap, yls⟩ := y
            have p0 : wr.cell? ⟨g, k * 3, none⟩ = some (.int .i64 yo) := hpr.2 0 _ rfl
            have p1 : wr.cell? ⟨g, k * 3 + 1, none⟩ = some (.int .i64 yst) := hpr.2 1 _ rfl
            have p2 : wr.cell? ⟨g, k * 3 + 2, none⟩ = some (.slice (some ⟨yb, 0, none⟩) yls.length ycap) := hpr.2 2 _ rfl
            have HO := hid hO
            have hb3 := hid (hb.alloc hb.size (.cells #[.int .i64 yo, .int .i64 yst, .slice (some ⟨yb, 0, none⟩) yls.length ycap] 67))
            have hk2 : m * 40 + 40 ≤ 140737488355328 := by omega
            clear hpr hy h hb hO hst hm hkj hA
            go_wp2_with (first
              | (at_builtin; refine wpList_push _ rfl _ _ 52 rfl w.heap.size 67 i0 _ 3 40 Try.underlying52 hi hz0 hz1 hz2 rfl (by decide) _ _ _ (by rfl) HO.out #[.int .i64 yo, .int .i64 yst, .slice (some ⟨yb, 0, none⟩) yls.length ycap] wr.heap.size (by simp) (by rfl) (by rfl) (by rfl) (by unfold maxLen; omega) (by omega) hwz ?_; intro v' w3 hO4 hg4))
            have hb4 := hb3.out.grown hg4 (by simp; omega) (fun k hk => (HO.out.lt k hk).1)
            have hO5 : w3.ownsRow w.heap.size 67 3 v' ((rs.take (k + 1)).eraseIdx j).length (((rs.take (k + 1)).eraseIdx j).flatMap enG3) := by
              rw [HST.out, List.flatMap_append, List.length_append, ← HM.out]
              simpa [enG3] using hO4
            clear hO4 hg4 HO hb3
            go_roundw
            case rel => exact ⟨k + 1, by omega, by go_num, hO5, hb4⟩
            case measure => simp [nOf]; omega
        · have hk' : k = rs.length := by omega
          subst hk'
          rw [List.take_length] at hO
          obtain ⟨A', cap', rfl, _⟩ := own_slice hO
          have f0 : wr.frozen? ⟨R, 1, none⟩ = false := h.blk.free 1
          have HH := hid (And.intro hO (And.intro h hb))
          clear hO h hb hk hlt
          go_wp2_with fail
          go_ret
          obtain ⟨hO, h, hb⟩ := HH.out
          have hg : wr.grownBy (wr.setCell ⟨R, 1, none⟩ (.slice A' (rs.eraseIdx j).length cap')) (some R) := ⟨rfl, rfl, rfl, by simp, fun k _ hk => heap_setCell_other wr ⟨R, 1, none⟩ k _ (fun e => hk (by simp [e]))⟩
          have nR : ∀ {v : Value} {n : Nat} {xs : List Value} {b : Nat} {t : TypeId} {s : Nat}, R < b → wr.ownsRow b t s v n xs → v.ownBlock = none ∨ v.ownBlock ≠ some R := fun hlt hO => .inr (fun e => by have := (hO.lt R e).1; omega)
          have hTR : Touch (· = R) wr (wr.setCell ⟨R, 1, none⟩ (.slice A' (rs.eraseIdx j).length cap')) := Touch.setCell wr R 1 _
          refine ⟨A1, c1, is, A', cap', rs.eraseIdx j, rfl, ⟨?_, h.own1.kept hg (nR hRb h.own1), ownsRow_low (hO.kept hg (nR (by omega) hO)) hbw, fun x hx => (h.lns x (List.mem_of_mem_eraseIdx hx)).touch hTR (fun e => by have := (h.lns x (List.mem_of_mem_eraseIdx hx)).2.1; omega), hRb⟩, HX.out, (Touch.of_below hb).then ((Touch.setCell wr R 1 _).mono (fun k hk => .inl (.inl hk)))⟩
          have := h.blk.set_ 1 (.slice A' (rs.eraseIdx j).length cap')
          simpa using this
    · have hz : freeZ gs o = 130 := by unfold freeZ; rw [hm]; simp only; rw [if_pos hb]
      have HX : Hid (∀ lv' gs', FreeR lv gs o lv' gs' → RelS lv' gs' is rs) := hid (fun lv' gs' hx => by
        rcases hx with ⟨_, rfl, rfl⟩ | ⟨h2, _⟩
        · exact hM
        · rw [hz] at h2; cases h2)
      rw [hz]
      rw [hb] at q1
      have HF := hid F
      have H := hid h
      rw [hA] at c0
      clear F he hy hpr h hz hb hM hm hG ho hs hls hst hA
      go_enter Try.func42, Try.ntmps42
      go_wp2_with fail
      refine HF.out.mono ?_
      rintro e w1 ⟨rfl, rfl⟩
      go_wp2_with fail
      go_ret
      exact .same H.out HX.out rfl (Below.refl _ _)
    · have hz : freeZ gs o = 0 := by unfold freeZ; rw [hm]; simp only; rw [if_neg (by omega)]
      have HX : Hid (∀ lv' gs', FreeR lv gs o lv' gs' → RelS lv' gs' is rs) := hid (fun lv' gs' hx => by
        rcases hx with ⟨_, rfl, rfl⟩ | ⟨_, d2, h2, h3, _⟩
        · exact hM
        · rw [hm] at h2; injection h2 with h2; subst h2; omega)
      rw [hz]
      rw [hb] at q1
      have HF := hid F
      have H := hid h
      rw [hA] at c0
      clear F he hy hpr h hz hb hM hm hG ho hs hls hst hA
      go_enter Try.func42, Try.ntmps42
      go_wp2_with fail
      refine HF.out.mono ?_
      rintro e w1 ⟨rfl, rfl⟩
      go_wp2_with fail
      go_ret
      exact .same H.out HX.out rfl (Below.refl _ _)
  · rw [he] at F
    have hz : freeZ gs o = 70 := by unfold freeZ; rw [hm]
    have HX : Hid (∀ lv' gs', FreeR lv gs o lv' gs' → RelS lv' gs' is rs) := hid (fun lv' gs' hx => by
      rcases hx with ⟨_, rfl, rfl⟩ | ⟨h2, _⟩
      · exact hM
      · rw [hz] at h2; cases h2)
    rw [hz]
    have HF := hid F
    have H := hid h
    clear F he hn h hz hM hm hG
    go_enter Try.func42, Try.ntmps42
    go_wp2_with fail
    refine HF.out.mono ?_
    rintro e w1 ⟨rfl, rfl⟩
    go_wp2_with fail
    go_ret
    exact .same H.out HX.out rfl (Below.refl _ _)
end

end Go.Proofs.Ythfaaimmfdidnaa

namespace Go.Proofs.Ythfaaimmfdidnaa
open Go.RowKit Go.WideShapes Go.ChangeShapes Go.ChangeAt Go.Deep
set_option linter.unusedVariables false

section
variable {base R c1 c2 : Nat} {A1 A2 : Option Addr} {is : List (Int × Int)} {rs : List Gd} {lv : List (Int × Lv)} {gs : List (Int × Gd)} {w w' : World}
theorem RT_mono {n n' : Nat} {A : Option Addr} {k : Nat} (h : n ≤ n') (hk : RT n' R A k) : RT n R A k := by
  rcases hk with e | e | e
  · exact .inl e
  · exact .inr (.inl e)
  · exact .inr (.inr (by omega))
set_option maxRecDepth 100000 in
set_option maxHeartbeats 16000000 in
theorem ralloc_step (h : IsRef base w R A1 c1 is A2 c2 rs) (hM : RelS lv gs is rs) (hG : GoodB lv gs) (hl : rs.length ≤ 3000000000000) (hbw : base ≤ w.heap.size) (o : Int) (A : Option Addr) (cap : Nat) (ls : List Ln) (hR : Rd w A (ls.flatMap enL)) (hln : ls.length ≤ 140737488355328) :
    Calls Try.prog 41 #[.pointer (some ⟨R, 0, none⟩), .int .i64 o, .slice A ls.length cap] w (RefPost base R A1 A2 (allocZ lv gs o ls) (AllocR lv gs o ls) w) := by
  have hlen : is.length ≤ 64 := by rw [hM.lenI]; exact hG.few
  have F := rfit_any h hM hG (by omega) o A cap ls hR
  by_cases hz : errF lv gs o ls = 0
  · obtain ⟨hfit, hkn, hnone⟩ := errF_zero hz
    rw [hz] at F
    have hl4 := hfit.1.2.2
    have hl1 := hfit.1.2.1
    obtain ⟨i0, hi, hz0, hz1, hz2⟩ := info_parts info_rl
    have HF := hid F
    have H0 := hid (And.intro h (And.intro hM hG))
    have HZ := hid hz
    have HFIT := hid hfit
    have HKN := hid hkn
    have HNO := hid hnone
    clear F h hM hG hz hfit hkn hnone hln
    go_enter Try.func41, Try.ntmps41
    go_wp2_with fail
    refine HF.out.mono ?_
    rintro e w1 ⟨rfl, hb1⟩
    clear HF
    go_wp2_with fail
    go_loopw [8] (fun i wr => ∃ k : Nat, k ≤ ls.length ∧ i = .int .i64 k ∧ Hid (∀ x ∈ ls.take k, shortL lv x = false) ∧ Below w.heap.size w wr) (fun i _ => ls.length - nOf i)
    case atStart => exact ⟨0, Nat.zero_le _, rfl, hid (fun x hx => by simp at hx), hb1⟩
    case round =>
      clear hb1
      obtain ⟨k, hk, rfl, hN, hb⟩ := hrel
      by_cases hlt : k < ls.length
      · obtain ⟨x, hx⟩ : ∃ x, ls[k]? = some x := ⟨ls[k], List.getElem?_eq_getElem hlt⟩
        obtain ⟨b, off, hAA, hbs, hcc⟩ := (hR.below hb).at_ 2 enL_len (by omega) hx
        have F := rfind_any (H0.out.1.next hb) x.i (by omega)
        have HXM := hid (List.mem_of_getElem? hx)
        have HT := hid (show ls.take (k + 1) = ls.take k ++ [x] from by rw [List.take_add_one, hx]; rfl)
        obtain ⟨a, ha⟩ := knowF_iff.1 HKN.out x HXM.out
        obtain ⟨j, hj, hy, he⟩ : ∃ j, j < is.length ∧ is[j]? = some (x.i, a.r) ∧ plc (isI x.i) is = j := by
          rcases H0.out.2.1.item x.i with ⟨j, a', hj, hy, hm, he⟩ | ⟨hm, _⟩
          · rw [ha] at hm; injection hm with hm; subst hm; exact ⟨j, hj, hy, he⟩
          · rw [ha] at hm; cases hm
        rw [he] at F
        have hlk := H0.out.2.2.lk x.i a ha
        have L := rlevelOf_any (H0.out.1.next hb) j x.i a.r hy hlk.2.2 (fun d hd => ⟨(H0.out.2.1.rsOk H0.out.2.2 d hd).1.1.2.2, (H0.out.2.1.rsOk H0.out.2.2 d hd).1.2, (H0.out.2.1.rsOk H0.out.2.2 d hd).2⟩) (by omega) hl
        have hsm := H0.out.2.2.sm x.i a ha
        rw [H0.out.2.1.sums H0.out.2.2, H0.out.2.1.sums H0.out.2.2, H0.out.2.1.sums H0.out.2.2] at L
        unfold lvC at L
        rw [← hsm.2.2.2.1] at L
        have hsh : shortL lv x = decide (a.h < x.q) := by unfold shortL; rw [ha]
        generalize sq 1 gs x.i = v1 at L
        generalize sq 2 gs x.i + sq 3 gs x.i = v2 at L
        generalize sq 3 gs x.i = v3 at L
        obtain ⟨xi, xq⟩ := x
        simp only at F L hsh
        have q0 : wr.cell? ⟨b, off + k * 2, none⟩ = some (.int .i64 xi) := hcc 0 _ rfl
        have q1 : wr.cell? ⟨b, off + k * 2 + 1, none⟩ = some (.int .i64 xq) := hcc 1 _ rfl
        replace F := hid F
        replace L := hid L
        generalize a.h = ah at L hsh
        generalize a.r = ar at L
        subst hAA
        have HB := hid hb
        have HC := hid (fun w' (hb' : Below w.heap.size w w') => (hR.below hb').at_ 2 enL_len (by omega) hx)
        clear hcc hx hbs hy he hj ha hlk hsm hb
        go_wp2_with fail
        refine F.out.mono ?_
        rintro e w5 ⟨rfl, rfl⟩
        go_wp2_with fail
        refine L.out.mono ?_
        rintro e w6 ⟨rfl, hb6⟩
        have hwb : Below w6.heap.size w6 (w6.alloc (.cells #[.int .i64 xi, .int .i64 ar, .int .i64 ah, .int .i64 v1, .int .i64 v2, .int .i64 v3] 63)) := (Below.refl _ _).alloc (Nat.le_refl _) _
        have hYB := Blk.new w6 63 #[.int .i64 xi, .int .i64 ar, .int .i64 ah, .int .i64 v1, .int .i64 v2, .int .i64 v3]
        have hbz := bthen (bthen HB.out hb6) hwb
        have r2 : (w6.alloc (.cells #[.int .i64 xi, .int .i64 ar, .int .i64 ah, .int .i64 v1, .int .i64 v2, .int .i64 v3] 63)).cell? ⟨w6.heap.size, 2, none⟩ = some (.int .i64 ah) := hYB.cell 2
        have r3 : (w6.alloc (.cells #[.int .i64 xi, .int .i64 ar, .int .i64 ah, .int .i64 v1, .int .i64 v2, .int .i64 v3] 63)).cell? ⟨b, off + k * 2 + 1, none⟩ = some (.int .i64 xq) := by
          obtain ⟨b', off', e, _, hcx⟩ := HC.out _ hbz
          simp only [Option.some.injEq, Addr.mk.injEq, and_true] at e
          obtain ⟨rfl, rfl⟩ := e
          exact hcx 1 _ rfl
        have HBZ := hid hbz
        clear F L hb6 hwb hYB hbz q0 q1 HB HC
        by_cases hs : ah < xq
        · have d1 : decide (ah < xq) = true := decide_eq_true hs
          have hzz : allocZ lv gs o ls = 150 := by
            unfold allocZ
            rw [if_pos HZ.out, if_pos (List.any_eq_true.2 ⟨_, HXM.out, by rw [hsh]; exact d1⟩)]
          have HX : Hid (∀ lv' gs', AllocR lv gs o ls lv' gs' → RelS lv' gs' is rs) := hid (fun lv' gs' hx => by
            rcases hx with ⟨_, rfl, rfl⟩ | ⟨h2, _⟩
            · exact H0.out.2.1
            · rw [hzz] at h2; cases h2)
          have HZZ := hid hzz
          clear hzz hsh hs
          go_wp2_with fail
          go_quiet (fail)
          go_wp2_with fail
          go_ret
          rw [HZZ.out]
          exact .same H0.out.1 HX.out rfl (below_drewN HBZ.out nq)
        · have d1 : decide (ah < xq) = false := decide_eq_false hs
          rw [d1] at hsh
          have HSH := hid hsh
          clear hsh hs
          go_wp2_with fail
          go_quiet (fail)
          have hbq := below_drewN HBZ.out nq
          clear r2 r3 d1 HBZ
          go_wp2_with fail
          go_roundw
          case rel => exact ⟨k + 1, by omega, by go_num, hid (fun y hy => by
            rw [HT.out] at hy
            rcases List.mem_append.1 hy with hy | hy
            · exact hN.out y hy
            · simp only [List.mem_singleton] at hy; subst hy; exact HSH.out), hbq⟩
          case measure => simp [nOf]; omega
      · have hk' : k = ls.length := by omega
        subst hk'
        rw [List.take_length] at hN
        have hany : ls.any (shortL lv) = false := by
          rw [List.any_eq_false]
          intro x hx
          rw [hN.out x hx]
          simp
        have HANY := hid hany
        have HB := hid hb
        clear hN hk hlt hany hb
        go_wp2_with fail
        go_loopw [12, 11] (fun i v wr => ∃ k : Nat, k ≤ ls.length ∧ i = .int .i64 k ∧ wr.ownsRow w.heap.size 96 2 v k ((ls.take k).flatMap enL) ∧ Below w.heap.size w wr) (fun i _ _ => ls.length - nOf i)
        case atStart => exact ⟨0, Nat.zero_le _, rfl, World.ownsRow_nil _ _ _ _, HB.out⟩
        case round =>
          clear HB
          obtain ⟨k, hk, rfl, hO, hb⟩ := hrel
          have hwz : w.heap.size ≤ wr.heap.size := hb.size
          by_cases hlt : k < ls.length
          · obtain ⟨x, hx⟩ : ∃ x, ls[k]? = some x := ⟨ls[k], List.getElem?_eq_getElem hlt⟩
            obtain ⟨b, off, hAA, hbs, hcc⟩ := (hR.below hb).at_ 2 enL_len (by omega) hx
            have HT := hid (show ls.take (k + 1) = ls.take k ++ [x] from by rw [List.take_add_one, hx]; rfl)
            obtain ⟨xi, xq⟩ := x
            have q0 : wr.cell? ⟨b, off + k * 2, none⟩ = some (.int .i64 xi) := hcc 0 _ rfl
            have q1 : wr.cell? ⟨b, off + k * 2 + 1, none⟩ = some (.int .i64 xq) := hcc 1 _ rfl
            have HO := hid hO
            have hb3 := hid (hb.alloc hb.size (.cells #[.int .i64 xi, .int .i64 xq] 96))
            subst hAA
            clear hcc hx hbs hO hb
            go_wp2_with (first
              | (at_builtin; refine wpList_push _ rfl _ _ 64 rfl w.heap.size 96 i0 _ 2 16 Try.underlying64 hi hz0 hz1 hz2 rfl (by decide) _ _ _ (by rfl) HO.out #[.int .i64 xi, .int .i64 xq] wr.heap.size (by simp) (by rfl) (by rfl) (by rfl) (by unfold maxLen; omega) (by omega) hwz ?_; intro v' w3 hO4 hg4))
            have hb4 := hb3.out.grown hg4 (by simp; omega) (fun k hk => (HO.out.lt k hk).1)
            have hO5 : w3.ownsRow w.heap.size 96 2 v' (k + 1) ((ls.take (k + 1)).flatMap enL) := by
              rw [HT.out, List.flatMap_append]
              simpa [enL] using hO4
            clear hO4 hg4 HO hb3
            go_roundw
            case rel => exact ⟨k + 1, by omega, by go_num, hO5, hb4⟩
            case measure => simp [nOf]; omega
          · have hk' : k = ls.length := by omega
            subst hk'
            rw [List.take_length] at hO
            obtain ⟨A', cap', rfl, _⟩ := own_slice hO
            obtain ⟨g, cq, e7, hg1, _⟩ := own_form hO (by omega)
            injection e7 with e8 e9 e10
            subst e8 e10
            have hLns : LnsAt base wr ⟨0, o, 1, g, cap', ls⟩ := ⟨own_rd hO, by show base ≤ g; omega, rowBlk15 hO rfl⟩
            have hno : o ∉ rs.map Gd.o := fun hin => by
              rcases H0.out.2.1.goods H0.out.2.2 o with ⟨_, _, d, _, _, hm, _⟩ | ⟨_, hn, _⟩
              · rw [HNO.out] at hm; cases hm
              · obtain ⟨y, hy, e⟩ := List.mem_map.1 hin
                exact hn y hy e
            have K := hid (rput_any (H0.out.1.next hb) H0.out.2.1.sortG ⟨0, o, 1, g, cap', ls⟩ hno hLns (by omega) (by omega))
            have hzz : allocZ lv gs o ls = 0 := by unfold allocZ; rw [if_pos HZ.out, HANY.out]; rfl
            have HX : Hid (∀ lv' gs', AllocR lv gs o ls lv' gs' → RelS lv' gs' is (insK Gd.o ltI rs ⟨0, o, 1, g, cap', ls⟩)) := hid (fun lv' gs' hx => by
              rcases hx with ⟨h2, _⟩ | ⟨_, _, _, rfl, d, hd, rfl⟩
              · exact absurd hzz h2
              · exact H0.out.2.1.allocR HNO.out hd ⟨rfl, rfl, rfl⟩)
            have HZZ := hid hzz
            have HB := hid hb
            clear hO hLns hno hzz hb hk hlt
            go_wp2_with fail
            refine K.out.mono ?_
            rintro e w8 ⟨A8, c8, rfl, hI8, hT8⟩
            have HE := hid (And.intro hI8 ((Touch.of_below (S := RT2 w.heap.size R A1 A2) HB.out).trans hT8 (fun k hk => .inl (.inr (RT_mono HB.out.size hk)))))
            clear K hI8 hT8
            go_wp2_with fail
            go_ret
            rw [HZZ.out]
            exact ⟨_, _, _, _, _, _, rfl, HE.out.1, HX.out, HE.out.2⟩
  · have hzz : allocZ lv gs o ls = errF lv gs o ls := if_neg hz
    have HX : Hid (∀ lv' gs', AllocR lv gs o ls lv' gs' → RelS lv' gs' is rs) := hid (fun lv' gs' hx => by
      rcases hx with ⟨_, rfl, rfl⟩ | ⟨h2, _⟩
      · exact hM
      · rw [hzz] at h2; exact absurd h2 hz)
    rw [hzz]
    have hzb : (errF lv gs o ls != 0) = true := by simpa using hz
    generalize errF lv gs o ls = z at F hzb
    have HF := hid F
    have H := hid h
    clear F hz h hM hG hzz hR
    go_enter Try.func41, Try.ntmps41
    go_wp2_with fail
    refine HF.out.mono ?_
    rintro e w1 ⟨rfl, hb1⟩
    go_wp2_with fail
    go_ret
    exact .same H.out HX.out rfl hb1
end

end Go.Proofs.Ythfaaimmfdidnaa
