/-
  The walk of LedgerOrder.
-/
import Derived.Test.YtjlfhfhckomalaaLedWakes
namespace Go.Proofs.Ytjlfhfhckomalaa
open Go.RowKit Go.WideShapes Go.ChangeShapes Go.ChangeAt Go.Deep
set_option linter.unusedVariables false

/-! ### Sums of postings -/
def con (q : Po) (p : Int × Int) : Int := (q.es.map fun x => if p = (q.c, x.a) then x.n else 0).sum
def sumF (t : List Po) : Fn := fun p => (t.map fun q => con q p).sum
def debT (t : List Po) : Int := (t.map fun q => debs q.es).sum
theorem sumF_nil : sumF [] = f0 := rfl
theorem sumF_snoc (t : List Po) (q : Po) : addF (sumF t) q.c q.es = sumF (t ++ [q]) := by
  funext p
  rw [addF_apply]
  unfold sumF con
  rw [List.map_append, List.sum_append]
  simp
theorem sumF_cons (t : List Po) (q : Po) : addF (sumF t) q.c q.es = sumF (q :: t) := by
  funext p
  rw [addF_apply]
  unfold sumF con
  rw [List.map_cons, List.sum_cons]
  omega
theorem debT_snoc (t : List Po) (q : Po) : debT t + debs q.es = debT (t ++ [q]) := by
  unfold debT
  rw [List.map_append, List.sum_append]
  simp
theorem debT_cons (t : List Po) (q : Po) : debT t + debs q.es = debT (q :: t) := by
  unfold debT
  rw [List.map_cons, List.sum_cons]
  omega
theorem debT_nonneg (t : List Po) : 0 ≤ debT t := sum_nonneg_sub _ _ (fun q _ => debs_nonneg q.es)
theorem debT_drop (t : List Po) (k : Nat) : debT (t.drop k) ≤ debT t := by
  induction t generalizing k with
  | nil => simp [debT]
  | cons q t ih =>
    cases k with
    | zero => exact Int.le_refl _
    | succ k =>
      have := ih k
      have h1 := debT_cons t q
      have := debs_nonneg q.es
      simp only [List.drop_succ_cons]
      omega
theorem postC_less {d d' c : Int} {es : List En} (h : postC d c es = 0) (hd : d' + debs es ≤ 1152921504606846976) : postC d' c es = 0 := by
  obtain ⟨h1, h2, h3, h4, h5, h6, h7⟩ := postC_zero h
  unfold postC
  rw [if_pos ⟨h1, h2, h3, h4, List.all_eq_true.2 h5⟩, if_neg (fun e => e h6), if_neg (by omega)]
/-- A posting that was taken when it came. -/
def Took (p : Po) : Prop := ∃ d, postC d p.c p.es = 0

theorem info_po : (Try.prog.info? 28).map (fun i => (i.zero, i.size, i.bytes)) = some (some (.agg #[.int .i64 0, .slice none 0 0]), 2, 32) := by kernel_rfl

set_option maxRecDepth 100000 in
set_option maxHeartbeats 16000000 in
theorem ledgerOrder_walk (hS : SortsL) (l : List Po) (A : Option Addr) (cp : Nat) (w : World) (hR : Rd w A (l.flatMap enPo)) (hok : ∀ p ∈ l, OkPo w p) (hl : l.length * 32 ≤ 140737488351232) :
    Calls Try.prog 3 #[.slice A l.length cp] w (Law w) := by
  have HOK := hid hok
  obtain ⟨i0, hi, hz0, hz1, hz2⟩ := info_parts info_po
  clear hok
  go_enter Try.func3, Try.ntmps3
  go_wp2_with fail
  refine (wakes_any hS _).mono ?_
  rintro e w1 ⟨rfl, hb⟩
  go_wp2_with fail
  refine (lnew_any _).mono ?_
  rintro e w2 ⟨X1, B1, rfl, hB1, hX1, h1, hb1⟩
  go_wp2_with fail
  refine (lnew_any _).mono ?_
  rintro e w3 ⟨X2, B2, rfl, hB2, hX2, h2, hb2⟩
  have h1' := h1.next hb2
  have hb3 := bthen (bthen hb hb1) hb2
  have s1 := hb.size
  have s2 := hb1.size
  have x1 := h1.blk.lt
  have x2 := (h1.map.choose_spec.1).lt
  have HSep := hid (show X2 ≠ X1 ∧ X2 ≠ B1 ∧ B2 ≠ X1 ∧ B2 ≠ B1 from ⟨by omega, by omega, by omega, by omega⟩)
  have HX1 : w.heap.size ≤ X1 := by omega
  have HB1 : w.heap.size ≤ B1 := by omega
  have HX2 : w.heap.size ≤ X2 := by omega
  have HB2 : w.heap.size ≤ B2 := by omega
  clear h1 hb hb1 hb2 hB1 hX1 hB2 hX2 s1 s2 x1 x2
  go_wp2_with fail
  go_loopw [5, 18] (fun v i wr => ∃ (k : Nat) (t : List Po), k ≤ l.length ∧ i = .int .i64 k ∧ wr.ownsRow w.heap.size 28 2 v t.length (t.flatMap enPo) ∧ t.length ≤ k ∧ IsLed wr X1 B1 (sumF t) (debT t) ∧ IsLed wr X2 B2 f0 0 ∧ Below w.heap.size w wr ∧ Hid (∀ q ∈ t, q ∈ l ∧ Took q)) (fun _ i _ => l.length - (intOf i).toNat)
  case atStart => exact ⟨0, [], Nat.zero_le _, rfl, World.ownsRow_nil _ _ _ _, Nat.le_refl _, h1', h2, hb3, hid (by simp)⟩
  case round =>
    clear h1' h2 hb3
    obtain ⟨k, t, hk, rfl, hO, htk, h1, h2, hb, hT⟩ := hrel
    by_cases hlt : k < l.length
    · obtain ⟨x, hx⟩ : ∃ x, l[k]? = some x := ⟨l[k], List.getElem?_eq_getElem hlt⟩
      have hR1 := hR.below hb
      obtain ⟨b, off, rfl, hbs, hcc⟩ := hR1.at_ 2 enPo_len (by omega) hx
      have HX := hid (List.mem_of_getElem? hx)
      have hOK0 := HOK.out x HX.out
      have hOK := hOK0.next hb
      have q0 : wr.cell? ⟨b, off + k * 2, none⟩ = some (.int .i64 x.c) := hcc 0 _ rfl
      have q1 : wr.cell? ⟨b, off + k * 2 + 1, none⟩ = some (.slice x.A x.es.length x.cap) := hcc 1 _ rfl
      have hwb : Below wr.heap.size wr (wr.alloc (.cells #[.int .i64 x.c, .slice x.A x.es.length x.cap] 28)) := (Below.refl _ _).alloc (Nat.le_refl _) _
      have HG : Hid (Blk (wr.alloc (.cells #[.int .i64 x.c, .slice x.A x.es.length x.cap] 28)) wr.heap.size 28 #[.int .i64 x.c, .slice x.A x.es.length x.cap]) := hid (Blk.new _ _ _)
      have P1 := hid (lpost_any x.c x.es x.A x.cap _ (h1.next hwb) (hOK.next hwb).rd (by have := hOK.len; omega) (hOK0.far HX1 HB1))
      have h2' := hid (h2.next hwb)
      have hO' := hid (hO.alloc (.cells #[.int .i64 x.c, .slice x.A x.es.length x.cap] 28))
      have hb' := hid (hb.alloc hb.size (.cells #[.int .i64 x.c, .slice x.A x.es.length x.cap] 28))
      have x1 := h1.blk.lt
      have x2 := (h1.map.choose_spec.1).lt
      have HSO := hid ((h1.next hwb).sep (hO.alloc (.cells #[.int .i64 x.c, .slice x.A x.es.length x.cap] 28)) (by decide))
      have hne2 : X2 ≠ B2 := h2.ne
      clear hcc hx hR1 h1 h2 hO hb hwb hOK hOK0
      go_wp2_with fail
      refine P1.out.mono ?_
      rintro e w5 ⟨rfl, h5, ht⟩
      have hO5 := own_touch hO'.out ht HSO.out
      have h25 := h2'.out.touch ht (fun h => h.elim HSep.out.1 HSep.out.2.1) (fun h => h.elim HSep.out.2.2.1 HSep.out.2.2.2)
      have hb5 := touch_below hb'.out ht HX1 HB1
      have hG5 := ht.blk HG.out (fun h => by rcases h with h | h <;> omega)
      have hsz5 := ht.size
      unfold nextF nextD at h5
      clear P1 ht hO' h2' hb' HG HSO q0 q1
      by_cases hp : postC (debT t) x.c x.es = 0
      · rw [if_pos hp, if_pos hp, sumF_snoc, debT_snoc] at h5
        have HT2 : Hid (∀ q ∈ t ++ [x], q ∈ l ∧ Took q) := hid (by
          intro q hq
          rcases List.mem_append.1 hq with hq | hq
          · exact hT.out q hq
          · simp at hq
            subst hq
            exact ⟨HX.out, _, hp⟩)
        rw [hp]
        clear hp
        have q2 : w5.cell? ⟨wr.heap.size, 0, none⟩ = some (.int .i64 x.c) := hG5.cell 0
        have q3 : w5.cell? ⟨wr.heap.size, 1, none⟩ = some (.slice x.A x.es.length x.cap) := hG5.cell 1
        have hO6 := hid hO5
        have hb6 := hid (hb5.alloc hb5.size (.cells #[.int .i64 x.c, .slice x.A x.es.length x.cap] 28))
        have h6 := hid (h5.next ((Below.refl _ _).alloc (Nat.le_refl _) (.cells #[.int .i64 x.c, .slice x.A x.es.length x.cap] 28)))
        have h26 := hid (h25.next ((Below.refl _ _).alloc (Nat.le_refl _) (.cells #[.int .i64 x.c, .slice x.A x.es.length x.cap] 28)))
        have hbz := hb5.size
        clear hO5 hb5 h5 h25 hG5
        generalize hG : wr.heap.size = G at *
        clear hG
        go_wp2_with (first
          | (at_builtin; refine wpList_push _ rfl _ _ 22 rfl w.heap.size 28 i0 _ 2 32 Try.underlying22 hi hz0 hz1 hz2 rfl (by decide) _ _ _ (by rfl) hO6.out #[.int .i64 x.c, .slice x.A x.es.length x.cap] w5.heap.size rfl (by rfl) (by rfl) (by rfl) (by unfold maxLen; omega) (by omega) (by omega) ?_; intro v' w6 hO7 hg7))
        have hO8 := hO6.out.alloc (.cells #[.int .i64 x.c, .slice x.A x.es.length x.cap] 28)
        have h7 := h6.out.row hO8 hg7 (by decide)
        have h27 := h26.out.row hO8 hg7 (by decide)
        have hb7 := hb6.out.grown hg7 (by simp; omega) (fun k hk => (hO6.out.lt k hk).1)
        have hO9 : w6.ownsRow w.heap.size 28 2 v' (t ++ [x]).length ((t ++ [x]).flatMap enPo) := by simpa [enPo] using hO7
        clear hO7 hg7 hO6 h6 h26 hb6 hO8
        go_roundw
        case rel => exact ⟨k + 1, t ++ [x], by omega, by go_num, hO9, by simp; omega, h7, h27, hb7, HT2⟩
        case measure => simp [intOf]; omega
      · rw [if_neg hp, if_neg hp] at h5
        have b1 : (postC (debT t) x.c x.es == 0) = false := by simpa using hp
        clear hp
        generalize postC (debT t) x.c x.es = r at *
        clear hG5
        go_wp2_with fail
        go_roundw
        case rel => exact ⟨k + 1, t, by omega, by go_num, hO5, by omega, h5, h25, hb5, hT⟩
        case measure => simp [intOf]; omega
    · have hk' : k = l.length := by omega
      subst hk'
      obtain ⟨A1, c1, rfl, _⟩ := own_slice hO
      have hR1 := own_rd hO
      have hA1 := own_blk hO
      have hSO := hid (h1.sep hO (by decide))
      have hSO2 := hid (h2.sep hO (by decide))
      have htl : t.length * 32 ≤ 140737488351232 := by omega
      clear hO hlt hk
      go_wp2_with fail
      go_loopw [8] (fun i wr => ∃ j : Nat, j ≤ t.length ∧ i = .int .i64 ((j : Int) - 1) ∧ IsLed wr X1 B1 (sumF t) (debT t) ∧ IsLed wr X2 B2 (sumF (t.drop j)) (debT (t.drop j)) ∧ Rd wr A1 (t.flatMap enPo) ∧ Below w.heap.size w wr) (fun i _ => (intOf i + 1).toNat)
      case atStart => exact ⟨t.length, Nat.le_refl _, rfl, h1, by rw [List.drop_length]; exact h2, hR1, hb⟩
      case round =>
        clear h1 h2 hR1 hb
        obtain ⟨j, hj, rfl, h1, h2, hR1, hb⟩ := hrel
        cases j with
        | zero =>
          rw [List.drop_zero] at h2
          have e0 : (((0 : Nat) : Int) - 1) = -1 := by omega
          rw [e0]
          clear e0
          have S1 := hid (lsums_any hS wr h1)
          clear hR1 hSO hSO2 hA1 hj
          go_wp2_with fail
          refine S1.out.mono ?_
          rintro e w5 ⟨A5, c5, rfl, hO5, hb5⟩
          have S2 := hid (lsums_any hS w5 (h2.next hb5))
          have hR5 := own_rd hO5
          replace hb := bthen hb hb5
          clear S1 hO5 hb5 h1 h2
          go_wp2_with fail
          refine S2.out.mono ?_
          rintro e w6 ⟨A6, c6, rfl, hO6, hb6⟩
          have hR56 := hR5.below hb6
          have hR6 := own_rd hO6
          replace hb := bthen hb hb6
          have hcl := canon_le (sumF t)
          have hself : ((canon (sumF t)).length != (canon (sumF t)).length) = false := by simp
          generalize canon (sumF t) = L at *
          clear S2 hO6 hb6 hR5
          go_wp2_with fail
          have HW := hid (And.intro hb (And.intro hR56 hR6))
          clear hb hR56 hR6 hself
          go_loopw [65] (fun i wr => ∃ i1 q : Nat, i1 ≤ L.length ∧ i = .int .i64 i1 ∧ wr = w6.drewN q) (fun i _ => L.length - (intOf i).toNat)
          case atStart => exact ⟨0, 0, Nat.zero_le _, rfl, by simp [World.drewN]⟩
          case round =>
            obtain ⟨i1, q1, hi1, rfl, rfl⟩ := hrel
            obtain ⟨hb, hR1, hR4⟩ := HW.out
            by_cases hlt : i1 < L.length
            · obtain ⟨x, hx⟩ : ∃ x, L[i1]? = some x := ⟨L[i1], List.getElem?_eq_getElem hlt⟩
              obtain ⟨b1, off3, rfl, hbs1, hc1⟩ := hR1.at_ 3 enS_len (by omega) hx
              obtain ⟨b2, off4, rfl, hbs2, hc2⟩ := hR4.at_ 3 enS_len (by omega) hx
              have hse := same_sm x
              obtain ⟨yd, yo, ys⟩ := x
              simp only at hse
              have q0 : w6.cell? ⟨b1, off3 + i1 * 3, none⟩ = some (.int .i64 yd) := hc1 0 _ rfl
              have q1 : w6.cell? ⟨b1, off3 + i1 * 3 + 1, none⟩ = some (.int .i64 yo) := hc1 1 _ rfl
              have q2 : w6.cell? ⟨b1, off3 + i1 * 3 + 2, none⟩ = some (.int .i64 ys) := hc1 2 _ rfl
              have p0 : w6.cell? ⟨b2, off4 + i1 * 3, none⟩ = some (.int .i64 yd) := hc2 0 _ rfl
              have p1 : w6.cell? ⟨b2, off4 + i1 * 3 + 1, none⟩ = some (.int .i64 yo) := hc2 1 _ rfl
              have p2 : w6.cell? ⟨b2, off4 + i1 * 3 + 2, none⟩ = some (.int .i64 ys) := hc2 2 _ rfl
              have hgd := guard_sm
              clear hc1 hc2 hx hR1 hR4 hb
              go_wp2_with fail
              refine wp_region_quiet_lit (by kernel_rfl) (by kernel_rfl) ?_
              repeat (first | go_big_quiet_step (fail) | quiet_step (fail))
              refine wpQuiet_nil ?_
              rintro _ ⟨nq, rfl⟩
              clear q0 q1 q2 p0 p1 p2 hse hgd
              go_wp2_with fail
              go_roundw
              case rel => exact ⟨i1 + 1, _, by omega, by go_num, rfl⟩
              case measure => simp [intOf]; omega
            · clear hR1 hR4 HW
              go_wp2_with fail
              go_ret
              exact ⟨rfl, hb.trans (below_drewN (Below.refl _ _) _)⟩
        | succ j =>
          have e0 : (((j + 1 : Nat) : Int) - 1) = (j : Int) := by omega
          rw [e0]
          clear e0
          have hlt : j < t.length := hj
          obtain ⟨x, hx⟩ : ∃ x, t[j]? = some x := ⟨t[j], List.getElem?_eq_getElem hlt⟩
          obtain ⟨b, off, rfl, hbs, hcc⟩ := hR1.at_ 2 enPo_len (by omega) hx
          obtain ⟨hxl, hxt⟩ := hT.out x (List.mem_of_getElem? hx)
          have hOK0 := HOK.out x hxl
          have hDr : t.drop j = x :: t.drop (j + 1) := by
            rw [List.drop_eq_getElem_cons hlt, (List.getElem?_eq_some_iff.1 hx).2]
          have hd0 : debT (t.drop (j + 1)) + debs x.es ≤ 1152921504606846976 := by
            rw [debT_cons, ← hDr]
            have := debT_drop t j
            have := h1.inv.d1
            omega
          have hp : postC (debT (t.drop (j + 1))) x.c x.es = 0 := postC_less hxt.choose_spec hd0
          have q0 : wr.cell? ⟨b, off + j * 2, none⟩ = some (.int .i64 x.c) := hcc 0 _ rfl
          have q1 : wr.cell? ⟨b, off + j * 2 + 1, none⟩ = some (.slice x.A x.es.length x.cap) := hcc 1 _ rfl
          have hwb : Below wr.heap.size wr wr.drew := below_drewN (Below.refl _ _) 1
          have P1 := hid (lpost_any x.c x.es x.A x.cap wr.drew (h2.next hwb) ((hOK0.next hb).next hwb).rd (by have := hOK0.len; omega) (hOK0.far HX2 HB2))
          have h1' := hid (h1.next hwb)
          have hRd' := hid (hR1.below hwb)
          have hb' := hid (hb.trans (below_drewN (Below.refl _ _) 1))
          have HDr := hid hDr
          have HP := hid hp
          clear hcc hx h1 h2 hR1 hb hwb hxt hxl hOK0 hDr hp hd0
          go_wp2_with fail
          refine wp_tail 11 (by kernel_rfl) (by kernel_rfl) ?_
          simp only [List.take_succ_cons, List.take_zero, List.drop_succ_cons, List.drop_zero]
          repeat still_step
          refine wpStill_nil ?_
          go_wp2_with fail
          refine P1.out.mono ?_
          rintro e w5 ⟨rfl, h5, ht⟩
          unfold nextF nextD at h5
          rw [if_pos HP.out, if_pos HP.out, sumF_cons, debT_cons, ← HDr.out] at h5
          rw [HP.out]
          have h15 := h1'.out.touch ht (fun h => h.elim (fun e => HSep.out.1 e.symm) (fun e => HSep.out.2.2.1 e.symm)) (fun h => h.elim (fun e => HSep.out.2.1 e.symm) (fun e => HSep.out.2.2.2 e.symm))
          have hb5 := touch_below hb'.out ht HX2 HB2
          have hR5 := ht.rd hRd'.out (fun g hg => hSO2.out g (by simpa [Value.ownBlock] using hg))
          clear P1 ht h1' hRd' hb' q0 q1 HP HDr
          go_wp2_with fail
          go_roundw
          case rel => exact ⟨j, by omega, by go_num, h15, h5, hR5, hb5⟩
          case measure => simp [intOf] <;> omega

end Go.Proofs.Ytjlfhfhckomalaa
