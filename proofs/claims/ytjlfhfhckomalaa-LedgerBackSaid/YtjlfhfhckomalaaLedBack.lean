/-
  The walk of LedgerBack.
-/
import Derived.Test.YtjlfhfhckomalaaLedPlay
namespace Go.Proofs.Ytjlfhfhckomalaa
open Go.RowKit Go.WideShapes Go.ChangeShapes Go.ChangeAt Go.Deep
set_option linter.unusedVariables false

def negE (es : List En) : List En := es.map fun x => ⟨x.a, -x.n⟩
theorem negE_len (es : List En) : (negE es).length = es.length := by simp [negE]
theorem negE_snoc (es : List En) (x : En) : negE (es ++ [x]) = negE es ++ [⟨x.a, -x.n⟩] := by simp [negE]
theorem sumE_neg (es : List En) : sumE (negE es) = -sumE es := by
  unfold sumE negE
  induction es with
  | nil => rfl
  | cons x es ih => simp only [List.map_cons, List.sum_cons] at *; omega
theorem debs_neg (es : List En) : debs (negE es) = debs es - sumE es := by
  unfold debs sumE negE
  induction es with
  | nil => rfl
  | cons x es ih =>
    simp only [List.map_cons, List.sum_cons] at *
    rw [ih]
    unfold pos
    split <;> split <;> omega
theorem okE_neg {x : En} (h : okE x = true) : okE ⟨x.a, -x.n⟩ = true := by
  rw [okE_iff] at *
  simp only
  omega
theorem postC_neg {d d' c : Int} {es : List En} (h : postC d c es = 0) : postC d' c (negE es) = if 1152921504606846976 - debs es < d' then 72 else 0 := by
  obtain ⟨h1, h2, h3, h4, h5, h6, h7⟩ := postC_zero h
  unfold postC
  rw [if_pos, if_neg (fun e => e (by rw [sumE_neg, h6]; rfl)), debs_neg, h6]
  · rw [show debs es - 0 = debs es from by omega]
  · refine ⟨h1, h2, fun e => h3 (List.eq_nil_of_length_eq_zero (by rw [← negE_len, e]; rfl)), by rw [negE_len]; exact h4, List.all_eq_true.2 fun x hx => ?_⟩
    obtain ⟨y, hy, rfl⟩ := List.mem_map.1 hx
    exact okE_neg (h5 y hy)
theorem addF_neg (f : Fn) (c : Int) (es : List En) : addF (addF f c es) c (negE es) = f := by
  funext p
  rw [addF_apply, addF_apply]
  unfold negE
  rw [List.map_map]
  have : (es.map fun x => if p = (c, x.a) then x.n else 0).sum + (es.map ((fun x : En => if p = (c, x.a) then x.n else 0) ∘ fun x => ⟨x.a, -x.n⟩)).sum = 0 := by
    rw [← sum_map_add]
    refine sum_map_zero _ _ (fun x _ => ?_)
    simp only [Function.comp]
    split <;> omega
  omega

theorem own_of {A : Option Addr} {n cap g : Nat} (h : A.map (·.block) = some g) : (Value.slice A n cap).ownBlock = some g := by
  cases A with
  | none => simp at h
  | some a => simpa [Value.ownBlock] using h
theorem info_en : (Try.prog.info? 47).map (fun i => (i.zero, i.size, i.bytes)) = some (some (.agg #[.int .i64 0, .int .i64 0]), 2, 16) := by kernel_rfl

set_option maxRecDepth 100000 in
set_option maxHeartbeats 16000000 in
theorem ledgerBack_walk (hS : SortsL) (l : List Po) (A : Option Addr) (cp : Nat) (xc : Int) (xA : Option Addr) (xcap : Nat) (xes : List En) (w : World) (hR : Rd w A (l.flatMap enPo)) (hok : ∀ p ∈ l, OkPo w p) (hx : OkPo w ⟨xc, xA, xcap, xes⟩) (hl : l.length * 32 ≤ 140737488351232) :
    Calls Try.prog 5 #[.slice A l.length cp, .agg #[.int .i64 xc, .slice xA xes.length xcap]] w (Law w) := by
  obtain ⟨i0, hi, hz0, hz1, hz2⟩ := info_parts info_en
  have hxlen : xes.length * 16 ≤ 140737488351232 := hx.len
  have HX := hid hx
  clear hx
  have hb0 : Below w.heap.size w (w.alloc (.cells #[.int .i64 xc, .slice xA xes.length xcap] 28)) := (Below.refl _ _).alloc (Nat.le_refl _) _
  have hG0 : Blk (w.alloc (.cells #[.int .i64 xc, .slice xA xes.length xcap] 28)) w.heap.size 28 #[.int .i64 xc, .slice xA xes.length xcap] := Blk.new _ _ _
  have hwz : w.heap.size ≤ (w.alloc (.cells #[.int .i64 xc, .slice xA xes.length xcap] 28)).heap.size := hb0.size
  have HB0 := hid (And.intro hb0 (And.intro (hR.below hb0) (fun p hp => (hok p hp).next hb0)))
  have HG0 := hid hG0
  clear hb0 hG0 hR hok
  go_enter Try.func5, Try.ntmps5
  go_wp2_with fail
  obtain ⟨WB, hWB⟩ : ∃ WB, WB = w.alloc (.cells #[.int .i64 xc, .slice xA xes.length xcap] 28) := ⟨_, rfl⟩
  obtain ⟨G, hGe⟩ : ∃ G, G = w.heap.size := ⟨_, rfl⟩
  rw [← hWB] at HB0 HG0 hwz ⊢
  rw [← hGe] at HG0 ⊢
  clear hWB hGe
  refine (lnew_any _).mono ?_
  rintro e w1 ⟨X, B, rfl, hB, hX, h, hb1⟩
  have hGz := HG0.out.lt
  have hGX : G ≠ X := by omega
  have hGB : G ≠ B := by omega
  have hwb : Below w1.heap.size w1 (w1.alloc (.cells (cellsR f0 0) 42)) := (Below.refl _ _).alloc (Nat.le_refl _) _
  have hr2 : IsRef (w1.alloc (.cells (cellsR f0 0) 42)) w1.heap.size f0 0 := Blk.new _ _ _
  have h2 := h.next hwb
  have hb3 := bthen hb1 hwb
  have hRX : w1.heap.size ≠ X := by have := h.blk.lt; omega
  have hRB : w1.heap.size ≠ B := by have := (h.map.choose_spec.1).lt; omega
  have hRR : WB.heap.size ≤ w1.heap.size := hb1.size
  have W1 := hid (wakes_any hS (w1.alloc (.cells (cellsR f0 0) 42)))
  have hz := zero_ref
  have HQ := hid (And.intro hr2 (And.intro h2 hb3))
  clear hb1 hwb hr2 h2 hb3 h
  go_wp2_with fail
  obtain ⟨R, hRe⟩ : ∃ R, R = w1.heap.size := ⟨_, rfl⟩
  rw [← hRe] at hRX hRB HQ hRR ⊢
  clear hRe
  refine W1.out.mono ?_
  rintro e w2 ⟨rfl, hbw⟩
  obtain ⟨hr, h, hb⟩ := HQ.out
  have PL := hid (lplay_any hS WB l A cp HB0.out.2.1 HB0.out.2.2 hl w2 (h.next hbw) (hr.next hbw) (bthen hb hbw) hX hB hRR)
  clear W1 HQ hbw hz hr h hb
  go_wp2_with fail
  refine PL.out.mono ?_
  rintro e w3 ⟨rfl, hb3, f, d, h, hr⟩
  have hG := HG0.out.below hb3 hGz
  have hb := HB0.out.1.trans (hb3.mono hwz)
  have hX0 : w.heap.size ≤ X := by omega
  have hB0 : w.heap.size ≤ B := by omega
  have T1 := hid (lturn_any w3 h)
  clear PL hb3 HG0 HB0 hGz hwz hRR hX hB
  go_wp2_with fail
  refine T1.out.mono ?_
  rintro e w4 ⟨rfl, hb4⟩
  replace h := h.next hb4
  replace hr := hr.next hb4
  replace hG := hG.next hb4
  replace hb := bthen hb hb4
  have S1 := hid (lsums_any hS w4 h)
  clear T1 hb4
  go_wp2_with fail
  refine S1.out.mono ?_
  rintro e w5 ⟨A5, c5, rfl, hO5, hb5⟩
  have hS5 := hid ((h.next hb5).sep hO5 (by decide))
  have hR5 := own_rd hO5
  replace h := h.next hb5
  replace hr := hr.next hb5
  replace hG := hG.next hb5
  replace hb := bthen hb hb5
  have P1 := hid (lpost_any xc xes xA xcap w5 h (show Rd w5 xA (xes.flatMap enE) from (HX.out.next hb).rd) (by omega) (HX.out.far hX0 hB0))
  have q0 : w5.cell? ⟨G, 0, none⟩ = some (.int .i64 xc) := hG.cell 0
  have q1 : w5.cell? ⟨G, 1, none⟩ = some (.slice xA xes.length xcap) := hG.cell 1
  have hIv := hid h.inv
  clear S1 hO5 hb5 h
  go_wp2_with fail
  refine P1.out.mono ?_
  rintro e w6 ⟨rfl, h6, ht⟩
  have hr6 := hr.touch ht (fun h => h.elim hRX hRB)
  have hG6 := ht.blk hG (fun h => h.elim hGX hGB)
  have hR6 := ht.rd hR5 (fun g hg => hS5.out g (own_of hg))
  have hb6 := touch_below hb ht hX0 hB0
  unfold nextF nextD at h6
  clear P1 q0 q1 ht hr hG hR5 hb
  by_cases hp : postC d xc xes = 0
  · rw [if_pos hp, if_pos hp] at h6
    rw [hp]
    obtain ⟨hp1, hp2, hp3, hp4, hp5, hp6, hp7⟩ := postC_zero hp
    have HPn := hid (fun d' => postC_neg (d' := d') hp)
    have HFn := hid (addF_neg f xc xes)
    have hDn := debs_nonneg xes
    have HE5 := hid hp5
    have HS0 := hid hp6
    have q0 : w6.cell? ⟨G, 0, none⟩ = some (.int .i64 xc) := hG6.cell 0
    have q1 : w6.cell? ⟨G, 1, none⟩ = some (.slice xA xes.length xcap) := hG6.cell 1
    have hX6 : Rd w6 xA (xes.flatMap enE) := (HX.out.next hb6).rd
    have hd0 := hIv.out.d0
    clear hp hp1 hp2 hp3 hp5 hp6 hr6 hRX hRB
    go_wp2_with fail
    go_loopw [10, 11, 51] (fun v s i wr => ∃ k : Nat, k ≤ xes.length ∧ i = .int .i64 k ∧ s = .int .i64 (debs (xes.take k)) ∧ wr.ownsRow w6.heap.size 47 2 v (negE (xes.take k)).length ((negE (xes.take k)).flatMap enE) ∧ Below w6.heap.size w6 wr) (fun _ _ i _ => xes.length - (intOf i).toNat)
    case atStart => exact ⟨0, Nat.zero_le _, rfl, rfl, World.ownsRow_nil _ _ _ _, Below.refl _ _⟩
    case round =>
      obtain ⟨k, hk, rfl, rfl, hO, hbr⟩ := hrel
      by_cases hlt : k < xes.length
      · obtain ⟨y, hy⟩ : ∃ y, xes[k]? = some y := ⟨xes[k], List.getElem?_eq_getElem hlt⟩
        have hX7 := hX6.below hbr
        obtain ⟨b, off, rfl, hbs, hcc⟩ := hX7.at_ 2 enE_len (by omega) hy
        have HS : Hid (xes.take (k + 1) = xes.take k ++ [y]) := hid (by rw [List.take_add_one, hy]; rfl)
        have hoy := (okE_iff y).1 (HE5.out y (List.mem_of_getElem? hy))
        have hbd := (sumE_bd (es := xes.take k) (fun z hz => HE5.out z (List.mem_of_mem_take hz))).2.2
        have hnn := debs_nonneg (xes.take k)
        rw [List.length_take, Nat.min_eq_left hk] at hbd
        have hlk : (negE (xes.take k)).length = k := by rw [negE_len, List.length_take]; omega
        have HDeb := hid (show debs (xes.take (k + 1)) = debs (xes.take k) + pos y.n from by rw [HS.out, debs_snoc])
        have HN := hid (show negE (xes.take (k + 1)) = negE (xes.take k) ++ [⟨y.a, -y.n⟩] from by rw [HS.out, negE_snoc])
        obtain ⟨ya, yn⟩ := y
        have q2 : wr.cell? ⟨b, off + k * 2, none⟩ = some (.int .i64 ya) := hcc 0 _ rfl
        have q3 : wr.cell? ⟨b, off + k * 2 + 1, none⟩ = some (.int .i64 yn) := hcc 1 _ rfl
        simp only at hoy HDeb HN
        obtain ⟨o1, o2, o3, o4, o5⟩ := hoy
        have HLK := hid hlk
        have hO2 := hid (hO.alloc (.cells #[.int .i64 ya, .int .i64 yn] 47))
        have hb3 := hid ((hbr.alloc hbr.size (.cells #[.int .i64 ya, .int .i64 yn] 47)).alloc (by have := hbr.size; simp; omega) (.cells #[.int .i64 ya, .int .i64 (-yn)] 47))
        have hwz := hbr.size
        have HB := hid ((Blk.new wr 47 #[.int .i64 ya, .int .i64 yn]).alloc (.cells #[.int .i64 ya, .int .i64 (-yn)] 47))
        have HOL := hid (fun g hg => (hO.lt g hg).2)
        generalize debs (xes.take k) = D at *
        clear hcc hy hX7 hO hbr HS o3 hlk
        generalize (negE (xes.take k)).length = n0 at *
        have hHL := HLK.out
        by_cases hpx : 0 < yn
        · have HPx : Hid (pos yn = yn) := hid (if_pos hpx)
          go_wp2_with (first
            | (at_builtin; refine wpList_push _ rfl _ _ 26 rfl w6.heap.size 47 i0 _ 2 16 Try.underlying26 hi hz0 hz1 hz2 rfl (by decide) _ _ _ (by rfl) hO2.out #[.int .i64 ya, .int .i64 (-yn)] (wr.heap.size + 1) (by simp) (by rfl) (by rfl) (by rfl) (by unfold maxLen; omega) (by omega) (by simp; omega) ?_; intro v' w7 hO4 hg4; have q5 : w7.cell? ⟨wr.heap.size, 1, none⟩ = some (.int .i64 yn) := (HB.out.grown hg4 (fun e => absurd (HOL.out _ e.symm) (Nat.lt_irrefl _))).cell 1))
          have hb4 := hb3.out.grown hg4 (by simp; omega) (fun k hk => (hO2.out.lt k hk).1)
          have hO5 : w7.ownsRow w6.heap.size 47 2 v' (negE (xes.take (k + 1))).length ((negE (xes.take (k + 1))).flatMap enE) := by
            rw [HN.out]
            have : (negE (xes.take k) ++ [(⟨ya, -yn⟩ : En)]).length = n0 + 1 := by rw [List.length_append, negE_len, List.length_take, hHL]; simp; omega
            rw [this]
            simpa [enE] using hO4
          clear hO2 hb3 hO4 hg4 HB HOL
          go_roundw
          case rel => exact ⟨k + 1, by omega, by go_num, by rw [HDeb.out, HPx.out]; exact congrArg (Value.int .i64) (by omega), hO5, hb4⟩
          case measure => simp [intOf]; omega
        · have HPx : Hid (pos yn = 0) := hid (if_neg hpx)
          go_wp2_with (first
            | (at_builtin; refine wpList_push _ rfl _ _ 26 rfl w6.heap.size 47 i0 _ 2 16 Try.underlying26 hi hz0 hz1 hz2 rfl (by decide) _ _ _ (by rfl) hO2.out #[.int .i64 ya, .int .i64 (-yn)] (wr.heap.size + 1) (by simp) (by rfl) (by rfl) (by rfl) (by unfold maxLen; omega) (by omega) (by simp; omega) ?_; intro v' w7 hO4 hg4; have q5 : w7.cell? ⟨wr.heap.size, 1, none⟩ = some (.int .i64 yn) := (HB.out.grown hg4 (fun e => absurd (HOL.out _ e.symm) (Nat.lt_irrefl _))).cell 1))
          have hb4 := hb3.out.grown hg4 (by simp; omega) (fun k hk => (hO2.out.lt k hk).1)
          have hO5 : w7.ownsRow w6.heap.size 47 2 v' (negE (xes.take (k + 1))).length ((negE (xes.take (k + 1))).flatMap enE) := by
            rw [HN.out]
            have : (negE (xes.take k) ++ [(⟨ya, -yn⟩ : En)]).length = n0 + 1 := by rw [List.length_append, negE_len, List.length_take, hHL]; simp; omega
            rw [this]
            simpa [enE] using hO4
          clear hO2 hb3 hO4 hg4 HB HOL
          go_roundw
          case rel => exact ⟨k + 1, by omega, by go_num, by rw [HDeb.out, HPx.out]; exact congrArg (Value.int .i64) (by omega), hO5, hb4⟩
          case measure => simp [intOf]; omega
      · have hk' : k = xes.length := by omega
        subst hk'
        rw [List.take_length] at *
        obtain ⟨A7, c7, rfl, _⟩ := own_slice hO
        have h7 := h6.next hbr
        have hSO := hid (h7.sep hO (by decide))
        have hG7 := hG6.next hbr
        have hR7 := hR6.below hbr
        have hb7 := bthen hb6 hbr
        have hRr := own_rd hO
        have P2 := hid (lpost_any xc (negE xes) A7 c7 wr h7 hRr (by rw [negE_len]; omega) (fun _ g hg => hSO.out g (own_of hg)))
        have q2 : wr.cell? ⟨G, 0, none⟩ = some (.int .i64 xc) := hG7.cell 0
        clear hO h7 hG7 hRr hbr h6 hG6 hR6 hb6 hX6 q0 q1 hlt hk
        rw [negE_len] at P2 ⊢
        go_wp2_with fail
        refine P2.out.mono ?_
        rintro e w8 ⟨rfl, h8, ht⟩
        have hR8 := ht.rd hR7 (fun g hg => hS5.out g (own_of hg))
        have hb8 := touch_below hb7 ht hX0 hB0
        unfold nextF nextD at h8
        have hpn := HPn.out (d + debs xes)
        rw [hpn] at h8 ⊢
        clear P2 ht hR7 hb7 q2
        by_cases hm : 1152921504606846976 - debs xes < d + debs xes
        · rw [if_pos hm]
          clear h8 hR8 hpn hm
          go_wp2_with fail
          go_ret
          exact ⟨rfl, hb8⟩
        · rw [if_neg hm] at h8 ⊢
          rw [if_pos rfl, if_pos rfl, HFn.out, debs_neg, HS0.out] at h8
          generalize debs xes = D at *
          rw [show d + D + (D - 0) = d + D + D from by omega] at h8
          have hN1 := h8.inv.d1
          clear hm hpn HPn
          have T2 := hid (lturn_any w8 h8)
          go_wp2_with fail
          refine T2.out.mono ?_
          rintro e w9 ⟨rfl, hb9⟩
          replace h8 := h8.next hb9
          replace hR8 := hR8.below hb9
          replace hb8 := bthen hb8 hb9
          have S2 := hid (lsums_any hS w9 h8)
          clear T2 hb9
          go_wp2_with fail
          refine S2.out.mono ?_
          rintro e w10 ⟨A10, c10, rfl, hO10, hb10⟩
          have hR10 := own_rd hO10
          replace hR8 := hR8.below hb10
          replace hb8 := bthen hb8 hb10
          have hcl := canon_le f
          have hself : ((canon f).length != (canon f).length) = false := by simp
          have hself2 : ((d + D + D - d) != 2 * D) = false := by simp; omega
          generalize canon f = L at *
          clear S2 hO10 hb10 h8
          go_wp2_with fail
          have HW := hid (And.intro hb8 (And.intro hR8 hR10))
          clear hb8 hR8 hR10 hself hself2
          go_loopw [101] (fun i wr => ∃ i1 q : Nat, i1 ≤ L.length ∧ i = .int .i64 i1 ∧ wr = w10.drewN q) (fun i _ => L.length - (intOf i).toNat)
          case atStart => exact ⟨0, 0, Nat.zero_le _, rfl, by simp [World.drewN]⟩
          case round =>
            obtain ⟨i1, q1, hi1, rfl, rfl⟩ := hrel
            obtain ⟨hb, hR1, hR4⟩ := HW.out
            by_cases hlt : i1 < L.length
            · obtain ⟨x, hx⟩ : ∃ x, L[i1]? = some x := ⟨L[i1], List.getElem?_eq_getElem hlt⟩
              obtain ⟨b1, off3, rfl, hbs1, hc1⟩ := hR1.at_ 3 enS_len (by omega) hx
              obtain ⟨b2, off4, rfl, hbs2, hc2⟩ := hR4.at_ 3 enS_len (by omega) hx
              have hse := same_sm x
              obtain ⟨yd, yo, ys⟩ := x
              simp only at hse
              have q0 : w10.cell? ⟨b1, off3 + i1 * 3, none⟩ = some (.int .i64 yd) := hc1 0 _ rfl
              have q1 : w10.cell? ⟨b1, off3 + i1 * 3 + 1, none⟩ = some (.int .i64 yo) := hc1 1 _ rfl
              have q2 : w10.cell? ⟨b1, off3 + i1 * 3 + 2, none⟩ = some (.int .i64 ys) := hc1 2 _ rfl
              have p0 : w10.cell? ⟨b2, off4 + i1 * 3, none⟩ = some (.int .i64 yd) := hc2 0 _ rfl
              have p1 : w10.cell? ⟨b2, off4 + i1 * 3 + 1, none⟩ = some (.int .i64 yo) := hc2 1 _ rfl
              have p2 : w10.cell? ⟨b2, off4 + i1 * 3 + 2, none⟩ = some (.int .i64 ys) := hc2 2 _ rfl
              have hgd := guard_sm
              clear hc1 hc2 hx hR1 hR4 hb
              go_wp2_with fail
              refine wp_region_quiet_lit (by kernel_rfl) (by kernel_rfl) ?_
              repeat (first | go_big_quiet_step (fail) | quiet_step (fail))
              refine wpQuiet_nil ?_
              rintro _ ⟨nq, rfl⟩
              clear q0 q1 q2 p0 p1 p2 hse hgd
              go_wp2_with fail
              go_roundw
              case rel => exact ⟨i1 + 1, _, by omega, by go_num, rfl⟩
              case measure => simp [intOf]; omega
            · clear hR1 hR4 HW
              go_wp2_with fail
              go_ret
              exact ⟨rfl, hb.trans (below_drewN (Below.refl _ _) _)⟩
  · rw [if_neg hp, if_neg hp] at h6
    have b1 : (postC d xc xes != 0) = true := by simpa using hp
    have ST := hid (lstate_any hS w6 h6 hr6)
    clear hp h6 hr6 hG6 hR6
    go_wp2_with fail
    refine ST.out.mono ?_
    rintro e w7 ⟨rfl, hb7⟩
    have hb8 := bthen hb6 hb7
    clear ST hb6 hb7
    go_wp2_with fail
    go_ret
    exact ⟨rfl, hb8⟩

end Go.Proofs.Ytjlfhfhckomalaa
