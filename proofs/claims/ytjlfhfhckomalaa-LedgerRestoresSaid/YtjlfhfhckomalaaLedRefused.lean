/-
  The walk of LedgerRefused.
-/
import Derived.Test.YtjlfhfhckomalaaLedOrder
namespace Go.Proofs.Ytjlfhfhckomalaa
open Go.RowKit Go.WideShapes Go.ChangeShapes Go.ChangeAt Go.Deep
set_option linter.unusedVariables false

/-- A ledger behind a script. -/
def fdL (l : List Po) : Fn × Int := l.foldl (fun s p => (nextF s.1 s.2 p.c p.es, nextD s.2 p.c p.es)) (f0, 0)
theorem fdL_snoc (l : List Po) (p : Po) : fdL (l ++ [p]) = (nextF (fdL l).1 (fdL l).2 p.c p.es, nextD (fdL l).2 p.c p.es) := by unfold fdL; rw [List.foldl_append]; rfl
def headB (c : Int) (n : Nat) : Bool := decide (1 ≤ c) && decide (c ≤ 64) && decide (1 ≤ n) && decide (n ≤ 8)
def fitP (c : Int) (es : List En) : Bool := decide (1 ≤ c) && decide (c ≤ 64) && decide (0 < es.length) && decide (es.length ≤ 8) && es.all okE
theorem postC_fit (d c : Int) (es : List En) : postC d c es = if fitP c es = true then (if sumE es ≠ 0 then 160 else if 1152921504606846976 - debs es < d then 72 else 0) else 2 := by
  unfold postC fitP
  by_cases h : 1 ≤ c ∧ c ≤ 64 ∧ es ≠ [] ∧ es.length ≤ 8 ∧ es.all okE = true
  · have h0 : 0 < es.length := List.length_pos_iff.2 h.2.2.1
    rw [if_pos h]
    rw [show (decide (1 ≤ c) && decide (c ≤ 64) && decide (0 < es.length) && decide (es.length ≤ 8) && es.all okE) = true from by simp [h, h0], if_pos rfl]
  · rw [if_neg h, if_neg]
    intro e
    simp only [Bool.and_eq_true, decide_eq_true_eq] at e
    exact h ⟨e.1.1.1.1, e.1.1.1.2, List.length_pos_iff.1 e.1.1.2, e.1.2, e.2⟩

set_option maxRecDepth 100000 in
set_option maxHeartbeats 16000000 in
theorem ledgerRefused_walk (hS : SortsL) (l : List Po) (A : Option Addr) (cp : Nat) (x : Po) (w : World) (hR : Rd w A (l.flatMap enPo)) (hok : ∀ p ∈ l, OkPo w p) (hx : OkPo w x) (hl : l.length * 32 ≤ 140737488351232) :
    Calls Try.prog 6 #[.slice A l.length cp, .agg #[.int .i64 x.c, .slice x.A x.es.length x.cap]] w (Law w) := by
  have HOK := hid hok
  have HX := hid hx
  clear hok hx
  have hb0 : Below w.heap.size w (w.alloc (.cells #[.int .i64 x.c, .slice x.A x.es.length x.cap] 28)) := (Below.refl _ _).alloc (Nat.le_refl _) _
  have hG0 : Blk (w.alloc (.cells #[.int .i64 x.c, .slice x.A x.es.length x.cap] 28)) w.heap.size 28 #[.int .i64 x.c, .slice x.A x.es.length x.cap] := Blk.new _ _ _
  have HB0 := hid hb0
  have HG0 := hid hG0
  clear hb0 hG0
  go_enter Try.func6, Try.ntmps6
  go_wp2_with fail
  refine (wakes_any hS _).mono ?_
  rintro e w1 ⟨rfl, hb⟩
  have hb1 := HB0.out.trans (hb.mono HB0.out.size)
  have hG1 := HG0.out.next hb
  clear hb HB0 HG0
  go_wp2_with fail
  refine (lnew_any _).mono ?_
  rintro e w2 ⟨X, B, rfl, hB, hX, h1, hb2⟩
  have hGX : w.heap.size ≠ X := by have := hG1.lt; omega
  have hGB : w.heap.size ≠ B := by have := hG1.lt; omega
  have hG2 := hG1.next hb2
  have hb3 := bthen hb1 hb2
  have HX1 : w.heap.size ≤ X := by have := hb1.size; omega
  have HB1 : w.heap.size ≤ B := by have := hb1.size; omega
  clear hG1 hb1 hb2 hX hB
  go_wp2_with fail
  go_loopw [24] (fun i wr => ∃ k : Nat, k ≤ l.length ∧ i = .int .i64 k ∧ IsLed wr X B (fdL (l.take k)).1 (fdL (l.take k)).2 ∧ Blk wr w.heap.size 28 #[.int .i64 x.c, .slice x.A x.es.length x.cap] ∧ Below w.heap.size w wr) (fun i _ => l.length - (intOf i).toNat)
  case atStart => exact ⟨0, Nat.zero_le _, rfl, h1, hG2, hb3⟩
  case round =>
    clear h1 hG2 hb3
    obtain ⟨k, hk, rfl, h1, hG, hb⟩ := hrel
    by_cases hlt : k < l.length
    · obtain ⟨y, hy⟩ : ∃ y, l[k]? = some y := ⟨l[k], List.getElem?_eq_getElem hlt⟩
      have hR1 := hR.below hb
      obtain ⟨b, off, rfl, hbs, hcc⟩ := hR1.at_ 2 enPo_len (by omega) hy
      have hOK0 := HOK.out y (List.mem_of_getElem? hy)
      have HS : Hid (fdL (l.take (k + 1)) = (nextF (fdL (l.take k)).1 (fdL (l.take k)).2 y.c y.es, nextD (fdL (l.take k)).2 y.c y.es)) := hid (by rw [List.take_add_one, hy]; exact fdL_snoc _ _)
      have q0 : wr.cell? ⟨b, off + k * 2, none⟩ = some (.int .i64 y.c) := hcc 0 _ rfl
      have q1 : wr.cell? ⟨b, off + k * 2 + 1, none⟩ = some (.slice y.A y.es.length y.cap) := hcc 1 _ rfl
      have hwb : Below wr.heap.size wr (wr.alloc (.cells #[.int .i64 y.c, .slice y.A y.es.length y.cap] 28)) := (Below.refl _ _).alloc (Nat.le_refl _) _
      have P1 := hid (lpost_any y.c y.es y.A y.cap _ (h1.next hwb) ((hOK0.next hb).next hwb).rd (by have := hOK0.len; omega) (hOK0.far HX1 HB1))
      have hb' := hid (hb.alloc hb.size (.cells #[.int .i64 y.c, .slice y.A y.es.length y.cap] 28))
      have hG' := hid (hG.next hwb)
      clear hcc hy hR1 h1 hG hb hwb hOK0
      go_wp2_with fail
      refine P1.out.mono ?_
      rintro e w5 ⟨rfl, h5, ht⟩
      have hG5 := ht.blk hG'.out (fun h => h.elim hGX hGB)
      have hb5 := touch_below hb'.out ht HX1 HB1
      have h6 : IsLed w5 X B (fdL (l.take (k + 1))).1 (fdL (l.take (k + 1))).2 := by rw [HS.out]; exact h5
      clear P1 ht hG' hb' q0 q1 h5 HS
      go_wp2_with fail
      go_roundw
      case rel => exact ⟨k + 1, by omega, by go_num, h6, hG5, hb5⟩
      case measure => simp [intOf]; omega
    · have hk' : k = l.length := by omega
      subst hk'
      rw [List.take_length] at h1
      have hd1 := h1.inv.d1
      generalize (fdL l).1 = f at *
      generalize (fdL l).2 = d at *
      have S1 := hid (lsums_any hS wr h1)
      clear hlt hk HOK hR hl
      go_wp2_with fail
      refine S1.out.mono ?_
      rintro e w5 ⟨A5, c5, rfl, hO5, hb5⟩
      have hSA : Hid (∀ b, A5.map (·.block) = some b → ¬ XB X B b) := hid (fun b hb2 hk => by
        have h3 := (own_blk hO5 b hb2).1
        have h4 := h1.blk.lt
        have h5 := (h1.map.choose_spec.1).lt
        rcases hk with h6 | h6 <;> omega)
      have h5 := h1.next hb5
      have hG5 := hG.next hb5
      have hR5 := own_rd hO5
      replace hb := bthen hb hb5
      clear S1 hO5 hb5 h1 hG
      obtain ⟨g, hg⟩ : ∃ g, g = w5.heap.size := ⟨_, rfl⟩
      have hw6 : Below w5.heap.size w5 (w5.alloc (.cells #[.int .i64 0, .int .i64 0] 49)) := (Below.refl _ _).alloc (Nat.le_refl _) _
      have hA := Blk.new w5 49 #[.int .i64 0, .int .i64 0]
      have T1 := hid (lturn_any _ (h5.next hw6))
      have h6 := hid (h5.next hw6)
      have hG6 := hid (hG5.next hw6)
      have hR6 := hid (hR5.below hw6)
      have hb6 := hid (bthen hb hw6)
      have hgX : g ≠ X := by have := h5.blk.lt; omega
      have hgB : g ≠ B := by have := (h5.map.choose_spec.1).lt; omega
      have hgG : w.heap.size ≠ g := by have := hG5.lt; omega
      have hgw : w.heap.size ≤ g := by have := hb.size; omega
      have hgA : Hid (∀ b, A5.map (·.block) = some b → canon f ≠ [] → b ≠ g) := hid (fun b hb2 hne => by
        have := hR5.old (fun e => hne (by
          have hl := length_flatMap_const enS 3 enS_len (canon f)
          rw [e] at hl
          exact List.eq_nil_of_length_eq_zero (by simp at hl; omega))) b hb2
        omega)
      rw [← hg] at hA
      have HA := hid hA
      clear hw6 hA h5 hG5 hR5 hb
      go_wp2_with fail
      rw [← hg]
      clear hg
      refine T1.out.mono ?_
      rintro e w6 ⟨rfl, hb7⟩
      have hA := HA.out.next hb7
      have h7 := h6.out.next hb7
      have hG7 := hG6.out.next hb7
      have hR7 := hR6.out.below hb7
      have hb8 := bthen hb6.out hb7
      clear T1 HA h6 hG6 hR6 hb6 hb7
      have z1 : w6.cell? ⟨g, 0, none⟩ = some (.int .i64 0) := hA.cell 0
      have z2 : w6.cell? ⟨g, 1, none⟩ = some (.int .i64 0) := hA.cell 1
      have z3 : w6.frozen? ⟨g, 0, none⟩ = false := hA.free 0
      have z4 : w6.frozen? ⟨g, 1, none⟩ = false := hA.free 1
      have hT : Touch (· = g) w6 ((w6.setCell ⟨g, 0, none⟩ (.int .i64 d)).setCell ⟨g, 1, none⟩ (.int .i64 d)) := (Touch.setCell _ _ _ _).then (Touch.setCell _ _ _ _)
      have hA2 : Blk ((w6.setCell ⟨g, 0, none⟩ (.int .i64 d)).setCell ⟨g, 1, none⟩ (.int .i64 d)) g 49 #[.int .i64 d, .int .i64 d] := (hA.set_ 0 _).set_ 1 _
      have h8 := h7.touch hT (fun e => hgX e.symm) (fun e => hgB e.symm)
      have hG8 := hT.blk hG7 hgG
      have hb9 := hb8.trans (hT.below hb8.size (fun k hk => by rw [hk]; exact hgw))
      have hR8 : Rd ((w6.setCell ⟨g, 0, none⟩ (.int .i64 d)).setCell ⟨g, 1, none⟩ (.int .i64 d)) A5 ((canon f).flatMap enS) := by
        by_cases hc : canon f = []
        · rw [hc]; exact .inl rfl
        · exact hT.rd hR7 (fun b hb2 => hgA.out b hb2 hc)
      have P1 := hid (lpost_any x.c x.es x.A x.cap _ h8 (HX.out.next hb9).rd (by have := HX.out.len; omega) (HX.out.far HX1 HB1))
      have q0 : ((w6.setCell ⟨g, 0, none⟩ (.int .i64 d)).setCell ⟨g, 1, none⟩ (.int .i64 d)).cell? ⟨w.heap.size, 0, none⟩ = some (.int .i64 x.c) := hG8.cell 0
      have q1 : ((w6.setCell ⟨g, 0, none⟩ (.int .i64 d)).setCell ⟨g, 1, none⟩ (.int .i64 d)).cell? ⟨w.heap.size, 1, none⟩ = some (.slice x.A x.es.length x.cap) := hG8.cell 1
      have Q := hid (And.intro hA2 (And.intro hG8 (And.intro hb9 hR8)))
      clear hT hA hA2 h7 hG7 hR7 hb8 h8 hG8 hb9 hR8
      go_wp2_with fail
      refine P1.out.mono ?_
      rintro e w7 ⟨rfl, h9, ht⟩
      obtain ⟨hA2, hG8, hb9, hR8⟩ := Q.out
      have hA9 := ht.blk hA2 (fun h => h.elim hgX hgB)
      have hG9 := ht.blk hG8 (fun h => h.elim hGX hGB)
      have hb10 := touch_below hb9 ht HX1 HB1
      have hX9 := HX.out.next hb10
      have hR9 := ht.rd hR8 hSA.out
      clear P1 Q q0 q1 hA2 hG8 hb9 z1 z2 z3 z4 ht hR8
      have q0 : w7.cell? ⟨w.heap.size, 0, none⟩ = some (.int .i64 x.c) := hG9.cell 0
      have q1 : w7.cell? ⟨w.heap.size, 1, none⟩ = some (.slice x.A x.es.length x.cap) := hG9.cell 1
      have hlen := HX.out.len
      go_upto_region 12 with fail
      go_cut [11, 12] (fun s ft wx => s = .int .i64 0 ∧ ft = .bool (headB x.c x.es.length) ∧ ∃ q, wx = w7.drewN q)
      case first =>
        by_cases c1 : 1 ≤ x.c
        · by_cases c2 : x.c ≤ 64
          · by_cases c3 : (1 : Int) ≤ (x.es.length : Int)
            · by_cases c4 : (x.es.length : Int) ≤ 8
              · have HH : Hid (headB x.c x.es.length = true) := hid (by unfold headB; simp only [Bool.and_eq_true, decide_eq_true_eq]; omega)
                go_quiet (fail)
                go_wp2_with fail
                go_meet
                exact ⟨rfl, by rw [HH.out], _, rfl⟩
              · have HH : Hid (headB x.c x.es.length = false) := hid (by unfold headB; simp only [Bool.and_eq_false_iff, decide_eq_false_iff_not]; omega)
                have d4 : decide ((x.es.length : Int) ≤ 8) = false := by simpa using c4
                clear c4
                go_quiet (fail)
                go_wp2_with fail
                go_meet
                exact ⟨rfl, by rw [HH.out], _, rfl⟩
            · have HH : Hid (headB x.c x.es.length = false) := hid (by unfold headB; simp only [Bool.and_eq_false_iff, decide_eq_false_iff_not]; omega)
              have d4 : decide ((1 : Int) ≤ (x.es.length : Int)) = false := decide_eq_false c3
              clear c3
              go_quiet (fail)
              go_wp2_with fail
              go_meet
              exact ⟨rfl, by rw [HH.out], _, rfl⟩
          · have HH : Hid (headB x.c x.es.length = false) := hid (by unfold headB; simp only [Bool.and_eq_false_iff, decide_eq_false_iff_not]; omega)
            have d4 : decide (x.c ≤ 64) = false := by simpa using c2
            clear c2
            go_quiet (fail)
            go_wp2_with fail
            go_meet
            exact ⟨rfl, by rw [HH.out], _, rfl⟩
        · have HH : Hid (headB x.c x.es.length = false) := hid (by unfold headB; simp only [Bool.and_eq_false_iff, decide_eq_false_iff_not]; omega)
          have d4 : decide (1 ≤ x.c) = false := by simpa using c1
          clear c1
          go_quiet (fail)
          go_wp2_with fail
          go_meet
          exact ⟨rfl, by rw [HH.out], _, rfl⟩
      case rest =>
        obtain ⟨rfl, rfl, q7, rfl⟩ := hcut
        obtain ⟨M, hM1, hM2, hM3⟩ : ∃ M : Nat, M ≤ x.es.length ∧ M ≤ 8 ∧ (M = x.es.length ∨ (M = 8 ∧ 8 < x.es.length)) := by
          by_cases h : x.es.length ≤ 8
          · exact ⟨_, Nat.le_refl _, h, .inl rfl⟩
          · exact ⟨8, by omega, Nat.le_refl _, .inr ⟨rfl, by omega⟩⟩
        have hXr := hX9.rd.take M
        go_upto_region 13 with fail
        go_cut [77, 78, 79] (fun s n i wx => (∃ A' c', s = .slice A' M c' ∧ Rd w7 A' ((x.es.take M).flatMap enE)) ∧ n = .int .i64 M ∧ i = .int .i64 0 ∧ wx = w7.drewN q7)
        case first =>
          have hxA : x.A = none ∨ ∃ a, x.A = some a := by cases x.A <;> simp
          rcases hxA with hxA | ⟨a, hxA⟩
          · have he : x.es.length = 0 := by
              have h0 := hX9.rd
              rw [hxA] at h0
              rcases h0 with h | ⟨b, off, h, _⟩
              · have hl := length_flatMap_const enE 2 enE_len x.es
                rw [h] at hl
                simp at hl
                omega
              · cases h
            rw [hxA, he] at q1
            have hm0 : M = 0 := by omega
            subst hm0
            go_wp2_with fail
            go_meet
            exact ⟨⟨none, _, rfl, .inl (by simp)⟩, rfl, rfl, rfl⟩
          · have hroom := HX.out.room
            rw [hxA] at q1 hXr
            rcases hM3 with e | ⟨e, h9'⟩
            · have c4 : (x.es.length : Int) ≤ 8 := by omega
              have hcap : x.es.length ≤ x.cap := hroom
              rw [e] at hXr
              have HE := hid e
              clear e hM1 hM2
              go_wp2_with fail
              go_meet
              rw [HE.out]
              exact ⟨⟨_, _, congrArg (fun n => Value.slice (some a) n x.cap) (by omega), hXr⟩, congrArg (Value.int .i64) (by omega), rfl, rfl⟩
            · have c4 : (8 : Int) < (x.es.length : Int) := by omega
              have hcap : 8 ≤ x.cap := by omega
              subst e
              go_wp2_with fail
              go_meet
              exact ⟨⟨_, _, congrArg (fun n => Value.slice (some a) n x.cap) (by omega), hXr⟩, congrArg (Value.int .i64) (by omega), rfl, rfl⟩
        case rest =>
          obtain ⟨⟨A', c', rfl, hX7⟩, rfl, rfl, rfl⟩ := hcut
          clear hXr
          have HWW := hid (And.intro hA9 (And.intro hG9 (And.intro hb10 (And.intro hR9 h9))))
          clear hA9 hG9 hb10 hR9 h9 hX9 q0 q1
          obtain ⟨H, hH⟩ : ∃ H, H = headB x.c x.es.length := ⟨_, rfl⟩
          rw [← hH]
          have HH := hid hH
          clear hH
          go_wp2_with fail
          go_loopw [11, 12, 79] (fun sv fv iv wr => ∃ (k : Nat) (s : Int) (ft : Bool), k ≤ M ∧ iv = .int .i64 k ∧ sv = .int .i64 s ∧ fv = .bool ft ∧ Hid (ft = (H && (x.es.take k).all okE)) ∧ Hid (ft = true → s = sumE (x.es.take k)) ∧ Below w7.heap.size w7 wr) (fun _ _ iv _ => M - (intOf iv).toNat)
          case atStart => exact ⟨0, 0, H, Nat.zero_le _, rfl, rfl, rfl, hid (by simp), hid (fun _ => rfl), below_drewN (Below.refl _ _) _⟩
          case round =>
            obtain ⟨k, s, ft, hk, rfl, rfl, rfl, hft, hsm, hb⟩ := hrel
            by_cases hlt : k < M
            · obtain ⟨y, hy⟩ : ∃ y, x.es[k]? = some y := ⟨x.es[k], List.getElem?_eq_getElem (by omega)⟩
              have hyM : (x.es.take M)[k]? = some y := by rw [List.getElem?_take_of_lt hlt]; exact hy
              have hX8 := hX7.below hb
              obtain ⟨b, off, rfl, hbs, hcc⟩ := hX8.at_ 2 enE_len (by omega) hyM
              have HS : Hid (x.es.take (k + 1) = x.es.take k ++ [y]) := hid (by rw [List.take_add_one, hy]; rfl)
              have HAll : Hid ((x.es.take (k + 1)).all okE = ((x.es.take k).all okE && okE y)) := hid (by rw [HS.out, List.all_append]; simp)
              have HSum : Hid (sumE (x.es.take (k + 1)) = sumE (x.es.take k) + y.n) := hid (by rw [HS.out, sumE_snoc])
              have q0 : wr.cell? ⟨b, off + k * 2, none⟩ = some (.int .i64 y.a) := hcc 0 _ rfl
              have q1 : wr.cell? ⟨b, off + k * 2 + 1, none⟩ = some (.int .i64 y.n) := hcc 1 _ rfl
              have hy64 := (HX.out.e64 y (List.mem_of_getElem? hy)).2.bd
              have hbA := hid (hb.alloc hb.size (.cells #[.int .i64 y.a, .int .i64 y.n] 47))
              obtain ⟨ya, yn⟩ := y
              simp only at HSum hy64
              clear hcc hy hyM hX8 HS hb
              have HF2 : Hid ((ft && okE ⟨ya, yn⟩) = (H && (x.es.take (k + 1)).all okE)) := hid (by rw [hft.out, HAll.out, Bool.and_assoc])
              have HSm2 : Hid ((ft && okE ⟨ya, yn⟩) = true → -9007199254740992 ≤ s ∧ s ≤ 9007199254740992 ∧ -1125899906842624 ≤ yn ∧ yn ≤ 1125899906842624 ∧ s + yn = sumE (x.es.take (k + 1))) := hid (fun h => by
                simp only [Bool.and_eq_true] at h
                have h1 := hsm.out h.1
                have h2 := (okE_iff _).1 h.2
                have h3 := hft.out
                rw [h.1] at h3
                have h4 : (x.es.take k).all okE = true := by
                  have := h3.symm
                  simp only [Bool.and_eq_true] at this
                  exact this.2
                have h5 := sumE_bd (es := x.es.take k) (List.all_eq_true.1 h4)
                rw [List.length_take] at h5
                simp only at h2
                rw [HSum.out]
                omega)
              go_upto_region 16 with fail
              go_cut [12] (fun fv wx => fv = .bool (ft && okE ⟨ya, yn⟩) ∧ wx = wr.alloc (.cells #[.int .i64 ya, .int .i64 yn] 47))
              case first =>
                cases ft with
                | false =>
                  go_wp2_with fail
                  go_meet
                  exact ⟨rfl, rfl⟩
                | true =>
                  by_cases o1 : 0 ≤ ya
                  · by_cases o2 : ya < 6
                    · by_cases o3 : yn = 0
                      · have b3 : (yn != 0) = false := by simpa using o3
                        have HV : Hid ((true && okE ⟨ya, yn⟩) = false) := hid (by rw [Bool.true_and]; unfold okE; simp [o3])
                        clear o3
                        go_wp2_with fail
                        go_meet
                        exact ⟨by rw [HV.out], rfl⟩
                      · have b3 : (yn != 0) = true := by simpa using o3
                        by_cases o4 : yn ≤ 1125899906842624
                        · by_cases o5 : -1125899906842624 ≤ yn
                          · have HV : Hid ((true && okE ⟨ya, yn⟩) = true) := hid (by rw [Bool.true_and]; exact (okE_iff _).2 ⟨o1, o2, o3, o4, o5⟩)
                            clear o3
                            go_wp2_with fail
                            go_meet
                            exact ⟨by rw [HV.out], rfl⟩
                          · have b5 : decide (-1125899906842624 ≤ yn) = false := by simpa using o5
                            have HV : Hid ((true && okE ⟨ya, yn⟩) = false) := hid (by rw [Bool.true_and]; unfold okE; simp only [b5, Bool.and_false])
                            clear o3 o5
                            go_wp2_with fail
                            go_meet
                            exact ⟨by rw [HV.out], rfl⟩
                        · have b4 : decide (yn ≤ 1125899906842624) = false := by simpa using o4
                          have HV : Hid ((true && okE ⟨ya, yn⟩) = false) := hid (by rw [Bool.true_and]; unfold okE; simp only [b4, Bool.and_false, Bool.false_and])
                          clear o3 o4
                          go_wp2_with fail
                          go_meet
                          exact ⟨by rw [HV.out], rfl⟩
                    · have b2 : decide (ya < 6) = false := by simpa using o2
                      have HV : Hid ((true && okE ⟨ya, yn⟩) = false) := hid (by rw [Bool.true_and]; unfold okE; simp only [b2, Bool.and_false, Bool.false_and])
                      clear o2
                      go_wp2_with fail
                      go_meet
                      exact ⟨by rw [HV.out], rfl⟩
                  · have b1 : decide (0 ≤ ya) = false := by simpa using o1
                    have HV : Hid ((true && okE ⟨ya, yn⟩) = false) := hid (by rw [Bool.true_and]; unfold okE; simp only [b1, Bool.false_and])
                    clear o1
                    go_wp2_with fail
                    go_meet
                    exact ⟨by rw [HV.out], rfl⟩
              case rest =>
                obtain ⟨rfl, rfl⟩ := hcut
                generalize (ft && okE ⟨ya, yn⟩) = f2 at *
                cases f2 with
                | false =>
                  go_wp2_with fail
                  go_roundw
                  case rel => exact ⟨k + 1, _, false, by omega, by go_num, rfl, rfl, HF2, hid (fun h => by cases h), hbA.out⟩
                  case measure => simp [intOf]; omega
                | true =>
                  obtain ⟨z1, z2, z3, z4, z5⟩ := HSm2.out rfl
                  have Z5 := hid z5
                  clear z5
                  go_wp2_with fail
                  go_roundw
                  case rel => exact ⟨k + 1, _, true, by omega, by go_num, rfl, rfl, HF2, hid (fun _ => Z5.out), hbA.out⟩
                  case measure => simp [intOf]; omega
            · have hkM : k = M := by omega
              subst hkM
              obtain ⟨hA9, hG9, hb10, hR9, h9⟩ := HWW.out
              replace hA9 := hA9.next hb
              replace h9 := h9.next hb
              replace hR9 := hR9.below hb
              replace hb10 := bthen hb10 hb
              have q0 : wr.cell? ⟨g, 0, none⟩ = some (.int .i64 d) := hA9.cell 0
              have q1 : wr.cell? ⟨g, 1, none⟩ = some (.int .i64 d) := hA9.cell 1
              have hpc := postC_fit d x.c x.es
              have HFT : Hid (ft = fitP x.c x.es) := hid (by
                rw [hft.out, HH.out]
                unfold fitP headB
                rcases hM3 with e | ⟨e, h8⟩
                · rw [e, List.take_length]
                  rfl
                · have : decide (x.es.length ≤ 8) = false := by simp; omega
                  simp [this])
              have HNX : Hid (postC d x.c x.es ≠ 0 → nextF f d x.c x.es = f ∧ nextD d x.c x.es = d) := hid (fun h => by unfold nextF nextD; rw [if_neg h, if_neg h]; exact ⟨rfl, rfl⟩)
              rw [← HFT.out] at hpc
              have HPC := hid hpc
              clear hpc
              have HSE : Hid (ft = true → s = sumE x.es) := hid (fun hf => by
                rw [hsm.out hf]
                rcases hM3 with e | ⟨e, h8⟩
                · rw [e, List.take_length]
                · exfalso
                  have h1 := HFT.out.symm
                  rw [hf] at h1
                  unfold fitP at h1
                  have : decide (x.es.length ≤ 8) = false := by simp; omega
                  simp [this] at h1)
              generalize postC d x.c x.es = r at *
              clear hft hsm hM3
              go_upto_region 19 with fail
              go_cut [128] (fun v wx => v = .bool false ∧ wx = wr)
              case first =>
                have hrr := HPC.out
                clear hA9 hG9 hb10 hR9 h9 hX7 q0 q1 hb hd1 hlen hM1 hM2 hgA HNX HX hSA HWW hk hlt hgX hgB hgG hgw HX1 HB1 hGX hGB
                cases ft with
                | false =>
                  rw [if_neg (by decide)] at hrr
                  have b1 : (r == 2) = true := by simpa using hrr
                  clear hrr
                  go_wp2_with fail
                  go_meet
                  exact ⟨rfl, rfl⟩
                | true =>
                  rw [if_pos rfl, ← HSE.out rfl] at hrr
                  by_cases hs0 : s = 0
                  · rw [if_neg (fun e => e hs0)] at hrr
                    have b1 : (r == 2) = false := by rw [hrr]; split <;> rfl
                    have b2 : (r == 160) = false := by rw [hrr]; split <;> rfl
                    have b3 : (s != 0) = false := by simpa using hs0
                    clear hrr hs0
                    go_wp2_with fail
                    go_meet
                    exact ⟨rfl, rfl⟩
                  · rw [if_pos hs0] at hrr
                    have b1 : (r == 2) = false := by rw [hrr]; rfl
                    have b2 : (r == 160) = true := by rw [hrr]; rfl
                    have b3 : (s != 0) = true := by simpa using hs0
                    clear hrr hs0
                    go_wp2_with fail
                    go_meet
                    exact ⟨rfl, rfl⟩
              case rest =>
                obtain ⟨rfl, rfl⟩ := hcut
                clear HPC HSE HFT HH
                by_cases hr0 : r = 0
                · have b1 : (r == 0) = true := by simpa using hr0
                  clear hr0
                  go_wp2_with fail
                  go_ret
                  exact ⟨rfl, hb10⟩
                · have b1 : (r == 0) = false := by simpa using hr0
                  obtain ⟨n1, n2⟩ := HNX.out hr0
                  rw [n1, n2] at h9
                  have S2 := hid (lsums_any hS _ h9)
                  clear hr0 HNX n1 n2 q0 q1
                  go_wp2_with fail
                  refine S2.out.mono ?_
                  rintro e w8 ⟨A8, c8, rfl, hO8, hb8⟩
                  have hR8 := own_rd hO8
                  replace h9 := h9.next hb8
                  replace hA9 := hA9.next hb8
                  replace hR9 := hR9.below hb8
                  replace hb10 := bthen hb10 hb8
                  have T2 := hid (lturn_any w8 h9)
                  clear S2 hO8 hb8 h9 b1
                  go_wp2_with fail
                  refine T2.out.mono ?_
                  rintro e w9 ⟨rfl, hb9⟩
                  replace hA9 := hA9.next hb9
                  replace hR9 := hR9.below hb9
                  replace hR8 := hR8.below hb9
                  replace hb10 := bthen hb10 hb9
                  have q0 : w9.cell? ⟨g, 0, none⟩ = some (.int .i64 d) := hA9.cell 0
                  have q1 : w9.cell? ⟨g, 1, none⟩ = some (.int .i64 d) := hA9.cell 1
                  have hcl := canon_le f
                  have hself : ((canon f).length != (canon f).length) = false := by simp
                  have hself2 : (d != d) = false := by simp
                  generalize canon f = L at *
                  clear T2 hb9
                  go_wp2_with fail
                  have HW := hid (And.intro hb10 (And.intro hR8 hR9))
                  clear hb10 hR8 hR9 hself hself2 q0 q1 hA9
                  go_loopw [157] (fun i wr => ∃ i1 q : Nat, i1 ≤ L.length ∧ i = .int .i64 i1 ∧ wr = w9.drewN q) (fun i _ => L.length - (intOf i).toNat)
                  case atStart => exact ⟨0, 0, Nat.zero_le _, rfl, by simp [World.drewN]⟩
                  case round =>
                    obtain ⟨i1, q1, hi1, rfl, rfl⟩ := hrel
                    obtain ⟨hb, hR1, hR4⟩ := HW.out
                    by_cases hlt : i1 < L.length
                    · obtain ⟨x, hx⟩ : ∃ x, L[i1]? = some x := ⟨L[i1], List.getElem?_eq_getElem hlt⟩
                      obtain ⟨b1, off3, rfl, hbs1, hc1⟩ := hR1.at_ 3 enS_len (by omega) hx
                      obtain ⟨b2, off4, rfl, hbs2, hc2⟩ := hR4.at_ 3 enS_len (by omega) hx
                      have hse := same_sm x
                      obtain ⟨yd, yo, ys⟩ := x
                      simp only at hse
                      have q0 : w9.cell? ⟨b1, off3 + i1 * 3, none⟩ = some (.int .i64 yd) := hc1 0 _ rfl
                      have q1 : w9.cell? ⟨b1, off3 + i1 * 3 + 1, none⟩ = some (.int .i64 yo) := hc1 1 _ rfl
                      have q2 : w9.cell? ⟨b1, off3 + i1 * 3 + 2, none⟩ = some (.int .i64 ys) := hc1 2 _ rfl
                      have p0 : w9.cell? ⟨b2, off4 + i1 * 3, none⟩ = some (.int .i64 yd) := hc2 0 _ rfl
                      have p1 : w9.cell? ⟨b2, off4 + i1 * 3 + 1, none⟩ = some (.int .i64 yo) := hc2 1 _ rfl
                      have p2 : w9.cell? ⟨b2, off4 + i1 * 3 + 2, none⟩ = some (.int .i64 ys) := hc2 2 _ rfl
                      have hgd := guard_sm
                      clear hc1 hc2 hx hR1 hR4 hb
                      go_wp2_with fail
                      refine wp_region_quiet_lit (by kernel_rfl) (by kernel_rfl) ?_
                      repeat (first | go_big_quiet_step (fail) | quiet_step (fail))
                      refine wpQuiet_nil ?_
                      rintro _ ⟨nq, rfl⟩
                      clear q0 q1 q2 p0 p1 p2 hse hgd
                      go_wp2_with fail
                      go_roundw
                      case rel => exact ⟨i1 + 1, _, by omega, by go_num, rfl⟩
                      case measure => simp [intOf]; omega
                    · clear hR1 hR4 HW
                      go_wp2_with fail
                      go_ret
                      exact ⟨rfl, hb.trans (below_drewN (Below.refl _ _) _)⟩

end Go.Proofs.Ytjlfhfhckomalaa
