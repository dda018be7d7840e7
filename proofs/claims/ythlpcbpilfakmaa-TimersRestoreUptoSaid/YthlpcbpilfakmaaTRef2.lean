/-
  The document's timers, continued: Set, Ready; the laws' ref and same.
-/
import Derived.Test.YthlpcbpilfakmaaTRef
namespace Go.Proofs.Ythlpcbpilfakmaa
open Go.RowKit Go.WideShapes Go.ChangeShapes Go.ChangeAt Go.Deep
set_option linter.unusedVariables false

theorem shiftT_at {c : List Tm} {x : Tm} {k : Nat} (hk : 0 < k) (hkl : k ≤ c.length) : (c.take k ++ x :: c.drop k)[k - 1]? = c[k - 1]? := by
  rw [List.getElem?_append_left (by simp; omega), List.getElem?_take_of_lt (by omega)]
theorem shiftT_here {c : List Tm} {x : Tm} {k : Nat} (hkl : k ≤ c.length) : (c.take k ++ x :: c.drop k)[k]? = some x := by
  have hl : (c.take k).length = k := by simp; omega
  rw [List.getElem?_append_right (by omega), hl, Nat.sub_self]; rfl
theorem shiftT_len {c : List Tm} {x : Tm} {k : Nat} (hkl : k ≤ c.length) : (c.take k ++ x :: c.drop k).length = c.length + 1 := by
  simp; omega
theorem shiftT_swap {c : List Tm} {x y : Tm} {k : Nat} (hk : 0 < k) (hkl : k ≤ c.length) (hy : c[k - 1]? = some y) : ((c.take k ++ x :: c.drop k).set k y).set (k - 1) x = c.take (k - 1) ++ x :: c.drop (k - 1) := by
  have hl : (c.take k).length = k := by simp; omega
  have hk1 : k - 1 < c.length := by omega
  have e1 : (c.take k ++ x :: c.drop k).set k y = c.take k ++ y :: c.drop k := by
    rw [List.set_append_right _ _ (by omega), hl, Nat.sub_self, List.set_cons_zero]
  have e2 : c.take k = c.take (k - 1) ++ [y] := by
    have := List.take_succ_eq_append_getElem (l := c) (i := k - 1) hk1
    rw [show k - 1 + 1 = k from by omega, (List.getElem?_eq_some_iff.1 hy).2] at this
    exact this
  have e3 : c.drop (k - 1) = y :: c.drop k := by
    rw [List.drop_eq_getElem_cons hk1, (List.getElem?_eq_some_iff.1 hy).2, show k - 1 + 1 = k from by omega]
  have hl2 : (c.take (k - 1)).length = k - 1 := by simp; omega
  rw [e1, e3, e2, List.append_assoc, List.set_append_right _ _ (by omega), hl2, Nat.sub_self]
  rfl
/-- Where the new one comes to rest. -/
theorem insT_eq {c : List Tm} {x : Tm} {k : Nat} (hs : SortedK id ltT c) (hx : x ∉ c) (hkl : k ≤ c.length) (hup : ∀ (j : Nat) (y : Tm), k ≤ j → c[j]? = some y → ltT x y = true) (hlo : k = 0 ∨ ∀ y, c[k - 1]? = some y → ltT x y = false) : c.take k ++ x :: c.drop k = insK id ltT c x := by
  have hp : posK id ltT c x = k := by
    refine posK_eq hkl (fun j y hj hy => ?_) (fun y hy => ?_)
    · rcases hlo with h0 | h0
      · omega
      · have hk1 : k - 1 < c.length := by omega
        have hz : c[k - 1]? = some c[k - 1] := List.getElem?_eq_getElem hk1
        have h1 := h0 _ hz
        have h2 : ltT c[k - 1] x = true := by
          cases hh : ltT c[k - 1] x with
          | true => rfl
          | false => exact absurd (linT.total _ _ h1 hh) (fun e => hx (by rw [e]; exact List.getElem_mem hk1))
        rcases Nat.eq_or_lt_of_le (show j ≤ k - 1 from by omega) with e | e
        · subst e
          rw [hz] at hy
          injection hy with hy
          rw [← hy]; exact h2
        · have hjl : j < c.length := by omega
          have := (List.pairwise_iff_getElem.1 hs) j (k - 1) hjl hk1 e
          rw [(List.getElem?_eq_some_iff.1 hy).2] at this
          exact linT.trans _ _ _ this h2
    · have h1 := hup k y (Nat.le_refl _) hy
      cases hh : ltT (id y) x with
      | false => rfl
      | true =>
        have := linT.trans _ _ _ h1 hh
        rw [linT.irrefl] at this
        cases this
  unfold insK
  simp only [id]
  rw [hp]

set_option maxRecDepth 100000 in
set_option maxHeartbeats 16000000 in
theorem tset_ref (l : List Tm) (A : Option Addr) (cp : Nat) (o s d : Int) (w : World) (hR : Rd w A (l.flatMap en3)) (hl : l.length * 24 + 24 ≤ 140737488355328) (hs : SortedK id ltT l) :
    Calls Try.prog 22 #[.slice A l.length cp, .int .i64 o, .int .i64 s, .int .i64 d] w (NewRow (insK id ltT (dropT l (o, s)) ⟨d, o, s⟩) w) := by
  obtain ⟨i0, hi, hz0, hz1, hz2⟩ := info_parts info_tm2
  have CC := hid (tcancel_ref l A cp o s w hR (by omega))
  have hsc : SortedK id ltT (dropT l (o, s)) := hs.sublist List.filter_sublist
  have hxc : (⟨d, o, s⟩ : Tm) ∉ dropT l (o, s) := fun h => by
    have := (List.mem_filter.1 h).2
    simp [keyT] at this
  have hcl := dropT_le l (o, s)
  have HIL : Hid ((insK id ltT (dropT l (o, s)) (⟨d, o, s⟩ : Tm)).length = (dropT l (o, s)).length + 1) := hid (insK_length _ _)
  have HE := hid (fun k => insT_eq (c := dropT l (o, s)) (x := ⟨d, o, s⟩) (k := k) hsc hxc)
  generalize dropT l (o, s) = c at *
  generalize insK id ltT c (⟨d, o, s⟩ : Tm) = res at *
  clear hsc hxc hs
  go_enter Try.func22, Try.ntmps22
  go_wp2_with fail
  refine CC.out.mono ?_
  rintro e w1 ⟨A1, c1, rfl, hO, hb⟩
  have hO3 := hid hO
  have hb3 := hid (hb.alloc hb.size (.cells #[.int .i64 d, .int .i64 o, .int .i64 s] 56))
  have hwz : w.heap.size ≤ w1.heap.size := hb.size
  clear hO hb CC hR
  go_wp2_with (first
    | (at_builtin; refine wpList_push _ rfl _ _ 46 rfl w.heap.size 56 i0 _ 3 24 Try.underlying46 hi hz0 hz1 hz2 rfl (by decide) _ _ _ (by rfl) hO3.out #[.int .i64 d, .int .i64 o, .int .i64 s] w1.heap.size (by simp) (by rfl) (by rfl) (by rfl) (by unfold maxLen; omega) (by omega) (by omega) ?_; intro v' w3 hO4 hg4; have hb4 := hb3.out.grown hg4 (by simp; omega) (fun k hk => (hO3.out.lt k hk).1); have hO5 : w3.ownsRow w.heap.size 56 3 v' (c.take c.length ++ (⟨d, o, s⟩ : Tm) :: c.drop c.length).length ((c.take c.length ++ (⟨d, o, s⟩ : Tm) :: c.drop c.length).flatMap en3) := (by simpa [en3] using hO4); obtain ⟨g, cap, hv, hbg, hgl⟩ := own_form hO5 (by simp); have hln : (c.take c.length ++ (⟨d, o, s⟩ : Tm) :: c.drop c.length).length = c.length + 1 := (by simp); rw [hln] at hv hO5; subst hv; have HLN := hid hln; clear hln; clear hO4 hg4 hO3 hb3))
  have HO5 := hid hO5
  clear hO5
  go_loopw [10] (fun i wr => ∃ k : Nat, k ≤ c.length ∧ i = .int .i64 k ∧ Hid (∀ (j : Nat) (y : Tm), k ≤ j → c[j]? = some y → ltT ⟨d, o, s⟩ y = true) ∧ Hid (wr.ownsRow w.heap.size 56 3 (.slice (some ⟨g, 0, none⟩) (c.take k ++ (⟨d, o, s⟩ : Tm) :: c.drop k).length cap) (c.take k ++ (⟨d, o, s⟩ : Tm) :: c.drop k).length ((c.take k ++ (⟨d, o, s⟩ : Tm) :: c.drop k).flatMap en3)) ∧ Below w.heap.size w wr) (fun i _ => (intOf i).toNat)
  case atStart => exact ⟨c.length, Nat.le_refl _, by go_num, hid (fun j y hj hy => by have := (List.getElem?_eq_some_iff.1 hy).1; omega), hid (by rw [HLN.out]; exact HO5.out), hb4⟩
  case round =>
    clear hb4 HO5 HLN
    obtain ⟨k, hk, rfl, hU, hO, hb⟩ := hrel
    have hln := shiftT_len (c := c) (x := ⟨d, o, s⟩) hk
    obtain ⟨n1, hn1⟩ : ∃ n1, n1 = c.length + 1 := ⟨_, rfl⟩
    have HN := hid hn1
    have hkn : k < n1 := by omega
    have hn2 : n1 ≤ 140737488355328 := by omega
    rw [hln, ← hn1] at hO
    rw [← hn1]
    by_cases hk0 : 0 < k
    · obtain ⟨y, hy⟩ : ∃ y, c[k - 1]? = some y := ⟨c[k - 1], List.getElem?_eq_getElem (by omega)⟩
      have e1 : CellsAt wr g ((k - 1) * 3) (en3 y) := ⟨by have := (hO.out.lt g rfl).2; exact this, fun j u hu => by
        have := own_cells (l := c.take k ++ (⟨d, o, s⟩ : Tm) :: c.drop k) (k := k - 1) (x := y) en3_len (by rw [hln, ← hn1]; exact hO.out) (by rw [shiftT_at hk0 hk]; exact hy) hu
        exact this⟩
      have e2 : CellsAt wr g (k * 3) (en3 ⟨d, o, s⟩) := ⟨by have := (hO.out.lt g rfl).2; exact this, fun j u hu => by
        have := own_cells (l := c.take k ++ (⟨d, o, s⟩ : Tm) :: c.drop k) (k := k) (x := ⟨d, o, s⟩) en3_len (by rw [hln, ← hn1]; exact hO.out) (shiftT_here hk) hu
        exact this⟩
      obtain ⟨C, hCd⟩ : ∃ C : World → Prop, ∀ w', C w' ↔ (CellsAt w' g ((k - 1) * 3) (en3 y) ∧ CellsAt w' g (k * 3) (en3 ⟨d, o, s⟩) ∧ Below wr.heap.size wr w') := ⟨_, fun _ => Iff.rfl⟩
      have hK : ∀ w1 w2, C w1 → Below w1.heap.size w1 w2 → C w2 := fun w1 w2 h hb => by
        obtain ⟨a1, a2, a3⟩ := (hCd _).1 h
        exact (hCd _).2 ⟨a1.next hb, a2.next hb, bthen a3 hb⟩
      have hC : C wr.drew := hK _ _ ((hCd _).2 ⟨e1, e2, Below.refl _ _⟩) (below_drewN (Below.refl _ _) 1)
      have HY := hid hy
      obtain ⟨yd, yo, ys⟩ := y
      obtain ⟨cv, hcv⟩ : ∃ cv, ltT ⟨d, o, s⟩ ⟨yd, yo, ys⟩ = cv := ⟨_, rfl⟩
      have HCV := hid hcv
      have g0 : ∀ p : In C, p.w.cell? ⟨g, (k - 1) * 3, none⟩ = some (.int .i64 yd) := fun p => ((hCd _).1 p.h).1.2 0 _ rfl
      have g1 : ∀ p : In C, p.w.cell? ⟨g, (k - 1) * 3 + 1, none⟩ = some (.int .i64 yo) := fun p => ((hCd _).1 p.h).1.2 1 _ rfl
      have g2 : ∀ p : In C, p.w.cell? ⟨g, (k - 1) * 3 + 2, none⟩ = some (.int .i64 ys) := fun p => ((hCd _).1 p.h).1.2 2 _ rfl
      have p0 : ∀ p : In C, p.w.cell? ⟨g, k * 3, none⟩ = some (.int .i64 d) := fun p => ((hCd _).1 p.h).2.1.2 0 _ rfl
      have p1 : ∀ p : In C, p.w.cell? ⟨g, k * 3 + 1, none⟩ = some (.int .i64 o) := fun p => ((hCd _).1 p.h).2.1.2 1 _ rfl
      have p2 : ∀ p : In C, p.w.cell? ⟨g, k * 3 + 2, none⟩ = some (.int .i64 s) := fun p => ((hCd _).1 p.h).2.1.2 2 _ rfl
      have O : Hid (∀ p : In C, Calls Try.prog 31 #[.agg #[.int .i64 d, .int .i64 o, .int .i64 s], .agg #[.int .i64 yd, .int .i64 yo, .int .i64 ys]] p.w fun e w' => e = .returned (.bool cv) ∧ C w') := hid (fun p => by
        have := tbefore_any ⟨d, o, s⟩ ⟨yd, yo, ys⟩ p.w
        rw [hcv] at this
        exact this.mono fun _ _ ⟨e1, e2⟩ => ⟨e1, hK _ _ p.h e2⟩)
      have hkw : IntKind.i64.wrap ((k : Int) - 1) = ((k - 1 : Nat) : Int) := by rw [IntWalk.i64_in _ ⟨by omega, by omega⟩]; omega
      have hkl : k - 1 < n1 := by omega
      have HCd := hid hCd
      have HLN := hid hln
      clear hCd hK e1 e2 hy hcv hn1 hln
      go_wp2_with fail
      refine wp_region_in C (by kernel_rfl) (by kernel_rfl) hC ?_
      intro hne
      clear hC
      repeat (first | go_big_quiet_step ((go_at_call 31; exact Calls.in_of (O.out _))) | quiet_step ((go_at_call 31; exact Calls.in_of (O.out _))))
      refine wpQuiet_nil ?_
      intro wq hq
      obtain ⟨hc1, hc2, hbq⟩ := (HCd.out _).1 hq
      have hOq := hO.out.kept (grown_of_below hbq none) (.inr (by simp [Value.ownBlock]))
      replace hb := bthen hb hbq
      clear g0 g1 g2 p0 p1 p2 O hne hq HCd hkw hbq hO
      cases cv with
      | true =>
        have f0 := fun i => own_free hOq i
        have r0 : wq.cell? ⟨g, (k - 1) * 3, none⟩ = some (.int .i64 yd) := hc1.2 0 _ rfl
        have r1 : wq.cell? ⟨g, (k - 1) * 3 + 1, none⟩ = some (.int .i64 yo) := hc1.2 1 _ rfl
        have r2 : wq.cell? ⟨g, (k - 1) * 3 + 2, none⟩ = some (.int .i64 ys) := hc1.2 2 _ rfl
        have t0 : wq.cell? ⟨g, k * 3, none⟩ = some (.int .i64 d) := hc2.2 0 _ rfl
        have t1 : wq.cell? ⟨g, k * 3 + 1, none⟩ = some (.int .i64 o) := hc2.2 1 _ rfl
        have t2 : wq.cell? ⟨g, k * 3 + 2, none⟩ = some (.int .i64 s) := hc2.2 2 _ rfl
        have hgq : g < wq.heap.size := hc1.1
        have hO6 : wq.ownsRow w.heap.size 56 3 (.slice (some ⟨g, 0, none⟩) (c.take k ++ (⟨d, o, s⟩ : Tm) :: c.drop k).length cap) (c.take k ++ (⟨d, o, s⟩ : Tm) :: c.drop k).length ((c.take k ++ (⟨d, o, s⟩ : Tm) :: c.drop k).flatMap en3) := by
          rw [HLN.out, ← HN.out]; exact hOq
        obtain ⟨J1, J1g⟩ := own_set en3_len hO6 (k := k) (by rw [HLN.out]; omega) ⟨yd, yo, ys⟩
        obtain ⟨J2, J2g⟩ := own_set en3_len J1 (k := k - 1) (by rw [List.length_set, HLN.out]; omega) ⟨d, o, s⟩
        rw [shiftT_swap hk0 hk HY.out] at J2
        have hJ := hid (J2.alloc (.cells #[.int .i64 d, .int .i64 o, .int .i64 s] 56))
        have hb6 := hb.trans ((grown_below J1g hb.size hbg).trans (grown_below J2g (Nat.le_trans hb.size J1g.size) hbg))
        have hb7 := hid (hb6.alloc hb6.size (.cells #[.int .i64 d, .int .i64 o, .int .i64 s] 56))
        have hU2 : Hid (∀ (j : Nat) (z : Tm), k - 1 ≤ j → c[j]? = some z → ltT ⟨d, o, s⟩ z = true) := hid (fun j z hj hz => by
          rcases Nat.eq_or_lt_of_le hj with e | e
          · subst e
            rw [HY.out] at hz
            injection hz with hz
            subst hz
            exact HCV.out
          · exact hU.out j z (by omega) hz)
        have n1a : (k - 1) * 3 + 2 < k * 3 := by omega
        clear hO6 J1 J1g J2 J2g hOq hb hc1 hc2 hb6
        go_wp2_with fail
        go_roundw
        case rel => exact ⟨k - 1, by omega, by congr 1; omega, hU2, hid hJ.out, hb7.out⟩
        case measure => simp [intOf]; omega
      | false =>
        have hEq := HE.out k hk hU.out (.inr (fun z hz => by rw [HY.out] at hz; injection hz with hz; subst hz; exact HCV.out))
        have HEQ := hid hEq
        clear hEq hc1 hc2
        go_wp2_with fail
        go_ret
        exact ⟨some ⟨g, 0, none⟩, cap, by rw [HIL.out, ← HN.out]; rfl, by rw [HIL.out, ← HN.out, ← HEQ.out]; exact hOq, hb⟩
    · have hk1 : k = 0 := by omega
      subst hk1
      have HEQ := hid (HE.out 0 hk hU.out (.inl rfl))
      clear hn1 hln
      go_wp2_with fail
      go_ret
      exact ⟨some ⟨g, 0, none⟩, cap, by rw [HIL.out, ← HN.out]; rfl, by rw [HIL.out, ← HN.out, ← HEQ.out]; exact hO.out, hb⟩

set_option maxRecDepth 100000 in
set_option maxHeartbeats 8000000 in
theorem tready_ref (l : List Tm) (A : Option Addr) (cp : Nat) (now most : Int) (w : World) (hR : Rd w A (l.flatMap en3)) (hl : l.length * 24 ≤ 140737488355328) (hs : SortedK id ltT l) :
    Calls Try.prog 24 #[.slice A l.length cp, .int .i64 now, .int .i64 most] w (NewRow (l.take (rdyN l now most)) w) := by
  obtain ⟨i0, hi, hz0, hz1, hz2⟩ := info_parts info_tm2
  have hrn := rdyN_le l now most
  have HIN := hid (fun n x hn hx => rdy_in (L := l) (now := now) (most := most) (n := n) (x := x) hn hx)
  have HAT := hid (fun x hx => rdy_at (L := l) (now := now) (most := most) (x := x) hx)
  generalize rdyN l now most = r at *
  go_enter Try.func24, Try.ntmps24
  go_wp2_with fail
  go_loopw [7, 8] (fun v i wr => ∃ (k : Nat) (A1 : Option Addr) (c1 : Nat), k ≤ r ∧ i = .int .i64 k ∧ v = .slice A1 k c1 ∧ Hid (wr.ownsRow w.heap.size 56 3 (.slice A1 k c1) k ((l.take k).flatMap en3)) ∧ Below w.heap.size w wr) (fun _ i _ => r - (intOf i).toNat)
  case atStart => exact ⟨0, none, 0, Nat.zero_le _, rfl, rfl, hid (World.ownsRow_nil _ _ _ _), Below.refl _ _⟩
  case round =>
    obtain ⟨k, A1, c1, hk, rfl, rfl, hO, hb⟩ := hrel
    by_cases hlt : k < r
    · have hkl : k < l.length := by omega
      obtain ⟨x, hx⟩ : ∃ x, l[k]? = some x := ⟨l[k], List.getElem?_eq_getElem hkl⟩
      obtain ⟨hd1, hd2⟩ := HIN.out k x hlt hx
      have hR1 := hR.below hb
      obtain ⟨b, off, rfl, hbs, hcc⟩ := hR1.at_ 3 en3_len (by omega) hx
      have HS : Hid (l.take (k + 1) = l.take k ++ [x]) := hid (by rw [List.take_add_one, hx]; rfl)
      obtain ⟨xd, xo, xs⟩ := x
      simp only at hd1
      have q0 : wr.cell? ⟨b, off + k * 3, none⟩ = some (.int .i64 xd) := hcc 0 _ rfl
      have q1 : wr.cell? ⟨b, off + k * 3 + 1, none⟩ = some (.int .i64 xo) := hcc 1 _ rfl
      have q2 : wr.cell? ⟨b, off + k * 3 + 2, none⟩ = some (.int .i64 xs) := hcc 2 _ rfl
      have hb3 := hid (hb.alloc hb.size (.cells #[.int .i64 xd, .int .i64 xo, .int .i64 xs] 56))
      have hwz : w.heap.size ≤ wr.heap.size := hb.size
      clear hcc hx hR1 hb
      go_wp2_with (first
        | (at_builtin; refine wpList_push _ rfl _ _ 46 rfl w.heap.size 56 i0 _ 3 24 Try.underlying46 hi hz0 hz1 hz2 rfl (by decide) _ _ _ (by rfl) hO.out #[.int .i64 xd, .int .i64 xo, .int .i64 xs] wr.heap.size (by simp) (by rfl) (by rfl) (by rfl) (by unfold maxLen; omega) (by omega) (by omega) ?_; intro v' w3 hO4 hg4))
      have hb4 := hb3.out.grown hg4 (by simp; omega) (fun k hk => (hO.out.lt k hk).1)
      have hO5 : w3.ownsRow w.heap.size 56 3 v' (k + 1) ((l.take (k + 1)).flatMap en3) := by
        rw [HS.out, List.flatMap_append]
        simpa [en3] using hO4
      obtain ⟨A2, c2, rfl, _⟩ := own_slice hO5
      clear hO4 hg4 hO hb3
      go_roundw
      case rel => exact ⟨k + 1, A2, c2, by omega, by go_num, rfl, hid hO5, hb4⟩
      case measure => simp [intOf]; omega
    · have hk' : k = r := by omega
      subst hk'
      have hlk : (l.take k).length = k := by simp; omega
      have HF : Hid (NewRow (l.take k) w (.returned (.slice A1 k c1)) wr) := hid ⟨A1, c1, by rw [hlk], by rw [hlk]; exact hO.out, hb⟩
      have hcase : (l.length ≤ k) ∨ (∃ xd, k < l.length ∧ (now < xd ∨ most ≤ (k : Int)) ∧ ∃ b1 off1, A = some ⟨b1, off1, none⟩ ∧ wr.cell? ⟨b1, off1 + k * 3, none⟩ = some (.int .i64 xd)) := by
        by_cases hnl : k < l.length
        · right
          obtain ⟨x, hx⟩ : ∃ x, l[k]? = some x := ⟨l[k], List.getElem?_eq_getElem hnl⟩
          obtain ⟨b1, off1, e1, hbs1, hc1⟩ := (hR.below hb).at_ 3 en3_len (by omega) hx
          exact ⟨x.d, hnl, HAT.out x hx, b1, off1, e1, hc1 0 _ rfl⟩
        · exact .inl (by omega)
      clear hlk hR HIN HAT hO hb hlt
      rcases hcase with hc | ⟨xd, hnl, hc, b1, off1, rfl, q0⟩
      · go_wp2_with fail
        go_ret
        exact HF.out
      · by_cases hxd : now < xd
        · go_wp2_with fail
          all_goals
            go_ret
            exact HF.out
        · have hmn : most ≤ (k : Int) := by omega
          go_wp2_with fail
          go_ret
          exact HF.out

set_option maxRecDepth 100000 in
set_option maxHeartbeats 8000000 in
theorem tref_any (l : List Tm) (A : Option Addr) (cp : Nat) (w : World) (hR : Rd w A (l.flatMap en3)) (hl : l.length * 24 ≤ 140737488355328) :
    Calls Try.prog 19 #[.slice A l.length cp] w (NewRow l w) := by
  obtain ⟨i0, hi, hz0, hz1, hz2⟩ := info_parts info_tm2
  go_enter Try.func19, Try.ntmps19
  go_wp2_with fail
  go_loopw [3, 8] (fun v i wr => ∃ (k : Nat) (A1 : Option Addr) (c1 : Nat), k ≤ l.length ∧ i = .int .i64 k ∧ v = .slice A1 k c1 ∧ Hid (wr.ownsRow w.heap.size 56 3 (.slice A1 k c1) k ((l.take k).flatMap en3)) ∧ Below w.heap.size w wr) (fun _ i _ => l.length - (intOf i).toNat)
  case atStart => exact ⟨0, none, 0, Nat.zero_le _, rfl, rfl, hid (World.ownsRow_nil _ _ _ _), Below.refl _ _⟩
  case round =>
    obtain ⟨k, A1, c1, hk, rfl, rfl, hO, hb⟩ := hrel
    by_cases hlt : k < l.length
    · obtain ⟨x, hx⟩ : ∃ x, l[k]? = some x := ⟨l[k], List.getElem?_eq_getElem hlt⟩
      have hR1 := hR.below hb
      obtain ⟨b, off, rfl, hbs, hcc⟩ := hR1.at_ 3 en3_len (by omega) hx
      have HS : Hid (l.take (k + 1) = l.take k ++ [x]) := hid (by rw [List.take_add_one, hx]; rfl)
      obtain ⟨xd, xo, xs⟩ := x
      have q0 : wr.cell? ⟨b, off + k * 3, none⟩ = some (.int .i64 xd) := hcc 0 _ rfl
      have q1 : wr.cell? ⟨b, off + k * 3 + 1, none⟩ = some (.int .i64 xo) := hcc 1 _ rfl
      have q2 : wr.cell? ⟨b, off + k * 3 + 2, none⟩ = some (.int .i64 xs) := hcc 2 _ rfl
      have hO3 := hid (hO.out.alloc (.cells #[.int .i64 xd, .int .i64 xo, .int .i64 xs] 30))
      have hb3 := hid ((hb.alloc hb.size (.cells #[.int .i64 xd, .int .i64 xo, .int .i64 xs] 30)).alloc (by have := hb.size; simp; omega) (.cells #[.int .i64 xd, .int .i64 xo, .int .i64 xs] 56))
      have hwz : w.heap.size ≤ wr.heap.size := hb.size
      clear hcc hx hR1 hb hO
      go_wp2_with (first
        | (at_builtin; refine wpList_push _ rfl _ _ 46 rfl w.heap.size 56 i0 _ 3 24 Try.underlying46 hi hz0 hz1 hz2 rfl (by decide) _ _ _ (by rfl) hO3.out #[.int .i64 xd, .int .i64 xo, .int .i64 xs] (wr.heap.size + 1) (by simp) (by rfl) (by rfl) (by rfl) (by unfold maxLen; omega) (by omega) (by simp; omega) ?_; intro v' w3 hO4 hg4))
      have hb4 := hb3.out.grown hg4 (by simp; omega) (fun k hk => (hO3.out.lt k hk).1)
      have hO5 : w3.ownsRow w.heap.size 56 3 v' (k + 1) ((l.take (k + 1)).flatMap en3) := by
        rw [HS.out, List.flatMap_append]
        simpa [en3] using hO4
      obtain ⟨A2, c2, rfl, _⟩ := own_slice hO5
      clear hO4 hg4 hO3 hb3
      go_roundw
      case rel => exact ⟨k + 1, A2, c2, by omega, by go_num, rfl, hid hO5, hb4⟩
      case measure => simp [intOf]; omega
    · have hk' : k = l.length := by omega
      subst hk'
      have hO2 := hO.out
      rw [List.take_length] at hO2
      have HF : Hid (NewRow l w (.returned (.slice A1 l.length c1)) wr) := hid ⟨A1, c1, rfl, hO2, hb⟩
      clear hlt hk hO hO2 hb
      go_wp2_with fail
      go_ret
      exact HF.out

set_option maxRecDepth 100000 in
set_option maxHeartbeats 8000000 in
theorem tsame_any (l : List Tm) (A B : Option Addr) (cp cq : Nat) (w : World) (hA : Rd w A (l.flatMap en3)) (hB : Rd w B (l.flatMap en3)) (hl : l.length * 24 ≤ 140737488355328) :
    Calls Try.prog 20 #[.slice A l.length cp, .slice B l.length cq] w fun e w' => e = .returned (.bool true) ∧ Below w.heap.size w w' := by
  have RF := hid (tref_any l A cp w hA hl)
  go_enter Try.func20, Try.ntmps20
  go_wp2_with fail
  refine RF.out.mono ?_
  rintro e w1 ⟨A1, c1, rfl, hO, hb⟩
  obtain ⟨A1', c1', e1', hR1⟩ := own_slice hO
  injection e1' with e11 _ _
  subst e11
  have hRB := hB.below hb
  have hself : (l.length != l.length) = false := by simp
  clear RF hO hA hB
  go_wp2_with fail
  have HW := hid (And.intro hb (And.intro hR1 hRB))
  clear hb hR1 hRB hself
  go_loopw [16] (fun i wr => ∃ i1 q : Nat, i1 ≤ l.length ∧ i = .int .i64 i1 ∧ wr = w1.drewN q) (fun i _ => l.length - (intOf i).toNat)
  case atStart => exact ⟨0, 0, Nat.zero_le _, rfl, by simp [World.drewN]⟩
  case round =>
    obtain ⟨i1, q1, hi1, rfl, rfl⟩ := hrel
    obtain ⟨hb, hR1, hR4⟩ := HW.out
    by_cases hlt : i1 < l.length
    · obtain ⟨x, hx⟩ : ∃ x, l[i1]? = some x := ⟨l[i1], List.getElem?_eq_getElem hlt⟩
      obtain ⟨c1, off3, rfl, hbs1, hc1⟩ := hR1.at_ 3 en3_len (by omega) hx
      obtain ⟨c2, off4, rfl, hbs2, hc2⟩ := hR4.at_ 3 en3_len (by omega) hx
      have hse := same_tm2 x
      obtain ⟨yd, yo, ys⟩ := x
      simp only at hse
      have q0 : w1.cell? ⟨c1, off3 + i1 * 3, none⟩ = some (.int .i64 yd) := hc1 0 _ rfl
      have q1 : w1.cell? ⟨c1, off3 + i1 * 3 + 1, none⟩ = some (.int .i64 yo) := hc1 1 _ rfl
      have q2 : w1.cell? ⟨c1, off3 + i1 * 3 + 2, none⟩ = some (.int .i64 ys) := hc1 2 _ rfl
      have p0 : w1.cell? ⟨c2, off4 + i1 * 3, none⟩ = some (.int .i64 yd) := hc2 0 _ rfl
      have p1 : w1.cell? ⟨c2, off4 + i1 * 3 + 1, none⟩ = some (.int .i64 yo) := hc2 1 _ rfl
      have p2 : w1.cell? ⟨c2, off4 + i1 * 3 + 2, none⟩ = some (.int .i64 ys) := hc2 2 _ rfl
      have hgd := guard_tm2
      clear hc1 hc2 hx hR1 hR4 hb
      go_wp2_with fail
      refine wp_region_quiet_lit (by kernel_rfl) (by kernel_rfl) ?_
      repeat (first | go_big_quiet_step (fail) | quiet_step (fail))
      refine wpQuiet_nil ?_
      rintro _ ⟨nq, rfl⟩
      clear q0 q1 q2 p0 p1 p2 hse hgd
      go_wp2_with fail
      go_roundw
      case rel => exact ⟨i1 + 1, _, by omega, by go_num, rfl⟩
      case measure => simp [intOf]; omega
    · clear hR1 hR4
      go_wp2_with fail
      go_ret
      exact ⟨rfl, below_drewN hb _⟩

end Go.Proofs.Ythlpcbpilfakmaa
