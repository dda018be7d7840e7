/-
  The walk of TimersReady.
-/
import Derived.Test.YthlpcbpilfakmaaTimWakes
import Derived.Test.YthlpcbpilfakmaaPush
namespace Go.Proofs.Ythlpcbpilfakmaa
open Go.RowKit Go.WideShapes Go.ChangeShapes Go.ChangeAt Go.Deep
set_option linter.unusedVariables false

/-- What is set by a list of timers, one behind the other. -/
def setAll (l : List Tm) : TMap := l.foldl (fun m x => mset m (x.o, x.s) x.d) []
theorem setAll_snoc (l : List Tm) (x : Tm) : setAll (l ++ [x]) = mset (setAll l) (x.o, x.s) x.d := by simp [setAll]
theorem mset_length {κ ν : Type} [DecidableEq κ] (m : List (κ × ν)) (a : κ) (b : ν) : (mset m a b).length ≤ m.length + 1 := by
  unfold mset
  split <;> simp
theorem setAll_length (l : List Tm) : (setAll l).length ≤ l.length := by
  have key : ∀ (l : List Tm) (m : TMap), (l.foldl (fun m x => mset m (x.o, x.s) x.d) m).length ≤ m.length + l.length := by
    intro l
    induction l with
    | nil => intro m; simp
    | cons x l ih =>
      intro m
      rw [List.foldl_cons, List.length_cons]
      have := ih (mset m (x.o, x.s) x.d)
      have := mset_length m (x.o, x.s) x.d
      omega
  have := key l []
  simp only [List.length_nil, Nat.zero_add] at this
  exact this

/-- Which timers Ready tells. -/
theorem rdy_in {L : List Tm} {now most : Int} {n : Nat} {x : Tm} (hn : n < rdyN L now most) (hx : L[n]? = some x) : x.d ≤ now ∧ (n : Int) < most := by
  unfold rdyN at hn
  have h1 : n < dueN L now := by omega
  refine ⟨?_, by omega⟩
  unfold dueN at h1
  have e : (L.takeWhile (fun t => decide (t.d ≤ now)))[n]? = some x := by
    have e2 : L[n]? = (L.takeWhile (fun t => decide (t.d ≤ now)) ++ L.dropWhile (fun t => decide (t.d ≤ now)))[n]? := by rw [List.takeWhile_append_dropWhile]
    rw [List.getElem?_append_left h1] at e2
    rw [← e2]; exact hx
  have := List.all_eq_true.1 (List.all_takeWhile (l := L) (p := fun t => decide (t.d ≤ now))) x (List.mem_of_getElem? e)
  simpa using this
theorem rdy_at {L : List Tm} {now most : Int} {x : Tm} (hx : L[rdyN L now most]? = some x) : now < x.d ∨ most ≤ (rdyN L now most : Nat) := by
  by_cases h : ((dueN L now : Nat) : Int) ≤ max 0 most
  · have e : rdyN L now most = dueN L now := by unfold rdyN; omega
    rw [e] at hx
    left
    unfold dueN at hx
    have e1 : L.dropWhile (fun t => decide (t.d ≤ now)) = L.drop (L.takeWhile (fun t => decide (t.d ≤ now))).length := by
      conv => rhs; arg 2; rw [← List.takeWhile_append_dropWhile (p := fun t => decide (t.d ≤ now)) (l := L)]
      exact List.drop_left.symm
    have h1 : (L.dropWhile (fun t => decide (t.d ≤ now)))[0]? = some x := by rw [e1, List.getElem?_drop]; simpa using hx
    cases hd : L.dropWhile (fun t => decide (t.d ≤ now)) with
    | nil => rw [hd] at h1; simp at h1
    | cons z t =>
      rw [hd] at h1
      simp only [List.getElem?_cons_zero, Option.some.injEq] at h1
      subst h1
      have := List.head?_dropWhile_not (fun t => decide (t.d ≤ now)) L
      rw [hd] at this
      simp at this
      omega
  · right
    unfold rdyN; omega

/-- An own row's blocks. -/
theorem own_blk {w : World} {base n cap m : Nat} {e : TypeId} {size : Nat} {A : Option Addr} {xs : List Value} (h : w.ownsRow base e size (.slice A n cap) m xs) : ∀ b, A.map (·.block) = some b → base ≤ b ∧ b < w.heap.size := fun b hb => by
  refine h.lt b ?_
  cases A with
  | none => simp at hb
  | some a => simpa [Value.ownBlock] using hb

set_option maxRecDepth 100000 in
set_option maxHeartbeats 16000000 in
theorem timersReady_walk (hS : SortsT) (l : List Tm) (A : Option Addr) (cp : Nat) (now most : Int) (w : World) (hR : Rd w A (l.flatMap en3)) (hl : l.length * 24 ≤ 140737488351232) :
    Calls Try.prog 6 #[.slice A l.length cp, .int .i64 now, .int .i64 most] w (Law w) := by
  go_enter Try.func6, Try.ntmps6
  go_wp2_with fail
  refine (wakes_any hS _).mono ?_
  rintro e w1 ⟨rfl, hb⟩
  go_wp2_with fail
  refine (tnew_some _).mono ?_
  rintro e w2 ⟨X, B, rfl, hB, hX, h, hb1⟩
  have hwB : w.heap.size ≤ B := Nat.le_trans hb.size hB
  replace hb := bthen hb hb1
  clear hb1 hB hX
  go_wp2_with fail
  go_loopw [21] (fun i wr => ∃ k : Nat, k ≤ l.length ∧ i = .int .i64 k ∧ IsTim wr X B (setAll (l.take k)) ∧ Below w.heap.size w wr) (fun i _ => l.length - (intOf i).toNat)
  case atStart => exact ⟨0, Nat.zero_le _, rfl, h, hb⟩
  case round =>
    clear h hb
    obtain ⟨k, hk, rfl, h, hb⟩ := hrel
    by_cases hlt : k < l.length
    · obtain ⟨x, hx⟩ : ∃ x, l[k]? = some x := ⟨l[k], List.getElem?_eq_getElem hlt⟩
      have HS : Hid (setAll (l.take (k + 1)) = mset (setAll (l.take k)) (x.o, x.s) x.d) := hid (by rw [List.take_add_one, hx]; exact setAll_snoc _ _)
      have hR1 := hR.below hb
      obtain ⟨b, off, rfl, hbs, hcc⟩ := hR1.at_ 3 en3_len (by omega) hx
      obtain ⟨xd, xo, xs⟩ := x
      have q0 : wr.cell? ⟨b, off + k * 3, none⟩ = some (.int .i64 xd) := hcc 0 _ rfl
      have q1 : wr.cell? ⟨b, off + k * 3 + 1, none⟩ = some (.int .i64 xo) := hcc 1 _ rfl
      have q2 : wr.cell? ⟨b, off + k * 3 + 2, none⟩ = some (.int .i64 xs) := hcc 2 _ rfl
      clear hcc hx hR1
      have K := hid (set_any xo xs xd _ (h.alloc (.cells #[.int .i64 xd, .int .i64 xo, .int .i64 xs] 30)))
      have hb1 := hb.alloc hb.size (.cells #[.int .i64 xd, .int .i64 xo, .int .i64 xs] 30)
      clear h hb
      go_wp2_with fail
      refine K.out.mono ?_
      rintro e4 w4 ⟨rfl, h4, hg⟩
      have hb4 := hb1.trans (grown_below hg hb1.size hwB)
      clear hb1 hg K q0 q1 q2
      go_wp2_with fail
      go_roundw
      case rel => exact ⟨k + 1, by omega, by go_num, by rw [HS.out]; exact h4, hb4⟩
      case measure => simp [intOf]; omega
    · have hk' : k = l.length := by omega
      subst hk'
      rw [List.take_length] at h
      have hml : (setAll l).length * 24 ≤ 140737488351232 := by have := setAll_length l; omega
      generalize setAll l = m at h hml
      clear hlt hk hR hl
      have HML := hid hml
      go_wp2_with fail
      refine (tlist_any hS wr h hml).mono ?_
      rintro e w5 ⟨A1, cap1, L, rfl, hT, hO1, hb5⟩
      replace h := h.next hb5
      replace hb := bthen hb hb5
      have hLl : L.length * 24 ≤ 140737488351232 := by rw [hT.len]; exact HML.out
      clear hb5 hml
      have RD := hid (ready_any hS now most w5 h HML.out)
      have HT := hid hT
      have HO1 := hid hO1
      clear hT hO1
      go_wp2_with fail
      refine RD.out.mono ?_
      rintro e w6 ⟨A2, cap2, L2, rfl, hT2, hO2, hb6⟩
      obtain rfl := hT2.unique HT.out
      have hA1 := hid (own_blk HO1.out)
      have hA2 := hid (own_blk hO2)
      have hR1 : Rd w5 A1 (L2.flatMap en3) := by obtain ⟨A', c', e', hr⟩ := own_slice HO1.out; injection e' with e1 _ _; rw [e1]; exact hr
      have hR2 : Rd w6 A2 (L2.flatMap en3) := by obtain ⟨A', c', e', hr⟩ := own_slice hO2; injection e' with e1 _ _; rw [e1]; exact hr
      have HX5 : Hid (X < w5.heap.size ∧ B < w5.heap.size ∧ w.heap.size ≤ w5.heap.size) := hid ⟨h.blk.lt, h.map.lt, hb.size⟩
      replace hR1 := hR1.below hb6
      replace h := h.next hb6
      replace hb := bthen hb hb6
      have hrn := rdyN_le L2 now most
      have HIN := hid (fun n x hn hx => rdy_in (L := L2) (now := now) (most := most) (n := n) (x := x) hn hx)
      have HAT := hid (fun x hx => rdy_at (L := L2) (now := now) (most := most) (x := x) hx)
      generalize rdyN L2 now most = r at *
      have HO2 := hid hO2
      clear RD hT2 hb6 HO1 hO2
      go_wp2_with fail
      have HW := hid (And.intro h (And.intro hb (And.intro hR1 hR2)))
      clear h hb hR1 hR2
      go_loopw [12] (fun i wr => ∃ n q : Nat, n ≤ r ∧ i = .int .i64 n ∧ wr = w6.drewN q) (fun i _ => r - (intOf i).toNat)
      case atStart => exact ⟨0, 0, Nat.zero_le _, rfl, by simp [World.drewN]⟩
      case round =>
        obtain ⟨n, q, hn, rfl, rfl⟩ := hrel
        obtain ⟨h, hb, hR1, hR2⟩ := HW.out
        by_cases hlt : n < r
        · have hnl : n < L2.length := by omega
          obtain ⟨x, hx⟩ : ∃ x, L2[n]? = some x := ⟨L2[n], List.getElem?_eq_getElem hnl⟩
          obtain ⟨hd1, hd2⟩ := HIN.out n x hlt hx
          obtain ⟨b1, off1, rfl, hbs1, hc1⟩ := hR1.at_ 3 en3_len (by omega) hx
          obtain ⟨b2, off2, rfl, hbs2, hc2⟩ := hR2.at_ 3 en3_len (by omega) hx
          have hse := same_tm x
          obtain ⟨xd, xo, xs⟩ := x
          simp only at hse hd1
          have q0 : w6.cell? ⟨b1, off1 + n * 3, none⟩ = some (.int .i64 xd) := hc1 0 _ rfl
          have q1 : w6.cell? ⟨b1, off1 + n * 3 + 1, none⟩ = some (.int .i64 xo) := hc1 1 _ rfl
          have q2 : w6.cell? ⟨b1, off1 + n * 3 + 2, none⟩ = some (.int .i64 xs) := hc1 2 _ rfl
          have p0 : w6.cell? ⟨b2, off2 + n * 3, none⟩ = some (.int .i64 xd) := hc2 0 _ rfl
          have p1 : w6.cell? ⟨b2, off2 + n * 3 + 1, none⟩ = some (.int .i64 xo) := hc2 1 _ rfl
          have p2 : w6.cell? ⟨b2, off2 + n * 3 + 2, none⟩ = some (.int .i64 xs) := hc2 2 _ rfl
          have hgd := guard_tm
          have hdd : decide (r ≤ n) = false := decide_eq_false (by omega)
          clear hc1 hc2 hx hR1 hR2 h hb
          go_wp2_with fail
          refine wp_region_quiet_lit (by kernel_rfl) (by kernel_rfl) ?_
          repeat (first | go_big_quiet_step (fail) | quiet_step (fail))
          refine wpQuiet_nil ?_
          rintro _ ⟨nq, rfl⟩
          clear q0 q1 q2 p0 p1 p2 hse hgd
          go_wp2_with fail
          go_roundw
          case rel => exact ⟨n + 1, q + nq, by omega, by go_num, rfl⟩
          case measure => simp [intOf]; omega
        · have hn' : n = r := by omega
          subst hn'
          have hcase : (L2.length ≤ n) ∨ (∃ xd, n < L2.length ∧ (now < xd ∨ most ≤ (n : Int)) ∧ ∃ b1 off1, A1 = some ⟨b1, off1, none⟩ ∧ w6.cell? ⟨b1, off1 + n * 3, none⟩ = some (.int .i64 xd)) := by
            by_cases hnl : n < L2.length
            · right
              obtain ⟨x, hx⟩ : ∃ x, L2[n]? = some x := ⟨L2[n], List.getElem?_eq_getElem hnl⟩
              obtain ⟨b1, off1, e1, hbs1, hc1⟩ := hR1.at_ 3 en3_len (by omega) hx
              exact ⟨x.d, hnl, HAT.out x hx, b1, off1, e1, hc1 0 _ rfl⟩
            · exact .inl (by omega)
          have HW2 : Hid (IsTim (w6.drewN q) X B m ∧ Below w.heap.size w (w6.drewN q) ∧ Rd (w6.drewN q) A1 (L2.flatMap en3)) := hid ⟨h.next (below_drewN (Below.refl _ _) q), below_drewN hb q, hR1.below (below_drewN (Below.refl _ _) q)⟩
          have HO3 : Hid ((w6.drewN q).ownsRow w5.heap.size 30 3 (.slice A2 L2.length cap2) L2.length (L2.flatMap en3)) := hid (HO2.out.kept (grown_of_below (below_drewN (Below.refl w6.heap.size w6) q) none) (by cases (Value.slice A2 L2.length cap2).ownBlock <;> simp))
          clear h hb hR1 hR2 HW HO2 HIN HAT hlt
          rcases hcase with hc | ⟨xd, hnl, hc, b1, off1, rfl, q0⟩
          · go_wp2_with fail
            obtain ⟨wx, hwx⟩ : ∃ wx, wx = w6.drewN q := ⟨_, rfl⟩
            have hW3 := HW2.out
            have hO3 := HO3.out
            rw [← hwx] at hW3 hO3 ⊢
            clear hwx HW2 HO3
            obtain ⟨h, hb, hR1⟩ := hW3
            go_loopw [77] (fun i wr => ∃ (j : Nat) (L' : List Tm), j ≤ n ∧ i = .int .i64 j ∧ L'.length = L2.length ∧ wr.ownsRow w5.heap.size 30 3 (.slice A2 L'.length cap2) L'.length (L'.flatMap en3) ∧ IsTim wr X B m ∧ Below w.heap.size w wr ∧ Rd wr A1 (L2.flatMap en3)) (fun i _ => n - (intOf i).toNat)
            case atStart => exact ⟨0, L2, Nat.zero_le _, rfl, rfl, hO3, h, hb, hR1⟩
            case round =>
              clear h hb hR1 hO3
              obtain ⟨j, L', hj, rfl, hLL, hO, h, hb, hR1⟩ := hrel
              by_cases hlt : j < n
              · have hjl : j < L'.length := by omega
                obtain ⟨y, hy⟩ : ∃ y, L'[j]? = some y := ⟨L'[j], List.getElem?_eq_getElem hjl⟩
                obtain ⟨g, cap3, e3, hbg, hgl⟩ := own_form hO (by omega)
                injection e3 with e4 e5 e6
                subst e4 e6
                have c1 : wr.cell? ⟨g, j * 3 + 1, none⟩ = some (.int .i64 y.o) := own_cells en3_len hO hy rfl
                have f1 := own_free hO (j * 3 + 1)
                obtain ⟨J1, J2⟩ := own_field en3_len hO hy (j := 1) (by omega) (.int .i64 (-9)) ⟨y.d, -9, y.s⟩ rfl
                have hgX : ¬ X = g := fun e => by have := HX5.out.1; omega
                have hgB : ¬ B = g := fun e => by have := HX5.out.2.1; omega
                have hh := hid (h.touch (Touch.of_grown J2) hgX hgB)
                have hhb := hid (hb.trans (grown_below J2 hb.size (Nat.le_trans HX5.out.2.2 hbg)))
                have hhr := hid ((Touch.of_grown J2).rd hR1 (fun b hb e => by have := (hA1.out b hb).2; omega))
                have HJ := hid J1
                have HLL := hid hLL
                clear J1 J2 h hb hR1 hO hy e5 hgX hgB hbg hgl hLL
                go_wp2_with fail
                go_roundw
                case rel => exact ⟨j + 1, L'.set j ⟨y.d, -9, y.s⟩, by omega, by go_num, by rw [List.length_set]; exact HLL.out, HJ.out, hh.out, hhb.out, hhr.out⟩
                case measure => simp [intOf]; omega
              · clear hO hj hLL
                go_wp2_with fail
                refine (tlist_any hS wr h HML.out).mono ?_
                rintro e w8 ⟨A4, cap4, L4, rfl, hT4, hO4, hb8⟩
                obtain rfl := hT4.unique HT.out
                have hR4 : Rd w8 A4 (L4.flatMap en3) := by obtain ⟨A', c', e', hr⟩ := own_slice hO4; injection e' with e1 _ _; rw [e1]; exact hr
                replace hR1 := hR1.below hb8
                replace hb := bthen hb hb8
                clear hO4 hb8 h hT4
                go_wp2_with fail
                have HW := hid (And.intro hb (And.intro hR1 hR4))
                clear hb hR1 hR4
                go_loopw [89] (fun i wr => ∃ i1 q : Nat, i1 ≤ L4.length ∧ i = .int .i64 i1 ∧ wr = w8.drewN q) (fun i _ => L4.length - (intOf i).toNat)
                case atStart => exact ⟨0, 0, Nat.zero_le _, rfl, by simp [World.drewN]⟩
                case round =>
                  obtain ⟨i1, q1, hi1, rfl, rfl⟩ := hrel
                  obtain ⟨hb, hR1, hR4⟩ := HW.out
                  by_cases hlt : i1 < L4.length
                  · obtain ⟨x, hx⟩ : ∃ x, L4[i1]? = some x := ⟨L4[i1], List.getElem?_eq_getElem hlt⟩
                    obtain ⟨c1, off3, e3, hbs1, hc1⟩ := hR1.at_ 3 en3_len (by omega) hx
                    obtain ⟨c2, off4, rfl, hbs2, hc2⟩ := hR4.at_ 3 en3_len (by omega) hx
                    subst e3
                    have hse := same_tm x
                    obtain ⟨yd, yo, ys⟩ := x
                    simp only at hse
                    have q0 : w8.cell? ⟨c1, off3 + i1 * 3, none⟩ = some (.int .i64 yd) := hc1 0 _ rfl
                    have q1 : w8.cell? ⟨c1, off3 + i1 * 3 + 1, none⟩ = some (.int .i64 yo) := hc1 1 _ rfl
                    have q2 : w8.cell? ⟨c1, off3 + i1 * 3 + 2, none⟩ = some (.int .i64 ys) := hc1 2 _ rfl
                    have p0 : w8.cell? ⟨c2, off4 + i1 * 3, none⟩ = some (.int .i64 yd) := hc2 0 _ rfl
                    have p1 : w8.cell? ⟨c2, off4 + i1 * 3 + 1, none⟩ = some (.int .i64 yo) := hc2 1 _ rfl
                    have p2 : w8.cell? ⟨c2, off4 + i1 * 3 + 2, none⟩ = some (.int .i64 ys) := hc2 2 _ rfl
                    have hgd := guard_tm
                    clear hc1 hc2 hx hR1 hR4 hb
                    go_wp2_with fail
                    refine wp_region_quiet_lit (by kernel_rfl) (by kernel_rfl) ?_
                    repeat (first | go_big_quiet_step (fail) | quiet_step (fail))
                    refine wpQuiet_nil ?_
                    rintro _ ⟨nq, rfl⟩
                    clear q0 q1 q2 p0 p1 p2 hse hgd
                    go_wp2_with fail
                    go_roundw
                    case rel => exact ⟨i1 + 1, _, by omega, by go_num, rfl⟩
                    case measure => simp [intOf]; omega
                  · clear hR1 hR4
                    go_wp2_with fail
                    go_ret
                    exact ⟨by simp, below_drewN hb _⟩
          · by_cases hxd : now < xd
            · go_wp2_with fail
              clear q0 hxd hc hnl
              obtain ⟨wx, hwx⟩ : ∃ wx, wx = w6.drewN q := ⟨_, rfl⟩
              have hW3 := HW2.out
              have hO3 := HO3.out
              rw [← hwx] at hW3 hO3 ⊢
              clear hwx HW2 HO3
              obtain ⟨h, hb, hR1⟩ := hW3
              go_loopw [77] (fun i wr => ∃ (j : Nat) (L' : List Tm), j ≤ n ∧ i = .int .i64 j ∧ L'.length = L2.length ∧ wr.ownsRow w5.heap.size 30 3 (.slice A2 L'.length cap2) L'.length (L'.flatMap en3) ∧ IsTim wr X B m ∧ Below w.heap.size w wr ∧ Rd wr (some ⟨b1, off1, none⟩) (L2.flatMap en3)) (fun i _ => n - (intOf i).toNat)
              case atStart => exact ⟨0, L2, Nat.zero_le _, rfl, rfl, hO3, h, hb, hR1⟩
              case round =>
                clear h hb hR1 hO3
                obtain ⟨j, L', hj, rfl, hLL, hO, h, hb, hR1⟩ := hrel
                by_cases hlt : j < n
                · have hjl : j < L'.length := by omega
                  obtain ⟨y, hy⟩ : ∃ y, L'[j]? = some y := ⟨L'[j], List.getElem?_eq_getElem hjl⟩
                  obtain ⟨g, cap3, e3, hbg, hgl⟩ := own_form hO (by omega)
                  injection e3 with e4 e5 e6
                  subst e4 e6
                  have c1 : wr.cell? ⟨g, j * 3 + 1, none⟩ = some (.int .i64 y.o) := own_cells en3_len hO hy rfl
                  have f1 := own_free hO (j * 3 + 1)
                  obtain ⟨J1, J2⟩ := own_field en3_len hO hy (j := 1) (by omega) (.int .i64 (-9)) ⟨y.d, -9, y.s⟩ rfl
                  have hgX : ¬ X = g := fun e => by have := HX5.out.1; omega
                  have hgB : ¬ B = g := fun e => by have := HX5.out.2.1; omega
                  have hh := hid (h.touch (Touch.of_grown J2) hgX hgB)
                  have hhb := hid (hb.trans (grown_below J2 hb.size (Nat.le_trans HX5.out.2.2 hbg)))
                  have hhr := hid ((Touch.of_grown J2).rd hR1 (fun b hb e => by have := (hA1.out b hb).2; omega))
                  have HJ := hid J1
                  have HLL := hid hLL
                  clear J1 J2 h hb hR1 hO hy e5 hgX hgB hbg hgl hLL
                  go_wp2_with fail
                  go_roundw
                  case rel => exact ⟨j + 1, L'.set j ⟨y.d, -9, y.s⟩, by omega, by go_num, by rw [List.length_set]; exact HLL.out, HJ.out, hh.out, hhb.out, hhr.out⟩
                  case measure => simp [intOf]; omega
                · clear hO hj hLL
                  go_wp2_with fail
                  refine (tlist_any hS wr h HML.out).mono ?_
                  rintro e w8 ⟨A4, cap4, L4, rfl, hT4, hO4, hb8⟩
                  obtain rfl := hT4.unique HT.out
                  have hR4 : Rd w8 A4 (L4.flatMap en3) := by obtain ⟨A', c', e', hr⟩ := own_slice hO4; injection e' with e1 _ _; rw [e1]; exact hr
                  replace hR1 := hR1.below hb8
                  replace hb := bthen hb hb8
                  clear hO4 hb8 h hT4
                  go_wp2_with fail
                  have HW := hid (And.intro hb (And.intro hR1 hR4))
                  clear hb hR1 hR4
                  go_loopw [89] (fun i wr => ∃ i1 q : Nat, i1 ≤ L4.length ∧ i = .int .i64 i1 ∧ wr = w8.drewN q) (fun i _ => L4.length - (intOf i).toNat)
                  case atStart => exact ⟨0, 0, Nat.zero_le _, rfl, by simp [World.drewN]⟩
                  case round =>
                    obtain ⟨i1, q1, hi1, rfl, rfl⟩ := hrel
                    obtain ⟨hb, hR1, hR4⟩ := HW.out
                    by_cases hlt : i1 < L4.length
                    · obtain ⟨x, hx⟩ : ∃ x, L4[i1]? = some x := ⟨L4[i1], List.getElem?_eq_getElem hlt⟩
                      obtain ⟨c1, off3, e3, hbs1, hc1⟩ := hR1.at_ 3 en3_len (by omega) hx
                      obtain ⟨c2, off4, rfl, hbs2, hc2⟩ := hR4.at_ 3 en3_len (by omega) hx
                      injection e3 with e3; injection e3 with e3 e5; subst e3 e5
                      have hse := same_tm x
                      obtain ⟨yd, yo, ys⟩ := x
                      simp only at hse
                      have q0 : w8.cell? ⟨b1, off1 + i1 * 3, none⟩ = some (.int .i64 yd) := hc1 0 _ rfl
                      have q1 : w8.cell? ⟨b1, off1 + i1 * 3 + 1, none⟩ = some (.int .i64 yo) := hc1 1 _ rfl
                      have q2 : w8.cell? ⟨b1, off1 + i1 * 3 + 2, none⟩ = some (.int .i64 ys) := hc1 2 _ rfl
                      have p0 : w8.cell? ⟨c2, off4 + i1 * 3, none⟩ = some (.int .i64 yd) := hc2 0 _ rfl
                      have p1 : w8.cell? ⟨c2, off4 + i1 * 3 + 1, none⟩ = some (.int .i64 yo) := hc2 1 _ rfl
                      have p2 : w8.cell? ⟨c2, off4 + i1 * 3 + 2, none⟩ = some (.int .i64 ys) := hc2 2 _ rfl
                      have hgd := guard_tm
                      clear hc1 hc2 hx hR1 hR4 hb
                      go_wp2_with fail
                      refine wp_region_quiet_lit (by kernel_rfl) (by kernel_rfl) ?_
                      repeat (first | go_big_quiet_step (fail) | quiet_step (fail))
                      refine wpQuiet_nil ?_
                      rintro _ ⟨nq, rfl⟩
                      clear q0 q1 q2 p0 p1 p2 hse hgd
                      go_wp2_with fail
                      go_roundw
                      case rel => exact ⟨i1 + 1, _, by omega, by go_num, rfl⟩
                      case measure => simp [intOf]; omega
                    · clear hR1 hR4
                      go_wp2_with fail
                      go_ret
                      exact ⟨by simp, below_drewN hb _⟩
            · have hmn : most ≤ (n : Int) := by omega
              go_wp2_with fail
              clear q0 hxd hc hnl hmn
              obtain ⟨wx, hwx⟩ : ∃ wx, wx = w6.drewN q := ⟨_, rfl⟩
              have hW3 := HW2.out
              have hO3 := HO3.out
              rw [← hwx] at hW3 hO3 ⊢
              clear hwx HW2 HO3
              obtain ⟨h, hb, hR1⟩ := hW3
              go_loopw [77] (fun i wr => ∃ (j : Nat) (L' : List Tm), j ≤ n ∧ i = .int .i64 j ∧ L'.length = L2.length ∧ wr.ownsRow w5.heap.size 30 3 (.slice A2 L'.length cap2) L'.length (L'.flatMap en3) ∧ IsTim wr X B m ∧ Below w.heap.size w wr ∧ Rd wr (some ⟨b1, off1, none⟩) (L2.flatMap en3)) (fun i _ => n - (intOf i).toNat)
              case atStart => exact ⟨0, L2, Nat.zero_le _, rfl, rfl, hO3, h, hb, hR1⟩
              case round =>
                clear h hb hR1 hO3
                obtain ⟨j, L', hj, rfl, hLL, hO, h, hb, hR1⟩ := hrel
                by_cases hlt : j < n
                · have hjl : j < L'.length := by omega
                  obtain ⟨y, hy⟩ : ∃ y, L'[j]? = some y := ⟨L'[j], List.getElem?_eq_getElem hjl⟩
                  obtain ⟨g, cap3, e3, hbg, hgl⟩ := own_form hO (by omega)
                  injection e3 with e4 e5 e6
                  subst e4 e6
                  have c1 : wr.cell? ⟨g, j * 3 + 1, none⟩ = some (.int .i64 y.o) := own_cells en3_len hO hy rfl
                  have f1 := own_free hO (j * 3 + 1)
                  obtain ⟨J1, J2⟩ := own_field en3_len hO hy (j := 1) (by omega) (.int .i64 (-9)) ⟨y.d, -9, y.s⟩ rfl
                  have hgX : ¬ X = g := fun e => by have := HX5.out.1; omega
                  have hgB : ¬ B = g := fun e => by have := HX5.out.2.1; omega
                  have hh := hid (h.touch (Touch.of_grown J2) hgX hgB)
                  have hhb := hid (hb.trans (grown_below J2 hb.size (Nat.le_trans HX5.out.2.2 hbg)))
                  have hhr := hid ((Touch.of_grown J2).rd hR1 (fun b hb e => by have := (hA1.out b hb).2; omega))
                  have HJ := hid J1
                  have HLL := hid hLL
                  clear J1 J2 h hb hR1 hO hy e5 hgX hgB hbg hgl hLL
                  go_wp2_with fail
                  go_roundw
                  case rel => exact ⟨j + 1, L'.set j ⟨y.d, -9, y.s⟩, by omega, by go_num, by rw [List.length_set]; exact HLL.out, HJ.out, hh.out, hhb.out, hhr.out⟩
                  case measure => simp [intOf]; omega
                · clear hO hj hLL
                  go_wp2_with fail
                  refine (tlist_any hS wr h HML.out).mono ?_
                  rintro e w8 ⟨A4, cap4, L4, rfl, hT4, hO4, hb8⟩
                  obtain rfl := hT4.unique HT.out
                  have hR4 : Rd w8 A4 (L4.flatMap en3) := by obtain ⟨A', c', e', hr⟩ := own_slice hO4; injection e' with e1 _ _; rw [e1]; exact hr
                  replace hR1 := hR1.below hb8
                  replace hb := bthen hb hb8
                  clear hO4 hb8 h hT4
                  go_wp2_with fail
                  have HW := hid (And.intro hb (And.intro hR1 hR4))
                  clear hb hR1 hR4
                  go_loopw [89] (fun i wr => ∃ i1 q : Nat, i1 ≤ L4.length ∧ i = .int .i64 i1 ∧ wr = w8.drewN q) (fun i _ => L4.length - (intOf i).toNat)
                  case atStart => exact ⟨0, 0, Nat.zero_le _, rfl, by simp [World.drewN]⟩
                  case round =>
                    obtain ⟨i1, q1, hi1, rfl, rfl⟩ := hrel
                    obtain ⟨hb, hR1, hR4⟩ := HW.out
                    by_cases hlt : i1 < L4.length
                    · obtain ⟨x, hx⟩ : ∃ x, L4[i1]? = some x := ⟨L4[i1], List.getElem?_eq_getElem hlt⟩
                      obtain ⟨c1, off3, e3, hbs1, hc1⟩ := hR1.at_ 3 en3_len (by omega) hx
                      obtain ⟨c2, off4, rfl, hbs2, hc2⟩ := hR4.at_ 3 en3_len (by omega) hx
                      injection e3 with e3; injection e3 with e3 e5; subst e3 e5
                      have hse := same_tm x
                      obtain ⟨yd, yo, ys⟩ := x
                      simp only at hse
                      have q0 : w8.cell? ⟨b1, off1 + i1 * 3, none⟩ = some (.int .i64 yd) := hc1 0 _ rfl
                      have q1 : w8.cell? ⟨b1, off1 + i1 * 3 + 1, none⟩ = some (.int .i64 yo) := hc1 1 _ rfl
                      have q2 : w8.cell? ⟨b1, off1 + i1 * 3 + 2, none⟩ = some (.int .i64 ys) := hc1 2 _ rfl
                      have p0 : w8.cell? ⟨c2, off4 + i1 * 3, none⟩ = some (.int .i64 yd) := hc2 0 _ rfl
                      have p1 : w8.cell? ⟨c2, off4 + i1 * 3 + 1, none⟩ = some (.int .i64 yo) := hc2 1 _ rfl
                      have p2 : w8.cell? ⟨c2, off4 + i1 * 3 + 2, none⟩ = some (.int .i64 ys) := hc2 2 _ rfl
                      have hgd := guard_tm
                      clear hc1 hc2 hx hR1 hR4 hb
                      go_wp2_with fail
                      refine wp_region_quiet_lit (by kernel_rfl) (by kernel_rfl) ?_
                      repeat (first | go_big_quiet_step (fail) | quiet_step (fail))
                      refine wpQuiet_nil ?_
                      rintro _ ⟨nq, rfl⟩
                      clear q0 q1 q2 p0 p1 p2 hse hgd
                      go_wp2_with fail
                      go_roundw
                      case rel => exact ⟨i1 + 1, _, by omega, by go_num, rfl⟩
                      case measure => simp [intOf]; omega
                    · clear hR1 hR4
                      go_wp2_with fail
                      go_ret
                      exact ⟨by simp, below_drewN hb _⟩

end Go.Proofs.Ythlpcbpilfakmaa
