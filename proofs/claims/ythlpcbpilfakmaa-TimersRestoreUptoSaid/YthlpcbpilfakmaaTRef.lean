/-
  The document's timers: lists in order; before, Find, Cancel, Ready, and the laws' ref and same.
-/
import Derived.Test.YthlpcbpilfakmaaTimRest
namespace Go.Proofs.Ythlpcbpilfakmaa
open Go.RowKit Go.WideShapes Go.ChangeShapes Go.ChangeAt Go.Deep
set_option linter.unusedVariables false

theorem info_tm2 : (Try.prog.info? 56).map (fun i => (i.zero, i.size, i.bytes)) = some (some (.agg #[.int .i64 0, .int .i64 0, .int .i64 0]), 3, 24) := by kernel_rfl
theorem same_tm2 (x : Tm) (w : World) : (Op.equalIn 10000 56 (.agg #[.int .i64 x.d, .int .i64 x.o, .int .i64 x.s]) (.agg #[.int .i64 x.d, .int .i64 x.o, .int .i64 x.s])).run Try.prog w = .ok true w := by
  refine agg_same (L := [(3, 0), (3, 1), (3, 2)]) (by kernel_rfl) (by kernel_rfl) (by kernel_rfl) ?_ w
  intro q hq
  simp only [List.mem_cons, List.not_mem_nil, or_false] at hq
  rcases hq with rfl | rfl | rfl
  · exact sameAt_int Try.underlying3 isAgg_int rfl
  · exact sameAt_int Try.underlying3 isAgg_int rfl
  · exact sameAt_int Try.underlying3 isAgg_int rfl
theorem guard_tm2 : Try.prog.eqGuardType Try.prog.depth 56 = false := by kernel_rfl

set_option maxHeartbeats 2000000 in
theorem tbefore_any (x y : Tm) (w : World) : Calls Try.prog 31 #[.agg #[.int .i64 x.d, .int .i64 x.o, .int .i64 x.s], .agg #[.int .i64 y.d, .int .i64 y.o, .int .i64 y.s]] w fun e w' => e = .returned (.bool (ltT x y)) ∧ Below w.heap.size w w' := by
  have hv : ∀ x y : Tm, ltT x y = decide (x.d < y.d ∨ (x.d = y.d ∧ (x.o < y.o ∨ (x.o = y.o ∧ x.s < y.s)))) := fun x y => by
    rw [Bool.eq_iff_iff, ltT_iff, decide_eq_true_eq]
  obtain ⟨xd, xo, xs⟩ := x
  obtain ⟨yd, yo, ys⟩ := y
  simp only
  have HB : Hid (Below w.heap.size w ((w.alloc (.cells #[.int .i64 xd, .int .i64 xo, .int .i64 xs] 56)).alloc (.cells #[.int .i64 yd, .int .i64 yo, .int .i64 ys] 56))) := hid (((Below.refl _ _).alloc (Nat.le_refl _) _).alloc (by simp) _)
  have hcs : (xd = yd ∧ xo = yo ∧ ltT ⟨xd, xo, xs⟩ ⟨yd, yo, ys⟩ = decide (xs < ys)) ∨ (xd = yd ∧ xo ≠ yo ∧ ltT ⟨xd, xo, xs⟩ ⟨yd, yo, ys⟩ = decide (xo < yo)) ∨ (xd ≠ yd ∧ ltT ⟨xd, xo, xs⟩ ⟨yd, yo, ys⟩ = decide (xd < yd)) := by
    rw [hv]
    by_cases h1 : xd = yd
    · by_cases h2 : xo = yo
      · left; subst h1 h2; simp
      · right; left
        refine ⟨h1, h2, ?_⟩
        subst h1
        simp [h2]
    · right; right
      exact ⟨h1, by simp [h1]⟩
  clear hv
  rcases hcs with ⟨rfl, rfl, HV⟩ | ⟨rfl, h2, HV⟩ | ⟨h1, HV⟩
  · replace HV := hid HV
    go_enter Try.func31, Try.ntmps31
    go_wp2_with fail
    go_ret
    exact ⟨by rw [HV.out]; rfl, HB.out⟩
  · replace HV := hid HV
    have b2 : (xo != yo) = true := by simpa using h2
    clear h2
    go_enter Try.func31, Try.ntmps31
    go_wp2_with fail
    go_ret
    exact ⟨by rw [HV.out]; rfl, HB.out⟩
  · replace HV := hid HV
    have b1 : (xd != yd) = true := by simpa using h1
    clear h1
    go_enter Try.func31, Try.ntmps31
    go_wp2_with fail
    go_ret
    exact ⟨by rw [HV.out]; rfl, HB.out⟩

/-- The place of a step's timer, or -1. -/
def findT (l : List Tm) (p : Int × Int) : Int := match l.findIdx? (fun t => decide (keyT t = p)) with | some i => (i : Int) | none => -1
theorem findT_at {l : List Tm} {p : Int × Int} {k : Nat} {x : Tm} (h : ∀ (j : Nat) (y : Tm), j < k → l[j]? = some y → keyT y ≠ p) (hk : l[k]? = some x) (hx : keyT x = p) : findT l p = k := by
  unfold findT
  have hkl := (List.getElem?_eq_some_iff.1 hk).1
  rw [List.findIdx?_eq_some_iff_getElem.2 ⟨hkl, by rw [(List.getElem?_eq_some_iff.1 hk).2]; simpa using hx, fun j hj => by
    have := h j l[j] hj (List.getElem?_eq_getElem (by omega))
    simpa using this⟩]
theorem findT_none {l : List Tm} {p : Int × Int} (h : ∀ (j : Nat) (y : Tm), l[j]? = some y → keyT y ≠ p) : findT l p = -1 := by
  unfold findT
  rw [List.findIdx?_eq_none_iff.2 (fun x hx => by
    obtain ⟨k, hk⟩ := List.mem_iff_getElem?.1 hx
    have := h k x hk
    simpa using this)]
theorem findT_cases (l : List Tm) (p : Int × Int) : (∃ (k : Nat) (x : Tm), findT l p = k ∧ l[k]? = some x ∧ keyT x = p) ∨ (findT l p = -1 ∧ ∀ x ∈ l, keyT x ≠ p) := by
  unfold findT
  cases hf : l.findIdx? (fun t => decide (keyT t = p)) with
  | none =>
    right
    refine ⟨rfl, fun x hx => ?_⟩
    have := List.findIdx?_eq_none_iff.1 hf x hx
    simpa using this
  | some k =>
    left
    obtain ⟨h1, h2, _⟩ := List.findIdx?_eq_some_iff_getElem.1 hf
    exact ⟨k, l[k], rfl, List.getElem?_eq_getElem h1, by simpa using h2⟩

set_option maxHeartbeats 2000000 in
theorem tfind_any (l : List Tm) (A : Option Addr) (cp : Nat) (o s : Int) (w : World) (hR : Rd w A (l.flatMap en3)) (hl : l.length ≤ 140737488355328) :
    Calls Try.prog 21 #[.slice A l.length cp, .int .i64 o, .int .i64 s] w fun e w' => e = .returned (.int .i64 (findT l (o, s))) ∧ w = w' := by
  go_enter Try.func21, Try.ntmps21
  go_wp2_with fail
  go_loop [7] (fun i => ∃ k : Nat, k ≤ l.length ∧ i = .int .i64 k ∧ Hid (∀ (j : Nat) (y : Tm), j < k → l[j]? = some y → keyT y ≠ (o, s))) (fun i => l.length - (intOf i).toNat)
  case atStart => exact ⟨0, Nat.zero_le _, rfl, hid (fun j y hj => by omega)⟩
  case round =>
    obtain ⟨k, hk, rfl, hI⟩ := hrel
    by_cases hlt : k < l.length
    · obtain ⟨x, hx⟩ : ∃ x, l[k]? = some x := ⟨l[k], List.getElem?_eq_getElem hlt⟩
      obtain ⟨b, off, rfl, hbs, hcc⟩ := hR.at_ 3 en3_len (by omega) hx
      have HX := hid hx
      obtain ⟨xd, xo, xs⟩ := x
      have q1 : w.cell? ⟨b, off + k * 3 + 1, none⟩ = some (.int .i64 xo) := hcc 1 _ rfl
      have q2 : w.cell? ⟨b, off + k * 3 + 2, none⟩ = some (.int .i64 xs) := hcc 2 _ rfl
      clear hcc hx
      have more : ∀ h : ¬ (xo = o ∧ xs = s), Hid (∀ (j : Nat) (y : Tm), j < k + 1 → l[j]? = some y → keyT y ≠ (o, s)) := fun h => hid (fun j y hj hy => by
        rcases Nat.lt_succ_iff_lt_or_eq.1 hj with h' | h'
        · exact hI.out j y h' hy
        · subst h'
          rw [HX.out] at hy
          injection hy with hy
          subst hy
          intro e
          simp only [keyT, Prod.mk.injEq] at e
          exact h e)
      have HM := hid more
      clear more
      by_cases h1 : xo = o
      · by_cases h2 : xs = s
        · have HF : Hid (findT l (o, s) = k) := hid (findT_at hI.out HX.out (by simp [keyT, h1, h2]))
          subst h1 h2
          go_wp2_with fail
          go_ret
          exact ⟨by rw [HF.out]; rfl, rfl⟩
        · have b2 : (xs == s) = false := by simpa using h2
          have HN := hid (HM.out (fun e => h2 e.2))
          subst h1
          clear h2
          go_wp2_with fail
          go_round
          case rel => exact ⟨k + 1, by omega, by go_num, HN.out⟩
          case measure => simp [intOf]; omega
      · have b1 : (xo == o) = false := by simpa using h1
        have HN := hid (HM.out (fun e => h1 e.1))
        clear h1
        go_wp2_with fail
        go_round
        case rel => exact ⟨k + 1, by omega, by go_num, HN.out⟩
        case measure => simp [intOf]; omega
    · have HF : Hid (findT l (o, s) = -1) := hid (findT_none (fun j y hy => hI.out j y (by have := (List.getElem?_eq_some_iff.1 hy).1; omega) hy))
      clear hI
      go_wp2_with fail
      go_ret
      exact ⟨by rw [HF.out]; rfl, rfl⟩

/-- A list without a step's timers. -/
def dropT (l : List Tm) (p : Int × Int) : List Tm := l.filter (fun t => decide (keyT t ≠ p))
theorem dropT_le (l : List Tm) (p : Int × Int) : (dropT l p).length ≤ l.length := List.length_filter_le _ _

/-- What a function leaves that hands back a slice in a new row. -/
def NewRow (r : List Tm) (w : World) (e : Ending) (w' : World) : Prop := ∃ A cap, e = .returned (.slice A r.length cap) ∧ w'.ownsRow w.heap.size 56 3 (.slice A r.length cap) r.length (r.flatMap en3) ∧ Below w.heap.size w w'

set_option maxRecDepth 100000 in
set_option maxHeartbeats 8000000 in
theorem tcancel_ref (l : List Tm) (A : Option Addr) (cp : Nat) (o s : Int) (w : World) (hR : Rd w A (l.flatMap en3)) (hl : l.length * 24 ≤ 140737488355328) :
    Calls Try.prog 23 #[.slice A l.length cp, .int .i64 o, .int .i64 s] w (NewRow (dropT l (o, s)) w) := by
  obtain ⟨i0, hi, hz0, hz1, hz2⟩ := info_parts info_tm2
  go_enter Try.func23, Try.ntmps23
  go_wp2_with fail
  go_loopw [7, 8] (fun v i wr => ∃ k : Nat, k ≤ l.length ∧ i = .int .i64 k ∧ wr.ownsRow w.heap.size 56 3 v (dropT (l.take k) (o, s)).length ((dropT (l.take k) (o, s)).flatMap en3) ∧ Below w.heap.size w wr) (fun _ i _ => l.length - (intOf i).toNat)
  case atStart => exact ⟨0, Nat.zero_le _, rfl, World.ownsRow_nil _ _ _ _, Below.refl _ _⟩
  case round =>
    obtain ⟨k, hk, rfl, hO, hb⟩ := hrel
    by_cases hlt : k < l.length
    · obtain ⟨x, hx⟩ : ∃ x, l[k]? = some x := ⟨l[k], List.getElem?_eq_getElem hlt⟩
      have hR1 := hR.below hb
      obtain ⟨b, off, rfl, hbs, hcc⟩ := hR1.at_ 3 en3_len (by omega) hx
      have HS : Hid (l.take (k + 1) = l.take k ++ [x]) := hid (by rw [List.take_add_one, hx]; rfl)
      have hdl : (dropT (l.take k) (o, s)).length ≤ k := Nat.le_trans (dropT_le _ _) (List.length_take_le _ _)
      obtain ⟨xd, xo, xs⟩ := x
      have q0 : wr.cell? ⟨b, off + k * 3, none⟩ = some (.int .i64 xd) := hcc 0 _ rfl
      have q1 : wr.cell? ⟨b, off + k * 3 + 1, none⟩ = some (.int .i64 xo) := hcc 1 _ rfl
      have q2 : wr.cell? ⟨b, off + k * 3 + 2, none⟩ = some (.int .i64 xs) := hcc 2 _ rfl
      clear hcc hx hR1
      by_cases hin : xo = o ∧ xs = s
      · have HD : Hid (dropT (l.take (k + 1)) (o, s) = dropT (l.take k) (o, s)) := hid (by rw [HS.out]; simp [dropT, List.filter_append, keyT, hin.1, hin.2])
        obtain ⟨rfl, rfl⟩ := hin
        clear hdl
        go_wp2_with fail
        go_roundw
        case rel => exact ⟨k + 1, by omega, by go_num, by rw [HD.out]; exact hO, hb⟩
        case measure => simp [intOf]; omega
      · have HD : Hid (dropT (l.take (k + 1)) (o, s) = dropT (l.take k) (o, s) ++ [⟨xd, xo, xs⟩]) := hid (by
          rw [HS.out]
          have : keyT ⟨xd, xo, xs⟩ ≠ (o, s) := fun e => hin (by simpa [keyT] using e)
          simp [dropT, List.filter_append, this])
        have hO3 := hid hO
        have hb3 := hid (hb.alloc hb.size (.cells #[.int .i64 xd, .int .i64 xo, .int .i64 xs] 56))
        have hwz : w.heap.size ≤ wr.heap.size := hb.size
        generalize hdd : (dropT (l.take k) (o, s)).length = dn at *
        have HDN := hid hdd
        clear hO hb hdd
        have hcs : (xo = o ∧ xs ≠ s) ∨ xo ≠ o := by
          by_cases e : xo = o
          · exact .inl ⟨e, fun e2 => hin ⟨e, e2⟩⟩
          · exact .inr e
        clear hin
        rcases hcs with ⟨e1, e2⟩ | e1
        · have b2 : (xs != s) = true := by simpa using e2
          subst e1
          clear e2
          go_wp2_with (first
            | (at_builtin; refine wpList_push _ rfl _ _ 46 rfl w.heap.size 56 i0 _ 3 24 Try.underlying46 hi hz0 hz1 hz2 rfl (by decide) _ _ _ (by rfl) hO3.out #[.int .i64 xd, .int .i64 xo, .int .i64 xs] wr.heap.size (by simp) (by rfl) (by rfl) (by rfl) (by unfold maxLen; omega) (by omega) (by omega) ?_; intro v' w3 hO4 hg4))
          have hb4 := hb3.out.grown hg4 (by simp; omega) (fun k hk => (hO3.out.lt k hk).1)
          have hO5 : w3.ownsRow w.heap.size 56 3 v' (dropT (l.take (k + 1)) (xo, s)).length ((dropT (l.take (k + 1)) (xo, s)).flatMap en3) := by
            rw [HD.out, List.length_append, HDN.out]
            simpa [en3] using hO4
          clear hO4 hg4 hO3 hb3
          go_roundw
          case rel => exact ⟨k + 1, by omega, by go_num, hO5, hb4⟩
          case measure => simp [intOf]; omega
        · have b1 : (xo != o) = true := by simpa using e1
          clear e1
          go_wp2_with (first
            | (at_builtin; refine wpList_push _ rfl _ _ 46 rfl w.heap.size 56 i0 _ 3 24 Try.underlying46 hi hz0 hz1 hz2 rfl (by decide) _ _ _ (by rfl) hO3.out #[.int .i64 xd, .int .i64 xo, .int .i64 xs] wr.heap.size (by simp) (by rfl) (by rfl) (by rfl) (by unfold maxLen; omega) (by omega) (by omega) ?_; intro v' w3 hO4 hg4))
          have hb4 := hb3.out.grown hg4 (by simp; omega) (fun k hk => (hO3.out.lt k hk).1)
          have hO5 : w3.ownsRow w.heap.size 56 3 v' (dropT (l.take (k + 1)) (o, s)).length ((dropT (l.take (k + 1)) (o, s)).flatMap en3) := by
            rw [HD.out, List.length_append, HDN.out]
            simpa [en3] using hO4
          clear hO4 hg4 hO3 hb3
          go_roundw
          case rel => exact ⟨k + 1, by omega, by go_num, hO5, hb4⟩
          case measure => simp [intOf]; omega
    · have hk' : k = l.length := by omega
      subst hk'
      rw [List.take_length] at hO
      obtain ⟨A', cap', rfl, _⟩ := own_slice hO
      clear hlt hk
      go_wp2_with fail
      go_ret
      exact ⟨A', cap', rfl, hO, hb⟩

end Go.Proofs.Ythlpcbpilfakmaa
