/-
  Timers: Ready: those that are due.
-/
import Derived.Test.YthlpcbpilfakmaaTimList
namespace Go.Proofs.Ythlpcbpilfakmaa
open Go.RowKit Go.WideShapes Go.ChangeShapes Go.ChangeAt Go.Deep
set_option linter.unusedVariables false

theorem readyCmp_any (x : Tm) (now : Int) (w : World) : Calls Try.prog 30 #[.agg #[.int .i64 x.d, .int .i64 x.o, .int .i64 x.s], .int .i64 now] w fun e w' => e = .returned (.int .i64 (if now < x.d then 1 else -1)) ∧ Below w.heap.size w w' := by
  obtain ⟨xd, xo, xs⟩ := x
  simp only
  by_cases h : now < xd
  · rw [if_pos h]
    go_enter Try.func30, Try.ntmps30
    go_wp2_with fail
    go_ret
    exact ⟨rfl, (Below.refl _ _).alloc (Nat.le_refl _) _⟩
  · rw [if_neg h]
    go_enter Try.func30, Try.ntmps30
    go_wp2_with fail
    go_ret
    exact ⟨rfl, (Below.refl _ _).alloc (Nat.le_refl _) _⟩

/-- How many timers are due. -/
def dueN (l : List Tm) (now : Int) : Nat := (l.takeWhile (fun t => decide (t.d ≤ now))).length
theorem dueN_le (l : List Tm) (now : Int) : dueN l now ≤ l.length := (List.takeWhile_sublist _).length_le
theorem dueN_eq {l : List Tm} {now : Int} {k : Nat} (hk : k ≤ l.length) (h1 : ∀ (j : Nat) (y : Tm), j < k → l[j]? = some y → y.d ≤ now) (h2 : ∀ y, l[k]? = some y → now < y.d) : dueN l now = k := by
  unfold dueN
  induction l generalizing k with
  | nil => simp at hk; simp [hk]
  | cons y l ih =>
    cases k with
    | zero =>
      have := h2 y rfl
      rw [List.takeWhile_cons_of_neg (by simp; omega)]
      rfl
    | succ k =>
      have h0 := h1 0 y (Nat.succ_pos k) rfl
      rw [List.takeWhile_cons_of_pos (by simpa using h0), List.length_cons]
      congr 1
      exact ih (k := k) (by simpa using hk) (fun j z hj hz => h1 (j + 1) z (by omega) (by simpa using hz)) (fun z hz => h2 z (by simpa using hz))
theorem due_mono {l : List Tm} (h : SortedK id ltT l) {i j : Nat} {x y : Tm} (hi : l[i]? = some x) (hj : l[j]? = some y) (hij : i ≤ j) : x.d ≤ y.d := by
  rcases Nat.eq_or_lt_of_le hij with e | e
  · subst e
    rw [hi] at hj
    injection hj with hj
    rw [hj]; exact Int.le_refl _
  · have hil := (List.getElem?_eq_some_iff.1 hi).1
    have hjl := (List.getElem?_eq_some_iff.1 hj).1
    have := (List.pairwise_iff_getElem.1 h) i j hil hjl e
    rw [(List.getElem?_eq_some_iff.1 hi).2, (List.getElem?_eq_some_iff.1 hj).2] at this
    have := (ltT_iff _ _).1 this
    simp only [id] at this
    omega

set_option maxRecDepth 100000 in
set_option maxHeartbeats 4000000 in
theorem bsearch_any (l : List Tm) (A : Option Addr) (cp : Nat) (now : Int) (w : World) (hR : Rd w A (l.flatMap en3)) (hl : l.length ≤ 140737488355328) (hs : SortedK id ltT l) :
    Calls Try.prog 29 #[.slice A l.length cp, .int .i64 now, .func (.func 30) #[] #[]] w fun e w' => e = .returned (.tuple #[.int .i64 (dueN l now : Nat), .bool false]) ∧ Below w.heap.size w w' := by
  go_enter Try.func29, Try.ntmps29
  go_wp2_with fail
  go_loopw [9, 10, 11] (fun i j _ wr => ∃ a b : Nat, a ≤ b ∧ b ≤ l.length ∧ i = .int .i64 a ∧ j = .int .i64 b ∧ Hid ((∀ (k : Nat) (y : Tm), k < a → l[k]? = some y → y.d ≤ now) ∧ (∀ (k : Nat) (y : Tm), b ≤ k → l[k]? = some y → now < y.d)) ∧ Below w.heap.size w wr) (fun i j _ _ => (intOf j).toNat - (intOf i).toNat)
  case atStart => exact ⟨0, l.length, Nat.zero_le _, Nat.le_refl _, rfl, rfl, hid ⟨fun k y hk => by omega, fun k y hk hy => by have := (List.getElem?_eq_some_iff.1 hy).1; omega⟩, Below.refl _ _⟩
  case round =>
    obtain ⟨a, b, hab, hbl, rfl, rfl, hI, hb⟩ := hrel
    by_cases hlt : a < b
    · have hm : (a + b) / 2 < l.length := by omega
      obtain ⟨x, hx⟩ : ∃ x, l[(a + b) / 2]? = some x := ⟨l[(a + b) / 2], List.getElem?_eq_getElem hm⟩
      have hR1 := hR.below hb
      obtain ⟨bb, off, rfl, hbs, hcc⟩ := hR1.at_ 3 en3_len (by omega) hx
      obtain ⟨xd, xo, xs⟩ := x
      have q0 : wr.cell? ⟨bb, off + (a + b) / 2 * 3, none⟩ = some (.int .i64 xd) := hcc 0 _ rfl
      have q1 : wr.cell? ⟨bb, off + (a + b) / 2 * 3 + 1, none⟩ = some (.int .i64 xo) := hcc 1 _ rfl
      have q2 : wr.cell? ⟨bb, off + (a + b) / 2 * 3 + 2, none⟩ = some (.int .i64 xs) := hcc 2 _ rfl
      have HX := hid hx
      clear hcc hx hR1
      have CM := readyCmp_any ⟨xd, xo, xs⟩ now wr
      by_cases hd : now < xd
      · rw [if_pos hd] at CM
        have HCM := hid CM
        have HD := hid hd
        clear CM hd
        go_wp2_with fail
        refine HCM.out.mono ?_
        rintro e w5 ⟨rfl, hb5⟩
        replace hb := bthen hb hb5
        clear HCM hb5 q0 q1 q2
        go_wp2_with fail
        go_roundw
        case rel => exact ⟨a, (a + b) / 2, by omega, by omega, rfl, by simp, hid ⟨hI.out.1, fun k y hk hy => by have := due_mono hs HX.out hy hk; have := HD.out; simp only at *; omega⟩, hb⟩
        case measure => simp [intOf]; omega
      · rw [if_neg hd] at CM
        have HCM := hid CM
        have HD := hid hd
        clear CM hd
        go_wp2_with fail
        refine HCM.out.mono ?_
        rintro e w5 ⟨rfl, hb5⟩
        replace hb := bthen hb hb5
        clear HCM hb5 q0 q1 q2
        go_wp2_with fail
        go_roundw
        case rel => exact ⟨(a + b) / 2 + 1, b, by omega, by omega, by simp, rfl, hid ⟨fun k y hk hy => by have := due_mono hs hy HX.out (by omega); have := HD.out; simp only at *; omega, hI.out.2⟩, hb⟩
        case measure => simp [intOf]; omega
    · have : a = b := by omega
      subst this
      by_cases hal : a < l.length
      · obtain ⟨x, hx⟩ : ∃ x, l[a]? = some x := ⟨l[a], List.getElem?_eq_getElem hal⟩
        have hnx := hI.out.2 a x (Nat.le_refl _) hx
        have HDN : Hid (dueN l now = a) := hid (dueN_eq hbl hI.out.1 (fun y hy => hI.out.2 a y (Nat.le_refl _) hy))
        have hR1 := hR.below hb
        obtain ⟨bb, off, rfl, hbs, hcc⟩ := hR1.at_ 3 en3_len (by omega) hx
        obtain ⟨xd, xo, xs⟩ := x
        simp only at hnx
        have q0 : wr.cell? ⟨bb, off + a * 3, none⟩ = some (.int .i64 xd) := hcc 0 _ rfl
        have q1 : wr.cell? ⟨bb, off + a * 3 + 1, none⟩ = some (.int .i64 xo) := hcc 1 _ rfl
        have q2 : wr.cell? ⟨bb, off + a * 3 + 2, none⟩ = some (.int .i64 xs) := hcc 2 _ rfl
        have CM := readyCmp_any ⟨xd, xo, xs⟩ now wr
        rw [if_pos hnx] at CM
        have HCM := hid CM
        clear CM hnx hcc hx hR1 hI hlt hab
        go_wp2_with fail
        refine HCM.out.mono ?_
        rintro e w5 ⟨rfl, hb5⟩
        replace hb := bthen hb hb5
        clear HCM hb5 q0 q1 q2
        go_wp2_with fail
        go_ret2
        exact ⟨by rw [HDN.out]; rfl, hb⟩
      · have hal2 : a = l.length := by omega
        have HDN : Hid (dueN l now = l.length) := hid (dueN_eq (Nat.le_refl _) (fun j y hj hy => hI.out.1 j y (by omega) hy) (fun y hy => by rw [List.getElem?_eq_none (Nat.le_refl _)] at hy; cases hy))
        subst hal2
        clear hI hlt hab hal hbl
        go_wp2_with fail
        go_ret2
        exact ⟨by rw [HDN.out]; rfl, hb⟩

/-- How many Ready tells. -/
def rdyN (l : List Tm) (now most : Int) : Nat := (min ((dueN l now : Nat) : Int) (max 0 most)).toNat
theorem rdyN_le (l : List Tm) (now most : Int) : rdyN l now most ≤ l.length := by
  have := dueN_le l now
  unfold rdyN
  omega

set_option maxRecDepth 100000 in
set_option maxHeartbeats 4000000 in
theorem ready_any (hS : SortsT) {X B : Nat} {m : TMap} (now most : Int) (w : World) (h : IsTim w X B m) (hm : m.length * 24 ≤ 140737488351232) :
    Calls Try.prog 14 #[.pointer (some ⟨X, 0, none⟩), .int .i64 now, .int .i64 most] w fun e w' =>
      ∃ (A : Option Addr) (cap : Nat) (l : List Tm), e = .returned (.slice A (rdyN l now most) cap) ∧ TRel m l ∧ w'.ownsRow w.heap.size 30 3 (.slice A l.length cap) l.length (l.flatMap en3) ∧ Below w.heap.size w w' := by
  have L := hid (tlist_any hS w h hm)
  have HM := hid hm
  go_enter Try.func14, Try.ntmps14
  go_wp2_with fail
  refine L.out.mono ?_
  rintro e w1 ⟨A, cap, l, rfl, hT, hO, hb⟩
  obtain ⟨A', cap', e', hR⟩ := own_slice hO
  injection e' with e1 e2 e3
  subst e1 e3
  have hll : l.length * 24 ≤ 140737488351232 := by rw [hT.len]; exact HM.out
  have BS := hid (bsearch_any l A cap now w1 hR (by omega) hT.sorted)
  have hcap : l.length ≤ cap := by
    rcases hO.2 with ⟨h1, h2⟩ | ⟨g, cap', cur, h1, _, _, h2, _⟩
    · omega
    · injection h1 with _ _ h3; omega
  have hcm : cap ≤ maxLen := by
    rcases hO.2 with ⟨h1, h2⟩ | ⟨g, cap', cur, h1, _, _, h2, h4, _⟩
    · injection h1 with _ _ h3; omega
    · injection h1 with _ _ h3; omega
  unfold maxLen at hcm
  have hO1 := hid (fun w' (hb : Below w1.heap.size w1 w') => hO.kept (grown_of_below hb none) (by cases (Value.slice A l.length cap).ownBlock <;> simp))
  clear L hR hO h hm HM
  go_wp2_with fail
  refine BS.out.mono ?_
  rintro e w2 ⟨rfl, hb2⟩
  have hO2 := hid (hO1.out _ hb2)
  replace hb := bthen hb hb2
  have hdn := dueN_le l now
  have HR : Hid (rdyN l now most = (min ((dueN l now : Nat) : Int) (max 0 most)).toNat) := hid rfl
  generalize dueN l now = n at *
  clear BS hb2 hO1
  go_wp2_with fail
  go_ret
  exact ⟨A, cap, l, by rw [HR.out]; rfl, hT, hO2.out, hb⟩

end Go.Proofs.Ythlpcbpilfakmaa
