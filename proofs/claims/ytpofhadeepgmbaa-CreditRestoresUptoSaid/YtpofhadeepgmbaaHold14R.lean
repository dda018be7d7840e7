/-
  The document's credit book: Hold, Release.
-/
import Derived.Test.YtpofhadeepgmbaaPut14
namespace Go.Proofs.Ytpofhadeepgmbaa
open Go.RowKit Go.WideShapes Go.ChangeShapes Go.ChangeAt Go.Deep
set_option linter.unusedVariables false

section
variable {base R c1 c2 : Nat} {A1 A2 : Option Addr} {ps : List Pa} {hr : List Hd} {w w4 wr : World} {ac : List (Int × Acc)} {hs : List (Int × Hd)}

set_option maxRecDepth 100000 in
set_option maxHeartbeats 4000000 in
theorem rhold_arg (o c n : Int) (v : Value) (hno : ¬ (1 ≤ o ∧ 0 ≤ n ∧ n ≤ 1125899906842624)) :
    Calls Try.prog 28 #[v, .int .i64 o, .int .i64 c, .int .i64 n] w fun e w' => e = .returned (.int .i64 2) ∧ w = w' := by
  rcases (show o < 1 ∨ (1 ≤ o ∧ n < 0) ∨ ((1 ≤ o ∧ 0 ≤ n) ∧ 1125899906842624 < n) from by omega) with h1 | ⟨h1, h2⟩ | ⟨⟨h1, h2⟩, h3⟩
  all_goals
    clear hno
    go_enter Try.func28, Try.ntmps28
    go_wp2_with fail
    go_ret
    exact ⟨rfl, rfl⟩

set_option maxRecDepth 100000 in
set_option maxHeartbeats 4000000 in
theorem rhold_no (h : IsRef base w R A1 c1 ps A2 c2 hr) (hM : RelB ac hs ps hr) (o c n : Int) (hok : 1 ≤ o ∧ 0 ≤ n ∧ n ≤ 1125899906842624) (hno : holdR ac hs o c n ≠ 0) (hl : ps.length ≤ 140737488355328) (hl2 : hr.length ≤ 140737488355328) :
    Calls Try.prog 28 #[.pointer (some ⟨R, 0, none⟩), .int .i64 o, .int .i64 c, .int .i64 n] w fun e w' => e = .returned (.int .i64 (holdR ac hs o c n)) ∧ w = w' := by
  have F := rfind_any h c hl
  have G := rheldFor_any h o hl2
  unfold holdR at hno ⊢
  rw [if_pos hok] at hno ⊢
  obtain ⟨k1, k2, k3⟩ := hok
  rcases hM.find c with ⟨k, a, ha, hk, hy, he⟩ | ⟨hn, he⟩
  · rw [ha] at hno ⊢
    simp only at hno ⊢
    rw [he] at F
    rcases hM.heldFor o with ⟨kk, d, hd, _, hkk, hyy, hee⟩ | ⟨hnn, hee⟩
    · rw [hd]
      rw [hee] at G
      rw [Option.isSome_some, if_pos rfl]
      have HF := hid F
      have HG := hid G
      clear F G hd ha hy hyy hno he hee
      go_enter Try.func28, Try.ntmps28
      go_wp2_with fail
      refine HF.out.mono ?_
      rintro e w1 ⟨rfl, rfl⟩
      go_wp2_with fail
      refine HG.out.mono ?_
      rintro e w1 ⟨rfl, rfl⟩
      go_wp2_with fail
      go_ret
      exact ⟨rfl, rfl⟩
    · rw [hnn] at hno ⊢
      rw [Option.isSome_none, if_neg (by decide)] at hno ⊢
      rw [hee] at G
      have hb := hM.bd ha
      have hlim := hM.lim c a ha
      have hsum : sumC hr c = a.e := by rw [hM.sum]; exact (hM.exp c a ha).1.symm
      have hwr : wrap64 (a.l - a.e) = a.l - a.e := wr_lim _ ⟨by have := hlim.2.2; omega, by have := hlim.2.2; omega⟩
      rw [hwr] at hno ⊢
      have hlt : a.l - a.e < n := by
        rcases Int.lt_or_le (a.l - a.e) n with h | h
        · exact h
        · exfalso; apply hno; rw [if_neg (by omega)]
      rw [if_pos hlt]
      have E := rexposure_any h c hl2 (fun d hd => (hM.amtR d hd).1) (by omega)
      rw [hsum] at E
      obtain ⟨g, rfl, _, hpr⟩ := h.elem1 hy
      have c0 := h.cell0
      have p1 : w.cell? ⟨g, k * 2 + 1, none⟩ = some (.int .i64 a.l) := hpr.2 1 _ rfl
      obtain ⟨ag, al, ae⟩ := a
      simp only at hb hlim hlt E p1
      obtain ⟨m1, m2, m3, m4⟩ := hlim
      have b1 := hb.1
      have b2 := hb.2
      have hd : decide (al < ae + n) = true := decide_eq_true (by omega)
      have hb7 : 0 ≤ ae + n := by omega
      have hb8 : ae + n ≤ 4503599627370496 := by omega
      have HF := hid F
      have HG := hid G
      have HE := hid E
      have hkl : k < ps.length := hk
      clear F G E ha hy hno he hee hnn hwr hsum hpr h hM hb hlt
      go_enter Try.func28, Try.ntmps28
      go_wp2_with fail
      refine HF.out.mono ?_
      rintro e w1 ⟨rfl, rfl⟩
      go_wp2_with fail
      refine HG.out.mono ?_
      rintro e w1 ⟨rfl, rfl⟩
      go_wp2_with fail
      refine HE.out.mono ?_
      rintro e w1 ⟨rfl, rfl⟩
      go_wp2_with fail
      go_ret
      exact ⟨rfl, rfl⟩
  · rw [hn] at hno ⊢
    rw [he] at F
    have HF := hid F
    clear F G hno hn he
    go_enter Try.func28, Try.ntmps28
    go_wp2_with fail
    refine HF.out.mono ?_
    rintro e w1 ⟨rfl, rfl⟩
    go_wp2_with fail
    go_ret
    exact ⟨rfl, rfl⟩

def HoldPost (base R : Nat) (A1 A2 : Option Addr) (c1 : Nat) (ps : List Pa) (hr' : List Hd) (w : World) (e : Ending) (w' : World) : Prop :=
  ∃ A2' c2', e = .returned (.int .i64 0) ∧ IsRef base w' R A1 c1 ps A2' c2' hr' ∧ Touch (RT w.heap.size R A2) w w'

set_option maxRecDepth 100000 in
set_option maxHeartbeats 4000000 in
theorem rhold_yes (h : IsRef base w R A1 c1 ps A2 c2 hr) (hM : RelB ac hs ps hr) (o c n : Int) (hok : 1 ≤ o ∧ 0 ≤ n ∧ n ≤ 1125899906842624) (a : Acc) (ha : mget ac c = some a) (hnone : mget hs o = none) (hle : n ≤ wrap64 (a.l - a.e))
    (hl : ps.length ≤ 140737488355328) (hl2 : hr.length * 24 + 24 ≤ 140737488355328) (hbw : base ≤ w.heap.size) :
    Calls Try.prog 28 #[.pointer (some ⟨R, 0, none⟩), .int .i64 o, .int .i64 c, .int .i64 n] w (HoldPost base R A1 A2 c1 ps (insK Hd.o ltI hr ⟨o, c, n⟩) w) := by
  have F := rfind_any h c hl
  have G := rheldFor_any h o (by omega)
  obtain ⟨k1, k2, k3⟩ := hok
  rcases hM.find c with ⟨k, a', ha', hk, hy, he⟩ | ⟨hn, he⟩
  · rw [ha] at ha'
    injection ha' with ha'
    subst ha'
    rw [he] at F
    rcases hM.heldFor o with ⟨kk, d, hd, _, hkk, hyy, hee⟩ | ⟨hnn, hee⟩
    · rw [hd] at hnone; cases hnone
    · rw [hee] at G
      have hb := hM.bd ha
      have hlim := hM.lim c a ha
      have hsum : sumC hr c = a.e := by rw [hM.sum]; exact (hM.exp c a ha).1.symm
      have hwr : wrap64 (a.l - a.e) = a.l - a.e := wr_lim _ ⟨by have := hlim.2.2; omega, by have := hlim.2.2; omega⟩
      rw [hwr] at hle
      have E := rexposure_any h c (by omega) (fun d hd => (hM.amtR d hd).1) (by omega)
      rw [hsum] at E
      have P := rput_any h hM.hd.sorted o c n (hM.hd.none.2 hnone) hl2 hbw
      unfold PutPost at P
      obtain ⟨g, rfl, _, hpr⟩ := h.elem1 hy
      have c0 := h.cell0
      have p1 : w.cell? ⟨g, k * 2 + 1, none⟩ = some (.int .i64 a.l) := hpr.2 1 _ rfl
      obtain ⟨ag, al, ae⟩ := a
      simp only at hb hlim hle E p1
      obtain ⟨m1, m2, m3, m4⟩ := hlim
      have b1 := hb.1
      have b2 := hb.2
      have hd : decide (al < ae + n) = false := decide_eq_false (by omega)
      have hb7 : 0 ≤ ae + n := by omega
      have hb8 : ae + n ≤ 4503599627370496 := by omega
      have HF := hid F
      have HG := hid G
      have HE := hid E
      have HP := hid P
      have hkl : k < ps.length := hk
      clear F G E P ha hy he hee hnn hwr hsum hpr h hM hb hnone
      go_enter Try.func28, Try.ntmps28
      go_wp2_with fail
      refine HF.out.mono ?_
      rintro e w1 ⟨rfl, rfl⟩
      go_wp2_with fail
      refine HG.out.mono ?_
      rintro e w1 ⟨rfl, rfl⟩
      go_wp2_with fail
      refine HE.out.mono ?_
      rintro e w1 ⟨rfl, rfl⟩
      go_wp2_with fail
      refine HP.out.mono ?_
      rintro e w1 ⟨A2', c2', rfl, h1, hT⟩
      go_wp2_with fail
      go_ret
      exact ⟨_, _, rfl, h1, hT⟩
  · rw [hn] at ha; cases ha

theorem erase_step {l : List Hd} {k j : Nat} {x : Hd} (hk : l[k]? = some x) : (l.take (k + 1)).eraseIdx j = if k = j then (l.take k).eraseIdx j else (l.take k).eraseIdx j ++ [x] := by
  have hl := (List.getElem?_eq_some_iff.1 hk).1
  have hln : (l.take k).length = k := by simp; omega
  rw [List.take_add_one, hk]
  show (l.take k ++ [x]).eraseIdx j = _
  split
  · rename_i e
    subst e
    rw [List.eraseIdx_append_of_length_le (by omega), hln, Nat.sub_self, List.eraseIdx_of_length_le (l := l.take k) (by omega)]
    simp
  · rename_i e
    rcases Nat.lt_or_ge j k with h | h
    · rw [List.eraseIdx_append_of_lt_length (by omega)]
    · rw [List.eraseIdx_append_of_length_le (by omega), hln, List.eraseIdx_of_length_le (l := l.take k) (by omega)]
      rw [List.eraseIdx_of_length_le (l := [x]) (by simp only [List.length_cons, List.length_nil]; omega)]
theorem erase_len {l : List Hd} {k j : Nat} : ((l.take k).eraseIdx j).length ≤ k := by
  have h1 := List.length_eraseIdx_le (l.take k) j
  have h2 := List.length_take_le k l
  omega

set_option maxRecDepth 100000 in
set_option maxHeartbeats 4000000 in
theorem rrel_no (h : IsRef base w R A1 c1 ps A2 c2 hr) (o : Int) (hn : plc (isO o) hr = -1) (hl : hr.length ≤ 140737488355328) :
    Calls Try.prog 29 #[.pointer (some ⟨R, 0, none⟩), .int .i64 o] w fun e w' => e = .returned (.int .i64 70) ∧ w = w' := by
  have G := rheldFor_any h o hl
  rw [hn] at G
  have HG := hid G
  clear G hn
  go_enter Try.func29, Try.ntmps29
  go_wp2_with fail
  refine HG.out.mono ?_
  rintro e w1 ⟨rfl, rfl⟩
  go_wp2_with fail
  go_ret
  exact ⟨rfl, rfl⟩

set_option maxRecDepth 100000 in
set_option maxHeartbeats 4000000 in
theorem rrel_yes (h : IsRef base w R A1 c1 ps A2 c2 hr) (o : Int) (j : Nat) (hj : plc (isO o) hr = j) (hjl : j < hr.length) (hl : hr.length * 24 + 24 ≤ 140737488355328) (hbw : base ≤ w.heap.size) :
    Calls Try.prog 29 #[.pointer (some ⟨R, 0, none⟩), .int .i64 o] w (HoldPost base R A1 A2 c1 ps (hr.eraseIdx j) w) := by
  have G := rheldFor_any h o (by omega)
  rw [hj] at G
  have HG := hid G
  clear G hj
  obtain ⟨i0, hi, hz0, hz1, hz2⟩ := info_parts info_rh
  go_enter Try.func29, Try.ntmps29
  go_wp2_with fail
  refine HG.out.mono ?_
  rintro e w1 ⟨rfl, rfl⟩
  go_wp2_with fail
  have H0 := hid h
  go_loopw [6, 7] (fun v i wr => ∃ k : Nat, k ≤ hr.length ∧ i = .int .i64 k ∧ wr.ownsRow w.heap.size 59 3 v ((hr.take k).eraseIdx j).length (((hr.take k).eraseIdx j).flatMap enH3) ∧ Below w.heap.size w wr) (fun _ i _ => hr.length - nOf i)
  case atStart => exact ⟨0, Nat.zero_le _, rfl, World.ownsRow_nil _ _ _ _, Below.refl _ _⟩
  case round =>
    have hRb := h.lt
    clear h HG
    obtain ⟨k, hk, rfl, hO, hb⟩ := hrel
    have h := H0.out.next hb
    have c0 := h.cell1
    have lR : R < wr.heap.size := h.blk.lt
    have hwz : w.heap.size ≤ wr.heap.size := hb.size
    by_cases hlt : k < hr.length
    · obtain ⟨y, hy⟩ : ∃ y, hr[k]? = some y := ⟨hr[k], List.getElem?_eq_getElem hlt⟩
      have hst := erase_step (j := j) hy
      by_cases hkj : k = j
      · subst hkj
        rw [if_pos rfl] at hst
        rw [← hst] at hO
        have HO := hid (And.intro hO hb)
        clear hO h hb hy hst
        go_wp2_with fail
        go_roundw
        case rel => exact ⟨k + 1, by omega, by go_num, HO.out.1, HO.out.2⟩
        case measure => simp [nOf]; omega
      · rw [if_neg hkj] at hst
        have HST := hid hst
        have hlen : ((hr.take k).eraseIdx j).length ≤ k := erase_len
        obtain ⟨m, hm⟩ : ∃ m, m = ((hr.take k).eraseIdx j).length := ⟨_, rfl⟩
        rw [← hm] at hO hlen
        have HM := hid hm
        have b1 : ((k : Int) == (j : Int)) = false := by simp; omega
        have b2 : ((k : Int) != (j : Int)) = true := by simp; omega
        obtain ⟨g, hA, _, hpr⟩ := h.elem2 hy
        rw [hA] at c0
        obtain ⟨yo, yc, ya⟩ := y
        have p0 : wr.cell? ⟨g, k * 3, none⟩ = some (.int .i64 yo) := hpr.2 0 _ rfl
        have p1 : wr.cell? ⟨g, k * 3 + 1, none⟩ = some (.int .i64 yc) := hpr.2 1 _ rfl
        have p2 : wr.cell? ⟨g, k * 3 + 2, none⟩ = some (.int .i64 ya) := hpr.2 2 _ rfl
        have HO := hid hO
        have hb3 := hid (hb.alloc hb.size (.cells #[.int .i64 yo, .int .i64 yc, .int .i64 ya] 59))
        have hk2 : m * 24 + 24 ≤ 140737488355328 := by omega
        clear hpr hy h hb hO hst hm hkj hA
        go_wp2_with (first
          | (at_builtin; refine wpList_push _ rfl _ _ 48 rfl w.heap.size 59 i0 _ 3 24 Try.underlying48 hi hz0 hz1 hz2 rfl (by decide) _ _ _ (by rfl) HO.out #[.int .i64 yo, .int .i64 yc, .int .i64 ya] wr.heap.size (by simp) (by rfl) (by rfl) (by rfl) (by unfold maxLen; omega) (by omega) hwz ?_; intro v' w3 hO4 hg4))
        have hb4 := hb3.out.grown hg4 (by simp; omega) (fun k hk => (HO.out.lt k hk).1)
        have hO5 : w3.ownsRow w.heap.size 59 3 v' ((hr.take (k + 1)).eraseIdx j).length (((hr.take (k + 1)).eraseIdx j).flatMap enH3) := by
          rw [HST.out, List.flatMap_append, List.length_append, ← HM.out]
          simpa [enH3] using hO4
        clear hO4 hg4 HO hb3
        go_roundw
        case rel => exact ⟨k + 1, by omega, by go_num, hO5, hb4⟩
        case measure => simp [nOf]; omega
    · have hk' : k = hr.length := by omega
      subst hk'
      rw [List.take_length] at hO
      obtain ⟨A', cap', rfl, _⟩ := own_slice hO
      have f0 : wr.frozen? ⟨R, 1, none⟩ = false := h.blk.free 1
      have HH := hid (And.intro hO (And.intro h hb))
      clear hO h hb hk hlt
      go_wp2_with fail
      go_ret
      obtain ⟨hO, h, hb⟩ := HH.out
      have hg : wr.grownBy (wr.setCell ⟨R, 1, none⟩ (.slice A' (hr.eraseIdx j).length cap')) (some R) := ⟨rfl, rfl, rfl, by simp, fun k _ hk => heap_setCell_other wr ⟨R, 1, none⟩ k _ (fun e => hk (by simp [e]))⟩
      have nR : ∀ {v : Value} {n : Nat} {xs : List Value} {b : Nat} {t : TypeId} {s : Nat}, R < b → wr.ownsRow b t s v n xs → v.ownBlock = none ∨ v.ownBlock ≠ some R := fun hlt hO => .inr (fun e => by have := (hO.lt R e).1; omega)
      refine ⟨A', cap', rfl, ⟨?_, h.own1.kept hg (nR hRb h.own1), ownsRow_base_a (hO.kept hg (nR (by omega) hO)) hbw, hRb⟩, (Touch.of_below hb).then ((Touch.setCell wr R 1 _).mono (fun k hk => .inl hk))⟩
      have := h.blk.set_ 1 (.slice A' (hr.eraseIdx j).length cap')
      simpa using this
end

end Go.Proofs.Ytpofhadeepgmbaa
