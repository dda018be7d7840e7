/-
  Layer 14: the laws' word 'state'.
-/
import Derived.Test.YtpofhadeepgmbaaParties14
import Derived.Test.YtpofhadeepgmbaaHolds14
import Derived.Test.YtpofhadeepgmbaaHold14R
namespace Go.Proofs.Ytpofhadeepgmbaa
open Go.RowKit Go.WideShapes Go.ChangeShapes Go.ChangeAt Go.Deep
set_option linter.unusedVariables false

theorem holds_eq {ac : List (Int × Acc)} {hs : List (Int × Hd)} {ps : List Pa} {hr l : List Hd} (hM : RelB ac hs ps hr) (hp : l.Perm (hs.map (·.2))) (hs' : l.Pairwise (fun a b => ltH b a = false)) : l = hr := by
  refine hM.hd.unique' linI (by rw [hM.toHd_map]; exact hp) (hs'.imp ?_)
  intro a b h
  have := ltH_no h
  simp only [ltI, decide_eq_false_iff_not]
  exact this

set_option maxRecDepth 100000 in
set_option maxHeartbeats 8000000 in
theorem state_any {n0 base R c1 c2 X BA BH : Nat} {A1 A2 : Option Addr} {ps : List Pa} {hr : List Hd} {w : World} {ac : List (Int × Acc)} {hs : List (Int × Hd)}
    (h : IsBook n0 w X BA BH ac hs) (hF : IsRef base w R A1 c1 ps A2 c2 hr) (hM : RelB ac hs ps hr) (hl : hs.length * 24 ≤ 140737488351232) :
    Calls Try.prog 17 #[.pointer (some ⟨X, 0, none⟩), .pointer (some ⟨R, 0, none⟩)] w fun e w' => e = .returned (.bool true) ∧ Below w.heap.size w w' := by
  have hfew := hM.few
  have hlen1 : ps.length ≤ 64 := by rw [hM.pa.len]; exact hfew
  have hlen2 : hr.length = hs.length := hM.hd.len
  have P := hid (parties_any h hM)
  have HB := hid (fun w1 (hb : Below w.heap.size w w1) => holds_any (h.next hb) hl)
  have HM := hid hM
  have H0 := hid (And.intro h hF)
  clear h hF hM hfew
  go_enter Try.func17, Try.ntmps17
  go_wp2_with fail
  refine P.out.mono ?_
  rintro e w1 ⟨A3, c3, rfl, hO1, hb1⟩
  go_wp2_with fail
  refine (HB.out _ hb1).mono ?_
  rintro e w2 ⟨A4, c4, l, rfl, hp, hso, hO2, hb2⟩
  obtain rfl := holds_eq HM.out hp hso
  clear P HB hp hso
  have hb := bthen hb1 hb2
  have h := H0.out.1.next hb
  have hF := H0.out.2.next hb
  have hR1 := (own_rd hO1).below hb2
  have hR2 := own_rd hO2
  clear H0 hO1 hO2 hb1 hb2
  have c0 : w2.cell? ⟨R, 0, none⟩ = some (.slice A1 ps.length c1) := hF.cell0
  have c1 : w2.cell? ⟨R, 1, none⟩ = some (.slice A2 l.length c2) := hF.cell1
  have s1 : (ps.length != ps.length) = false := by simp
  have s2 : (l.length != l.length) = false := by simp
  go_wp2_with fail
  clear c0 c1
  have H2 := hid (And.intro h (And.intro hF (And.intro hR1 (And.intro hR2 hb))))
  clear h hF hR1 hR2 hb
  go_loopw [36] (fun i wr => ∃ k : Nat, k ≤ ps.length ∧ i = .int .i64 k ∧ Below w2.heap.size w2 wr) (fun i _ => ps.length - nOf i)
  case atStart => exact ⟨0, Nat.zero_le _, rfl, Below.refl _ _⟩
  case round =>
    obtain ⟨k, hk, rfl, hb⟩ := hrel
    by_cases hlt : k < ps.length
    · obtain ⟨y, hy⟩ : ∃ y, ps[k]? = some y := ⟨ps[k], List.getElem?_eq_getElem hlt⟩
      obtain ⟨h, hF, hR1, _, _⟩ := H2.out
      replace h := h.next hb
      obtain ⟨a, ha, hya⟩ := HM.out.pa.mem (List.mem_of_getElem? hy)
      have hyl : y.l = a.l := by rw [hya]; rfl
      have hsum : sumC l y.i = a.e := by rw [HM.out.sum]; exact (HM.out.exp _ a ha).1.symm
      have hbe := HM.out.bd ha
      have E := exposure_any h y.i
      unfold expF at E
      rw [ha] at E
      simp only at E
      have E2 := fun w h => rexposure_any (w := w) (base := base) (R := R) (c1 := c1) (c2 := c2) (A1 := A1) (A2 := A2) (ps := ps) (hr := l) h y.i (by omega) (fun d hd => (HM.out.amtR d hd).1) (by rw [hsum]; exact hbe.2)
      rw [hsum] at E2
      obtain ⟨g, rfl, _, _⟩ := hF.elem1 hy
      obtain ⟨yi, yl⟩ := y
      obtain ⟨ag, al, ae⟩ := a
      simp only at hyl E E2 hbe
      subst hyl
      have HF := hid (fun w' (hb : Below w2.heap.size w2 w') => hF.next hb)
      have HC := hid (fun w' (hb : Below w2.heap.size w2 w') => (And.intro (hF.next hb).cell0 (And.intro ((hF.next hb).elem1 hy) (And.intro ((hR1.below hb).at_ 2 enP_len (by omega) hy) trivial))))
      clear h hF hR1 hsum ha hya hy hbe
      replace E := hid E
      replace E2 := hid E2
      obtain ⟨b, off, rfl, hcc⟩ : ∃ b off, A3 = some ⟨b, off, none⟩ ∧ ∀ w', Below w2.heap.size w2 w' → w'.cell? ⟨b, off + k * 2, none⟩ = some (.int .i64 yi) ∧ w'.cell? ⟨b, off + k * 2 + 1, none⟩ = some (.int .i64 yl) := by
        obtain ⟨_, _, ⟨b, off, hA, _, _⟩, _⟩ := HC.out _ hb
        refine ⟨b, off, hA, fun w' hb' => ?_⟩
        obtain ⟨_, _, ⟨b', off', hA', _, hc⟩, _⟩ := HC.out _ hb'
        rw [hA] at hA'
        injection hA' with hA'
        injection hA' with h1 h2
        subst h1 h2
        exact ⟨hc 0 _ rfl, hc 1 _ rfl⟩
      have hcr : ∀ w', Below w2.heap.size w2 w' → w'.cell? ⟨R, 0, none⟩ = some (.slice (some ⟨g, 0, none⟩) ps.length c1) ∧ w'.cell? ⟨g, k * 2, none⟩ = some (.int .i64 yi) ∧ w'.cell? ⟨g, k * 2 + 1, none⟩ = some (.int .i64 yl) := fun w' hb' => by
        obtain ⟨h1, ⟨g', hA, _, h2⟩, _, _⟩ := HC.out _ hb'
        injection hA with hA
        injection hA with hA
        subst hA
        exact ⟨h1, h2.2 0 _ rfl, h2.2 1 _ rfl⟩
      have HCC := hid hcc
      have HCR := hid hcr
      have q0 := (hcc _ hb).1
      clear hcc hcr HC
      go_wp2_with fail
      refine E.out.mono ?_
      rintro e w3 ⟨rfl, hb3⟩
      replace hb := bthen hb hb3
      clear hb3 q0 E
      go_wp2_with fail
      obtain ⟨C, hCd⟩ : ∃ C : World → Prop, ∀ w', C w' ↔ Below w2.heap.size w2 w' := ⟨_, fun _ => Iff.rfl⟩
      have hC : C w3.drew := (hCd _).2 hb.drew
      have c0 : ∀ p : In C, p.w.cell? ⟨R, 0, none⟩ = some (.slice (some ⟨g, 0, none⟩) ps.length c1) := fun p => (HCR.out _ ((hCd _).1 p.h)).1
      have p0 : ∀ p : In C, p.w.cell? ⟨g, k * 2, none⟩ = some (.int .i64 yi) := fun p => (HCR.out _ ((hCd _).1 p.h)).2.1
      have p1 : ∀ p : In C, p.w.cell? ⟨g, k * 2 + 1, none⟩ = some (.int .i64 yl) := fun p => (HCR.out _ ((hCd _).1 p.h)).2.2
      have q0 : ∀ p : In C, p.w.cell? ⟨b, off + k * 2, none⟩ = some (.int .i64 yi) := fun p => (HCC.out _ ((hCd _).1 p.h)).1
      have q1 : ∀ p : In C, p.w.cell? ⟨b, off + k * 2 + 1, none⟩ = some (.int .i64 yl) := fun p => (HCC.out _ ((hCd _).1 p.h)).2
      have O : Hid (∀ p : In C, Calls Try.prog 31 #[.pointer (some ⟨R, 0, none⟩), .int .i64 yi] p.w fun e w' => e = .returned (.int .i64 ae) ∧ C w') :=
        hid (fun p => (E2.out _ (HF.out _ ((hCd _).1 p.h))).mono fun _ _ ⟨e1, e2⟩ => ⟨e1, by rw [← e2]; exact p.h⟩)
      have t1 : (yi != yi) = false := by simp
      have t2 : (yl != yl) = false := by simp
      have t3 : (ae != ae) = false := by simp
      have HCd := hid hCd
      clear hCd E2 HF hb
      refine wp_region_in C (by kernel_rfl) (by kernel_rfl) hC ?_
      intro hne
      clear hC
      repeat (first | go_big_quiet_step ((go_at_call 31; exact Calls.in_of (O.out _))) | quiet_step ((go_at_call 31; exact Calls.in_of (O.out _))))
      refine wpQuiet_nil ?_
      intro wq hq
      have hb := (HCd.out _).1 hq
      clear c0 p0 p1 q0 q1 O hne hq HCd HCC HCR t1 t2 t3
      go_wp2_with fail
      go_roundw
      case rel => exact ⟨k + 1, by omega, by go_num, hb⟩
      case measure => simp [nOf]; omega
    · clear hk
      go_wp2_with fail
      go_loopw [107] (fun i wr => ∃ k : Nat, k ≤ l.length ∧ i = .int .i64 k ∧ Below w2.heap.size w2 wr) (fun i _ => l.length - nOf i)
      case atStart => exact ⟨0, Nat.zero_le _, rfl, hb⟩
      case round =>
        clear hb
        obtain ⟨k, hk, rfl, hb⟩ := hrel
        by_cases hlt : k < l.length
        · obtain ⟨y, hy⟩ : ∃ y, l[k]? = some y := ⟨l[k], List.getElem?_eq_getElem hlt⟩
          obtain ⟨_, hF, _, hR2, _⟩ := H2.out
          replace hF := hF.next hb
          obtain ⟨g, rfl, _, hpr⟩ := hF.elem2 hy
          obtain ⟨b, off, rfl, _, hcc⟩ := (hR2.below hb).at_ 3 enH3_len (by omega) hy
          obtain ⟨yo, yc, ya⟩ := y
          have c0 : wr.cell? ⟨R, 1, none⟩ = some (.slice (some ⟨g, 0, none⟩) l.length c2) := hF.cell1
          have p0 : wr.cell? ⟨g, k * 3, none⟩ = some (.int .i64 yo) := hpr.2 0 _ rfl
          have p1 : wr.cell? ⟨g, k * 3 + 1, none⟩ = some (.int .i64 yc) := hpr.2 1 _ rfl
          have p2 : wr.cell? ⟨g, k * 3 + 2, none⟩ = some (.int .i64 ya) := hpr.2 2 _ rfl
          have q0 : wr.cell? ⟨b, off + k * 3, none⟩ = some (.int .i64 yo) := hcc 0 _ rfl
          have q1 : wr.cell? ⟨b, off + k * 3 + 1, none⟩ = some (.int .i64 yc) := hcc 1 _ rfl
          have q2 : wr.cell? ⟨b, off + k * 3 + 2, none⟩ = some (.int .i64 ya) := hcc 2 _ rfl
          have t1 : (yo != yo) = false := by simp
          have t2 : (yc != yc) = false := by simp
          have t3 : (ya != ya) = false := by simp
          have HBB := hid hb
          clear hy hF hR2 hpr hcc hb
          go_wp2_with fail
          go_quiet (fail)
          have hb := below_drewN HBB.out nq
          clear c0 p0 p1 p2 q0 q1 q2
          go_wp2_with fail
          go_roundw
          case rel => exact ⟨k + 1, by omega, by go_num, hb⟩
          case measure => simp [nOf]; omega
        · clear hk
          go_wp2_with fail
          go_ret
          exact ⟨rfl, bthen H2.out.2.2.2.2 hb⟩

end Go.Proofs.Ytpofhadeepgmbaa
