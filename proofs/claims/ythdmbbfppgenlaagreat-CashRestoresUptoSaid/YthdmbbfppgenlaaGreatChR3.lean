/-
  The document's book of money: apply.
-/
import Derived.Test.YthdmbbfppgenlaaGreatChR2
namespace Go.Proofs.YthdmbbfppgenlaaGreat
open Go.RowKit Go.WideShapes Go.ChangeShapes Go.ChangeAt Go.Deep
set_option linter.unusedVariables false

/-- What a call of the document leaves. -/
def PostR (base R : Nat) (A : Option Addr) (L : List Ca) (F : Int → Option Ca) (o : Int) (x : Option Ca) (d' : Int) (w w' : World) : Prop :=
  ∃ A' cap' L', IsRf base w' R A' cap' L' d' ∧ RelC (updC F o x) L' ∧ L'.length ≤ L.length + 1 ∧ Touch (RT w.heap.size R A) w w'
section
variable {base R cap : Nat} {A : Option Addr} {L : List Ca} {d : Int} {w w' w4 wr : World} {F : Int → Option Ca}
theorem IsRf.rt_lt (h : IsRf base w R A cap L d) {k : Nat} (hk : k = R ∨ A.map (·.block) = some k) : k < w.heap.size := by
  rcases hk with rfl | hk
  · exact h.blk.lt
  · exact (h.own.lt k (by cases A with | none => cases hk | some a => simpa [Value.ownBlock] using hk)).2
theorem IsRf.not_rt (h : IsRf base w R A cap L d) {n g : Nat} (hg : w.heap.size ≤ g) (hn : g < n) : ¬ RT n R A g := by
  rintro (e | e | e)
  · have := h.rt_lt (.inl e); omega
  · have := h.rt_lt (.inr e); omega
  · omega
theorem IsRf.turn {d' : Int} (h : IsRf base w R A cap L d) {S : Nat → Prop} (hT : Touch S w w') (hS : ∀ k, S k → k = R ∨ w.heap.size ≤ k) (hB : Blk w' R 95 #[.slice A L.length cap, .int .i64 d']) : IsRf base w' R A cap L d' :=
  ⟨hB, own_touch h.own hT (fun g hg hs => by
    have h1 := h.own.lt g hg
    have := h.lt
    rcases hS g hs with e | e <;> omega), h.lt⟩

set_option maxRecDepth 100000 in
set_option maxHeartbeats 16000000 in
theorem rapply_any (h : IsRf base w R A cap L d) (hF : RelC F L) (a : Ca) (hl : L.length * 72 + 72 ≤ 140737488355328) (hbw : base ≤ w.heap.size) (hs : SmallC a) (hs2 : SmallC (appA a)) (hdep : 0 ≤ a.dep ∧ a.dep ≤ 1152921504606846976) (hop : 0 ≤ openC a ∧ openC a ≤ 1125899906842624) (hd : 0 ≤ d ∧ d ≤ 2305843009213693952) :
    Calls Tryz.prog 91 #[.pointer (some ⟨R, 0, none⟩), .agg (celC a)] w fun e w' => e = .returned (.bool (paidC (appA a))) ∧ PostR base R A L F a.o (some (appA a)) (d + appN a) w w' := by
  have hN : 0 ≤ appN a ∧ appN a ≤ 1125899906842624 := by unfold appN; omega
  have hNe : appN a = if a.dep < openC a then a.dep else openC a := by unfold appN; split <;> omega
  obtain ⟨wz, hwz⟩ : ∃ wz, wz = w.alloc (.cells #[.int .i64 a.o, .int .i64 a.c, .int .i64 a.st, .int .i64 a.lv, .int .i64 a.net, .int .i64 a.tax, .int .i64 a.ap, .int .i64 a.wr, .int .i64 a.dep] 47) := ⟨_, rfl⟩
  obtain ⟨G0, hG0⟩ : ∃ G0, G0 = w.heap.size := ⟨_, rfl⟩
  have hz : IsRf base wz R A cap L d := by rw [hwz]; exact h.alloc _
  have hGz : Blk wz G0 47 #[.int .i64 a.o, .int .i64 a.c, .int .i64 a.st, .int .i64 a.lv, .int .i64 a.net, .int .i64 a.tax, .int .i64 a.ap, .int .i64 a.wr, .int .i64 a.dep] := by rw [hwz, hG0]; exact Blk.new _ _ _
  have hTz : Below w.heap.size w wz := by rw [hwz]; exact (Below.refl _ _).alloc (Nat.le_refl _) _
  have K := ropen_any a wz hs
  simp only [celC] at K
  replace K := hid K
  have HW := hid hwz
  have HG := hid hG0
  have hRG : G0 ≠ R := by have := h.blk.lt; omega
  have H := hid h
  have HZ := hid hz
  have HTZ := hid hTz
  have HGZ := hid hGz
  have HS := hid (And.intro hs (And.intro hs2 (And.intro hdep (And.intro hop (And.intro hd (And.intro hbw hF))))))
  have e0 : wz.cell? ⟨G0, 0, none⟩ = some (.int .i64 a.o) := hGz.cell 0
  have e1 : wz.cell? ⟨G0, 1, none⟩ = some (.int .i64 a.c) := hGz.cell 1
  have e2 : wz.cell? ⟨G0, 2, none⟩ = some (.int .i64 a.st) := hGz.cell 2
  have e3 : wz.cell? ⟨G0, 3, none⟩ = some (.int .i64 a.lv) := hGz.cell 3
  have e4 : wz.cell? ⟨G0, 4, none⟩ = some (.int .i64 a.net) := hGz.cell 4
  have e5 : wz.cell? ⟨G0, 5, none⟩ = some (.int .i64 a.tax) := hGz.cell 5
  have e6 : wz.cell? ⟨G0, 6, none⟩ = some (.int .i64 a.ap) := hGz.cell 6
  have e7 : wz.cell? ⟨G0, 7, none⟩ = some (.int .i64 a.wr) := hGz.cell 7
  have e8 : wz.cell? ⟨G0, 8, none⟩ = some (.int .i64 a.dep) := hGz.cell 8
  have lG : G0 < wz.heap.size := hGz.lt
  obtain ⟨z, hz0⟩ : ∃ z, z = openC a := ⟨_, rfl⟩
  obtain ⟨n, hn0⟩ : ∃ n, n = appN a := ⟨_, rfl⟩
  rw [← hz0] at K hNe
  rw [← hn0] at hNe hN
  have HN := hid (And.intro hn0 hN)
  have wd : IntKind.i64.wrap (a.dep - n) = a.dep - n := IntWalk.i64_in _ ⟨by omega, by omega⟩
  have wa : IntKind.i64.wrap (a.ap + n) = a.ap + n := IntWalk.i64_in _ ⟨by have := hs.p; omega, by have := hs.p; omega⟩
  have wt' : IntKind.i64.wrap (d + n) = d + n := IntWalk.i64_in _ ⟨by omega, by omega⟩
  simp only [celC]
  clear hwz hG0 h hz hGz hTz hs hs2 hdep hop hd hbw hF hz0 hn0 hN
  go_enter Tryz.func91, Tryz.ntmps91
  go_wp2_with fail
  rw [← HW.out, ← HG.out]
  refine K.out.mono ?_
  rintro e w1 ⟨rfl, hb1⟩
  have hG1 := HGZ.out.next hb1
  have h1 := HZ.out.next hb1
  clear e0 e1 e2 e3 e4 e5 e6 e7 e8 lG K
  have e0 : w1.cell? ⟨G0, 0, none⟩ = some (.int .i64 a.o) := hG1.cell 0
  have e1 : w1.cell? ⟨G0, 1, none⟩ = some (.int .i64 a.c) := hG1.cell 1
  have e2 : w1.cell? ⟨G0, 2, none⟩ = some (.int .i64 a.st) := hG1.cell 2
  have e3 : w1.cell? ⟨G0, 3, none⟩ = some (.int .i64 a.lv) := hG1.cell 3
  have e4 : w1.cell? ⟨G0, 4, none⟩ = some (.int .i64 a.net) := hG1.cell 4
  have e5 : w1.cell? ⟨G0, 5, none⟩ = some (.int .i64 a.tax) := hG1.cell 5
  have e6 : w1.cell? ⟨G0, 6, none⟩ = some (.int .i64 a.ap) := hG1.cell 6
  have e7 : w1.cell? ⟨G0, 7, none⟩ = some (.int .i64 a.wr) := hG1.cell 7
  have e8 : w1.cell? ⟨G0, 8, none⟩ = some (.int .i64 a.dep) := hG1.cell 8
  have lG := hG1.lt
  have H1 := hid (And.intro h1 (And.intro hG1 (bthen HTZ.out hb1)))
  have f8 := hG1.free 8
  have f6 := hG1.free 6
  have c1 : w1.cell? ⟨R, 1, none⟩ = some (.int .i64 d) := h1.blk.cell 1
  have fR := h1.blk.free 1
  have lR := h1.blk.lt
  clear h1 hG1 hb1
  go_upto_if 12 with fail
  go_cut [5] (fun v wx => v = .int .i64 n ∧ wx = w1)
  case first =>
    clear wd wa wt'
    by_cases hc : a.dep < z
    · have t1 : decide (a.dep < z) = true := decide_eq_true hc
      rw [if_pos hc] at hNe
      go_wp2_with fail
      go_meet
      exact ⟨by rw [hNe], rfl⟩
    · have t1 : decide (a.dep < z) = false := decide_eq_false hc
      rw [if_neg hc] at hNe
      go_wp2_with fail
      go_meet
      exact ⟨by rw [hNe], rfl⟩
  case rest =>
    obtain ⟨rfl, hwx⟩ := hcut
    rw [hwx]
    clear hwx hNe
    go_wp2_with fail
    have hT3 := ((Touch.setCell w1 G0 8 (.int .i64 (a.dep - n))).mono (fun k hk => (.inl hk : k = G0 ∨ k = R))).then (((Touch.setCell _ G0 6 (.int .i64 (a.ap + n))).mono (fun k hk => (.inl hk : k = G0 ∨ k = R))).then ((Touch.setCell _ R 1 (.int .i64 (d + n))).mono (fun k hk => (.inr hk : k = G0 ∨ k = R))))
    have hG3 : Blk (((w1.setCell ⟨G0, 8, none⟩ (.int .i64 (a.dep - n))).setCell ⟨G0, 6, none⟩ (.int .i64 (a.ap + n))).setCell ⟨R, 1, none⟩ (.int .i64 (d + n))) G0 47 (celC (appA a)) := by
      have e : celC (appA a) = ((#[.int .i64 a.o, .int .i64 a.c, .int .i64 a.st, .int .i64 a.lv, .int .i64 a.net, .int .i64 a.tax, .int .i64 a.ap, .int .i64 a.wr, .int .i64 a.dep] : Array Value).setIfInBounds 8 (.int .i64 (a.dep - n))).setIfInBounds 6 (.int .i64 (a.ap + n)) := by rw [HN.out.1]; rfl
      rw [e]
      exact ((H1.out.2.1.set_ 8 _).set_ 6 _).far hRG _
    have hR3 : Blk (((w1.setCell ⟨G0, 8, none⟩ (.int .i64 (a.dep - n))).setCell ⟨G0, 6, none⟩ (.int .i64 (a.ap + n))).setCell ⟨R, 1, none⟩ (.int .i64 (d + n))) R 95 #[.slice A L.length cap, .int .i64 (d + n)] :=
      (((H1.out.1.blk.far hRG.symm _).far hRG.symm _).set_ 1 _)
    have hT0 : Touch (· = R) w (((w1.setCell ⟨G0, 8, none⟩ (.int .i64 (a.dep - n))).setCell ⟨G0, 6, none⟩ (.int .i64 (a.ap + n))).setCell ⟨R, 1, none⟩ (.int .i64 (d + n))) := (Touch.of_below H1.out.2.2).trans hT3 (fun k hk => by
      rcases hk with e | e
      · exact .inr (by rw [e, HG.out]; exact Nat.le_refl _)
      · exact .inl e)
    have h3 := H.out.turn hT0 (fun k hk => .inl hk) hR3
    have H3 := hid (And.intro h3 (And.intro hG3 hT0))
    obtain ⟨b, hb0⟩ : ∃ b, b = appA a := ⟨_, rfl⟩
    have ebc : (#[.int .i64 a.o, .int .i64 a.c, .int .i64 a.st, .int .i64 a.lv, .int .i64 a.net, .int .i64 a.tax, .int .i64 (a.ap + n), .int .i64 a.wr, .int .i64 (a.dep - n)] : Array Value) = #[.int .i64 b.o, .int .i64 b.c, .int .i64 b.st, .int .i64 b.lv, .int .i64 b.net, .int .i64 b.tax, .int .i64 b.ap, .int .i64 b.wr, .int .i64 b.dep] := by rw [hb0]; unfold appA; rw [← HN.out.1]
    rw [ebc]
    rw [← hb0] at hG3
    have HBB := hid hb0
    have hs3 := h3.own
    have K := hid (rput_any h3 HS.out.2.2.2.2.2.2.sorted b hl (Nat.le_trans HS.out.2.2.2.2.2.1 hT0.size))
    simp only [celC] at K
    clear e0 e1 e2 e3 e4 e5 e6 e7 e8 f8 f6 c1 fR lR lG wd wa wt' hT3 hR3 hT0 h3 hs3 ebc hb0 hG3
    generalize ((w1.setCell ⟨G0, 8, none⟩ (.int .i64 (a.dep - n))).setCell ⟨G0, 6, none⟩ (.int .i64 (a.ap + n))).setCell ⟨R, 1, none⟩ (.int .i64 (d + n)) = w3 at H3 K ⊢
    refine K.out.mono ?_
    rintro e w5 ⟨A', cap', L', rfl, h5, hu, hi, hT5⟩
    have hG5 := hT5.blk H3.out.2.1 (H.out.not_rt (by rw [HG.out]; exact Nat.le_refl _) H3.out.2.1.lt)
    rw [← HBB.out] at hG5
    have hRel := HS.out.2.2.2.2.2.2.put hu hi
    have hlen : L'.length ≤ L.length + 1 := by
      by_cases hm : b.o ∈ L.map Ca.o
      · rw [hu hm, updK_length]; omega
      · rw [hi hm, insK_length]; omega
    have HF := hid (And.intro h5 (And.intro hRel (And.intro hlen (H3.out.2.2.mono (fun k hk => (.inl hk : RT w.heap.size R A k)) |>.then (hT5.mono (fun k hk => by
      rcases hk with e | e | e
      · exact .inl e
      · exact .inr (.inl e)
      · exact .inr (.inr (Nat.le_trans H3.out.2.2.size e))))))))
    have hsb := HS.out.2.1
    rw [← HBB.out] at hsb
    have KO := ropen_any b w5 hsb
    simp only [celC] at KO
    replace KO := hid KO
    have e0 : w5.cell? ⟨G0, 0, none⟩ = some (.int .i64 b.o) := hG5.cell 0
    have e1 : w5.cell? ⟨G0, 1, none⟩ = some (.int .i64 b.c) := hG5.cell 1
    have e2 : w5.cell? ⟨G0, 2, none⟩ = some (.int .i64 b.st) := hG5.cell 2
    have e3 : w5.cell? ⟨G0, 3, none⟩ = some (.int .i64 b.lv) := hG5.cell 3
    have e4 : w5.cell? ⟨G0, 4, none⟩ = some (.int .i64 b.net) := hG5.cell 4
    have e5 : w5.cell? ⟨G0, 5, none⟩ = some (.int .i64 b.tax) := hG5.cell 5
    have e6 : w5.cell? ⟨G0, 6, none⟩ = some (.int .i64 b.ap) := hG5.cell 6
    have e7 : w5.cell? ⟨G0, 7, none⟩ = some (.int .i64 b.wr) := hG5.cell 7
    have e8 : w5.cell? ⟨G0, 8, none⟩ = some (.int .i64 b.dep) := hG5.cell 8
    have lG := hG5.lt
    clear K H3 h5 hu hi hT5 hG5 hRel hlen
    go_wp2_with fail
    refine KO.out.mono ?_
    rintro e w6 ⟨rfl, hb6⟩
    have e2 : w6.cell? ⟨G0, 2, none⟩ = some (.int .i64 b.st) := (hb6.cell (p := ⟨G0, 2, none⟩) lG).trans e2
    have lG6 : G0 < w6.heap.size := Nat.lt_of_lt_of_le lG hb6.size
    have HZ6 := hid (show PostR base R A L F b.o (some b) (d + n) w w6 from ⟨A', cap', L', HF.out.1.next hb6, HF.out.2.1, HF.out.2.2.1, HF.out.2.2.2.then (.of_below hb6)⟩)
    clear KO e0 e1 e3 e4 e5 e6 e7 e8 lG HF hb6
    have hbo : b.o = a.o := by rw [HBB.out]; rfl
    have HBO := hid hbo
    clear hbo
    by_cases hst : b.st = 1
    · have t1 : (b.st == 1) = true := by simpa using hst
      have hp : paidC b = (openC b == 0) := by unfold paidC; rw [decide_eq_true hst, Bool.true_and]; by_cases e : openC b = 0 <;> simp [e]
      have HP := hid hp
      obtain ⟨z2, hz2⟩ : ∃ z2, z2 = openC b := ⟨_, rfl⟩
      rw [← hz2] at HP ⊢
      clear hst hp hz2
      go_wp2_with fail
      go_ret
      rw [← HBO.out, ← HBB.out, HP.out, ← HN.out.1]
      exact ⟨by simp, HZ6.out⟩
    · have t1 : (b.st == 1) = false := by simpa using hst
      have hp : paidC b = false := by unfold paidC; rw [decide_eq_false hst]; rfl
      have HP := hid hp
      clear hst hp
      go_wp2_with fail
      go_ret
      rw [← HBO.out, ← HBB.out, HP.out, ← HN.out.1]
      exact ⟨by simp, HZ6.out⟩
end

end Go.Proofs.YthdmbbfppgenlaaGreat
