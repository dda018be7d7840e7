/-
  The book of money: apply, Invoice, Receive.
-/
import Derived.Test.YthdmbbfppgenlaaGreatChB
namespace Go.Proofs.YthdmbbfppgenlaaGreat
open Go.RowKit Go.WideShapes Go.ChangeShapes Go.ChangeAt Go.Deep
set_option linter.unusedVariables false

theorem wr64 {n : Int} (h : -9223372036854775808 ≤ n ∧ n ≤ 9223372036854775807) : wrap64 n = n := by unfold wrap64; omega
def moveE (ta fr n : Int) : List En := [⟨ta, n⟩, ⟨fr, -n⟩]
def invE (n t : Int) : List En := [⟨1, n + t⟩, ⟨2, -n⟩, ⟨3, -t⟩]
def memE (n t a r : Int) : List En := [⟨2, n⟩, ⟨3, t⟩, ⟨1, a + r - n - t⟩, ⟨4, -a⟩, ⟨5, -r⟩]
theorem moveL_eq {ta fr n : Int} (h : 0 ≤ n ∧ n ≤ 1152921504606846976) : moveL ta fr n = moveE ta fr n := by unfold moveL moveE; rw [wr64 ⟨by omega, by omega⟩]
theorem invoiceL_eq {n t : Int} (h : 0 ≤ n ∧ n ≤ 1152921504606846976) (h2 : 0 ≤ t ∧ t ≤ 1152921504606846976) : invoiceL n t = invE n t := by unfold invoiceL invE; rw [wr64 (n := n + t) ⟨by omega, by omega⟩, wr64 (n := -n) ⟨by omega, by omega⟩, wr64 (n := -t) ⟨by omega, by omega⟩]
theorem memoL_eq {n t a r : Int} (h : 0 ≤ n ∧ n ≤ 1152921504606846976) (h2 : 0 ≤ t ∧ t ≤ 1152921504606846976) (h3 : 0 ≤ a ∧ a ≤ 1152921504606846976) (h4 : 0 ≤ r ∧ r ≤ 1152921504606846976) : memoL n t a r = memE n t a r := by
  unfold memoL memE
  rw [wr64 (n := a + r) ⟨by omega, by omega⟩, wr64 (n := a + r - n) ⟨by omega, by omega⟩, wr64 (n := a + r - n - t) ⟨by omega, by omega⟩, wr64 (n := -a) ⟨by omega, by omega⟩, wr64 (n := -r) ⟨by omega, by omega⟩]
theorem moveE_debs {ta fr n : Int} (h : 0 ≤ n) : debs (moveE ta fr n) = n := by simp [moveE, debs, pos]; split <;> split <;> omega
theorem invE_debs {n t : Int} (h : 0 ≤ n) (h2 : 0 ≤ t) : debs (invE n t) = n + t := by simp [invE, debs, pos]; split <;> split <;> split <;> omega
theorem memE_debs {n t a r : Int} (h : 0 ≤ n) (h2 : 0 ≤ t) (h3 : 0 ≤ a) (h4 : 0 ≤ r) (h5 : a + r ≤ n + t) : debs (memE n t a r) = n + t := by
  simp [memE, debs, pos]
  split <;> split <;> split <;> split <;> split <;> omega
theorem moveE_ok {c d ta fr n : Int} (hc : 1 ≤ c ∧ c ≤ 64) (h : 0 ≤ n ∧ n ≤ 1125899906842624) (ht : 0 ≤ ta ∧ ta < 6) (hf : 0 ≤ fr ∧ fr < 6) (hd : d + n ≤ 1152921504606846976) : PostOk c d (moveE ta fr n) :=
  ⟨hc, by simp [moveE], fun x hx => by simp [moveE] at hx; rcases hx with rfl | rfl <;> simp <;> omega, by simp [moveE, sumE]; omega, by rw [moveE_debs h.1]; exact hd⟩
theorem invE_ok {c d n t : Int} (hc : 1 ≤ c ∧ c ≤ 64) (h : 0 ≤ n ∧ n ≤ 281474976710656) (h2 : 0 ≤ t ∧ t ≤ 281474976710656) (hd : d + (n + t) ≤ 1152921504606846976) : PostOk c d (invE n t) :=
  ⟨hc, by simp [invE], fun x hx => by simp [invE] at hx; rcases hx with rfl | rfl | rfl <;> simp <;> omega, by simp [invE, sumE]; omega, by rw [invE_debs h.1 h2.1]; exact hd⟩
theorem memE_ok {c d n t a r : Int} (hc : 1 ≤ c ∧ c ≤ 64) (h : 0 ≤ n ∧ n ≤ 281474976710656) (h2 : 0 ≤ t ∧ t ≤ 281474976710656) (h3 : 0 ≤ a) (h4 : 0 ≤ r) (h5 : a + r ≤ n + t) (hd : d + (n + t) ≤ 1152921504606846976) : PostOk c d (memE n t a r) :=
  ⟨hc, by simp [memE], fun x hx => by simp [memE] at hx; rcases hx with rfl | rfl | rfl | rfl | rfl <;> simp <;> omega, by simp [memE, sumE]; omega, by rw [memE_debs h.1 h2.1 h3 h4 h5]; exact hd⟩

def appN (a : Ca) : Int := min a.dep (openC a)
def appA (a : Ca) : Ca := { a with dep := a.dep - appN a, ap := a.ap + appN a }

section
variable {n0 : Nat} {w w' : World} {X XL BL BA : Nat} {ac : List (Int × CP)} {f f' : Fn} {d d' : Int}
theorem IsCash.not_xb (h : IsCash n0 w X XL BL BA ac f d) {b : Nat} (hb : w.heap.size ≤ b) : ¬ XB XL BL b := by
  have h1 := h.led.blk.lt
  have h2 : BL < w.heap.size := by obtain ⟨m, h2, _⟩ := h.led.map; exact h2.lt
  rintro (rfl | rfl) <;> omega
theorem Ch.own_mset {p : CP} {a' : Ca} {o : Int} (hp : mget ac o = some p) {k : Nat} : Ch.Own XL BL BA (mset ac o ⟨p.g, a'⟩) k → Ch.Own XL BL BA ac k := by
  rintro (h | h | h | ⟨q, hq, h⟩)
  · exact .inl h
  · exact .inr (.inl h)
  · exact .inr (.inr (.inl h))
  · rcases mem_mset hq with rfl | ⟨hq', _⟩
    · exact .inr (.inr (.inr ⟨_, mget_mem hp, h⟩))
    · exact .inr (.inr (.inr ⟨q, hq', h⟩))

theorem Ch.xb_own {k : Nat} (h : XB XL BL k) : Ch.Own XL BL BA ac k := by
  rcases h with e | e
  · exact .inl e
  · exact .inr (.inl e)

set_option maxRecDepth 100000 in
set_option maxHeartbeats 8000000 in
theorem capply_any (h : IsCash n0 w X XL BL BA ac f d) (o : Int) (p : CP) (hp : mget ac o = some p) (hc : 1 ≤ p.a.c ∧ p.a.c ≤ 64) (hs : SmallC p.a) (hs2 : SmallC (appA p.a)) (hdep : 0 ≤ p.a.dep ∧ p.a.dep ≤ 1152921504606846976) (hop : 0 ≤ openC p.a ∧ openC p.a ≤ 1125899906842624) (hd : d + appN p.a ≤ 1152921504606846976) :
    Calls Tryz.prog 27 #[.pointer (some ⟨X, 0, none⟩), .pointer (some ⟨p.g, 0, none⟩)] w fun e w' => e = .returned (.bool (paidC (appA p.a))) ∧ IsCash n0 w' X XL BL BA (mset ac o ⟨p.g, appA p.a⟩) (addF f p.a.c (moveE 4 1 (appN p.a))) (d + appN p.a) ∧ Touch (Ch.Own XL BL BA ac) w w' := by
  have hg := h.at_ hp
  obtain ⟨C, hCd⟩ : ∃ C : World → Prop, ∀ w', C w' ↔ Below w.heap.size w w' := ⟨_, fun _ => Iff.rfl⟩
  have hC : C w.drew := (hCd _).2 ((Below.refl _ _).drew)
  have K : ∀ q : In C, Calls Tryz.prog 31 #[.agg (celC p.a)] q.w fun e w' => e = .returned (.int .i64 (openC p.a)) ∧ C w' := fun q => (open_any p.a q.w hs).mono fun e w' ⟨h1, h2⟩ => ⟨h1, (hCd _).2 (bthen ((hCd _).1 q.h) h2)⟩
  have c0 : ∀ q : In C, q.w.cell? ⟨p.g, 0, none⟩ = some (.int .i64 p.a.o) := fun q => (hg.next ((hCd _).1 q.h)).cell 0
  have c1 : ∀ q : In C, q.w.cell? ⟨p.g, 1, none⟩ = some (.int .i64 p.a.c) := fun q => (hg.next ((hCd _).1 q.h)).cell 1
  have c2 : ∀ q : In C, q.w.cell? ⟨p.g, 2, none⟩ = some (.int .i64 p.a.st) := fun q => (hg.next ((hCd _).1 q.h)).cell 2
  have c3 : ∀ q : In C, q.w.cell? ⟨p.g, 3, none⟩ = some (.int .i64 p.a.lv) := fun q => (hg.next ((hCd _).1 q.h)).cell 3
  have c4 : ∀ q : In C, q.w.cell? ⟨p.g, 4, none⟩ = some (.int .i64 p.a.net) := fun q => (hg.next ((hCd _).1 q.h)).cell 4
  have c5 : ∀ q : In C, q.w.cell? ⟨p.g, 5, none⟩ = some (.int .i64 p.a.tax) := fun q => (hg.next ((hCd _).1 q.h)).cell 5
  have c6 : ∀ q : In C, q.w.cell? ⟨p.g, 6, none⟩ = some (.int .i64 p.a.ap) := fun q => (hg.next ((hCd _).1 q.h)).cell 6
  have c7 : ∀ q : In C, q.w.cell? ⟨p.g, 7, none⟩ = some (.int .i64 p.a.wr) := fun q => (hg.next ((hCd _).1 q.h)).cell 7
  have c8 : ∀ q : In C, q.w.cell? ⟨p.g, 8, none⟩ = some (.int .i64 p.a.dep) := fun q => (hg.next ((hCd _).1 q.h)).cell 8
  have hn1 : 0 ≤ appN p.a ∧ appN p.a ≤ 1125899906842624 ∧ appN p.a ≤ p.a.dep := by unfold appN; omega
  have hmin : appN p.a = if openC p.a < p.a.dep then openC p.a else p.a.dep := by unfold appN; split <;> omega
  have HN := hid hn1
  have HM := hid hmin
  have HCd := hid hCd
  have H := hid h
  have HS := hid (And.intro hs2 (And.intro hdep (And.intro hop (And.intro hd (And.intro hc hs)))))
  clear h hCd hg hn1 hmin hs2 hdep hop hd hc hs
  go_enter Tryz.func27, Tryz.ntmps27
  go_wp2_with fail
  refine wp_region_in C (by kernel_rfl) (by kernel_rfl) hC ?_
  intro hne
  clear hC
  simp only [celC] at K
  repeat (first | go_big_quiet_step (fail) | quiet_step (exact Calls.in_of (K _)))
  refine wpQuiet_nil ?_
  intro w1 hw1
  rw [← HM.out]
  have hb1 := (HCd.out _).1 hw1
  have h1 := H.out.next hb1
  have hg := h1.at_ hp
  have lg := hg.lt
  have e8 : w1.cell? ⟨p.g, 8, none⟩ = some (.int .i64 p.a.dep) := hg.cell 8
  have e6 : w1.cell? ⟨p.g, 6, none⟩ = some (.int .i64 p.a.ap) := hg.cell 6
  have f8 := hg.free 8
  have f6 := hg.free 6
  have hB2 : Blk ((w1.setCell ⟨p.g, 8, none⟩ (.int .i64 (p.a.dep - appN p.a))).setCell ⟨p.g, 6, none⟩ (.int .i64 (p.a.ap + appN p.a))) p.g 35 (celC (appA p.a)) := (hg.set_ 8 (.int .i64 (p.a.dep - appN p.a))).set_ 6 (.int .i64 (p.a.ap + appN p.a))
  have hT2 := (Touch.setCell w1 p.g 8 (.int .i64 (p.a.dep - appN p.a))).then (Touch.setCell _ p.g 6 (.int .i64 (p.a.ap + appN p.a)))
  have h3 := h1.put (a' := appA p.a) hp hB2 hT2
  have hgg : Ch.Own XL BL BA ac p.g := .inr (.inr (.inr ⟨_, mget_mem hp, rfl⟩))
  have HT := hid ((Touch.of_below (S := Ch.Own XL BL BA ac) hb1).then (hT2.mono (fun k hk => by rw [hk]; exact hgg)))
  have H3 := hid (And.intro h3 hB2)
  obtain ⟨n, hn⟩ : ∃ n, n = appN p.a := ⟨_, rfl⟩
  have wd : IntKind.i64.wrap (p.a.dep - n) = p.a.dep - n := IntWalk.i64_in _ ⟨by have := HN.out; omega, by have := HN.out; have := HS.out.2.1; omega⟩
  have wa : IntKind.i64.wrap (p.a.ap + n) = p.a.ap + n := IntWalk.i64_in _ ⟨by have := HN.out; have := HS.out.2.2.2.2.2.p; omega, by have := HN.out; have := HS.out.2.2.2.2.2.p; omega⟩
  rw [← hn] at H3 HT
  rw [← hn]
  have HNN := hid hn
  have HP := hid hp
  clear K c0 c1 c2 c3 c4 c5 c6 c7 c8 hne hw1 HCd HM hb1 h1 hg hB2 hT2 h3 hgg hn hp
  go_wp2_with fail
  clear wd wa e8 e6 f8 f6 lg
  generalize (w1.setCell ⟨p.g, 8, none⟩ (.int .i64 (p.a.dep - n))).setCell ⟨p.g, 6, none⟩ (.int .i64 (p.a.ap + n)) = w3 at H3 HT ⊢
  refine (apply_any n w3).mono ?_
  rintro e w4 ⟨A, cap, rfl, hR, hlo, hb4⟩
  have hnb := HN.out
  rw [← HNN.out] at hnb
  rw [moveL_eq ⟨hnb.1, by omega⟩] at hR ⊢
  have h4 := H3.out.1.next hb4
  have hdn := HS.out.2.2.2.1
  rw [← HNN.out] at hdn
  have K := hid (cpost_any h4 p.g (appA p.a) (H3.out.2.next hb4) (moveE 4 1 n) (moveE_ok HS.out.2.2.2.2.1 ⟨hnb.1, hnb.2.1⟩ (by omega) (by omega) hdn) A cap hR (fun b hb => H3.out.1.not_xb (hlo b hb)))
  rw [moveE_debs hnb.1] at K
  have H4 := hid h4
  have HT4 := hid (HT.out.then (.of_below hb4))
  clear hR hlo hb4 hnb h4 hdn H3 HT
  go_wp2_with fail
  refine K.out.mono ?_
  rintro e w5 ⟨rfl, hL, hT5⟩
  have h5 := H4.out.ledger hL hT5
  have hg5 := h5.at_ (o := o) (p := ⟨p.g, appA p.a⟩) (by rw [mget_mset, if_pos rfl])
  simp only at hg5
  have HF := hid (And.intro h5 (HT4.out.then (hT5.mono (fun k hk => Ch.xb_own hk))))
  obtain ⟨b, hb⟩ : ∃ b, b = appA p.a := ⟨_, rfl⟩
  have hbs := HS.out.1
  rw [← hb] at hg5 hbs
  have HFB := hid hb
  have KP := hid (paid_any b w5 hbs)
  simp only [celC] at KP
  have e0 : w5.cell? ⟨p.g, 0, none⟩ = some (.int .i64 b.o) := hg5.cell 0
  have e1 : w5.cell? ⟨p.g, 1, none⟩ = some (.int .i64 b.c) := hg5.cell 1
  have e2 : w5.cell? ⟨p.g, 2, none⟩ = some (.int .i64 b.st) := hg5.cell 2
  have e3 : w5.cell? ⟨p.g, 3, none⟩ = some (.int .i64 b.lv) := hg5.cell 3
  have e4 : w5.cell? ⟨p.g, 4, none⟩ = some (.int .i64 b.net) := hg5.cell 4
  have e5 : w5.cell? ⟨p.g, 5, none⟩ = some (.int .i64 b.tax) := hg5.cell 5
  have e6 : w5.cell? ⟨p.g, 6, none⟩ = some (.int .i64 b.ap) := hg5.cell 6
  have e7 : w5.cell? ⟨p.g, 7, none⟩ = some (.int .i64 b.wr) := hg5.cell 7
  have e8 : w5.cell? ⟨p.g, 8, none⟩ = some (.int .i64 b.dep) := hg5.cell 8
  clear K H4 HT4 hL hT5 h5 hg5 hb hbs HS HN H
  go_wp2_with fail
  refine KP.out.mono ?_
  rintro e w6 ⟨rfl, hb6⟩
  have HZ := hid (And.intro (HF.out.1.next hb6) (HF.out.2.then (.of_below hb6)))
  clear KP HF hb6 e0 e1 e2 e3 e4 e5 e6 e7 e8
  go_wp2_with fail
  go_ret
  rw [HFB.out, HNN.out] at *
  exact ⟨rfl, HZ.out.1, HZ.out.2⟩
end

end Go.Proofs.YthdmbbfppgenlaaGreat
