/-
  Money of orders: sums over all customers; a book with one order; wakes.
-/
import Derived.Test.YthdmbbfppgenlaaGreatChU
namespace Go.Proofs.YthdmbbfppgenlaaGreat
open Go.RowKit Go.WideShapes Go.ChangeShapes Go.ChangeAt Go.Deep
set_option linter.unusedVariables false

theorem colF_led {ac : List (Int × CP)} (k : Int) : ∀ n : Nat, colF (ledC ac) k n = sumM (fun a => if 1 ≤ a.c ∧ a.c ≤ n then con a k else 0) ac := by
  intro n
  induction n with
  | zero =>
    rw [colF_zero]
    unfold sumM
    rw [sum_map_zero]
    intro q _
    simp only
    rw [if_neg (by omega)]
  | succ n ih =>
    rw [colF_succ, ih]
    unfold ledC sumM
    rw [← sum_map_add]
    refine sum_map_congr fun q _ => ?_
    simp only
    by_cases h : q.2.a.c = (n : Int) + 1
    · rw [if_neg (by omega), if_pos h, if_pos (by omega)]; omega
    · by_cases h2 : 1 ≤ q.2.a.c ∧ q.2.a.c ≤ n
      · rw [if_pos h2, if_neg h, if_pos (by omega)]; omega
      · rw [if_neg h2, if_neg h, if_neg (by omega)]; omega
theorem balF_led {ac : List (Int × CP)} (h : ∀ q ∈ ac, 1 ≤ q.2.a.c ∧ q.2.a.c ≤ 64) (k : Int) : balF (ledC ac) k = sumM (fun a => con a k) ac := by
  unfold balF
  rw [colF_led]
  unfold sumM
  refine sum_map_congr fun q hq => ?_
  simp only
  rw [if_pos (by have := h q hq; omega)]
/-- A book with one order. -/
theorem one_book {ac : List (Int × CP)} {o : Int} {a : Ca} (hd : (ac.map (·.1)).Nodup) (h : ∀ o', cfind ac o' = if o' = o then some a else none) : ∃ g, ac = [(o, ⟨g, a⟩)] := by
  have h0 := h o
  rw [if_pos rfl] at h0
  obtain ⟨g, hg⟩ := cfind_some.1 h0
  refine ⟨g, ?_⟩
  have hall : ∀ q ∈ ac, q = (o, ⟨g, a⟩) := by
    intro q hq
    have h1 := mget_of_mem hd hq
    by_cases e : q.1 = o
    · rw [e, hg] at h1
      injection h1 with h1
      obtain ⟨q1, q2⟩ := q
      simp only at e h1
      rw [e, h1]
    · have h2 := h q.1
      rw [if_neg e] at h2
      rw [cfind_none.1 h2] at h1
      cases h1
  have hm := mget_mem hg
  match ac, hd, hall, hm with
  | [x], _, hall, _ => rw [hall x (by simp)]
  | x :: y :: l, hd, hall, _ =>
    have e1 := hall x (by simp)
    have e2 := hall y (by simp)
    rw [e1, e2] at hd
    simp at hd
theorem isC_new {n0 : Nat} {w : World} {X XL BL BA : Nat} (h : IsCash n0 w X XL BL BA [] f0 0) : IsC n0 w X XL BL BA [] 0 :=
  ⟨h, ⟨fun q hq => (by cases hq), by simp [wts, sumM], by omega⟩⟩
section
variable {n0 : Nat} {w w' : World} {X XL BL BA : Nat} {ac : List (Int × CP)} {d : Int}
/-- What all orders have on an account. -/
theorem IsC.bal (h : IsC n0 w X XL BL BA ac d) (k : Int) : balF (ledC ac) k = sumM (fun a => con a k) ac := balF_led (fun q hq => ⟨(h.gd.fit q hq).1.c1, (h.gd.fit q hq).1.c2⟩) k
theorem IsC.one (h : IsC n0 w X XL BL BA ac d) {o : Int} {a : Ca} (ho : ∀ o', cfind ac o' = if o' = o then some a else none) (k : Int) : balF (ledC ac) k = con a k := by
  rw [h.bal]
  obtain ⟨g, rfl⟩ := one_book h.bk.acs.nodup ho
  simp [sumM]
theorem IsC.oneOf (h : IsC n0 w X XL BL BA ac d) {o : Int} {a : Ca} (ho : ∀ o', cfind ac o' = if o' = o then some a else none) (c k : Int) : ledC ac (c, k) = if a.c = c then con a k else 0 := by
  obtain ⟨g, rfl⟩ := one_book h.bk.acs.nodup ho
  simp [ledC, sumM]
end
/-- The law's frame: the book in a world behind the law's beginning. -/
structure WC (w0 : World) (n0 : Nat) (X XL BL BA : Nat) (ac : List (Int × CP)) (d : Int) (w : World) : Prop where
  c : IsC n0 w X XL BL BA ac d
  low : w0.heap.size ≤ n0 ∧ n0 ≤ w.heap.size
  bel : Below w0.heap.size w0 w
section
variable {w0 w w' : World} {n0 : Nat} {X XL BL BA : Nat} {ac : List (Int × CP)} {d : Int}
theorem WC.next (h : WC w0 n0 X XL BL BA ac d w) (hb : Below w.heap.size w w') : WC w0 n0 X XL BL BA ac d w' := ⟨h.c.next hb, ⟨h.low.1, Nat.le_trans h.low.2 hb.size⟩, bthen h.bel hb⟩
/-- What a call leaves in a law. -/
def NextW (w0 : World) (n0 : Nat) (X XL BL BA : Nat) (F : Int → Option Ca) (o : Int) (r : ResC) (w' : World) : Prop := ∃ ac', WC w0 n0 X XL BL BA ac' r.d w' ∧ cfind ac' = updC F o r.acc
theorem WC.post (h : WC w0 n0 X XL BL BA ac d w) {o : Int} {r : ResC} (hp : PostC n0 X XL BL BA ac o r w w') : NextW w0 n0 X XL BL BA (cfind ac) o r w' := by
  obtain ⟨ac', h1, h2, h3, _⟩ := hp
  exact ⟨ac', ⟨h1, ⟨h.low.1, Nat.le_trans h.low.2 h3.size⟩, h.bel.trans (h3.below h.bel.size (fun k hk => Nat.le_trans h.low.1 (h.c.bk.own_low hk)))⟩, h2⟩
theorem WC.invoice (h : WC w0 n0 X XL BL BA ac d w) {F : Int → Option Ca} (hF : cfind ac = F) (o c net tax : Int) {r : ResC} (hr : invR F d o c net tax = r) :
    Calls Tryz.prog 4 #[.pointer (some ⟨X, 0, none⟩), .int .i64 o, .int .i64 c, .int .i64 net, .int .i64 tax] w fun e w' => e = .returned (.tuple #[.bool r.paid, .int .i64 r.code]) ∧ NextW w0 n0 X XL BL BA F o r w' := by
  subst hF hr
  exact (cinv_any h.c h.low.2 o c net tax).mono fun e w' ⟨h1, h2⟩ => ⟨h1, h.post h2⟩
theorem WC.receive (h : WC w0 n0 X XL BL BA ac d w) {F : Int → Option Ca} (hF : cfind ac = F) (o c n : Int) (hi : I64 n) {r : ResC} (hr : rcvR F d o c n = r) :
    Calls Tryz.prog 5 #[.pointer (some ⟨X, 0, none⟩), .int .i64 o, .int .i64 c, .int .i64 n] w fun e w' => e = .returned (.tuple #[.bool r.paid, .int .i64 r.code]) ∧ NextW w0 n0 X XL BL BA F o r w' := by
  subst hF hr
  exact (crcv_any h.c h.low.2 o c n hi).mono fun e w' ⟨h1, h2⟩ => ⟨h1, h.post h2⟩
theorem WC.writeOff (h : WC w0 n0 X XL BL BA ac d w) {F : Int → Option Ca} (hF : cfind ac = F) (o : Int) {r : ResC} (hr : wofR F d o = r) :
    Calls Tryz.prog 10 #[.pointer (some ⟨X, 0, none⟩), .int .i64 o] w fun e w' => e = .returned (.int .i64 r.code) ∧ NextW w0 n0 X XL BL BA F o r w' := by
  subst hF hr
  exact (cwof_any h.c o).mono fun e w' ⟨h1, h2⟩ => ⟨h1, h.post h2⟩
theorem WC.memo (h : WC w0 n0 X XL BL BA ac d w) {F : Int → Option Ca} (hF : cfind ac = F) (o : Int) {r : ResC} (hr : memR F d o = r) :
    Calls Tryz.prog 11 #[.pointer (some ⟨X, 0, none⟩), .int .i64 o] w fun e w' => e = .returned (.int .i64 r.code) ∧ NextW w0 n0 X XL BL BA F o r w' := by
  subst hF hr
  exact (cmem_any h.c o).mono fun e w' ⟨h1, h2⟩ => ⟨h1, h.post h2⟩
theorem WC.refund (h : WC w0 n0 X XL BL BA ac d w) {F : Int → Option Ca} (hF : cfind ac = F) (o : Int) {n : Int} {r : ResC} (hr : refR F d o = (n, r)) :
    Calls Tryz.prog 6 #[.pointer (some ⟨X, 0, none⟩), .int .i64 o] w fun e w' => e = .returned (.tuple #[.int .i64 n, .int .i64 r.code]) ∧ NextW w0 n0 X XL BL BA F o r w' := by
  subst hF
  have := cref_any h.c o
  rw [hr] at this
  exact this.mono fun e w' ⟨h1, h2⟩ => ⟨h1, h.post h2⟩
theorem WC.dun (h : WC w0 n0 X XL BL BA ac d w) {F : Int → Option Ca} (hF : cfind ac = F) (o : Int) {n : Int} {b : Bool} {x : Option Ca} (hr : dunR F o = (n, b, x)) :
    Calls Tryz.prog 7 #[.pointer (some ⟨X, 0, none⟩), .int .i64 o] w fun e w' => e = .returned (.tuple #[.int .i64 n, .bool b]) ∧ NextW w0 n0 X XL BL BA F o ⟨false, 0, x, d⟩ w' := by
  subst hF
  have := cdun_any h.c o
  rw [hr] at this
  exact this.mono fun e w' ⟨h1, h2⟩ => ⟨h1, h.post h2⟩
def openF (F : Int → Option Ca) (o : Int) : Int := match F o with | none => 0 | some a => openC a
theorem WC.open_ (h : WC w0 n0 X XL BL BA ac d w) {F : Int → Option Ca} (hF : cfind ac = F) (o : Int) {n : Int} (hr : openF F o = n) :
    Calls Tryz.prog 12 #[.pointer (some ⟨X, 0, none⟩), .int .i64 o] w fun e w' => e = .returned (.int .i64 n) ∧ Below w.heap.size w w' := by
  subst hF hr
  exact copen_any h.c o
theorem WC.new (w0 w : World) (hb : Below w0.heap.size w0 w) : Calls Tryz.prog 32 #[] w fun e w' => ∃ X XL BL BA, e = .returned (.pointer (some ⟨X, 0, none⟩)) ∧ WC w0 w.heap.size X XL BL BA [] 0 w' :=
  (cnew_any w).mono fun e w' ⟨X, XL, BL, BA, h1, h2, h3⟩ => ⟨X, XL, BL, BA, h1, isC_new h2, ⟨hb.size, h3.size⟩, bthen hb h3⟩
end
def F1 (a : Ca) : Int → Option Ca := fun o' => if o' = 1 then some a else none
theorem upd_none (a : Ca) : updC (cfind []) 1 (some a) = F1 a := rfl
theorem upd_one (a b : Ca) : updC (F1 a) 1 (some b) = F1 b := by
  funext o
  unfold updC F1
  simp only
  split <;> rfl
theorem r1 : rcvR (cfind []) 0 1 1 50 = ⟨false, 0, some ⟨1, 1, 0, 0, 0, 0, 0, 0, 50⟩, 50⟩ := by rfl
theorem r2 : invR (F1 ⟨1, 1, 0, 0, 0, 0, 0, 0, 50⟩) 50 1 1 100 20 = ⟨false, 0, some ⟨1, 1, 1, 0, 100, 20, 50, 0, 0⟩, 220⟩ := by rfl

set_option maxRecDepth 100000 in
set_option maxHeartbeats 8000000 in
theorem wakes_any (hS : SortsL) (w : World) : Calls Tryz.prog 9 #[] w (Law w) := by
  go_enter Tryz.func9, Tryz.ntmps9
  go_wp2_with fail
  refine (WC.new w w (Below.refl _ _)).mono ?_
  rintro e w1 ⟨X, XL, BL, BA, rfl, h⟩
  have K := hid (h.receive (F := cfind []) rfl 1 1 50 (by unfold I64; decide) r1)
  clear h
  go_wp2_with fail
  refine K.out.mono ?_
  rintro e w2 ⟨rfl, ac2, h, hF⟩
  rw [upd_none] at hF
  replace K := hid (h.invoice hF 1 1 100 20 r2)
  clear h hF
  go_wp2_with fail
  refine K.out.mono ?_
  rintro e w3 ⟨rfl, ac3, h, hF⟩
  rw [upd_one] at hF
  have KO := hid (h.open_ hF 1 (n := 70) rfl)
  have HF := hid hF
  have H := hid h
  clear h hF K
  go_wp2_with fail
  refine KO.out.mono ?_
  rintro e w4 ⟨rfl, hb⟩
  have h := H.out.next hb
  have KB := cbal_all hS h.c 1
  rw [h.c.one (o := 1) (fun o' => by rw [HF.out]; rfl), show con ⟨1, 1, 1, 0, 100, 20, 50, 0, 0⟩ 1 = 70 from rfl] at KB
  replace KB := hid KB
  replace H := hid h
  clear h hb KO
  go_wp2_with fail
  refine KB.out.mono ?_
  rintro e w5 ⟨rfl, hb⟩
  have h := H.out.next hb
  have KT := hid (cturn_any h.c.bk)
  replace H := hid h
  clear h hb KB
  go_wp2_with fail
  refine KT.out.mono ?_
  rintro e w6 ⟨rfl, hb⟩
  have hf := hid (bthen H.out.bel hb)
  clear KT H hb
  go_wp2_with fail
  go_ret
  exact ⟨rfl, hf.out⟩

end Go.Proofs.YthdmbbfppgenlaaGreat
