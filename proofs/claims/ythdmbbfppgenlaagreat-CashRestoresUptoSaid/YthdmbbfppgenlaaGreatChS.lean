/-
  The book of money: Invoice and Receive.
-/
import Derived.Test.YthdmbbfppgenlaaGreatChQ
namespace Go.Proofs.YthdmbbfppgenlaaGreat
open Go.RowKit Go.WideShapes Go.ChangeShapes Go.ChangeAt Go.Deep
set_option linter.unusedVariables false

theorem msetC_twice {κ ν : Type} [DecidableEq κ] {m : List (κ × ν)} {a : κ} {b c : ν} : mset (mset m a b) a c = mset m a c := by
  have hk : a ∈ (mset m a b).map (·.1) := by
    rw [mset_keys]; split
    · assumption
    · simp
  rw [mset, if_pos hk]
  unfold mset
  split
  · rw [List.map_map]
    refine List.map_congr_left fun p _ => ?_
    simp only [Function.comp]
    split <;> simp_all
  · rename_i hn
    rw [List.map_append]
    congr 1
    · conv => rhs; rw [← List.map_id m]
      refine List.map_congr_left fun p hp => ?_
      have : ¬ p.1 = a := fun e => hn (by rw [← e]; exact List.mem_map_of_mem hp)
      simp [this]
    · simp

/-- A book that is good, its ledger told by its accounts. -/
structure IsC (n0 : Nat) (w : World) (X XL BL BA : Nat) (ac : List (Int × CP)) (d : Int) : Prop where
  bk : IsCash n0 w X XL BL BA ac (ledC ac) d
  gd : GoodC ac d
section
variable {n0 : Nat} {w w' : World} {X XL BL BA : Nat} {ac : List (Int × CP)} {f f' : Fn} {d d' : Int}
theorem IsC.next (h : IsC n0 w X XL BL BA ac d) (hb : Below w.heap.size w w') : IsC n0 w' X XL BL BA ac d := ⟨h.bk.next hb, h.gd⟩
theorem ledC_nil : ledC [] = f0 := rfl
theorem Ch.own_set {o : Int} {g : Nat} {a : Ca} {k : Nat} (h : Ch.Own XL BL BA (mset ac o ⟨g, a⟩) k) : Ch.Own XL BL BA ac k ∨ k = g := by
  rcases h with h | h | h | ⟨q, hq, h⟩
  · exact .inl (.inl h)
  · exact .inl (.inr (.inl h))
  · exact .inl (.inr (.inr (.inl h)))
  · rcases mem_mset hq with rfl | ⟨hq', _⟩
    · exact .inr h.symm
    · exact .inl (.inr (.inr (.inr ⟨q, hq', h⟩)))
/-- Where the order's account lies. -/
def AtG (ac : List (Int × CP)) (n0 : Nat) (o : Int) (g : Nat) (a0 : Ca) : Prop := mget ac o = some ⟨g, a0⟩ ∨ (mget ac o = none ∧ (∀ q ∈ ac, q.2.g ≠ g) ∧ n0 ≤ g)
theorem IsCash.keepPut {o : Int} {g : Nat} {a0 : Ca} (h : IsCash n0 w X XL BL BA ac f d) (hc : AtG ac n0 o g a0) (hg : Blk w g 35 (celC a0)) (hM : IsMap w' BA kC vCP (mset ac o ⟨g, a0⟩)) (hgr : w.grownBy w' (some BA)) : IsCash n0 w' X XL BL BA (mset ac o ⟨g, a0⟩) f d := by
  rcases hc with hm | ⟨hm, hf, hn⟩
  · have hs : mset ac o ⟨g, a0⟩ = ac := by
      have := mset_map_same (fun p : CP => p) hm h.acs.nodup rfl
      simpa using this
    have := h.again hm hM hgr
    rw [hs]
    exact this
  · exact h.add hm hg hf hn hM hgr
theorem account_any (h : IsCash n0 w X XL BL BA ac f d) (hn0 : n0 ≤ w.heap.size) (o c : Int) (hc : (acOf (cfind ac) o c).c = c) : Calls Tryz.prog 23 #[.pointer (some ⟨X, 0, none⟩), .int .i64 o, .int .i64 c] w fun e w' => ∃ g, e = .returned (.tuple #[.pointer (some ⟨g, 0, none⟩), .int .i64 0]) ∧ Blk w' g 35 (celC (acOf (cfind ac) o c)) ∧ AtG ac n0 o g (acOf (cfind ac) o c) ∧ (Ch.Own XL BL BA ac g ∨ w.heap.size ≤ g) ∧ Below w.heap.size w w' := by
  cases hm : mget ac o with
  | none =>
    have e : acOf (cfind ac) o c = ⟨o, c, 0, 0, 0, 0, 0, 0, 0⟩ := by unfold acOf cfind; rw [hm]; rfl
    rw [e]
    refine (account_new h o c hm).mono ?_
    rintro e w' ⟨h1, h2, h3⟩
    exact ⟨w.heap.size, h1, h2, .inr ⟨hm, fun q hq => Nat.ne_of_lt (h.cells q hq).lt, by omega⟩, .inr (Nat.le_refl _), h3⟩
  | some p =>
    have e : acOf (cfind ac) o c = p.a := by unfold acOf cfind; rw [hm]; rfl
    rw [e] at hc ⊢
    refine (account_same h o c p hm hc).mono ?_
    rintro e w' ⟨h1, rfl⟩
    exact ⟨p.g, h1, h.at_ hm, .inl hm, .inl (.inr (.inr (.inr ⟨_, mget_mem hm, rfl⟩))), Below.refl _ _⟩
theorem account_bad (h : IsCash n0 w X XL BL BA ac f d) (o c : Int) (hc : (acOf (cfind ac) o c).c ≠ c) : Calls Tryz.prog 23 #[.pointer (some ⟨X, 0, none⟩), .int .i64 o, .int .i64 c] w fun e w' => e = .returned (.tuple #[.pointer none, .int .i64 130]) ∧ w = w' := by
  cases hm : mget ac o with
  | none =>
    exact absurd (by unfold acOf cfind; rw [hm]; rfl) hc
  | some p =>
    have e : acOf (cfind ac) o c = p.a := by unfold acOf cfind; rw [hm]; rfl
    rw [e] at hc
    exact account_other h o c p hm hc
/-- What a call leaves. -/
def PostC (n0 : Nat) (X XL BL BA : Nat) (ac : List (Int × CP)) (o : Int) (r : ResC) (w w' : World) : Prop :=
  ∃ ac', IsC n0 w' X XL BL BA ac' r.d ∧ cfind ac' = updC (cfind ac) o r.acc ∧ Touch (Ch.Own XL BL BA ac) w w' ∧ ∀ k, Ch.Own XL BL BA ac' k → Ch.Own XL BL BA ac k ∨ w.heap.size ≤ k
theorem PostC.same {o e : Int} (h : IsC n0 w X XL BL BA ac d) (hb : Below w.heap.size w w') : PostC n0 X XL BL BA ac o (noC e d) w w' := ⟨ac, h.next hb, rfl, .of_below hb, fun k hk => .inl hk⟩
theorem PostC.put {o c : Int} {g : Nat} {b : Ca} {pd : Bool} {es : List En} (h : IsC n0 w X XL BL BA ac d) (hgo : Ch.Own XL BL BA ac g ∨ w.heap.size ≤ g) (hc : (acOf (cfind ac) o c).c = c) (ho : (acOf (cfind ac) o c).o = o) (hN : NextC (acOf (cfind ac) o c) b c d d' es) (h1 : d' ≤ 1152921504606846976) (hB : IsCash n0 w' X XL BL BA (mset ac o ⟨g, b⟩) (addF (ledC ac) c es) d') (hT : Touch (fun k => Ch.Own XL BL BA ac k ∨ k = g) w w') : PostC n0 X XL BL BA ac o ⟨pd, 0, some b, d'⟩ w w' := by
  obtain ⟨g1, g2⟩ := h.gd.next h.bk.acs.nodup o c g hc ho hN h1
  rw [g2] at hB
  refine ⟨_, ⟨hB, g1⟩, funext fun o' => cfind_mset o', (Touch.refl _ w).trans hT (fun k hk => ?_), fun k hk => ?_⟩
  · rcases hk with hk | rfl
    · exact .inl hk
    · exact hgo
  · rcases Ch.own_set hk with hk | rfl
    · exact .inl hk
    · exact hgo
def betB (n m : Int) : Bool := decide (0 ≤ n) && decide (n ≤ m)
theorem bet_yes {n m : Int} (h : 0 ≤ n ∧ n ≤ m) (w : World) : Calls Tryz.prog 22 #[.int .i64 n, .int .i64 m] w fun e w' => e = .returned (.bool true) ∧ w = w' := by
  have := between_any n m w
  rwa [decide_eq_true h.1, decide_eq_true h.2] at this
theorem bet_no {n m : Int} (h : ¬ (0 ≤ n ∧ n ≤ m)) (w : World) : Calls Tryz.prog 22 #[.int .i64 n, .int .i64 m] w fun e w' => e = .returned (.bool false) ∧ w = w' := by
  have := between_any n m w
  by_cases h0 : 0 ≤ n
  · rwa [decide_eq_true h0, decide_eq_false (show ¬ n ≤ m from fun e => h ⟨h0, e⟩)] at this
  · rwa [decide_eq_false h0] at this
theorem roomR_zero {d n : Int} (h : ¬ (576460752303423488 - n < d)) : roomR d n = 0 := if_neg h
theorem roomR_many {d n : Int} (h : 576460752303423488 - n < d) : roomR d n = 72 := if_pos h

set_option maxRecDepth 100000 in
set_option maxHeartbeats 8000000 in
theorem cinv_any (h : IsC n0 w X XL BL BA ac d) (hn0 : n0 ≤ w.heap.size) (o c net tax : Int) :
    Calls Tryz.prog 4 #[.pointer (some ⟨X, 0, none⟩), .int .i64 o, .int .i64 c, .int .i64 net, .int .i64 tax] w fun e w' => e = .returned (.tuple #[.bool (invR (cfind ac) d o c net tax).paid, .int .i64 (invR (cfind ac) d o c net tax).code]) ∧ PostC n0 X XL BL BA ac o (invR (cfind ac) d o c net tax) w w' := by
  unfold invR
  by_cases hok : okInv o c net tax
  · rw [if_pos hok]
    have F1 := hid (fun w => cfit_yes o c w hok.1)
    have F2 := hid (fun w => bet_yes (m := 281474976710656) hok.2.1 w)
    have F3 := hid (fun w => bet_yes (m := 281474976710656) hok.2.2 w)
    by_cases hc : (acOf (cfind ac) o c).c = c
    · rw [if_neg (fun e => e hc)]
      have hfa := (acOf_fit h.gd (o := o) (c := c) hok.1.1 hok.1.2)
      have A := hid (account_any h.bk hn0 o c hc)
      by_cases hs : (acOf (cfind ac) o c).st = 0
      · rw [if_neg (fun e => e hs)]
        by_cases hr : 576460752303423488 - (net + tax) < d
        · rw [if_pos hr]
          have H := hid h
          have HOK := hid hok
          have HR := hid hr
          obtain ⟨a0, ha0⟩ : ∃ a0, a0 = acOf (cfind ac) o c := ⟨_, rfl⟩
          rw [← ha0] at A hs
          clear h hok hr hc hfa ha0
          go_enter Tryz.func4, Tryz.ntmps4
          go_wp2_with fail
          refine (F1.out _).mono ?_
          rintro e w1 ⟨rfl, rfl⟩
          go_wp2_with fail
          refine (F2.out _).mono ?_
          rintro e w1 ⟨rfl, rfl⟩
          go_wp2_with fail
          refine (F3.out _).mono ?_
          rintro e w1 ⟨rfl, rfl⟩
          go_wp2_with fail
          refine (A.out).mono ?_
          rintro e w2 ⟨g, rfl, hg, hcase, hgo, hb⟩
          have c2 : w2.cell? ⟨g, 2, none⟩ = some (.int .i64 0) := by have := hg.cell 2; rw [show (celC a0)[2]? = some (.int .i64 a0.st) from rfl, hs] at this; exact this
          have R := room_any (H.out.bk.next hb) (net + tax) (by have := HOK.out.2.1; have := HOK.out.2.2; omega) (by have := HOK.out.2.2; have := HOK.out.2.1; omega)
          rw [roomR_many HR.out] at R
          replace R := hid R
          have w0 : IntKind.i64.wrap (net + tax) = net + tax := IntWalk.i64_in _ ⟨by have := HOK.out.2.1; have := HOK.out.2.2; omega, by have := HOK.out.2.2; have := HOK.out.2.1; omega⟩
          have HB := hid hb
          clear hg hcase hgo hb A F1 F2 F3
          go_wp2_with fail
          refine R.out.mono ?_
          rintro e w3 ⟨rfl, hb3⟩
          clear R c2
          go_wp2_with fail
          go_ret2
          exact ⟨rfl, PostC.same H.out (bthen HB.out hb3)⟩
        · rw [if_neg hr]
          have hNX := inv_next (c := c) (d := d) (net := net) (tax := tax) hfa.1 hs hok.2.1 hok.2.2
          have hpa : SmallC (invB (acOf (cfind ac) o c) net tax) := ⟨⟨by have := hok.2.1; simp only [invB]; omega, by have := hok.2.1; simp only [invB]; omega⟩, ⟨by have := hok.2.2; simp only [invB]; omega, by have := hok.2.2; simp only [invB]; omega⟩, hfa.1.small.p, hfa.1.small.w⟩
          have hdp : 0 ≤ (invB (acOf (cfind ac) o c) net tax).dep ∧ (invB (acOf (cfind ac) o c) net tax).dep ≤ 576460752303423488 := by
            have := hfa.1.d0
            have := hfa.1.d1
            have := hfa.2.2
            have := hfa.1.wt0
            have := h.gd.tot
            have := hok.2.1
            simp only [invB]
            omega
          have hop : 0 ≤ openC (invB (acOf (cfind ac) o c) net tax) ∧ openC (invB (acOf (cfind ac) o c) net tax) ≤ 1125899906842624 := by
            have := hfa.1.open0
            have := hfa.1.w0
            have := hfa.1.p0
            have z := hfa.1.zero hs; have := hok.2.1; have := hok.2.2; simp only [openC, invB, ↓reduceIte]; omega
          have hfit := hfa.1
          have hao := hfa.2.1
          have H := hid h
          have HOK := hid hok
          have HR := hid hr
          have HN0 := hid hn0
          have HC := hid hc
          have HAO := hid hao
          have hs2 := hpa
          obtain ⟨a0, ha0⟩ : ∃ a0, a0 = acOf (cfind ac) o c := ⟨_, rfl⟩
          rw [← ha0] at A hNX hs2 hdp hop hfit hs ⊢
          have HA0 := hid ha0
          have HNX := hid hNX
          have HSM := hid (And.intro hs2 (And.intro hNX.2.1.fit.small (And.intro hdp hop)))
          have HFIT := hid hfit
          clear h hok hr hn0 hc hfa ha0 hNX hpa hdp hop hfit hao hs2
          go_enter Tryz.func4, Tryz.ntmps4
          go_wp2_with fail
          refine (F1.out _).mono ?_
          rintro e w1 ⟨rfl, rfl⟩
          go_wp2_with fail
          refine (F2.out _).mono ?_
          rintro e w1 ⟨rfl, rfl⟩
          go_wp2_with fail
          refine (F3.out _).mono ?_
          rintro e w1 ⟨rfl, rfl⟩
          go_wp2_with fail
          refine A.out.mono ?_
          rintro e w2 ⟨g, rfl, hg, hcase, hgo, hb⟩
          have c2 : w2.cell? ⟨g, 2, none⟩ = some (.int .i64 0) := by have := hg.cell 2; rw [show (celC a0)[2]? = some (.int .i64 a0.st) from rfl, hs] at this; exact this
          have R := room_any (H.out.bk.next hb) (net + tax) (by have := HOK.out.2.1; have := HOK.out.2.2; omega) (by have := HOK.out.2.2; have := HOK.out.2.1; omega)
          rw [roomR_zero (by have := HR.out; omega)] at R
          replace R := hid R
          have w0 : IntKind.i64.wrap (net + tax) = net + tax := IntWalk.i64_in _ ⟨by have := HOK.out.2.1; have := HOK.out.2.2; omega, by have := HOK.out.2.2; have := HOK.out.2.1; omega⟩
          have HB := hid hb
          have HG := hid hg
          have HCS := hid hcase
          have HGO := hid hgo
          clear hg hcase hgo hb A F1 F2 F3
          go_wp2_with fail
          refine R.out.mono ?_
          rintro e w3 ⟨rfl, hb3⟩
          have cA : w3.cell? ⟨X, 1, none⟩ = some (.map (some BA)) := ((H.out.bk.next HB.out).next hb3).cellA
          have H3 := hid ((H.out.bk.next HB.out).next hb3)
          have HG3 := hid (HG.out.next hb3)
          have HB3 := hid (bthen HB.out hb3)
          clear R c2 HG HB hb3
          go_wp2_with (first
            | (at_mapUpdate; refine wpList_store _ rfl _ _ _ 64 59 rfl keyC Tryz.underlying64 BA ac rfl H3.out.acs o ⟨g, a0⟩ rfl rfl ?_; intro w4 hM4 hg4 hs4; (have H4 := hid (H3.out.keepPut HCS.out HG3.out hM4 hg4)); (have hG4 := (Touch.of_grown hg4).blk HG3.out (fun e => H3.out.acs.notBlk HG3.out e.symm)); (have HT4 := hid ((Touch.of_below (S := fun k => Ch.Own XL BL BA ac k ∨ k = g) HB3.out).then ((Touch.of_grown hg4).mono (fun k hk => .inl (.inr (.inr (.inl hk))))))); (have lg := hG4.lt); (have d2 : w4.cell? ⟨g, 2, none⟩ = some (.int .i64 a0.st) := hG4.cell 2); (have d4 : w4.cell? ⟨g, 4, none⟩ = some (.int .i64 a0.net) := hG4.cell 4); (have d5 : w4.cell? ⟨g, 5, none⟩ = some (.int .i64 a0.tax) := hG4.cell 5); (have f2 : w4.frozen? ⟨g, 2, none⟩ = false := hG4.free 2); (have f4 : w4.frozen? ⟨g, 4, none⟩ = false := hG4.free 4); (have f5 : w4.frozen? ⟨g, 5, none⟩ = false := hG4.free 5); have HG4 := hid hG4; clear hM4 hg4 hs4 hG4 cA))
          have hB5 : Blk (((w4.setCell ⟨g, 2, none⟩ (.int .i64 1)).setCell ⟨g, 4, none⟩ (.int .i64 net)).setCell ⟨g, 5, none⟩ (.int .i64 tax)) g 35 (celC (invB a0 net tax)) := ((HG4.out.set_ 2 (.int .i64 1)).set_ 4 (.int .i64 net)).set_ 5 (.int .i64 tax)
          have hT5 := ((Touch.setCell w4 g 2 (.int .i64 1)).then (Touch.setCell _ g 4 (.int .i64 net))).then (Touch.setCell _ g 5 (.int .i64 tax))
          have h5 := H4.out.put (o := o) (p := ⟨g, a0⟩) (a' := invB a0 net tax) (by rw [mget_mset, if_pos rfl]) hB5 hT5
          rw [msetC_twice] at h5
          have HT5 := hid (HT4.out.then (hT5.mono (fun k hk => (.inr hk : Ch.Own XL BL BA ac k ∨ k = g))))
          have H5 := hid (And.intro h5 hB5)
          clear hB5 hT5 h5 HT4 H4 HG4 lg f2 f4 f5 d2 d4 d5
          generalize ((w4.setCell ⟨g, 2, none⟩ (.int .i64 1)).setCell ⟨g, 4, none⟩ (.int .i64 net)).setCell ⟨g, 5, none⟩ (.int .i64 tax) = w5 at H5 HT5 ⊢
          refine (invoice_any net tax w5).mono ?_
          rintro e w6 ⟨A', cap, rfl, hR, hlo, hb6⟩
          rw [invoiceL_eq ⟨HOK.out.2.1.1, by have := HOK.out.2.1.2; omega⟩ ⟨HOK.out.2.2.1, by have := HOK.out.2.2.2; omega⟩] at hR ⊢
          have h6 := H5.out.1.next hb6
          have K := cpost_any h6 g (invB a0 net tax) (H5.out.2.next hb6) (invE net tax) (by rw [show (invB a0 net tax).c = c from (by have := HC.out; rw [← HA0.out] at this; exact this)]; exact invE_ok (d := d) (c := c) HOK.out.1.2 HOK.out.2.1 HOK.out.2.2 (by have := HR.out; have := HOK.out.2.1; have := HOK.out.2.2; omega)) A' cap hR (fun b hb => H5.out.1.not_xb (hlo b hb))
          rw [invE_debs HOK.out.2.1.1 HOK.out.2.2.1, show (invB a0 net tax).c = c from (by have := HC.out; rw [← HA0.out] at this; exact this)] at K
          replace K := hid K
          have H6 := hid h6
          have HT6 := hid (HT5.out.then (.of_below hb6))
          clear hR hlo hb6 h6 H5 HT5
          go_wp2_with fail
          refine K.out.mono ?_
          rintro e w7 ⟨rfl, hL, hT7⟩
          have h7 := H6.out.ledger hL hT7
          have HT7 := hid (HT6.out.then (hT7.mono (fun k hk => (.inl (Ch.xb_own hk) : Ch.Own XL BL BA ac k ∨ k = g))))
          have K2 := capply_any h7 o ⟨g, invB a0 net tax⟩ (by rw [mget_mset, if_pos rfl]) (by rw [show (invB a0 net tax).c = c from (by have := HC.out; rw [← HA0.out] at this; exact this)]; exact HOK.out.1.2) HSM.out.1 HSM.out.2.1 ⟨HSM.out.2.2.1.1, by have := HSM.out.2.2.1.2; simp only at this ⊢; omega⟩ HSM.out.2.2.2 (by have := HNX.out.2.2.2; have := HR.out; have := HOK.out.2; simp only at *; omega)
          simp only at K2
          rw [show (invB a0 net tax).c = c from (by have := HC.out; rw [← HA0.out] at this; exact this), msetC_twice, addF_app] at K2
          replace K2 := hid K2
          clear K H6 HT6 hL hT7 h7
          go_wp2_with fail
          refine K2.out.mono ?_
          rintro e w8 ⟨rfl, hB8, hT8⟩
          clear K2
          have HT8 := hid (HT7.out.then (hT8.mono (fun k hk => Ch.own_set hk)))
          have H8 := hid hB8
          clear hB8 hT8 HT7
          go_wp2_with fail
          go_ret2
          refine ⟨rfl, ?_⟩
          have hN := HNX.out.2.1
          rw [HA0.out] at hN
          have h8 := H8.out
          rw [HA0.out] at h8 ⊢
          exact PostC.put H.out HGO.out HC.out HAO.out hN (by have := HNX.out.2.2.2; rw [HA0.out] at this; have := HR.out; have := HOK.out.2; omega) h8 HT8.out
      · rw [if_pos (fun e => hs e)]
        have H := hid h
        have hs1 : ((acOf (cfind ac) o c).st != 0) = true := by simpa using hs
        obtain ⟨a0, ha0⟩ : ∃ a0, a0 = acOf (cfind ac) o c := ⟨_, rfl⟩
        rw [← ha0] at A hs1
        clear h hok hc hfa ha0 hs
        go_enter Tryz.func4, Tryz.ntmps4
        go_wp2_with fail
        refine (F1.out _).mono ?_
        rintro e w1 ⟨rfl, rfl⟩
        go_wp2_with fail
        refine (F2.out _).mono ?_
        rintro e w1 ⟨rfl, rfl⟩
        go_wp2_with fail
        refine (F3.out _).mono ?_
        rintro e w1 ⟨rfl, rfl⟩
        go_wp2_with fail
        refine A.out.mono ?_
        rintro e w2 ⟨g, rfl, hg, hcase, hgo, hb⟩
        have c2 : w2.cell? ⟨g, 2, none⟩ = some (.int .i64 a0.st) := hg.cell 2
        have HB := hid hb
        clear hg hcase hgo hb A F1 F2 F3
        go_wp2_with fail
        go_ret2
        exact ⟨rfl, PostC.same H.out HB.out⟩
    · rw [if_pos (fun e => hc e)]
      have H := hid h
      have A := hid (account_bad h.bk o c hc)
      clear h hok hc
      go_enter Tryz.func4, Tryz.ntmps4
      go_wp2_with fail
      refine (F1.out _).mono ?_
      rintro e w1 ⟨rfl, rfl⟩
      go_wp2_with fail
      refine (F2.out _).mono ?_
      rintro e w1 ⟨rfl, rfl⟩
      go_wp2_with fail
      refine (F3.out _).mono ?_
      rintro e w1 ⟨rfl, rfl⟩
      go_wp2_with fail
      refine A.out.mono ?_
      rintro e w2 ⟨rfl, rfl⟩
      clear A
      go_wp2_with fail
      go_ret2
      exact ⟨rfl, PostC.same H.out (Below.refl _ _)⟩
  · rw [if_neg hok]
    have H := hid h
    by_cases h1 : 1 ≤ o ∧ 1 ≤ c ∧ c ≤ 64
    · have F1 := hid (fun w => cfit_yes o c w h1)
      by_cases h2 : 0 ≤ net ∧ net ≤ 281474976710656
      · have F2 := hid (fun w => bet_yes (m := 281474976710656) h2 w)
        have F3 := hid (fun w => bet_no (n := tax) (m := 281474976710656) (fun h3 => hok ⟨h1, h2, h3⟩) w)
        clear h hok h1 h2
        go_enter Tryz.func4, Tryz.ntmps4
        go_wp2_with fail
        refine (F1.out _).mono ?_
        rintro e w1 ⟨rfl, rfl⟩
        go_wp2_with fail
        refine (F2.out _).mono ?_
        rintro e w1 ⟨rfl, rfl⟩
        go_wp2_with fail
        refine (F3.out _).mono ?_
        rintro e w1 ⟨rfl, rfl⟩
        go_wp2_with fail
        go_ret2
        exact ⟨rfl, PostC.same H.out (Below.refl _ _)⟩
      · have F2 := hid (fun w => bet_no (m := 281474976710656) h2 w)
        clear h hok h1 h2
        go_enter Tryz.func4, Tryz.ntmps4
        go_wp2_with fail
        refine (F1.out _).mono ?_
        rintro e w1 ⟨rfl, rfl⟩
        go_wp2_with fail
        refine (F2.out _).mono ?_
        rintro e w1 ⟨rfl, rfl⟩
        go_wp2_with fail
        go_ret2
        exact ⟨rfl, PostC.same H.out (Below.refl _ _)⟩
    · have F1 := hid (fun w => cfit_no o c w h1)
      clear h hok h1
      go_enter Tryz.func4, Tryz.ntmps4
      go_wp2_with fail
      refine (F1.out _).mono ?_
      rintro e w1 ⟨rfl, rfl⟩
      go_wp2_with fail
      go_ret2
      exact ⟨rfl, PostC.same H.out (Below.refl _ _)⟩
set_option maxRecDepth 100000 in
set_option maxHeartbeats 8000000 in
theorem crcv_any (h : IsC n0 w X XL BL BA ac d) (hn0 : n0 ≤ w.heap.size) (o c n : Int) (hi : I64 n) :
    Calls Tryz.prog 5 #[.pointer (some ⟨X, 0, none⟩), .int .i64 o, .int .i64 c, .int .i64 n] w fun e w' => e = .returned (.tuple #[.bool (rcvR (cfind ac) d o c n).paid, .int .i64 (rcvR (cfind ac) d o c n).code]) ∧ PostC n0 X XL BL BA ac o (rcvR (cfind ac) d o c n) w w' := by
  unfold rcvR
  by_cases hok : okRcv o c n
  · rw [if_pos hok]
    have F1 := hid (fun w => cfit_yes o c w hok.1)
    have F2 := hid (fun w => bet_yes (n := n - 1) (m := 281474976710655) ⟨by have := hok.2.1; omega, by have := hok.2.2; omega⟩ w)
    have wn : IntKind.i64.wrap (n - 1) = n - 1 := IntWalk.i64_in _ ⟨by have := hok.2.1; omega, by have := hok.2.2; omega⟩
    by_cases hc : (acOf (cfind ac) o c).c = c
    · rw [if_neg (fun e => e hc)]
      have hfa := (acOf_fit h.gd (o := o) (c := c) hok.1.1 hok.1.2)
      have A := hid (account_any h.bk hn0 o c hc)
      by_cases hr : 576460752303423488 - (n) < d
      · rw [if_pos hr]
        have H := hid h
        have HOK := hid hok
        have HR := hid hr
        obtain ⟨a0, ha0⟩ : ∃ a0, a0 = acOf (cfind ac) o c := ⟨_, rfl⟩
        rw [← ha0] at A 
        clear h hok hr hc hfa ha0
        go_enter Tryz.func5, Tryz.ntmps5
        go_wp2_with fail
        refine (F1.out _).mono ?_
        rintro e w1 ⟨rfl, rfl⟩
        go_wp2_with fail
        refine (F2.out _).mono ?_
        rintro e w1 ⟨rfl, rfl⟩
        go_wp2_with fail
        refine (A.out).mono ?_
        rintro e w2 ⟨g, rfl, hg, hcase, hgo, hb⟩
        have R := room_any (H.out.bk.next hb) (n) (by have := HOK.out.2.1; omega) (by have := HOK.out.2.2; omega)
        rw [roomR_many HR.out] at R
        replace R := hid R
        have HB := hid hb
        clear hg hcase hgo hb A F1 F2
        go_wp2_with fail
        refine R.out.mono ?_
        rintro e w3 ⟨rfl, hb3⟩
        clear R
        go_wp2_with fail
        go_ret2
        exact ⟨rfl, PostC.same H.out (bthen HB.out hb3)⟩
      · rw [if_neg hr]
        have hNX := rcv_next (c := c) (d := d) (n := n) hfa.1 (by have := hok.2.1; omega) (by have := hfa.2.2; have := hfa.1.wt0; have := h.gd.tot; omega)
        have hpa : SmallC (rcvB (acOf (cfind ac) o c) n) := ⟨hfa.1.small.n, hfa.1.small.t, hfa.1.small.p, hfa.1.small.w⟩
        have hdp : 0 ≤ (rcvB (acOf (cfind ac) o c) n).dep ∧ (rcvB (acOf (cfind ac) o c) n).dep ≤ 576460752303423488 := by
          have := hfa.1.d0
          have := hfa.1.d1
          have := hfa.2.2
          have := hfa.1.wt0
          have := h.gd.tot
          have := hok.2.1
          simp only [rcvB]
          omega
        have hop : 0 ≤ openC (rcvB (acOf (cfind ac) o c) n) ∧ openC (rcvB (acOf (cfind ac) o c) n) ≤ 1125899906842624 := by
          have := hfa.1.open0
          have := hfa.1.w0
          have := hfa.1.p0
          simp only [openC, rcvB] at *; omega
        have hfit := hfa.1
        have hao := hfa.2.1
        have H := hid h
        have HOK := hid hok
        have HR := hid hr
        have HN0 := hid hn0
        have HC := hid hc
        have HAO := hid hao
        have hs2 := hpa
        obtain ⟨a0, ha0⟩ : ∃ a0, a0 = acOf (cfind ac) o c := ⟨_, rfl⟩
        rw [← ha0] at A hNX hs2 hdp hop hfit ⊢
        have HA0 := hid ha0
        have HNX := hid hNX
        have HSM := hid (And.intro hs2 (And.intro hNX.2.1.fit.small (And.intro hdp hop)))
        have HFIT := hid hfit
        clear h hok hr hn0 hc hfa ha0 hNX hpa hdp hop hfit hao hs2
        go_enter Tryz.func5, Tryz.ntmps5
        go_wp2_with fail
        refine (F1.out _).mono ?_
        rintro e w1 ⟨rfl, rfl⟩
        go_wp2_with fail
        refine (F2.out _).mono ?_
        rintro e w1 ⟨rfl, rfl⟩
        go_wp2_with fail
        refine A.out.mono ?_
        rintro e w2 ⟨g, rfl, hg, hcase, hgo, hb⟩
        have R := room_any (H.out.bk.next hb) (n) (by have := HOK.out.2.1; omega) (by have := HOK.out.2.2; omega)
        rw [roomR_zero (by have := HR.out; omega)] at R
        replace R := hid R
        have HB := hid hb
        have HG := hid hg
        have HCS := hid hcase
        have HGO := hid hgo
        clear hg hcase hgo hb A F1 F2
        go_wp2_with fail
        refine R.out.mono ?_
        rintro e w3 ⟨rfl, hb3⟩
        have wd : IntKind.i64.wrap (a0.dep + n) = a0.dep + n := IntWalk.i64_in _ ⟨by have := HFIT.out.d0; have := HOK.out.2.1; omega, by have := HFIT.out.d1; have := HOK.out.2.2; omega⟩
        have cA : w3.cell? ⟨X, 1, none⟩ = some (.map (some BA)) := ((H.out.bk.next HB.out).next hb3).cellA
        have H3 := hid ((H.out.bk.next HB.out).next hb3)
        have HG3 := hid (HG.out.next hb3)
        have HB3 := hid (bthen HB.out hb3)
        clear R HG HB hb3
        go_wp2_with (first
          | (at_mapUpdate; refine wpList_store _ rfl _ _ _ 64 59 rfl keyC Tryz.underlying64 BA ac rfl H3.out.acs o ⟨g, a0⟩ rfl rfl ?_; intro w4 hM4 hg4 hs4; (have H4 := hid (H3.out.keepPut HCS.out HG3.out hM4 hg4)); (have hG4 := (Touch.of_grown hg4).blk HG3.out (fun e => H3.out.acs.notBlk HG3.out e.symm)); (have HT4 := hid ((Touch.of_below (S := fun k => Ch.Own XL BL BA ac k ∨ k = g) HB3.out).then ((Touch.of_grown hg4).mono (fun k hk => .inl (.inr (.inr (.inl hk))))))); (have lg := hG4.lt); (have c8 : w4.cell? ⟨g, 8, none⟩ = some (.int .i64 a0.dep) := hG4.cell 8); (have f8 : w4.frozen? ⟨g, 8, none⟩ = false := hG4.free 8); have HG4 := hid hG4; clear hM4 hg4 hs4 hG4 cA))
        have hB5 : Blk (w4.setCell ⟨g, 8, none⟩ (.int .i64 (a0.dep + n))) g 35 (celC (rcvB a0 n)) := HG4.out.set_ 8 (.int .i64 (a0.dep + n))
        have hT5 := Touch.setCell w4 g 8 (.int .i64 (a0.dep + n))
        have h5 := H4.out.put (o := o) (p := ⟨g, a0⟩) (a' := rcvB a0 n) (by rw [mget_mset, if_pos rfl]) hB5 hT5
        rw [msetC_twice] at h5
        have HT5 := hid (HT4.out.then (hT5.mono (fun k hk => (.inr hk : Ch.Own XL BL BA ac k ∨ k = g))))
        have H5 := hid (And.intro h5 hB5)
        clear hB5 hT5 h5 HT4 H4 HG4 lg c8 f8 wd
        generalize w4.setCell ⟨g, 8, none⟩ (.int .i64 (a0.dep + n)) = w5 at H5 HT5 ⊢
        refine (receipt_any n w5).mono ?_
        rintro e w6 ⟨A', cap, rfl, hR, hlo, hb6⟩
        rw [moveL_eq ⟨by have := HOK.out.2.1; omega, by have := HOK.out.2.2; omega⟩] at hR ⊢
        have h6 := H5.out.1.next hb6
        have K := cpost_any h6 g (rcvB a0 n) (H5.out.2.next hb6) (moveE 0 4 n) (by rw [show (rcvB a0 n).c = c from (by have := HC.out; rw [← HA0.out] at this; exact this)]; exact moveE_ok (d := d) (c := c) HOK.out.1.2 ⟨by have := HOK.out.2.1; omega, by have := HOK.out.2.2; omega⟩ (by omega) (by omega) (by have := HR.out; have := HOK.out.2.2; omega)) A' cap hR (fun b hb => H5.out.1.not_xb (hlo b hb))
        rw [moveE_debs (show (0 : Int) ≤ n by have := HOK.out.2.1; omega), show (rcvB a0 n).c = c from (by have := HC.out; rw [← HA0.out] at this; exact this)] at K
        replace K := hid K
        have H6 := hid h6
        have HT6 := hid (HT5.out.then (.of_below hb6))
        clear hR hlo hb6 h6 H5 HT5
        go_wp2_with fail
        refine K.out.mono ?_
        rintro e w7 ⟨rfl, hL, hT7⟩
        have h7 := H6.out.ledger hL hT7
        have HT7 := hid (HT6.out.then (hT7.mono (fun k hk => (.inl (Ch.xb_own hk) : Ch.Own XL BL BA ac k ∨ k = g))))
        have K2 := capply_any h7 o ⟨g, rcvB a0 n⟩ (by rw [mget_mset, if_pos rfl]) (by rw [show (rcvB a0 n).c = c from (by have := HC.out; rw [← HA0.out] at this; exact this)]; exact HOK.out.1.2) HSM.out.1 HSM.out.2.1 ⟨HSM.out.2.2.1.1, by have := HSM.out.2.2.1.2; simp only at this ⊢; omega⟩ HSM.out.2.2.2 (by have := HNX.out.2.2.2; have := HR.out; have := HOK.out.2; simp only at *; omega)
        simp only at K2
        rw [show (rcvB a0 n).c = c from (by have := HC.out; rw [← HA0.out] at this; exact this), msetC_twice, addF_app] at K2
        replace K2 := hid K2
        clear K H6 HT6 hL hT7 h7
        go_wp2_with fail
        refine K2.out.mono ?_
        rintro e w8 ⟨rfl, hB8, hT8⟩
        clear K2
        have HT8 := hid (HT7.out.then (hT8.mono (fun k hk => Ch.own_set hk)))
        have H8 := hid hB8
        clear hB8 hT8 HT7
        go_wp2_with fail
        go_ret2
        refine ⟨rfl, ?_⟩
        have hN := HNX.out.2.1
        rw [HA0.out] at hN
        have h8 := H8.out
        rw [HA0.out] at h8 ⊢
        exact PostC.put H.out HGO.out HC.out HAO.out hN (by have := HNX.out.2.2.2; rw [HA0.out] at this; have := HR.out; have := HOK.out.2; omega) h8 HT8.out
    · rw [if_pos (fun e => hc e)]
      have H := hid h
      have A := hid (account_bad h.bk o c hc)
      clear h hok hc
      go_enter Tryz.func5, Tryz.ntmps5
      go_wp2_with fail
      refine (F1.out _).mono ?_
      rintro e w1 ⟨rfl, rfl⟩
      go_wp2_with fail
      refine (F2.out _).mono ?_
      rintro e w1 ⟨rfl, rfl⟩
      go_wp2_with fail
      refine A.out.mono ?_
      rintro e w2 ⟨rfl, rfl⟩
      clear A
      go_wp2_with fail
      go_ret2
      exact ⟨rfl, PostC.same H.out (Below.refl _ _)⟩
  · rw [if_neg hok]
    have H := hid h
    have hi := I64.bd hi
    by_cases h1 : 1 ≤ o ∧ 1 ≤ c ∧ c ≤ 64
    · have F1 := hid (fun w => cfit_yes o c w h1)
      by_cases hm : n = -9223372036854775808
      · subst hm
        have F2 := hid (fun w => bet_no (n := wrap64 (-9223372036854775809)) (m := 281474976710655) (by unfold wrap64; omega) w)
        clear h hok h1 hi
        go_enter Tryz.func5, Tryz.ntmps5
        go_wp2_with fail
        refine (F1.out _).mono ?_
        rintro e w1 ⟨rfl, rfl⟩
        go_wp2_with fail
        refine (F2.out _).mono ?_
        rintro e w1 ⟨rfl, rfl⟩
        go_wp2_with fail
        go_ret2
        exact ⟨rfl, PostC.same H.out (Below.refl _ _)⟩
      · have F2 := hid (fun w => bet_no (n := n - 1) (m := 281474976710655) (fun h3 => hok ⟨h1, by omega, by omega⟩) w)
        by_cases hi2 : n ≤ 9223372036854775807
        · have wn : IntKind.i64.wrap (n - 1) = n - 1 := IntWalk.i64_in _ ⟨by omega, by omega⟩
          clear h hok h1 hm hi hi2
          go_enter Tryz.func5, Tryz.ntmps5
          go_wp2_with fail
          refine (F1.out _).mono ?_
          rintro e w1 ⟨rfl, rfl⟩
          go_wp2_with fail
          refine (F2.out _).mono ?_
          rintro e w1 ⟨rfl, rfl⟩
          go_wp2_with fail
          go_ret2
          exact ⟨rfl, PostC.same H.out (Below.refl _ _)⟩
        · omega
    · have F1 := hid (fun w => cfit_no o c w h1)
      clear h hok h1
      go_enter Tryz.func5, Tryz.ntmps5
      go_wp2_with fail
      refine (F1.out _).mono ?_
      rintro e w1 ⟨rfl, rfl⟩
      go_wp2_with fail
      go_ret2
      exact ⟨rfl, PostC.same H.out (Below.refl _ _)⟩
end

end Go.Proofs.YthdmbbfppgenlaaGreat
