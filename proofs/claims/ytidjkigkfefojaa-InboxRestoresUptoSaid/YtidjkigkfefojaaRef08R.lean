/-
  The document's inbox: Restore, at whatever list.
-/
import Derived.Test.YtidjkigkfefojaaRest08W
import Derived.Test.YtidjkigkfefojaaAlike08
import Derived.Deep.RegionHeldLaw
import Derived.Deep.AppendLies
namespace Go.Proofs.Ytidjkigkfefojaa
open Go.RowKit Go.WideShapes Go.ChangeShapes Go.ChangeAt Go.Deep
set_option linter.unusedVariables false

/-- What the document's Restore leaves. -/
def RRestPost (l : List Ent) (w : World) (e : Ending) (w' : World) : Prop :=
  (GoodL l → ∃ R A cap, e = .returned (.tuple #[.pointer (some ⟨R, 0, none⟩), .int .i64 0]) ∧ w.heap.size ≤ R ∧ IsRef (w.heap.size + 1) w' R A cap l) ∧ (¬ GoodL l → e = .returned (.tuple #[.pointer none, .int .i64 2]))

def goodAt1 (l : List Ent) (k : Nat) : Prop := ∀ e, l[k]? = some e → EntOk e

/-- One more at the end. -/
theorem ref_push {base R cap : Nat} {A : Option Addr} {r : List Ent} {x : Ent} {w2 w3 : World} {v' : Value} (h : IsRef base w2 R A cap r) (hlt2 : base ≤ w2.heap.size)
    (hO : w3.ownsRow base 70 5 v' (r.length + 1) (r.flatMap enE5 ++ enE5 x)) (hg : (w2.alloc (.cells (enE5 x).toArray 70)).grownBy w3 (Value.slice A r.length cap).ownBlock) :
    ∃ A' cap', v' = .slice A' (r.length + 1) cap' ∧ IsRef base (w3.setCell ⟨R, 0, none⟩ (.slice A' (r.length + 1) cap')) R A' cap' (r ++ [x]) ∧ w3.cell? ⟨R, 0, none⟩ = some (.slice A r.length cap) ∧ w3.frozen? ⟨R, 0, none⟩ = false ∧
      ∀ n w0, Below n w0 w2 → n ≤ R → n ≤ base → Below n w0 (w3.setCell ⟨R, 0, none⟩ (.slice A' (r.length + 1) cap')) := by
  have hlt := h.lt
  have e : r.flatMap enE5 ++ enE5 x = (r ++ [x]).flatMap enE5 := by simp
  rw [e] at hO
  obtain ⟨g, cap', rfl, hbg, hgl⟩ := own_form (v := v') (l := r ++ [x]) (enc := enE5) (s := 5) (by simpa using hO) (by simp)
  have hB3 : Blk w3 R 43 #[.slice A r.length cap] := (h.blk.alloc (.cells (enE5 x).toArray 70)).grown hg (fun e => by have := (h.own.lt R e.symm).1; omega)
  refine ⟨some ⟨g, 0, none⟩, cap', by simp, ⟨?_, ?_, hlt⟩, hB3.cell 0, hB3.free 0, fun n w0 hb hn1 hn2 => ?_⟩
  · have := hB3.set_ 0 (.slice (some ⟨g, 0, none⟩) (r.length + 1) cap')
    simpa using this
  · have hg2 : w3.grownBy (w3.setCell ⟨R, 0, none⟩ (.slice (some ⟨g, 0, none⟩) (r.length + 1) cap')) (some R) := ⟨rfl, rfl, rfl, by simp, fun k _ hk => heap_setCell_other w3 ⟨R, 0, none⟩ k _ (fun e => hk (by simp [e]))⟩
    have := hO.kept hg2 (.inr (by simp [Value.ownBlock]; omega))
    simpa using this
  · have hsz := hb.size
    have h2 : n ≤ w2.heap.size := by omega
    exact ((hb.alloc h2 _).grown hg (by simp; omega) (fun k hk => by have := (h.own.lt k hk).1; omega)).setCell (by simpa using hn1) _

set_option maxRecDepth 100000 in
set_option maxHeartbeats 16000000 in
theorem rrestore_any (l : List Ent) (A : Option Addr) (cp : Nat) (w : World) (hR : Rd w A (l.flatMap enE5)) (hl : l.length * 40 ≤ 140737488351232) :
    Calls Try.prog 18 #[.slice A l.length cp] w fun e w' => RRestPost l w e w' ∧ Below w.heap.size w w' := by
  obtain ⟨i0, hi, hz0, hz1, hz2⟩ := info_parts info_ent2
  have hbl : Blk (w.alloc (.cells #[.slice none 0 0] 43)) w.heap.size 43 #[.slice none 0 0] := Blk.new _ _ _
  have h0 : IsRef (w.heap.size + 1) (w.alloc (.cells #[.slice none 0 0] 43)) w.heap.size none 0 [] := ⟨hbl, World.ownsRow_nil _ _ _ _, Nat.lt_succ_self _⟩
  have hb0 : Below w.heap.size w (w.alloc (.cells #[.slice none 0 0] 43)) := (Below.refl _ _).alloc (Nat.le_refl _) _
  have hs0 : w.heap.size + 1 ≤ (w.alloc (.cells #[.slice none 0 0] 43)).heap.size := by simp
  have H0 := hid (And.intro h0 (And.intro hb0 hs0))
  clear hbl h0 hb0 hs0
  go_enter Try.func18, Try.ntmps18
  go_wp2_with fail
  obtain ⟨h0, hb0, hs0⟩ := H0.out
  clear H0
  obtain ⟨w1, hw1⟩ : ∃ w1, w1 = w.alloc (.cells #[.slice none 0 0] 43) := ⟨_, rfl⟩
  rw [← hw1] at h0 hb0 hs0 ⊢
  obtain ⟨R, hRR⟩ : ∃ R, R = w.heap.size := ⟨_, rfl⟩
  have hRw : w.heap.size ≤ R := by omega
  have hbs1 : w.heap.size ≤ w.heap.size + 1 := by omega
  obtain ⟨base, hbase⟩ : ∃ base, base = w.heap.size + 1 := ⟨_, rfl⟩
  rw [← hbase] at h0 hs0 hbs1
  rw [← hRR] at h0 ⊢
  have HBASE := hid hbase
  clear hw1 hRR hbase
  go_loopw [5] (fun i wr => ∃ (k : Nat) (A' : Option Addr) (cap' : Nat), k ≤ l.length ∧ i = .int .i64 k ∧ Hid (∀ j, j < k → goodAt l j) ∧ IsRef base wr R A' cap' (l.take k) ∧ Below w.heap.size w wr ∧ base ≤ wr.heap.size) (fun i _ => l.length - (intOf i).toNat)
  case atStart => exact ⟨0, none, 0, Nat.zero_le _, rfl, hid (fun j hj => by omega), h0, hb0, hs0⟩
  case round =>
    clear h0 hb0 hs0
    obtain ⟨k, A', cap', hk, rfl, hgd, h, hb, hbs⟩ := hrel
    by_cases hlt : k < l.length
    · obtain ⟨x, hx⟩ : ∃ x, l[k]? = some x := ⟨l[k], List.getElem?_eq_getElem hlt⟩
      have hR1 := hR.below hb
      obtain ⟨b, off, rfl, hbl, hcc⟩ := hR1.at_ 5 enE5_len (by omega) hx
      have HS : Hid (l.take (k + 1) = l.take k ++ [x]) := hid (by rw [List.take_add_one, hx]; rfl)
      have hln : (l.take k).length = k := by simp; omega
      have HXk := hid hx
      have hnR : ¬ R = wr.heap.size := fun e => by have := h.blk.lt; omega
      have HL : Hid (∀ b, b = R ∨ b = wr.heap.size → some b ≠ (Value.slice A' k cap').ownBlock) := hid (fun b hb e => by have := h.own.lt b (by rw [hln]; exact e.symm); have := h.lt; omega)
      have HY : Hid (∀ (e : Ending) (w5 : World), ¬ goodAt l k → e = .returned (.tuple #[.pointer none, .int .i64 2]) → RRestPost l w e w5) := hid (fun e w5 h1 h2 => ⟨fun h3 => absurd (h3 k hlt) h1, fun _ => h2⟩)
      have hprev : k = 0 ∨ ∃ y : Ent, 0 < k ∧ Hid (l[k - 1]? = some y) ∧ CellsAt wr b (off + (k - 1) * 5) (enE5 y) := by
        rcases Nat.eq_zero_or_pos k with h0 | h0
        · exact .inl h0
        · right
          have hk1 : k - 1 < l.length := by omega
          obtain ⟨b', off', e', _, hc'⟩ := hR1.at_ (k := k - 1) (x := l[k - 1]) 5 enE5_len (by omega) (List.getElem?_eq_getElem hk1)
          simp only [Option.some.injEq, Addr.mk.injEq, and_true] at e'
          obtain ⟨rfl, rfl⟩ := e'
          exact ⟨l[k - 1], h0, hid (List.getElem?_eq_getElem hk1), hbl, hc'⟩
      obtain ⟨xo, xs, xt, xc, xb⟩ := x
      have q0 : wr.cell? ⟨b, off + k * 5, none⟩ = some (.int .i64 xo) := hcc 0 _ rfl
      have q1 : wr.cell? ⟨b, off + k * 5 + 1, none⟩ = some (.int .i64 xs) := hcc 1 _ rfl
      have q2 : wr.cell? ⟨b, off + k * 5 + 2, none⟩ = some (.int .i64 xt) := hcc 2 _ rfl
      have q3 : wr.cell? ⟨b, off + k * 5 + 3, none⟩ = some (.int .i64 xc) := hcc 3 _ rfl
      have q4 : wr.cell? ⟨b, off + k * 5 + 4, none⟩ = some (.bool xb) := hcc 4 _ rfl
      have hG0 : Blk (wr.alloc (.cells #[.int .i64 xo, .int .i64 xs, .int .i64 xt, .int .i64 xc, .bool xb] 70)) wr.heap.size 70 #[.int .i64 xo, .int .i64 xs, .int .i64 xt, .int .i64 xc, .bool xb] := Blk.new _ _ _
      have ha : Below wr.heap.size wr (wr.alloc (.cells #[.int .i64 xo, .int .i64 xs, .int .i64 xt, .int .i64 xc, .bool xb] 70)) := (Below.refl _ _).alloc (Nat.le_refl _) _
      have h1 := h.next ha
      have hb1 := bthen hb ha
      have hbs2 : base ≤ (wr.alloc (.cells #[.int .i64 xo, .int .i64 xs, .int .i64 xt, .int .i64 xc, .bool xb] 70)).heap.size := by simp; omega
      have hprev2 : k = 0 ∨ ∃ y : Ent, 0 < k ∧ Hid (l[k - 1]? = some y) ∧ CellsAt (wr.alloc (.cells #[.int .i64 xo, .int .i64 xs, .int .i64 xt, .int .i64 xc, .bool xb] 70)) b (off + (k - 1) * 5) (enE5 y) := by
        rcases hprev with h0 | ⟨y, h0, hy, hc⟩
        · exact .inl h0
        · exact .inr ⟨y, h0, hy, hc.next ha⟩
      have HH := hid (And.intro hG0 (And.intro h1 (And.intro hb1 (And.intro hbs2 hprev2))))
      clear hG0 ha h1 hb1 hbs2 hprev2 hprev hcc hx hR1 h hb hbs
      have hnR2 := hid hnR
      clear hnR
      by_cases hok : EntOk ⟨xo, xs, xt, xc, xb⟩
      · obtain ⟨ok1, ok2⟩ := hok
        simp only at ok1 ok2
        have HOK := hid (show EntOk ⟨xo, xs, xt, xc, xb⟩ from ⟨ok1, ok2⟩)
        have HGOOD : Hid (∀ hp : (∀ y, 0 < k → l[k - 1]? = some y → ltE y ⟨xo, xs, xt, xc, xb⟩ = true), goodAt l k) := hid (fun hp e he => by rw [HXk.out] at he; injection he with he; subst he; exact ⟨HOK.out, hp⟩)
        have b1 : decide (xt < 0) = false := decide_eq_false (by omega)
        have hz : xt ≠ 0 ∨ (xt = 0 ∧ xc = 0 ∧ xb = true) := by
          by_cases h0 : xt = 0
          · exact .inr ⟨h0, ok2 h0⟩
          · exact .inl h0
        clear ok1 ok2
        rcases hz with hz | ⟨hz, hz2, hz3⟩
        · have b2 : (xt == 0) = false := by simpa using hz
          clear hz
          obtain ⟨hG, h, hb, hbs, hprev⟩ := HH.out
          clear HH
          obtain ⟨wz, hwz⟩ : ∃ wz, wz = wr.alloc (.cells #[.int .i64 xo, .int .i64 xs, .int .i64 xt, .int .i64 xc, .bool xb] 70) := ⟨_, rfl⟩
          have HW := hid hwz
          rw [← hwz] at hG h hb hbs hprev
          clear hwz
          obtain ⟨G, hGG⟩ : ∃ G, G = wr.heap.size := ⟨_, rfl⟩
          have HG := hid hGG
          have hGR : G ≠ R := fun e => hnR2.out (by rw [← e, hGG])
          have HL2 := hid (show some R ≠ (Value.slice A' k cap').ownBlock ∧ some G ≠ (Value.slice A' k cap').ownBlock from ⟨HL.out R (.inl rfl), HL.out G (.inr hGG)⟩)
          rw [← hGG] at hG
          clear hGG HL
          rcases hprev with hkz | ⟨y, hkp, hy, hP⟩
          · have hk0 : decide (0 < k) = false := decide_eq_false (by omega)
            have HV := hid (HGOOD.out (fun y hy0 _ => by omega))
            clear hkz HGOOD
            go_wp2_with fail
            rw [← HW.out, ← HG.out]
            have c0 : wz.cell? ⟨R, 0, none⟩ = some (.slice A' k cap') := by have := h.blk.cell 0; rw [hln] at this; exact this
            have g0 : wz.cell? ⟨G, 0, none⟩ = some (.int .i64 xo) := hG.cell 0
            have g1 : wz.cell? ⟨G, 1, none⟩ = some (.int .i64 xs) := hG.cell 1
            have g2 : wz.cell? ⟨G, 2, none⟩ = some (.int .i64 xt) := hG.cell 2
            have g3 : wz.cell? ⟨G, 3, none⟩ = some (.int .i64 xc) := hG.cell 3
            have g4 : wz.cell? ⟨G, 4, none⟩ = some (.bool xb) := hG.cell 4
            have lR : R < wz.heap.size := h.blk.lt
            have lG : G < wz.heap.size := hG.lt
            have hd := h.next (below_drewN (Below.refl _ _) 1)
            have hO := hid (show (wz.drew.alloc (.cells #[.int .i64 xo, .int .i64 xs, .int .i64 xt, .int .i64 xc, .bool xb] 70)).ownsRow base 70 5 (.slice A' k cap') k ((l.take k).flatMap enE5) from by have := hd.own.alloc (.cells #[.int .i64 xo, .int .i64 xs, .int .i64 xt, .int .i64 xc, .bool xb] 70); rw [hln] at this; exact this)
            have hG2 := hG.next (w' := wz.drew.alloc (.cells #[.int .i64 xo, .int .i64 xs, .int .i64 xt, .int .i64 xc, .bool xb] 70)) ((below_drewN (Below.refl _ _) 1).alloc (Nat.le_refl _) _)
            have HPUSH := hid (fun v' w3 => ref_push (x := ⟨xo, xs, xt, xc, xb⟩) (v' := v') (w3 := w3) hd hbs)
            rw [hln] at HPUSH
            have hRb := (show Blk _ R 43 #[.slice A' k cap'] from by have := hd.blk; rw [hln] at this; exact this).alloc (.cells (enE5 ⟨xo, xs, xt, xc, xb⟩).toArray 70)
            have hbD := hid hb.drew
            clear h hG hb hd
            go_region_law ((refine step_append_lies _ (by rfl) _ _ _ (by rfl) base 70 i0 _ 5 40 Try.underlying41 hi hz0 hz1 hz2 rfl (by decide) _ _ _ (by rfl) hO.out ⟨wz.heap.size, 0, none⟩ 1 1 [.int .i64 xo, .int .i64 xs, .int .i64 xt, .int .i64 xc, .bool xb] (by rfl) (by rfl) (World.news_of_block (heap_alloc_new _ _)) (enE5_one ⟨xo, xs, xt, xc, xb⟩) (by omega) (by unfold maxLen; omega) (by omega) (by simp; omega) _ rfl ?_; intro g7 cap7 w7 hO7 hg7 hat7 hlt7; have hB7 := hRb.grown hg7 HL2.out.1; have c7 : w7.cell? ⟨R, 0, none⟩ = some (.slice A' k cap') := hB7.cell 0; have f7 := hB7.free 0; have hG7 := hG2.grown hg7 HL2.out.2))
            all_goals
              have hP7 := HPUSH.out _ _ hO7 hg7
              obtain ⟨A2, cap2, e7, hI7, _, _, hbel7⟩ := hP7
              injection e7 with e8 e9 e10
              subst e8 e10
              have hb7 := hbel7 _ _ hbD.out hRw hbs1
              have hbs7 : base ≤ w7.heap.size := by have := hg7.size; simp at this; omega
              clear hbel7 hO7 hg7 hat7 hlt7 c7 f7 hG7 hB7 HPUSH hO hG2 hRb hbD c0 g0 g1 g2 g3 g4
              go_wp2_with fail
              go_roundw
              case rel => exact ⟨k + 1, _, _, by omega, by go_num, hid (fun j hj => (Nat.lt_succ_iff_lt_or_eq.1 hj).elim (fun h => hgd.out j h) (fun e => by subst e; exact HV.out)), by rw [HS.out]; simpa [hln] using hI7, hb7, by simpa using hbs7⟩
              case measure => simp [intOf]; omega
          · have hk0 : decide (0 < k) = true := decide_eq_true hkp
            have hkw : IntKind.i64.wrap ((k : Int) - 1) = ((k - 1 : Nat) : Int) := by rw [IntWalk.i64_in _ ⟨by omega, by omega⟩]; omega
            have hk1 : k - 1 < l.length := by omega
            obtain ⟨yo, ys, yt, yc, yb⟩ := y
            obtain ⟨cv, hcv⟩ : ∃ cv, ltE ⟨yo, ys, yt, yc, yb⟩ ⟨xo, xs, xt, xc, xb⟩ = cv := ⟨_, rfl⟩
            have HCV := hid hcv
            obtain ⟨C, hCd⟩ : ∃ C : World → Prop, ∀ w', C w' ↔ (IsRef base w' R A' cap' (l.take k) ∧ Blk w' G 70 #[.int .i64 xo, .int .i64 xs, .int .i64 xt, .int .i64 xc, .bool xb] ∧ CellsAt w' b (off + (k - 1) * 5) (enE5 ⟨yo, ys, yt, yc, yb⟩) ∧ Below w.heap.size w w' ∧ base ≤ w'.heap.size) := ⟨_, fun _ => Iff.rfl⟩
            have hK : ∀ w1 w2, C w1 → Below w1.heap.size w1 w2 → C w2 := fun w1 w2 h hb => by
              obtain ⟨a1, a2, a3, a4, a5⟩ := (hCd _).1 h
              exact (hCd _).2 ⟨a1.next hb, a2.next hb, a3.next hb, bthen a4 hb, Nat.le_trans a5 hb.size⟩
            have hC : C wz.drew := hK _ _ ((hCd _).2 ⟨h, hG, hP, hb, hbs⟩) (below_drewN (Below.refl _ _) 1)
            have g0 : ∀ p : In C, p.w.cell? ⟨G, 0, none⟩ = some (.int .i64 xo) := fun p => ((hCd _).1 p.h).2.1.cell 0
            have g1 : ∀ p : In C, p.w.cell? ⟨G, 1, none⟩ = some (.int .i64 xs) := fun p => ((hCd _).1 p.h).2.1.cell 1
            have g2 : ∀ p : In C, p.w.cell? ⟨G, 2, none⟩ = some (.int .i64 xt) := fun p => ((hCd _).1 p.h).2.1.cell 2
            have g3 : ∀ p : In C, p.w.cell? ⟨G, 3, none⟩ = some (.int .i64 xc) := fun p => ((hCd _).1 p.h).2.1.cell 3
            have g4 : ∀ p : In C, p.w.cell? ⟨G, 4, none⟩ = some (.bool xb) := fun p => ((hCd _).1 p.h).2.1.cell 4
            have p0 : ∀ p : In C, p.w.cell? ⟨b, off + (k - 1) * 5, none⟩ = some (.int .i64 yo) := fun p => ((hCd _).1 p.h).2.2.1.2 0 _ rfl
            have p1 : ∀ p : In C, p.w.cell? ⟨b, off + (k - 1) * 5 + 1, none⟩ = some (.int .i64 ys) := fun p => ((hCd _).1 p.h).2.2.1.2 1 _ rfl
            have p2 : ∀ p : In C, p.w.cell? ⟨b, off + (k - 1) * 5 + 2, none⟩ = some (.int .i64 yt) := fun p => ((hCd _).1 p.h).2.2.1.2 2 _ rfl
            have p3 : ∀ p : In C, p.w.cell? ⟨b, off + (k - 1) * 5 + 3, none⟩ = some (.int .i64 yc) := fun p => ((hCd _).1 p.h).2.2.1.2 3 _ rfl
            have p4 : ∀ p : In C, p.w.cell? ⟨b, off + (k - 1) * 5 + 4, none⟩ = some (.bool yb) := fun p => ((hCd _).1 p.h).2.2.1.2 4 _ rfl
            have O : Hid (∀ p : In C, Calls Try.prog 26 #[.agg #[.int .i64 yo, .int .i64 ys, .int .i64 yt, .int .i64 yc, .bool yb], .agg #[.int .i64 xo, .int .i64 xs, .int .i64 xt, .int .i64 xc, .bool xb]] p.w fun e w' => e = .returned (.bool cv) ∧ C w') := hid (fun p => by have := before_any ⟨yo, ys, yt, yc, yb⟩ ⟨xo, xs, xt, xc, xb⟩ p.w; rw [HCV.out] at this; exact this.mono fun _ _ ⟨e1, e2⟩ => ⟨e1, hK _ _ p.h e2⟩)
            have HCd := hid hCd
            clear hCd hK h hG hb hP hcv hbs
            go_wp2_with fail
            rw [← HW.out, ← HG.out]
            refine wp_region_in C (by kernel_rfl) (by kernel_rfl) hC ?_
            intro hne
            clear hC
            repeat (first | go_big_quiet_step ((go_at_call 26; exact Calls.in_of (O.out _))) | quiet_step ((go_at_call 26; exact Calls.in_of (O.out _))))
            refine wpQuiet_nil ?_
            intro wq hq
            obtain ⟨h, hG, hP, hb, hbs⟩ := (HCd.out _).1 hq
            clear g0 g1 g2 g3 g4 p0 p1 p2 p3 p4 O hne hq HCd hkw hP HW HG
            cases cv with
            | true =>
              have HV := hid (HGOOD.out (fun y hy0 hy2 => by rw [hy.out] at hy2; injection hy2 with hy2; subst hy2; exact HCV.out))
              clear HGOOD HCV hy
              go_wp2_with fail
              have c0 : wq.cell? ⟨R, 0, none⟩ = some (.slice A' k cap') := by have := h.blk.cell 0; rw [hln] at this; exact this
              have g0 : wq.cell? ⟨G, 0, none⟩ = some (.int .i64 xo) := hG.cell 0
              have g1 : wq.cell? ⟨G, 1, none⟩ = some (.int .i64 xs) := hG.cell 1
              have g2 : wq.cell? ⟨G, 2, none⟩ = some (.int .i64 xt) := hG.cell 2
              have g3 : wq.cell? ⟨G, 3, none⟩ = some (.int .i64 xc) := hG.cell 3
              have g4 : wq.cell? ⟨G, 4, none⟩ = some (.bool xb) := hG.cell 4
              have lR : R < wq.heap.size := h.blk.lt
              have lG : G < wq.heap.size := hG.lt
              have hd := h.next (below_drewN (Below.refl _ _) 1)
              have hO := hid (show (wq.drew.alloc (.cells #[.int .i64 xo, .int .i64 xs, .int .i64 xt, .int .i64 xc, .bool xb] 70)).ownsRow base 70 5 (.slice A' k cap') k ((l.take k).flatMap enE5) from by have := hd.own.alloc (.cells #[.int .i64 xo, .int .i64 xs, .int .i64 xt, .int .i64 xc, .bool xb] 70); rw [hln] at this; exact this)
              have hG2 := hG.next (w' := wq.drew.alloc (.cells #[.int .i64 xo, .int .i64 xs, .int .i64 xt, .int .i64 xc, .bool xb] 70)) ((below_drewN (Below.refl _ _) 1).alloc (Nat.le_refl _) _)
              have HPUSH := hid (fun v' w3 => ref_push (x := ⟨xo, xs, xt, xc, xb⟩) (v' := v') (w3 := w3) hd hbs)
              rw [hln] at HPUSH
              have hRb := (show Blk _ R 43 #[.slice A' k cap'] from by have := hd.blk; rw [hln] at this; exact this).alloc (.cells (enE5 ⟨xo, xs, xt, xc, xb⟩).toArray 70)
              have hbD := hid hb.drew
              clear h hG hb hd
              go_region_law ((refine step_append_lies _ (by rfl) _ _ _ (by rfl) base 70 i0 _ 5 40 Try.underlying41 hi hz0 hz1 hz2 rfl (by decide) _ _ _ (by rfl) hO.out ⟨wq.heap.size, 0, none⟩ 1 1 [.int .i64 xo, .int .i64 xs, .int .i64 xt, .int .i64 xc, .bool xb] (by rfl) (by rfl) (World.news_of_block (heap_alloc_new _ _)) (enE5_one ⟨xo, xs, xt, xc, xb⟩) (by omega) (by unfold maxLen; omega) (by omega) (by simp; omega) _ rfl ?_; intro g7 cap7 w7 hO7 hg7 hat7 hlt7; have hB7 := hRb.grown hg7 HL2.out.1; have c7 : w7.cell? ⟨R, 0, none⟩ = some (.slice A' k cap') := hB7.cell 0; have f7 := hB7.free 0; have hG7 := hG2.grown hg7 HL2.out.2))
              all_goals
                have hP7 := HPUSH.out _ _ hO7 hg7
                obtain ⟨A2, cap2, e7, hI7, _, _, hbel7⟩ := hP7
                injection e7 with e8 e9 e10
                subst e8 e10
                have hb7 := hbel7 _ _ hbD.out hRw hbs1
                have hbs7 : base ≤ w7.heap.size := by have := hg7.size; simp at this; omega
                clear hbel7 hO7 hg7 hat7 hlt7 c7 f7 hG7 hB7 HPUSH hO hG2 hRb hbD c0 g0 g1 g2 g3 g4
                go_wp2_with fail
                go_roundw
                case rel => exact ⟨k + 1, _, _, by omega, by go_num, hid (fun j hj => (Nat.lt_succ_iff_lt_or_eq.1 hj).elim (fun h => hgd.out j h) (fun e => by subst e; exact HV.out)), by rw [HS.out]; simpa [hln] using hI7, hb7, by simpa using hbs7⟩
                case measure => simp [intOf]; omega
            | false =>
              have HV : Hid (¬ goodAt l k) := hid (fun hh => by have := (hh _ HXk.out).2 _ hkp hy.out; rw [HCV.out] at this; cases this)
              clear HGOOD HCV hy h hG
              go_wp2_with fail
              go_ret2
              exact ⟨HY.out _ _ HV.out rfl, hb⟩
        · subst hz hz2 hz3
          obtain ⟨hG, h, hb, hbs, hprev⟩ := HH.out
          clear HH
          obtain ⟨wz, hwz⟩ : ∃ wz, wz = wr.alloc (.cells #[.int .i64 xo, .int .i64 xs, .int .i64 0, .int .i64 0, .bool true] 70) := ⟨_, rfl⟩
          have HW := hid hwz
          rw [← hwz] at hG h hb hbs hprev
          clear hwz
          obtain ⟨G, hGG⟩ : ∃ G, G = wr.heap.size := ⟨_, rfl⟩
          have HG := hid hGG
          have hGR : G ≠ R := fun e => hnR2.out (by rw [← e, hGG])
          have HL2 := hid (show some R ≠ (Value.slice A' k cap').ownBlock ∧ some G ≠ (Value.slice A' k cap').ownBlock from ⟨HL.out R (.inl rfl), HL.out G (.inr hGG)⟩)
          rw [← hGG] at hG
          clear hGG HL
          rcases hprev with hkz | ⟨y, hkp, hy, hP⟩
          · have hk0 : decide (0 < k) = false := decide_eq_false (by omega)
            have HV := hid (HGOOD.out (fun y hy0 _ => by omega))
            clear hkz HGOOD
            go_wp2_with fail
            rw [← HW.out, ← HG.out]
            have c0 : wz.cell? ⟨R, 0, none⟩ = some (.slice A' k cap') := by have := h.blk.cell 0; rw [hln] at this; exact this
            have g0 : wz.cell? ⟨G, 0, none⟩ = some (.int .i64 xo) := hG.cell 0
            have g1 : wz.cell? ⟨G, 1, none⟩ = some (.int .i64 xs) := hG.cell 1
            have g2 : wz.cell? ⟨G, 2, none⟩ = some (.int .i64 0) := hG.cell 2
            have g3 : wz.cell? ⟨G, 3, none⟩ = some (.int .i64 0) := hG.cell 3
            have g4 : wz.cell? ⟨G, 4, none⟩ = some (.bool true) := hG.cell 4
            have lR : R < wz.heap.size := h.blk.lt
            have lG : G < wz.heap.size := hG.lt
            have hd := h.next (below_drewN (Below.refl _ _) 1)
            have hO := hid (show (wz.drew.alloc (.cells #[.int .i64 xo, .int .i64 xs, .int .i64 0, .int .i64 0, .bool true] 70)).ownsRow base 70 5 (.slice A' k cap') k ((l.take k).flatMap enE5) from by have := hd.own.alloc (.cells #[.int .i64 xo, .int .i64 xs, .int .i64 0, .int .i64 0, .bool true] 70); rw [hln] at this; exact this)
            have hG2 := hG.next (w' := wz.drew.alloc (.cells #[.int .i64 xo, .int .i64 xs, .int .i64 0, .int .i64 0, .bool true] 70)) ((below_drewN (Below.refl _ _) 1).alloc (Nat.le_refl _) _)
            have HPUSH := hid (fun v' w3 => ref_push (x := ⟨xo, xs, 0, 0, true⟩) (v' := v') (w3 := w3) hd hbs)
            rw [hln] at HPUSH
            have hRb := (show Blk _ R 43 #[.slice A' k cap'] from by have := hd.blk; rw [hln] at this; exact this).alloc (.cells (enE5 ⟨xo, xs, 0, 0, true⟩).toArray 70)
            have hbD := hid hb.drew
            clear h hG hb hd
            go_region_law ((refine step_append_lies _ (by rfl) _ _ _ (by rfl) base 70 i0 _ 5 40 Try.underlying41 hi hz0 hz1 hz2 rfl (by decide) _ _ _ (by rfl) hO.out ⟨wz.heap.size, 0, none⟩ 1 1 [.int .i64 xo, .int .i64 xs, .int .i64 0, .int .i64 0, .bool true] (by rfl) (by rfl) (World.news_of_block (heap_alloc_new _ _)) (enE5_one ⟨xo, xs, 0, 0, true⟩) (by omega) (by unfold maxLen; omega) (by omega) (by simp; omega) _ rfl ?_; intro g7 cap7 w7 hO7 hg7 hat7 hlt7; have hB7 := hRb.grown hg7 HL2.out.1; have c7 : w7.cell? ⟨R, 0, none⟩ = some (.slice A' k cap') := hB7.cell 0; have f7 := hB7.free 0; have hG7 := hG2.grown hg7 HL2.out.2))
            all_goals
              have hP7 := HPUSH.out _ _ hO7 hg7
              obtain ⟨A2, cap2, e7, hI7, _, _, hbel7⟩ := hP7
              injection e7 with e8 e9 e10
              subst e8 e10
              have hb7 := hbel7 _ _ hbD.out hRw hbs1
              have hbs7 : base ≤ w7.heap.size := by have := hg7.size; simp at this; omega
              clear hbel7 hO7 hg7 hat7 hlt7 c7 f7 hG7 hB7 HPUSH hO hG2 hRb hbD c0 g0 g1 g2 g3 g4
              go_wp2_with fail
              go_roundw
              case rel => exact ⟨k + 1, _, _, by omega, by go_num, hid (fun j hj => (Nat.lt_succ_iff_lt_or_eq.1 hj).elim (fun h => hgd.out j h) (fun e => by subst e; exact HV.out)), by rw [HS.out]; simpa [hln] using hI7, hb7, by simpa using hbs7⟩
              case measure => simp [intOf]; omega
          · have hk0 : decide (0 < k) = true := decide_eq_true hkp
            have hkw : IntKind.i64.wrap ((k : Int) - 1) = ((k - 1 : Nat) : Int) := by rw [IntWalk.i64_in _ ⟨by omega, by omega⟩]; omega
            have hk1 : k - 1 < l.length := by omega
            obtain ⟨yo, ys, yt, yc, yb⟩ := y
            obtain ⟨cv, hcv⟩ : ∃ cv, ltE ⟨yo, ys, yt, yc, yb⟩ ⟨xo, xs, 0, 0, true⟩ = cv := ⟨_, rfl⟩
            have HCV := hid hcv
            obtain ⟨C, hCd⟩ : ∃ C : World → Prop, ∀ w', C w' ↔ (IsRef base w' R A' cap' (l.take k) ∧ Blk w' G 70 #[.int .i64 xo, .int .i64 xs, .int .i64 0, .int .i64 0, .bool true] ∧ CellsAt w' b (off + (k - 1) * 5) (enE5 ⟨yo, ys, yt, yc, yb⟩) ∧ Below w.heap.size w w' ∧ base ≤ w'.heap.size) := ⟨_, fun _ => Iff.rfl⟩
            have hK : ∀ w1 w2, C w1 → Below w1.heap.size w1 w2 → C w2 := fun w1 w2 h hb => by
              obtain ⟨a1, a2, a3, a4, a5⟩ := (hCd _).1 h
              exact (hCd _).2 ⟨a1.next hb, a2.next hb, a3.next hb, bthen a4 hb, Nat.le_trans a5 hb.size⟩
            have hC : C wz.drew := hK _ _ ((hCd _).2 ⟨h, hG, hP, hb, hbs⟩) (below_drewN (Below.refl _ _) 1)
            have g0 : ∀ p : In C, p.w.cell? ⟨G, 0, none⟩ = some (.int .i64 xo) := fun p => ((hCd _).1 p.h).2.1.cell 0
            have g1 : ∀ p : In C, p.w.cell? ⟨G, 1, none⟩ = some (.int .i64 xs) := fun p => ((hCd _).1 p.h).2.1.cell 1
            have g2 : ∀ p : In C, p.w.cell? ⟨G, 2, none⟩ = some (.int .i64 0) := fun p => ((hCd _).1 p.h).2.1.cell 2
            have g3 : ∀ p : In C, p.w.cell? ⟨G, 3, none⟩ = some (.int .i64 0) := fun p => ((hCd _).1 p.h).2.1.cell 3
            have g4 : ∀ p : In C, p.w.cell? ⟨G, 4, none⟩ = some (.bool true) := fun p => ((hCd _).1 p.h).2.1.cell 4
            have p0 : ∀ p : In C, p.w.cell? ⟨b, off + (k - 1) * 5, none⟩ = some (.int .i64 yo) := fun p => ((hCd _).1 p.h).2.2.1.2 0 _ rfl
            have p1 : ∀ p : In C, p.w.cell? ⟨b, off + (k - 1) * 5 + 1, none⟩ = some (.int .i64 ys) := fun p => ((hCd _).1 p.h).2.2.1.2 1 _ rfl
            have p2 : ∀ p : In C, p.w.cell? ⟨b, off + (k - 1) * 5 + 2, none⟩ = some (.int .i64 yt) := fun p => ((hCd _).1 p.h).2.2.1.2 2 _ rfl
            have p3 : ∀ p : In C, p.w.cell? ⟨b, off + (k - 1) * 5 + 3, none⟩ = some (.int .i64 yc) := fun p => ((hCd _).1 p.h).2.2.1.2 3 _ rfl
            have p4 : ∀ p : In C, p.w.cell? ⟨b, off + (k - 1) * 5 + 4, none⟩ = some (.bool yb) := fun p => ((hCd _).1 p.h).2.2.1.2 4 _ rfl
            have O : Hid (∀ p : In C, Calls Try.prog 26 #[.agg #[.int .i64 yo, .int .i64 ys, .int .i64 yt, .int .i64 yc, .bool yb], .agg #[.int .i64 xo, .int .i64 xs, .int .i64 0, .int .i64 0, .bool true]] p.w fun e w' => e = .returned (.bool cv) ∧ C w') := hid (fun p => by have := before_any ⟨yo, ys, yt, yc, yb⟩ ⟨xo, xs, 0, 0, true⟩ p.w; rw [HCV.out] at this; exact this.mono fun _ _ ⟨e1, e2⟩ => ⟨e1, hK _ _ p.h e2⟩)
            have HCd := hid hCd
            clear hCd hK h hG hb hP hcv hbs
            go_wp2_with fail
            rw [← HW.out, ← HG.out]
            refine wp_region_in C (by kernel_rfl) (by kernel_rfl) hC ?_
            intro hne
            clear hC
            repeat (first | go_big_quiet_step ((go_at_call 26; exact Calls.in_of (O.out _))) | quiet_step ((go_at_call 26; exact Calls.in_of (O.out _))))
            refine wpQuiet_nil ?_
            intro wq hq
            obtain ⟨h, hG, hP, hb, hbs⟩ := (HCd.out _).1 hq
            clear g0 g1 g2 g3 g4 p0 p1 p2 p3 p4 O hne hq HCd hkw hP HW HG
            cases cv with
            | true =>
              have HV := hid (HGOOD.out (fun y hy0 hy2 => by rw [hy.out] at hy2; injection hy2 with hy2; subst hy2; exact HCV.out))
              clear HGOOD HCV hy
              go_wp2_with fail
              have c0 : wq.cell? ⟨R, 0, none⟩ = some (.slice A' k cap') := by have := h.blk.cell 0; rw [hln] at this; exact this
              have g0 : wq.cell? ⟨G, 0, none⟩ = some (.int .i64 xo) := hG.cell 0
              have g1 : wq.cell? ⟨G, 1, none⟩ = some (.int .i64 xs) := hG.cell 1
              have g2 : wq.cell? ⟨G, 2, none⟩ = some (.int .i64 0) := hG.cell 2
              have g3 : wq.cell? ⟨G, 3, none⟩ = some (.int .i64 0) := hG.cell 3
              have g4 : wq.cell? ⟨G, 4, none⟩ = some (.bool true) := hG.cell 4
              have lR : R < wq.heap.size := h.blk.lt
              have lG : G < wq.heap.size := hG.lt
              have hd := h.next (below_drewN (Below.refl _ _) 1)
              have hO := hid (show (wq.drew.alloc (.cells #[.int .i64 xo, .int .i64 xs, .int .i64 0, .int .i64 0, .bool true] 70)).ownsRow base 70 5 (.slice A' k cap') k ((l.take k).flatMap enE5) from by have := hd.own.alloc (.cells #[.int .i64 xo, .int .i64 xs, .int .i64 0, .int .i64 0, .bool true] 70); rw [hln] at this; exact this)
              have hG2 := hG.next (w' := wq.drew.alloc (.cells #[.int .i64 xo, .int .i64 xs, .int .i64 0, .int .i64 0, .bool true] 70)) ((below_drewN (Below.refl _ _) 1).alloc (Nat.le_refl _) _)
              have HPUSH := hid (fun v' w3 => ref_push (x := ⟨xo, xs, 0, 0, true⟩) (v' := v') (w3 := w3) hd hbs)
              rw [hln] at HPUSH
              have hRb := (show Blk _ R 43 #[.slice A' k cap'] from by have := hd.blk; rw [hln] at this; exact this).alloc (.cells (enE5 ⟨xo, xs, 0, 0, true⟩).toArray 70)
              have hbD := hid hb.drew
              clear h hG hb hd
              go_region_law ((refine step_append_lies _ (by rfl) _ _ _ (by rfl) base 70 i0 _ 5 40 Try.underlying41 hi hz0 hz1 hz2 rfl (by decide) _ _ _ (by rfl) hO.out ⟨wq.heap.size, 0, none⟩ 1 1 [.int .i64 xo, .int .i64 xs, .int .i64 0, .int .i64 0, .bool true] (by rfl) (by rfl) (World.news_of_block (heap_alloc_new _ _)) (enE5_one ⟨xo, xs, 0, 0, true⟩) (by omega) (by unfold maxLen; omega) (by omega) (by simp; omega) _ rfl ?_; intro g7 cap7 w7 hO7 hg7 hat7 hlt7; have hB7 := hRb.grown hg7 HL2.out.1; have c7 : w7.cell? ⟨R, 0, none⟩ = some (.slice A' k cap') := hB7.cell 0; have f7 := hB7.free 0; have hG7 := hG2.grown hg7 HL2.out.2))
              all_goals
                have hP7 := HPUSH.out _ _ hO7 hg7
                obtain ⟨A2, cap2, e7, hI7, _, _, hbel7⟩ := hP7
                injection e7 with e8 e9 e10
                subst e8 e10
                have hb7 := hbel7 _ _ hbD.out hRw hbs1
                have hbs7 : base ≤ w7.heap.size := by have := hg7.size; simp at this; omega
                clear hbel7 hO7 hg7 hat7 hlt7 c7 f7 hG7 hB7 HPUSH hO hG2 hRb hbD c0 g0 g1 g2 g3 g4
                go_wp2_with fail
                go_roundw
                case rel => exact ⟨k + 1, _, _, by omega, by go_num, hid (fun j hj => (Nat.lt_succ_iff_lt_or_eq.1 hj).elim (fun h => hgd.out j h) (fun e => by subst e; exact HV.out)), by rw [HS.out]; simpa [hln] using hI7, hb7, by simpa using hbs7⟩
                case measure => simp [intOf]; omega
            | false =>
              have HV : Hid (¬ goodAt l k) := hid (fun hh => by have := (hh _ HXk.out).2 _ hkp hy.out; rw [HCV.out] at this; cases this)
              clear HGOOD HCV hy h hG
              go_wp2_with fail
              go_ret2
              exact ⟨HY.out _ _ HV.out rfl, hb⟩
      · have HV : Hid (¬ goodAt l k) := hid (fun hh => hok (hh _ HXk.out).1)
        have hcs : xt < 0 ∨ (xt = 0 ∧ xc ≠ 0) ∨ (xt = 0 ∧ xc = 0 ∧ xb = false) := by
          have h0 : ¬ entB ⟨xo, xs, xt, xc, xb⟩ = true := fun e => hok (entB_ok.1 e)
          simp only [entB, Bool.and_eq_true, Bool.or_eq_true, Bool.not_eq_true', decide_eq_true_eq, decide_eq_false_iff_not] at h0
          by_cases a1 : xt < 0
          · exact .inl a1
          · right
            by_cases a2 : xt = 0
            · by_cases a3 : xc = 0
              · right
                refine ⟨a2, a3, ?_⟩
                cases xb with
                | false => rfl
                | true => exact absurd ⟨by omega, .inr ⟨a3, rfl⟩⟩ h0
              · exact .inl ⟨a2, a3⟩
            · exact absurd ⟨by omega, .inl a2⟩ h0
        clear hok
        rcases hcs with hz | ⟨hz, hz2⟩ | ⟨hz, hz2, hz3⟩
        · have b1 : decide (xt < 0) = true := decide_eq_true hz
          clear hz
          go_wp2_with fail
          go_ret2
          exact ⟨HY.out _ _ HV.out rfl, HH.out.2.2.1⟩
        · subst hz
          have b3 : (xc != 0) = true := by simpa using hz2
          clear hz2
          go_wp2_with fail
          go_ret2
          exact ⟨HY.out _ _ HV.out rfl, HH.out.2.2.1⟩
        · subst hz hz2 hz3
          go_wp2_with fail
          go_ret2
          exact ⟨HY.out _ _ HV.out rfl, HH.out.2.2.1⟩
    · have hk' : k = l.length := by omega
      subst hk'
      rw [List.take_length] at h
      clear hlt hk
      go_wp2_with fail
      go_ret2
      exact ⟨⟨fun _ => ⟨R, A', cap', rfl, hRw, by rw [← HBASE.out]; exact h⟩, fun hn => absurd hgd.out hn⟩, hb⟩

end Go.Proofs.Ytidjkigkfefojaa
