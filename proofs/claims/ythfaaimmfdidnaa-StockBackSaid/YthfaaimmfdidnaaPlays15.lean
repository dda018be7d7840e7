/-
  The walks of StockPlays and StockBack.
-/
import Derived.Test.YthfaaimmfdidnaaPlay15
namespace Go.Proofs.Ythfaaimmfdidnaa
open Go.RowKit Go.WideShapes Go.ChangeShapes Go.ChangeAt Go.Deep
set_option linter.unusedVariables false

theorem ref_new (w : World) : IsRef (w.heap.size + 1) (w.alloc (.cells #[.slice none 0 0, .slice none 0 0] 54)) w.heap.size none 0 [] none 0 [] :=
  ⟨Blk.new _ _ _, World.ownsRow_nil _ _ _ _, World.ownsRow_nil _ _ _ _, (fun o ho => by cases ho), Nat.lt_succ_self _⟩

set_option maxRecDepth 100000 in
set_option maxHeartbeats 8000000 in
theorem stockPlays_walk (l : List Opn) (A : Option Addr) (cp : Nat) (w : World) (hR : Rd w A (l.flatMap enOp)) (hok : ∀ x ∈ l, OkOp w x) (hl : l.length * 56 ≤ 140737488351232) :
    Calls Try.prog 5 #[.slice A l.length cp] w (Law w) := by
  have HOK := hid hok
  clear hok
  go_enter Try.func5, Try.ntmps5
  go_wp2_with fail
  refine (wakes_any _).mono ?_
  rintro e w1 ⟨rfl, hb⟩
  go_wp2_with fail
  refine (new_any _).mono ?_
  rintro e w2 ⟨X, BL, BG, rfl, h, hb1⟩
  have hsz := hb.size
  have hsz2 := hb1.size
  replace hb := bthen hb hb1
  have hI := hid (play_any w l A cp hR HOK.out (n0 := w1.heap.size) (base := w2.heap.size + 1) (X := X) (BL := BL) (BG := BG) (R := w2.heap.size) (w2.alloc (.cells #[.slice none 0 0, .slice none 0 0] 54))
    (h.next ((Below.refl _ _).alloc (Nat.le_refl _) _)) GoodB.nil (ref_new w2) RelS.nil (hb.alloc hb.size _) (by simp) ⟨by omega, by omega, by omega⟩ (by simp; omega) (by omega))
  clear hb1 h hb hR hl HOK
  go_wp2_with fail
  refine hI.out.mono ?_
  rintro e w3 ⟨rfl, _, _, _, _, _, _, _, _, _, _, _, _, _, hb3, _⟩
  clear hI
  go_wp2_with fail
  go_ret
  exact ⟨by simp, hb3⟩

/-- Both books at work. -/
structure Bo (w0 : World) (n0 base X BL BG R : Nat) (lv : List (Int × Lv)) (gs : List (Int × Gd)) (A1 : Option Addr) (c1 : Nat) (is : List (Int × Int)) (A2 : Option Addr) (c2 : Nat) (rs : List Gd) (w : World) : Prop where
  book : IsBook n0 w X BL BG lv gs
  good : GoodB lv gs
  ref : IsRef base w R A1 c1 is A2 c2 rs
  bel : Below w0.heap.size w0 w
  bw : base ≤ w.heap.size
  low : w0.heap.size ≤ n0 ∧ w0.heap.size ≤ R ∧ n0 ≤ base
section
variable {w0 w w' : World} {n0 base X BL BG R c1 c2 : Nat} {A1 A2 : Option Addr} {lv lv' : List (Int × Lv)} {gs gs' : List (Int × Gd)} {is : List (Int × Int)} {rs : List Gd}
theorem Bo.next (h : Bo w0 n0 base X BL BG R lv gs A1 c1 is A2 c2 rs w) (hb : Below w.heap.size w w') : Bo w0 n0 base X BL BG R lv gs A1 c1 is A2 c2 rs w' :=
  ⟨h.book.next hb, h.good, h.ref.next hb, bthen h.bel hb, Nat.le_trans h.bw hb.size, h.low⟩
theorem Bo.nw (h : Bo w0 n0 base X BL BG R lv gs A1 c1 is A2 c2 rs w) : n0 ≤ w.heap.size := Nat.le_trans h.low.2.2 h.bw
theorem Bo.stepB (h : Bo w0 n0 base X BL BG R lv gs A1 c1 is A2 c2 rs w) (hI : IsBook n0 w' X BL BG lv' gs') (hG : GoodB lv' gs') (hT : Touch (Own BL BG lv gs) w w') : Bo w0 n0 base X BL BG R lv' gs' A1 c1 is A2 c2 rs w' :=
  ⟨hI, hG, ref_Own h.book h.ref hT, h.bel.trans (hT.below h.bel.size (fun k hk => Nat.le_trans h.low.1 (h.book.own_low hk))), Nat.le_trans h.bw hT.size, h.low⟩
theorem mdel_mset_new {o : Int} {d : Gd} (h : mget gs o = none) : mdel (mset gs o d) o = gs := by rw [mdel_mset, mdel_no h]

/-- Goods set aside and freed. -/
def lvF (lv : List (Int × Lv)) (ls : List Ln) : List (Int × Lv) := mvL freeL (mvL allocL lv ls) ls
theorem lvF_get (lv : List (Int × Lv)) (ls : List Ln) (id : Int) : mget (lvF lv ls) id = mget lv id := by
  unfold lvF
  rw [mvL_all freeL_0 freeL_a, mvL_all allocL_0 allocL_a]
  cases mget lv id with
  | none => rfl
  | some a => simp [allocL, freeL]
theorem lvF_rel (hM : RelS lv gs is rs) (ls : List Ln) : RelS (lvF lv ls) gs is rs := by
  refine ⟨?_, hM.gds⟩
  have h1 := (hM.mv (f := allocL) (fun _ _ => rfl) ls)
  exact h1.levels (mvL_same (f := freeL) Lv.r (fun _ _ => rfl) (ls := ls) h1.nd)
theorem errF_same (hm : ∀ id, mget lv' id = mget lv id) (o : Int) (ls : List Ln) : errF lv' gs o ls = errF lv gs o ls := by
  have : knowF lv' ls = knowF lv ls := by unfold knowF; simp only [hm]
  unfold errF
  rw [this]
theorem short_same (hm : ∀ id, mget lv' id = mget lv id) (ls : List Ln) : ls.any (shortL lv') = ls.any (shortL lv) := by
  have : shortL lv' = shortL lv := by funext x; unfold shortL; rw [hm]
  rw [this]
/-- Goods set aside, gone and come back. -/
def lvB3 (lv : List (Int × Lv)) (ls : List Ln) : List (Int × Lv) := mvL restockL (mvL shipL (mvL allocL lv ls) ls) ls
theorem lvB3_get (lv : List (Int × Lv)) (ls : List Ln) (id : Int) : mget (lvB3 lv ls) id = (mget lv id).map fun a => ⟨a.g, a.i, a.r, a.h, a.a, a.s + qOf ls id, a.t + qOf ls id⟩ := by
  unfold lvB3
  rw [mvL_all restockL_0 restockL_a, mvL_all shipL_0 shipL_a, mvL_all allocL_0 allocL_a]
  cases mget lv id with
  | none => rfl
  | some a => simp [allocL, shipL, restockL]
theorem lvB3_keys (hd : (lv.map (·.1)).Nodup) (ls : List Ln) : (lvB3 lv ls).map (·.1) = lv.map (·.1) := by
  unfold lvB3
  have h1 := mvL_keys (f := allocL) (fun _ _ => rfl) (ls := ls) hd
  have h2 := mvL_keys (f := shipL) (fun _ _ => rfl) (ls := ls) (lv := mvL allocL lv ls) (by rw [h1]; exact hd)
  have h3 := mvL_keys (f := restockL) (fun _ _ => rfl) (ls := ls) (lv := mvL shipL (mvL allocL lv ls) ls) (by rw [h2, h1]; exact hd)
  rw [h3, h2, h1]
theorem ids_eq {a b : List Int} (hp : a.Perm b) (ha : a.Pairwise (fun x y => x < y)) (hb : b.Pairwise (fun x y => x < y)) : a = b :=
  SortedK.perm_eq (key := fun x : Int => x) linI (ha.imp (fun h => by simpa [ltI] using h)) (hb.imp (fun h => by simpa [ltI] using h)) hp
end

theorem own_next {BL BG : Nat} {lv : List (Int × Lv)} {gs : List (Int × Gd)} {o : Int} {d : Gd} (hm : mget gs o = some d) {k : Nat} (h : Own BL BG lv (mset gs o (nextG d)) k) : Own BL BG lv gs k := by
  rcases h with e | e | e | ⟨p, hp, e⟩
  · exact .inl e
  · exact .inr (.inl e)
  · exact .inr (.inr (.inl e))
  · rcases mem_mset hp with rfl | ⟨hp', _⟩
    · exact .inr (.inr (.inr ⟨_, mget_mem hm, e⟩))
    · exact .inr (.inr (.inr ⟨p, hp', e⟩))
set_option maxRecDepth 100000 in
set_option maxHeartbeats 16000000 in
theorem stockBack_walk (l : List Opn) (A : Option Addr) (cp : Nat) (o : Int) (ls : List Ln) (AL : Option Addr) (cl : Nat) (w : World) (hR : Rd w A (l.flatMap enOp)) (hok : ∀ x ∈ l, OkOp w x) (hl : l.length * 56 ≤ 140737488351232)
    (hRL : Rd w AL (ls.flatMap enL)) (hcl : ls.length ≤ cl) (hcm : cl ≤ maxLen) :
    Calls Try.prog 6 #[.slice A l.length cp, .int .i64 o, .slice AL ls.length cl] w (Law w) := by
  have HOK := hid hok
  have HRL := hid (And.intro hRL (And.intro hcl hcm))
  clear hok hRL hcl hcm
  go_enter Try.func6, Try.ntmps6
  go_wp2_with fail
  refine (new_any w).mono ?_
  rintro e w2 ⟨X, BL, BG, rfl, h, hb1⟩
  have hsz2 := hb1.size
  have hB : Bo w w.heap.size (w2.heap.size + 1) X BL BG w2.heap.size [] [] none 0 [] none 0 [] (w2.alloc (.cells #[.slice none 0 0, .slice none 0 0] 54)) :=
    ⟨h.next ((Below.refl _ _).alloc (Nat.le_refl _) _), GoodB.nil, ref_new w2, hb1.alloc hb1.size _, by simp, by omega, by omega, by omega⟩
  clear h hb1
  obtain ⟨R, hRR⟩ : ∃ R, R = w2.heap.size := ⟨_, rfl⟩
  rw [← hRR] at hB
  have HB := hid hB
  clear hB
  go_wp2_with fail
  rw [← hRR]
  obtain ⟨w3, hw3⟩ : ∃ w3, w3 = w2.alloc (.cells #[.slice none 0 0, .slice none 0 0] 54) := ⟨_, rfl⟩
  have hB := HB.out
  rw [← hw3] at hB ⊢
  clear HB hw3
  refine (wakes_any _).mono ?_
  rintro e w4 ⟨rfl, hb4⟩
  replace hB := hB.next hb4
  have hI := hid (play_any w l A cp hR HOK.out (n0 := w.heap.size) (base := R + 1) (X := X) (BL := BL) (BG := BG) (R := R) w4 hB.book hB.good hB.ref RelS.nil hB.bel hB.bw hB.low (by simp; omega) (by omega))
  have hlow := hB.low
  clear hB hb4 hR HOK hRR hsz2
  go_wp2_with fail
  refine hI.out.mono ?_
  rintro e w5 ⟨rfl, lv, gs, A1, c1, is, A2, c2, rs, h, hG, hF, hM, hln, hb, hbw⟩
  have hB : Bo w w.heap.size (R + 1) X BL BG R lv gs A1 c1 is A2 c2 rs w5 := ⟨h, hG, hF, hb, hbw, hlow⟩
  have hgl : gs.length ≤ 2600000000000 := by simp at hln; omega
  clear hI h hG hF hb hbw hln hl
  have K := alloc_step hB.book hB.good hB.nw (by omega) o AL cl ls (HRL.out.1.below hB.bel) HRL.out.2.1 HRL.out.2.2
  by_cases hz : allocZ lv gs o ls = 0
  · rw [hz] at K
    have HB := hid (And.intro hB hM)
    have HZ := hid hz
    replace K := hid K
    clear hB hM hz
    go_wp2_with fail
    refine K.out.mono ?_
    rintro e w6 ⟨lv1, gs1, rfl, hI, hGd, hRR, hln', hT⟩
    obtain ⟨he, hs, rfl, d, hd, rfl⟩ : errF lv gs o ls = 0 ∧ ls.any (shortL lv) = false ∧ lv1 = mvL allocL lv ls ∧ ∃ d : Gd, (d.o = o ∧ d.st = 1 ∧ d.ls = ls) ∧ gs1 = mset gs o d := by
      rcases hRR with ⟨h, _⟩ | ⟨_, h1, h2, h3, h4⟩
      · exact absurd HZ.out h
      · exact ⟨h1, h2, h3, h4⟩
    have hB1 := HB.out.1.stepB hI hGd hT
    have hno := (errF_zero he).2.2
    have hm1 : mget (mset gs o d) o = some d := by rw [mget_mset, if_pos rfl]
    have K2 := free_step hB1.book hB1.good (by omega) o
    rw [show freeZ (mset gs o d) o = 0 from by unfold freeZ; rw [hm1]; simp only; rw [if_neg (by omega)]] at K2
    have HQ := hid (And.intro he (And.intro hs (And.intro hd (And.intro hno hm1))))
    have HB1 := hid hB1
    replace K2 := hid K2
    clear K hI hGd hRR hT hB1 he hs hno hm1 hd
    go_wp2_with fail
    refine K2.out.mono ?_
    rintro e w7 ⟨lv2, gs2, rfl, hI, hGd, hRR, hln2, hT⟩
    obtain ⟨rfl, rfl⟩ : lv2 = lvF lv ls ∧ gs2 = gs := by
      rcases hRR with ⟨h, _⟩ | ⟨_, d2, h2, _, h3, h4⟩
      · exact absurd HQ.out.2.2.1.2.1 (h d HQ.out.2.2.2.2)
      · rw [HQ.out.2.2.2.2] at h2
        injection h2 with h2
        subst h2
        refine ⟨?_, by rw [h4]; exact mdel_mset_new HQ.out.2.2.2.1⟩
        rw [h3, HQ.out.2.2.1.2.2]
        rfl
    have hB2 := HB1.out.stepB hI hGd hT
    have hM2 := lvF_rel HB.out.2 ls
    have ST := hid (state_any hB2.book hB2.good hB2.ref hM2 (by omega))
    have HB2 := hid hB2
    clear K2 HB1 hI hGd hRR hln2 hT hB2 hM2 hln'
    go_wp2_with fail
    refine ST.out.mono ?_
    rintro e w8 ⟨rfl, hb8⟩
    have hB3 := HB2.out.next hb8
    have K4 := hid (levels_any hB3.book hB3.good.few)
    unfold LevPost at K4
    have HB3 := hid hB3
    clear ST HB2 hb8 hB3
    go_wp2_with fail
    refine K4.out.mono ?_
    rintro e w9 ⟨A9, c9, ids, rfl, hp9, hr9, hO9, hb9⟩
    have hB4 := HB3.out.next hb9
    have hkm := lvF_get lv ls
    have he5 : errF (lvF lv ls) gs2 o ls = 0 := by rw [errF_same hkm]; exact HQ.out.1
    have hs5 : ls.any (shortL (lvF lv ls)) = false := by rw [short_same hkm]; exact HQ.out.2.1
    have K5 := alloc_fit hB4.book hB4.nw o AL cl ls (HRL.out.1.below hB4.bel) HRL.out.2.1 HRL.out.2.2 he5 (hB4.good.bd (by omega))
    have hN9 : ∀ k, (Value.slice A9 ids.length c9).ownBlock = some k → ¬ Own BL BG (lvF lv ls) gs2 k := fun k hk ho => by
      have h1 := (hO9.lt k hk).1
      have h2 := HB3.out.book.own_lt ho
      omega
    have HZ5 := hid (And.intro he5 hs5)
    have HB4 := hid hB4
    have HW := hid (And.intro hp9 hr9)
    have HO9 := hid (And.intro hO9 hN9)
    replace K5 := hid K5
    clear K4 HB3 hp9 hr9 hO9 hb9 hB4 hkm he5 hs5 hN9
    go_wp2_with fail
    refine K5.out.mono ?_
    rintro e wa (⟨hs, _⟩ | ⟨_, d3, rfl, hI, hd3, hdg, _, hT⟩)
    · rw [HZ5.out.2] at hs; cases hs
    have hB5 := HB4.out.stepB hI (HB4.out.good.alloc HZ5.out.1 HZ5.out.2 hd3) (hT.old fun k hk hS => by
      rcases hS with e | e | e | ⟨p, hp, e⟩
      · exact .inl e
      · exact .inr (.inl e)
      · exact .inr (.inr (.inl e))
      · rcases mem_mset hp with rfl | ⟨hp', _⟩
        · simp only at e; omega
        · exact .inr (.inr (.inr ⟨p, hp', e⟩)))
    have hN5 : ∀ k, (Value.slice A9 ids.length c9).ownBlock = some k → ¬ Own BL BG (lvF lv ls) (mset gs2 o d3) k := fun k hk ho => by
      rcases ho with e | e | e | ⟨p, hp, e⟩
      · exact HO9.out.2 k hk (.inl e)
      · exact HO9.out.2 k hk (.inr (.inl e))
      · exact HO9.out.2 k hk (.inr (.inr (.inl e)))
      · rcases mem_mset hp with rfl | ⟨hp', _⟩
        · have := (HO9.out.1.lt k hk).2
          simp only at e; omega
        · exact HO9.out.2 k hk (.inr (.inr (.inr ⟨p, hp', e⟩)))
    have hO5 := own_touch HO9.out.1 hT hN5
    have hln3 : (mset gs2 o d3).length ≤ gs2.length + 1 := mset_len
    have HND := hid HB4.out.good.nl
    have HO5 := hid (And.intro hO5 (fun k hk (ho : Own BL BG (mvL allocL (lvF lv ls) ls) (mset gs2 o d3) k) => hN5 k hk (own_same (f := allocL) (fun _ _ => rfl) HB4.out.good.nl ho)))
    have hm3 : mget (mset gs2 o d3) o = some d3 := by rw [mget_mset, if_pos rfl]
    have hz6 : goZ (mset gs2 o d3) o 1 = 0 := by unfold goZ; rw [hm3]; simp only; rw [if_pos hd3.2.1]
    have K6 := ship_step hB5.book hB5.good (by omega) o
    rw [hz6] at K6
    have HB5 := hid hB5
    have HD3 := hid (And.intro hd3 (And.intro hm3 hz6))
    replace K6 := hid K6
    clear K5 hI hT hB5 hm3 hz6 hd3 hdg hO5 hN5 HO9
    go_wp2_with fail
    refine K6.out.mono ?_
    rintro e wb ⟨lv4, gs4, rfl, hI, hGd, hRR, hln4, hT⟩
    obtain ⟨rfl, rfl⟩ : lv4 = mvL shipL (mvL allocL (lvF lv ls) ls) ls ∧ gs4 = mset (mset gs2 o d3) o (nextG d3) := by
      rcases hRR with ⟨h, _⟩ | ⟨_, d2, h2, _, h3, h4⟩
      · exact absurd HD3.out.2.2 h
      · rw [HD3.out.2.1] at h2
        injection h2 with h2
        subst h2
        rw [HD3.out.1.2.2] at h3
        exact ⟨h3, h4⟩
    have hB6 := HB5.out.stepB hI hGd hT
    have hm4 : mget (mset (mset gs2 o d3) o (nextG d3)) o = some (nextG d3) := by rw [mget_mset, if_pos rfl]
    have hst4 : (nextG d3).st = 2 := by have := HD3.out.1.2.1; simp only [nextG]; omega
    have hz7 : goZ (mset (mset gs2 o d3) o (nextG d3)) o 2 = 0 := by unfold goZ; rw [hm4]; simp only; rw [if_pos hst4]
    have K7 := restock_step hB6.book hB6.good (by omega) o
    rw [hz7] at K7
    have hO6 := own_touch HO5.out.1 hT HO5.out.2
    have HO6 := hid (And.intro hO6 (fun k hk (ho : Own BL BG (mvL shipL (mvL allocL (lvF lv ls) ls) ls) (mset (mset gs2 o d3) o (nextG d3)) k) => HO5.out.2 k hk (own_next HD3.out.2.1 (own_same (f := shipL) (fun _ _ => rfl) HB5.out.good.nl ho))))
    have HB6 := hid hB6
    have HD4 := hid (And.intro hst4 (And.intro hm4 hz7))
    replace K7 := hid K7
    clear K6 HB5 hI hGd hRR hT hB6 hm4 hz7 hst4 hO6 HO5
    go_wp2_with fail
    refine K7.out.mono ?_
    rintro e wc' ⟨lv5, gs5, rfl, hI, hGd, hRR, hln5, hT⟩
    obtain ⟨rfl, rfl⟩ : lv5 = lvB3 (lvF lv ls) ls ∧ gs5 = mset (mset (mset gs2 o d3) o (nextG d3)) o (nextG (nextG d3)) := by
      rcases hRR with ⟨h, _⟩ | ⟨_, d2, h2, _, h3, h4⟩
      · exact absurd HD4.out.2.2 h
      · rw [HD4.out.2.1] at h2
        injection h2 with h2
        subst h2
        rw [show (nextG d3).ls = ls from HD3.out.1.2.2] at h3
        exact ⟨h3, h4⟩
    have hB7 := HB6.out.stepB hI hGd hT
    have hO7 := own_touch HO6.out.1 hT HO6.out.2
    have hN7 := (fun k hk (ho : Own BL BG (lvB3 (lvF lv ls) ls) (mset (mset (mset gs2 o d3) o (nextG d3)) o (nextG (nextG d3))) k) => HO6.out.2 k hk (own_next HD4.out.2.1 (own_same (f := restockL) (fun _ _ => rfl) HB6.out.good.nl ho)))
    have HO7 := hid (And.intro hO7 hN7)
    clear hO7 hN7
    generalize hg5 : mset (mset (mset gs2 o d3) o (nextG d3)) o (nextG (nextG d3)) = gs5 at hB7 hln5 HO7
    have hm5 : mget gs5 o = some (nextG (nextG d3)) := by rw [← hg5, mget_mset, if_pos rfl]
    have hst5 : (nextG (nextG d3)).st = 3 := by have := HD4.out.1; simp only [nextG] at this ⊢; omega
    have hz8 : freeZ gs5 o = 0 := by unfold freeZ; rw [hm5]; simp only; rw [if_neg (by omega)]
    have K8 := free_step hB7.book hB7.good (by omega) o
    rw [hz8] at K8
    have HB7 := hid hB7
    have HD5 := hid (And.intro hst5 hm5)
    replace K8 := hid K8
    clear K7 HB6 hI hGd hRR hT hB7 hm5 hz8 hst5 hg5 HD3 HD4 HO6
    go_wp2_with fail
    refine K8.out.mono ?_
    rintro e wd ⟨lv6, gs6, rfl, hI, hGd, hRR, hln6, hT⟩
    obtain ⟨rfl, rfl⟩ : lv6 = lvB3 (lvF lv ls) ls ∧ gs6 = gs5 := by
      rcases hRR with ⟨_, h1, h2⟩ | ⟨_, d2, h2, h3, _⟩
      · exact ⟨h1, h2⟩
      · rw [HD5.out.2] at h2
        injection h2 with h2
        subst h2
        have := HD5.out.1
        omega
    have hB8 := HB7.out.stepB hI hGd hT
    have K9 := hid (levels_any hB8.book hB8.good.few)
    unfold LevPost at K9
    have hO8 := (own_rd (own_touch HO7.out.1 hT HO7.out.2))
    have HO8 := hid hO8
    have hl6 : gs6.length ≤ 3000000000000 := by omega
    have HB8 := hid hB8
    clear hO8 K8 HB7 hI hGd hRR hT hB8 hln5 hln4 hln3 hln6
    go_wp2_with fail
    refine K9.out.mono ?_
    rintro e we ⟨Ae, ce, ids2, rfl, hpe, hre, hOe, hbe⟩
    obtain rfl : ids2 = ids := ids_eq (hpe.trans ((List.Perm.of_eq (lvB3_keys HND.out ls)).trans HW.out.1.symm)) hre HW.out.2
    have hB9 := HB8.out.next hbe
    have hRe := own_rd hOe
    have hR8 := HO8.out.below hbe
    have HE := hid (And.intro hRe (And.intro hR8 hB9))
    have HBD := hid (And.intro (HB4.out.good.bd (by omega)) (HB8.out.good.bd (by omega)))
    have hil : ids2.length ≤ 64 := by have := HW.out.1.length_eq; have := HB4.out.good.few; simp at *; omega
    clear K9 hpe hre hOe hbe hB9 hRe hR8 HO8 HB8 HO7
    go_wp2_with fail
    go_loopw [73] (fun i wr => ∃ j : Nat, j ≤ ids2.length ∧ i = .int .i64 j ∧ Below we.heap.size we wr) (fun i _ => ids2.length - nOf i)
    case atStart => exact ⟨0, Nat.zero_le _, rfl, Below.refl _ _⟩
    case round =>
      obtain ⟨j, hj, rfl, hb⟩ := hrel
      obtain ⟨hRe, hR8, hB9⟩ := HE.out
      by_cases hjl : j < ids2.length
      · obtain ⟨id, hid'⟩ : ∃ id, ids2[j]? = some id := ⟨ids2[j], List.getElem?_eq_getElem hjl⟩
        obtain ⟨a, ha⟩ := mget_key (HW.out.1.mem_iff.1 (List.mem_of_getElem? hid'))
        have ha6 := lvB3_get (lvF lv ls) ls id
        rw [ha] at ha6
        simp only [Option.map_some] at ha6
        have e1 : lvAt (lvF lv ls) id = a := by unfold lvAt; rw [ha]; rfl
        have e2 : lvAt (lvB3 (lvF lv ls) ls) id = ⟨a.g, a.i, a.r, a.h, a.a, a.s + qOf ls id, a.t + qOf ls id⟩ := by unfold lvAt; rw [ha6]; rfl
        have hb1 := HBD.out.1 _ (mget_mem ha)
        have hb2 := HBD.out.2 _ (mget_mem ha6)
        obtain ⟨b1, off1, rfl, _, hc1⟩ := (hR8.below hb).at_ (l := ids2.map (lvAt (lvF lv ls))) (k := j) (x := a) 6 enV6_len (by omega) (by rw [List.getElem?_map, hid', ← e1]; rfl)
        obtain ⟨b2, off2, rfl, _, hc2⟩ := (hRe.below hb).at_ (l := ids2.map (lvAt (lvB3 (lvF lv ls) ls))) (k := j) (x := ⟨a.g, a.i, a.r, a.h, a.a, a.s + qOf ls id, a.t + qOf ls id⟩) 6 enV6_len (by omega) (by rw [List.getElem?_map, hid', ← e2]; rfl)
        generalize qOf ls id = q at hc2 hb2
        obtain ⟨ag, ai, ar, ah, aa, a5, at'⟩ := a
        unfold LvB at hb1 hb2
        simp only at hb1 hb2
        have p2 : wr.cell? ⟨b1, off1 + j * 6 + 2, none⟩ = some (.int .i64 ah) := hc1 2 _ rfl
        have p3 : wr.cell? ⟨b1, off1 + j * 6 + 3, none⟩ = some (.int .i64 aa) := hc1 3 _ rfl
        have p4 : wr.cell? ⟨b1, off1 + j * 6 + 4, none⟩ = some (.int .i64 a5) := hc1 4 _ rfl
        have p5 : wr.cell? ⟨b1, off1 + j * 6 + 5, none⟩ = some (.int .i64 at') := hc1 5 _ rfl
        have q2 : wr.cell? ⟨b2, off2 + j * 6 + 2, none⟩ = some (.int .i64 ah) := hc2 2 _ rfl
        have q3 : wr.cell? ⟨b2, off2 + j * 6 + 3, none⟩ = some (.int .i64 aa) := hc2 3 _ rfl
        obtain ⟨u4, hu4⟩ : ∃ u, u = a5 + q := ⟨_, rfl⟩
        obtain ⟨u5, hu5⟩ : ∃ u, u = at' + q := ⟨_, rfl⟩
        have q4 : wr.cell? ⟨b2, off2 + j * 6 + 4, none⟩ = some (.int .i64 u4) := by rw [hu4]; exact hc2 4 _ rfl
        have q5 : wr.cell? ⟨b2, off2 + j * 6 + 5, none⟩ = some (.int .i64 u5) := by rw [hu5]; exact hc2 5 _ rfl
        have w1 : IntKind.i64.wrap (u4 - u5) = a5 - at' := by rw [IntWalk.i64_in _ ⟨by omega, by omega⟩]; omega
        have w2 : IntKind.i64.wrap (a5 - at') = a5 - at' := IntWalk.i64_in _ ⟨by omega, by omega⟩
        have t1 : (ah != ah) = false := by simp
        have t2 : (aa != aa) = false := by simp
        have t3 : (a5 - at' != a5 - at') = false := by simp
        have HBB := hid hb
        clear hc1 hc2 hb1 hb2 hu4 hu5 e1 e2 ha ha6 hid' hRe hR8 hB9 hb
        go_wp2_with fail
        go_quiet (fail)
        have hbq := below_drewN HBB.out nq
        clear p2 p3 p4 p5 q2 q3 q4 q5 w1 w2 t1 t2 t3 HBB
        go_wp2_with fail
        go_roundw
        case rel => exact ⟨j + 1, by omega, by go_num, hbq⟩
        case measure => simp [nOf]; omega
      · have hjj : j = ids2.length := by omega
        subst hjj
        have hBw := hB9.next hb
        have GS := goods_step hBw.book hBw.good o
        unfold GoodsP at GS
        rw [show stG gs6 o = 3 from by unfold stG; rw [HD5.out.2]; exact HD5.out.1, show hasG gs6 o = true from by unfold hasG; rw [HD5.out.2]; rfl] at GS
        have HBW := hid hBw.bel
        replace GS := hid GS
        clear hj hjl hRe hR8 hB9 hb hBw
        go_wp2_with fail
        refine GS.out.mono ?_
        rintro e wg ⟨oo, Ag, ng, cg, rfl, hbg⟩
        have hwb : Below wg.heap.size wg (wg.alloc (.cells #[.int .i64 oo, .int .i64 3, .slice Ag ng cg] 45)) := (Below.refl _ _).alloc (Nat.le_refl _) _
        have hYB := Blk.new wg 45 #[.int .i64 oo, .int .i64 3, .slice Ag ng cg]
        have r1 : (wg.alloc (.cells #[.int .i64 oo, .int .i64 3, .slice Ag ng cg] 45)).cell? ⟨wg.heap.size, 1, none⟩ = some (.int .i64 3) := hYB.cell 1
        have HFF := hid (bthen HBW.out (bthen hbg hwb))
        clear GS HBW hbg hwb hYB
        go_wp2_with fail
        go_ret
        exact ⟨rfl, HFF.out⟩
  · have hzb : (allocZ lv gs o ls != 0) = true := by simpa using hz
    generalize hzz : allocZ lv gs o ls = z at K hzb
    have HB := hid (And.intro hB hM)
    have HZ := hid (show z ≠ 0 from by rw [← hzz]; exact hz)
    have HZZ := hid hzz
    replace K := hid K
    clear hB hM hz hzz
    go_wp2_with fail
    refine K.out.mono ?_
    rintro e w6 ⟨lv', gs', rfl, hI, hGd, hRR, hln', hT⟩
    obtain ⟨_, rfl, rfl⟩ : allocZ lv gs o ls ≠ 0 ∧ lv' = lv ∧ gs' = gs := by
      rcases hRR with h | ⟨h, _⟩
      · exact h
      · rw [HZZ.out] at h; exact absurd h HZ.out
    have hB6 := HB.out.1.stepB hI hGd hT
    have ST := hid (state_any hB6.book hB6.good hB6.ref HB.out.2 (by omega))
    have HB6 := hid hB6.bel
    clear K HB HZ HZZ hI hGd hRR hln' hT hB6
    go_wp2_with fail
    refine ST.out.mono ?_
    rintro e w7 ⟨rfl, hb7⟩
    go_wp2_with fail
    go_ret
    exact ⟨rfl, bthen HB6.out hb7⟩

end Go.Proofs.Ythfaaimmfdidnaa
