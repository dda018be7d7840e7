/-
  The walk of InboxOnce.
-/
import Derived.Test.YtidjkigkfefojaaInbox3
namespace Go.Proofs.Ytidjkigkfefojaa
open Go.RowKit
set_option linter.unusedVariables false

theorem entAt_mset (m : List ((Int × Int) × Ent)) (p q : Int × Int) (e : Ent) : entAt (mset m p e) q = if q = p then e else entAt m q := by
  unfold entAt
  rw [mget_mset]
  split <;> rfl
theorem entAt_same (m : List ((Int × Int) × Ent)) (p : Int × Int) (e : Ent) : entAt (mset m p e) p = e := by rw [entAt_mset, if_pos rfl]

theorem ask_barred {e : Ent} (h : e.b = true) (t : Int) (u : Bool) : askF e t u = (1, if u = true then 0 else 151) := by
  unfold askF; cases u <;> simp [h]
theorem ask_known {e : Ent} (h : e.b = false) (h1 : 1 ≤ e.t) : askF e e.t false = (1, e.c) := by
  unfold askF; simp [h]; omega
theorem ask_undo {e : Ent} (h : e.b = false) (t : Int) : askF e t true = (0, 0) := by unfold askF; simp [h]
theorem ask_stale {e : Ent} (h : e.b = false) (t : Int) (h1 : t < 1 ∨ t < e.t) : askF e t false = (2, 0) := by
  unfold askF; simp [h]; intro a b; omega
theorem ask_fresh {e : Ent} (h : e.b = false) (t : Int) (h1 : 1 ≤ t) (h2 : e.t < t) : askF e t false = (0, 0) := by
  unfold askF; simp [h, show ¬ t < 1 from by omega, show ¬ t < e.t from by omega, show ¬ t = e.t from by omega]

set_option maxHeartbeats 1000000 in
theorem onceMore_any {X B : Nat} {m : List ((Int × Int) × Ent)} {t : Int} (w : World) (h : IsBox w X B m) (e : Ent) (he : entAt m (1, 1) = e) (h1 : e.t = t) (h2 : e.c = 0) (h3 : e.b = false) (h4 : 1 ≤ t) :
    Calls Try.prog 14 #[.pointer (some ⟨X, 0, none⟩), .int .i64 t] w fun e w' => e = .returned (.bool true) ∧ w.grownBy w' (some B) := by
  subst h1
  have ha : askF (entAt m (1, 1)) e.t false = (1, 0) := by rw [he, ← h2]; exact ask_known h3 h4
  have hu : (askF (entAt m (1, 1)) 0 true).1 = 0 := by rw [he, ask_undo h3]
  obtain ⟨m2, hm2⟩ : ∃ m2, mset m (1, 1) (keepE (entAt m (1, 1)) 1 1 0 true 0) = m2 := ⟨_, rfl⟩
  have hb : (entAt m2 (1, 1)).b = true := by rw [← hm2, entAt_same]; simp [keepE]
  have K1 := hid fun w h => keep_no (X := X) (B := B) (m := m) (o := 1) (s := 1) (t := e.t) (u := false) 0 w h (by rw [ha]; decide)
  have K2 := hid fun w h => keep_is (X := X) (B := B) (m := m) (m' := m2) (o := 1) (s := 1) (t := 0) (u := true) 0 w h hu hm2
  have K3 := hid fun w h => keep_no (X := X) (B := B) (m := m2) (o := 1) (s := 1) (t := 0) (u := true) 0 w h (by rw [ask_barred hb]; decide)
  have K4 := hid fun w h => keep_no (X := X) (B := B) (m := m2) (o := 1) (s := 1) (t := 4611686018427387904) (u := false) 0 w h (by rw [ask_barred hb]; decide)
  have D := hid fun w h => done_is (X := X) (B := B) (m := m2) (o := 1) (s := 1) (b := false) w h (by simp [doneF, hb])
  have A1 := hid fun w h => ask_is (X := X) (B := B) (m := m) (o := 1) (s := 1) (t := e.t) (u := false) (v := 1) (c := 0) w h ha
  have A2 := hid fun w h => ask_is (X := X) (B := B) (m := m2) (o := 1) (s := 1) (t := e.t) (u := false) (v := 1) (c := 151) w h (by rw [ask_barred hb]; rfl)
  clear ha hu hm2 hb he h2 h3
  generalize e.t = t at *
  go_enter Try.func14, Try.ntmps14
  go_wp2_with fail
  refine (A1.out _ h).mono ?_
  rintro e1 w1 ⟨rfl, hb1⟩
  replace h := h.next hb1
  have g := grown_of_below hb1 (some B)
  clear hb1
  go_wp2_with fail
  refine (K1.out _ h).mono ?_
  rintro e1 w2 ⟨rfl, h, hg⟩
  replace g := grown_trans g hg
  clear hg
  go_wp2_with fail
  refine (K2.out _ h).mono ?_
  rintro e1 w3 ⟨rfl, h, hg⟩
  replace g := grown_trans g hg
  clear hg
  go_wp2_with fail
  refine (K3.out _ h).mono ?_
  rintro e1 w4 ⟨rfl, h, hg⟩
  replace g := grown_trans g hg
  clear hg
  go_wp2_with fail
  refine (D.out _ h).mono ?_
  rintro e1 w5 ⟨rfl, hb1⟩
  replace h := h.next hb1
  replace g := grown_trans g (grown_of_below hb1 (some B))
  clear hb1
  go_wp2_with fail
  refine (A2.out _ h).mono ?_
  rintro e1 w6 ⟨rfl, hb1⟩
  replace h := h.next hb1
  replace g := grown_trans g (grown_of_below hb1 (some B))
  clear hb1
  go_wp2_with fail
  refine (K4.out _ h).mono ?_
  rintro e1 w7 ⟨rfl, h, hg⟩
  replace g := grown_trans g hg
  clear hg
  go_wp2_with fail
  go_ret
  exact ⟨rfl, g⟩

/-- What the law's variables are behind some requests, told by what is remembered of the step. -/
def OnceInv (e : Ent) (undone last : Int) (ans : List (Int × Int)) : Prop :=
  (undone = 0 ∧ e.b = false ∧ e.t = last ∧ 0 ≤ last ∧ (1 ≤ last → e.c = 150 ∧ mget ans last = some 150)) ∨ (undone = 1 ∧ e.b = true)

theorem keyI : KeyLaw Try.prog 3 (fun n : Int => Value.int .i64 n) := intKey Try.underlying3
theorem zeroI (w : World) : (zeroValue 3).run Try.prog w = .ok (.int .i64 0) w := by kernel_rfl
def vI (n : Int) : Value := .int .i64 n
theorem looked_int (m : List (Int × Int)) (a : Int) : looked (.int .i64 0) vI m a = .int .i64 ((mget m a).getD 0) := by
  unfold looked vI
  cases mget m a <;> rfl

theorem IsBox.grown {w w' : World} {X B : Nat} {m : List ((Int × Int) × Ent)} (h : IsBox w X B m) {r : Option Nat} (hg : w.grownBy w' r) (h1 : some X ≠ r) (h2 : some B ≠ r) : IsBox w' X B m := ⟨h.1.grown hg h1, h.2.grown hg h2⟩

theorem Rd.store {κ ν : Type} {kE : κ → Value} {vE : ν → Value} {m : List (κ × ν)} {w w' : World} {B : Nat} {A : Option Addr} {xs : List Value} (h : Rd w A xs) (hM : IsMap w B kE vE m) (hg : w.grownBy w' (some B)) : Rd w' A xs := by
  rcases h with h | ⟨b, off, hA, hlt, hc⟩
  · exact .inl h
  · rcases xs with _ | ⟨x, xs⟩
    · exact .inl rfl
    · have hne : b ≠ B := by
        rintro rfl
        obtain ⟨es, c, hb, _⟩ := hM
        have := hc 0 x rfl
        simp [World.cell?, hb] at this
      have hk := hg.block b hlt (fun e => hne (by injection e))
      exact .inr ⟨b, off, hA, Nat.lt_of_lt_of_le hlt hg.size, fun j u hu => (World.cell?_of_block (a := ⟨b, off + j, none⟩) hk).trans (hc j u hu)⟩

set_option maxRecDepth 100000 in
set_option maxHeartbeats 40000000 in
theorem inboxOnce_walk (l1 l2 : List Int) (A1 A2 : Option Addr) (c1 c2 : Nat) (w : World) (hR1 : Rd w A1 (l1.flatMap en1)) (hR2 : Rd w A2 (l2.flatMap en1)) (hl1 : l1.length ≤ 140737488351232) (hl2 : l2.length ≤ 140737488351232) (ok1 : ∀ x ∈ l1, I64 x) :
    Calls Try.prog 3 #[.slice A1 l1.length c1, .slice A2 l2.length c2] w (Law w) := by
  have hmm := @run_makeMap Try.prog
  go_enter Try.func3, Try.ntmps3
  go_wp2_with fail
  refine (wakes_any _).mono ?_
  rintro e w1 ⟨rfl, hb⟩
  replace hR1 := hR1.below hb
  replace hR2 := hR2.below hb
  go_wp2_with fail
  refine (new_some _).mono ?_
  rintro e w2 ⟨X, B, rfl, hB, h, hb1, hlt⟩
  replace hR1 := hR1.below hb1
  replace hR2 := hR2.below hb1
  have hsz := hb.size
  replace hb := bthen hb hb1
  have hM := IsMap.made w2 (fun n : Int => Value.int .i64 n) vI
  have hBM : B ≠ w2.heap.size := by omega
  have hXM : X ≠ w2.heap.size := by have := h.1.lt; omega
  have hwM : w.heap.size ≤ w2.heap.size := hb.size
  have hwB : w.heap.size ≤ B := by omega
  replace h : IsBox (w2.alloc (.map #[] 0)) X B [] := h.next ((Below.refl _ _).alloc (Nat.le_refl _) (.map #[] 0))
  replace hR1 := hR1.below (w' := w2.alloc (.map #[] 0)) ((Below.refl _ _).alloc (Nat.le_refl _) (.map #[] 0))
  replace hR2 := hR2.below (w' := w2.alloc (.map #[] 0)) ((Below.refl _ _).alloc (Nat.le_refl _) (.map #[] 0))
  replace hb := hb.alloc hb.size (.map #[] 0)
  clear hb1 hlt hB
  go_wp2_with fail
  obtain ⟨w3, hw3⟩ : ∃ w3, w3 = w2.alloc (.map #[] 0) := ⟨_, rfl⟩
  rw [← hw3] at h hM hR1 hR2 hb ⊢
  obtain ⟨M, hMM⟩ : ∃ M, M = w2.heap.size := ⟨_, rfl⟩
  rw [← hMM] at hM hBM hXM hwM ⊢
  clear hw3 hMM hmm
  go_loopw [6, 7, 8, 22] (fun d u l i wr => ∃ (k : Nat) (undone last : Int) (m : List ((Int × Int) × Ent)) (ans : List (Int × Int)), k ≤ l1.length ∧ d = .int .i64 0 ∧ u = .int .i64 undone ∧ l = .int .i64 last ∧ i = .int .i64 k ∧
      OnceInv (entAt m (1, 1)) undone last ans ∧ IsBox wr X B m ∧ IsMap wr M (fun n : Int => Value.int .i64 n) vI ans ∧ Rd wr A1 (l1.flatMap en1) ∧ Rd wr A2 (l2.flatMap en1) ∧ Below w.heap.size w wr) (fun _ _ _ i _ => l1.length - (intOf i).toNat)
  case atStart => exact ⟨0, 0, 0, [], [], Nat.zero_le _, rfl, rfl, rfl, rfl, .inl ⟨rfl, rfl, rfl, by omega, fun h => absurd h (by omega)⟩, h, hM, hR1, hR2, hb⟩
  case round =>
    clear h hM hR1 hR2 hb
    obtain ⟨k, undone, last, m, ans, hk, rfl, rfl, rfl, rfl, hI, h, hM, hR1, hR2, hb⟩ := hrel
    by_cases hlt : k < l1.length
    · obtain ⟨x, hx⟩ : ∃ x, l1[k]? = some x := ⟨l1[k], List.getElem?_eq_getElem hlt⟩
      have okx := ok1 x (List.mem_of_getElem? hx)
      have hbx := I64.bd okx
      obtain ⟨b, off, rfl, hbs, hcc⟩ := hR1.at_ 1 en1_len (by omega) hx
      have hq := hcc 0 _ rfl
      simp only [Nat.add_zero, Nat.mul_one] at hq
      clear hcc hx
      have hcode : (k < l2.length ∧ ∃ y b2 off2, A2 = some ⟨b2, off2, none⟩ ∧ wr.cell? ⟨b2, off2 + k, none⟩ = some (.int .i64 y) ∧ (y.tmod 2 == 0) = true) ∨ (k < l2.length ∧ ∃ y b2 off2, A2 = some ⟨b2, off2, none⟩ ∧ wr.cell? ⟨b2, off2 + k, none⟩ = some (.int .i64 y) ∧ (y.tmod 2 == 0) = false) ∨ l2.length ≤ k := by
        by_cases h2 : k < l2.length
        · obtain ⟨y, hy⟩ : ∃ y, l2[k]? = some y := ⟨l2[k], List.getElem?_eq_getElem h2⟩
          obtain ⟨b2, off2, e2, hbs2, hcc⟩ := hR2.at_ 1 en1_len (by omega) hy
          have hq := hcc 0 _ rfl
          simp only [Nat.add_zero, Nat.mul_one] at hq
          cases hy : (y.tmod 2 == 0) with
          | true => exact .inl ⟨h2, y, b2, off2, e2, hq, hy⟩
          | false => exact .inr (.inl ⟨h2, y, b2, off2, e2, hq, hy⟩)
        · exact .inr (.inr (by omega))
      cases hU : (x.tmod 7 == 0) with
      | true =>
        rcases hI with ⟨rfl, hb1, hb2, hb3, hb4⟩ | ⟨rfl, hb1⟩
        · have A := hid fun w h => ask_is (X := X) (B := B) (m := m) (o := 1) (s := 1) (t := x) (u := true) (v := 0) (c := 0) w h (ask_undo hb1 x)
          have K := hid fun c w h => keep_is (X := X) (B := B) (m := m) (m' := mset m (1, 1) ⟨1, 1, (entAt m (1, 1)).t, (entAt m (1, 1)).c, true⟩) (o := 1) (s := 1) (t := x) (u := true) c w h (by rw [ask_undo hb1]) rfl
          have HN := hid (show (entAt (mset m (1, 1) ⟨1, 1, (entAt m (1, 1)).t, (entAt m (1, 1)).c, true⟩) (1, 1)).b = true from by rw [entAt_same])
          clear hb1 hb2 hb3 hb4
          generalize mset m (1, 1) ⟨1, 1, (entAt m (1, 1)).t, (entAt m (1, 1)).c, true⟩ = m2 at *
          rcases hcode with ⟨h2, y, b2, off2, rfl, hq2, hy⟩ | ⟨h2, y, b2, off2, rfl, hq2, hy⟩ | h2
          · go_wp2_with fail
            refine (A.out _ h).mono ?_
            rintro e w5 ⟨rfl, hb5⟩
            replace h := h.next hb5
            replace hM := hM.next hb5
            replace hR1 := hR1.below hb5
            replace hR2 := hR2.below hb5
            replace hb := bthen hb hb5
            clear hb5
            go_wp2_with fail
            refine (K.out 0 _ h).mono ?_
            rintro e w6 ⟨rfl, h6, hg⟩
            have hlB := h.2.lt
            replace hM := hM.grown hg (fun e => hBM (by injection e with e; exact e.symm))
            replace hR1 := hR1.store h.2 hg
            replace hR2 := hR2.store h.2 hg
            replace hb := hb.trans (grown_below hg hb.size hwB)
            replace h := h6
            clear h6 hg hlB
            go_wp2_with fail
            go_roundw
            case rel => exact ⟨k + 1, 1, last, m2, ans, by omega, rfl, rfl, rfl, by go_num, .inr ⟨rfl, HN.out⟩, h, hM, hR1, hR2, hb⟩
            case measure => simp [intOf]; omega
          · go_wp2_with fail
            refine (A.out _ h).mono ?_
            rintro e w5 ⟨rfl, hb5⟩
            replace h := h.next hb5
            replace hM := hM.next hb5
            replace hR1 := hR1.below hb5
            replace hR2 := hR2.below hb5
            replace hb := bthen hb hb5
            clear hb5
            go_wp2_with fail
            refine (K.out 150 _ h).mono ?_
            rintro e w6 ⟨rfl, h6, hg⟩
            have hlB := h.2.lt
            replace hM := hM.grown hg (fun e => hBM (by injection e with e; exact e.symm))
            replace hR1 := hR1.store h.2 hg
            replace hR2 := hR2.store h.2 hg
            replace hb := hb.trans (grown_below hg hb.size hwB)
            replace h := h6
            clear h6 hg hlB
            go_wp2_with fail
            go_roundw
            case rel => exact ⟨k + 1, 1, last, m2, ans, by omega, rfl, rfl, rfl, by go_num, .inr ⟨rfl, HN.out⟩, h, hM, hR1, hR2, hb⟩
            case measure => simp [intOf]; omega
          · go_wp2_with fail
            refine (A.out _ h).mono ?_
            rintro e w5 ⟨rfl, hb5⟩
            replace h := h.next hb5
            replace hM := hM.next hb5
            replace hR1 := hR1.below hb5
            replace hR2 := hR2.below hb5
            replace hb := bthen hb hb5
            clear hb5
            go_wp2_with fail
            refine (K.out 150 _ h).mono ?_
            rintro e w6 ⟨rfl, h6, hg⟩
            have hlB := h.2.lt
            replace hM := hM.grown hg (fun e => hBM (by injection e with e; exact e.symm))
            replace hR1 := hR1.store h.2 hg
            replace hR2 := hR2.store h.2 hg
            replace hb := hb.trans (grown_below hg hb.size hwB)
            replace h := h6
            clear h6 hg hlB
            go_wp2_with fail
            go_roundw
            case rel => exact ⟨k + 1, 1, last, m2, ans, by omega, rfl, rfl, rfl, by go_num, .inr ⟨rfl, HN.out⟩, h, hM, hR1, hR2, hb⟩
            case measure => simp [intOf]; omega
        · have A := hid fun w h => ask_is (X := X) (B := B) (m := m) (o := 1) (s := 1) (t := x) (u := true) (v := 1) (c := 0) w h (ask_barred hb1 x true)
          replace hb1 := hid hb1
          rcases hcode with ⟨h2, y, b2, off2, rfl, hq2, hy⟩ | ⟨h2, y, b2, off2, rfl, hq2, hy⟩ | h2
          · go_wp2_with fail
            refine (A.out _ h).mono ?_
            rintro e w5 ⟨rfl, hb5⟩
            replace h := h.next hb5
            replace hM := hM.next hb5
            replace hR1 := hR1.below hb5
            replace hR2 := hR2.below hb5
            replace hb := bthen hb hb5
            clear hb5
            go_wp2_with fail
            go_roundw
            case rel => exact ⟨k + 1, 1, last, m, ans, by omega, rfl, rfl, rfl, by go_num, .inr ⟨rfl, hb1.out⟩, h, hM, hR1, hR2, hb⟩
            case measure => simp [intOf]; omega
          · go_wp2_with fail
            refine (A.out _ h).mono ?_
            rintro e w5 ⟨rfl, hb5⟩
            replace h := h.next hb5
            replace hM := hM.next hb5
            replace hR1 := hR1.below hb5
            replace hR2 := hR2.below hb5
            replace hb := bthen hb hb5
            clear hb5
            go_wp2_with fail
            go_roundw
            case rel => exact ⟨k + 1, 1, last, m, ans, by omega, rfl, rfl, rfl, by go_num, .inr ⟨rfl, hb1.out⟩, h, hM, hR1, hR2, hb⟩
            case measure => simp [intOf]; omega
          · go_wp2_with fail
            refine (A.out _ h).mono ?_
            rintro e w5 ⟨rfl, hb5⟩
            replace h := h.next hb5
            replace hM := hM.next hb5
            replace hR1 := hR1.below hb5
            replace hR2 := hR2.below hb5
            replace hb := bthen hb hb5
            clear hb5
            go_wp2_with fail
            go_roundw
            case rel => exact ⟨k + 1, 1, last, m, ans, by omega, rfl, rfl, rfl, by go_num, .inr ⟨rfl, hb1.out⟩, h, hM, hR1, hR2, hb⟩
            case measure => simp [intOf]; omega
      | false =>
        rcases hI with ⟨rfl, hb1, hb2, hb3, hb4⟩ | ⟨rfl, hb1⟩
        · by_cases hs : x < 1 ∨ x < last
          · have A := hid fun w h => ask_is (X := X) (B := B) (m := m) (o := 1) (s := 1) (t := x) (u := false) (v := 2) (c := 0) w h (ask_stale hb1 x (by rw [hb2]; exact hs))
            have HI : Hid (OnceInv (entAt m (1, 1)) 0 last ans) := hid (.inl ⟨rfl, hb1, hb2, hb3, hb4⟩)
            clear hb1 hb2 hb3 hb4 hs
            rcases hcode with ⟨h2, y, b2, off2, rfl, hq2, hy⟩ | ⟨h2, y, b2, off2, rfl, hq2, hy⟩ | h2
            · go_wp2_with fail
              refine (A.out _ h).mono ?_
              rintro e w5 ⟨rfl, hb5⟩
              replace h := h.next hb5
              replace hM := hM.next hb5
              replace hR1 := hR1.below hb5
              replace hR2 := hR2.below hb5
              replace hb := bthen hb hb5
              clear hb5
              go_wp2_with fail
              go_roundw
              case rel => exact ⟨k + 1, 0, last, m, ans, by omega, rfl, rfl, rfl, by go_num, HI.out, h, hM, hR1, hR2, hb⟩
              case measure => simp [intOf]; omega
            · go_wp2_with fail
              refine (A.out _ h).mono ?_
              rintro e w5 ⟨rfl, hb5⟩
              replace h := h.next hb5
              replace hM := hM.next hb5
              replace hR1 := hR1.below hb5
              replace hR2 := hR2.below hb5
              replace hb := bthen hb hb5
              clear hb5
              go_wp2_with fail
              go_roundw
              case rel => exact ⟨k + 1, 0, last, m, ans, by omega, rfl, rfl, rfl, by go_num, HI.out, h, hM, hR1, hR2, hb⟩
              case measure => simp [intOf]; omega
            · go_wp2_with fail
              refine (A.out _ h).mono ?_
              rintro e w5 ⟨rfl, hb5⟩
              replace h := h.next hb5
              replace hM := hM.next hb5
              replace hR1 := hR1.below hb5
              replace hR2 := hR2.below hb5
              replace hb := bthen hb hb5
              clear hb5
              go_wp2_with fail
              go_roundw
              case rel => exact ⟨k + 1, 0, last, m, ans, by omega, rfl, rfl, rfl, by go_num, HI.out, h, hM, hR1, hR2, hb⟩
              case measure => simp [intOf]; omega
          · by_cases he : x = last
            · have h1x : 1 ≤ last := by omega
              obtain ⟨g1, g2⟩ := hb4 h1x
              have A := hid fun w h => ask_is (X := X) (B := B) (m := m) (o := 1) (s := 1) (t := x) (u := false) (v := 1) (c := 150) w h (by rw [he, ← hb2, ← g1]; exact ask_known hb1 (by rw [hb2]; exact h1x))
              have HI : Hid (OnceInv (entAt m (1, 1)) 0 last ans) := hid (.inl ⟨rfl, hb1, hb2, hb3, hb4⟩)
              have HG : Hid (mget ans x = some 150) := hid (by rw [he]; exact g2)
              clear hb1 hb2 hb3 hb4 hs he g1 g2
              rcases hcode with ⟨h2, y, b2, off2, rfl, hq2, hy⟩ | ⟨h2, y, b2, off2, rfl, hq2, hy⟩ | h2
              · go_wp2_with fail
                refine (A.out _ h).mono ?_
                rintro e w5 ⟨rfl, hb5⟩
                replace h := h.next hb5
                replace hM := hM.next hb5
                replace hR1 := hR1.below hb5
                replace hR2 := hR2.below hb5
                replace hb := bthen hb hb5
                clear hb5
                have hlk := hM.look keyI Try.underlying26 (zeroI _) x
                rw [looked_int, HG.out] at hlk
                simp only [Option.getD_some] at hlk
                go_wp2_with fail
                clear hlk
                go_roundw
                case rel => exact ⟨k + 1, 0, last, m, ans, by omega, rfl, rfl, rfl, by go_num, HI.out, h, hM, hR1, hR2, hb⟩
                case measure => simp [intOf]; omega
              · go_wp2_with fail
                refine (A.out _ h).mono ?_
                rintro e w5 ⟨rfl, hb5⟩
                replace h := h.next hb5
                replace hM := hM.next hb5
                replace hR1 := hR1.below hb5
                replace hR2 := hR2.below hb5
                replace hb := bthen hb hb5
                clear hb5
                have hlk := hM.look keyI Try.underlying26 (zeroI _) x
                rw [looked_int, HG.out] at hlk
                simp only [Option.getD_some] at hlk
                go_wp2_with fail
                clear hlk
                go_roundw
                case rel => exact ⟨k + 1, 0, last, m, ans, by omega, rfl, rfl, rfl, by go_num, HI.out, h, hM, hR1, hR2, hb⟩
                case measure => simp [intOf]; omega
              · go_wp2_with fail
                refine (A.out _ h).mono ?_
                rintro e w5 ⟨rfl, hb5⟩
                replace h := h.next hb5
                replace hM := hM.next hb5
                replace hR1 := hR1.below hb5
                replace hR2 := hR2.below hb5
                replace hb := bthen hb hb5
                clear hb5
                have hlk := hM.look keyI Try.underlying26 (zeroI _) x
                rw [looked_int, HG.out] at hlk
                simp only [Option.getD_some] at hlk
                go_wp2_with fail
                clear hlk
                go_roundw
                case rel => exact ⟨k + 1, 0, last, m, ans, by omega, rfl, rfl, rfl, by go_num, HI.out, h, hM, hR1, hR2, hb⟩
                case measure => simp [intOf]; omega
            · have hx1 : 1 ≤ x := by omega
              have hx2 : last < x := by omega
              have A := hid fun w h => ask_is (X := X) (B := B) (m := m) (o := 1) (s := 1) (t := x) (u := false) (v := 0) (c := 0) w h (ask_fresh hb1 x hx1 (by omega))
              have K := hid fun c w h => keep_is (X := X) (B := B) (m := m) (m' := mset m (1, 1) ⟨1, 1, x, c, false⟩) (o := 1) (s := 1) (t := x) (u := false) c w h (by rw [ask_fresh hb1 x hx1 (by omega)]) (by simp [keepE, hb1])
              have HE := hid fun c => entAt_same m (1, 1) ⟨1, 1, x, c, false⟩
              have HX1 := hid hx1
              have HX2 := hid hx2
              clear hb1 hb2 hb3 hb4 hs he hx1 hx2
              rcases hcode with ⟨h2, y, b2, off2, rfl, hq2, hy⟩ | ⟨h2, y, b2, off2, rfl, hq2, hy⟩ | h2
              · go_wp2_with fail
                refine (A.out _ h).mono ?_
                rintro e w5 ⟨rfl, hb5⟩
                replace h := h.next hb5
                replace hM := hM.next hb5
                replace hR1 := hR1.below hb5
                replace hR2 := hR2.below hb5
                replace hb := bthen hb hb5
                clear hb5
                go_wp2_with fail
                refine (K.out 0 _ h).mono ?_
                rintro e w6 ⟨rfl, h6, hg⟩
                have hlB := h.2.lt
                replace hM := hM.grown hg (fun e => hBM (by injection e with e; exact e.symm))
                replace hR1 := hR1.store h.2 hg
                replace hR2 := hR2.store h.2 hg
                replace hb := hb.trans (grown_below hg hb.size hwB)
                replace h := h6
                clear h6 hg hlB
                have hx2 := HX2.out
                go_wp2_with (first | (at_mapUpdate; refine wpList_store _ rfl _ _ _ 26 3 rfl keyI Try.underlying26 M ans rfl hM x 0 rfl rfl ?_; intro w7 hM7 hg7 hs7))
                have h7 := h.grown hg7 (fun e => hXM (by injection e)) (fun e => hBM (by injection e))
                have hR17 := hR1.store hM hg7
                have hR27 := hR2.store hM hg7
                have hb7 := hb.trans (grown_below hg7 hb.size hwM)
                clear h hM hR1 hR2 hb hg7 hs7
                have D := hid (done_is (X := X) (B := B) (o := 1) (s := 1) (b := true) _ h7 (by rw [HE.out]; have := HX1.out; simp [doneF]; omega))
                have O := hid fun w h => onceMore_any (X := X) (B := B) (m := mset m (1, 1) ⟨1, 1, x, 0, false⟩) (t := x) w h _ (HE.out 0) rfl rfl rfl HX1.out
                refine D.out.mono ?_
                rintro e w8 ⟨rfl, hb8⟩
                replace h7 := h7.next hb8
                replace hb7 := bthen hb7 hb8
                clear hb8 D
                go_wp2_with fail
                refine (O.out _ h7).mono ?_
                rintro e w9 ⟨rfl, hg⟩
                go_wp2_with fail
                go_ret
                exact ⟨rfl, hb7.trans (grown_below hg hb7.size hwB)⟩
              · go_wp2_with fail
                refine (A.out _ h).mono ?_
                rintro e w5 ⟨rfl, hb5⟩
                replace h := h.next hb5
                replace hM := hM.next hb5
                replace hR1 := hR1.below hb5
                replace hR2 := hR2.below hb5
                replace hb := bthen hb hb5
                clear hb5
                go_wp2_with fail
                refine (K.out 150 _ h).mono ?_
                rintro e w6 ⟨rfl, h6, hg⟩
                have hlB := h.2.lt
                replace hM := hM.grown hg (fun e => hBM (by injection e with e; exact e.symm))
                replace hR1 := hR1.store h.2 hg
                replace hR2 := hR2.store h.2 hg
                replace hb := hb.trans (grown_below hg hb.size hwB)
                replace h := h6
                clear h6 hg hlB
                have hx2 := HX2.out
                go_wp2_with (first | (at_mapUpdate; refine wpList_store _ rfl _ _ _ 26 3 rfl keyI Try.underlying26 M ans rfl hM x 150 rfl rfl ?_; intro w7 hM7 hg7 hs7))
                have h7 := h.grown hg7 (fun e => hXM (by injection e)) (fun e => hBM (by injection e))
                have hR17 := hR1.store hM hg7
                have hR27 := hR2.store hM hg7
                have hb7 := hb.trans (grown_below hg7 hb.size hwM)
                clear h hM hR1 hR2 hb hg7 hs7
                go_roundw
                case rel => exact ⟨k + 1, 0, x, _, mset ans x 150, by omega, rfl, rfl, rfl, by go_num, .inl ⟨rfl, by rw [HE.out], by rw [HE.out], by have := HX1.out; omega, fun _ => ⟨by rw [HE.out], by rw [mget_mset, if_pos rfl]⟩⟩, h7, hM7, hR17, hR27, hb7⟩
                case measure => simp [intOf]; omega
              · go_wp2_with fail
                refine (A.out _ h).mono ?_
                rintro e w5 ⟨rfl, hb5⟩
                replace h := h.next hb5
                replace hM := hM.next hb5
                replace hR1 := hR1.below hb5
                replace hR2 := hR2.below hb5
                replace hb := bthen hb hb5
                clear hb5
                go_wp2_with fail
                refine (K.out 150 _ h).mono ?_
                rintro e w6 ⟨rfl, h6, hg⟩
                have hlB := h.2.lt
                replace hM := hM.grown hg (fun e => hBM (by injection e with e; exact e.symm))
                replace hR1 := hR1.store h.2 hg
                replace hR2 := hR2.store h.2 hg
                replace hb := hb.trans (grown_below hg hb.size hwB)
                replace h := h6
                clear h6 hg hlB
                have hx2 := HX2.out
                go_wp2_with (first | (at_mapUpdate; refine wpList_store _ rfl _ _ _ 26 3 rfl keyI Try.underlying26 M ans rfl hM x 150 rfl rfl ?_; intro w7 hM7 hg7 hs7))
                have h7 := h.grown hg7 (fun e => hXM (by injection e)) (fun e => hBM (by injection e))
                have hR17 := hR1.store hM hg7
                have hR27 := hR2.store hM hg7
                have hb7 := hb.trans (grown_below hg7 hb.size hwM)
                clear h hM hR1 hR2 hb hg7 hs7
                go_roundw
                case rel => exact ⟨k + 1, 0, x, _, mset ans x 150, by omega, rfl, rfl, rfl, by go_num, .inl ⟨rfl, by rw [HE.out], by rw [HE.out], by have := HX1.out; omega, fun _ => ⟨by rw [HE.out], by rw [mget_mset, if_pos rfl]⟩⟩, h7, hM7, hR17, hR27, hb7⟩
                case measure => simp [intOf]; omega
        · have A := hid fun w h => ask_is (X := X) (B := B) (m := m) (o := 1) (s := 1) (t := x) (u := false) (v := 1) (c := 151) w h (ask_barred hb1 x false)
          replace hb1 := hid hb1
          rcases hcode with ⟨h2, y, b2, off2, rfl, hq2, hy⟩ | ⟨h2, y, b2, off2, rfl, hq2, hy⟩ | h2
          · go_wp2_with fail
            refine (A.out _ h).mono ?_
            rintro e w5 ⟨rfl, hb5⟩
            replace h := h.next hb5
            replace hM := hM.next hb5
            replace hR1 := hR1.below hb5
            replace hR2 := hR2.below hb5
            replace hb := bthen hb hb5
            clear hb5
            go_wp2_with fail
            go_roundw
            case rel => exact ⟨k + 1, 1, last, m, ans, by omega, rfl, rfl, rfl, by go_num, .inr ⟨rfl, hb1.out⟩, h, hM, hR1, hR2, hb⟩
            case measure => simp [intOf]; omega
          · go_wp2_with fail
            refine (A.out _ h).mono ?_
            rintro e w5 ⟨rfl, hb5⟩
            replace h := h.next hb5
            replace hM := hM.next hb5
            replace hR1 := hR1.below hb5
            replace hR2 := hR2.below hb5
            replace hb := bthen hb hb5
            clear hb5
            go_wp2_with fail
            go_roundw
            case rel => exact ⟨k + 1, 1, last, m, ans, by omega, rfl, rfl, rfl, by go_num, .inr ⟨rfl, hb1.out⟩, h, hM, hR1, hR2, hb⟩
            case measure => simp [intOf]; omega
          · go_wp2_with fail
            refine (A.out _ h).mono ?_
            rintro e w5 ⟨rfl, hb5⟩
            replace h := h.next hb5
            replace hM := hM.next hb5
            replace hR1 := hR1.below hb5
            replace hR2 := hR2.below hb5
            replace hb := bthen hb hb5
            clear hb5
            go_wp2_with fail
            go_roundw
            case rel => exact ⟨k + 1, 1, last, m, ans, by omega, rfl, rfl, rfl, by go_num, .inr ⟨rfl, hb1.out⟩, h, hM, hR1, hR2, hb⟩
            case measure => simp [intOf]; omega
    · have hk' : k = l1.length := by omega
      subst hk'
      clear hlt hk
      rcases hI with ⟨rfl, hb1, hb2, hb3, hb4⟩ | ⟨rfl, hb1⟩
      · have hd : doneF (entAt m (1, 1)) = false := by
          rcases Int.lt_or_le last 1 with h1 | h1
          · simp [doneF, show ¬ 0 < (entAt m (1, 1)).t from by omega]
          · simp [doneF, (hb4 h1).1]
        have D := hid fun w h => done_is (X := X) (B := B) (m := m) (o := 1) (s := 1) (b := false) w h hd
        clear hd hb1 hb2 hb3 hb4
        go_wp2_with fail
        refine (D.out _ h).mono ?_
        rintro e w5 ⟨rfl, hb1⟩
        go_wp2_with fail
        go_ret
        exact ⟨rfl, bthen hb hb1⟩
      · have hd : doneF (entAt m (1, 1)) = false := by simp [doneF, hb1]
        have D := hid fun w h => done_is (X := X) (B := B) (m := m) (o := 1) (s := 1) (b := false) w h hd
        clear hd hb1
        go_wp2_with fail
        refine (D.out _ h).mono ?_
        rintro e w5 ⟨rfl, hb1⟩
        go_wp2_with fail
        go_ret
        exact ⟨rfl, bthen hb hb1⟩

end Go.Proofs.Ytidjkigkfefojaa
