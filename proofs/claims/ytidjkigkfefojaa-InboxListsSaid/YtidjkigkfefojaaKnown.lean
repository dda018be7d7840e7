/-
  The walk of InboxKnown.
-/
import Derived.Test.YtidjkigkfefojaaList08
namespace Go.Proofs.Ytidjkigkfefojaa
open Go.RowKit Go.WideShapes
set_option linter.unusedVariables false

/-- What the inbox remembers when just one step was asked for. -/
def KnownInv (m : List ((Int × Int) × Ent)) (o s last : Int) : Prop := (last = 0 ∧ m = []) ∨ (1 ≤ last ∧ ∃ c, m = [((o, s), ⟨o, s, last, c, false⟩)])

theorem known_at {m : List ((Int × Int) × Ent)} {o s last : Int} (h : KnownInv m o s last) : (entAt m (o, s)).t = last ∧ (entAt m (o, s)).b = false ∧ 0 ≤ last := by
  rcases h with ⟨rfl, rfl⟩ | ⟨h1, c, rfl⟩
  · exact ⟨rfl, rfl, Int.le_refl _⟩
  · have e : entAt [((o, s), (⟨o, s, last, c, false⟩ : Ent))] (o, s) = ⟨o, s, last, c, false⟩ := by simp [entAt, mget]
    rw [e]; exact ⟨rfl, rfl, by omega⟩
theorem known_set {m : List ((Int × Int) × Ent)} {o s last : Int} (h : KnownInv m o s last) (t c : Int) (ht : last < t) : KnownInv (mset m (o, s) (keepE (entAt m (o, s)) o s t false c)) o s t := by
  obtain ⟨_, hb, h0⟩ := known_at h
  right
  refine ⟨by omega, c, ?_⟩
  have e : keepE (entAt m (o, s)) o s t false c = ⟨o, s, t, c, false⟩ := by simp [keepE, hb]
  rw [e]
  rcases h with ⟨_, rfl⟩ | ⟨_, c', rfl⟩
  · rfl
  · simp [mset]
theorem known_not {m : List ((Int × Int) × Ent)} {o s last : Int} (h : KnownInv m o s last) (t : Int) (ht : t ≤ last) : (askF (entAt m (o, s)) t false).1 ≠ 0 := by
  obtain ⟨h1, h2, h3⟩ := known_at h
  by_cases hs : t < 1 ∨ t < last
  · rw [ask_stale h2 t (by rw [h1]; exact hs)]; decide
  · have : t = (entAt m (o, s)).t := by omega
    rw [this, ask_known h2 (by omega)]
    simp
theorem known_fresh {m : List ((Int × Int) × Ent)} {o s last : Int} (h : KnownInv m o s last) (t : Int) (ht : last < t) : (askF (entAt m (o, s)) t false).1 = 0 := by
  obtain ⟨h1, h2, h3⟩ := known_at h
  rw [ask_fresh h2 t (by omega) (by omega)]

theorem Rd.of_own {w : World} {base : Nat} {e : TypeId} {size : Nat} {v : Value} {n : Nat} {xs : List Value} (h : w.ownsRow base e size v n xs) : ∃ A cap, v = .slice A n cap ∧ Rd w A xs := by
  have h0 := h
  obtain ⟨hl, h1 | ⟨g, cap, cur, rfl, _, hh, hn, _⟩⟩ := h
  · obtain ⟨rfl, rfl⟩ := h1
    exact ⟨none, 0, rfl, .inl (List.eq_nil_of_length_eq_zero (by simpa using hl))⟩
  · refine ⟨_, cap, rfl, ?_⟩
    rcases xs with _ | ⟨x, xs⟩
    · exact .inl rfl
    · right
      refine ⟨g, 0, rfl, (Array.getElem?_eq_some_iff.1 hh).1, fun j u hu => ?_⟩
      have := h0.cells (g := g) rfl j u hu
      rw [add_plain] at this
      exact this

theorem cellOne {w : World} {g : Nat} {t : TypeId} {a b : Value} (h : Blk w g t #[a, b]) : w.cell? ⟨g, 1, none⟩ = some b := h.cell 1

set_option maxRecDepth 100000 in
set_option maxHeartbeats 8000000 in
theorem inboxKnown_walk (hS : SortsAt Try.prog 24 (.func (.func 25) #[] #[]) enE5 5 ltE)
    (l : List (Int × Int)) (A : Option Addr) (cp : Nat) (O S : Int) (w : World) (hR : Rd w A (l.flatMap en2)) (hl : l.length ≤ 140737488351232) :
    Calls Try.prog 6 #[.int .i64 O, .int .i64 S, .slice A l.length cp] w (Law w) := by
  go_enter Try.func6, Try.ntmps6
  go_wp2_with fail
  refine (wakes_any _).mono ?_
  rintro e w1 ⟨rfl, hb⟩
  go_wp2_with fail
  refine (new_some _).mono ?_
  rintro e w2 ⟨X, B, rfl, hB, h, hb1, hltB⟩
  have hwB : w.heap.size ≤ B := Nat.le_trans hb.size hB
  replace hb := bthen hb hb1
  clear hb1 hB hltB
  go_wp2_with fail
  go_loopw [8, 19] (fun u i wr => ∃ (k : Nat) (last : Int) (m : List ((Int × Int) × Ent)), k ≤ l.length ∧ u = .int .i64 last ∧ i = .int .i64 k ∧ Hid (KnownInv m O S last) ∧ IsBox wr X B m ∧ Below w.heap.size w wr) (fun _ i _ => l.length - (intOf i).toNat)
  case atStart => exact ⟨0, 0, [], Nat.zero_le _, rfl, rfl, hid (.inl ⟨rfl, rfl⟩), h, hb⟩
  case round =>
    clear h hb
    obtain ⟨k, last, m, hk, rfl, rfl, hI, h, hb⟩ := hrel
    by_cases hlt : k < l.length
    · obtain ⟨x, hx⟩ : ∃ x, l[k]? = some x := ⟨l[k], List.getElem?_eq_getElem hlt⟩
      have hR1 := hR.below hb
      obtain ⟨b, off, rfl, hbs, hcc⟩ := hR1.at_ 2 en2_len (by omega) hx
      obtain ⟨x1, x2⟩ := x
      have q0 : wr.cell? ⟨b, off + k * 2, none⟩ = some (.int .i64 x1) := hcc 0 _ rfl
      have q1 : wr.cell? ⟨b, off + k * 2 + 1, none⟩ = some (.int .i64 x2) := hcc 1 _ rfl
      clear hcc hx hR1
      have hG : Blk (wr.alloc (.cells #[.int .i64 x1, .int .i64 x2] 46)) wr.heap.size 46 #[.int .i64 x1, .int .i64 x2] := Blk.new _ _ _
      replace h := h.alloc (.cells #[.int .i64 x1, .int .i64 x2] 46)
      replace hb := hb.alloc hb.size (.cells #[.int .i64 x1, .int .i64 x2] 46)
      by_cases hf : last < x1
      · have K := hid (keep_is (m' := mset m (O, S) (keepE (entAt m (O, S)) O S x1 false x2)) x2 _ h (known_fresh hI.out x1 hf) rfl)
        have hI2 := hid (known_set hI.out x1 x2 hf)
        have hE := hid (entAt_same m (O, S) (keepE (entAt m (O, S)) O S x1 false x2))
        obtain ⟨e1, e2, e3⟩ := known_at hI.out
        have hE2 := hid (show keepE (entAt m (O, S)) O S x1 false x2 = ⟨O, S, x1, x2, false⟩ from by simp [keepE, e2])
        have hx1 : 1 ≤ x1 := by omega
        have HX := hid hx1
        clear e1 e2 e3 hI hx1
        generalize mset m (O, S) (keepE (entAt m (O, S)) O S x1 false x2) = m2 at K hI2 hE
        go_wp2_with fail
        refine K.out.mono ?_
        rintro e4 w4 ⟨rfl, h4, hg⟩
        have hG4 := (Touch.of_grown hg).blk hG (fun e => h.2.notBlk hG e.symm)
        have hb4 := hb.trans (grown_below hg hb.size hwB)
        clear h hG hb hg K q0 q1
        obtain ⟨G, hGG⟩ : ∃ G, G = wr.heap.size := ⟨_, rfl⟩
        rw [← hGG] at hG4 ⊢
        clear hGG hbs
        have q0 : w4.cell? ⟨G, 0, none⟩ = some (.int .i64 x1) := hG4.cell 0
        have q1 : w4.cell? ⟨G, 1, none⟩ = some (.int .i64 x2) := hG4.cell 1
        have A1 := hid (ask_is (v := 1) (c := x2) (u := false) (t := x1) _ h4 (by rw [hE.out, hE2.out]; exact ask_known rfl HX.out))
        go_wp2_with fail
        refine A1.out.mono ?_
        rintro e5 w5 ⟨rfl, hb5⟩
        have h5 := h4.next hb5
        have hG5 := hG4.next hb5
        have hb6 := bthen hb4 hb5
        clear h4 hG4 hb4 hb5 A1 q0 q1
        have q1 : w5.cell? ⟨G, 1, none⟩ = some (.int .i64 x2) := hG5.cell 1
        have hdone : doneF (entAt m2 (O, S)) = (x2 == 0) := by
          rw [hE.out, hE2.out]
          have := HX.out
          simp only [doneF, Bool.not_false, Bool.and_true]
          rw [decide_eq_true (show 0 < x1 from by omega), Bool.true_and]
          rw [Bool.eq_iff_iff]; simp
        have D := hid fun w h => done_is (X := X) (B := B) (m := m2) (o := O) (s := S) w h hdone
        clear hdone
        go_wp2_with fail
        clear q1
        replace h5 : IsBox w5.drew X B m2 := h5
        replace hG5 : Blk w5.drew G 46 #[.int .i64 x1, .int .i64 x2] := hG5
        replace hb6 := hb6.drew
        have hself : (x2 != x2) = false := by simp
        go_region_held3 (fun w' => w'.cell? ⟨G, 1, none⟩ = some (.int .i64 x2)) (exact cellOne (by assumption))
          ((go_at_call 13; refine (D.out _ h5).mono ?_; rintro e6 w6 ⟨rfl, hb7⟩; have h7 := h5.next hb7; have hG7 := hG5.next hb7; have hb8 := bthen hb6 hb7; clear hb7 hG5 h5 hb6))
        all_goals
          go_wp2_with fail
          go_roundw
          case rel => exact ⟨k + 1, x1, m2, by omega, rfl, by go_num, hI2, h7, hb8⟩
          case measure => simp [intOf]; omega
      · have K := hid (keep_no (t := x1) (u := false) x2 _ h (known_not hI.out x1 (by omega)))
        have hf2 : decide (last < x1) = false := decide_eq_false hf
        have HF := hid hf
        clear hf
        go_wp2_with fail
        refine K.out.mono ?_
        rintro e4 w4 ⟨rfl, h4, hg⟩
        have hG4 := (Touch.of_grown hg).blk hG (fun e => h.2.notBlk hG e.symm)
        have hb4 := hb.trans (grown_below hg hb.size hwB)
        clear h hG hb hg K q0 q1
        have q0 : w4.cell? ⟨wr.heap.size, 0, none⟩ = some (.int .i64 x1) := hG4.cell 0
        go_wp2_with fail
        go_roundw
        case rel => exact ⟨k + 1, last, m, by omega, rfl, by go_num, hI, h4, hb4⟩
        case measure => simp [intOf]; omega
    · have hml : m.length ≤ 1 := by
        rcases hI.out with ⟨_, rfl⟩ | ⟨_, c, rfl⟩ <;> simp
      have L := hid (list_any hS X B m wr h (by omega))
      have hcase : (last = 0 ∧ m.length = 0) ∨ (last = 1 ∧ m.length = 1) ∨ (1 < last ∧ m.length = 1) := by
        rcases hI.out with ⟨h1, h2⟩ | ⟨h1, c, h2⟩
        · exact .inl ⟨h1, by rw [h2]; rfl⟩
        · by_cases h3 : last = 1
          · exact .inr (.inl ⟨h3, by rw [h2]; rfl⟩)
          · exact .inr (.inr ⟨by omega, by rw [h2]; rfl⟩)
      clear hI hml
      rcases hcase with ⟨rfl, hml⟩ | ⟨rfl, hml⟩ | ⟨hgt, hml⟩
      all_goals
        have HM := hid hml
        clear hml
        go_wp2_with fail
        refine L.out.mono ?_
        rintro e4 w4 ⟨v, l', rfl, hp, hst, hO', hb4⟩
        obtain ⟨A', cap', rfl, hR'⟩ := Rd.of_own hO'
        have hlen : l'.length = m.length := by have := hp.length_eq; simpa using this
        rw [HM.out] at hlen
        rw [hlen]
        replace hb := bthen hb hb4
        clear hO' hR' hb4 L hlen hp hst HM
        go_wp2_with fail
        go_ret
        exact ⟨by first | rfl | (simp; done) | (simp; omega), hb⟩

end Go.Proofs.Ytidjkigkfefojaa
