/-
  The walk of CreditBounds.
-/
import Derived.Test.YtpofhadeepgmbaaBal14
import Derived.Test.YtpofhadeepgmbaaHolds14
import Derived.Test.YtpofhadeepgmbaaMapLen
import Derived.Deep.CutBlock
namespace Go.Proofs.Ytpofhadeepgmbaa
open Go.RowKit
set_option linter.unusedVariables false

theorem bal_cust {ac : List (Int × Acc)} {id v : Int} {g : Nat} (h : Bal ac []) (h0 : 0 ≤ v) (h1 : v ≤ 1125899906842624) : Bal (custAc ac id v g) [] := by
  refine ⟨fun i a ha => ?_, (fun p hp => by cases hp), by simp⟩
  unfold custAc at ha
  rw [mget_mset] at ha
  split at ha
  · injection ha with ha
    subst ha
    cases hm : mget ac id with
    | none => exact ⟨rfl, h1, h0⟩
    | some b =>
      have := (h.exp id b hm).1
      have e : b.e = 0 := this
      exact ⟨by simp only; rw [e]; rfl, h1, by simp only; omega⟩
  · exact h.exp i a ha
theorem all_cust {ac : List (Int × Acc)} {k : Nat} {v : Int} {g : Nat} (h : ∀ j : Nat, j < k → ∃ a, mget ac ((j : Int) + 1) = some a) : ∀ j : Nat, j < k + 1 → ∃ a, mget (custAc ac ((k : Int) + 1) v g) ((j : Int) + 1) = some a := by
  intro j hj
  unfold custAc
  rw [mget_mset]
  split
  · exact ⟨_, rfl⟩
  · exact h j (by omega)
theorem all_mset {ac : List (Int × Acc)} {k : Nat} {c : Int} {b : Acc} (h : ∀ j : Nat, j < k → ∃ a, mget ac ((j : Int) + 1) = some a) : ∀ j : Nat, j < k → ∃ a, mget (mset ac c b) ((j : Int) + 1) = some a := by
  intro j hj
  rw [mget_mset]
  split
  · exact ⟨_, rfl⟩
  · exact h j hj

/-- The law's state: the book, and what the law itself keeps of the holds. -/
structure BW (n0 X BA BH M N : Nat) (ac : List (Int × Acc)) (hs : List (Int × Hd)) (wr : World) : Prop where
  book : IsBook n0 wr X BA BH ac hs
  held : IsMap wr M kI enH hs
  bal : Bal ac hs
  all : ∀ j : Nat, j < N → ∃ a, mget ac ((j : Int) + 1) = some a
  apart : M ≠ X ∧ M ≠ BA ∧ M ≠ BH ∧ n0 ≤ M
section
variable {n0 X BA BH M N : Nat} {ac : List (Int × Acc)} {hs : List (Int × Hd)} {w w' : World}
theorem BW.next (h : BW n0 X BA BH M N ac hs w) (hb : Below w.heap.size w w') : BW n0 X BA BH M N ac hs w' := ⟨h.book.next hb, h.held.next hb, h.bal, h.all, h.apart⟩
theorem BW.notOwn (h : BW n0 X BA BH M N ac hs w) {k : Nat} (hk : Own BA BH ac k) : M ≠ k := by
  rintro rfl
  rcases hk with e | e | ⟨p, hp, e⟩
  · exact h.apart.2.1 e
  · exact h.apart.2.2.1 e
  · exact h.held.notBlk (h.book.cells p hp) e.symm
theorem BW.blk_not {g : Nat} {t : TypeId} {cs : Array Value} (h : BW n0 X BA BH M N ac hs w) (hg : Blk w g t cs) (ht : t ≠ 71) {k : Nat} (hk : Own BA BH ac k) : g ≠ k := by
  rintro rfl
  rcases hk with rfl | rfl | ⟨p, hp, e⟩
  · exact h.book.acs.notBlk hg rfl
  · exact h.book.hds.notBlk hg rfl
  · exact (h.book.cells p hp).ne_ hg (fun e' => ht e'.symm) e
theorem BW.iter_touch (h : BW n0 X BA BH M N ac hs w) {r : Nat} (hr : ∀ k, k = X ∨ k = M ∨ Own BA BH ac k → k ≠ r) (hg : w.grownBy w' (some r)) : BW n0 X BA BH M N ac hs w' :=
  have ht := Touch.of_grown hg
  ⟨h.book.touch ht (hr X (.inl rfl)) (fun k hk => hr k (.inr (.inr hk))), ht.isMap h.held (hr M (.inr (.inl rfl))), h.bal, h.all, h.apart⟩
theorem BW.lt (h : BW n0 X BA BH M N ac hs w) : ∀ k, k = X ∨ k = M ∨ Own BA BH ac k → k < w.heap.size := by
  rintro k (rfl | rfl | hk)
  · exact h.book.blk.lt
  · exact h.held.lt
  · exact h.book.own_lt hk
theorem BW.look (h : BW n0 X BA BH M N ac hs w) (o : Int) : (Instr.lookup 38 (.map (some M)) (.int .i64 o) true).run Try.prog w = .ok (.tuple #[enH ((mget hs o).getD ⟨0, 0, 0⟩), .bool (mget hs o).isSome]) w := by
  have := h.held.lookOk keyL Try.underlying38 (zeroHd _) o
  rw [show looked (enH ⟨0, 0, 0⟩) enH hs o = enH ((mget hs o).getD ⟨0, 0, 0⟩) from by unfold looked; cases mget hs o <;> rfl] at this
  exact this
theorem held_look (h : IsMap w M kI enH hs) (o : Int) : (Instr.lookup 38 (.map (some M)) (.int .i64 o) true).run Try.prog w = .ok (.tuple #[enH ((mget hs o).getD ⟨0, 0, 0⟩), .bool (mget hs o).isSome]) w := by
  have := h.lookOk keyL Try.underlying38 (zeroHd _) o
  rw [show looked (enH ⟨0, 0, 0⟩) enH hs o = enH ((mget hs o).getD ⟨0, 0, 0⟩) from by unfold looked; cases mget hs o <;> rfl] at this
  exact this
theorem book_grown {hs' : List (Int × Hd)} (h : IsBook n0 w X BA BH ac hs') (hM : IsMap w M kI enH hs) (ha : M ≠ X ∧ M ≠ BA ∧ M ≠ BH ∧ n0 ≤ M) (hg : w.grownBy w' (some M)) : IsBook n0 w' X BA BH ac hs' :=
  h.touch (Touch.of_grown hg) (fun e => ha.1 e.symm) (fun k hk e => by
    subst e
    rcases hk with e | e | ⟨p, hp, e⟩
    · exact ha.2.1 e
    · exact ha.2.2.1 e
    · exact hM.notBlk (h.cells p hp) e.symm)
end

set_option maxRecDepth 100000 in
set_option maxHeartbeats 40000000 in
theorem creditBounds_walk (ls : List Int) (AL : Option Addr) (cL : Nat) (l : List Quad) (A : Option Addr) (cp : Nat) (w : World) (hRL : Rd w AL (ls.flatMap en1)) (okL : ∀ x ∈ ls, I64 x) (hlL : ls.length ≤ 140737488351232) (hR : Rd w A (l.flatMap en4)) (hl : l.length * 32 ≤ 140737488351232) :
    Calls Try.prog 5 #[.slice AL ls.length cL, .slice A l.length cp] w (Law w) := by
  have hmm := @run_makeMap Try.prog
  go_enter Try.func5, Try.ntmps5
  go_wp2_with fail
  refine (wakes_any _).mono ?_
  rintro e w1 ⟨rfl, hb⟩
  go_wp2_with fail
  refine (new_any _).mono ?_
  rintro e w2 ⟨X, BA, BH, rfl, h, hb1, hla, hlh, hlx⟩
  have hsz := hb.size
  have hn2 := hb1.size
  replace hb := bthen hb hb1
  clear hb1
  go_upto_region 4 with fail
  go_cut [6] (fun v wx => v = .int .i64 (min (ls.length : Int) 5) ∧ wx = w2)
  case first =>
    go_wp2_with fail
    all_goals (go_meet; exact ⟨by congr 1 <;> omega, rfl⟩)
  case rest =>
    obtain ⟨rfl, hwx⟩ := hcut
    rw [hwx]
    clear hwx
    obtain ⟨N, hN, hNl, hN5⟩ : ∃ N : Nat, min (ls.length : Int) 5 = N ∧ N ≤ ls.length ∧ N ≤ 5 := ⟨min ls.length 5, by omega, by omega, by omega⟩
    rw [hN]
    clear hN
    go_wp2_with fail
    go_loopw [29] (fun i wr => ∃ (k : Nat) (ac : List (Int × Acc)), k ≤ N ∧ i = .int .i64 k ∧ Hid (Bal ac [] ∧ ∀ j : Nat, j < k → ∃ a, mget ac ((j : Int) + 1) = some a) ∧ IsBook w1.heap.size wr X BA BH ac [] ∧ Below w.heap.size w wr ∧ w2.heap.size ≤ wr.heap.size) (fun i _ => N - (intOf i).toNat)
    case atStart => exact ⟨0, [], Nat.zero_le _, rfl, hid ⟨⟨(fun _ _ h => by simp [mget] at h), (fun p hp => by cases hp), by simp⟩, (fun j hj => by omega)⟩, h, hb, Nat.le_refl _⟩
    case round =>
      clear h hb
      obtain ⟨k, ac, hk, rfl, hB, h, hb, hn⟩ := hrel
      by_cases hlt : k < N
      · obtain ⟨x, hx⟩ : ∃ x, ls[k]? = some x := ⟨ls[k], List.getElem?_eq_getElem (by omega)⟩
        have hbx := I64.bd (okL x (List.mem_of_getElem? hx))
        have hR1 := hRL.below hb
        obtain ⟨b, off, rfl, hbs, hcc⟩ := hR1.at_ 1 en1_len (by omega) hx
        have hq := hcc 0 _ rfl
        simp only [Nat.add_zero, Nat.mul_one] at hq
        clear hcc hx hR1
        go_wp2_with fail
        all_goals
          refine (customer_yes h (by omega) (k + 1) _ ⟨by omega, by omega, by omega, by omega⟩).mono ?_
          rintro e w6 ⟨g, rfl, hg, h6, hT⟩
          have hB6 := hid (show ∀ v : Int, 0 ≤ v → v ≤ 1125899906842624 → (Bal (custAc ac ((k : Int) + 1) v g) [] ∧ ∀ j : Nat, j < k + 1 → ∃ a, mget (custAc ac ((k : Int) + 1) v g) ((j : Int) + 1) = some a) from fun v v0 v1 => ⟨bal_cust hB.out.1 v0 v1, all_cust hB.out.2⟩)
          have hb6 := hb.trans (hT.below hb.size (fun k' hk' => Nat.le_trans hsz (h.own_low hk')))
          have hn6 := Nat.le_trans hn hT.size
          clear hT h hb hn hB
          go_wp2_with fail
          go_roundw
          case rel => exact ⟨k + 1, _, by omega, by go_num, hid (hB6.out _ (by omega) (by omega)), h6, hb6, hn6⟩
          case measure => simp [intOf]; omega
      · have hk' : k = N := by omega
        subst hk'
        clear hlt hk
        obtain ⟨hB1, hA1⟩ := hB.out
        have hM := IsMap.made wr kI enH
        have hMA : wr.heap.size ≠ BA := Nat.ne_of_gt h.acs.lt
        have hMH : wr.heap.size ≠ BH := Nat.ne_of_gt h.hds.lt
        have hMX : wr.heap.size ≠ X := Nat.ne_of_gt h.blk.lt
        have hHB := hid (And.intro (show BW w1.heap.size X BA BH wr.heap.size k ac [] (wr.alloc (.map #[] 0)) from ⟨h.alloc _, hM, hB1, hA1, hMX, hMA, hMH, by omega⟩) (And.intro (hb.alloc hb.size (.map #[] 0)) (show w2.heap.size ≤ (wr.alloc (.map #[] 0)).heap.size from by simp; omega)))
        have hMw : w.heap.size ≤ wr.heap.size := hb.size
        clear hM hMA hMH hMX h hb hn hB hB1 hA1
        go_wp2_with fail
        obtain ⟨h, hb, hn⟩ := hHB.out
        obtain ⟨W0, hW0⟩ : ∃ W0, W0 = wr.alloc (.map #[] 0) := ⟨_, rfl⟩
        obtain ⟨M, hMe⟩ : ∃ M, M = wr.heap.size := ⟨_, rfl⟩
        rw [← hW0] at h hb hn ⊢
        rw [← hMe] at h hMw ⊢
        clear hW0 hMe hHB hmm
        go_loopw [47] (fun i wr => ∃ (t : Nat) (ac : List (Int × Acc)) (hs : List (Int × Hd)), t ≤ l.length ∧ i = .int .i64 t ∧ hs.length ≤ t ∧ BW w1.heap.size X BA BH M k ac hs wr ∧ Below w.heap.size w wr ∧ w2.heap.size ≤ wr.heap.size) (fun i _ => l.length - (intOf i).toNat)
        case atStart => exact ⟨0, ac, [], Nat.zero_le _, rfl, by simp, h, hb, hn⟩
        case round =>
          clear h hb hn
          obtain ⟨t, ac, hs, ht, rfl, hsl, h, hb, hn⟩ := hrel
          by_cases hlt : t < l.length
          · obtain ⟨x, hx⟩ : ∃ x, l[t]? = some x := ⟨l[t], List.getElem?_eq_getElem hlt⟩
            have hR1 := hR.below hb
            obtain ⟨b, off, rfl, hbs, hcc⟩ := hR1.at_ 4 en4_len (by omega) hx
            obtain ⟨xa, xo, xc, xm⟩ := x
            have q0 : wr.cell? ⟨b, off + t * 4, none⟩ = some (.int .i64 xa) := hcc 0 _ rfl
            have q1 : wr.cell? ⟨b, off + t * 4 + 1, none⟩ = some (.int .i64 xo) := hcc 1 _ rfl
            have q2 : wr.cell? ⟨b, off + t * 4 + 2, none⟩ = some (.int .i64 xc) := hcc 2 _ rfl
            have q3 : wr.cell? ⟨b, off + t * 4 + 3, none⟩ = some (.int .i64 xm) := hcc 3 _ rfl
            have hG : Blk (wr.alloc (.cells #[.int .i64 xa, .int .i64 xo, .int .i64 xc, .int .i64 xm] 35)) wr.heap.size 35 #[.int .i64 xa, .int .i64 xo, .int .i64 xc, .int .i64 xm] := Blk.new _ _ _
            have hwb : Below wr.heap.size wr (wr.alloc (.cells #[.int .i64 xa, .int .i64 xo, .int .i64 xc, .int .i64 xm] 35)) := (Below.refl _ _).alloc (Nat.le_refl _) _
            have hHH := hid (And.intro hG (And.intro (h.next hwb) (And.intro (bthen hb hwb) (Nat.le_trans hn hwb.size))))
            clear hcc hx hR1 hG hwb h hb hn
            have p00 : (wr.alloc (.cells #[.int .i64 xa, .int .i64 xo, .int .i64 xc, .int .i64 xm] 35)).cell? ⟨wr.heap.size, 0, none⟩ = some (.int .i64 xa) := hHH.out.1.cell 0
            go_upto_block 4 with fail
            clear p00
            obtain ⟨W0, hW0⟩ : ∃ W0, W0 = wr.alloc (.cells #[.int .i64 xa, .int .i64 xo, .int .i64 xc, .int .i64 xm] 35) := ⟨_, rfl⟩
            obtain ⟨G, hGe⟩ : ∃ G, G = wr.heap.size := ⟨_, rfl⟩
            obtain ⟨hG, h, hb, hn⟩ := hHH.out
            rw [← hW0] at hG h hb hn ⊢
            rw [← hGe] at hG ⊢
            clear q0 q1 q2 q3 hW0 hGe hHH
            go_cut [] (fun wx => ∃ (ac' : List (Int × Acc)) (hs' : List (Int × Hd)), hs'.length ≤ t + 1 ∧ BW w1.heap.size X BA BH M k ac' hs' wx ∧ Below w.heap.size w wx ∧ w2.heap.size ≤ wx.heap.size)
            case first =>
              clear hRL okL hlL hR hl hbs hla hlh hlx
              have hGl : G < W0.heap.size := hG.lt
              have p0 : W0.cell? ⟨G, 0, none⟩ = some (.int .i64 xa) := hG.cell 0
              have p1 : W0.cell? ⟨G, 1, none⟩ = some (.int .i64 xo) := hG.cell 1
              have p2 : W0.cell? ⟨G, 2, none⟩ = some (.int .i64 xc) := hG.cell 2
              have p3 : W0.cell? ⟨G, 3, none⟩ = some (.int .i64 xm) := hG.cell 3
              have hGo : Hid (∀ k', Own BA BH ac k' → G ≠ k') := hid (fun k' hk' => h.blk_not hG (by decide) hk')
              have hMo : Hid (∀ k', Own BA BH ac k' → M ≠ k') := hid (fun k' hk' => h.notOwn hk')
              have hlow : Hid (∀ k', Own BA BH ac k' → w.heap.size ≤ k') := hid (fun k' hk' => Nat.le_trans hsz (h.book.own_low hk'))
              by_cases k2 : xa = 2
              · have e2 : (xa == 2) = true := by simpa using k2
                by_cases hok : 1 ≤ xo ∧ 0 ≤ xm ∧ xm ≤ 1125899906842624
                · by_cases hr : holdR ac hs xo xc xm = 0
                  · obtain ⟨a, ha, hno, hle⟩ := hold_from hok hr
                    have K := hid (hold_ok h.book xo xc xm hok a ha hno hle)
                    have hB2 := hid (h.bal.hold ha hno hok.2.1 hle)
                    have hno' := hid hno
                    clear hok hr ha hno hle k2
                    go_wp2_with fail
                    refine K.out.mono ?_
                    rintro e w6 ⟨rfl, h6, hT⟩
                    have hM6 := hT.isMap h.held (fun hk => hMo.out _ hk rfl)
                    have hG6 := hT.blk hG (fun hk => hGo.out _ hk rfl)
                    have hb6 := hb.trans (hT.below hb.size (fun k' hk' => hlow.out _ hk'))
                    have hn6 := Nat.le_trans hn hT.size
                    have hA6 := hid (And.intro h6 (And.intro (all_mset (c := xc) (b := ⟨a.g, a.l, wrap64 (a.e + xm)⟩) h.all) (And.intro h.apart (And.intro hb6 hn6))))
                    have l6 := held_look hM6 xo
                    rw [hno'.out] at l6
                    simp only [enH, Option.getD_none, Option.isSome_none] at l6
                    have hGl : G < w6.heap.size := hG6.lt
                    have p1 : w6.cell? ⟨G, 1, none⟩ = some (.int .i64 xo) := hG6.cell 1
                    have p2 : w6.cell? ⟨G, 2, none⟩ = some (.int .i64 xc) := hG6.cell 2
                    have p3 : w6.cell? ⟨G, 3, none⟩ = some (.int .i64 xm) := hG6.cell 3
                    clear hT h hb hn hG K h6 hb6 hn6 hMo hGo hlow
                    go_wp2_with (first | (at_mapUpdate; refine wpList_store _ rfl _ _ _ 38 40 rfl keyL Try.underlying38 M hs rfl (hM6.alloc _) xo ⟨xo, xc, xm⟩ rfl rfl ?_; intro w8 hM8 hg8 hs8))
                    obtain ⟨h6, hal, hap, hb6, hn6⟩ := hA6.out
                    go_meet
                    exact ⟨_, _, Nat.le_trans mset_len (by omega), ⟨book_grown (h6.alloc _) (hM6.alloc _) hap hg8, hM8, hB2.out, hal, hap⟩, (hb6.alloc hb6.size _).trans (grown_below hg8 (hb6.alloc hb6.size _).size (by omega)), Nat.le_trans hn6 (by have := hg8.size; simp at this; omega)⟩
                  · have K := hid (hold_no h.book xo xc xm hok hr)
                    have hr2 : (holdR ac hs xo xc xm == 0) = false := by simpa using hr
                    clear hok hr k2
                    generalize holdR ac hs xo xc xm = r at K hr2
                    go_wp2_with fail
                    refine K.out.mono ?_
                    rintro e w6 ⟨rfl, hb6⟩
                    go_wp2_with fail
                    go_meet
                    exact ⟨ac, hs, by omega, h.next hb6, bthen hb hb6, Nat.le_trans hn hb6.size⟩
                · have K := hid (hold_arg h.book xo xc xm hok)
                  clear hok k2
                  go_wp2_with fail
                  refine K.out.mono ?_
                  rintro e w6 ⟨rfl, rfl⟩
                  go_wp2_with fail
                  go_meet
                  exact ⟨ac, hs, by omega, h, hb, hn⟩
              · have e2 : (xa == 2) = false := by simpa using k2
                by_cases k3 : xa = 3
                · have e3 : (xa == 3) = true := by simpa using k3
                  clear k2 k3
                  have l0 := h.look xo
                  cases hm : mget hs xo with
                  | none =>
                    rw [hm] at l0
                    simp only [enH, Option.getD_none, Option.isSome_none] at l0
                    have hwb : Below W0.heap.size W0 (W0.alloc (.cells #[.int .i64 0, .int .i64 0, .int .i64 0] 40)) := (Below.refl _ _).alloc (Nat.le_refl _) _
                    have K := hid (release_no (h.next hwb).book xo hm)
                    have hm' := hid hm
                    clear hm
                    go_wp2_with fail
                    refine K.out.mono ?_
                    rintro e w6 ⟨rfl, hb6⟩
                    have h6 := (h.next hwb).next hb6
                    have p1 : w6.cell? ⟨G, 1, none⟩ = some (.int .i64 xo) := ((hG.next hwb).next hb6).cell 1
                    have hb6' := bthen (bthen hb hwb) hb6
                    have hn6 := Nat.le_trans (Nat.le_trans hn hwb.size) hb6.size
                    clear h hb hn hG K l0 hGo hMo hlow
                    go_wp2_with (first | (at_delete; refine wpList_drop _ rfl _ _ 38 40 3 rfl keyL Try.underlying38 M hs rfl h6.held xo rfl ?_; intro w8 hM8 hg8 hs8))
                    rw [mdel_none (fun e => by have := mget_isSome.2 e; rw [hm'.out] at this; cases this)] at hM8
                    go_meet
                    exact ⟨ac, hs, by omega, ⟨book_grown h6.book h6.held h6.apart hg8, hM8, h6.bal, h6.all, h6.apart⟩, hb6'.trans (grown_below hg8 hb6'.size (by omega)), Nat.le_trans hn6 hg8.size⟩
                  | some d =>
                    obtain ⟨a, ha⟩ := h.book.has (xo, d) (mget_mem hm)
                    have hB2 := hid (h.bal.rel ha hm)
                    obtain ⟨do', dc, da⟩ := d
                    simp only at ha
                    rw [hm] at l0
                    simp only [enH, Option.getD_some, Option.isSome_some] at l0
                    have hwb : Below W0.heap.size W0 (W0.alloc (.cells #[.int .i64 do', .int .i64 dc, .int .i64 da] 40)) := (Below.refl _ _).alloc (Nat.le_refl _) _
                    have K := hid (release_yes (h.next hwb).book xo _ hm a ha)
                    clear hm ha
                    go_wp2_with fail
                    refine K.out.mono ?_
                    rintro e w6 ⟨rfl, h6, hT⟩
                    have hM6 := hT.isMap (h.next hwb).held (fun hk => hMo.out _ hk rfl)
                    have hG6 := hT.blk (hG.next hwb) (fun hk => hGo.out _ hk rfl)
                    have hb6 := (bthen hb hwb).trans (hT.below (bthen hb hwb).size (fun k' hk' => hlow.out _ hk'))
                    have hn6 := Nat.le_trans (Nat.le_trans hn hwb.size) hT.size
                    have hA6 := hid (And.intro h6 (And.intro (all_mset (c := dc) (b := ⟨a.g, a.l, wrap64 (a.e - da)⟩) h.all) (And.intro h.apart (And.intro hb6 hn6))))
                    have p1 : w6.cell? ⟨G, 1, none⟩ = some (.int .i64 xo) := hG6.cell 1
                    clear hT h hb hn hG K h6 hb6 hn6 hMo hGo hlow l0
                    go_wp2_with (first | (at_delete; refine wpList_drop _ rfl _ _ 38 40 3 rfl keyL Try.underlying38 M hs rfl hM6 xo rfl ?_; intro w8 hM8 hg8 hs8))
                    obtain ⟨h6, hal, hap, hb6, hn6⟩ := hA6.out
                    go_meet
                    exact ⟨_, _, Nat.le_trans mdel_len (by omega), ⟨book_grown h6 hM6 hap hg8, hM8, hB2.out, hal, hap⟩, hb6.trans (grown_below hg8 hb6.size (by omega)), Nat.le_trans hn6 hg8.size⟩
                · have e3 : (xa == 3) = false := by simpa using k3
                  clear k2 k3
                  go_wp2_with fail
                  go_meet
                  exact ⟨ac, hs, by omega, h, hb, hn⟩
            case rest =>
              clear hG h hb hn hsl hbs
              rename_i wx
              obtain ⟨ac, hs, hsl, h, hb, hn⟩ := hcut
              go_wp2_with fail
              go_loopw [102] (fun i wr => ∃ j : Nat, j ≤ k ∧ i = .int .i64 j ∧ BW w1.heap.size X BA BH M k ac hs wr ∧ Below w.heap.size w wr ∧ w2.heap.size ≤ wr.heap.size) (fun i _ => k - (intOf i).toNat)
              case atStart => exact ⟨0, Nat.zero_le _, rfl, h, hb, hn⟩
              case round =>
                clear h hb hn
                obtain ⟨j, hj, rfl, h, hb, hn⟩ := hrel
                by_cases hlj : j < k
                · obtain ⟨a, ha⟩ := h.all j hlj
                  have hbd := h.bal.bd ha
                  have hex := (h.bal.exp _ a ha).1
                  have E := exposure_any h.book ((j : Int) + 1)
                  rw [show expF ac ((j : Int) + 1) = (a.l, a.e, true) from by unfold expF; rw [ha]] at E
                  replace E := hid E
                  have hHH := hid (And.intro h (And.intro hb hn))
                  obtain ⟨ag, al, ae⟩ := a
                  simp only at hbd hex E
                  have HEX := hid hex
                  clear hex
                  clear h hb hn ha
                  go_wp2_with (first
                    | (go_at_call 13; refine E.out.mono ?_; rintro e w5 ⟨rfl, hb5⟩; have h5 := hHH.out.1.next hb5; have hM5 := h5.held)
                    | (at_range; refine wpList_range _ rfl _ 38 3 40 rfl Try.underlying38 M hs rfl hM5 ?_; intro w7 hI7 hb7 hs7))
                  have h7 := h5.next hb7
                  have hb8 := bthen (bthen hHH.out.2.1 hb5) hb7
                  have hn8 := Nat.le_trans (Nat.le_trans hHH.out.2.2 hb5.size) hb7.size
                  obtain ⟨R, hRe⟩ : ∃ R, R = w5.heap.size := ⟨_, rfl⟩
                  have hRk : Hid (∀ k', k' = X ∨ k' = M ∨ Own BA BH ac k' → k' ≠ R) := hid (fun k' hk' e => by have := h5.lt k' hk'; omega)
                  have hRw : w.heap.size ≤ R := by have := (bthen hHH.out.2.1 hb5).size; omega
                  rw [← hRe] at hI7 ⊢
                  clear hRe h5 hM5 hb5 hb7 hs7 hHH E
                  go_frame
                  go_loopw [19] (fun s wr => ∃ (left : List (Int × Hd)) (sv : Int), s = .int .i64 sv ∧ Hid (PartS hs left ((j : Int) + 1) sv) ∧ IsIter wr R M kI enH hs left ∧ BW w1.heap.size X BA BH M k ac hs wr ∧ Below w.heap.size w wr ∧ w2.heap.size ≤ wr.heap.size) (fun _ wr => wr.rangeLeft M R)
                  case atStart => exact ⟨hs, 0, rfl, hid (PartS.start _ _), hI7, h7, hb8, hn8⟩
                  case round =>
                    clear hI7 h7 hb8 hn8
                    obtain ⟨left, sv, rfl, hP, hI, h, hb, hn⟩ := hrel
                    have hll := hid hI.left_len
                    go_wp2_with (first | (at_next; refine wpList_next _ rfl _ rfl R M hs left rfl hI ?_ ?_))
                    · intro hl0
                      subst hl0
                      have hsv := hP.out.done
                      rw [← HEX.out] at hsv
                      subst hsv
                      have e9 : (sv != sv) = false := by simp
                      have e10 : decide (al < sv) = false := by simp; omega
                      clear hI hll hP HEX
                      go_wp2_with fail
                      go_roundw
                      case rel => exact ⟨j + 1, by omega, by go_num, h, hb, hn⟩
                      case measure => simp [intOf]; omega
                    · intro kk v left' w9 hp hI9 hg9 hs9 hen
                      have hP2 := hP.out.step hp
                      have hbd2 := hP2.bd h.bal
                      have hbd1 := hP.out.bd h.bal
                      rw [← HEX.out] at hbd1 hbd2
                      have h9 := h.iter_touch hRk.out hg9
                      have hb9 := hb.trans (grown_below hg9 hb.size hRw)
                      have hn9 := Nat.le_trans hn hg9.size
                      obtain ⟨vo, vc, va⟩ := v
                      simp only [enH] at hen
                      simp only at hP2 hbd2
                      have hwb : Below w9.heap.size w9 (w9.alloc (.cells #[.int .i64 vo, .int .i64 vc, .int .i64 va] 40)) := (Below.refl _ _).alloc (Nat.le_refl _) _
                      have hI10 := hI9.next_ hwb
                      have H10 := hid (And.intro (h9.next hwb) (And.intro (bthen hb9 hwb) (And.intro (Nat.le_trans hn9 hwb.size) hI10)))
                      have hmeas : Hid (left'.length < left.length) := hid (by have := hp.length_eq; simp at this; omega)
                      have hI10l := hid hI10.left_len
                      clear hp hI9 hg9 hs9 h hb hn h9 hb9 hn9 hwb hI hP hI10
                      by_cases hc : vc = (j : Int) + 1
                      · rw [if_pos hc] at hP2 hbd2
                        have hP3 := hid hP2
                        have ec : (vc == (j : Int) + 1) = true := by simpa using hc
                        clear hP2 hc
                        go_wp2_with fail
                        go_roundw
                        case rel => exact ⟨left', sv + va, rfl, hP3, H10.out.2.2.2, H10.out.1, H10.out.2.1, H10.out.2.2.1⟩
                        case measure => rw [hI10l.out, hll.out]; exact hmeas.out
                      · rw [if_neg hc] at hP2 hbd2
                        rw [Int.add_zero] at hP2
                        have hP3 := hid hP2
                        have ec : (vc == (j : Int) + 1) = false := by simpa using hc
                        clear hP2 hc
                        go_wp2_with fail
                        go_roundw
                        case rel => exact ⟨left', sv, rfl, hP3, H10.out.2.2.2, H10.out.1, H10.out.2.1, H10.out.2.2.1⟩
                        case measure => rw [hI10l.out, hll.out]; exact hmeas.out
                · have hj' : j = k := by omega
                  subst hj'
                  go_wp2_with fail
                  go_roundw
                  case rel => exact ⟨t + 1, ac, hs, by omega, by go_num, by omega, h, hb, hn⟩
                  case measure => simp [intOf]; omega
          · have ht' : t = l.length := by omega
            subst ht'
            have K := hid (holds_any h.book (by omega))
            have hM := h.held
            go_wp2_with fail
            refine K.out.mono ?_
            rintro e w6 ⟨A6, c6, hl6, rfl, hp6, _, _, hb6⟩
            have hM6 := h.held.next hb6
            have hb7 := bthen hb hb6
            have hlen : hl6.length = hs.length := by have := hp6.length_eq; simpa using this
            rw [hlen]
            clear K hM
            go_wp2_with (first | (at_len; refine wpList_maplen _ rfl _ 38 40 rfl Try.underlying38 M hs rfl hM6 ?_))
            go_ret
            exact ⟨by simp, hb7⟩

end Go.Proofs.Ytpofhadeepgmbaa
