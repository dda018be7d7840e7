/-
  Layer 19: the walk of OrdersTotal.
-/
import Derived.Test.YtdgoifnhlpjnpaaOmayW
namespace Go.Proofs.Ytdgoifnhlpjnpaa
open Go.RowKit Go.WideShapes Go.ChangeShapes Go.ChangeAt Go.Deep
set_option linter.unusedVariables false

section
variable {w0 w w' : World} {n0 X BP BO M : Nat} {pr mm : List (Int × Int)} {os : List (Int × Od)}
theorem St.onMap (h : St w0 n0 X BP BO pr os w) (hM : IsMap w M kI kI mm) (h1 : M ≠ BP) (h2 : M ≠ BO) (h3 : w0.heap.size ≤ M) (hg : w.grownBy w' (some M)) : St w0 n0 X BP BO pr os w' := by
  have ht := Touch.of_grown hg
  refine ⟨h.book.touch ht (fun e => hM.notBlk h.book.blk e.symm) ⟨fun e => h1 e.symm, fun e => h2 e.symm⟩ (fun p hp e => ?_), h.pok, h.ook, h.bel.trans (ht.below h.bel.size (fun k hk => by omega)), h.low.1, Nat.le_trans h.low.2 ht.size⟩
  obtain ⟨_, _, cs, hb⟩ := h.book.lns p hp
  exact hM.notBlk hb e.symm
theorem itL_new {ids : List Int} (hn : ids.Pairwise (fun a b => a < b)) {k : Nat} {id : Int} (hk : ids[k]? = some id) : mget (itL pr (ids.take k)) id = none := by
  cases hc : mget (itL pr (ids.take k)) id with
  | none => rfl
  | some v =>
    have h1 := mget_mem hc
    unfold itL at h1
    obtain ⟨j', hj', e⟩ := List.mem_map.1 h1
    simp only [Prod.mk.injEq] at e
    obtain ⟨rfl, _⟩ := e
    obtain ⟨j, hj⟩ := List.mem_iff_getElem?.1 hj'
    have hjl := (List.getElem?_eq_some_iff.1 hj).1
    have hjk : j < k := by simp at hjl; omega
    rw [List.getElem?_take_of_lt hjk] at hj
    have h2 := (List.getElem?_eq_some_iff.1 hj).1
    have h3 := (List.getElem?_eq_some_iff.1 hk).1
    have := (List.pairwise_iff_getElem.1 hn) j k h2 h3 hjk
    rw [(List.getElem?_eq_some_iff.1 hj).2, (List.getElem?_eq_some_iff.1 hk).2] at this
    omega
theorem itL_snoc {ids : List Int} {k : Nat} {id : Int} (hk : ids[k]? = some id) : itL pr (ids.take (k + 1)) = itL pr (ids.take k) ++ [(id, (mget pr id).getD 0)] := by
  unfold itL
  rw [List.take_add_one, hk]
  simp
theorem itL_get {ids : List Int} (hp : ids.Perm (pr.map (·.1))) (hd : (pr.map (·.1)).Nodup) (id : Int) : (mget (itL pr ids) id).getD 0 = (mget pr id).getD 0 := by
  have hk : (itL pr ids).map (·.1) = ids := by
    unfold itL
    rw [List.map_map]
    conv => rhs; rw [← List.map_id ids]
    rfl
  have hnd : ((itL pr ids).map (·.1)).Nodup := by rw [hk]; exact hp.nodup_iff.2 hd
  by_cases hin : id ∈ ids
  · have : (id, (mget pr id).getD 0) ∈ itL pr ids := List.mem_map.2 ⟨id, hin, rfl⟩
    rw [mget_of_mem hnd this]
    rfl
  · have h1 : mget (itL pr ids) id = none := mget_none (by rw [hk]; exact hin)
    have h2 : mget pr id = none := mget_none (fun h => hin (hp.mem_iff.2 h))
    rw [h1, h2]
end

set_option maxRecDepth 100000 in
set_option maxHeartbeats 16000000 in
theorem ordersTotal_walk (ls : List Int) (AL : Option Addr) (cL : Nat) (l : List Ln) (A : Option Addr) (cp : Nat) (w : World) (hRL : Rd w AL (ls.flatMap en1)) (hlL : ls.length ≤ 140737488351232) (hcL : ls.length ≤ cL) (hcM : cL ≤ maxLen)
    (hR : Rd w A (l.flatMap enL)) (hl : l.length * 16 ≤ 140737488351232) (hc : l.length ≤ cp) (hm : cp ≤ maxLen) :
    Calls Try.prog 4 #[.slice AL ls.length cL, .slice A l.length cp] w (Law w) := by
  have hmm := @run_makeMap Try.prog
  obtain ⟨i0, hi, hz0, hz1, hz2⟩ := info_parts info_bl
  have HM := hid hm
  clear hm
  unfold maxLen at hcM
  go_enter Try.func4, Try.ntmps4
  go_wp2_with fail
  refine (wakes_any _).mono ?_
  rintro e w1 ⟨rfl, hb⟩
  go_wp2_with fail
  refine (new_any _).mono ?_
  rintro e w2 ⟨X, BP, BO, rfl, h, hb1⟩
  have hS : St w w1.heap.size X BP BO [] [] w2 := ⟨h, (fun _ _ hp => by simp [mget] at hp), (fun p hp => by cases hp), bthen hb hb1, hb.size, hb1.size⟩
  have hw := hb.size
  clear h hb hb1
  obtain ⟨n0, hn0⟩ : ∃ n0, n0 = w1.heap.size := ⟨_, rfl⟩
  rw [← hn0] at hS hw
  clear hn0
  go_upto_region 4 with fail
  go_cut [26, 27, 28] (fun s n i wx => ∃ N : Nat, N ≤ ls.length ∧ s = .slice AL N cL ∧ n = .int .i64 N ∧ i = .int .i64 0 ∧ wx = w2)
  case first =>
    by_cases h5 : ls.length ≤ 5
    · have hmin : min (ls.length : Int) 5 = (ls.length : Int) := by omega
      go_wp2_with fail
      all_goals (go_meet; exact ⟨ls.length, Nat.le_refl _, rfl, rfl, rfl, rfl⟩)
    · have hmin : min (ls.length : Int) 5 = 5 := by omega
      go_wp2_with fail
      all_goals (go_meet; exact ⟨5, by omega, rfl, rfl, rfl, rfl⟩)
  case rest =>
    obtain ⟨N, hN, rfl, rfl, rfl, hwx⟩ := hcut
    rw [hwx]
    clear hwx
    go_wp2_with fail
    go_loopw [28] (fun i wr => ∃ (k : Nat) (pr : List (Int × Int)), k ≤ N ∧ i = .int .i64 k ∧ St w n0 X BP BO pr [] wr) (fun i _ => N - nOf i)
    case atStart => exact ⟨0, [], Nat.zero_le _, rfl, hS⟩
    case round =>
      clear hS
      obtain ⟨k, pr, hk, rfl, hS⟩ := hrel
      by_cases hlt : k < N
      · obtain ⟨x, hx⟩ : ∃ x, ls[k]? = some x := ⟨ls[k], List.getElem?_eq_getElem (by omega)⟩
        obtain ⟨b, off, hAA, hbs, hcc⟩ := (hRL.below hS.bel).at_ 1 en1_len (by omega) hx
        subst hAA
        have q0 := hcc 0 _ rfl
        simp only [Nat.add_zero, Nat.mul_one] at q0
        have K : Calls Try.prog 11 #[.pointer (some ⟨X, 0, none⟩), .int .i64 ((k : Int) + 1), .int .i64 x] wr fun e w' => ∃ (z : Int) (pr' : List (Int × Int)), e = .returned (.int .i64 z) ∧ St w n0 X BP BO pr' [] w' := by
          by_cases hok : itemOk ((k : Int) + 1) x
          · exact (item_yes hS.book _ x hok).mono fun e w' ⟨h1, h2, h3⟩ => ⟨0, _, h1, hS.touched h2 (prOk_set hS.pok hok) hS.ook h3⟩
          · exact (item_no hS.book _ x hok).mono fun e w' ⟨h1, h2⟩ => ⟨2, pr, h1, h2 ▸ hS⟩
        replace K := hid K
        clear hcc hx hS
        go_wp2_with fail
        refine K.out.mono ?_
        rintro e w5 ⟨z, pr', rfl, hS⟩
        clear K
        go_wp2_with fail
        go_roundw
        case rel => exact ⟨k + 1, pr', by omega, by go_num, hS⟩
        case measure => simp [nOf]; omega
      · clear hk hRL hmm
        have hmm := @run_makeMap Try.prog
        generalize wr = wA at *
        by_cases hz : errL pr [] 1 1 sale l = 0
        · have K := add_yes hS.book hS.pok 1 1 sale A cp l sale_len (hR.below hS.bel) hc HM.out hS.low.2 hz
          unfold AddPost at K
          have hZ := errL_zero hz
          have hfit := prL_fits hS.pok hZ.1 hZ.2.1
          have hl4 : l.length ≤ 4 := hZ.1.1.2.2.2.2.2.2
          have HE := hid (show errT (prL pr l) = 0 from by unfold errT; rw [hfit]; rfl)
          have HZ := hid hZ
          have HS := hid hS
          replace K := hid K
          clear hz hZ hfit hS
          go_wp2_with fail
          refine K.out.mono ?_
          rintro e w5 ⟨o, rfl, hB, o1, o2, o3, o4, o5, o6, hT⟩
          have hS := HS.out.touched hB HS.out.pok (osOk_set HS.out.ook HZ.out.1 o1 o2 o4) hT
          have HO := hid (And.intro o4 (And.intro o5 o6))
          clear hB o1 o2 o3 o4 o5 o6 hT HS K
          have HGET := hid (show mget (mset ([] : List (Int × Od)) 1 o) 1 = some o from by rw [mget_mset, if_pos rfl])
          generalize mset ([] : List (Int × Od)) 1 o = os5 at hS HGET
          have hb5 : Below w5.heap.size w5 (w5.alloc (.map #[] 0)) := (Below.refl _ _).alloc (Nat.le_refl _) _
          have hM0 : IsMap (w5.alloc (.map #[] 0)) w5.heap.size kI kI ([] : List (Int × Int)) := IsMap.made w5 kI kI
          have hN1 : w5.heap.size ≠ BP := fun e => by have := hS.book.prs.lt; omega
          have hN2 : w5.heap.size ≠ BO := fun e => by have := hS.book.ods.lt; omega
          have hN3 : w.heap.size ≤ w5.heap.size := hS.bel.size
          obtain ⟨w6, hw6⟩ : ∃ w6, w6 = w5.alloc (.map #[] 0) := ⟨_, rfl⟩
          obtain ⟨M, hMM⟩ : ∃ M, M = w5.heap.size := ⟨_, rfl⟩
          have hS6 : St w n0 X BP BO pr os5 w6 := by rw [hw6]; exact hS.next hb5
          rw [← hw6, ← hMM] at hM0
          rw [← hMM] at hN1 hN2 hN3
          have HW6 := hid hw6
          have HMM := hid hMM
          have K1 := items_any hS6.book hS6.fewP
          unfold ItemsPost at K1
          replace K1 := hid K1
          have HS6 := hid (And.intro hS6 hM0)
          clear hS hb5 hw6 hMM hS6 hM0
          go_wp2_with fail
          rw [← HW6.out, ← HMM.out]
          refine K1.out.mono ?_
          rintro e w7 ⟨A7, c7, ids, rfl, hp7, hr7, hO7, hb7⟩
          have hS := HS6.out.1.next hb7
          have hM := HS6.out.2.next hb7
          have HI := hid (And.intro hp7 hr7)
          have h64 : ids.length ≤ 64 := by have := hp7.length_eq; have := HS6.out.1.fewP; simp at *; omega
          have hrow := hO7
          clear K1 HS6 hp7 hr7 hO7 hb7 HW6 HMM
          go_wp2_with fail
          go_loopw [51] (fun i wr => ∃ k : Nat, k ≤ ids.length ∧ i = .int .i64 k ∧ St w n0 X BP BO pr os5 wr ∧ IsMap wr M kI kI (itL pr (ids.take k)) ∧ wr.ownsRow w6.heap.size 44 2 (.slice A7 ids.length c7) ids.length ((itL pr ids).flatMap en2)) (fun i _ => ids.length - nOf i)
          case atStart => exact ⟨0, Nat.zero_le _, rfl, hS, hM, hrow⟩
          case round =>
            clear hS hM hrow
            obtain ⟨k, hk, rfl, hS, hM, hrow⟩ := hrel
            by_cases hlt : k < ids.length
            · obtain ⟨id, hid'⟩ : ∃ id, ids[k]? = some id := ⟨ids[k], List.getElem?_eq_getElem hlt⟩
              obtain ⟨pv, hpv⟩ : ∃ pv, pv = (mget pr id).getD 0 := ⟨_, rfl⟩
              have hel : (itL pr ids)[k]? = some (id, pv) := by unfold itL; rw [List.getElem?_map, hid', hpv]; rfl
              have HNEW := hid (itL_new (pr := pr) HI.out.2 hid')
              have HSN := hid (show itL pr (ids.take (k + 1)) = itL pr (ids.take k) ++ [(id, pv)] from by rw [itL_snoc hid', hpv])
              obtain ⟨b, off, hAA, hbl, hcc⟩ := (own_rd hrow).at_ 2 en2_len (by omega) hel
              have q0 : wr.cell? ⟨b, off + k * 2, none⟩ = some (.int .i64 id) := hcc 0 _ rfl
              have q1 : wr.cell? ⟨b, off + k * 2 + 1, none⟩ = some (.int .i64 pv) := hcc 1 _ rfl
              subst hAA
              have hwb : Below wr.heap.size wr (wr.alloc (.cells #[.int .i64 id, .int .i64 pv] 44)) := (Below.refl _ _).alloc (Nat.le_refl _) _
              have HMa := hid (hM.next hwb)
              have HSa := hid (hS.next hwb)
              have HRa := hid (hrow.kept (grown_of_below hwb none) (by cases hv : (Value.slice (some ⟨b, off, none⟩) ids.length c7).ownBlock <;> simp))
              clear hcc hel hid' hpv hS hM hrow hwb
              go_wp2_with (first
                | (at_mapUpdate; refine wpList_store _ rfl _ _ _ 40 3 rfl keyL Try.underlying40 M (itL pr (ids.take k)) rfl HMa.out id pv rfl rfl ?_; intro w9 hM9 hg9 hs9))
              have hS9 := HSa.out.onMap HMa.out hN1 hN2 hN3 hg9
              have hR9 := HRa.out.kept hg9 (by
                rcases hob : (Value.slice (some ⟨b, off, none⟩) ids.length c7).ownBlock with _ | g'
                · exact .inl rfl
                · right
                  intro e
                  injection e with e
                  subst e
                  obtain ⟨cs, hbk⟩ := rowBlk HRa.out (b := g') (by simpa [Value.ownBlock] using hob)
                  exact HMa.out.notBlk hbk rfl)
              rw [mset_new HNEW.out, ← HSN.out] at hM9
              clear hg9 hs9 HMa HSa HRa q0 q1
              go_wp2_with fail
              go_roundw
              case rel => exact ⟨k + 1, by omega, by go_num, hS9, hM9, hR9⟩
              case measure => simp [nOf]; omega
            · have hk' : k = ids.length := by omega
              subst hk'
              rw [List.take_length] at hM
              have HGD := hid (fun id => itL_get (pr := pr) HI.out.1 hS.book.prs.nodup id)
              clear hk hlt hrow
              generalize itL pr ids = mm at hM HGD
              generalize wr = wB at *
              have HS := hid hS
              have HMp := hid hM
              clear hS hM
              go_wp2_with fail
              go_loopw [11, 63] (fun v i wr => ∃ k : Nat, k ≤ l.length ∧ i = .int .i64 k ∧ wr.ownsRow wB.heap.size 49 2 v k ((prL pr (l.take k)).flatMap en2) ∧ Below wB.heap.size wB wr) (fun _ i _ => l.length - nOf i)
              case atStart => exact ⟨0, Nat.zero_le _, rfl, World.ownsRow_nil _ _ _ _, Below.refl _ _⟩
              case round =>
                obtain ⟨k, hk, rfl, hO, hb⟩ := hrel
                have hwz : wB.heap.size ≤ wr.heap.size := hb.size
                by_cases hlt : k < l.length
                · obtain ⟨x, hx⟩ : ∃ x, l[k]? = some x := ⟨l[k], List.getElem?_eq_getElem hlt⟩
                  obtain ⟨b, off, hAA, hbl, hcc⟩ := (hR.below (bthen HS.out.bel hb)).at_ 2 enL_len (by omega) hx
                  obtain ⟨pv, hpv⟩ : ∃ pv, pv = (mget pr x.i).getD 0 := ⟨_, rfl⟩
                  have HPR := hid (show prL pr (l.take (k + 1)) = prL pr (l.take k) ++ [(x.q, pv)] from by rw [prL_snoc hx, hpv])
                  have hMr := HMp.out.next hb
                  have l1 : (Instr.lookup 40 (.map (some M)) (.int .i64 x.i) false).run Try.prog (wr.alloc (.cells #[.int .i64 x.i, .int .i64 x.q] 47)) = .ok (.int .i64 pv) (wr.alloc (.cells #[.int .i64 x.i, .int .i64 x.q] 47)) := by
                    have := (hMr.next ((Below.refl _ _).alloc (Nat.le_refl _) (.cells #[.int .i64 x.i, .int .i64 x.q] 47))).look keyL Try.underlying40 (zeroI _) x.i
                    rw [show looked (kI 0) kI mm x.i = .int .i64 pv from by
                      rw [hpv, ← HGD.out x.i]
                      unfold looked
                      cases mget mm x.i <;> rfl] at this
                    exact this
                  obtain ⟨xi, xq⟩ := x
                  have q0 : wr.cell? ⟨b, off + k * 2, none⟩ = some (.int .i64 xi) := hcc 0 _ rfl
                  have q1 : wr.cell? ⟨b, off + k * 2 + 1, none⟩ = some (.int .i64 xq) := hcc 1 _ rfl
                  simp only at HPR l1
                  have hO3 := hid (hO.alloc (.cells #[.int .i64 xi, .int .i64 xq] 47))
                  have hb3 := hid ((hb.alloc hb.size (.cells #[.int .i64 xi, .int .i64 xq] 47)).alloc (by have := hb.size; simp; omega) (.cells #[.int .i64 xq, .int .i64 pv] 49))
                  subst hAA
                  clear hcc hx hO hb hMr hpv
                  go_wp2_with (first
                    | (at_builtin; refine wpList_push _ rfl _ _ 45 rfl wB.heap.size 49 i0 _ 2 16 Try.underlying45 hi hz0 hz1 hz2 rfl (by decide) _ _ _ (by rfl) hO3.out #[.int .i64 xq, .int .i64 pv] (wr.heap.size + 1) (by simp) (by rfl) (by rfl) (by rfl) (by unfold maxLen; omega) (by omega) (by simp; omega) ?_; intro v' w3 hO4 hg4))
                  have hb4 := hb3.out.grown hg4 (by simp; omega) (fun k hk => (hO3.out.lt k hk).1)
                  have hO5 : w3.ownsRow wB.heap.size 49 2 v' (k + 1) ((prL pr (l.take (k + 1))).flatMap en2) := by
                    rw [HPR.out, List.flatMap_append]
                    simpa [en2] using hO4
                  clear hO4 hg4 hO3 hb3 l1 q0 q1
                  go_roundw
                  case rel => exact ⟨k + 1, by omega, by go_num, hO5, hb4⟩
                  case measure => simp [nOf]; omega
                · have hk' : k = l.length := by omega
                  subst hk'
                  rw [List.take_length] at hO
                  obtain ⟨A9, c9, rfl, hrd⟩ := own_slice hO
                  have T := total_any (prL pr l) A9 c9 wr hrd
                  rw [prL_len, HE.out] at T
                  have hSr := HS.out.next hb
                  have GG := hid (fun w' (hb : Below wr.heap.size wr w') => get_any (hSr.next hb).book hSr.four 1)
                  obtain ⟨NN, hNN⟩ : ∃ NN, NN = netT (prL pr l) := ⟨_, rfl⟩
                  obtain ⟨TT, hTT⟩ : ∃ TT, TT = taxT (prL pr l) := ⟨_, rfl⟩
                  rw [← hNN, ← hTT] at T
                  have HO2 := hid (show o.n = NN ∧ o.t = TT from ⟨by rw [hNN]; exact HO.out.2.1, by rw [hTT]; exact HO.out.2.2⟩)
                  replace T := hid T
                  have HB := hid hSr.bel
                  clear hNN hTT hO hrd hb hSr hk hlt
                  have n1 : (NN == NN) = true := by simp
                  have n2 : (TT == TT) = true := by simp
                  go_wp2_with fail
                  refine T.out.mono ?_
                  rintro e w9 ⟨rfl, hb9⟩
                  have G9 := GG.out _ hb9
                  unfold GetPost at G9
                  replace G9 := hid G9
                  clear GG T
                  go_wp2_with fail
                  refine G9.out.mono ?_
                  rintro e w10 ⟨_, hg, hb10⟩
                  obtain ⟨b10, c10, rfl, _⟩ := hg _ HGET.out
                  obtain ⟨hn, ht⟩ := HO2.out
                  simp only [enO, hn, ht]
                  have hbf := hid (bthen (bthen HB.out hb9) hb10)
                  clear hg G9 hb9 hb10 hn ht
                  go_wp2_with fail
                  go_ret
                  exact ⟨by simp, hbf.out.alloc hbf.out.size _⟩
        · have K := hid (add_no hS.book 1 1 sale A cp l sale_len (hR.below hS.bel) hc HM.out hz)
          have hz1 : (errL pr [] 1 1 sale l != 0) = true := by simpa using hz
          have HS := hid hS
          clear hz
          generalize errL pr [] 1 1 sale l = z at K hz1
          clear hS
          go_wp2_with fail
          refine K.out.mono ?_
          rintro e w5 ⟨rfl, hb5⟩
          have hS := HS.out.next hb5
          have K2 := all_any hS.book hS.fewO hS.four
          unfold AllPost at K2
          replace K2 := hid K2
          clear K HS hb5
          go_wp2_with fail
          refine K2.out.mono ?_
          rintro e w6 ⟨A6, c6, ids, l6, rfl, hl6, hp6, _, _, _, _, hb6⟩
          have h1 : ids.length = 0 := by have := hp6.length_eq; simpa using this
          have h0 : l6.length = 0 := by omega
          have hbf := hid (bthen hS.bel hb6)
          rw [h0]
          clear h0 hl6 hp6 hb6 hS K2
          go_wp2_with fail
          go_ret
          exact ⟨by simp, hbf.out⟩

end Go.Proofs.Ytdgoifnhlpjnpaa
