/-
  PlanTurned: the pairs of a plan by names (PlanTurned$1).
-/
import Derived.Test.YtemhoaapapeilaaKy12
import Derived.Test.YtemhoaapapeilaaAs12
import Derived.Test.YtemhoaapapeilaaWa12
namespace Go.Proofs.Ytemhoaapapeilaa
open Go.RowKit Go.MapKept Go.ChangeMaps Go.WideShapes Go.ChangeShapes Go.ChangeAt Go.Deep
set_option linter.unusedVariables false

abbrev spB : ByteArray := ⟨#[32]⟩
theorem AsS.step_nm2 {w0 : World} {base : Nat} {nm : ByteArray} {P : Nat} {vS vB : Value} {Ls : List Stp} {Bs : List IRow} {ask : Int} {w : World} (h : AsS w0 base nm P vS vB Ls Bs ask w) (i : Int) : Calls Try.prog 12 #[.pointer (some ⟨P, 0, none⟩), .int .i64 i] w fun e w' => ∃ v u x f r y z t, e = .returned (.agg #[.string (stepAt Ls i).name, v, u, x, f, r, y, z, t]) ∧ Below w.heap.size w w' :=
  (h.step i).mono fun e w' ⟨A0, c0, he, _, hb⟩ => ⟨_, _, _, _, _, _, _, _, he, hb⟩
/-- While the pairs are counted. -/
structure KpS (wc w0 : World) (base : Nat) (nm : ByteArray) (P : Nat) (vS vB : Value) (Ls : List Stp) (Bs : List IRow) (M : Nat) (ks : List ByteArray) (ask : Int) (w : World) : Prop where
  s : AsS w0 base nm P vS vB Ls Bs ask w
  m : IsMap w M kS vN (cntL ks)
  bel : Below wc.heap.size wc w
  lo : wc.heap.size ≤ M
  lo0 : w0.heap.size ≤ wc.heap.size
section
variable {wc w0 : World} {base : Nat} {nm : ByteArray} {P : Nat} {vS vB : Value} {Ls : List Stp} {Bs : List IRow} {M : Nat} {ks : List ByteArray} {ask : Int} {w w' : World}
theorem KpS.next (h : KpS wc w0 base nm P vS vB Ls Bs M ks ask w) (hb : Below w.heap.size w w') : KpS wc w0 base nm P vS vB Ls Bs M ks ask w' := ⟨h.s.next hb, h.m.next hb, bthen h.bel hb, h.lo, h.lo0⟩
theorem KpS.put (h : KpS wc w0 base nm P vS vB Ls Bs M ks ask w) {a : ByteArray} (hM : IsMap w' M kS vN (mset (cntL ks) a ((mget (cntL ks) a).getD 0 + 1))) (hg : w.grownBy w' (some M)) : KpS wc w0 base nm P vS vB Ls Bs M (ks ++ [a]) ask w' := by
  have hT := Touch.of_grown hg
  have no : ∀ {b0 : Nat} {e : TypeId} {size : Nat} {v : Value} {n : Nat} {xs : List Value}, w.ownsRow b0 e size v n xs → w'.ownsRow b0 e size v n xs := fun ho => own_touch ho hT (fun g hg e => h.m.notOwn ho (by rw [hg, e]))
  obtain ⟨vH, Hs, dn, q, b, c⟩ := h.s.ex
  have hlo := h.lo
  have hlo0 := h.lo0
  refine ⟨⟨⟨vH, Hs, dn, ⟨hT.blk q.p (fun e => h.m.notBlk q.p e.symm), no q.os, no q.ob, fun s hs => no (q.st s hs), fun x hx => no (q.rw x hx), fun e => ?_, q.hl, q.lo⟩, b, c⟩, h.s.rows, h.s.aft, h.s.bel.trans (hT.below h.s.bel.size (fun k hk => by rw [hk]; omega)), h.s.lo⟩, ?_, h.bel.trans (hT.below h.bel.size (fun k hk => by rw [hk]; exact hlo)), h.lo, h.lo0⟩
  · obtain ⟨H, q1, q2, q3, q4⟩ := q.hs e
    exact ⟨H, q1, hT.blk q2 (fun e => h.m.notBlk q2 e.symm), q3, fun x hx => no (q4 x hx)⟩
  · rw [cntL_snoc]; exact hM
end
/-- What the closure answers. -/
def PairR (ks : List ByteArray) (w : World) (e : Ending) (w' : World) : Prop := ∃ M, e = .returned (.map (some M)) ∧ IsMap w' M kS vN (cntL ks) ∧ Below w.heap.size w w'
set_option maxRecDepth 100000 in
set_option maxHeartbeats 8000000 in
theorem pairs_nil (w : World) : Calls Try.prog 19 #[.pointer none] w (PairR [] w) := by
  have hmm := @run_makeMap Try.prog
  have HM := hid (IsMap.made w kS vN)
  have HB := hid ((Below.refl w.heap.size w).alloc (Nat.le_refl _) (.map #[] 0))
  go_enter Try.func19, Try.ntmps19
  go_upto_region 2 with fail
  clear hmm
  obtain ⟨w2, hw2⟩ : ∃ w2, w2 = w.alloc (.map #[] 0) := ⟨_, rfl⟩
  obtain ⟨M, hM⟩ : ∃ M, M = w.heap.size := ⟨_, rfl⟩
  rw [← hw2, ← hM] at HM
  rw [← hw2] at HB
  rw [← hw2, ← hM]
  clear hw2 hM
  go_wp2_with fail
  refine (len_nil w2).mono ?_
  rintro e w3 ⟨rfl, rfl⟩
  go_wp2_with fail
  go_loopw [10] (fun i wr => i = .int .i64 0 ∧ wr = w3) (fun i _ => 0)
  case atStart => exact ⟨rfl, rfl⟩
  case round =>
    obtain ⟨rfl, rfl⟩ := hrel
    go_wp2_with fail
    go_ret
    exact ⟨M, rfl, HM.out, HB.out⟩
set_option maxRecDepth 100000 in
set_option maxHeartbeats 8000000 in
theorem pairs_some {w0 : World} {base : Nat} {nm : ByteArray} {P : Nat} {vS vB : Value} {Ls : List Stp} {Bs : List IRow} {ask : Int} {w : World} (h : AsS w0 base nm P vS vB Ls Bs ask w) (hn : Ls.length ≤ 60) (hsz : ∀ s ∈ Ls, s.name.size ≤ 140737488351232) :
    Calls Try.prog 19 #[.pointer (some ⟨P, 0, none⟩)] w (PairR (keyB spB Ls Bs Ls.length) w) := by
  have hmm := @run_makeMap Try.prog
  have hal : Below w.heap.size w (w.alloc (.map #[] 0)) := (Below.refl _ _).alloc (Nat.le_refl _) _
  have hS : KpS w w0 base nm P vS vB Ls Bs w.heap.size [] ask (w.alloc (.map #[] 0)) := ⟨h.next hal, IsMap.made w kS vN, hal, Nat.le_refl _, h.bel.size⟩
  have HRB := hid (fun (p : Nat) (hp : p < Ls.length) => show (rowAt Bs (p : Int)).length ≤ 60 from by
    have hkb : p < Bs.length := by rw [h.rows.len]; exact hp
    rw [rowAt_in (List.getElem?_eq_getElem hkb)]
    have h1 := rise_len (h.rows.up _ (List.getElem_mem hkb)) (h.rows.lt _ (List.getElem_mem hkb))
    omega)
  have HS := hid hS
  have HSZ := hid (fun (x : Int) => show (stepAt Ls x).name.size ≤ 140737488351232 from by
    unfold stepAt
    split
    · cases hx : Ls[x.toNat]? with
      | none => decide
      | some y => exact hsz y (List.mem_of_getElem? hx)
    · decide)
  clear h hal hS hsz
  go_enter Try.func19, Try.ntmps19
  go_upto_region 2 with fail
  clear hmm
  obtain ⟨w2, hw2⟩ : ∃ w2, w2 = w.alloc (.map #[] 0) := ⟨_, rfl⟩
  obtain ⟨M, hM⟩ : ∃ M, M = w.heap.size := ⟨_, rfl⟩
  rw [← hw2, ← hM] at HS
  rw [← hw2, ← hM]
  clear hw2 hM
  have KL := hid HS.out.s.len
  obtain ⟨n, hn2⟩ : ∃ n, n = Ls.length := ⟨_, rfl⟩
  have HN := hid hn2
  rw [← hn2] at KL HRB hn ⊢
  clear hn2
  have HKL := hid (show ∀ k, k ≤ n → (keyB spB Ls Bs k).length ≤ 60 * k from fun k => by
    induction k with
    | zero => intro _; simp [keyB]
    | succ k ih =>
      intro hk
      have h1 := ih (by omega)
      have h2 := HRB.out k (by omega)
      rw [keyB_succ, List.length_append]
      unfold keyR
      rw [List.length_map]
      omega)
  go_wp2_with fail
  refine KL.out.mono ?_
  rintro e w3 ⟨rfl, rfl⟩
  clear KL
  go_wp2_with fail
  go_loopw [10] (fun i wr => ∃ k : Nat, k ≤ n ∧ i = .int .i64 k ∧ Hid (KpS w w0 base nm P vS vB Ls Bs M (keyB spB Ls Bs k) ask wr)) (fun i _ => n - nOf i)
  case atStart => exact ⟨0, Nat.zero_le _, rfl, HS⟩
  case round =>
    clear HS
    obtain ⟨k, hk, rfl, HS⟩ := hrel
    by_cases hlt : k < n
    · have KB := hid (HS.out.s.before (k : Int))
      have hrb := HRB.out k hlt
      have hkl := HKL.out k hk
      have HKS := hid (keyB_succ spB Ls Bs k)
      generalize rowAt Bs (k : Int) = xs at KB hrb HKS
      generalize keyB spB Ls Bs k = ks at HS hkl HKS
      go_wp2_with fail
      refine KB.out.mono ?_
      rintro e w5 ⟨A5, c5, rfl, hO5, hb5⟩
      have HO5 := hid hO5
      have HS5 := hid (show KpS w w0 base nm P vS vB Ls Bs M (ks ++ keyR spB Ls k (xs.take 0)) ask w5 from by
        simp only [List.take_zero, keyR, List.map_nil, List.append_nil]
        exact HS.out.next hb5)
      obtain ⟨bz, hbz⟩ : ∃ bz, bz = wr.heap.size := ⟨_, rfl⟩
      rw [← hbz] at HO5
      clear hO5 hb5 KB HS hbz
      go_wp2_with fail
      go_loopw [17] (fun i wr => ∃ j : Nat, j ≤ xs.length ∧ i = .int .i64 j ∧ wr.ownsRow bz 3 1 (.slice A5 xs.length c5) xs.length (xs.flatMap en1) ∧ Hid (KpS w w0 base nm P vS vB Ls Bs M (ks ++ keyR spB Ls k (xs.take j)) ask wr)) (fun i _ => xs.length - nOf i)
      case atStart => exact ⟨0, Nat.zero_le _, rfl, HO5.out, HS5⟩
      case round =>
        clear HS5 HO5
        obtain ⟨j, hj, rfl, hOj, HS⟩ := hrel
        by_cases hjl : j < xs.length
        · obtain ⟨x, hx⟩ : ∃ x, xs[j]? = some x := ⟨xs[j], List.getElem?_eq_getElem hjl⟩
          have HOJ := hid hOj
          obtain ⟨b, o, hAA, _, hcc⟩ := (own_rd hOj).at_ 1 (fun _ => rfl) (by omega) hx
          subst hAA
          have q0 : wr.cell? ⟨b, o + j * 1, none⟩ = some (.int .i64 x) := hcc 0 _ rfl
          rw [Nat.mul_one] at q0
          have KS := hid (HS.out.s.step_nm2 x)
          have KT := hid (fun w' (hb : Below wr.heap.size wr w') => (HS.out.next hb).s.step_nm2 (k : Int))
          have hfd := fieldN12
          have HKJ := hid (show ks ++ keyR spB Ls k (xs.take (j + 1)) = ks ++ keyR spB Ls k (xs.take j) ++ [glue spB (stepAt Ls x).name (stepAt Ls (k : Int)).name] from by
            rw [take_succ_of hx, List.append_assoc]
            unfold keyR
            rw [List.map_append]
            rfl)
          have hkj : (ks ++ keyR spB Ls k (xs.take j)).length ≤ 10000 := by
            rw [List.length_append]
            unfold keyR
            rw [List.length_map, List.length_take]
            omega
          generalize ks ++ keyR spB Ls k (xs.take j) = kj at HS HKJ hkj
          have za := HSZ.out x
          have zb := HSZ.out (k : Int)
          generalize (stepAt Ls x).name = a at KS HKJ za
          generalize (stepAt Ls (k : Int)).name = bnm at KT HKJ zb
          have zs : spB.size = 1 := rfl
          have zc : (a ++ spB).size ≤ 140737488351233 := by rw [ByteArray.size_append, zs]; omega
          obtain ⟨c, hc⟩ : ∃ c : Nat, c = kcnt kj (glue spB a bnm) := ⟨_, rfl⟩
          have hcb : c ≤ 10000 := by rw [hc]; exact Nat.le_trans (kcnt_le _ _) hkj
          clear hcc hx hOj
          go_wp2_with fail
          refine KS.out.mono ?_
          rintro e w6 ⟨v1, v2, v3, v4, v5, v6, v7, v8, rfl, hb6⟩
          have HB6 := hid hb6
          have HS6 := hid (HS.out.next hb6)
          clear hb6 KS HS q0
          go_wp2_with fail
          refine (KT.out _ HB6.out).mono ?_
          rintro e w7 ⟨u1, u2, u3, u4, u5, u6, u7, u8, rfl, hb7⟩
          have HS7 := hid (HS6.out.next hb7)
          have HO7 := hid (own_next HOJ.out (bthen HB6.out hb7))
          have lk : (Instr.lookup 30 (.map (some M)) (.string (a ++ ⟨#[32]⟩ ++ bnm)) false).run Try.prog w7 = .ok (.int .i64 (c : Int)) w7 := by
            have := HS7.out.m.look keyStr12 Try.underlying30 (zeroN _) (glue spB a bnm)
            rw [looked_vN, cntL_kcnt, ← hc] at this
            exact this
          have HCC := hid (show (mget (cntL kj) (glue spB a bnm)).getD 0 = (c : Int) from by rw [cntL_kcnt, hc])
          clear hb7 KT HS6 HB6 HOJ hc
          go_wp2_with (first
            | (at_mapUpdate; refine wpList_store _ rfl _ _ _ 30 3 rfl keyStr12 Try.underlying30 M (cntL kj) rfl HS7.out.m (glue spB a bnm) ((c : Int) + 1) rfl rfl ?_; intro w8 hM8 hg8 hs8; (have HS8 := hid (HS7.out.put (a := glue spB a bnm) (by rw [HCC.out]; exact hM8) hg8)); (have HO8 := hid (own_touch HO7.out (Touch.of_grown hg8) (fun q hq e => HS7.out.m.notOwn HO7.out (by rw [hq, e])))); clear hM8 hg8 hs8 lk))
          go_roundw
          case rel => exact ⟨j + 1, by omega, by go_num, HO8.out, by rw [HKJ.out]; exact HS8⟩
          case measure => simp [nOf]; omega
        · have hj' : j = xs.length := by omega
          subst hj'
          rw [List.take_length, ← HKS.out] at HS
          go_wp2_with fail
          go_roundw
          case rel => exact ⟨k + 1, by omega, by go_num, HS⟩
          case measure => simp [nOf]; omega
    · have hk' : k = n := by omega
      subst hk'
      go_wp2_with fail
      go_ret
      have hm := HS.out.m
      rw [HN.out] at hm
      exact ⟨M, rfl, hm, HS.out.bel⟩

end Go.Proofs.Ytemhoaapapeilaa
