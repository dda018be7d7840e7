/-
  Layer 19: the laws' word 'state'.
-/
import Derived.Test.YtdgoifnhlpjnpaaPlO
import Derived.Test.YtdgoifnhlpjnpaaRw19
import Derived.Test.YtdgoifnhlpjnpaaOmay
import Derived.Test.YtdgoifnhlpjnpaaAggSame
import Derived.Test.YtdgoifnhlpjnpaaInTail
import Derived.StillTailTactics
namespace Go.Proofs.Ytdgoifnhlpjnpaa
open Go.RowKit Go.WideShapes Go.ChangeShapes Go.ChangeAt Go.Deep
set_option linter.unusedVariables false

section
variable {pr : List (Int × Int)} {os : List (Int × Od)} {is : List (Int × Int)} {rs l : List Od} {ids : List Int}
theorem tab_perm {α ν : Type} {m : List (Int × ν)} (hp : ids.Perm (m.map (·.1))) (g : Int → α) (toA : Int × ν → α) (hg : ∀ p ∈ m, g p.1 = toA p) : (ids.map g).Perm (m.map toA) := by
  refine (hp.map g).trans ?_
  rw [List.map_map]
  exact List.Perm.of_eq (List.map_congr_left (fun p hp => hg p hp))
theorem items_eq (hM : RelO pr os is rs) (hnd : (pr.map (·.1)).Nodup) (hp : ids.Perm (pr.map (·.1))) (hr : ids.Pairwise (fun a b => a < b)) : itL pr ids = is := by
  refine hM.its.unique' linI ?_ ?_
  · exact tab_perm hp _ _ (fun p hp => by rw [mget_of_mem hnd (by exact hp)]; rfl)
  · unfold itL
    rw [List.pairwise_map]
    exact hr.imp (fun h => by simp only [ltI, decide_eq_false_iff_not]; omega)
theorem orders_eq (hM : RelO pr os is rs) (hnd : (os.map (·.1)).Nodup) (hO : OsOk os) (hp : ids.Perm (os.map (·.1))) (hr : ids.Pairwise (fun a b => a < b)) (hb : l.map bare = ids.map fun id => bare (odAt os id)) : l.map bare = rs.map bare := by
  have hk : ∀ id ∈ ids, (bare (odAt os id)).i = id := fun id hid => by
    obtain ⟨p, hp', rfl⟩ := List.mem_map.1 (hp.mem_iff.1 hid)
    unfold odAt
    rw [mget_of_mem hnd (by exact hp')]
    exact (hO p hp').2.2.1
  rw [hb]
  refine hM.ods.unique' linI ?_ ?_
  · exact tab_perm hp _ _ (fun p hp => by
      unfold odAt
      rw [mget_of_mem hnd (by exact hp)]
      unfold toBare
      rw [← (hO p hp).2.2.1]
      rfl)
  · rw [List.pairwise_map]
    exact (List.Pairwise.and_mem.1 hr).imp (fun {a b} ⟨ha, hb, h⟩ => by
      simp only [ltI, hk _ ha, hk _ hb]
      exact decide_eq_false (by omega))
theorem bareR_at {k : Nat} {o : Od} (h : l.map bare = rs.map bare) (hk : l[k]? = some o) : ∃ r, rs[k]? = some r ∧ bare r = bare o := by
  have h1 : (rs.map bare)[k]? = some (bare o) := by rw [← h, List.getElem?_map, hk]; rfl
  rw [List.getElem?_map] at h1
  cases hr : rs[k]? with
  | none => rw [hr] at h1; cases h1
  | some r => rw [hr] at h1; injection h1 with h1; exact ⟨r, rfl, h1⟩
theorem bare_parts {r o : Od} (h : bare r = bare o) : r.i = o.i ∧ r.c = o.c ∧ r.f = o.f ∧ r.ls = o.ls ∧ r.n = o.n ∧ r.t = o.t := by
  unfold bare at h
  injection h with h1 h2 h3 _ _ h4 h5 h6
  exact ⟨h1, h2, h3, h4, h5, h6⟩
theorem od_at (hM : RelO pr os is rs) (hO : OsOk os) {o : Od} (h : o ∈ rs.map bare) : ∃ v, mget os o.i = some v ∧ v.i = o.i ∧ v.c = o.c ∧ v.f = o.f ∧ v.ls = o.ls ∧ v.n = o.n ∧ v.t = o.t := by
  obtain ⟨v, h1, h2⟩ := hM.ods.mem h
  have h3 := (hO _ (mget_mem h1)).2.2.1
  simp only at h3
  refine ⟨v, h1, h3, ?_⟩
  have h4 := h2
  rw [h4]
  exact ⟨rfl, rfl, rfl, rfl, rfl⟩
end

theorem same_rl (x : Ln) (w : World) : (Op.equalIn 10000 88 (.agg #[.int .i64 x.i, .int .i64 x.q]) (.agg #[.int .i64 x.i, .int .i64 x.q])).run Try.prog w = .ok true w := by
  refine agg_same (L := [(3, 0), (3, 1)]) (by kernel_rfl) (by kernel_rfl) (by kernel_rfl) ?_ w
  intro q hq
  simp only [List.mem_cons, List.not_mem_nil, or_false] at hq
  rcases hq with rfl | rfl
  · exact sameAt_int Try.underlying3 isAgg_int rfl
  · exact sameAt_int Try.underlying3 isAgg_int rfl
theorem guard_rl : Try.prog.eqGuardType Try.prog.depth 88 = false := by kernel_rfl

section
variable {n0 X BP BO : Nat} {pr : List (Int × Int)} {os : List (Int × Od)} {w : World}
theorem getO_at (h : IsBook n0 w X BP BO pr os) (hq : ∀ p ∈ os, 1 ≤ p.2.ls.length ∧ p.2.ls.length ≤ 4) {i c n t : Int} {f : ByteArray} {ls : List Ln} (hm : ∃ v, mget os i = some v ∧ v.i = i ∧ v.c = c ∧ v.f = f ∧ v.ls = ls ∧ v.n = n ∧ v.t = t) :
    Calls Try.prog 15 #[.pointer (some ⟨X, 0, none⟩), .int .i64 i] w fun e w' => ∃ pb pcp, e = .returned (.tuple #[.agg #[.int .i64 i, .int .i64 c, .string f, .slice (some ⟨pb, 0, none⟩) ls.length pcp, .int .i64 n, .int .i64 t], .bool true]) ∧ LnRow w.heap.size w' pb pcp ls ∧ Below w.heap.size w w' := by
  obtain ⟨v, hv, h1, h2, h3, h4, h5, h6⟩ := hm
  refine (get_any h hq i).mono ?_
  rintro e w' ⟨_, hs, hb⟩
  obtain ⟨b, cap, e1, e2⟩ := hs v hv
  obtain ⟨vi, vc, vf, vb, vcp, vls, vn, vt⟩ := v
  simp only at h1 h2 h3 h4 h5 h6
  subst h1 h2 h3 h4 h5 h6
  exact ⟨b, cap, e1, e2, hb⟩
end

set_option maxRecDepth 100000 in
set_option maxHeartbeats 16000000 in
theorem state_any {n0 base R c1 c2 X BP BO : Nat} {A1 A2 : Option Addr} {pr is : List (Int × Int)} {os : List (Int × Od)} {rs : List Od} {w : World}
    (h : IsBook n0 w X BP BO pr os) (hF : IsRef base w R A1 c1 is A2 c2 rs) (hM : RelO pr os is rs) (hO : OsOk os) (hf1 : pr.length ≤ 64) (hf2 : os.length ≤ 256) :
    Calls Try.prog 23 #[.pointer (some ⟨X, 0, none⟩), .pointer (some ⟨R, 0, none⟩)] w fun e w' => e = .returned (.bool true) ∧ Below w.heap.size w w' := by
  have hfour : ∀ p ∈ os, 1 ≤ p.2.ls.length ∧ p.2.ls.length ≤ 4 := fun p hp => (hO p hp).2.2.2.2.2
  have P := hid (items_any h hf1)
  have Q := hid (fun w1 (hb : Below w.heap.size w w1) => all_dist (h.next hb) hf2 hfour)
  have G := hid (fun w1 (hb : Below w.heap.size w w1) {i c n t : Int} {f : ByteArray} {ls : List Ln} (hm : ∃ v, mget os i = some v ∧ v.i = i ∧ v.c = c ∧ v.f = f ∧ v.ls = ls ∧ v.n = n ∧ v.t = t) => getO_at (h.next hb) hfour hm)
  have HN1 := hid h.prs.nodup
  have HN2 := hid h.ods.nodup
  have HF := hid hF
  have HM := hid hM
  have HO := hid hO
  have HFOUR := hid hfour
  unfold ItemsPost at P
  unfold AllDist at Q
  clear h hF hM hO hfour
  go_enter Try.func23, Try.ntmps23
  go_wp2_with fail
  refine P.out.mono ?_
  rintro e w1 ⟨A3, c3, ids, rfl, hp1, hr1, hO1, hb1⟩
  go_wp2_with fail
  refine (Q.out _ hb1).mono ?_
  rintro e w2 ⟨A4, c4, ids2, l, rfl, hl2, hp2, hr2, hbr, hO2, hL2, hD2, hb2⟩
  have hIE := items_eq HM.out HN1.out hp1 hr1
  have hOE := orders_eq HM.out HN2.out HO.out hp2 hr2 hbr
  have hil : ids.length = is.length := by rw [← hIE]; unfold itL; simp
  have hll : l.length = rs.length := by have := congrArg List.length hOE; simpa using this
  have hi64 : is.length ≤ 64 := by have := hp1.length_eq; simp at this; omega
  have hl256 : l.length ≤ 256 := by have := hp2.length_eq; simp at this; omega
  rw [hIE, hil] at hO1
  rw [hil]
  have hb := bthen hb1 hb2
  have hR1 := hid ((own_rd hO1).below hb2)
  have hF2 := HF.out.next hb
  have hO2' := hid (ownsRow_low hO2 hb1.size)
  have hL2' := hid (fun (o : Od) (ho : o ∈ l) => ownsRow_low (hL2 o ho).own hb1.size)
  have HD := hid hD2
  have HOE := hid hOE
  have HLL := hid hll
  have hw12 := hb1.size
  clear P Q hp1 hr1 hO1 hb1 hl2 hp2 hr2 hbr hO2 hL2 hD2 hb2 hIE hOE hil
  have c0 : w2.cell? ⟨R, 0, none⟩ = some (.slice A1 is.length c1) := hF2.cell0
  have c1' : w2.cell? ⟨R, 1, none⟩ = some (.slice A2 l.length c2) := by rw [hll]; exact hF2.cell1
  have s1 : (is.length != is.length) = false := by simp
  have s2 : (l.length != l.length) = false := by simp
  clear hll hF2
  go_wp2_with fail
  clear c0 c1' s1 s2
  have HB := hid hb
  clear hb
  go_loopw [40] (fun i wr => ∃ k : Nat, k ≤ is.length ∧ i = .int .i64 k ∧ Below w2.heap.size w2 wr) (fun i _ => is.length - nOf i)
  case atStart => exact ⟨0, Nat.zero_le _, rfl, Below.refl _ _⟩
  case round =>
    obtain ⟨k, hk, rfl, hb⟩ := hrel
    by_cases hlt : k < is.length
    · obtain ⟨y, hy⟩ : ∃ y, is[k]? = some y := ⟨is[k], List.getElem?_eq_getElem hlt⟩
      have hF := HF.out.next (bthen HB.out hb)
      obtain ⟨g, rfl, _, hpr⟩ := hF.elem1 hy
      obtain ⟨b, off, rfl, hbs, hcc⟩ := (hR1.out.below hb).at_ 2 en2_len (by omega) hy
      obtain ⟨yi, yl⟩ := y
      have c0 : wr.cell? ⟨R, 0, none⟩ = some (.slice (some ⟨g, 0, none⟩) is.length c1) := hF.cell0
      have lR : R < wr.heap.size := hF.blk.lt
      have lg : g < wr.heap.size := hpr.1
      have p0 : wr.cell? ⟨g, k * 2, none⟩ = some (.int .i64 yi) := hpr.2 0 _ rfl
      have p1 : wr.cell? ⟨g, k * 2 + 1, none⟩ = some (.int .i64 yl) := hpr.2 1 _ rfl
      have q0 : wr.cell? ⟨b, off + k * 2, none⟩ = some (.int .i64 yi) := hcc 0 _ rfl
      have q1 : wr.cell? ⟨b, off + k * 2 + 1, none⟩ = some (.int .i64 yl) := hcc 1 _ rfl
      have t1 : (yi != yi) = false := by simp
      have t2 : (yl != yl) = false := by simp
      have HBB := hid (hb.alloc hb.size (.cells #[.int .i64 yi, .int .i64 yl] 44))
      clear hy hF hpr hcc hb
      go_wp2_with fail
      go_quiet (fail)
      have hb := below_drewN HBB.out nq
      clear c0 p0 p1 q0 q1 t1 t2 lR lg
      go_wp2_with fail
      go_roundw
      case rel => exact ⟨k + 1, by omega, by go_num, hb⟩
      case measure => simp [nOf]; omega
    · clear hk
      have hO3 := hid (hO2'.out.kept (grown_of_below hb none) (by cases hv : (Value.slice A4 l.length c4).ownBlock <;> simp))
      have hL3 := hid (fun (o : Od) (ho : o ∈ l) => (hL2'.out o ho).kept (grown_of_below hb none) (by cases hv : (Value.slice (some ⟨o.b, 0, none⟩) o.ls.length o.cap).ownBlock <;> simp))
      have HB3 := hid (bthen HB.out hb)
      clear hb hO2' hL2' hR1 HB
      go_wp2_with fail
      go_loopw [72] (fun i wr => ∃ k : Nat, k ≤ l.length ∧ i = .int .i64 k ∧ wr.ownsRow w.heap.size 35 6 (.slice A4 l.length c4) l.length (l.flatMap enO6) ∧ Hid (∀ (j : Nat) (o : Od), k ≤ j → l[j]? = some o → LnRow w.heap.size wr o.b o.cap o.ls) ∧ Below w.heap.size w wr) (fun i _ => l.length - nOf i)
      case atStart => exact ⟨0, Nat.zero_le _, rfl, hO3.out, hid (fun j o _ ho => ⟨hL3.out o (List.mem_of_getElem? ho)⟩), HB3.out⟩
      case round =>
        clear hO3 hL3 HB3
        obtain ⟨k, hk, rfl, hO, hL, hb⟩ := hrel
        by_cases hlt : k < l.length
        · obtain ⟨o, ho⟩ : ∃ o, l[k]? = some o := ⟨l[k], List.getElem?_eq_getElem hlt⟩
          obtain ⟨r, hrk, hrb⟩ := bareR_at HOE.out ho
          have hmg := od_at HM.out HO.out (o := bare o) (by rw [← HOE.out]; exact List.mem_map_of_mem (List.mem_of_getElem? ho))
          have h4 : o.ls.length ≤ 4 := by
            obtain ⟨v, hv, _, _, _, e, _⟩ := hmg
            have := (HFOUR.out _ (mget_mem hv)).2
            rw [e] at this
            exact this
          obtain ⟨e1, e2, e3, e4, e5, e6⟩ := bare_parts hrb.symm
          obtain ⟨b, off, hA4, hbs, hcc⟩ := (own_rd hO).at_ 6 enO6_len (by omega) ho
          have hLo := hL.out k o (Nat.le_refl _) ho
          have HFr := hid (fun w' (hb' : Below w.heap.size w w') => And.intro (HF.out.next hb') (And.intro ((HF.out.next hb').elem2 hrk) ((HF.out.next hb').lns r (List.mem_of_getElem? hrk))))
          have HREST := hid (fun (j : Nat) (o' : Od) (hj : k + 1 ≤ j) (ho' : l[j]? = some o') => And.intro (hL.out j o' (by omega) ho') (show o.b ≠ o'.b from by
            have h1 := (List.getElem?_eq_some_iff.1 ho).1
            have h2 := (List.getElem?_eq_some_iff.1 ho').1
            have := (List.pairwise_iff_getElem.1 HD.out) k j h1 h2 (by omega)
            rw [(List.getElem?_eq_some_iff.1 ho).2, (List.getElem?_eq_some_iff.1 ho').2] at this
            exact this))
          obtain ⟨oi, oc, of, ob, ocp, ols, on, ot⟩ := o
          obtain ⟨ri, rc, rf, rb, rcp, rls, rn, rt⟩ := r
          simp only [bare] at e1 e2 e3 e4 e5 e6 h4 hmg hLo HFr HREST
          subst e1 e2 e3 e4 e5 e6
          have q0 : wr.cell? ⟨b, off + k * 6, none⟩ = some (.int .i64 oi) := hcc 0 _ rfl
          have q1 : wr.cell? ⟨b, off + k * 6 + 1, none⟩ = some (.int .i64 oc) := hcc 1 _ rfl
          have q2 : wr.cell? ⟨b, off + k * 6 + 2, none⟩ = some (.string of) := hcc 2 _ rfl
          have q3 : wr.cell? ⟨b, off + k * 6 + 3, none⟩ = some (.slice (some ⟨ob, 0, none⟩) ols.length ocp) := hcc 3 _ rfl
          have q4 : wr.cell? ⟨b, off + k * 6 + 4, none⟩ = some (.int .i64 on) := hcc 4 _ rfl
          have q5 : wr.cell? ⟨b, off + k * 6 + 5, none⟩ = some (.int .i64 ot) := hcc 5 _ rfl
          have hwb : Below wr.heap.size wr (wr.alloc (.cells #[.int .i64 oi, .int .i64 oc, .string of, .slice (some ⟨ob, 0, none⟩) ols.length ocp, .int .i64 on, .int .i64 ot] 35)) := (Below.refl _ _).alloc (Nat.le_refl _) _
          have hB1 : Blk (wr.alloc (.cells #[.int .i64 oi, .int .i64 oc, .string of, .slice (some ⟨ob, 0, none⟩) ols.length ocp, .int .i64 on, .int .i64 ot] 35)) wr.heap.size 35 #[.int .i64 oi, .int .i64 oc, .string of, .slice (some ⟨ob, 0, none⟩) ols.length ocp, .int .i64 on, .int .i64 ot] := Blk.new _ _ _
          obtain ⟨wz, hwz⟩ : ∃ wz, wz = wr.alloc (.cells #[.int .i64 oi, .int .i64 oc, .string of, .slice (some ⟨ob, 0, none⟩) ols.length ocp, .int .i64 on, .int .i64 ot] 35) := ⟨_, rfl⟩
          obtain ⟨G1, hG1⟩ : ∃ G1, G1 = wr.heap.size := ⟨_, rfl⟩
          rw [← hwz] at hwb hB1
          rw [← hG1] at hB1
          have K := hid (G.out wz (bthen hb hwb) hmg)
          have HW := hid hwz
          have HG1 := hid hG1
          have HWB := hid hwb
          have HOO := hid (And.intro hO (And.intro hLo hb))
          have HHL := hid hL
          subst hA4
          clear hcc ho hrk hrb hmg hwz hG1 hwb hO hLo hb hL hbs
          have p0 : wz.cell? ⟨G1, 0, none⟩ = some (.int .i64 oi) := hB1.cell 0
          go_wp2_with fail
          rw [← HW.out, ← HG1.out]
          clear q0 q1 q2 q3 q4 q5
          go_wp2_with fail
          refine K.out.mono ?_
          rintro e w7 ⟨pb, pcp, rfl, hP7, hb7⟩
          have hb17 := bthen HWB.out hb7
          have hbw7 := bthen HOO.out.2.2 hb17
          obtain ⟨hF, hel, _⟩ := HFr.out w7 hbw7
          obtain ⟨g, rfl, _, hpr⟩ := hel
          have c1' : w7.cell? ⟨R, 1, none⟩ = some (.slice (some ⟨g, 0, none⟩) l.length c2) := by rw [HLL.out]; exact hF.cell1
          have lR : R < w7.heap.size := hF.blk.lt
          have lg : g < w7.heap.size := hpr.1
          have r0 : w7.cell? ⟨g, k * 6, none⟩ = some (.int .i64 oi) := hpr.2 0 _ rfl
          have r1 : w7.cell? ⟨g, k * 6 + 1, none⟩ = some (.int .i64 oc) := hpr.2 1 _ rfl
          have r2 : w7.cell? ⟨g, k * 6 + 2, none⟩ = some (.string of) := hpr.2 2 _ rfl
          have r3 : w7.cell? ⟨g, k * 6 + 3, none⟩ = some (.slice (some ⟨rb, 0, none⟩) ols.length rcp) := hpr.2 3 _ rfl
          have r4 : w7.cell? ⟨g, k * 6 + 4, none⟩ = some (.int .i64 on) := hpr.2 4 _ rfl
          have r5 : w7.cell? ⟨g, k * 6 + 5, none⟩ = some (.int .i64 ot) := hpr.2 5 _ rfl
          have hB17 := hB1.next hb7
          obtain ⟨wy, hwy⟩ : ∃ wy, wy = (w7.alloc (.cells #[.int .i64 oi, .int .i64 oc, .string of, .slice (some ⟨pb, 0, none⟩) ols.length pcp, .int .i64 on, .int .i64 ot] 35)).alloc (.cells #[.int .i64 oi, .int .i64 oc, .string of, .slice (some ⟨rb, 0, none⟩) ols.length rcp, .int .i64 on, .int .i64 ot] 67) := ⟨_, rfl⟩
          obtain ⟨G2, hG2⟩ : ∃ G2, G2 = w7.heap.size := ⟨_, rfl⟩
          have hB2 : Blk wy G2 35 #[.int .i64 oi, .int .i64 oc, .string of, .slice (some ⟨pb, 0, none⟩) ols.length pcp, .int .i64 on, .int .i64 ot] := by rw [hwy, hG2]; exact (Blk.new _ _ _).alloc _
          have hB3 : Blk wy (G2 + 1) 67 #[.int .i64 oi, .int .i64 oc, .string of, .slice (some ⟨rb, 0, none⟩) ols.length rcp, .int .i64 on, .int .i64 ot] := by
            rw [hwy, hG2]
            have := Blk.new (w7.alloc (.cells #[.int .i64 oi, .int .i64 oc, .string of, .slice (some ⟨pb, 0, none⟩) ols.length pcp, .int .i64 on, .int .i64 ot] 35)) 67 #[.int .i64 oi, .int .i64 oc, .string of, .slice (some ⟨rb, 0, none⟩) ols.length rcp, .int .i64 on, .int .i64 ot]
            rw [World.size_alloc] at this
            exact this
          have hby : Below w7.heap.size w7 wy := by rw [hwy]; exact ((Below.refl _ _).alloc (Nat.le_refl _) _).alloc (by simp) _
          have HWY := hid hwy
          have HG2 := hid hG2
          have HB1 := hid (hB17.next hby)
          have HB2 := hid hB2
          have HB3 := hid hB3
          have HB7 := hid (And.intro hb17 (And.intro hby hbw7))
          have HP7 := hid hP7
          clear hwy hG2 hB17 hB2 hB3 hby hb17 hbw7 hF hpr hP7 hb7 hB1 p0 K
          go_upto_region 15 with fail
          rw [← HWY.out, ← HG2.out]
          clear c1' r0 r1 r2 r3 r4 r5 lR lg
          have p0 : wy.cell? ⟨G1, 0, none⟩ = some (.int .i64 oi) := HB1.out.cell 0
          have p1 : wy.cell? ⟨G1, 1, none⟩ = some (.int .i64 oc) := HB1.out.cell 1
          have p2 : wy.cell? ⟨G1, 2, none⟩ = some (.string of) := HB1.out.cell 2
          have p3 : wy.cell? ⟨G1, 3, none⟩ = some (.slice (some ⟨ob, 0, none⟩) ols.length ocp) := HB1.out.cell 3
          have p4 : wy.cell? ⟨G1, 4, none⟩ = some (.int .i64 on) := HB1.out.cell 4
          have p5 : wy.cell? ⟨G1, 5, none⟩ = some (.int .i64 ot) := HB1.out.cell 5
          have q0 : wy.cell? ⟨G2, 0, none⟩ = some (.int .i64 oi) := HB2.out.cell 0
          have q1 : wy.cell? ⟨G2, 1, none⟩ = some (.int .i64 oc) := HB2.out.cell 1
          have q2 : wy.cell? ⟨G2, 2, none⟩ = some (.string of) := HB2.out.cell 2
          have q3 : wy.cell? ⟨G2, 3, none⟩ = some (.slice (some ⟨pb, 0, none⟩) ols.length pcp) := HB2.out.cell 3
          have q4 : wy.cell? ⟨G2, 4, none⟩ = some (.int .i64 on) := HB2.out.cell 4
          have q5 : wy.cell? ⟨G2, 5, none⟩ = some (.int .i64 ot) := HB2.out.cell 5
          have r0 : wy.cell? ⟨G2 + 1, 0, none⟩ = some (.int .i64 oi) := HB3.out.cell 0
          have r1 : wy.cell? ⟨G2 + 1, 1, none⟩ = some (.int .i64 oc) := HB3.out.cell 1
          have r2 : wy.cell? ⟨G2 + 1, 2, none⟩ = some (.string of) := HB3.out.cell 2
          have r3 : wy.cell? ⟨G2 + 1, 3, none⟩ = some (.slice (some ⟨rb, 0, none⟩) ols.length rcp) := HB3.out.cell 3
          have r4 : wy.cell? ⟨G2 + 1, 4, none⟩ = some (.int .i64 on) := HB3.out.cell 4
          have r5 : wy.cell? ⟨G2 + 1, 5, none⟩ = some (.int .i64 ot) := HB3.out.cell 5
          have t1 : (oi != oi) = false := by simp
          have t2 : (oc != oc) = false := by simp
          have t3 : (of.toList == of.toList) = true := by simp
          have t4 : (on != on) = false := by simp
          have t5 : (ot != ot) = false := by simp
          have t6 : (ols.length != ols.length) = false := by simp
          have hbwy := bthen HB7.out.1 HB7.out.2.1
          have LL := hid (lawLines_any ols (some ⟨ob, 0, none⟩) ocp wy (own_rd (HOO.out.2.1.next hbwy).own) (by omega))
          unfold NewRowOf at LL
          have HBWY := hid hbwy
          clear hbwy
          go_wp2_with fail
          refine LL.out.mono ?_
          rintro e w8 ⟨A5, c5, rfl, hO5, hb8⟩
          clear p0 p1 p2 p3 p4 p5 q0 q1 q2 q3 q4 q5 r0 r1 r2 r3 r4 r5 t1 t2 t3 t4 t5 t6 LL
          have hB1 := HB1.out.next hb8
          have hB2 := HB2.out.next hb8
          have hB3 := HB3.out.next hb8
          have hw8 := bthen HB7.out.2.2 (bthen HB7.out.2.1 hb8)
          have hLO : LnRow w.heap.size w8 ob ocp ols := HOO.out.2.1.next (bthen HBWY.out hb8)
          have hLP0 := HP7.out.next (bthen HB7.out.2.1 hb8)
          have hww : w.heap.size ≤ wz.heap.size := (bthen HOO.out.2.2 HWB.out).size
          have hLP : LnRow w.heap.size w8 pb pcp ols := ⟨ownsRow_low hLP0.own hww⟩
          have hne : ob ≠ pb := fun e => by
            have h1 := (HOO.out.2.1.own.lt ob rfl).2
            have h2 := (HP7.out.own.lt pb rfl).1
            have h3 := HWB.out.size
            omega
          obtain ⟨csO, hbO⟩ := rowBlk hLO.own (b := ob) rfl
          obtain ⟨csP, hbP⟩ := rowBlk hLP.own (b := pb) rfl
          have HK := hid (fun wl (ht : Touch (fun b => b = ob ∨ b = pb) w8 wl) => And.intro (ht.blk hB1 (fun e => e.elim (fun e => hB1.ne_ hbO (by decide) e) (fun e => hB1.ne_ hbP (by decide) e)))
            (And.intro (ht.blk hB2 (fun e => e.elim (fun e => hB2.ne_ hbO (by decide) e) (fun e => hB2.ne_ hbP (by decide) e)))
            (And.intro (ht.blk hB3 (fun e => e.elim (fun e => hB3.ne_ hbO (by decide) e) (fun e => hB3.ne_ hbP (by decide) e)))
            (And.intro ((HFr.out w8 hw8).2.2.touch ht (fun e => by
              obtain ⟨_, _, cs, hbR⟩ := (HFr.out w8 hw8).2.2
              exact e.elim (fun e => hbR.ne_ hbO (by decide) e) (fun e => hbR.ne_ hbP (by decide) e)))
            (own_touch hO5 ht (fun g hg e => by
              obtain ⟨cs, hbR⟩ := rowBlk hO5 (b := g) (by cases A5 with | none => simp [Value.ownBlock] at hg | some a => simpa [Value.ownBlock] using hg)
              exact e.elim (fun e => hbR.ne_ hbO (by decide) e) (fun e => hbR.ne_ hbP (by decide) e)))))))
          have HQ := hid (And.intro hLO (And.intro hLP hw8))
          have HB78 := hid (bthen HBWY.out hb8)
          clear hO5 hB1 hB2 hB3 hLO hLP hLP0 hbO hbP hw8 hb8 HB1 HB2 HB3
          go_wp2_with fail
          go_loopw [157] (fun i wl => ∃ m : Nat, m ≤ ols.length ∧ i = .int .i64 m ∧ Touch (fun b => b = ob ∨ b = pb) w8 wl ∧ Hid (∃ l1 : List Ln, l1.length = ols.length ∧ LnRow w.heap.size wl pb pcp l1) ∧ Hid (∃ l2 : List Ln, l2.length = ols.length ∧ LnRow w.heap.size wl ob ocp l2)) (fun i _ => ols.length - nOf i)
          case atStart => exact ⟨0, Nat.zero_le _, rfl, Touch.refl _ _, hid ⟨ols, rfl, HQ.out.2.1⟩, hid ⟨ols, rfl, HQ.out.1⟩⟩
          case round =>
            obtain ⟨m, hm, rfl, ht, hP1, hP2⟩ := hrel
            by_cases hml : m < ols.length
            · obtain ⟨x, hx⟩ : ∃ x, ols[m]? = some x := ⟨ols[m], List.getElem?_eq_getElem hml⟩
              obtain ⟨k1, k2, k3, k4, k5⟩ := HK.out wr ht
              obtain ⟨l1, hl1, hr1⟩ := hP1.out
              obtain ⟨l2, hl2, hr2⟩ := hP2.out
              obtain ⟨y1, hy1⟩ : ∃ y, l1[m]? = some y := ⟨l1[m]'(by omega), List.getElem?_eq_getElem (by omega)⟩
              obtain ⟨y2, hy2⟩ : ∃ y, l2[m]? = some y := ⟨l2[m]'(by omega), List.getElem?_eq_getElem (by omega)⟩
              obtain ⟨b5, off5, hA5, hbs5, hc5⟩ := (own_rd k5).at_ 2 enL_len (by omega) hx
              have hse := same_rl x
              have hgd := guard_rl
              have hcr : CellsAt wr rb (m * 2) (enL x) := by
                obtain ⟨b', off', e, hl, hc⟩ := k4.1.at_ 2 enL_len (by omega) hx
                simp only [Option.some.injEq, Addr.mk.injEq, and_true] at e
                obtain ⟨rfl, rfl⟩ := e
                exact ⟨hl, fun j u hu => by have := hc j u hu; simpa using this⟩
              obtain ⟨xi, xq⟩ := x
              simp only at hse
              have d1 : wr.cell? ⟨G1, 3, none⟩ = some (.slice (some ⟨ob, 0, none⟩) ols.length ocp) := k1.cell 3
              have d2 : wr.cell? ⟨G2, 3, none⟩ = some (.slice (some ⟨pb, 0, none⟩) ols.length pcp) := k2.cell 3
              have d3 : wr.cell? ⟨G2 + 1, 3, none⟩ = some (.slice (some ⟨rb, 0, none⟩) ols.length rcp) := k3.cell 3
              have l1' : G1 < wr.heap.size := k1.lt
              have l2' : G2 < wr.heap.size := k2.lt
              have l3' : G2 + 1 < wr.heap.size := k3.lt
              have lrb : rb < wr.heap.size := hcr.1
              have s0 : wr.cell? ⟨rb, m * 2, none⟩ = some (.int .i64 xi) := hcr.2 0 _ rfl
              have s1 : wr.cell? ⟨rb, m * 2 + 1, none⟩ = some (.int .i64 xq) := hcr.2 1 _ rfl
              have q0 : wr.cell? ⟨b5, off5 + m * 2, none⟩ = some (.int .i64 xi) := hc5 0 _ rfl
              have q1 : wr.cell? ⟨b5, off5 + m * 2 + 1, none⟩ = some (.int .i64 xq) := hc5 1 _ rfl
              subst hA5
              have HR := hid (And.intro hr1 (And.intro hr2 (And.intro hy1 (And.intro hy2 ht))))
              have hbq0 := hid ((Below.refl _ wr).alloc (Nat.le_refl _) (.cells #[.int .i64 xi, .int .i64 xq] 88))
              clear k1 k2 k3 k4 k5 hr1 hr2 hy1 hy2 hcr hc5 hx ht hbs5 hP1 hP2
              go_wp2_with fail
              go_quiet (fail)
              have hbq := below_drewN hbq0.out nq
              obtain ⟨wq, hwq⟩ : ∃ wq, wq = (wr.alloc (.cells #[.int .i64 xi, .int .i64 xq] 88)).drewN nq := ⟨_, rfl⟩
              rw [← hwq] at hbq ⊢
              obtain ⟨e1, e2, e3, e4, ht⟩ := HR.out
              have hr1 := e1.next hbq
              have hr2 := e2.next hbq
              have htq := ht.then (Touch.of_below hbq)
              have c1' : wq.cell? ⟨G1, 3, none⟩ = some (.slice (some ⟨ob, 0, none⟩) ols.length ocp) := (hbq.cell (p := ⟨G1, 3, none⟩) l1').trans d1
              have c2' : wq.cell? ⟨G2, 3, none⟩ = some (.slice (some ⟨pb, 0, none⟩) ols.length pcp) := (hbq.cell (p := ⟨G2, 3, none⟩) l2').trans d2
              have lG1 : G1 < wq.heap.size := Nat.lt_of_lt_of_le l1' hbq.size
              have lG2 : G2 < wq.heap.size := Nat.lt_of_lt_of_le l2' hbq.size
              clear d1 d2 d3 s0 s1 q0 q1 hse hgd l1' l2' l3' lrb hbq0
              obtain ⟨C, hCd⟩ : ∃ C : World → Prop, ∀ w', C w' ↔ (Touch (fun b => b = ob ∨ b = pb) w8 w' ∧ (∃ l1 : List Ln, l1.length = ols.length ∧ LnRow w.heap.size w' pb pcp l1) ∧ (∃ l2 : List Ln, l2.length = ols.length ∧ LnRow w.heap.size w' ob ocp l2)) := ⟨_, fun _ => Iff.rfl⟩
              have hC : C wq.drew := (hCd _).2 ⟨htq.drew, ⟨l1, hl1, hr1.next (below_drewN (Below.refl _ _) 1)⟩, ⟨l2, hl2, hr2.next (below_drewN (Below.refl _ _) 1)⟩⟩
              have g1 : ∀ p : In C, p.w.cell? ⟨G1, 3, none⟩ = some (.slice (some ⟨ob, 0, none⟩) ols.length ocp) := fun p => (HK.out p.w ((hCd _).1 p.h).1).1.cell 3
              have g2 : ∀ p : In C, p.w.cell? ⟨G2, 3, none⟩ = some (.slice (some ⟨pb, 0, none⟩) ols.length pcp) := fun p => (HK.out p.w ((hCd _).1 p.h).1).2.1.cell 3
              have HCD := hid hCd
              clear hCd hr1 hr2 htq e1 e2 e3 e4 ht hbq hwq c1' c2' lG1 lG2
              go_wp2_with fail
              refine wp_region_in_tail C 9 (by kernel_rfl) (by kernel_rfl) hC ?_
              intro hne'
              clear hC
              refine wpIn_part 8 ?_
              simp only [List.take_succ_cons, List.take_zero, List.drop_succ_cons, List.drop_zero]
              repeat (first | go_big_quiet_step (fail) | quiet_step (fail))
              refine wpQuiet_nil ?_
              refine wpIn_skip (by rfl) (fun wp hwp => ?_) ?_
              · obtain ⟨p, rfl⟩ := hwp
                obtain ⟨ht, ⟨l1, hl1, hr1⟩, ⟨l2, hl2, hr2⟩⟩ := (HCD.out _).1 p.h
                obtain ⟨y1, hy1⟩ : ∃ y, l1[m]? = some y := ⟨l1[m]'(by omega), List.getElem?_eq_getElem (by omega)⟩
                have f1 := own_free hr1.own (m * 2 + 1)
                have x1 : p.w.cell? ⟨pb, m * 2 + 1, none⟩ = some (.int .i64 y1.q) := own_cells enL_len hr1.own hy1 (j := 1) rfl
                have lpb := (hr1.own.lt pb rfl).2
                obtain ⟨a1, a2⟩ := own_field enL_len hr1.own hy1 (j := 1) (by omega) (.int .i64 (-1)) ⟨y1.i, -1⟩ rfl
                have a3 := own_touch hr2.own (Touch.of_grown a2) (fun g hg e => hne (by
                  have hg' : ob = g := by simpa [Value.ownBlock] using hg
                  rw [hg', e]))
                refine ⟨p.w.setCell ⟨pb, m * 2 + 1, none⟩ (.int .i64 (-1)), ⟨⟨_, (HCD.out _).2 ⟨ht.then ((Touch.of_grown a2).mono (fun k hk => .inr hk)), ⟨l1.set m ⟨y1.i, -1⟩, by rw [List.length_set]; exact hl1, ⟨a1⟩⟩, ⟨l2, hl2, ⟨a3⟩⟩⟩⟩, rfl⟩, ?_⟩
                clear a1 a2 a3 hr1 hr2 ht hy1
                go_simp
              · refine wpIn_nil ?_
                intro wp hwp
                obtain ⟨ht, ⟨l1, hl1, hr1⟩, ⟨l2, hl2, hr2⟩⟩ := (HCD.out _).1 hwp
                obtain ⟨y2, hy2⟩ : ∃ y, l2[m]? = some y := ⟨l2[m]'(by omega), List.getElem?_eq_getElem (by omega)⟩
                have f2 := own_free hr2.own (m * 2)
                have x2 : wp.cell? ⟨ob, m * 2, none⟩ = some (.int .i64 y2.i) := own_cells enL_len hr2.own hy2 (j := 0) rfl
                have lob := (hr2.own.lt ob rfl).2
                obtain ⟨b1, b2⟩ := own_field enL_len hr2.own hy2 (j := 0) (by omega) (.int .i64 (-1)) ⟨-1, y2.q⟩ rfl
                have b3 := own_touch hr1.own (Touch.of_grown b2) (fun g hg e => hne (by
                  have hg' : pb = g := by simpa [Value.ownBlock] using hg
                  rw [hg', e]))
                have HA := hid (And.intro (LnRow.mk b3) (And.intro (LnRow.mk b1) (ht.then ((Touch.of_grown b2).mono (fun k hk => .inl hk)))))
                clear b1 b2 b3 hr1 hr2 ht hy2 hwp
                go_wp2_with fail
                obtain ⟨hA1, hA2, hT⟩ := HA.out
                go_roundw
                case rel => exact ⟨m + 1, by omega, by go_num, hT, hid ⟨l1, hl1, hA1⟩, hid ⟨l2.set m ⟨-1, y2.q⟩, by rw [List.length_set]; exact hl2, hA2⟩⟩
                case measure => simp [nOf]; omega
            · have hm' : m = ols.length := by omega
              have hbr : Below w.heap.size w wr := HQ.out.2.2.trans (ht.below HQ.out.2.2.size (fun k hk => by
                rcases hk with rfl | rfl
                · exact (HQ.out.1.own.lt _ rfl).1
                · exact (HQ.out.2.1.own.lt _ rfl).1))
              have hb78 := HB78.out
              have hrow : wr.ownsRow w.heap.size 35 6 (.slice (some ⟨b, off, none⟩) l.length c4) l.length (l.flatMap enO6) := by
                refine own_touch ((HOO.out.1.kept (grown_of_below hb78 none) (by cases hv : (Value.slice (some ⟨b, off, none⟩) l.length c4).ownBlock <;> simp))) ht (fun g hg e => ?_)
                obtain ⟨cs1, h1⟩ := rowBlk HQ.out.1.own (b := ob) rfl
                obtain ⟨cs2, h2⟩ := rowBlk HQ.out.2.1.own (b := pb) rfl
                obtain ⟨cs3, h3⟩ := rowBlk (HOO.out.1.kept (grown_of_below hb78 none) (by cases hv : (Value.slice (some ⟨b, off, none⟩) l.length c4).ownBlock <;> simp)) (b := g) (by simpa [Value.ownBlock] using hg)
                exact e.elim (fun e => h3.ne_ h1 (by decide) e) (fun e => h3.ne_ h2 (by decide) e)
              have hLL : ∀ (j : Nat) (o : Od), k + 1 ≤ j → l[j]? = some o → LnRow w.heap.size wr o.b o.cap o.ls := fun j o hj ho => by
                obtain ⟨h1, h2⟩ := HREST.out j o hj ho
                have h3 := h1.next hb78
                refine ⟨own_touch h3.own ht (fun g hg e => ?_)⟩
                have hg' : o.b = g := by simpa [Value.ownBlock] using hg
                subst hg'
                rcases e with e | e
                · exact h2 e.symm
                · have h4 := (h1.own.lt o.b rfl).2
                  have h5 := (HP7.out.own.lt pb rfl).1
                  have h6 := HWB.out.size
                  omega
              have HZ := hid (And.intro hrow (And.intro hLL hbr))
              clear hrow hLL hbr hm hml ht hP1 hP2 hb78
              subst hm'
              go_wp2_with fail
              obtain ⟨z1, z2, z3⟩ := HZ.out
              go_roundw
              case rel => exact ⟨k + 1, by omega, by go_num, z1, hid z2, z3⟩
              case measure => simp [nOf]; omega
        · clear hk
          go_wp2_with fail
          go_ret
          exact ⟨rfl, hb⟩

end Go.Proofs.Ytdgoifnhlpjnpaa
