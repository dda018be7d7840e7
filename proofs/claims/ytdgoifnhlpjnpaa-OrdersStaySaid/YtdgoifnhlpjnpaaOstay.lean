/-
  Layer 19: the walk of OrdersStay.
-/
import Derived.Test.YtdgoifnhlpjnpaaRun19
import Derived.Test.YtdgoifnhlpjnpaaRst19
import Derived.Test.YtdgoifnhlpjnpaaState19
import Derived.Deep.RegionHeld3
namespace Go.Proofs.Ytdgoifnhlpjnpaa
open Go.RowKit Go.WideShapes Go.ChangeShapes Go.ChangeAt Go.Deep
set_option linter.unusedVariables false

theorem same_ln (x : Ln) (w : World) : (Op.equalIn 10000 47 (.agg #[.int .i64 x.i, .int .i64 x.q]) (.agg #[.int .i64 x.i, .int .i64 x.q])).run Try.prog w = .ok true w := by
  refine agg_same (L := [(3, 0), (3, 1)]) (by kernel_rfl) (by kernel_rfl) (by kernel_rfl) ?_ w
  intro q hq
  simp only [List.mem_cons, List.not_mem_nil, or_false] at hq
  rcases hq with rfl | rfl
  · exact sameAt_int Try.underlying3 isAgg_int rfl
  · exact sameAt_int Try.underlying3 isAgg_int rfl
theorem guard_ln : Try.prog.eqGuardType Try.prog.depth 47 = false := by kernel_rfl

def odA (o : Od) : OrdA := ⟨o.i, o.c, o.f, some ⟨o.b, 0, none⟩, o.cap, o.ls, o.n, o.t⟩
theorem odA_flat (l : List Od) : (l.map odA).flatMap enA = l.flatMap enO6 := by
  rw [List.flatMap_map]
  rfl
theorem word_small {f : ByteArray} (h : isW f = true) : f.size ≤ maxLen := by
  unfold isW at h
  simp only [Bool.and_eq_true, decide_eq_true_eq] at h
  unfold maxLen
  omega

section
variable {w0 w1 w w' : World} {n0 X BP BO : Nat} {os0 os : List (Int × Od)} {pr : List (Int × Int)} {ids : List Int} {l : List Od}
theorem od_of (hO : OsOk os) (hnd : (os.map (·.1)).Nodup) (hp : ids.Perm (os.map (·.1))) (hb : l.map bare = ids.map fun id => bare (odAt os id)) {k : Nat} {o : Od} (hk : l[k]? = some o) :
    ∃ id v, ids[k]? = some id ∧ (id, v) ∈ os ∧ mget os id = some v ∧ id = o.i ∧ v.i = o.i ∧ v.c = o.c ∧ v.f = o.f ∧ v.ls = o.ls ∧ v.n = o.n ∧ v.t = o.t := by
  have h1 := congrArg (fun x => x[k]?) hb
  simp only [List.getElem?_map, hk, Option.map_some] at h1
  cases hi : ids[k]? with
  | none => rw [hi] at h1; simp at h1
  | some id =>
    rw [hi] at h1
    simp only [Option.map_some, Option.some.injEq] at h1
    obtain ⟨p, hp', hpe⟩ := List.mem_map.1 (hp.mem_iff.1 (List.mem_of_getElem? hi))
    subst hpe
    have hm := mget_of_mem hnd (by exact hp')
    have e : odAt os p.1 = p.2 := by unfold odAt; rw [hm]; rfl
    rw [e] at h1
    obtain ⟨a1, a2, a3, a4, a5, a6⟩ := bare_parts h1
    have hpi := (hO p hp').2.2.1
    exact ⟨p.1, p.2, rfl, hp', hm, by rw [a1, hpi], a1.symm, a2.symm, a3.symm, a4.symm, a5.symm, a6.symm⟩
theorem good_own (h : St w0 n0 X BP BO pr os w) (hf : OsFull pr os) {ids1 : List Int} (hp1 : ids1.Perm (pr.map (·.1))) (hr1 : ids1.Pairwise (fun a b => a < b)) (hp : ids.Perm (os.map (·.1))) (hr : ids.Pairwise (fun a b => a < b)) (hb : l.map bare = ids.map fun id => bare (odAt os id)) : GoodR (itL pr ids1) (l.map odA) := by
  have hget : ∀ {m : List Int}, m.Pairwise (fun a b => a < b) → ∀ {k : Nat} {a b : Int}, 0 < k → m[k - 1]? = some a → m[k]? = some b → a < b := fun {m} hm {k a b} hk ha hb => by
    have h1 := (List.getElem?_eq_some_iff.1 ha).1
    have h2 := (List.getElem?_eq_some_iff.1 hb).1
    have := (List.pairwise_iff_getElem.1 hm) (k - 1) k h1 h2 (by omega)
    rw [(List.getElem?_eq_some_iff.1 ha).2, (List.getElem?_eq_some_iff.1 hb).2] at this
    exact this
  have hkn : ∀ ls : List Ln, knowB pr ls = true → knowB (itL pr ids1) ls = true := fun ls hk => by
    unfold knowB at *
    rw [List.all_eq_true] at *
    intro x hx
    obtain ⟨v, hv⟩ := Option.isSome_iff_exists.1 (hk x hx)
    have hin : x.i ∈ ids1 := hp1.mem_iff.2 (List.mem_map.2 ⟨_, mget_mem hv, rfl⟩)
    refine mget_isSome.2 ?_
    unfold itL
    rw [List.map_map]
    exact List.mem_map.2 ⟨x.i, hin, rfl⟩
  refine ⟨fun k q hq => ?_, fun k o ho => ?_⟩
  · unfold itL at hq
    rw [List.getElem?_map] at hq
    cases hi : ids1[k]? with
    | none => rw [hi] at hq; cases hq
    | some id =>
      rw [hi] at hq
      injection hq with hq
      subst hq
      obtain ⟨v, hv⟩ := mget_key (hp1.mem_iff.1 (List.mem_of_getElem? hi))
      refine ⟨by simp only [hv, Option.getD_some]; exact h.pok id v hv, fun p h0 hp' => ?_⟩
      unfold itL at hp'
      rw [List.getElem?_map] at hp'
      cases hj : ids1[k - 1]? with
      | none => rw [hj] at hp'; cases hp'
      | some id' =>
        rw [hj] at hp'
        injection hp' with hp'
        subst hp'
        exact hget hr1 h0 hj hi
  · rw [List.getElem?_map] at ho
    cases hk : l[k]? with
    | none => rw [hk] at ho; cases ho
    | some o' =>
      rw [hk] at ho
      injection ho with ho
      subst ho
      obtain ⟨id, v, hi, hin, hm, e0, e1, e2, e3, e4, e5, e6⟩ := od_of h.ook h.book.ods.nodup hp hb hk
      obtain ⟨f1, f2, f3, f4⟩ := hf _ hin
      simp only at f1 f2 f3 f4
      rw [e1, e2, e3, e4] at f1
      rw [e4] at f2
      rw [e5] at f3
      rw [e6] at f4
      refine ⟨fun p h0 hp' => ?_, f1, hkn _ f2, f3, f4⟩
      rw [List.getElem?_map] at hp'
      cases hj : l[k - 1]? with
      | none => rw [hj] at hp'; cases hp'
      | some o2 =>
        rw [hj] at hp'
        injection hp' with hp'
        subst hp'
        obtain ⟨id2, v2, hi2, _, _, e02, _⟩ := od_of h.ook h.book.ods.nodup hp hb hj
        have := hget hr h0 hi2 hi
        show o2.i < o'.i
        omega
theorem St.allLen (h : St w0 n0 X BP BO pr os w) {n : Nat} (hn : n = os.length) : Calls Try.prog 12 #[.pointer (some ⟨X, 0, none⟩)] w fun e w' => ∃ A cap, e = .returned (.slice A n cap) ∧ Below w.heap.size w w' :=
  (all_any h.book h.fewO h.four).mono fun e w' ⟨A, cap, ids, l, h1, h2, h3, _, _, _, _, h8⟩ => by
    have hl : l.length = n := by have := h3.length_eq; simp at this; omega
    rw [hl] at h1
    exact ⟨A, cap, h1, h8⟩
/-- Restore of what a book tells. -/
def RestOwn (n : Nat) (w : World) (e : Ending) (w' : World) : Prop :=
  ∃ (X2 BP2 BO2 : Nat) (pr2 : List (Int × Int)) (os2 : List (Int × Od)), e = .returned (.tuple #[.pointer (some ⟨X2, 0, none⟩), .int .i64 0]) ∧ IsBook w.heap.size w' X2 BP2 BO2 pr2 os2 ∧ OsOk os2 ∧ os2.length = n ∧ Below w.heap.size w w'
theorem restore_own (h : St w0 n0 X BP BO pr os w) (hf : OsFull pr os) {ids1 : List Int} {A1 A2 : Option Addr} {c1 c2 bs : Nat} (hp1 : ids1.Perm (pr.map (·.1))) (hr1 : ids1.Pairwise (fun a b => a < b)) (hR1 : Rd w1 A1 ((itL pr ids1).flatMap en2)) (hll : l.length = ids.length) (hp : ids.Perm (os.map (·.1))) (hr : ids.Pairwise (fun a b => a < b)) (hb : l.map bare = ids.map fun id => bare (odAt os id))
    (hR2 : Rd w1 A2 (l.flatMap enO6)) (hL : ∀ o ∈ l, LnRow bs w1 o.b o.cap o.ls) : Calls Try.prog 20 #[.slice A1 ids1.length c1, .slice A2 l.length c2] w1 (RestOwn os.length w1) := by
  have hln : l.length = os.length := by have := hp.length_eq; simp at this; omega
  have hln1 : ids1.length ≤ 64 := by have := hp1.length_eq; have := h.fewP; simp at *; omega
  have h256 := h.fewO
  have K3 := restore_any (itL pr ids1) A1 c1 (l.map odA) A2 c2 w1 hR1 (by rw [odA_flat]; exact hR2) (fun o ho => by
    obtain ⟨o', ho', rfl⟩ := List.mem_map.1 ho
    obtain ⟨j, hj⟩ := List.mem_iff_getElem?.1 ho'
    obtain ⟨id, v, hi, hin, hm, e0, e1, e2, e3, e4, e5, e6⟩ := od_of h.ook h.book.ods.nodup hp hb hj
    have h4 := (h.four _ hin).2
    have hw := (hf _ hin).1.1.2.2.2.2.1
    simp only at h4 hw
    rw [e4] at h4
    rw [e3] at hw
    have hLn := hL o' ho'
    exact ⟨own_rd hLn.own, by show o'.ls.length * 16 ≤ _; omega, (own_cap hLn.own).1, (own_cap hLn.own).2, word_small hw⟩) (by unfold itL; rw [List.length_map]; omega) (by rw [List.length_map]; omega)
  rw [show (itL pr ids1).length = ids1.length from by unfold itL; rw [List.length_map], List.length_map] at K3
  refine K3.mono ?_
  rintro e w9 ⟨hpost, hb9⟩
  obtain ⟨X2, BP2, BO2, os2, rfl, hI2, hO2, hos2⟩ := hpost.1 (good_own h hf hp1 hr1 hp hr hb)
  have hn2 : os2.length = os.length := by
    have := congrArg List.length hos2
    simp at this
    omega
  exact ⟨X2, BP2, BO2, _, os2, rfl, hI2, hO2, hn2, hb9⟩
end

set_option maxRecDepth 100000 in
set_option maxHeartbeats 16000000 in
theorem ordersStay_walk (l1 : List Opn) (A1 : Option Addr) (cp1 : Nat) (l2 : List Opn) (A2 : Option Addr) (cp2 : Nat) (w : World) (hR1 : Rd w A1 (l1.flatMap enOp)) (hok1 : ∀ x ∈ l1, OkOp w x) (hl1 : l1.length * 72 ≤ 140737488351232) (hR2 : Rd w A2 (l2.flatMap enOp)) (hok2 : ∀ x ∈ l2, OkOp w x) (hl2 : l2.length * 72 ≤ 140737488351232) :
    Calls Try.prog 7 #[.slice A1 l1.length cp1, .slice A2 l2.length cp2] w (Law w) := by
  have hmf : ∀ (fn : Fn) (first cap : Array Value) (w : World), (Instr.makeFunc fn first cap).run Try.prog w = .ok (.func fn first cap) w := fun _ _ _ _ => rfl
  have HA := hid (And.intro hok1 hok2)
  clear hok1 hok2
  go_enter Try.func7, Try.ntmps7
  go_wp2_with fail
  refine (wakes_any _).mono ?_
  rintro e w1 ⟨rfl, hb⟩
  go_wp2_with fail
  refine (new_any _).mono ?_
  rintro e w2 ⟨X, BP, BO, rfl, h, hb1⟩
  have hS : St w w1.heap.size X BP BO [] [] w2 := ⟨h, (fun _ _ hp => by simp [mget] at hp), (fun p hp => by cases hp), bthen hb hb1, hb.size, hb1.size⟩
  have hwa : Below w2.heap.size w2 (w2.alloc (.cells #[.pointer (some ⟨X, 0, none⟩)] 24)) := (Below.refl _ _).alloc (Nat.le_refl _) _
  have R1 := hid (run_any l1 A1 cp1 hR1 HA.out.1 hl1 (hS.next hwa) (fun p hp => by cases hp) (Blk.new _ _ _))
  have HB0 : Hid (Blk (w2.alloc (.cells #[.pointer (some ⟨X, 0, none⟩)] 24)) w2.heap.size 24 #[.pointer (some ⟨X, 0, none⟩)]) := hid (Blk.new _ _ _)
  have HNO := hid (notOwn (hS.next hwa).book HB0.out)
  obtain ⟨n0, hn0⟩ : ∃ n0, n0 = w1.heap.size := ⟨_, rfl⟩
  rw [← hn0] at R1
  clear h hb hb1 hS hwa hR1 hl1 hn0
  go_wp2_with fail
  refine R1.out.mono ?_
  obtain ⟨B, hBB⟩ : ∃ B, B = w2.heap.size := ⟨_, rfl⟩
  rw [← hBB] at HB0 HNO ⊢
  rintro e w4 ⟨rfl, pr, os, hW⟩
  have hB4 := hW.tch.blk HB0.out HNO.out
  have b0 : w4.cell? ⟨B, 0, none⟩ = some (.pointer (some ⟨X, 0, none⟩)) := hB4.cell 0
  have K := hid (all_any hW.st.book hW.st.fewO hW.st.four)
  unfold AllPost at K
  replace hB4 := hid hB4
  replace hW := hid hW
  clear R1 HB0 hBB HNO
  go_wp2_with fail
  refine K.out.mono ?_
  rintro e w5 ⟨A4, c4, ids, l, rfl, hll, hp4, hr4, hbr4, hO4, hL4, hb5⟩
  have hB5 := hB4.out.next hb5
  have hS5 := hW.out.st.next hb5
  have HNO := hid (notOwn hS5.book hB5)
  have hl256 : l.length ≤ 256 := by have := hp4.length_eq; have := hW.out.st.fewO; simp at *; omega
  have HOD := hid (fun (k : Nat) (o : Od) (hk : l[k]? = some o) => od_of hW.out.st.ook hW.out.st.book.ods.nodup hp4 hbr4 hk)
  have HL4 := hid (And.intro hO4 hL4)
  have HRO := hid (fun (g : Nat) (t : TypeId) (cs : Array Value) (hb : Blk w5 g t cs) => notOwn hS5.book hb)
  have R2 := hid (run_any l2 A2 cp2 hR2 HA.out.2 hl2 hS5 hW.out.full hB5)
  have HB5 := hid hB5
  clear K hB4 hW hll hp4 hr4 hbr4 hO4 hL4 hb5 hS5 hR2 hl2 HA b0 hB5
  go_wp2_with fail
  refine R2.out.mono ?_
  rintro e w6 ⟨rfl, pr', os', hW⟩
  have hB6 := hid (hW.tch.blk HB5.out HNO.out)
  have hO6 := own_touch HL4.out.1 hW.tch (fun g hg => by
    obtain ⟨cs, hb⟩ := rowBlk HL4.out.1 (b := g) (by cases A4 with | none => simp [Value.ownBlock] at hg | some a => simpa [Value.ownBlock] using hg)
    exact HRO.out _ _ _ hb)
  have HL6 := hid (fun (o : Od) (ho : o ∈ l) => own_rd (own_touch (HL4.out.2 o ho).own hW.tch (fun g hg => by
    obtain ⟨cs, hb⟩ := rowBlk (HL4.out.2 o ho).own (b := g) (by simpa [Value.ownBlock] using hg)
    exact HRO.out _ _ _ hb)))
  have hRA := own_rd hO6
  replace hW := hid hW
  clear R2 HL4 HRO HB5 HNO hO6
  go_wp2_with fail
  go_loopw [29] (fun i wr => ∃ k : Nat, k ≤ l.length ∧ i = .int .i64 k ∧ Below w6.heap.size w6 wr) (fun i _ => l.length - nOf i)
  case atStart => exact ⟨0, Nat.zero_le _, rfl, Below.refl _ _⟩
  case round =>
    obtain ⟨k, hk, rfl, hb⟩ := hrel
    by_cases hlt : k < l.length
    · obtain ⟨o, ho⟩ : ∃ o, l[k]? = some o := ⟨l[k], List.getElem?_eq_getElem hlt⟩
      obtain ⟨id, v, hi, hin, hm, e0, e1, e2, e3, e4, e5, e6⟩ := HOD.out k o ho
      obtain ⟨b, off, hA4, hbs, hcc⟩ := (hRA.below hb).at_ 6 enO6_len (by omega) ho
      have hmg : ∃ v, mget os' o.i = some v ∧ v.i = o.i ∧ v.c = o.c ∧ v.f = o.f ∧ v.ls = o.ls ∧ v.n = o.n ∧ v.t = o.t := ⟨v, by rw [← e0]; exact hW.out.ext id v hm, e1, e2, e3, e4, e5, e6⟩
      have hfo : o.ls.length ≤ 4 := by
        obtain ⟨v', h1, _, _, _, h2, _⟩ := hmg
        rw [← h2]
        exact (hW.out.st.four _ (mget_mem h1)).2
      have HLo := hid (HL6.out o (List.mem_of_getElem? ho))
      obtain ⟨oi, oc, of, ob, ocp, ols, on, ot⟩ := o
      simp only at hmg hfo HLo
      have q0 : wr.cell? ⟨b, off + k * 6, none⟩ = some (.int .i64 oi) := hcc 0 _ rfl
      have q1 : wr.cell? ⟨b, off + k * 6 + 1, none⟩ = some (.int .i64 oc) := hcc 1 _ rfl
      have q2 : wr.cell? ⟨b, off + k * 6 + 2, none⟩ = some (.string of) := hcc 2 _ rfl
      have q3 : wr.cell? ⟨b, off + k * 6 + 3, none⟩ = some (.slice (some ⟨ob, 0, none⟩) ols.length ocp) := hcc 3 _ rfl
      have q4 : wr.cell? ⟨b, off + k * 6 + 4, none⟩ = some (.int .i64 on) := hcc 4 _ rfl
      have q5 : wr.cell? ⟨b, off + k * 6 + 5, none⟩ = some (.int .i64 ot) := hcc 5 _ rfl
      have hwb : Below wr.heap.size wr (wr.alloc (.cells #[.int .i64 oi, .int .i64 oc, .string of, .slice (some ⟨ob, 0, none⟩) ols.length ocp, .int .i64 on, .int .i64 ot] 35)) := (Below.refl _ _).alloc (Nat.le_refl _) _
      have hB1 : Blk (wr.alloc (.cells #[.int .i64 oi, .int .i64 oc, .string of, .slice (some ⟨ob, 0, none⟩) ols.length ocp, .int .i64 on, .int .i64 ot] 35)) wr.heap.size 35 #[.int .i64 oi, .int .i64 oc, .string of, .slice (some ⟨ob, 0, none⟩) ols.length ocp, .int .i64 on, .int .i64 ot] := Blk.new _ _ _
      obtain ⟨wz, hwz⟩ : ∃ wz, wz = wr.alloc (.cells #[.int .i64 oi, .int .i64 oc, .string of, .slice (some ⟨ob, 0, none⟩) ols.length ocp, .int .i64 on, .int .i64 ot] 35) := ⟨_, rfl⟩
      obtain ⟨G1, hG1⟩ : ∃ G1, G1 = wr.heap.size := ⟨_, rfl⟩
      rw [← hwz] at hwb hB1
      rw [← hG1] at hB1
      have hbz := bthen hb hwb
      have K := hid (getO_at (hW.out.st.next hbz).book (hW.out.st.next hbz).four hmg)
      have b0 : wz.cell? ⟨B, 0, none⟩ = some (.pointer (some ⟨X, 0, none⟩)) := (hB6.out.next hbz).cell 0
      have p0 : wz.cell? ⟨G1, 0, none⟩ = some (.int .i64 oi) := hB1.cell 0
      have HW := hid hwz
      have HG1 := hid hG1
      have HBZ := hid hbz
      have HB1 := hid hB1
      subst hA4
      clear hcc ho hmg hwz hG1 hwb hb hbz hB1 hbs hi hin hm e0 e1 e2 e3 e4 e5 e6
      go_upto_region 11 with fail
      rw [← HW.out, ← HG1.out]
      clear q0 q1 q2 q3 q4 q5
      go_wp2_with fail
      refine K.out.mono ?_
      rintro e w7 ⟨pb, pcp, rfl, hP7, hb7⟩
      obtain ⟨wy, hwy⟩ : ∃ wy, wy = w7.alloc (.cells #[.int .i64 oi, .int .i64 oc, .string of, .slice (some ⟨pb, 0, none⟩) ols.length pcp, .int .i64 on, .int .i64 ot] 35) := ⟨_, rfl⟩
      obtain ⟨G2, hG2⟩ : ∃ G2, G2 = w7.heap.size := ⟨_, rfl⟩
      have hB2 : Blk wy G2 35 #[.int .i64 oi, .int .i64 oc, .string of, .slice (some ⟨pb, 0, none⟩) ols.length pcp, .int .i64 on, .int .i64 ot] := by rw [hwy, hG2]; exact Blk.new _ _ _
      have hby : Below w7.heap.size w7 wy := by rw [hwy]; exact (Below.refl _ _).alloc (Nat.le_refl _) _
      have hB1 := HB1.out.next (bthen hb7 hby)
      have HWY := hid hwy
      have HG2 := hid hG2
      have HRo := hid (HLo.out.below (bthen HBZ.out (bthen hb7 hby)))
      have HRp := hid (own_rd (hP7.next hby).own)
      have HBY := hid (bthen HBZ.out (bthen hb7 hby))
      clear hwy hG2 hP7 hb7 hby b0 p0 K HB1
      go_upto_region 12 with fail
      rw [← HWY.out, ← HG2.out]
      have p0 : wy.cell? ⟨G1, 0, none⟩ = some (.int .i64 oi) := hB1.cell 0
      have p1 : wy.cell? ⟨G1, 1, none⟩ = some (.int .i64 oc) := hB1.cell 1
      have p2 : wy.cell? ⟨G1, 2, none⟩ = some (.string of) := hB1.cell 2
      have p3 : wy.cell? ⟨G1, 3, none⟩ = some (.slice (some ⟨ob, 0, none⟩) ols.length ocp) := hB1.cell 3
      have p4 : wy.cell? ⟨G1, 4, none⟩ = some (.int .i64 on) := hB1.cell 4
      have p5 : wy.cell? ⟨G1, 5, none⟩ = some (.int .i64 ot) := hB1.cell 5
      have q0 : wy.cell? ⟨G2, 0, none⟩ = some (.int .i64 oi) := hB2.cell 0
      have q1 : wy.cell? ⟨G2, 1, none⟩ = some (.int .i64 oc) := hB2.cell 1
      have q2 : wy.cell? ⟨G2, 2, none⟩ = some (.string of) := hB2.cell 2
      have q3 : wy.cell? ⟨G2, 3, none⟩ = some (.slice (some ⟨pb, 0, none⟩) ols.length pcp) := hB2.cell 3
      have q4 : wy.cell? ⟨G2, 4, none⟩ = some (.int .i64 on) := hB2.cell 4
      have q5 : wy.cell? ⟨G2, 5, none⟩ = some (.int .i64 ot) := hB2.cell 5
      have t2 : (oc != oc) = false := by simp
      have t3 : (of.toList == of.toList) = true := by simp
      have t4 : (on != on) = false := by simp
      have t5 : (ot != ot) = false := by simp
      have t6 : (ols.length != ols.length) = false := by simp
      have HB1 := hid hB1
      have HB2 := hid hB2
      clear hB1 hB2
      go_wp2_with fail
      clear p0 p1 p2 p3 p4 p5 q0 q1 q2 q3 q4 q5 t2 t3 t4 t5 t6
      go_loopw [82] (fun i wl => ∃ m : Nat, m ≤ ols.length ∧ i = .int .i64 m ∧ Below wy.heap.size wy wl) (fun i _ => ols.length - nOf i)
      case atStart => exact ⟨0, Nat.zero_le _, rfl, Below.refl _ _⟩
      case round =>
        obtain ⟨m, hm, rfl, hb⟩ := hrel
        by_cases hml : m < ols.length
        · obtain ⟨x, hx⟩ : ∃ x, ols[m]? = some x := ⟨ols[m], List.getElem?_eq_getElem hml⟩
          have hc1 : CellsAt wr ob (m * 2) (enL x) := by
            obtain ⟨b', off', e, hl, hc⟩ := (HRo.out.below hb).at_ 2 enL_len (by omega) hx
            simp only [Option.some.injEq, Addr.mk.injEq, and_true] at e
            obtain ⟨rfl, rfl⟩ := e
            exact ⟨hl, fun j u hu => by have := hc j u hu; simpa using this⟩
          have hc2 : CellsAt wr pb (m * 2) (enL x) := by
            obtain ⟨b', off', e, hl, hc⟩ := (HRp.out.below hb).at_ 2 enL_len (by omega) hx
            simp only [Option.some.injEq, Addr.mk.injEq, and_true] at e
            obtain ⟨rfl, rfl⟩ := e
            exact ⟨hl, fun j u hu => by have := hc j u hu; simpa using this⟩
          have hse := same_ln x
          have hgd := guard_ln
          obtain ⟨xi, xq⟩ := x
          simp only at hse
          have d1 : wr.cell? ⟨G1, 3, none⟩ = some (.slice (some ⟨ob, 0, none⟩) ols.length ocp) := (HB1.out.next hb).cell 3
          have d2 : wr.cell? ⟨G2, 3, none⟩ = some (.slice (some ⟨pb, 0, none⟩) ols.length pcp) := (HB2.out.next hb).cell 3
          have s0 : wr.cell? ⟨ob, m * 2, none⟩ = some (.int .i64 xi) := hc1.2 0 _ rfl
          have s1 : wr.cell? ⟨ob, m * 2 + 1, none⟩ = some (.int .i64 xq) := hc1.2 1 _ rfl
          have r0 : wr.cell? ⟨pb, m * 2, none⟩ = some (.int .i64 xi) := hc2.2 0 _ rfl
          have r1 : wr.cell? ⟨pb, m * 2 + 1, none⟩ = some (.int .i64 xq) := hc2.2 1 _ rfl
          have HBB := hid hb
          clear hc1 hc2 hx hb
          go_wp2_with fail
          go_quiet (fail)
          have hb := below_drewN HBB.out nq
          clear d1 d2 s0 s1 r0 r1 hse hgd
          go_wp2_with fail
          go_roundw
          case rel => exact ⟨m + 1, by omega, by go_num, hb⟩
          case measure => simp [nOf]; omega
        · have hm' : m = ols.length := by omega
          have HB9 := hid (bthen HBY.out hb)
          clear hm hml hb
          subst hm'
          go_wp2_with fail
          go_roundw
          case rel => exact ⟨k + 1, by omega, by go_num, HB9.out⟩
          case measure => simp [nOf]; omega
    · have hW9 := hW.out.next hb
      have hB9 := hB6.out.next hb
      have hnd := hW9.st.book.ods.nodup
      have HST := hid hW9.st
      have HFU := hid hW9.full
      have HB9 := hid hB9
      have K1 := hid (fun w' (hb' : Below wr.heap.size wr w') => items_any (HST.out.next hb').book hW9.st.fewP)
      have K2 := hid (fun w' (hb' : Below wr.heap.size wr w') => all_any (HST.out.next hb').book hW9.st.fewO hW9.st.four)
      have K4 := hid (fun w' (hb' : Below wr.heap.size wr w') (n : Nat) (hn : n = os'.length) => (HST.out.next hb').allLen hn)
      unfold ItemsPost at K1
      unfold AllPost at K2
      have hP0 : Below wr.heap.size wr wr.drew := below_drewN (Below.refl _ _) 1
      have HBE := hid (bthen hW.out.st.bel hb)
      clear hk hRA hW9 hB9 hnd hb
      go_wp2_with fail
      go_region_held3 (fun w' => w'.cell? ⟨B, 0, none⟩ = some (.pointer (some ⟨X, 0, none⟩))) (first | exact (HB9.out.next hP0).cell 0 | exact (HB9.out.next hb7).cell 0 | exact (HB9.out.next hb8).cell 0 | exact (HB9.out.next hb9).cell 0)
        (first
          | (go_at_call 16; refine (K1.out _ hP0).mono ?_; rintro e w7 ⟨A7, c7, ids7, rfl, hp7, hr7, hO7, hb7'⟩
             have hb7 := bthen hP0 hb7'
             have HI7 := hid (And.intro hp7 (And.intro hr7 (own_rd hO7)))
             clear hP0 hp7 hr7 hO7 hb7')
          | (go_at_call 12; refine (K2.out _ hb7).mono ?_; rintro e w8 ⟨A8, c8, ids8, l8, rfl, hl8, hp8, hr8, hbr8, hO8, hL8, hb8'⟩
             have hb8 := bthen hb7 hb8'
             have KR := hid (restore_own (c1 := c7) (c2 := c8) HST.out HFU.out HI7.out.1 HI7.out.2.1 (HI7.out.2.2.below hb8') hl8 hp8 hr8 hbr8 (own_rd hO8) hL8)
             unfold RestOwn at KR
             clear hb7 hl8 hp8 hr8 hbr8 hO8 hL8 hb8')
          | (go_at_call 20; refine KR.out.mono ?_; rintro e w9 ⟨X2, BP2, BO2, pr2, os2, rfl, hI2, hO2, hn2, hb9'⟩
             have hb9 := bthen hb8 hb9'
             have HC := hid (And.intro hI2 hO2)
             clear KR hI2 hO2 hb8 hb9'))
      all_goals
        obtain ⟨n, hn⟩ : ∃ n, n = os'.length := ⟨_, rfl⟩
        have hf2 : os2.length ≤ 256 := by have := HST.out.fewO; omega
        have K5 := hid (fun w' (hb' : Below w9.heap.size w9 w') => (show Calls Try.prog 12 #[.pointer (some ⟨X2, 0, none⟩)] w' fun e w'' => ∃ A cap, e = .returned (.slice A n cap) ∧ Below w'.heap.size w' w'' from
          (all_any (HC.out.1.next hb') hf2 (fun p hp => (HC.out.2 p hp).2.2.2.2.2)).mono fun e w' ⟨A, cap, ids, l, h1, h2, h3, _, _, _, _, h8⟩ => by
            have hl : l.length = n := by have := h3.length_eq; simp at this; omega
            rw [hl] at h1
            exact ⟨A, cap, h1, h8⟩))
        have K6 := hid (fun w' (hb' : Below wr.heap.size wr w') => K4.out w' hb' n hn)
        have HB10 := hid hb9
        have HP1 := hid (show Below w9.heap.size w9 w9.drew from below_drewN (Below.refl _ w9) 1)
        have b0 : w9.cell? ⟨B, 0, none⟩ = some (.pointer (some ⟨X, 0, none⟩)) := (HB9.out.next hb9).cell 0
        have hq : ((n : Int) == (n : Int)) = true := by simp
        clear K1 K2 K4 HC HI7 hn2 hn hf2 hb9
        go_wp2_with fail
        go_region_held3 (fun w' => w'.cell? ⟨B, 0, none⟩ = some (.pointer (some ⟨X, 0, none⟩))) (first | exact b0 | exact (HB9.out.next hb11).cell 0 | exact (HB9.out.next hb12).cell 0)
          (first
            | (go_at_call 12; refine (K5.out _ HP1.out).mono ?_; rintro e w10 ⟨A10, c10, rfl, hb10'⟩
               have hb11 := bthen HB10.out (bthen HP1.out hb10')
               clear hb10' K5)
            | (go_at_call 12; refine (K6.out _ hb11).mono ?_; rintro e w12 ⟨A12, c12, rfl, hb12'⟩
               have hb12 := bthen hb11 hb12'
               clear hb12'))
        all_goals
          have HF := hid (bthen HBE.out hb12)
          go_wp2_with fail
          go_ret
          exact ⟨by simp, HF.out⟩

end Go.Proofs.Ytdgoifnhlpjnpaa
