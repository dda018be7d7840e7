/-
  Before and Behind, counted from both sides; the names of a plan's steps: plainly.
  PlanOrders: the walk.
-/
import Derived.Test.YtemhoaapapeilaaKy12
import Derived.Test.YtemhoaapapeilaaAs12
import Derived.Test.YtemhoaapapeilaaWa12
namespace Go.Proofs.Ytemhoaapapeilaa
open Go.RowKit Go.WideShapes Go.ChangeShapes Go.ChangeAt Go.Deep
set_option linter.unusedVariables false

theorem rowAt_nat (Bs : List IRow) (i : Nat) : rowAt Bs (i : Int) = ((Bs[i]?).map IRow.xs).getD [] := by
  unfold rowAt
  rw [if_pos (by omega)]
  simp
/-- All that stands before the first k steps, counted. -/
def pairN (Bs : List IRow) : Nat → Nat
  | 0 => 0
  | k + 1 => pairN Bs k + (rowAt Bs (k : Int)).length
/-- All that stands behind the first k steps, counted. -/
def hitN (Bs : List IRow) (m : Nat) : Nat → Nat
  | 0 => 0
  | k + 1 => hitN Bs m k + (hitsB Bs k m).length
theorem hitN_succ (Bs : List IRow) (m : Nat) : ∀ n, hitN Bs (m + 1) n = hitN Bs m n + ((List.range n).map fun k => (hitsR k m (rowAt Bs (m : Int))).length).sum
  | 0 => by simp [hitN]
  | n + 1 => by
    show hitN Bs (m + 1) n + (hitsB Bs n (m + 1)).length = _
    rw [hitN_succ Bs m n, List.range_succ, List.map_append, List.sum_append]
    show _ + (hitsB Bs n m ++ hitsR n m _).length = hitN Bs m n + (hitsB Bs n m).length + _
    rw [List.length_append, rowAt_nat]
    simp
    omega
theorem hitsR_len_cons (k m : Nat) (x : Int) (xs : List Int) : (hitsR k m (x :: xs)).length = (if x = (k : Int) then 1 else 0) + (hitsR k m xs).length := by
  unfold hitsR
  rw [List.length_map, List.length_map]
  by_cases e : x = (k : Int)
  · subst e; rw [List.filter_cons_of_pos (by simp)]; simp; omega
  · rw [List.filter_cons_of_neg (by simpa using e)]; simp [e]
theorem one_sum (q : Nat) : ∀ n, ((List.range n).map fun k : Nat => if (q : Int) = (k : Int) then 1 else 0).sum = if q < n then 1 else 0
  | 0 => by simp
  | n + 1 => by
    rw [List.range_succ, List.map_append, List.sum_append, one_sum q n]
    by_cases e : q = n
    · subst e; simp
    · have h2 : ¬ (q : Int) = (n : Int) := by omega
      simp only [List.map_cons, List.map_nil, List.sum_cons, List.sum_nil, if_neg h2]
      by_cases h : q < n
      · rw [if_pos h, if_pos (by omega)]; rfl
      · rw [if_neg h, if_neg (by omega)]; rfl
theorem sum_add2 (f g : Nat → Nat) : ∀ l : List Nat, (l.map fun k => f k + g k).sum = (l.map f).sum + (l.map g).sum
  | [] => rfl
  | x :: l => by simp only [List.map_cons, List.sum_cons, sum_add2 f g l]; omega
theorem hits_sum (m n : Nat) : ∀ {xs : List Int}, (∀ x ∈ xs, ∃ q : Nat, x = (q : Int) ∧ q < n) → ((List.range n).map fun k => (hitsR k m xs).length).sum = xs.length
  | [], _ => by
    have : ∀ l : List Nat, (l.map fun k => (hitsR k m []).length).sum = 0 := fun l => by
      induction l with
      | nil => rfl
      | cons x l ih => simp only [List.map_cons, List.sum_cons, ih]; simp [hitsR]
    exact this _
  | x :: xs, h => by
    obtain ⟨q, rfl, hq⟩ := h x (by simp)
    have e : (fun k => (hitsR k m ((q : Int) :: xs)).length) = fun k : Nat => (if (q : Int) = (k : Int) then 1 else 0) + (hitsR k m xs).length := funext fun k => hitsR_len_cons k m _ xs
    rw [e, sum_add2, one_sum, if_pos hq, hits_sum m n (fun y hy => h y (by simp [hy]))]
    simp; omega
theorem both_sides {Bs : List IRow} {n : Nat} (h : ∀ p, p < n → ∀ x ∈ rowAt Bs (p : Int), ∃ q : Nat, x = (q : Int) ∧ q < n) : ∀ m, m ≤ n → hitN Bs m n = pairN Bs m
  | 0, _ => by
    have : ∀ n, hitN Bs 0 n = 0 := fun n => by
      induction n with
      | zero => rfl
      | succ n ih => show hitN Bs 0 n + (hitsB Bs n 0).length = 0; rw [ih]; rfl
    exact this n
  | m + 1, hm => by
    rw [hitN_succ, both_sides h m (by omega), hits_sum m n (h m (by omega))]
    rfl
theorem hits_mem {Bs : List IRow} {k : Nat} {x : Int} : ∀ {m : Nat}, x ∈ hitsB Bs k m → ∃ i : Nat, i < m ∧ x = (i : Int) ∧ (k : Int) ∈ rowAt Bs (i : Int)
  | 0, h => by cases h
  | m + 1, h => by
    rcases List.mem_append.1 (show x ∈ hitsB Bs k m ++ hitsR k m _ from h) with h | h
    · obtain ⟨i, h1, h2, h3⟩ := hits_mem h
      exact ⟨i, by omega, h2, h3⟩
    · unfold hitsR at h
      obtain ⟨y, hy, rfl⟩ := List.mem_map.1 h
      obtain ⟨hy1, hy2⟩ := List.mem_filter.1 hy
      have : y = (k : Int) := by simpa using hy2
      subst this
      exact ⟨m, by omega, rfl, by rw [rowAt_nat]; exact hy1⟩
theorem idx_take {ds : List Nat} (hn : ds.Nodup) {k p : Nat} (h : k ∈ ds.take p) : ds.idxOf k < p := by
  obtain ⟨j, hj⟩ := List.mem_iff_getElem?.1 h
  have hjp : j < p := by have := (List.getElem?_eq_some_iff.1 hj).1; simp at this; omega
  rw [List.getElem?_take, if_pos hjp] at hj
  have hk : k ∈ ds := List.mem_of_getElem? hj
  have hlt := List.idxOf_lt_length_of_mem hk
  have h1 : ds[ds.idxOf k]? = some k := by rw [List.getElem?_eq_getElem hlt, List.getElem_idxOf hlt]
  have := (List.getElem?_inj hlt hn).1 (h1.trans hj.symm)
  omega
theorem row_lt {l : List Stp} {ds : List Nat} {Ls : List Stp} {Bs : List IRow} (h : PlG l ds Ls Bs) (ho : OrdOk (grf l) ds) {p : Nat} (hp : p < Ls.length) : ∀ x ∈ rowAt Bs (p : Int), ∃ q : Nat, x = (q : Int) ∧ q < p := by
  intro x hx
  have hd : ds[p]? = some (ds[p]'(by rw [← h.ls]; exact hp)) := List.getElem?_eq_getElem _
  obtain ⟨b, q1, r1⟩ := h.row _ _ hd
  rw [rowAt_in q1] at hx
  obtain ⟨k, hk, rfl⟩ := (r1.2 x).1 hx
  exact ⟨_, rfl, idx_take ho.nodup (ho.before _ _ hd k hk)⟩
theorem ord_map {α : Type} {l : List Stp} (hN : NamesOk l) (hA : Acy (grf l)) (f : Stp → α) : ((ordN (grf l) l.length).map fun i => f ((l[i]?).getD zeroSt)).Perm (l.map f) := by
  have h3 : l = (List.range l.length).map fun i => (l[i]?).getD zeroSt := by
    apply List.ext_getElem?
    intro i
    rw [List.getElem?_map]
    by_cases hi : i < l.length
    · rw [List.getElem?_range hi, List.getElem?_eq_getElem hi]; simp [hi]
    · rw [List.getElem?_eq_none (by omega), List.getElem?_eq_none (by simp; omega)]; rfl
  refine ((ord_perm hN hA).map _).trans ?_
  have h4 : (List.range l.length).map (fun i => f ((l[i]?).getD zeroSt)) = ((List.range l.length).map fun i => (l[i]?).getD zeroSt).map f := by rw [List.map_map]; rfl
  rw [h4, ← h3]
theorem names_perm {l Ls : List Stp} {Bs : List IRow} (hN : NamesOk l) (hA : Acy (grf l)) (h : PlG l (ordN (grf l) l.length) Ls Bs) : (Ls.map Stp.name).Perm (l.map Stp.name) := by
  have e : Ls.map Stp.name = (ordN (grf l) l.length).map fun i => ((l[i]?).getD zeroSt).name := by
    apply List.ext_getElem?
    intro p
    rw [List.getElem?_map, List.getElem?_map]
    by_cases hp : p < (ordN (grf l) l.length).length
    · obtain ⟨s, A, c, h1, h2⟩ := h.step p _ (List.getElem?_eq_getElem hp)
      rw [h2, List.getElem?_eq_getElem hp]
      simp [h1, twn]
    · rw [List.getElem?_eq_none (by rw [h.ls]; omega), List.getElem?_eq_none (by omega)]
      rfl
  rw [e]
  exact ord_map hN hA Stp.name
theorem name_once {l Ls : List Stp} {Bs : List IRow} (hN : NamesOk l) (hA : Acy (grf l)) (h : PlG l (ordN (grf l) l.length) Ls Bs) {s : Stp} (hs : s ∈ l) : kcnt (Ls.map Stp.name) s.name = 1 := by
  rw [kcnt_perm (names_perm hN hA h)]
  exact kcnt_one hN.1 (List.mem_map_of_mem hs)

end Go.Proofs.Ytemhoaapapeilaa

namespace Go.Proofs.Ytemhoaapapeilaa
open Go.RowKit Go.WideShapes Go.ChangeShapes Go.ChangeAt Go.Deep
set_option linter.unusedVariables false

/-- While PlanOrders counts. -/
structure OrS (w0 : World) (l : List Stp) (A : Option Addr) (cp G base : Nat) (nm : ByteArray) (P : Nat) (vS vB : Value) (Ls : List Stp) (Bs : List IRow) (M : Nat) (ks : List ByteArray) (ask : Int) (w : World) : Prop where
  s : AsS w0 base nm P vS vB Ls Bs ask w
  d : Blk w G 24 #[.string nm, .slice A l.length cp]
  m : IsMap w M kS vN (cntL ks)
  lo : w0.heap.size ≤ M
section
variable {w0 : World} {l : List Stp} {A : Option Addr} {cp G base : Nat} {nm : ByteArray} {P : Nat} {vS vB : Value} {Ls : List Stp} {Bs : List IRow} {M : Nat} {ks : List ByteArray} {ask : Int} {w w' : World}
theorem OrS.next (h : OrS w0 l A cp G base nm P vS vB Ls Bs M ks ask w) (hb : Below w.heap.size w w') : OrS w0 l A cp G base nm P vS vB Ls Bs M ks ask w' := ⟨h.s.next hb, h.d.next hb, h.m.next hb, h.lo⟩
theorem OrS.put (h : OrS w0 l A cp G base nm P vS vB Ls Bs M ks ask w) {a : ByteArray} (hM : IsMap w' M kS vN (mset (cntL ks) a ((mget (cntL ks) a).getD 0 + 1))) (hg : w.grownBy w' (some M)) : OrS w0 l A cp G base nm P vS vB Ls Bs M (ks ++ [a]) ask w' := by
  have hT := Touch.of_grown hg
  have no : ∀ {b0 : Nat} {e : TypeId} {size : Nat} {v : Value} {n : Nat} {xs : List Value}, w.ownsRow b0 e size v n xs → w'.ownsRow b0 e size v n xs := fun ho => own_touch ho hT (fun g hg e => h.m.notOwn ho (by rw [hg, e]))
  obtain ⟨vH, Hs, dn, q, b, c⟩ := h.s.ex
  refine ⟨⟨⟨vH, Hs, dn, ⟨hT.blk q.p (fun e => h.m.notBlk q.p e.symm), no q.os, no q.ob, fun s hs => no (q.st s hs), fun x hx => no (q.rw x hx), fun e => ?_, q.hl, q.lo⟩, b, c⟩, h.s.rows, h.s.aft, h.s.bel.trans (hT.below h.s.bel.size (fun k hk => by rw [hk]; exact h.lo)), h.s.lo⟩, hT.blk h.d (fun e => h.m.notBlk h.d e.symm), ?_, h.lo⟩
  · obtain ⟨H, q1, q2, q3, q4⟩ := q.hs e
    exact ⟨H, q1, hT.blk q2 (fun e => h.m.notBlk q2 e.symm), q3, fun x hx => no (q4 x hx)⟩
  · rw [cntL_snoc]; exact hM
theorem OrS.behind (h : OrS w0 l A cp G base nm P vS vB Ls Bs M ks ask w) (i : Int) (ha : 0 ≤ ask ∧ ask ≤ 4611686018427387904) : Calls Try.prog 14 #[.pointer (some ⟨P, 0, none⟩), .int .i64 i] w fun e w' => ∃ A' cap, e = .returned (.slice A' (behL Bs Ls.length i).length cap) ∧ Rd w' A' ((behL Bs Ls.length i).flatMap en1) ∧ OrS w0 l A cp G base nm P vS vB Ls Bs M ks (ask + 1) w' := by
  refine (h.s.behind i ha).mono ?_
  rintro e w' ⟨A', cap, rfl, hO, hS, hT⟩
  obtain ⟨vH, Hs, dn, q, b, c⟩ := h.s.ex
  exact ⟨A', cap, rfl, own_rd hO, hS, hT.blk h.d (fun e => h.d.ne_ q.p (by decide) e), hT.isMap h.m (fun e => h.m.notBlk q.p e), h.lo⟩
theorem AsS.step_nm (h : AsS w0 base nm P vS vB Ls Bs ask w) (i : Int) : Calls Try.prog 12 #[.pointer (some ⟨P, 0, none⟩), .int .i64 i] w fun e w' => ∃ v u x f r y z t, e = .returned (.agg #[.string (stepAt Ls i).name, v, u, x, f, r, y, z, t]) ∧ Below w.heap.size w w' :=
  (h.step i).mono fun e w' ⟨A0, c0, he, _, hb⟩ => ⟨_, _, _, _, _, _, _, _, he, hb⟩
end

set_option maxRecDepth 100000 in
set_option maxHeartbeats 64000000 in
theorem planOrders_walk (nm : ByteArray) (l : List Stp) (A : Option Addr) (cp : Nat) (w : World) (hR : Rd w A (l.flatMap enSt)) (hok : ∀ s ∈ l, OkSt w s) :
    Calls Try.prog 3 #[.agg #[.string nm, .slice A l.length cp]] w (Law w) := by
  have HOK := hid hok
  have HR := hid hR
  clear hok hR
  have hB0 := Blk.new w 24 #[.string nm, .slice A l.length cp]
  have hwa : Below w.heap.size w (w.alloc (.cells #[.string nm, .slice A l.length cp] 24)) := (Below.refl _ _).alloc (Nat.le_refl _) _
  obtain ⟨W, hW⟩ : ∃ W, W = w.alloc (.cells #[.string nm, .slice A l.length cp] 24) := ⟨_, rfl⟩
  obtain ⟨G, hG⟩ : ∃ G, G = w.heap.size := ⟨_, rfl⟩
  rw [← hW] at hB0 hwa
  rw [← hG] at hB0
  have HWG := hid (And.intro hW hG)
  have HB0 := hid (And.intro hB0 hwa)
  have d0 : W.cell? ⟨G, 0, none⟩ = some (.string nm) := hB0.cell 0
  have d1 : W.cell? ⟨G, 1, none⟩ = some (.slice A l.length cp) := hB0.cell 1
  have lG := hB0.lt
  clear hB0 hwa hW hG
  go_enter Try.func3, Try.ntmps3
  go_upto_region 1 with fail
  rw [← HWG.out.1, ← HWG.out.2]
  by_cases h60 : (60 : Int) < l.length
  · go_wp2_with fail
    refine (wakes12 W).mono ?_
    rintro e w2 ⟨rfl, hb⟩
    have HF := hid (bthen HB0.out.2 hb)
    clear hb d0 d1
    go_wp2_with fail
    go_ret
    exact ⟨rfl, HF.out⟩
  have hl : l.length ≤ 60 := by omega
  have KC := hid (compile_any nm l A cp W (HR.out.below HB0.out.2) (fun s hs => (HOK.out s hs).next HB0.out.2) (by omega))
  go_wp2_with fail
  refine KC.out.mono ?_
  rintro e w1 ⟨hb1, ⟨hc, rfl⟩ | ⟨hc, P, vS, vB, Ls, Bs, rfl, hp, hg⟩⟩
  · have tc : (checkN l != 0) = true := by simpa using hc
    have HF := hid (bthen HB0.out.2 hb1)
    clear hc hb1 d0 d1 lG KC
    generalize checkN l = c at tc ⊢
    go_wp2_with fail
    refine (wakes12 w1).mono ?_
    rintro e w2 ⟨rfl, hb2⟩
    have HF := hid (bthen HF.out hb2)
    clear hb2
    go_wp2_with fail
    refine (wakes12 w2).mono ?_
    rintro e w3 ⟨rfl, hb3⟩
    have HF := hid (bthen HF.out hb3)
    clear hb3
    go_wp2_with fail
    go_ret
    exact ⟨rfl, HF.out⟩
  have HC := hid (checkN_zero hc)
  have HGG := hid hg
  obtain ⟨hS, hLl⟩ := made_as (w0 := w) hc hp hg (by omega) (fun s hs => (HOK.out s hs).len) (bthen HB0.out.2 hb1) HB0.out.2.size
  have HS := hid (And.intro hS (HB0.out.1.next hb1))
  have HLl := hid hLl
  obtain ⟨base, hbase⟩ : ∃ base, base = W.heap.size := ⟨_, rfl⟩
  rw [← hbase] at HS
  clear hS hLl hp hg hb1 hc d0 d1 lG KC h60 hbase
  go_wp2_with fail
  refine (wakes12 w1).mono ?_
  rintro e w2 ⟨rfl, hb2⟩
  have HS := hid (And.intro (HS.out.1.next hb2) (HS.out.2.next hb2))
  clear hb2
  have hmm := @run_makeMap Try.prog
  go_upto_region 7 with fail
  clear hmm
  have hal : Below w2.heap.size w2 (w2.alloc (.map #[] 0)) := (Below.refl _ _).alloc (Nat.le_refl _) _
  have hS3 : OrS w l A cp G base nm P vS vB Ls Bs w2.heap.size [] 0 (w2.alloc (.map #[] 0)) := ⟨HS.out.1.next hal, HS.out.2.next hal, IsMap.made w2 kS vN, HS.out.1.bel.size⟩
  obtain ⟨w3, hw3⟩ : ∃ w3, w3 = w2.alloc (.map #[] 0) := ⟨_, rfl⟩
  obtain ⟨M, hM⟩ : ∃ M, M = w2.heap.size := ⟨_, rfl⟩
  rw [← hw3, ← hM] at hS3
  rw [← hw3, ← hM]
  have KL := hid hS3.s.len
  have HS := hid hS3
  clear hal hS3 hw3 hM
  have HROW := hid (fun (p : Nat) (hp : p < Ls.length) => row_lt HGG.out (ordN_ok _ _) hp)
  have HONE := hid (fun (s : Stp) (hs : s ∈ l) => name_once HC.out.1 HC.out.2.1 HGG.out hs)
  have HRB := hid (fun (p : Nat) (hp : p < Ls.length) => show (rowAt Bs (p : Int)).length ≤ 60 from by
    have hkb : p < Bs.length := by rw [HS.out.s.rows.len]; exact hp
    rw [rowAt_in (List.getElem?_eq_getElem hkb)]
    have h1 := rise_len (HS.out.s.rows.up _ (List.getElem_mem hkb)) (HS.out.s.rows.lt _ (List.getElem_mem hkb))
    have := HLl.out
    omega)
  have HBL := hid HS.out.s.rows.len
  obtain ⟨n, hn⟩ : ∃ n, n = Ls.length := ⟨_, rfl⟩
  have HN := hid hn
  have hnb : n ≤ 60 := by rw [hn, HLl.out]; exact hl
  rw [← hn] at KL HROW HRB HLl HBL
  have HPN := hid (show ∀ k, k ≤ n → pairN Bs k ≤ 60 * k from fun k => by
    induction k with
    | zero => intro _; simp [pairN]
    | succ k ih =>
      intro hk
      have h1 := ih (by omega)
      have h2 := HRB.out k (by omega)
      show pairN Bs k + (rowAt Bs (k : Int)).length ≤ _
      omega)
  clear hn
  go_wp2_with fail
  refine KL.out.mono ?_
  rintro e w4 ⟨rfl, rfl⟩
  clear KL
  go_wp2_with fail
  go_loopw [6, 38] (fun pr i wr => ∃ k : Nat, k ≤ n ∧ i = .int .i64 k ∧ pr = .int .i64 ((pairN Bs k : Nat) : Int) ∧ Hid (OrS w l A cp G base nm P vS vB Ls Bs M ((Ls.take k).map Stp.name) 0 wr)) (fun _ i _ => n - nOf i)
  case atStart => exact ⟨0, Nat.zero_le _, rfl, rfl, HS⟩
  case round =>
    clear HS
    obtain ⟨k, hk, rfl, rfl, HS⟩ := hrel
    by_cases hlt : k < n
    · have KS := hid (HS.out.s.step_nm (k : Int))
      have hfd := fieldN12
      obtain ⟨s, hs⟩ : ∃ s, Ls[k]? = some s := ⟨Ls[k]'(by rw [← HN.out]; exact hlt), List.getElem?_eq_getElem _⟩
      rw [stepAt_in hs] at KS
      have HTK := hid (show (Ls.take (k + 1)).map Stp.name = (Ls.take k).map Stp.name ++ [s.name] from by rw [take_succ_of hs, List.map_append]; rfl)
      generalize s.name = a at KS HTK
      clear hs s
      obtain ⟨ks, hks⟩ : ∃ ks, ks = (Ls.take k).map Stp.name := ⟨_, rfl⟩
      have hkl : ks.length ≤ 60 := by rw [hks]; simp; omega
      rw [← hks] at HS HTK
      clear hks
      have hpn := HPN.out k hk
      obtain ⟨c, hc⟩ : ∃ c : Nat, c = kcnt ks a := ⟨_, rfl⟩
      have hcb : c ≤ 60 := by rw [hc]; exact Nat.le_trans (kcnt_le ks a) hkl
      go_wp2_with fail
      refine KS.out.mono ?_
      rintro e w5 ⟨v1, v2, v3, v4, v5, v6, v7, v8, rfl, hb5⟩
      have HS5 := hid (HS.out.next hb5)
      have lk : (Instr.lookup 30 (.map (some M)) (.string a) false).run Try.prog w5 = .ok (.int .i64 (c : Int)) w5 := by
        have := HS5.out.m.look keyStr12 Try.underlying30 (zeroN _) a
        rw [looked_vN, cntL_kcnt, ← hc] at this
        exact this
      have HCC := hid (show (mget (cntL ks) a).getD 0 = (c : Int) from by rw [cntL_kcnt, hc])
      clear hb5 KS HS hc
      go_wp2_with (first
        | (at_mapUpdate; refine wpList_store _ rfl _ _ _ 30 3 rfl keyStr12 Try.underlying30 M (cntL ks) rfl HS5.out.m a ((c : Int) + 1) rfl rfl ?_; intro w6 hM6 hg6 hs6; (have HS6 := hid (HS5.out.put (a := a) (by rw [HCC.out]; exact hM6) hg6)); clear hM6 hg6 hs6 lk))
      have KB := hid (HS6.out.s.before (k : Int))
      have hrb := HRB.out k hlt
      have HRW := hid (HROW.out k hlt)
      have HPS := hid (show pairN Bs (k + 1) = pairN Bs k + (rowAt Bs (k : Int)).length from rfl)
      generalize rowAt Bs (k : Int) = xs at KB hrb HRW HPS
      refine KB.out.mono ?_
      rintro e w7 ⟨A7, c7, rfl, hO7, hb7⟩
      have HS7 := hid (HS6.out.next hb7)
      have HR7 := hid (own_rd hO7)
      clear hO7 hb7 KB HS6 HS5 hfd
      go_wp2_with fail
      go_loopw [6, 52] (fun pr i wr => ∃ j : Nat, j ≤ xs.length ∧ i = .int .i64 j ∧ pr = .int .i64 ((pairN Bs k + j : Nat) : Int) ∧ Hid (Below w7.heap.size w7 wr)) (fun _ i _ => xs.length - nOf i)
      case atStart => exact ⟨0, Nat.zero_le _, rfl, by simp, hid (Below.refl _ _)⟩
      case round =>
        obtain ⟨j, hj, rfl, rfl, HB⟩ := hrel
        by_cases hjl : j < xs.length
        · obtain ⟨x, hx⟩ : ∃ x, xs[j]? = some x := ⟨xs[j], List.getElem?_eq_getElem hjl⟩
          obtain ⟨q, rfl, hq⟩ := HRW.out x (List.mem_of_getElem? hx)
          obtain ⟨b, o, hAA, _, hcc⟩ := (HR7.out.below HB.out).at_ 1 (fun _ => rfl) (by omega) hx
          subst hAA
          have q0 : wr.cell? ⟨b, o + j * 1, none⟩ = some (.int .i64 (q : Int)) := hcc 0 _ rfl
          rw [Nat.mul_one] at q0
          obtain ⟨pn, hpn2⟩ : ∃ pn, pn = pairN Bs k + j := ⟨_, rfl⟩
          have hpb : pn ≤ 10000 := by omega
          have HPE := hid (show ((pairN Bs k + (j + 1) : Nat) : Int) = (pn : Int) + 1 from by rw [hpn2]; push_cast; omega)
          rw [← hpn2]
          clear hcc hx hpn2
          go_wp2_with fail
          go_roundw
          case rel => exact ⟨j + 1, by omega, by go_num, by rw [HPE.out], HB⟩
          case measure => simp [nOf]; omega
        · have hj' : j = xs.length := by omega
          subst hj'
          go_wp2_with fail
          go_roundw
          case rel => exact ⟨k + 1, by omega, by go_num, by rw [HPS.out], hid (by rw [HTK.out]; exact HS7.out.next HB.out)⟩
          case measure => simp [nOf]; omega
    · have hk' : k = n := by omega
      subst hk'
      obtain ⟨ks, hks⟩ : ∃ ks, ks = (Ls.take k).map Stp.name := ⟨_, rfl⟩
      have HONE := hid (fun (s : Stp) (hs : s ∈ l) => show kcnt ks s.name = 1 from by
        rw [hks, HN.out, List.take_length]
        exact HONE.out s hs)
      rw [← hks] at HS
      clear hks hlt hk
      have HS4 := hid HS.out
      obtain ⟨wq, hwq⟩ : ∃ wq, wq = wr := ⟨_, rfl⟩
      rw [← hwq] at HS HS4 ⊢
      clear hwq
      have d1 : wq.cell? ⟨G, 1, none⟩ = some (.slice A l.length cp) := HS.out.d.cell 1
      have lG := HS.out.d.lt
      obtain ⟨PR, hPR⟩ : ∃ PR, PR = pairN Bs k := ⟨_, rfl⟩
      have HPR := hid hPR
      have hprb : PR ≤ 3600 := by have := HPN.out k (Nat.le_refl _); omega
      rw [← hPR]
      clear hPR HS
      go_wp2_with fail
      go_loopw [70] (fun i wr => ∃ j : Nat, j ≤ l.length ∧ i = .int .i64 j ∧ Hid (OrS w l A cp G base nm P vS vB Ls Bs M ks 0 wr)) (fun i _ => l.length - nOf i)
      case atStart => exact ⟨0, Nat.zero_le _, rfl, HS4⟩
      case round =>
        clear HS4 d1 lG
        obtain ⟨j, hj, rfl, HS⟩ := hrel
        by_cases hjl : j < l.length
        · obtain ⟨s, hs⟩ : ∃ s, l[j]? = some s := ⟨l[j], List.getElem?_eq_getElem hjl⟩
          obtain ⟨b, o, hAA, hbs, hcc⟩ := (HR.out.below HS.out.s.bel).at_ 9 enSt_len (by omega) hs
          have HK1 := hid (HONE.out s (List.mem_of_getElem? hs))
          obtain ⟨xn, xv, xu, xe, xf, xr, xy, xw, xA, xc, xl⟩ := s
          have q0 : wr.cell? ⟨b, o + j * 9, none⟩ = some (.string xn) := hcc 0 _ rfl
          have q1 : wr.cell? ⟨b, o + j * 9 + 1, none⟩ = some (.string xv) := hcc 1 _ rfl
          have q2 : wr.cell? ⟨b, o + j * 9 + 2, none⟩ = some (.string xu) := hcc 2 _ rfl
          have q3 : wr.cell? ⟨b, o + j * 9 + 3, none⟩ = some (.string xe) := hcc 3 _ rfl
          have q4 : wr.cell? ⟨b, o + j * 9 + 4, none⟩ = some (.bool xf) := hcc 4 _ rfl
          have q5 : wr.cell? ⟨b, o + j * 9 + 5, none⟩ = some (.int .i64 xr) := hcc 5 _ rfl
          have q6 : wr.cell? ⟨b, o + j * 9 + 6, none⟩ = some (.int .i64 xy) := hcc 6 _ rfl
          have q7 : wr.cell? ⟨b, o + j * 9 + 7, none⟩ = some (.int .i64 xw) := hcc 7 _ rfl
          have q8 : wr.cell? ⟨b, o + j * 9 + 8, none⟩ = some (.slice xA xl.length xc) := hcc 8 _ rfl
          have hvb := Blk.new wr 34 #[.string xn, .string xv, .string xu, .string xe, .bool xf, .int .i64 xr, .int .i64 xy, .int .i64 xw, .slice xA xl.length xc]
          have hS3 := HS.out.next ((Below.refl _ _).alloc (Nat.le_refl _) (.cells #[.string xn, .string xv, .string xu, .string xe, .bool xf, .int .i64 xr, .int .i64 xy, .int .i64 xw, .slice xA xl.length xc] 34))
          obtain ⟨w3', hw3⟩ : ∃ w3', w3' = wr.alloc (.cells #[.string xn, .string xv, .string xu, .string xe, .bool xf, .int .i64 xr, .int .i64 xy, .int .i64 xw, .slice xA xl.length xc] 34) := ⟨_, rfl⟩
          obtain ⟨V, hV⟩ : ∃ V, V = wr.heap.size := ⟨_, rfl⟩
          rw [← hw3] at hvb hS3
          rw [← hV] at hvb
          have HW3 := hid (And.intro hw3 hV)
          have v0 : w3'.cell? ⟨V, 0, none⟩ = some (.string xn) := hvb.cell 0
          have lV := hvb.lt
          have HS3 := hid hS3
          have lk : (Instr.lookup 30 (.map (some M)) (.string xn) false).run Try.prog w3' = .ok (.int .i64 1) w3' := by
            have := hS3.m.look keyStr12 Try.underlying30 (zeroN _) xn
            rw [looked_vN, cntL_kcnt, HK1.out] at this
            exact this
          clear hvb hS3 hw3 hV hcc hs
          subst hAA
          go_upto_region 23 with fail
          rw [← HW3.out.1, ← HW3.out.2]
          clear q0 q1 q2 q3 q4 q5 q6 q7 q8
          go_wp2_with fail
          go_roundw
          case rel => exact ⟨j + 1, by omega, by go_num, HS3⟩
          case measure => simp [nOf]; omega
        · have KL := hid HS.out.s.len
          rw [← HN.out] at KL
          go_wp2_with fail
          refine KL.out.mono ?_
          rintro e w5 ⟨rfl, rfl⟩
          have HS5 := HS
          clear HS KL hj hjl
          have HHN := hid (show ∀ j, j ≤ k → hitN Bs k j ≤ PR from by
            have h1 : hitN Bs k k = PR := by rw [HPR.out]; exact both_sides (fun p hp x hx => by obtain ⟨q, h1, h2⟩ := HROW.out p hp x hx; exact ⟨q, h1, by omega⟩) k (Nat.le_refl _)
            have h2 : ∀ d j, j + d = k → hitN Bs k j ≤ hitN Bs k k := fun d => by
              induction d with
              | zero => intro j hj; simp at hj; rw [hj]; exact Nat.le_refl _
              | succ d ih =>
                intro j hj
                have := ih (j + 1) (by omega)
                have h3 : hitN Bs k (j + 1) = hitN Bs k j + (hitsB Bs j k).length := rfl
                omega
            intro j hj
            have := h2 (k - j) j (by omega)
            omega)
          have HHE := hid (show hitN Bs k k = PR from by rw [HPR.out]; exact both_sides (fun p hp x hx => by obtain ⟨q, h1, h2⟩ := HROW.out p hp x hx; exact ⟨q, h1, by omega⟩) k (Nat.le_refl _))
          clear HPR
          go_wp2_with fail
          go_loopw [6, 82] (fun pr i wr => ∃ j : Nat, j ≤ k ∧ i = .int .i64 j ∧ pr = .int .i64 ((PR - hitN Bs k j : Nat) : Int) ∧ Hid (OrS w l A cp G base nm P vS vB Ls Bs M ks (j : Int) wr)) (fun _ i _ => k - nOf i)
          case atStart => exact ⟨0, Nat.zero_le _, rfl, by simp [hitN], HS5⟩
          case round =>
            clear HS5
            obtain ⟨j, hj, rfl, rfl, HS⟩ := hrel
            have hhj := HHN.out j hj
            by_cases hjl : j < k
            · have KB := hid (HS.out.behind (j : Int) ⟨by omega, by omega⟩)
              rw [show behL Bs Ls.length (j : Int) = hitsB Bs j k from by
                have h1 : hasN Ls.length (j : Int) = true := by rw [← HN.out]; simp [hasN]; exact hjl
                unfold behL
                rw [if_pos h1, HBL.out]
                simp] at KB
              have hh1 := HHN.out (j + 1) (by omega)
              have HHS := hid (show hitN Bs k (j + 1) = hitN Bs k j + (hitsB Bs j k).length from rfl)
              rw [HHS.out] at hh1
              have HME := hid (fun (x : Int) (hx : x ∈ hitsB Bs j k) => hits_mem hx)
              generalize hitsB Bs j k = hs at KB hh1 HHS HME
              generalize hitN Bs k j = hn at hhj hh1 HHS ⊢
              go_wp2_with fail
              refine KB.out.mono ?_
              rintro e w6 ⟨A6, c6, rfl, hR6, hS6⟩
              have HR6 := hid hR6
              have HS6 := hid hS6
              clear hR6 hS6 KB HS
              go_wp2_with fail
              go_loopw [6, 89] (fun pr i wr => ∃ t : Nat, t ≤ hs.length ∧ i = .int .i64 t ∧ pr = .int .i64 ((PR - (hn + t) : Nat) : Int) ∧ Hid (Below w6.heap.size w6 wr)) (fun _ i _ => hs.length - nOf i)
              case atStart => exact ⟨0, Nat.zero_le _, rfl, by simp, hid (Below.refl _ _)⟩
              case round =>
                obtain ⟨t, ht, rfl, rfl, HB⟩ := hrel
                by_cases htl : t < hs.length
                · obtain ⟨x, hx⟩ : ∃ x, hs[t]? = some x := ⟨hs[t], List.getElem?_eq_getElem htl⟩
                  obtain ⟨m, hm, rfl, hmem⟩ := HME.out x (List.mem_of_getElem? hx)
                  obtain ⟨q, e1, hqm⟩ := HROW.out m hm _ hmem
                  have hjm : j < m := by omega
                  obtain ⟨b, o, hAA, _, hcc⟩ := (HR6.out.below HB.out).at_ 1 (fun _ => rfl) (by omega) hx
                  subst hAA
                  have q0 : wr.cell? ⟨b, o + t * 1, none⟩ = some (.int .i64 (m : Int)) := hcc 0 _ rfl
                  rw [Nat.mul_one] at q0
                  have HSx := hid (HS6.out.next HB.out)
                  have KL := hid HSx.out.s.len
                  rw [← HN.out] at KL
                  have KB := hid (HSx.out.s.before (m : Int))
                  have HMM := hid hmem
                  have hrb := HRB.out m hm
                  generalize rowAt Bs (m : Int) = xs at KB HMM hrb
                  obtain ⟨pn, hpn⟩ : ∃ pn, pn = PR - (hn + t) := ⟨_, rfl⟩
                  have hpb : 1 ≤ pn ∧ pn ≤ 3600 := by omega
                  have HPE := hid (show ((PR - (hn + (t + 1)) : Nat) : Int) = (pn : Int) - 1 from by omega)
                  rw [← hpn]
                  clear hcc hx hpn e1 hqm hmem
                  go_wp2_with fail
                  refine KL.out.mono ?_
                  rintro e w7 ⟨rfl, rfl⟩
                  clear q0 KL
                  go_wp2_with fail
                  refine KB.out.mono ?_
                  rintro e w8 ⟨A8, c8, rfl, hO8, hb8⟩
                  have HR8 := hid (own_rd hO8)
                  have HB8 := hid (bthen HB.out hb8)
                  clear hO8 hb8 KB HB HSx
                  go_wp2_with fail
                  go_loopw [15, 106] (fun fd i wr => ∃ y : Nat, y ≤ xs.length ∧ i = .int .i64 y ∧ fd = .bool ((xs.take y).any fun z => z == (j : Int)) ∧ Hid (Below w8.heap.size w8 wr)) (fun _ i _ => xs.length - nOf i)
                  case atStart => exact ⟨0, Nat.zero_le _, rfl, by simp, hid (Below.refl _ _)⟩
                  case round =>
                    obtain ⟨y, hy, rfl, rfl, HBy⟩ := hrel
                    by_cases hyl : y < xs.length
                    · obtain ⟨z, hz⟩ : ∃ z, xs[y]? = some z := ⟨xs[y], List.getElem?_eq_getElem hyl⟩
                      obtain ⟨b2, o2, hAA, _, hcc⟩ := (HR8.out.below HBy.out).at_ 1 (fun _ => rfl) (by omega) hz
                      subst hAA
                      have q0 : wr.cell? ⟨b2, o2 + y * 1, none⟩ = some (.int .i64 z) := hcc 0 _ rfl
                      rw [Nat.mul_one] at q0
                      have HTK := hid (show ((xs.take (y + 1)).any fun z => z == (j : Int)) = (((xs.take y).any fun z => z == (j : Int)) || (z == (j : Int))) from by rw [take_succ_of hz, List.any_append]; simp)
                      obtain ⟨fb, hfb⟩ : ∃ fb, fb = ((xs.take y).any fun z => z == (j : Int)) := ⟨_, rfl⟩
                      rw [← hfb] at HTK ⊢
                      clear hcc hz hfb
                      cases fb with
                      | true =>
                        go_wp2_with fail
                        go_roundw
                        case rel => exact ⟨y + 1, by omega, by go_num, by rw [HTK.out]; rfl, HBy⟩
                        case measure => simp [nOf]; omega
                      | false =>
                        go_wp2_with fail
                        go_roundw
                        case rel => exact ⟨y + 1, by omega, by go_num, by rw [HTK.out]; rfl, HBy⟩
                        case measure => simp [nOf]; omega
                    · have hy' : y = xs.length := by omega
                      subst hy'
                      rw [show ((xs.take xs.length).any fun z => z == (j : Int)) = true from by
                        rw [List.take_length, List.any_eq_true]
                        exact ⟨_, HMM.out, by simp⟩]
                      go_wp2_with fail
                      go_roundw
                      case rel => exact ⟨t + 1, by omega, by go_num, by rw [HPE.out], hid (bthen HB8.out HBy.out)⟩
                      case measure => simp [nOf]; omega
                · have ht' : t = hs.length := by omega
                  subst ht'
                  go_wp2_with fail
                  go_roundw
                  case rel => exact ⟨j + 1, by omega, by go_num, by rw [HHS.out], hid (by have := HS6.out.next HB.out; push_cast; exact this)⟩
                  case measure => simp [nOf]; omega
            · have hj' : j = k := by omega
              subst hj'
              rw [HHE.out, Nat.sub_self]
              rw [show ((0 : Nat) : Int) = 0 from rfl]
              have te : ((j : Int) == (l.length : Int)) = true := by rw [HLl.out]; simp
              obtain ⟨C, hCd⟩ : ∃ C : World → Prop, ∀ w', C w' ↔ Below wr.heap.size wr w' := ⟨_, fun _ => Iff.rfl⟩
              have hC : C wr.drew := (hCd _).2 (Below.refl _ _).drew
              have d1 : ∀ p : In C, p.w.cell? ⟨G, 1, none⟩ = some (.slice A l.length cp) := fun p => (HS.out.next ((hCd _).1 p.h)).d.cell 1
              have lG : ∀ p : In C, G < p.w.heap.size := fun p => (HS.out.next ((hCd _).1 p.h)).d.lt
              have O : Hid (∀ p : In C, Calls Try.prog 11 #[.pointer (some ⟨P, 0, none⟩)] p.w fun e w' => e = .returned (.int .i64 (j : Int)) ∧ C w') := hid (fun p => by
                have h1 := (HS.out.next ((hCd _).1 p.h)).s.len
                rw [← HN.out] at h1
                exact h1.mono fun _ _ ⟨e1, e2⟩ => ⟨e1, by rw [e2]; exact p.h⟩)
              have HCd := hid hCd
              clear hCd
              go_upto_region 45 with fail
              refine wp_region_in C (by kernel_rfl) (by kernel_rfl) hC ?_
              intro hne
              clear hC
              repeat (first | go_big_quiet_step ((go_at_call 11; exact Calls.in_of (O.out _))) | quiet_step ((go_at_call 11; exact Calls.in_of (O.out _))))
              refine wpQuiet_nil ?_
              intro wz hz
              have HF := hid (bthen HS.out.s.bel ((HCd.out _).1 hz))
              clear d1 lG O hne hz HCd HS
              go_wp2_with fail
              go_ret
              exact ⟨rfl, HF.out⟩

end Go.Proofs.Ytemhoaapapeilaa
