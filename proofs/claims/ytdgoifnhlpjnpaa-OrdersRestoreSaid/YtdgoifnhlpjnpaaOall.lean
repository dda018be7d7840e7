/-
  The orders' book: Items, All.
-/
import Derived.Test.YtdgoifnhlpjnpaaOg
import Derived.Test.YtdgoifnhlpjnpaaKeysP
import Derived.Test.YtdgoifnhlpjnpaaKeysO
import Derived.Test.YtdgoifnhlpjnpaaIns
namespace Go.Proofs.Ytdgoifnhlpjnpaa
open Go.RowKit Go.WideShapes Go.ChangeShapes Go.ChangeAt Go.Deep
set_option linter.unusedVariables false

theorem info_it : (Try.prog.info? 44).map (fun i => (i.zero, i.size, i.bytes)) = some (some (.agg #[.int .i64 0, .int .i64 0]), 2, 16) := by kernel_rfl
theorem info_od : (Try.prog.info? 35).map (fun i => (i.zero, i.size, i.bytes)) = some (some zO, 6, 72) := by kernel_rfl
theorem keys_few {l : List Int} {n : Nat} (hd : l.Nodup) (h : ∀ k ∈ l, 1 ≤ k ∧ k ≤ n) : l.length ≤ n := by
  have hn : (l.map Int.toNat).Nodup := by
    refine List.pairwise_map.2 ((List.Pairwise.and_mem.1 hd).imp ?_)
    rintro a b ⟨ha, hb, hab⟩ e
    have := h a ha; have := h b hb
    omega
  have hsub : (l.map Int.toNat) ⊆ List.range' 1 n := fun x hx => by
    obtain ⟨k, hk', rfl⟩ := List.mem_map.1 hx
    have := h k hk'
    exact List.mem_range'_1.2 (by omega)
  have := List.Nodup.length_le_of_subset hn hsub
  simpa using this
theorem mapI_flat (l : List Int) : l.map kI = l.flatMap (fun x => [kI x]) := by
  induction l with
  | nil => rfl
  | cons x l ih => simp [ih]

def itL (pr : List (Int × Int)) (ids : List Int) : List (Int × Int) := ids.map fun id => (id, (mget pr id).getD 0)
def enO6 (o : Od) : List Value := [.int .i64 o.i, .int .i64 o.c, .string o.f, .slice (some ⟨o.b, 0, none⟩) o.ls.length o.cap, .int .i64 o.n, .int .i64 o.t]
theorem enO6_len (o : Od) : (enO6 o).length = 6 := rfl
/-- An order without the place of its lines. -/
def bare (o : Od) : Od := ⟨o.i, o.c, o.f, 0, 0, o.ls, o.n, o.t⟩
def odAt (os : List (Int × Od)) (id : Int) : Od := (mget os id).getD ⟨0, 0, ByteArray.empty, 0, 0, [], 0, 0⟩

section
variable {n0 : Nat} {w w' : World} {X BP BO : Nat} {pr : List (Int × Int)} {os : List (Int × Od)}

def ItemsPost (pr : List (Int × Int)) (w : World) (e : Ending) (w' : World) : Prop :=
  ∃ (A : Option Addr) (cap : Nat) (ids : List Int), e = .returned (.slice A ids.length cap) ∧ ids.Perm (pr.map (·.1)) ∧ ids.Pairwise (fun a b => a < b) ∧ w'.ownsRow w.heap.size 44 2 (.slice A ids.length cap) ids.length ((itL pr ids).flatMap en2) ∧ Below w.heap.size w w'

set_option maxRecDepth 100000 in
set_option maxHeartbeats 4000000 in
theorem items_any (h : IsBook n0 w X BP BO pr os) (hfew : pr.length ≤ 64) :
    Calls Try.prog 16 #[.pointer (some ⟨X, 0, none⟩)] w (ItemsPost pr w) := by
  have hA := h.cellP
  have hnd := h.prs.nodup
  have hb1 : Below w.heap.size w (w.alloc (.cells #[.map (some BP)] 40)) := (Below.refl _ _).alloc (Nat.le_refl _) _
  have K := hid (sortedKeysP (w.alloc (.cells #[.map (some BP)] 40)) w.heap.size BP pr (by omega) (by simp) (by simp) (h.alloc _).prs)
  have V := hid ((callsIn_wide (n := 6)).1 (keysCall_inP Fence.wide 6 trivial rfl (some BP) w))
  obtain ⟨i0, hi, hz0, hz1, hz2⟩ := info_parts info_it
  have H0 := hid h
  have HND := hid hnd
  clear h hnd
  go_enter Try.func16, Try.ntmps16
  go_wp2_with fail
  refine V.out.mono ?_
  rintro e w1 ⟨rfl, rfl⟩
  go_wp2_with fail
  refine K.out.mono ?_
  rintro e w2 ⟨v, ss, rfl, hp, hrow, hb2⟩
  have hb := bthen hb1 hb2
  have hln : (srt ss).length = ss.length := (srt_perm ss).length_eq
  have hss : ss.length ≤ 64 := by have := hp.length_eq; simp at this; omega
  have HPM := hid ((srt_perm ss).trans hp)
  have HRS := hid (srt_rise (hp.nodup_iff.2 HND.out))
  clear K V hb1 hp
  have hrow' : w2.ownsRow w.heap.size 3 1 v ss.length ((srt ss).map kI) := ownsRow_low hrow (by simp)
  clear hrow
  obtain ⟨A, cap, rfl, _⟩ := own_slice hrow'
  have e0 := mapI_flat (srt ss)
  go_wp2_with fail
  go_loopw [3, 15] (fun v i wr => ∃ k : Nat, k ≤ ss.length ∧ i = .int .i64 k ∧ wr.ownsRow w.heap.size 44 2 v k ((itL pr ((srt ss).take k)).flatMap en2) ∧ wr.ownsRow w.heap.size 3 1 (.slice A ss.length cap) ss.length ((srt ss).map kI) ∧ Below w.heap.size w wr) (fun _ i _ => ss.length - nOf i)
  case atStart => exact ⟨0, Nat.zero_le _, rfl, World.ownsRow_nil _ _ _ _, hrow', hb⟩
  case round =>
    clear hrow' hb hb2
    obtain ⟨k, hk, rfl, hO, hrow, hb⟩ := hrel
    have hwz : w.heap.size ≤ wr.heap.size := hb.size
    by_cases hlt : k < ss.length
    · obtain ⟨x, hx⟩ : ∃ x, (srt ss)[k]? = some x := ⟨(srt ss)[k], List.getElem?_eq_getElem (by omega)⟩
      obtain ⟨pv, hpv⟩ : ∃ pv, pv = (mget pr x).getD 0 := ⟨_, rfl⟩
      have HS : Hid (itL pr ((srt ss).take (k + 1)) = itL pr ((srt ss).take k) ++ [(x, pv)]) := hid (by unfold itL; rw [List.take_add_one, hx, List.map_append, hpv]; rfl)
      have hrd := own_rd hrow
      rw [e0] at hrd
      obtain ⟨b, off, hAA, hbl, hcc⟩ := hrd.at_ 1 (fun _ => rfl) (by omega) hx
      subst hAA
      have q0 : wr.cell? ⟨b, off + k, none⟩ = some (.int .i64 x) := by have := hcc 0 _ rfl; simpa [kI] using this
      have h := H0.out.next hb
      have c0 := h.cellP
      have l1 : (Instr.lookup 40 (.map (some BP)) (.int .i64 x) false).run Try.prog wr = .ok (.int .i64 pv) wr := by
        have := h.prs.look keyL Try.underlying40 (zeroI _) x
        rw [show looked (kI 0) kI pr x = .int .i64 pv from by unfold looked; rw [hpv]; cases mget pr x <;> rfl] at this
        exact this
      have HO := hid hO
      have HR := hid (hrow.alloc (.cells #[.int .i64 x, .int .i64 pv] 44))
      have hb3 := hid (hb.alloc hb.size (.cells #[.int .i64 x, .int .i64 pv] 44))
      have HO2 := hid (hO.alloc (.cells #[.int .i64 x, .int .i64 pv] 44))
      clear h hx hcc hrd hO hrow hb hpv
      go_wp2_with (first
        | (at_builtin; refine wpList_push _ rfl _ _ 41 rfl w.heap.size 44 i0 _ 2 16 Try.underlying41 hi hz0 hz1 hz2 rfl (by decide) _ _ _ (by rfl) HO.out #[.int .i64 x, .int .i64 pv] wr.heap.size (by simp) (by rfl) (by rfl) (by rfl) (by unfold maxLen; omega) (by omega) hwz ?_; intro v' w3 hO4 hg4))
      have hb4 := hb3.out.grown hg4 (by simp; omega) (fun k hk => (HO.out.lt k hk).1)
      have hO5 : w3.ownsRow w.heap.size 44 2 v' (k + 1) ((itL pr ((srt ss).take (k + 1))).flatMap en2) := by
        rw [HS.out, List.flatMap_append]
        simpa [en2] using hO4
      have hR5 := HR.out.kept hg4 (by
        rcases hob : (Value.slice (some ⟨b, off, none⟩) ss.length cap).ownBlock with _ | g'
        · exact .inl rfl
        · right
          intro e
          exact own_other HO2.out HR.out (by decide) hob e.symm)
      clear hO4 hg4 HO HO2 HR hb3
      go_roundw
      case rel => exact ⟨k + 1, by omega, by go_num, hO5, hR5, hb4⟩
      case measure => simp [nOf]; omega
    · have hk' : k = (srt ss).length := by omega
      rw [hk', List.take_length] at hO
      obtain ⟨A', cap', rfl, _⟩ := own_slice hO
      have HH := hid (And.intro hO hb)
      clear hO hb hrow
      subst hk'
      go_wp2_with fail
      go_ret
      exact ⟨A', cap', srt ss, rfl, HPM.out, HRS.out, HH.out.1, HH.out.2⟩

theorem LnRow.next {base b cap : Nat} {ls : List Ln} (h : LnRow base w b cap ls) (hb : Below w.heap.size w w') : LnRow base w' b cap ls :=
  ⟨h.own.kept (grown_of_below hb none) (by cases hv : (Value.slice (some ⟨b, 0, none⟩) ls.length cap).ownBlock <;> simp)⟩

def AllPost (os : List (Int × Od)) (w : World) (e : Ending) (w' : World) : Prop :=
  ∃ (A : Option Addr) (cap : Nat) (ids : List Int) (l : List Od), e = .returned (.slice A l.length cap) ∧ l.length = ids.length ∧ ids.Perm (os.map (·.1)) ∧ ids.Pairwise (fun a b => a < b) ∧ l.map bare = ids.map (fun id => bare (odAt os id)) ∧
    w'.ownsRow w.heap.size 35 6 (.slice A l.length cap) l.length (l.flatMap enO6) ∧ (∀ o ∈ l, LnRow w.heap.size w' o.b o.cap o.ls) ∧ Below w.heap.size w w'
/-- The same, and no two orders have their lines in one block. -/
def AllDist (os : List (Int × Od)) (w : World) (e : Ending) (w' : World) : Prop :=
  ∃ (A : Option Addr) (cap : Nat) (ids : List Int) (l : List Od), e = .returned (.slice A l.length cap) ∧ l.length = ids.length ∧ ids.Perm (os.map (·.1)) ∧ ids.Pairwise (fun a b => a < b) ∧ l.map bare = ids.map (fun id => bare (odAt os id)) ∧
    w'.ownsRow w.heap.size 35 6 (.slice A l.length cap) l.length (l.flatMap enO6) ∧ (∀ o ∈ l, LnRow w.heap.size w' o.b o.cap o.ls) ∧ l.Pairwise (fun a b => a.b ≠ b.b) ∧ Below w.heap.size w w'

set_option maxRecDepth 100000 in
set_option maxHeartbeats 4000000 in
theorem all_dist (h : IsBook n0 w X BP BO pr os) (hfew : os.length ≤ 256) (hq : ∀ p ∈ os, 1 ≤ p.2.ls.length ∧ p.2.ls.length ≤ 4) :
    Calls Try.prog 12 #[.pointer (some ⟨X, 0, none⟩)] w (AllDist os w) := by
  have hA := h.cellO
  have hnd := h.ods.nodup
  have hb1 : Below w.heap.size w (w.alloc (.cells #[.map (some BO)] 72)) := (Below.refl _ _).alloc (Nat.le_refl _) _
  have K := hid (sortedKeysO (w.alloc (.cells #[.map (some BO)] 72)) w.heap.size BO os (by omega) (by simp) (by simp) (h.alloc _).ods)
  have V := hid ((callsIn_wide (n := 6)).1 (keysCall_inO Fence.wide 6 trivial rfl (some BO) w))
  obtain ⟨i0, hi, hz0, hz1, hz2⟩ := info_parts info_od
  have H0 := hid h
  have HND := hid hnd
  have HQ := hid hq
  clear h hnd hq
  go_enter Try.func12, Try.ntmps12
  go_wp2_with fail
  refine V.out.mono ?_
  rintro e w1 ⟨rfl, rfl⟩
  go_wp2_with fail
  refine K.out.mono ?_
  rintro e w2 ⟨v, ss, rfl, hp, hrow, hb2⟩
  have hb := bthen hb1 hb2
  have hln : (srt ss).length = ss.length := (srt_perm ss).length_eq
  have hss : ss.length ≤ 256 := by have := hp.length_eq; simp at this; omega
  have HPM := hid ((srt_perm ss).trans hp)
  have HRS := hid (srt_rise (hp.nodup_iff.2 HND.out))
  clear K V hb1 hp
  have hrow' : w2.ownsRow w.heap.size 3 1 v ss.length ((srt ss).map kI) := ownsRow_low hrow (by simp)
  clear hrow
  obtain ⟨A, cap, rfl, _⟩ := own_slice hrow'
  have e0 := mapI_flat (srt ss)
  go_wp2_with fail
  go_loopw [3, 15] (fun v i wr => ∃ (k : Nat) (l : List Od), k ≤ ss.length ∧ i = .int .i64 k ∧ l.length = k ∧ Hid (l.map bare = ((srt ss).take k).map (fun id => bare (odAt os id))) ∧ wr.ownsRow w.heap.size 35 6 v k (l.flatMap enO6) ∧ Hid (∀ o ∈ l, LnRow w.heap.size wr o.b o.cap o.ls) ∧ Hid (l.Pairwise (fun a b => a.b ≠ b.b)) ∧ wr.ownsRow w.heap.size 3 1 (.slice A ss.length cap) ss.length ((srt ss).map kI) ∧ Below w.heap.size w wr) (fun _ i _ => ss.length - nOf i)
  case atStart => exact ⟨0, [], Nat.zero_le _, rfl, rfl, hid rfl, World.ownsRow_nil _ _ _ _, hid (fun o ho => by cases ho), hid List.Pairwise.nil, hrow', hb⟩
  case round =>
    clear hrow' hb hb2
    obtain ⟨k, l, hk, rfl, hll, hbare, hO, hL, hD, hrow, hb⟩ := hrel
    have HLL := hid hll
    clear hll
    by_cases hlt : k < ss.length
    · obtain ⟨x, hx⟩ : ∃ x, (srt ss)[k]? = some x := ⟨(srt ss)[k], List.getElem?_eq_getElem (by omega)⟩
      have hin : x ∈ os.map (·.1) := HPM.out.mem_iff.1 (List.mem_of_getElem? hx)
      obtain ⟨o, ho⟩ := mget_key hin
      have HS : Hid (((srt ss).take (k + 1)).map (fun id => bare (odAt os id)) = ((srt ss).take k).map (fun id => bare (odAt os id)) ++ [bare o]) := hid (by rw [List.take_add_one, hx, List.map_append]; simp [odAt, ho])
      have hrd := own_rd hrow
      rw [e0] at hrd
      obtain ⟨b, off, hAA, hbl, hcc⟩ := hrd.at_ 1 (fun _ => rfl) (by omega) hx
      subst hAA
      have q0 : wr.cell? ⟨b, off + k, none⟩ = some (.int .i64 x) := by have := hcc 0 _ rfl; simpa [kI] using this
      have h := H0.out.next hb
      have c0 := h.cellO
      have l1 : (Instr.lookup 72 (.map (some BO)) (.int .i64 x) false).run Try.prog wr = .ok (enO o) wr := by
        have := h.ods.look keyL Try.underlying72 (zeroO _) x
        rw [show looked zO enO os x = enO o from by unfold looked; rw [ho]] at this
        exact this
      have hol := HQ.out _ (mget_mem ho)
      simp only at hol
      have K := twin_some o wr (h.lns _ (mget_mem ho)).1 hol.1 hol.2
      obtain ⟨oi, oc, of, ob, ocp, ols, on, ot⟩ := o
      simp only [enO] at l1 K
      replace K := hid K
      have HH := hid (And.intro hO (And.intro hrow hb))
      clear h hx hcc hrd hO hrow hb ho hin
      go_wp2_with fail
      refine K.out.mono ?_
      rintro e w7 ⟨b7, cp7, rfl, hL7, hb7⟩
      obtain ⟨hO, hrow, hb⟩ := HH.out
      have hL' := hid (fun o ho => (hL.out o ho).next hb7)
      have hD7 := hid (fun (o : Od) (ho : o ∈ l) => (show b7 ≠ o.b from fun e => by
        have h1 := (hL7.own.lt b7 rfl).1
        have h2 := ((hL.out o ho).own.lt o.b rfl).2
        omega))
      have hLo := hid (ownsRow_low hL7.own hb.size)
      replace hO := hO.kept (grown_of_below hb7 none) (by cases hv : u3.ownBlock <;> simp)
      replace hrow := hrow.kept (grown_of_below hb7 none) (by cases hv : (Value.slice (some ⟨b, off, none⟩) ss.length cap).ownBlock <;> simp)
      replace hb := bthen hb hb7
      have hwz : w.heap.size ≤ w7.heap.size := hb.size
      have HO := hid hO
      have HR := hid (hrow.alloc (.cells #[.int .i64 oi, .int .i64 oc, .string of, .slice (some ⟨b7, 0, none⟩) ols.length cp7, .int .i64 on, .int .i64 ot] 35))
      have hb3 := hid (hb.alloc hb.size (.cells #[.int .i64 oi, .int .i64 oc, .string of, .slice (some ⟨b7, 0, none⟩) ols.length cp7, .int .i64 on, .int .i64 ot] 35))
      have HO2 := hid (hO.alloc (.cells #[.int .i64 oi, .int .i64 oc, .string of, .slice (some ⟨b7, 0, none⟩) ols.length cp7, .int .i64 on, .int .i64 ot] 35))
      clear hO hrow hb hL7 hb7 K HH q0 c0 l1
      go_wp2_with (first
        | (at_builtin; refine wpList_push _ rfl _ _ 31 rfl w.heap.size 35 i0 _ 6 72 Try.underlying31 hi hz0 hz1 hz2 rfl (by decide) _ _ _ (by rfl) HO.out #[.int .i64 oi, .int .i64 oc, .string of, .slice (some ⟨b7, 0, none⟩) ols.length cp7, .int .i64 on, .int .i64 ot] w7.heap.size (by simp) (by rfl) (by rfl) (by rfl) (by unfold maxLen; omega) (by omega) hwz ?_; intro v' w3 hO4 hg4))
      have hb4 := hb3.out.grown hg4 (by simp; omega) (fun k hk => (HO.out.lt k hk).1)
      have hO5 : w3.ownsRow w.heap.size 35 6 v' (k + 1) ((l ++ [(⟨oi, oc, of, b7, cp7, ols, on, ot⟩ : Od)]).flatMap enO6) := by
        rw [List.flatMap_append]
        simpa [enO6] using hO4
      have hR5 := HR.out.kept hg4 (by
        rcases hob : (Value.slice (some ⟨b, off, none⟩) ss.length cap).ownBlock with _ | g'
        · exact .inl rfl
        · right
          intro e
          exact own_other HO2.out HR.out (by decide) hob e.symm)
      have hal : ∀ {b cap : Nat} {ls : List Ln}, w7.ownsRow w.heap.size 47 2 (.slice (some ⟨b, 0, none⟩) ls.length cap) ls.length (ls.flatMap enL) → LnRow w.heap.size w3 b cap ls := fun {b cap ls} hOo =>
        ⟨(hOo.alloc _).kept hg4 (.inr (fun e => own_other HO2.out (hOo.alloc _) (by decide) rfl e.symm))⟩
      have hL5 : ∀ o ∈ l ++ [(⟨oi, oc, of, b7, cp7, ols, on, ot⟩ : Od)], LnRow w.heap.size w3 o.b o.cap o.ls := fun o ho => by
        rcases List.mem_append.1 ho with ho | ho
        · exact hal (hL'.out o ho).own
        · simp at ho; subst ho; exact hal hLo.out
      have hbr : (l ++ [(⟨oi, oc, of, b7, cp7, ols, on, ot⟩ : Od)]).map bare = ((srt ss).take (k + 1)).map (fun id => bare (odAt os id)) := by
        rw [HS.out, List.map_append, hbare.out]; rfl
      replace hL5 := hid hL5
      have hD5 := hid (show (l ++ [(⟨oi, oc, of, b7, cp7, ols, on, ot⟩ : Od)]).Pairwise (fun a b => a.b ≠ b.b) from List.pairwise_append.2 ⟨hD.out, List.pairwise_singleton _ _, fun a ha b hb => by
        simp only [List.mem_singleton] at hb
        subst hb
        exact (hD7.out a ha).symm⟩)
      replace hbr := hid hbr
      clear hO4 hg4 HO HO2 HR hb3 hal hL' hLo
      go_roundw
      case rel => exact ⟨k + 1, _, by omega, by go_num, by rw [List.length_append, HLL.out]; rfl, hbr, hO5, hL5, hD5, hR5, hb4⟩
      case measure => simp [nOf]; omega
    · have hk' : k = (srt ss).length := by omega
      have hbb := hbare.out
      rw [hk', List.take_length] at hbb
      obtain ⟨A', cap', rfl, _⟩ := own_slice hO
      have hkl : k = l.length := HLL.out.symm
      rw [hkl] at hO
      have HH := hid (And.intro hO hb)
      have HBB := hid hbb
      have HLS := hid (show l.length = (srt ss).length from by omega)
      clear hO hb hrow hbb hk'
      subst hkl
      go_wp2_with fail
      go_ret
      exact ⟨A', cap', srt ss, l, rfl, HLS.out, HPM.out, HRS.out, HBB.out, HH.out.1, hL.out, hD.out, HH.out.2⟩

theorem all_any (h : IsBook n0 w X BP BO pr os) (hfew : os.length ≤ 256) (hq : ∀ p ∈ os, 1 ≤ p.2.ls.length ∧ p.2.ls.length ≤ 4) :
    Calls Try.prog 12 #[.pointer (some ⟨X, 0, none⟩)] w (AllPost os w) :=
  (all_dist h hfew hq).mono fun _ _ ⟨A, cap, ids, l, h1, h2, h3, h4, h5, h6, h7, _, h8⟩ => ⟨A, cap, ids, l, h1, h2, h3, h4, h5, h6, h7, h8⟩
end

end Go.Proofs.Ytdgoifnhlpjnpaa
