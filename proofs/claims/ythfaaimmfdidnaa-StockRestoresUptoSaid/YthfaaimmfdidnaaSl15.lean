/-
  The stock book: Levels.
-/
import Derived.Test.YthfaaimmfdidnaaSg15
import Derived.Test.YthfaaimmfdidnaaKeysL15
import Derived.Test.YthfaaimmfdidnaaIns
namespace Go.Proofs.Ythfaaimmfdidnaa
open Go.RowKit Go.WideShapes Go.ChangeShapes Go.ChangeAt Go.Deep
set_option linter.unusedVariables false

theorem info_lv : (Try.prog.info? 38).map (fun i => (i.zero, i.size, i.bytes)) = some (some (.agg #[.int .i64 0, .int .i64 0, .int .i64 0, .int .i64 0, .int .i64 0, .int .i64 0]), 6, 48) := by kernel_rfl
theorem mapI_flat (l : List Int) : l.map kI = l.flatMap (fun x => [kI x]) := by
  induction l with
  | nil => rfl
  | cons x l ih => simp [ih]
theorem keys_few {l : List Int} {n : Nat} (hd : l.Nodup) (h : ∀ k ∈ l, 1 ≤ k ∧ k ≤ n) : l.length ≤ n := by
  have hn : (l.map Int.toNat).Nodup := by
    refine List.pairwise_map.2 ((List.Pairwise.and_mem.1 hd).imp ?_)
    rintro a b ⟨ha, hb, hab⟩ e
    have := h a ha; have := h b hb
    omega
  have hsub : (l.map Int.toNat) ⊆ List.range' 1 n := fun x hx => by
    obtain ⟨k, hk', rfl⟩ := List.mem_map.1 hx
    have := h k hk'
    exact List.mem_range'_1.2 (by omega)
  have := List.Nodup.length_le_of_subset hn hsub
  simpa using this
def enV6 (l : Lv) : List Value := [.int .i64 l.i, .int .i64 l.r, .int .i64 l.h, .int .i64 l.a, .int .i64 l.s, .int .i64 l.t]
theorem enV6_len (l : Lv) : (enV6 l).length = 6 := rfl
def lvAt (lv : List (Int × Lv)) (id : Int) : Lv := (mget lv id).getD ⟨0, 0, 0, 0, 0, 0, 0⟩

section
variable {n0 : Nat} {w w' : World} {X BL BG : Nat} {lv : List (Int × Lv)} {gs : List (Int × Gd)}
def LevPost (lv : List (Int × Lv)) (w : World) (e : Ending) (w' : World) : Prop :=
  ∃ (A : Option Addr) (cap : Nat) (ids : List Int), e = .returned (.slice A ids.length cap) ∧ ids.Perm (lv.map (·.1)) ∧ ids.Pairwise (fun a b => a < b) ∧ w'.ownsRow w.heap.size 38 6 (.slice A ids.length cap) ids.length ((ids.map (lvAt lv)).flatMap enV6) ∧ Below w.heap.size w w'

set_option maxRecDepth 100000 in
set_option maxHeartbeats 4000000 in
theorem levels_any (h : IsBook n0 w X BL BG lv gs) (hfew : lv.length ≤ 64) :
    Calls Try.prog 14 #[.pointer (some ⟨X, 0, none⟩)] w (LevPost lv w) := by
  have hA := h.cellL
  have hnd := h.lvs.nodup
  have hb1 : Below w.heap.size w (w.alloc (.cells #[.map (some BL)] 71)) := (Below.refl _ _).alloc (Nat.le_refl _) _
  have K := hid (sortedKeysL (w.alloc (.cells #[.map (some BL)] 71)) w.heap.size BL lv (by omega) (by simp) (by simp) (h.alloc _).lvs)
  have V := hid ((callsIn_wide (n := 6)).1 (keysCall_inL Fence.wide 6 trivial rfl (some BL) w))
  obtain ⟨i0, hi, hz0, hz1, hz2⟩ := info_parts info_lv
  have H0 := hid h
  have HND := hid hnd
  clear h hnd
  go_enter Try.func14, Try.ntmps14
  go_wp2_with fail
  refine V.out.mono ?_
  rintro e w1 ⟨rfl, rfl⟩
  go_wp2_with fail
  refine K.out.mono ?_
  rintro e w2 ⟨v, ss, rfl, hp, hrow, hb2⟩
  have hb := bthen hb1 hb2
  have hln : (srt ss).length = ss.length := (srt_perm ss).length_eq
  have hss : ss.length ≤ 64 := by have := hp.length_eq; simp at this; omega
  have HPM := hid ((srt_perm ss).trans hp)
  have HRS := hid (srt_rise (hp.nodup_iff.2 HND.out))
  clear K V hb1 hp
  have hrow' : w2.ownsRow w.heap.size 3 1 v ss.length ((srt ss).map kI) := ownsRow_low hrow (by simp)
  clear hrow
  obtain ⟨A, cap, rfl, _⟩ := own_slice hrow'
  have e0 := mapI_flat (srt ss)
  go_wp2_with fail
  go_loopw [3, 15] (fun v i wr => ∃ k : Nat, k ≤ ss.length ∧ i = .int .i64 k ∧ wr.ownsRow w.heap.size 38 6 v k ((((srt ss).take k).map (lvAt lv)).flatMap enV6) ∧ wr.ownsRow w.heap.size 3 1 (.slice A ss.length cap) ss.length ((srt ss).map kI) ∧ Below w.heap.size w wr) (fun _ i _ => ss.length - nOf i)
  case atStart => exact ⟨0, Nat.zero_le _, rfl, World.ownsRow_nil _ _ _ _, hrow', hb⟩
  case round =>
    clear hrow' hb hb2
    obtain ⟨k, hk, rfl, hO, hrow, hb⟩ := hrel
    have hwz : w.heap.size ≤ wr.heap.size := hb.size
    by_cases hlt : k < ss.length
    · obtain ⟨x, hx⟩ : ∃ x, (srt ss)[k]? = some x := ⟨(srt ss)[k], List.getElem?_eq_getElem (by omega)⟩
      obtain ⟨a, ha⟩ := mget_key (HPM.out.mem_iff.1 (List.mem_of_getElem? hx))
      have HS : Hid (((srt ss).take (k + 1)).map (lvAt lv) = ((srt ss).take k).map (lvAt lv) ++ [a]) := hid (by rw [List.take_add_one, hx, List.map_append]; simp [lvAt, ha])
      have hrd := own_rd hrow
      rw [e0] at hrd
      obtain ⟨b, off, hAA, hbl, hcc⟩ := hrd.at_ 1 (fun _ => rfl) (by omega) hx
      subst hAA
      have q0 : wr.cell? ⟨b, off + k, none⟩ = some (.int .i64 x) := by have := hcc 0 _ rfl; simpa [kI] using this
      have h := H0.out.next hb
      have c0 := h.cellL
      have l1 : (Instr.lookup 71 (.map (some BL)) (.int .i64 x) false).run Try.prog wr = .ok (.pointer (some ⟨a.g, 0, none⟩)) wr := by
        have := h.lookL x
        rw [show ptrL lv x = some ⟨a.g, 0, none⟩ from by unfold ptrL; rw [ha]; rfl] at this
        exact this
      have hB := h.atL ha
      have g0 : wr.cell? ⟨a.g, 0, none⟩ = some (.int .i64 a.i) := hB.cell 0
      have g1 : wr.cell? ⟨a.g, 1, none⟩ = some (.int .i64 a.r) := hB.cell 1
      have g2 : wr.cell? ⟨a.g, 2, none⟩ = some (.int .i64 a.h) := hB.cell 2
      have g3 : wr.cell? ⟨a.g, 3, none⟩ = some (.int .i64 a.a) := hB.cell 3
      have g4 : wr.cell? ⟨a.g, 4, none⟩ = some (.int .i64 a.s) := hB.cell 4
      have g5 : wr.cell? ⟨a.g, 5, none⟩ = some (.int .i64 a.t) := hB.cell 5
      have HO := hid hO
      have HR := hid (hrow.alloc (.cells #[.int .i64 a.i, .int .i64 a.r, .int .i64 a.h, .int .i64 a.a, .int .i64 a.s, .int .i64 a.t] 38))
      have hb3 := hid (hb.alloc hb.size (.cells #[.int .i64 a.i, .int .i64 a.r, .int .i64 a.h, .int .i64 a.a, .int .i64 a.s, .int .i64 a.t] 38))
      have HO2 := hid (hO.alloc (.cells #[.int .i64 a.i, .int .i64 a.r, .int .i64 a.h, .int .i64 a.a, .int .i64 a.s, .int .i64 a.t] 38))
      clear h hx hcc hrd hO hrow hb hB ha
      go_wp2_with (first
        | (at_builtin; refine wpList_push _ rfl _ _ 35 rfl w.heap.size 38 i0 _ 6 48 Try.underlying35 hi hz0 hz1 hz2 rfl (by decide) _ _ _ (by rfl) HO.out #[.int .i64 a.i, .int .i64 a.r, .int .i64 a.h, .int .i64 a.a, .int .i64 a.s, .int .i64 a.t] wr.heap.size (by simp) (by rfl) (by rfl) (by rfl) (by unfold maxLen; omega) (by omega) hwz ?_; intro v' w3 hO4 hg4))
      have hb4 := hb3.out.grown hg4 (by simp; omega) (fun k hk => (HO.out.lt k hk).1)
      have hO5 : w3.ownsRow w.heap.size 38 6 v' (k + 1) ((((srt ss).take (k + 1)).map (lvAt lv)).flatMap enV6) := by
        rw [HS.out, List.flatMap_append]
        simpa [enV6] using hO4
      have hR5 := HR.out.kept hg4 (by
        rcases hob : (Value.slice (some ⟨b, off, none⟩) ss.length cap).ownBlock with _ | g'
        · exact .inl rfl
        · right
          intro e
          exact own_other HO2.out HR.out (by decide) hob e.symm)
      clear hO4 hg4 HO HO2 HR hb3 g0 g1 g2 g3 g4 g5
      go_roundw
      case rel => exact ⟨k + 1, by omega, by go_num, hO5, hR5, hb4⟩
      case measure => simp [nOf]; omega
    · have hk' : k = (srt ss).length := by omega
      rw [hk', List.take_length] at hO
      obtain ⟨A', cap', rfl, _⟩ := own_slice hO
      have HH := hid (And.intro hO hb)
      clear hO hb hrow
      subst hk'
      go_wp2_with fail
      go_ret
      exact ⟨A', cap', srt ss, rfl, HPM.out, HRS.out, HH.out.1, HH.out.2⟩
end

end Go.Proofs.Ythfaaimmfdidnaa
