/-
  The credit book: Parties.
-/
import Derived.Test.YtpofhadeepgmbaaRef14
import Derived.Test.YtpofhadeepgmbaaVals14
import Derived.Test.YtpofhadeepgmbaaSortedI14
import Derived.Test.YtpofhadeepgmbaaSortI14
import Derived.Test.YtpofhadeepgmbaaPush
import Derived.Test.YtpofhadeepgmbaaIns
import Derived.Shelf.SortM.Plain
import Derived.Shelf.SortM.SortNone
import Derived.Shelf.SlIterI.Sorted
namespace Go.Proofs.Ytpofhadeepgmbaa
open Go.RowKit Go.Maps Go.Sort Go.ChangeShapes Go.WideShapes Go.ChangeAt Go.Deep
set_option linter.unusedVariables false

theorem info_pp : (Try.prog.info? 57).map (fun i => (i.zero, i.size, i.bytes)) = some (some (.agg #[.int .i64 0, .int .i64 0]), 2, 16) := by kernel_rfl

theorem sortsI (m : Nat) : AnyZI.SortsIn Try.prog Try.sortedI_ren Fence.wide m :=
  ⟨fun blk off cap ss W hH hblk hsz => callsIn_wide.2 (AnyM.slices_Sort_int Try.sortI blk off cap ss W hH hblk hsz),
   fun p cap W => callsIn_wide.2 (AnyM.slices_Sort_int_none Try.sortI p cap W)⟩

/-- The keys, sorted. -/
def srt (l : List Int) : List Int := l.mergeSort (fun x y => decide (x ≤ y))

set_option maxRecDepth 100000 in
set_option maxHeartbeats 2000000 in
theorem sortedKeys (w : World) (Bm b : Nat) (m : List (Int × Acc)) (hm : m.length * 8 ≤ 140737488351232) (hBm : Bm < w.heap.size) (hc : w.cell? ⟨Bm, 0, none⟩ = some (.map (some b))) (hM : IsMap w b kI vAcc m) :
    Calls Try.prog 32 #[.func (.func 42) #[] #[.pointer (some ⟨Bm, 0, none⟩)]] w fun e w' =>
      ∃ (v : Value) (ss : List Int), e = .returned v ∧ ss.Perm (m.map (·.1)) ∧ w'.ownsRow w.heap.size 3 1 v ss.length ((srt ss).map kI) ∧ Below w.heap.size w w' := by
  refine (callsIn_wide (n := 5)).1 ?_
  have hseq : SeqGives Fence.wide 2 Try.prog 42 #[.pointer (some ⟨Bm, 0, none⟩)] kI (fun xs => xs.Perm (m.map (·.1))) m.length w := keys_gives Fence.wide 2 trivial rfl (by omega) Bm b m w hBm hc hM
  have cS := AnyZI.sorted_in Try.sortedI Fence.wide 5 trivial trivial trivial trivial rfl (by omega) (sortsI _) (enters_of Try.func41 (by kernel_rfl) rfl) 42 #[.pointer (some ⟨Bm, 0, none⟩)] trivial (enters_of Try.func42 (by kernel_rfl) rfl) _ m.length (by unfold maxLen; omega) (by omega) w hseq
  exact cS.mono fun e w' ⟨v, ss, h1, h2, h3, _, h5⟩ => ⟨v, ss, h1, h2, h3, h5⟩

def parL (ac : List (Int × Acc)) (ss : List Int) : List Pa := ss.map (fun id => (⟨id, ((mget ac id).map (·.l)).getD 0⟩ : Pa))
theorem srt_perm (l : List Int) : (srt l).Perm l := List.mergeSort_perm _ _
theorem srt_sorted (l : List Int) : (srt l).Pairwise (fun a b => a ≤ b) := by
  have := List.pairwise_mergeSort (le := fun x y : Int => decide (x ≤ y)) (fun a b c h g => by simp only [decide_eq_true_eq] at *; omega) (fun a b => by simp only [Bool.or_eq_true, decide_eq_true_eq]; omega) l
  exact this.imp (fun h => by simpa using h)
theorem parL_eq {ac : List (Int × Acc)} {hs : List (Int × Hd)} {ps : List Pa} {hr : List Hd} (hM : RelB ac hs ps hr) {ss : List Int} (hp : ss.Perm (ac.map (·.1))) : parL ac (srt ss) = ps := by
  refine hM.pa.unique' linI ?_ ?_
  · have h1 : (parL ac (srt ss)).Perm (parL ac (ac.map (·.1))) := ((srt_perm ss).trans hp).map _
    refine h1.trans (List.Perm.of_eq ?_)
    unfold parL
    rw [List.map_map]
    refine List.map_congr_left fun q hq => ?_
    simp only [Function.comp, mget_of_mem hM.pa.nd hq]
    rfl
  · unfold parL
    rw [List.pairwise_map]
    exact (srt_sorted ss).imp (fun h => by simp [ltI]; omega)

set_option maxRecDepth 100000 in
set_option maxHeartbeats 4000000 in
theorem parties_any {n0 : Nat} {w : World} {X BA BH : Nat} {ac : List (Int × Acc)} {hs : List (Int × Hd)} {ps : List Pa} {hr : List Hd} (h : IsBook n0 w X BA BH ac hs) (hM : RelB ac hs ps hr) :
    Calls Try.prog 18 #[.pointer (some ⟨X, 0, none⟩)] w (NewRowOf enP 57 2 ps w) := by
  have hfew := hM.few
  have hA := h.cellA
  have hb1 : Below w.heap.size w (w.alloc (.cells #[.map (some BA)] 65)) := (Below.refl _ _).alloc (Nat.le_refl _) _
  have K := hid (sortedKeys (w.alloc (.cells #[.map (some BA)] 65)) w.heap.size BA ac (by omega) (by simp) (by simp) (h.alloc _).acs)
  have V := hid ((callsIn_wide (n := 6)).1 (keysCall_in Fence.wide 6 trivial rfl (some BA) w))
  obtain ⟨i0, hi, hz0, hz1, hz2⟩ := info_parts info_pp
  have HM := hid hM
  have H0 := hid h
  clear h hM
  go_enter Try.func18, Try.ntmps18
  go_wp2_with fail
  refine V.out.mono ?_
  rintro e w1 ⟨rfl, rfl⟩
  go_wp2_with fail
  refine K.out.mono ?_
  rintro e w2 ⟨v, ss, rfl, hp, hrow, hb2⟩
  have hb := bthen hb1 hb2
  have hPS := hid (parL_eq HM.out hp)
  have hln : (srt ss).length = ss.length := (srt_perm ss).length_eq
  have hss : ss.length ≤ 64 := by have := hp.length_eq; simp at this; omega
  have hget : ∀ k id, (srt ss)[k]? = some id → ∃ a, mget ac id = some a := fun k id hk => by
    have h1 : id ∈ ac.map (·.1) := (hp.mem_iff).1 ((srt_perm ss).mem_iff.1 (List.mem_of_getElem? hk))
    exact mget_key h1
  have HG := hid hget
  clear hget K V hb1 hp
  have hrow' : w2.ownsRow w.heap.size 3 1 v ss.length ((srt ss).map kI) := ownsRow_base_a hrow (by simp)
  clear hrow
  obtain ⟨A, cap, rfl, _⟩ := own_slice hrow'
  have e0 : (srt ss).map kI = (srt ss).flatMap (fun x => [kI x]) := by
    generalize srt ss = l
    induction l with
    | nil => rfl
    | cons x l ih => simp [ih]
  go_wp2_with fail
  go_loopw [3, 15] (fun v i wr => ∃ k : Nat, k ≤ ss.length ∧ i = .int .i64 k ∧ wr.ownsRow w.heap.size 57 2 v k ((parL ac ((srt ss).take k)).flatMap enP) ∧ wr.ownsRow w.heap.size 3 1 (.slice A ss.length cap) ss.length ((srt ss).map kI) ∧ Below w.heap.size w wr) (fun _ i _ => ss.length - nOf i)
  case atStart => exact ⟨0, Nat.zero_le _, rfl, World.ownsRow_nil _ _ _ _, hrow', hb⟩
  case round =>
    clear hrow' hb hb2
    obtain ⟨k, hk, rfl, hO, hrow, hb⟩ := hrel
    have hwz : w.heap.size ≤ wr.heap.size := hb.size
    by_cases hlt : k < ss.length
    · obtain ⟨x, hx⟩ : ∃ x, (srt ss)[k]? = some x := ⟨(srt ss)[k], List.getElem?_eq_getElem (by omega)⟩
      obtain ⟨a, ha⟩ := HG.out k x hx
      have HS : Hid (parL ac ((srt ss).take (k + 1)) = parL ac ((srt ss).take k) ++ [⟨x, a.l⟩]) := hid (by unfold parL; rw [List.take_add_one, hx, List.map_append]; simp [ha])
      have hrd := own_rd hrow
      rw [e0] at hrd
      obtain ⟨b, off, hAA, hbl, hcc⟩ := hrd.at_ 1 (fun _ => rfl) (by omega) hx
      subst hAA
      have q0 : wr.cell? ⟨b, off + k, none⟩ = some (.int .i64 x) := by have := hcc 0 _ rfl; simpa [kI] using this
      have h := H0.out.next hb
      have c0 := h.cellA
      have l1 := h.lookA x
      rw [show ptrOf ac x = some ⟨a.g, 0, none⟩ from by unfold ptrOf; rw [ha]; rfl] at l1
      have p0 : wr.cell? ⟨a.g, 0, none⟩ = some (.int .i64 a.l) := (h.at_ ha).cell 0
      obtain ⟨ag, al, ae⟩ := a
      simp only at p0 l1 HS
      have HO := hid hO
      have HR := hid (hrow.alloc (.cells #[.int .i64 x, .int .i64 al] 57))
      have hb3 := hid (hb.alloc hb.size (.cells #[.int .i64 x, .int .i64 al] 57))
      have HO2 := hid (hO.alloc (.cells #[.int .i64 x, .int .i64 al] 57))
      clear h ha hx hcc hrd hO hrow hb
      go_wp2_with (first
        | (at_builtin; refine wpList_push _ rfl _ _ 54 rfl w.heap.size 57 i0 _ 2 16 Try.underlying54 hi hz0 hz1 hz2 rfl (by decide) _ _ _ (by rfl) HO.out #[.int .i64 x, .int .i64 al] wr.heap.size (by simp) (by rfl) (by rfl) (by rfl) (by unfold maxLen; omega) (by omega) hwz ?_; intro v' w3 hO4 hg4))
      have hb4 := hb3.out.grown hg4 (by simp; omega) (fun k hk => (HO.out.lt k hk).1)
      have hO5 : w3.ownsRow w.heap.size 57 2 v' (k + 1) ((parL ac ((srt ss).take (k + 1))).flatMap enP) := by
        rw [HS.out, List.flatMap_append]
        simpa [enP] using hO4
      have hR5 := HR.out.kept hg4 (by
        rcases hob : (Value.slice (some ⟨b, off, none⟩) ss.length cap).ownBlock with _ | g'
        · exact .inl rfl
        · right
          intro e
          exact own_other HO2.out HR.out (by decide) hob e.symm)
      clear hO4 hg4 HO HO2 HR hb3
      go_roundw
      case rel => exact ⟨k + 1, by omega, by go_num, hO5, hR5, hb4⟩
      case measure => simp [nOf]; omega
    · have hk' : k = (srt ss).length := by omega
      have hpl : ps.length = k := by rw [← hPS.out]; unfold parL; rw [List.length_map]; omega
      rw [hk', List.take_length, hPS.out, ← hk', ← hpl] at hO
      obtain ⟨A', cap', rfl, _⟩ := own_slice hO
      have HH := hid (And.intro hO hb)
      clear hO hb hrow hk'
      go_wp2_with fail
      go_ret
      exact ⟨A', cap', rfl, HH.out.1, HH.out.2⟩

end Go.Proofs.Ytpofhadeepgmbaa
