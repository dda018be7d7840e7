/-
  The ledger: Sums, Balance.
-/
import Derived.Test.YthdmbbfppgenlaaGreatLed
import Derived.Test.YthdmbbfppgenlaaGreatLedOrd
import Derived.Test.YthdmbbfppgenlaaGreatOwn
import Derived.Test.YthdmbbfppgenlaaGreatSort
namespace Go.Proofs.YthdmbbfppgenlaaGreat
open Go.RowKit Go.WideShapes Go.ChangeShapes Go.ChangeAt Go.Deep
set_option linter.unusedVariables false

def SortsL : Prop := SortsAt Tryz.prog 43 (.func (.func 65) #[] #[]) enS 3 lt2S

theorem led_len {m : LMap} {f : Fn} {d : Int} (hm : (m.map (·.1)).Nodup) (hL : Led m f) (hI : LInv f d) : m.length ≤ 384 := by
  have h1 := (canon_perm hL hI hm).length_eq
  have h2 := canon_le f
  simp at h1
  omega

set_option maxRecDepth 100000 in
set_option maxHeartbeats 4000000 in
theorem lsums_any (hS : SortsL) {X B : Nat} {f : Fn} {d : Int} (w : World) (h : IsLed w X B f d) :
    Calls Tryz.prog 61 #[.pointer (some ⟨X, 0, none⟩)] w (NewRowOf enS 86 3 (canon f) w) := by
  have hc : w.cell? ⟨X, 0, none⟩ = some (.map (some B)) := h.blk.cell 0
  obtain ⟨m, hM, hL⟩ := h.map
  have hml := led_len hM.nodup hL h.inv
  have hfin := hid (fun (l : List Sm) (hp : l.Perm (m.map toS)) (hs : l.Pairwise (fun a b => lt2S b a = false)) => canon_unique hL h.inv hM.nodup hp (hs.imp (fun {a b} (hab : lt2S b a = false) => by rw [lt2S_eq] at hab; exact hab)))
  obtain ⟨i0, hi, hz0, hz1, hz2⟩ := info_parts info_sm
  clear hL h
  go_enter Tryz.func61, Tryz.ntmps61
  go_wp2_with (at_range; refine wpList_range _ rfl _ 111 115 2 rfl Tryz.underlying111 B m rfl hM ?_; intro w1 hI hb hz)
  go_frame
  go_loopw [3] (fun v wr => ∃ (left : LMap) (vis : List Sm), wr.ownsRow w.heap.size 86 3 v vis.length (vis.flatMap enS) ∧ IsIter wr w.heap.size B kP vI m left ∧ Hid ((vis ++ left.map toS).Perm (m.map toS)) ∧ Below w.heap.size w wr)
    (fun _ wr => wr.rangeLeft B w.heap.size)
  case atStart => exact ⟨m, [], World.ownsRow_nil _ _ _ _, hI, hid (by simp), hb⟩
  case round =>
    clear hI hb hz
    obtain ⟨left, vis, hO, hI, hP, hb⟩ := hrel
    have hlen : vis.length ≤ m.length := by
      have := hP.out.length_eq
      simp at this
      omega
    have hll := hI.left_len
    have HL := hid hll
    clear hll
    go_wp2_with (first
      | (at_next; refine wpList_next _ rfl _ rfl w.heap.size B m left rfl hI ?_ ?_))
    · intro hl0
      subst hl0
      have hP2 : vis.Perm (m.map toS) := by simpa using hP.out
      clear hP HL
      go_wp2_with fail
      refine (sort_owned hS enS_len hO (by omega)).mono ?_
      rintro e w5 ⟨rfl, l', hp, hst, hO', hg⟩
      have hb5 : Below w.heap.size w w5 := hb.grown hg hb.size (fun k hk => (hO.lt k hk).1)
      have hl' := hfin.out l' (hp.trans hP2) hst
      subst hl'
      clear hO hI hb hg hp hst
      obtain ⟨A', cap', rfl, _⟩ := own_slice hO'
      go_wp2_with fail
      go_ret
      exact ⟨A', cap', by simp, hO', hb5⟩
    · intro ao ap v left' w2 hp hI2 hg2 hs2 hen
      simp only [kP, vI] at hen
      have hO2 := hO.kept hg2 (.inr (fun e => hI.notOwn hO e.symm))
      have hb2 := hb.trans (grown_below hg2 hb.size (Nat.le_refl _))
      have hO3 := hid (hO2.alloc (.cells #[.int .i64 ao, .int .i64 ap] 115))
      have hI3 := hid ((hI2.alloc (.cells #[.int .i64 ao, .int .i64 ap] 115)).alloc (.cells #[.int .i64 ao, .int .i64 ap, .int .i64 v] 86))
      have hI5 := hid (hI2.alloc (.cells #[.int .i64 ao, .int .i64 ap] 115))
      have hb3 := hid ((hb2.alloc hb2.size (.cells #[.int .i64 ao, .int .i64 ap] 115)).alloc (by have := hb2.size; simp; omega) (.cells #[.int .i64 ao, .int .i64 ap, .int .i64 v] 86))
      have hlen2 : vis.length + 1 ≤ m.length := by
        have h1 := hP.out.length_eq
        have h2 := hp.length_eq
        simp at h1 h2
        omega
      have hwz : w.heap.size ≤ w2.heap.size := hb2.size
      clear hO hI hg2 hs2 hO2 hb hb2
      go_wp2_with (first
        | (at_builtin; refine wpList_push _ rfl _ _ 87 rfl w.heap.size 86 i0 _ 3 24 Tryz.underlying87 hi hz0 hz1 hz2 rfl (by decide) _ _ _ (by rfl) hO3.out #[.int .i64 ao, .int .i64 ap, .int .i64 v] (w2.heap.size + 1) (by simp) (by rfl) (by rfl) (by rfl) (by unfold maxLen; omega) (by omega) (by simp; omega) ?_; intro v' w3 hO4 hg4))
      have hI4 := hI3.out.grown hg4 (fun e => hI5.out.isMap.notOwn hO3.out e) (fun e => hI5.out.notOwn hO3.out e)
      have hb4 := hb3.out.grown hg4 (by simp; omega) (fun k hk => (hO3.out.lt k hk).1)
      have hP4 := hid (show ((vis ++ [(⟨ao, ap, v⟩ : Sm)]) ++ left'.map toS).Perm (m.map toS) from by
        refine List.Perm.trans ?_ hP.out
        rw [List.append_assoc]
        have hq := (hp.map toS).symm
        rw [List.map_cons] at hq
        exact List.Perm.append_left vis hq)
      have hO5 : w3.ownsRow w.heap.size 86 3 v' (vis ++ [(⟨ao, ap, v⟩ : Sm)]).length ((vis ++ [(⟨ao, ap, v⟩ : Sm)]).flatMap enS) := by simpa [enS] using hO4
      have hll : left'.length < left.length := by have := hp.length_eq; simp at this; omega
      clear hO3 hI3 hI5 hO4 hg4 hI2 hb3 hen
      go_roundw
      case rel => exact ⟨left', _, hO5, hI4, hP4, hb4⟩
      case measure => rw [hI4.left_len, HL.out]; exact hll

theorem lsums_nil (w : World) : Calls Tryz.prog 61 #[.pointer none] w fun e w' => e = .returned (.slice none 0 0) ∧ w = w' := by
  go_enter Tryz.func61, Tryz.ntmps61
  go_wp2_with fail
  go_ret
  exact ⟨rfl, rfl⟩

theorem balL_snoc (l : List Sm) (s : Sm) (a : Int) : balL (l ++ [s]) a = balL l a + if s.a = a then s.n else 0 := by rw [balL_append]; simp [balL]

set_option maxHeartbeats 4000000 in
theorem lbal_any (hS : SortsL) {X B : Nat} {f : Fn} {d : Int} (a : Int) (w : World) (h : IsLed w X B f d) :
    Calls Tryz.prog 38 #[.pointer (some ⟨X, 0, none⟩), .int .i64 a] w fun e w' => e = .returned (.int .i64 (balF f a)) ∧ Below w.heap.size w w' := by
  have hIv := hid h.inv
  have hd1 := h.inv.d1
  have HS := hid (lsums_any hS w h)
  clear h
  go_enter Tryz.func38, Tryz.ntmps38
  go_wp2_with fail
  refine HS.out.mono ?_
  rintro e w1 ⟨A, cap, rfl, hO, hb⟩
  have hR := own_rd hO
  have HE := hid (balL_canon hIv.out a)
  have hcl := canon_le f
  have HBd := hid (fun k => balL_bd hIv.out (l := (canon f).take k) (fun s hs => (mem_canonTo.1 (List.mem_of_mem_take hs)).2.2.2.1) ((((canonTo_sorted f 64).nodup linS)).sublist ((List.take_sublist k (canon f)).map keyS)) a)
  clear HS hO
  generalize canon f = l at *
  go_wp2_with fail
  go_loopw [5, 11] (fun n i wr => ∃ k : Nat, k ≤ l.length ∧ i = .int .i64 k ∧ n = .int .i64 (balL (l.take k) a) ∧ Below w1.heap.size w1 wr) (fun _ i _ => l.length - (intOf i).toNat)
  case atStart => exact ⟨0, Nat.zero_le _, rfl, rfl, Below.refl _ _⟩
  case round =>
    obtain ⟨k, hk, rfl, rfl, hb1⟩ := hrel
    by_cases hlt : k < l.length
    · obtain ⟨x, hx⟩ : ∃ x, l[k]? = some x := ⟨l[k], List.getElem?_eq_getElem hlt⟩
      have hR1 := hR.below hb1
      obtain ⟨b, off, rfl, hbs, hcc⟩ := hR1.at_ 3 enS_len (by omega) hx
      have HSn : Hid (balL (l.take (k + 1)) a = balL (l.take k) a + if x.a = a then x.n else 0) := hid (by rw [List.take_add_one, hx]; exact balL_snoc _ _ _)
      have e1 := HBd.out k
      have e2 := HBd.out (k + 1)
      rw [HSn.out] at e2
      obtain ⟨xc, xa, xn⟩ := x
      have q0 : wr.cell? ⟨b, off + k * 3, none⟩ = some (.int .i64 xc) := hcc 0 _ rfl
      have q1 : wr.cell? ⟨b, off + k * 3 + 1, none⟩ = some (.int .i64 xa) := hcc 1 _ rfl
      have q2 : wr.cell? ⟨b, off + k * 3 + 2, none⟩ = some (.int .i64 xn) := hcc 2 _ rfl
      have hb2 := hid (hb1.alloc hb1.size (.cells #[.int .i64 xc, .int .i64 xa, .int .i64 xn] 86))
      simp only at HSn e2
      clear hcc hx hR1 hR
      generalize balL (l.take k) a = s at *
      by_cases he : xa = a
      · have HN : Hid (balL (l.take (k + 1)) a = s + xn) := hid (by rw [HSn.out, if_pos he])
        rw [if_pos he] at e2
        subst he
        clear HSn
        go_wp2_with fail
        go_roundw
        case rel => exact ⟨k + 1, by omega, by go_num, by rw [HN.out], hb2.out⟩
        case measure => simp [intOf]; omega
      · have HN : Hid (balL (l.take (k + 1)) a = s) := hid (by rw [HSn.out, if_neg he]; omega)
        have b1 : (xa == a) = false := by simpa using he
        clear HSn he e2
        go_wp2_with fail
        go_roundw
        case rel => exact ⟨k + 1, by omega, by go_num, by rw [HN.out], hb2.out⟩
        case measure => simp [intOf]; omega
    · have hk' : k = l.length := by omega
      subst hk'
      rw [List.take_length, HE.out]
      have hb2 := bthen hb hb1
      clear hlt hk
      go_wp2_with fail
      go_ret
      exact ⟨rfl, hb2⟩
theorem lbal_nil (a : Int) (w : World) : Calls Tryz.prog 38 #[.pointer none, .int .i64 a] w fun e w' => e = .returned (.int .i64 0) ∧ Below w.heap.size w w' := by
  go_enter Tryz.func38, Tryz.ntmps38
  go_wp2_with fail
  refine (lsums_nil _).mono ?_
  rintro e w1 ⟨rfl, rfl⟩
  go_wp2_with fail
  go_loop [5, 11] (fun n i => n = .int .i64 0 ∧ i = .int .i64 0) (fun _ _ => 0)
  case atStart => exact ⟨rfl, rfl⟩
  case round =>
    obtain ⟨rfl, rfl⟩ := hrel
    go_wp2_with fail
    go_ret
    exact ⟨rfl, Below.refl _ _⟩

end Go.Proofs.YthdmbbfppgenlaaGreat
