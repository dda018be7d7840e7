/-
  The document's ledger: Post; the laws' ref and sums.
-/
import Derived.Test.YtjlfhfhckomalaaRef16W
namespace Go.Proofs.Ytjlfhfhckomalaa
open Go.RowKit Go.WideShapes Go.ChangeShapes Go.ChangeAt Go.Deep
set_option linter.unusedVariables false

theorem info_ren : (Try.prog.info? 82).map (fun i => (i.zero, i.size, i.bytes)) = some (some (.agg #[.int .i64 0, .int .i64 0]), 2, 16) := by kernel_rfl

set_option maxRecDepth 100000 in
set_option maxHeartbeats 4000000 in
/-- 'ref': the entries as the document's. -/
theorem lref_any (l : List En) (A : Option Addr) (cp : Nat) (w : World) (hR : Rd w A (l.flatMap enE)) (hl : l.length * 16 ≤ 140737488351232) :
    Calls Try.prog 25 #[.slice A l.length cp] w (NewRowOf enE 82 2 l w) := by
  obtain ⟨i0, hi, hz0, hz1, hz2⟩ := info_parts info_ren
  go_enter Try.func25, Try.ntmps25
  go_wp2_with fail
  go_loopw [3, 8] (fun v i wr => ∃ k : Nat, k ≤ l.length ∧ i = .int .i64 k ∧ wr.ownsRow w.heap.size 82 2 v (l.take k).length ((l.take k).flatMap enE) ∧ Below w.heap.size w wr) (fun _ i _ => l.length - (intOf i).toNat)
  case atStart => exact ⟨0, Nat.zero_le _, rfl, World.ownsRow_nil _ _ _ _, Below.refl _ _⟩
  case round =>
    obtain ⟨k, hk, rfl, hO, hb⟩ := hrel
    by_cases hlt : k < l.length
    · obtain ⟨x, hx⟩ : ∃ x, l[k]? = some x := ⟨l[k], List.getElem?_eq_getElem hlt⟩
      have hR1 := hR.below hb
      obtain ⟨b, off, rfl, hbs, hcc⟩ := hR1.at_ 2 enE_len (by omega) hx
      have HS : Hid (l.take (k + 1) = l.take k ++ [x]) := hid (by rw [List.take_add_one, hx]; rfl)
      have hlk : (l.take k).length = k := by rw [List.length_take]; omega
      obtain ⟨xa, xn⟩ := x
      have q0 : wr.cell? ⟨b, off + k * 2, none⟩ = some (.int .i64 xa) := hcc 0 _ rfl
      have q1 : wr.cell? ⟨b, off + k * 2 + 1, none⟩ = some (.int .i64 xn) := hcc 1 _ rfl
      have HLK := hid hlk
      have hO3 := hid ((hO.alloc (.cells #[.int .i64 xa, .int .i64 xn] 47)).alloc (.cells #[.int .i64 xa, .int .i64 xn] 82))
      have hO2 := hid (hO.alloc (.cells #[.int .i64 xa, .int .i64 xn] 47))
      have hb3 := hid ((hb.alloc hb.size (.cells #[.int .i64 xa, .int .i64 xn] 47)).alloc (by have := hb.size; simp; omega) (.cells #[.int .i64 xa, .int .i64 xn] 82))
      have hwz := hb.size
      clear hcc hx hR1 hO hb hlk
      generalize (l.take k).length = n0 at *
      go_wp2_with (first
        | (at_builtin; refine wpList_push _ rfl _ _ 68 rfl w.heap.size 82 i0 _ 2 16 Try.underlying68 hi hz0 hz1 hz2 rfl (by decide) _ _ _ (by rfl) hO2.out #[.int .i64 xa, .int .i64 xn] (wr.heap.size + 1) (by simp) (by rfl) (by rfl) (by rfl) (by have := HLK.out; unfold maxLen; omega) (by have := HLK.out; omega) (by simp; omega) ?_; intro v' w3 hO4 hg4))
      have hb4 := hb3.out.grown hg4 (by simp; omega) (fun k hk => (hO2.out.lt k hk).1)
      have hO5 : w3.ownsRow w.heap.size 82 2 v' (l.take (k + 1)).length ((l.take (k + 1)).flatMap enE) := by
        rw [HS.out]
        have : (l.take k ++ [(⟨xa, xn⟩ : En)]).length = n0 + 1 := by rw [List.length_append, List.length_take, HLK.out]; simp; omega
        rw [this]
        simpa [enE] using hO4
      clear hO3 hO2 hb3 hO4 hg4
      go_roundw
      case rel => exact ⟨k + 1, by omega, by go_num, hO5, hb4⟩
      case measure => simp [intOf]; omega
    · have hk' : k = l.length := by omega
      subst hk'
      rw [List.take_length] at hO
      obtain ⟨A1, c1, rfl, _⟩ := own_slice hO
      clear hlt hk
      go_wp2_with fail
      go_ret
      exact ⟨A1, c1, rfl, hO, hb⟩

set_option maxRecDepth 100000 in
set_option maxHeartbeats 4000000 in
/-- 'sums': the sums as the document's. -/
theorem lsumsr_any (l : List Sm) (A : Option Addr) (cp : Nat) (w : World) (hR : Rd w A (l.flatMap enS)) (hl : l.length * 24 ≤ 140737488351232) :
    Calls Try.prog 20 #[.slice A l.length cp] w (NewRowOf enS 72 3 l w) := by
  obtain ⟨i0, hi, hz0, hz1, hz2⟩ := info_parts info_rsm
  go_enter Try.func20, Try.ntmps20
  go_wp2_with fail
  go_loopw [3, 8] (fun v i wr => ∃ k : Nat, k ≤ l.length ∧ i = .int .i64 k ∧ wr.ownsRow w.heap.size 72 3 v (l.take k).length ((l.take k).flatMap enS) ∧ Below w.heap.size w wr) (fun _ i _ => l.length - (intOf i).toNat)
  case atStart => exact ⟨0, Nat.zero_le _, rfl, World.ownsRow_nil _ _ _ _, Below.refl _ _⟩
  case round =>
    obtain ⟨k, hk, rfl, hO, hb⟩ := hrel
    by_cases hlt : k < l.length
    · obtain ⟨x, hx⟩ : ∃ x, l[k]? = some x := ⟨l[k], List.getElem?_eq_getElem hlt⟩
      have hR1 := hR.below hb
      obtain ⟨b, off, rfl, hbs, hcc⟩ := hR1.at_ 3 enS_len (by omega) hx
      have HS : Hid (l.take (k + 1) = l.take k ++ [x]) := hid (by rw [List.take_add_one, hx]; rfl)
      have hlk : (l.take k).length = k := by rw [List.length_take]; omega
      obtain ⟨xc, xa, xn⟩ := x
      have q0 : wr.cell? ⟨b, off + k * 3, none⟩ = some (.int .i64 xc) := hcc 0 _ rfl
      have q1 : wr.cell? ⟨b, off + k * 3 + 1, none⟩ = some (.int .i64 xa) := hcc 1 _ rfl
      have q2 : wr.cell? ⟨b, off + k * 3 + 2, none⟩ = some (.int .i64 xn) := hcc 2 _ rfl
      have HLK := hid hlk
      have hO2 := hid (hO.alloc (.cells #[.int .i64 xc, .int .i64 xa, .int .i64 xn] 35))
      have hb3 := hid ((hb.alloc hb.size (.cells #[.int .i64 xc, .int .i64 xa, .int .i64 xn] 35)).alloc (by have := hb.size; simp; omega) (.cells #[.int .i64 xc, .int .i64 xa, .int .i64 xn] 72))
      have hwz := hb.size
      clear hcc hx hR1 hO hb hlk
      generalize (l.take k).length = n0 at *
      go_wp2_with (first
        | (at_builtin; refine wpList_push _ rfl _ _ 56 rfl w.heap.size 72 i0 _ 3 24 Try.underlying56 hi hz0 hz1 hz2 rfl (by decide) _ _ _ (by rfl) hO2.out #[.int .i64 xc, .int .i64 xa, .int .i64 xn] (wr.heap.size + 1) (by simp) (by rfl) (by rfl) (by rfl) (by have := HLK.out; unfold maxLen; omega) (by have := HLK.out; omega) (by simp; omega) ?_; intro v' w3 hO4 hg4))
      have hb4 := hb3.out.grown hg4 (by simp; omega) (fun k hk => (hO2.out.lt k hk).1)
      have hO5 : w3.ownsRow w.heap.size 72 3 v' (l.take (k + 1)).length ((l.take (k + 1)).flatMap enS) := by
        rw [HS.out]
        have : (l.take k ++ [(⟨xc, xa, xn⟩ : Sm)]).length = n0 + 1 := by rw [List.length_append, List.length_take, HLK.out]; simp; omega
        rw [this]
        simpa [enS] using hO4
      clear hO2 hb3 hO4 hg4
      go_roundw
      case rel => exact ⟨k + 1, by omega, by go_num, hO5, hb4⟩
      case measure => simp [intOf]; omega
    · have hk' : k = l.length := by omega
      subst hk'
      rw [List.take_length] at hO
      obtain ⟨A1, c1, rfl, _⟩ := own_slice hO
      clear hlt hk
      go_wp2_with fail
      go_ret
      exact ⟨A1, c1, rfl, hO, hb⟩

end Go.Proofs.Ytjlfhfhckomalaa
