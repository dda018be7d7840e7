/-
  The walk of LedgerRestores.
-/
import Derived.Test.YtjlfhfhckomalaaLedPlay
import Derived.Test.YtjlfhfhckomalaaRef16S
import Derived.Test.YtjlfhfhckomalaaAppend
namespace Go.Proofs.Ytjlfhfhckomalaa
open Go.RowKit Go.WideShapes Go.ChangeShapes Go.ChangeAt Go.Deep
set_option linter.unusedVariables false

set_option maxRecDepth 100000 in
theorem lpost_nil (w : World) : Calls Try.prog 11 #[.pointer none, .int .i64 1, .slice none 0 0] w fun e w' => e = .returned (.int .i64 1) ∧ w = w' := by
  go_enter Try.func11, Try.ntmps11
  go_wp2_with fail
  go_ret
  exact ⟨rfl, rfl⟩

set_option maxRecDepth 100000 in
set_option maxHeartbeats 16000000 in
theorem ledgerRestores_walk (hS : SortsL) (t : Int) (es : List Sm) (AE : Option Addr) (ce : Nat) (l : List Po) (A : Option Addr) (cp : Nat) (w : World) (hE : Rd w AE (es.flatMap enS)) (hR : Rd w A (l.flatMap enPo)) (hok : ∀ p ∈ l, OkPo w p) (he : es.length * 24 ≤ 140737488351232) (hl : l.length * 32 ≤ 140737488351232) :
    Calls Try.prog 7 #[.int .i64 t, .slice AE es.length ce, .slice A l.length cp] w (Law w) := by
  obtain ⟨i0, hi, hz0, hz1, hz2⟩ := info_parts info_sm
  go_enter Try.func7, Try.ntmps7
  go_wp2_with fail
  refine (lturn_nil _).mono ?_
  rintro e w0 ⟨rfl, rfl⟩
  go_wp2_with fail
  refine (wakes_any hS _).mono ?_
  rintro e w1 ⟨rfl, hb⟩
  go_wp2_with fail
  refine (lpost_nil _).mono ?_
  rintro e w0 ⟨rfl, rfl⟩
  go_wp2_with fail
  refine (lbal_nil _ _).mono ?_
  rintro e w2 ⟨rfl, hb2⟩
  replace hb := bthen hb hb2
  clear hb2
  go_wp2_with fail
  refine (lof_nil _ _ _).mono ?_
  rintro e w0 ⟨rfl, rfl⟩
  go_wp2_with fail
  refine (lsums_nil _).mono ?_
  rintro e w0 ⟨rfl, rfl⟩
  have hE2 := hE.below hb
  have hone : ∀ u ∈ es.flatMap enS, u.oneCell' = true := by
    intro u hu
    obtain ⟨x, _, hx⟩ := List.mem_flatMap.1 hu
    exact enS_one x u hx
  have HH := hid (And.intro hE2 (And.intro hone (length_flatMap_const enS 3 enS_len es)))
  have HOK := hid hok
  clear hone hE2 hok
  go_wp2_with (first
    | (at_builtin; refine wpList_append_any _ rfl _ _ 31 rfl 35 i0 _ 3 24 Try.underlying31 hi hz0 hz1 hz2 rfl (by decide) (by rfl) AE es.length ce (es.flatMap enS) (by rfl) HH.out.2.2 HH.out.1 HH.out.2.1 (by unfold maxLen; omega) (by omega) ?_; intro v' w3 hO3 hb3; obtain ⟨A3, c3, rfl, hE3⟩ := own_slice hO3; have hb4 := bthen hb hb3; clear hO3 hb3 HH hb))
  refine (lrestore_any t es A3 c3 w3 hE3 (by omega)).mono ?_
  rintro e w4 ⟨hP, hb5⟩
  have hb6 := bthen hb4 hb5
  have hE6 := hE.below hb6
  have hw3 := hb4.size
  have RF := hid (fun w' hb => lsumsr_any es AE ce w' (hE6.below hb) he)
  clear hE3 hb4 hE
  by_cases hg : RestOk t es
  · obtain ⟨X, B, rfl, hB, hX, h⟩ := hP.1 hg
    have HG := hid hg
    have hX0 : w.heap.size ≤ X := by omega
    have hB0 : w.heap.size ≤ B := by omega
    clear hP hg hb5 hB hX
    go_wp2_with fail
    refine (RF.out _ (Below.refl _ _)).mono ?_
    rintro e w5 ⟨A5, c5, rfl, hO5, hb7⟩
    have hR5 := own_rd hO5
    replace h := h.next hb7
    replace hb6 := bthen hb6 hb7
    have hw5 := hb6.size
    have RR := hid (rrestore_any t es A5 c5 w5 hR5 (by omega))
    clear RF hb7 hO5
    go_wp2_with fail
    refine RR.out.mono ?_
    rintro e w6 ⟨hP6, hb8⟩
    obtain ⟨R, rfl, hRR, hr⟩ := hP6.1 HG.out
    replace h := h.next hb8
    replace hb6 := bthen hb6 hb8
    have hR0 : w.heap.size ≤ R := by omega
    have ST := hid (lstate_any hS w6 h hr)
    clear RR hP6 hb8 hR5 hE6
    go_wp2_with fail
    refine ST.out.mono ?_
    rintro e w7 ⟨rfl, hb9⟩
    have PL := hid (lplay_any hS w l A cp hR HOK.out hl w7 (h.next hb9) (hr.next hb9) (bthen hb6 hb9) hX0 hB0 hR0)
    clear ST hb9 h hr hb6
    go_wp2_with fail
    refine PL.out.mono ?_
    rintro e w8 ⟨rfl, hb10, _⟩
    clear PL
    go_wp2_with fail
    go_ret
    exact ⟨rfl, hb10⟩
  · obtain rfl := hP.2 hg
    have HG := hid hg
    clear hP hg hb5
    go_wp2_with fail
    refine (RF.out _ (Below.refl _ _)).mono ?_
    rintro e w5 ⟨A5, c5, rfl, hO5, hb7⟩
    have hR5 := own_rd hO5
    replace hb6 := bthen hb6 hb7
    have RR := hid (rrestore_any t es A5 c5 w5 hR5 (by omega))
    clear RF hb7 hO5
    go_wp2_with fail
    refine RR.out.mono ?_
    rintro e w6 ⟨hP6, hb8⟩
    obtain rfl := hP6.2 HG.out
    replace hb6 := bthen hb6 hb8
    clear RR hP6 hb8 hR5 hE6
    go_wp2_with fail
    go_ret
    exact ⟨rfl, hb6⟩

end Go.Proofs.Ytjlfhfhckomalaa
