/-
  Layer 14: wakes.
-/
import Derived.Test.YtpofhadeepgmbaaBook4
namespace Go.Proofs.Ytpofhadeepgmbaa
open Go.RowKit
set_option linter.unusedVariables false

theorem wr_lim (n : Int) (h : -4611686018427387904 ≤ n ∧ n ≤ 4611686018427387904) : wrap64 n = n := by unfold wrap64; omega

set_option maxRecDepth 100000 in
set_option maxHeartbeats 2000000 in
theorem wakes_any (w : World) : Calls Try.prog 9 #[] w (Law w) := by
  go_enter Try.func9, Try.ntmps9
  go_wp2_with fail
  refine (new_any _).mono ?_
  rintro e w1 ⟨X, BA, BH, rfl, h, hb, _, _, _⟩
  go_wp2_with fail
  refine (customer_yes h hb.size 1 100 ⟨by omega, by omega, by omega, by omega⟩).mono ?_
  rintro e w2 ⟨g, rfl, hg, h2, hT⟩
  replace hb := hb.trans (hT.below hb.size (fun k hk => h.own_low hk))
  clear h hT hg
  have e2 : mget (custAc [] 1 100 g) 1 = some ⟨g, 100, 0⟩ := by unfold custAc; rw [mget_mset]; rfl
  generalize custAc [] 1 100 g = a2 at h2 e2
  have K1 := hid (hold_ok h2 1 1 60 ⟨by omega, by omega, by omega⟩ _ e2 rfl (by show (60 : Int) ≤ wrap64 (100 - 0); unfold wrap64; omega))
  go_wp2_with fail
  refine K1.out.mono ?_
  rintro e w3 ⟨rfl, h3, hT⟩
  replace hb := hb.trans (hT.below hb.size (fun k hk => h2.own_low hk))
  clear hT K1 h2
  have e3 : mget (mset a2 1 ⟨g, 100, wrap64 (0 + 60)⟩) 1 = some ⟨g, 100, 60⟩ := by rw [mget_mset, if_pos rfl, wr_lim _ ⟨by omega, by omega⟩]; rfl
  have f3 : mget (mset [] 1 ⟨1, 1, 60⟩ : List (Int × Hd)) 2 = none := by rw [mget_mset]; rfl
  have f4 : mget (mset [] 1 ⟨1, 1, 60⟩ : List (Int × Hd)) 3 = none := by rw [mget_mset]; rfl
  generalize mset a2 1 ⟨g, 100, wrap64 (0 + 60)⟩ = a3 at h3 e3
  generalize (mset [] 1 ⟨1, 1, 60⟩ : List (Int × Hd)) = d3 at h3 f3 f4
  have r4 : holdR a3 d3 2 1 41 = 140 := by
    unfold holdR
    rw [if_pos ⟨by omega, by omega, by omega⟩, e3, f3]
    show (if (none : Option Hd).isSome = true then 71 else if wrap64 (100 - 60) < 41 then (140 : Int) else 0) = 140
    rw [if_neg (by decide), if_pos (by unfold wrap64; omega)]
  have K2 := hold_no h3 2 1 41 ⟨by omega, by omega, by omega⟩ (by rw [r4]; decide)
  rw [r4] at K2
  replace K2 := hid K2
  have E3 := hid e3
  have F3 := hid f3
  have F4 := hid f4
  clear e2 e3 f3 f4 r4
  go_wp2_with fail
  refine K2.out.mono ?_
  rintro e w4 ⟨rfl, hb1⟩
  have h4 := h3.next hb1
  replace hb := bthen hb hb1
  clear hb1 h3 K2
  have K3 := hid (hold_ok h4 2 1 40 ⟨by omega, by omega, by omega⟩ _ E3.out F3.out (by show (40 : Int) ≤ wrap64 (100 - 60); unfold wrap64; omega))
  go_wp2_with fail
  refine K3.out.mono ?_
  rintro e w5 ⟨rfl, h5, hT⟩
  replace hb := hb.trans (hT.below hb.size (fun k hk => h4.own_low hk))
  clear hT h4 K3
  have K4 := hid (release_no h5 3 (by rw [mget_mset, if_neg (by decide)]; exact F4.out))
  go_wp2_with fail
  refine K4.out.mono ?_
  rintro e w6 ⟨rfl, hb1⟩
  replace hb := bthen hb hb1
  go_wp2_with fail
  go_ret
  exact ⟨rfl, hb⟩

end Go.Proofs.Ytpofhadeepgmbaa
