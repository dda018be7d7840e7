/-
  Layer 19: wakes.
-/
import Derived.Test.YtdgoifnhlpjnpaaOall
namespace Go.Proofs.Ytdgoifnhlpjnpaa
open Go.RowKit Go.WideShapes Go.ChangeShapes Go.ChangeAt Go.Deep
set_option linter.unusedVariables false

def sale : ByteArray := ⟨#[115, 97, 108, 101]⟩
theorem isW_sale : isW sale = true := by decide
theorem sale_len : sale.size ≤ maxLen := by unfold maxLen; decide
theorem ordOk_sale (id : Int) (h : 1 ≤ id ∧ id ≤ 256) : OrdOk id 1 sale [⟨1, 3⟩] := by
  refine ⟨⟨h.1, h.2, by omega, by omega, isW_sale, by simp, by simp⟩, fun k x hx => ?_⟩
  cases k with
  | zero => simp at hx; subst hx; exact ⟨by decide, by decide, rfl⟩
  | succ k => simp at hx
theorem pr_sale : prL (mset [] 1 25) [⟨1, 3⟩] = [(3, 25)] := by decide
theorem net_sale : netT [(3, 25)] = 75 ∧ taxT [(3, 25)] = 15 := by decide
theorem one_rd (w : World) (x : Ln) : Rd (w.alloc (.cells #[.int .i64 x.i, .int .i64 x.q] 47)) (some ⟨w.heap.size, 0, none⟩) ([x].flatMap enL) := by
  right
  refine ⟨w.heap.size, 0, rfl, by simp, fun j u hu => ?_⟩
  have hb := Blk.new w 47 #[.int .i64 x.i, .int .i64 x.q]
  rw [Nat.zero_add, hb.cell j]
  simpa [enL] using hu

set_option maxRecDepth 100000 in
set_option maxHeartbeats 8000000 in
theorem wakes_any (w : World) : Calls Try.prog 9 #[] w (Law w) := by
  go_enter Try.func9, Try.ntmps9
  go_wp2_with fail
  refine (new_any _).mono ?_
  rintro e w1 ⟨X, BP, BO, rfl, h, hb⟩
  go_wp2_with fail
  refine (item_yes h 1 25 ⟨by omega, by omega, by omega, by omega⟩).mono ?_
  rintro e w2 ⟨rfl, h2, hT⟩
  replace hb := hb.trans (hT.below hb.size (fun k hk => h.own_low hk))
  clear h hT
  have p2 : PrOk (mset [] 1 25) := fun id p hp => by
    rw [mget_mset] at hp
    split at hp
    · injection hp with hp
      subst hp
      rename_i e
      subst e
      omega
    · simp [mget] at hp
  have z1 : errL (mset [] 1 25) [] 7 1 sale [⟨1, 3⟩] = 0 := errL_ok (ordOk_sale 7 (by omega)) (by decide) rfl
  have K := hid (add_yes (h2.alloc (.cells #[.int .i64 1, .int .i64 3] 47)) p2 7 1 sale (some ⟨w2.heap.size, 0, none⟩) 1 [⟨1, 3⟩] sale_len (one_rd w2 ⟨1, 3⟩) (by simp) (by unfold maxLen; omega) (by have := hb.size; simp; omega) z1)
  unfold AddPost at K
  rw [pr_sale, net_sale.1, net_sale.2] at K
  replace hb := hid (hb.alloc hb.size (.cells #[.int .i64 1, .int .i64 3] 47))
  have hL2 := hid (fun k (hk : Own BP BO k) => h2.own_low hk)
  clear z1 p2 h2
  go_wp2_with fail
  refine K.out.mono ?_
  rintro e w3 ⟨o, rfl, h3, o1, o2, o3, o4, o5, o6, hT⟩
  replace hb := hb.out.trans (hT.below hb.out.size (fun k hk => hL2.out k hk))
  have HO := hid (And.intro o4 (And.intro o5 o6))
  clear o1 o2 o3 o4 o5 o6 hT K hL2
  have HM := hid (show mget (mset ([] : List (Int × Od)) 7 o) 7 = some o from by rw [mget_mset, if_pos rfl])
  have HQ := hid (show ∀ p ∈ mset ([] : List (Int × Od)) 7 o, 1 ≤ p.2.ls.length ∧ p.2.ls.length ≤ 4 from fun p hp => by
    rcases mem_mset hp with rfl | ⟨hp', _⟩
    · simp only; rw [HO.out.1]; simp
    · cases hp')
  go_wp2_with fail
  refine (item_yes h3 1 30 ⟨by omega, by omega, by omega, by omega⟩).mono ?_
  rintro e w4 ⟨rfl, h4, hT⟩
  replace hb := hb.trans (hT.below hb.size (fun k hk => h3.own_low hk))
  clear h3 hT
  have hkn : knowB (mset (mset [] 1 25) 1 30) [⟨1, 3⟩] = true := by decide
  have z2 : errL (mset (mset [] 1 25) 1 30) (mset ([] : List (Int × Od)) 7 o) 7 1 sale [⟨1, 3⟩] = 71 := errL_there (ordOk_sale 7 (by omega)) hkn (by rw [HM.out]; rfl)
  generalize mset ([] : List (Int × Od)) 7 o = os4 at h4 z2 HM HQ
  have G := get_any h4 HQ.out 7
  unfold GetPost at G
  obtain ⟨oi, oc, of, ob, ocp, ols, on, ot⟩ := o
  obtain ⟨rfl, rfl, rfl⟩ := HO.out
  replace G := hid G
  have HZ := hid z2
  clear hkn z2 HO
  go_wp2_with fail
  refine G.out.mono ?_
  rintro e w5 ⟨_, hg, hb5⟩
  obtain ⟨b5, cp5, rfl, _⟩ := hg _ HM.out
  replace h4 := h4.next hb5
  replace hb := bthen hb hb5
  clear hg G hb5
  simp only [enO, List.length_cons, List.length_nil]
  have hBa : Below w5.heap.size w5 (w5.alloc (.cells #[.int .i64 oi, .int .i64 oc, .string of, .slice (some ⟨b5, 0, none⟩) 1 cp5, .int .i64 75, .int .i64 15] 35)) := (Below.refl _ _).alloc (Nat.le_refl _) _
  have K2 := add_no ((h4.next hBa).alloc (.cells #[.int .i64 1, .int .i64 3] 47)) 7 1 sale (some ⟨(w5.alloc (.cells #[.int .i64 oi, .int .i64 oc, .string of, .slice (some ⟨b5, 0, none⟩) 1 cp5, .int .i64 75, .int .i64 15] 35)).heap.size, 0, none⟩) 1 [⟨1, 3⟩] sale_len (one_rd _ ⟨1, 3⟩) (by simp) (by unfold maxLen; omega) (by rw [HZ.out]; decide)
  rw [HZ.out] at K2
  rw [World.size_alloc w5] at K2
  simp only [List.length_cons, List.length_nil, Nat.zero_add] at K2
  replace K2 := hid K2
  have HB := hid hb
  clear hb h4 HZ HM HQ hBa
  go_wp2_with fail
  refine K2.out.mono ?_
  rintro e w6 ⟨rfl, hb6⟩
  have hb7 : Below w.heap.size w (w5.alloc (.cells #[.int .i64 oi, .int .i64 oc, .string of, .slice (some ⟨b5, 0, none⟩) 1 cp5, .int .i64 75, .int .i64 15] 35)) := HB.out.alloc HB.out.size _
  have hb8 : Below w.heap.size w ((w5.alloc (.cells #[.int .i64 oi, .int .i64 oc, .string of, .slice (some ⟨b5, 0, none⟩) 1 cp5, .int .i64 75, .int .i64 15] 35)).alloc (.cells #[.int .i64 1, .int .i64 3] 47)) := hb7.alloc hb7.size _
  have hbf := hid (bthen hb8 hb6)
  clear K2 HB hb6 hb7 hb8
  go_wp2_with fail
  go_ret
  exact ⟨by simp, hbf.out⟩

end Go.Proofs.Ytdgoifnhlpjnpaa
