/-
  Layer 15: the laws' wakes.
-/
import Derived.Test.YthfaaimmfdidnaaSl15
namespace Go.Proofs.Ythfaaimmfdidnaa
open Go.RowKit Go.WideShapes Go.ChangeShapes Go.ChangeAt Go.Deep
set_option linter.unusedVariables false

theorem fit_one (q : Int) (o : Int) (ho : 1 ≤ o) (hq : 1 ≤ q ∧ q ≤ 1000000) : FitOk o [(⟨1, q⟩ : Ln)] := by
  refine ⟨⟨ho, by simp, by simp⟩, fun k x hx => ?_⟩
  cases k with
  | zero =>
    simp at hx
    subst hx
    exact ⟨hq.1, hq.2, rfl⟩
  | succ k => simp at hx
def lvA (g : Nat) : List (Int × Lv) := mset (mset [] 1 (newLv g 1)) 1 ⟨g, 1, 10, 10, 0, 0, 0⟩
def lvB (g : Nat) : List (Int × Lv) := mset (lvA g) 1 ⟨g, 1, 10, 4, 6, 0, 0⟩
theorem lvA_get (g : Nat) : mget (lvA g) 1 = some ⟨g, 1, 10, 10, 0, 0, 0⟩ := by unfold lvA; rw [mget_mset, if_pos rfl]
theorem lvB_get (g : Nat) : mget (lvB g) 1 = some ⟨g, 1, 10, 4, 6, 0, 0⟩ := by unfold lvB; rw [mget_mset, if_pos rfl]
theorem lvB_keys (g : Nat) : (lvB g).map (·.1) = [1] := by simp [lvB, lvA, mset]
theorem lvA_bd (g : Nat) : ∀ p ∈ lvA g, LvB p.2 := by
  intro p hp
  simp [lvA, mset] at hp
  subst hp
  unfold LvB
  simp
theorem lvB_bd (g : Nat) : ∀ p ∈ lvB g, LvB p.2 := by
  intro p hp
  simp [lvB, lvA, mset] at hp
  subst hp
  unfold LvB
  simp
theorem mv_one (g : Nat) : mvL allocL (lvA g) [(⟨1, 6⟩ : Ln)] = lvB g := by
  simp only [mvL, lvA_get]
  rfl
theorem rd_one (q : Int) (w : World) : Rd (w.alloc (.cells #[.int .i64 1, .int .i64 q] 33)) (some ⟨w.heap.size, 0, none⟩) (([(⟨1, q⟩ : Ln)]).flatMap enL) := by
  have hB := Blk.new w 33 #[.int .i64 1, .int .i64 q]
  refine .inr ⟨w.heap.size, 0, rfl, hB.lt, fun j u hu => ?_⟩
  simp [enL] at hu
  match j, hu with
  | 0, hu => simp at hu; subst hu; exact hB.cell 0
  | 1, hu => simp at hu; subst hu; exact hB.cell 1
theorem ids_one {ids : List Int} {g : Nat} (hp : ids.Perm ((lvB g).map (·.1))) : ids = [1] := by
  rw [lvB_keys] at hp
  exact List.perm_singleton.1 hp

set_option maxRecDepth 100000 in
set_option maxHeartbeats 16000000 in
theorem wakes_any (w : World) : Calls Try.prog 9 #[] w fun e w' => e = .returned (.bool true) ∧ Below w.heap.size w w' := by
  go_enter Try.func9, Try.ntmps9
  go_wp2_with fail
  refine (new_any w).mono ?_
  rintro e w1 ⟨X, BL, BG, rfl, h, hb⟩
  have K1 := hid (item_new h hb.size 1 ⟨by omega, by omega⟩ rfl)
  have H1 := hid (And.intro h hb)
  clear h hb
  go_wp2_with fail
  refine K1.out.mono ?_
  rintro e w2 ⟨rfl, ⟨g, hg, h⟩, hT⟩
  have hb : Below w.heap.size w w2 := H1.out.2.trans (hT.below H1.out.2.size (fun k hk => H1.out.1.own_low hk))
  have K2 := hid (recv_yes h 1 10 ⟨by omega, by omega⟩ (a := newLv g 1) (by rw [mget_mset, if_pos rfl]) (by unfold newLv; simp) (by unfold LvB newLv; simp))
  have H2 := hid (And.intro h hb)
  clear K1 H1 h hT hb hg
  go_wp2_with fail
  refine K2.out.mono ?_
  rintro e w3 ⟨rfl, h, hT⟩
  have hb : Below w.heap.size w w3 := H2.out.2.trans (hT.below H2.out.2.size (fun k hk => H2.out.1.own_low hk))
  have h3 : IsBook w.heap.size w3 X BL BG (lvA g) [] := h
  have hwb : Below w3.heap.size w3 (w3.alloc (.cells #[.int .i64 1, .int .i64 6] 33)) := (Below.refl _ _).alloc (Nat.le_refl _) _
  have hbz := bthen hb hwb
  have K3 := hid (alloc_fit (h3.next hwb) hbz.size 1 _ 1 [(⟨1, 6⟩ : Ln)] (rd_one 6 w3) (by simp) (by unfold maxLen; omega) (errF_ok (fit_one 6 1 (by omega) ⟨by omega, by omega⟩) (by unfold knowF; simp [lvA_get]) rfl) (lvA_bd g))
  have H3 := hid (And.intro (h3.next hwb) hbz)
  clear K2 H2 h hT hb h3 hwb hbz
  go_wp2_with fail
  refine K3.out.mono ?_
  have hsa : ([(⟨1, 6⟩ : Ln)]).any (shortL (lvA g)) = false := by simp [shortL, lvA_get]
  rintro e w4 (⟨hs, _⟩ | ⟨_, d, rfl, h, hd, hdg, hdb, hT⟩)
  · rw [hsa] at hs; cases hs
  rw [mv_one] at h
  have hb : Below w.heap.size w w4 := H3.out.2.trans (hT.below H3.out.2.size (fun k hk => by
    rcases hk with e | e | e | ⟨p, hp, e⟩
    · exact H3.out.1.own_low (.inl e)
    · exact H3.out.1.own_low (.inr (.inl e))
    · exact H3.out.1.own_low (.inr (.inr (.inl e)))
    · rcases mem_mset hp with rfl | ⟨hp', _⟩
      · rw [← e]; exact Nat.le_trans H3.out.2.size hdg
      · cases hp'))
  have hwb : Below w4.heap.size w4 (w4.alloc (.cells #[.int .i64 1, .int .i64 5] 33)) := (Below.refl _ _).alloc (Nat.le_refl _) _
  have hbz := bthen hb hwb
  have hn2 : mget (mset ([] : List (Int × Gd)) 1 d) 2 = none := by rw [mget_mset, if_neg (by omega)]; rfl
  have K4 := hid (alloc_fit (h.next hwb) hbz.size 2 _ 1 [(⟨1, 5⟩ : Ln)] (rd_one 5 w4) (by simp) (by unfold maxLen; omega) (errF_ok (fit_one 5 2 (by omega) ⟨by omega, by omega⟩) (by unfold knowF; simp [lvB_get]) (by rw [hn2]; rfl)) (lvB_bd g))
  have H4 := hid (And.intro (h.next hwb) hbz)
  have HN2 := hid hn2
  clear K3 H3 h hT hb hwb hbz hd hdg hdb hsa hn2
  go_wp2_with fail
  refine K4.out.mono ?_
  have hsb : ([(⟨1, 5⟩ : Ln)]).any (shortL (lvB g)) = true := by simp [shortL, lvB_get]
  rintro e w5 (⟨_, rfl, hb5⟩ | ⟨hs, _⟩)
  case inr => rw [hsb] at hs; cases hs
  have h5 := H4.out.1.next hb5
  have hb := bthen H4.out.2 hb5
  have K5 := hid (free_none h5 2 HN2.out)
  have hf : (lvB g).length ≤ 64 := by have := congrArg List.length (lvB_keys g); simp at this; omega
  have K6 := hid (levels_any h5 hf)
  have K7 := hid (fun w' (hb' : Below w5.heap.size w5 w') => levels_any (h5.next hb') hf)
  unfold LevPost at K6 K7
  have HB := hid hb
  clear K4 H4 h5 hb hb5 hsb hf HN2
  go_wp2_with fail
  refine K5.out.mono ?_
  rintro e w6 ⟨rfl, rfl⟩
  go_wp2_with fail
  refine K6.out.mono ?_
  rintro e w7 ⟨A7, c7, ids7, rfl, hp7, _, _, hb7⟩
  obtain rfl := ids_one hp7
  have HB7 := hid hb7
  clear K5 K6 hp7 hb7
  go_wp2_with fail
  refine (K7.out _ HB7.out).mono ?_
  rintro e w8 ⟨A8, c8, ids8, rfl, hp8, _, hO8, hb8⟩
  obtain rfl := ids_one hp8
  obtain ⟨g8, c8', e8, _, hl8⟩ := own_form (enc := enV6) (l := ([1] : List Int).map (lvAt (lvB g))) hO8 (by simp)
  injection e8 with e9 e10 e11
  subst e9 e11
  have x2 : w8.cell? ⟨g8, 2, none⟩ = some (.int .i64 4) := by
    have := own_cells enV6_len (l := ([1] : List Int).map (lvAt (lvB g))) hO8 (k := 0) (x := lvAt (lvB g) 1) rfl (j := 2) rfl
    simpa [lvAt, lvB_get] using this
  have HF := hid (bthen HB.out (bthen HB7.out hb8))
  clear K7 hp8 hO8 hb8 e10
  go_wp2_with fail
  go_ret
  exact ⟨by simp, HF.out⟩

end Go.Proofs.Ythfaaimmfdidnaa
