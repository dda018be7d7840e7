/-
  wakes: the plan of three steps.
-/
import Derived.Test.YtemhoaapapeilaaWk12
namespace Go.Proofs.Ytemhoaapapeilaa
open Go.RowKit Go.WideShapes Go.ChangeShapes Go.ChangeAt Go.Deep
set_option linter.unusedVariables false

theorem Blk.rd12 {w : World} {g : Nat} {t : TypeId} {cs : Array Value} (h : Blk w g t cs) {xs : List Value} (hx : cs.toList = xs) : Rd w (some ⟨g, 0, none⟩) xs := by
  subst hx
  exact .inr ⟨g, 0, rfl, h.lt, fun j u hu => by rw [Nat.zero_add]; rw [h.cell]; simpa using hu⟩
/-- What wakes has made. -/
def WkP (w0 : World) (P : Nat) (Ls : List Stp) (Bs : List IRow) (w : World) : Prop := ∃ base vS vB ga gb, PlB base (bN 120) P vS vB Ls Bs w ∧ w0.heap.size ≤ base ∧ PlG (wkL ga gb) [1, 0, 2] Ls Bs ∧ Below w0.heap.size w0 w
theorem wk_comp {w0 wc : World} {gs ga gb : Nat} (hs : Blk wc gs 34 ((wkL (some ⟨ga, 0, none⟩) (some ⟨gb, 0, none⟩)).flatMap enSt).toArray) (ha : Blk wc ga 9 #[.string (bN 98)]) (hb : Blk wc gb 9 #[.string (bN 97)]) (h0 : Below w0.heap.size w0 wc) :
    Calls Try.prog 10 #[.agg #[.string (bN 120), .slice (some ⟨gs, 0, none⟩) 3 3]] wc fun e w' => ∃ P Ls Bs, e = .returned (.tuple #[.pointer (some ⟨P, 0, none⟩), .int .i64 0]) ∧ WkP w0 P Ls Bs w' := by
  refine (compile_any (bN 120) (wkL (some ⟨ga, 0, none⟩) (some ⟨gb, 0, none⟩)) (some ⟨gs, 0, none⟩) 3 wc (hs.rd12 rfl) (fun s hm => ?_) (by show 3 ≤ 1000; omega)).mono ?_
  · simp only [wkL, List.mem_cons, List.not_mem_nil, or_false] at hm
    rcases hm with rfl | rfl | rfl
    · exact ⟨ha.rd12 rfl, show 1 * 16 ≤ 140737488355328 by omega⟩
    · exact ⟨Rd.nil _ _, show 0 * 16 ≤ 140737488355328 by omega⟩
    · exact ⟨hb.rd12 rfl, show 1 * 16 ≤ 140737488355328 by omega⟩
  · rintro e w2 ⟨hbw, ⟨h1, _⟩ | ⟨_, P, vS, vB, Ls, Bs, rfl, hp, hg⟩⟩
    · exact absurd (wkL_check _ _) h1
    · refine ⟨P, Ls, Bs, rfl, _, vS, vB, some ⟨ga, 0, none⟩, some ⟨gb, 0, none⟩, hp, h0.size, ?_, bthen h0 hbw⟩
      have : (wkL (some ⟨ga, 0, none⟩) (some ⟨gb, 0, none⟩)).length = 3 := rfl
      rw [this, wkL_ord] at hg
      exact hg

theorem rise_one {xs : List Int} {x : Int} (h : xs.Pairwise (· < ·)) (hm : ∀ y, y ∈ xs ↔ y = x) : xs = [x] := by
  match xs, h with
  | [], _ => exact absurd ((hm x).2 rfl) (by simp)
  | [y], _ => rw [(hm y).1 (by simp)]
  | y :: z :: r, h =>
    have h1 := (hm y).1 (by simp)
    have h2 := (hm z).1 (by simp)
    have h3 := (List.pairwise_cons.1 h).1 z (by simp)
    omega
theorem PlG.rows {l : List Stp} {ds : List Nat} {Ls : List Stp} {Bs : List IRow} (h : PlG l ds Ls Bs) (ho : OrdOk (grf l) ds) (hn : ds.length ≤ 1000) : RowsOk Ls Bs := by
  have key : ∀ b ∈ Bs, ∃ p i : Nat, ds[p]? = some i ∧ BfOk (grf l) ds i b.xs := fun b hb => by
    obtain ⟨p, hp⟩ := List.mem_iff_getElem?.1 hb
    have hpl : p < ds.length := by have := (List.getElem?_eq_some_iff.1 hp).1; have := h.bs; omega
    obtain ⟨b', h1, h2⟩ := h.row p ds[p] (List.getElem?_eq_getElem hpl)
    rw [hp] at h1
    injection h1 with h1
    subst h1
    exact ⟨p, _, List.getElem?_eq_getElem hpl, h2⟩
  refine ⟨by rw [h.bs, h.ls], by rw [h.ls]; exact hn, fun b hb => ?_, fun b hb x hx => ?_⟩
  · obtain ⟨p, i, _, h2⟩ := key b hb
    exact h2.1
  · obtain ⟨p, i, h1, h2⟩ := key b hb
    obtain ⟨k, hk, rfl⟩ := (h2.2 x).1 hx
    exact ⟨_, rfl, by rw [h.ls]; exact List.idxOf_lt_length_of_mem (List.mem_of_mem_take (ho.before p i h1 k hk))⟩
theorem wk_rows {ga gb : Option Addr} {Ls : List Stp} {Bs : List IRow} (h : PlG (wkL ga gb) [1, 0, 2] Ls Bs) : ∃ (A0 : Option Addr) (c0 : Nat) (b1 : IRow), Ls.length = 3 ∧ Bs.length = 3 ∧ Ls[0]? = some (twn (ofS (bN 98) none 0 []) A0 c0) ∧ Bs[1]? = some b1 ∧ b1.xs = [0] ∧ hitsB Bs 1 3 = [2] ∧ RowsOk Ls Bs := by
  obtain ⟨s, A0, c0, h1, h2⟩ := h.step 0 1 rfl
  have hs : s = ofS (bN 98) none 0 [] := by
    have h1' : some (ofS (bN 98) none 0 []) = some s := h1
    exact (Option.some.inj h1').symm
  subst hs
  have hg := wkL_grf ga gb
  obtain ⟨b0, r0, g0⟩ := h.row 0 1 rfl
  obtain ⟨b1, r1, g1⟩ := h.row 1 0 rfl
  obtain ⟨b2, r2, g2⟩ := h.row 2 2 rfl
  rw [hg] at g0 g1 g2
  have e0 : b0.xs = [] := List.eq_nil_iff_forall_not_mem.2 (fun x hx => by
    obtain ⟨k, hk, _⟩ := (g0.2 x).1 hx
    rcases adj_wk _ _ hk with h | h <;> omega)
  have e1 : b1.xs = [0] := rise_one g1.1 (fun y => by
    rw [g1.2]
    constructor
    · rintro ⟨k, hk, rfl⟩
      rcases adj_wk _ _ hk with ⟨_, rfl⟩ | ⟨h, _⟩
      · decide
      · omega
    · rintro rfl
      exact ⟨1, by decide, by decide⟩)
  have e2 : b2.xs = [1] := rise_one g2.1 (fun y => by
    rw [g2.2]
    constructor
    · rintro ⟨k, hk, rfl⟩
      rcases adj_wk _ _ hk with ⟨h, _⟩ | ⟨_, rfl⟩
      · omega
      · decide
    · rintro rfl
      exact ⟨0, by decide, by decide⟩)
  have ho : OrdOk (grf (wkL ga gb)) [1, 0, 2] := by
    rw [← wkL_ord ga gb]
    exact ordN_ok _ _
  refine ⟨A0, c0, b1, h.ls, h.bs, h2, r1, e1, ?_, h.rows ho (by decide)⟩
  simp [hitsB, hitsR, r0, r1, r2, e0, e1, e2]

set_option maxRecDepth 100000 in
set_option maxHeartbeats 16000000 in
theorem wakes12 (w : World) : Calls Try.prog 9 #[] w fun e w' => e = .returned (.bool true) ∧ Below w.heap.size w w' := by
  obtain ⟨w0, hw0⟩ : ∃ w0, w0 = w := ⟨_, rfl⟩
  have H0 := hid hw0
  have KO := hid of12_any
  have HB0 := hid (show Below w0.heap.size w0 w from by rw [hw0]; exact Below.refl _ _)
  clear hw0
  go_enter Try.func9, Try.ntmps9
  go_wp2_with fail
  refine (KO.out _ _ _ _ _).mono ?_
  rintro e w1 ⟨rfl, hb1⟩
  go_wp2_with fail
  refine (KO.out _ _ _ _ _).mono ?_
  rintro e w2 ⟨rfl, hb2⟩
  go_wp2_with fail
  refine (KO.out _ _ _ _ _).mono ?_
  rintro e w3 ⟨rfl, hb3⟩
  go_wp2_with fail
  have z1 := HB0.out.alloc HB0.out.size (.cells #[.string (bN 98)] 9)
  have z2 := bthen (bthen z1 hb1) hb2
  have z3 := bthen (z2.alloc z2.size (.cells #[.string (bN 97)] 9)) hb3
  refine (wk_comp (w0 := w0) (ga := w.heap.size) (gb := w2.heap.size) (Blk.new _ _ _) ?_ ?_ ?_).mono ?_
  · exact ((((((Blk.new w _ _).next hb1).next hb2).alloc _).next hb3).alloc _)
  · exact (((Blk.new w2 _ _).next hb3).alloc _)
  · exact z3.alloc z3.size _
  rintro e w4 ⟨P, Ls, Bs, rfl, base, vS, vB, ga, gb, hp, hbs, hg, hb4⟩
  obtain ⟨A0, c0, b1, hL3, hB3, hs0, hr1, hx1, hh, hro⟩ := wk_rows hg
  have hW := hp.plw
  have KL := hid (len_some hW)
  rw [hL3] at KL
  have KS := hid (step_in hW 0 _ hs0 (show 0 * 16 ≤ 140737488355328 by omega))
  have HD := hid (And.intro hW (And.intro hro (And.intro hb4 (And.intro hr1 (And.intro hx1 (And.intro hh (And.intro hL3 hB3)))))))
  have HBS := hid hbs
  clear hp hbs hg hb4 hL3 hB3 hs0 hr1 hx1 hh hro hW z1 z2 z3 hb1 hb2 hb3 KO HB0
  go_wp2_with fail
  refine KL.out.mono ?_
  rintro e w5 ⟨rfl, rfl⟩
  go_wp2_with fail
  refine KS.out.mono ?_
  rintro e w6 ⟨A6, c6, rfl, _, hb6⟩
  rw [show (enSt (twn (twn (ofS (bN 98) none 0 []) A0 c0) A6 c6)).toArray = #[.string (bN 98), .string holdB, .string relB, .string ⟨#[]⟩, .bool false, .int .i64 0, .int .i64 0, .int .i64 0, .slice A6 0 c6] from rfl]
  have hW6 := HD.out.1.next hb6
  have hb06 := bthen HD.out.2.2.1 hb6
  have KB := hid (before_in hW6 1 b1 HD.out.2.2.2.1 (by rw [HD.out.2.2.2.2.2.2.1, HD.out.2.2.2.2.2.2.2]) (by rw [HD.out.2.2.2.2.1]; decide))
  rw [HD.out.2.2.2.2.1] at KB
  have H6 := hid (And.intro hW6 hb06)
  clear hb6 hW6 hb06 KS KL
  have hfd : ∀ w : World, (Instr.field 34 (.agg #[.string (bN 98), .string holdB, .string relB, .string ⟨#[]⟩, .bool false, .int .i64 0, .int .i64 0, .int .i64 0, .slice A6 0 c6]) 0).run Try.prog w = .ok (.string (bN 98)) w := fun _ => by kernel_rfl
  go_wp2_with fail
  refine KB.out.mono ?_
  rintro e w7 ⟨A7, c7, rfl, hO7, hb7⟩
  have hW7 := H6.out.1.next hb7
  have hb07 := bthen H6.out.2 hb7
  have H7 := hid (And.intro hW7 (And.intro hb07 (own_rd hO7)))
  clear hb7 hO7 KB hW7 hb07
  go_wp2_with fail
  have hba := (Below.refl w7.heap.size w7).alloc (Nat.le_refl _) (.cells #[.int .i64 0] 3)
  refine (ints12_any [0] [0] _ _ _ _ _ (H7.out.2.2.below hba) ((Blk.new w7 _ _).rd12 rfl) (by decide)).mono ?_
  rintro e w8 ⟨rfl, hb8⟩
  rw [show decide (([0] : List Int) = [0]) = true from rfl]
  have hW8 := (H7.out.1.next hba).next hb8
  have hb08 := bthen (bthen H7.out.2.1 hba) hb8
  have KE := hid (behind_any hW8 HD.out.2.1 (fun e => by cases e) (fun _ => rfl) 1 (by omega))
  rw [show behL Bs Ls.length 1 = [2] from by
    rw [HD.out.2.2.2.2.2.2.1]
    unfold behL
    rw [if_pos (by decide), HD.out.2.2.2.2.2.2.2]
    exact HD.out.2.2.2.2.2.1] at KE
  have H8 := hid (And.intro hW8 hb08)
  clear hb8 hba hW8 hb08
  go_wp2_with fail
  refine KE.out.mono ?_
  rintro e w9 ⟨A9, c9, vH9, Hs9, rfl, hO9, hW9, _, hT9⟩
  have hb09 := H8.out.2.trans (hT9.below H8.out.2.size (fun k hk => by rw [hk]; exact Nat.le_trans HBS.out HD.out.1.lo))
  have H9 := hid (And.intro hW9 (And.intro hb09 (own_rd hO9)))
  clear hO9 hW9 hT9 hb09 KE
  go_wp2_with fail
  have hba := (Below.refl w9.heap.size w9).alloc (Nat.le_refl _) (.cells #[.int .i64 2] 3)
  refine (ints12_any [2] [2] _ _ _ _ _ (H9.out.2.2.below hba) ((Blk.new w9 _ _).rd12 rfl) (by decide)).mono ?_
  rintro e w10 ⟨rfl, hb10⟩
  rw [show decide (([2] : List Int) = [2]) = true from rfl]
  have hb010 := bthen (bthen H9.out.2.1 hba) hb10
  have KA := hid (asked_some ((H9.out.1.next hba).next hb10))
  have H10 := hid hb010
  clear hba hb10 hb010
  go_wp2_with fail
  refine KA.out.mono ?_
  rintro e w11 ⟨rfl, rfl⟩
  go_wp2_with fail
  go_ret
  have hz := H10.out
  rw [H0.out] at hz
  exact ⟨rfl, hz⟩

end Go.Proofs.Ytemhoaapapeilaa
