/-
  PlanFirst: plainly; a step's copy in a loop's variable; a step's name.
-/
import Derived.Test.YtemhoaapapeilaaWa12
namespace Go.Proofs.Ytemhoaapapeilaa
open Go.RowKit Go.WideShapes Go.ChangeShapes Go.ChangeAt Go.Deep
set_option linter.unusedVariables false

theorem grfA_adj {l : List Stp} {i : Nat} {s : Stp} (h : l[i]? = some s) : adj (grf l) i = s.after.map fun a => l.findIdx (isNm a) := by
  unfold adj grf
  simp [List.getD, h]
theorem next_first {l : List Stp} {k : Nat} {s : Stp} (h : l[k]? = some s) (hs : s.after = []) (hm : ∀ j y, j < k → l[j]? = some y → y.after ≠ []) : nextN (grf l) [] = some k := by
  have hk : k < l.length := (List.getElem?_eq_some_iff.1 h).1
  unfold nextN
  rw [List.find?_range_eq_some]
  refine ⟨readyN_iff.2 ⟨by simp, fun j hj => ?_⟩, by rw [grf_len]; exact List.mem_range.2 hk, fun j hj => ?_⟩
  · rw [grfA_adj h, hs] at hj
    simp at hj
  · have hjl : j < l.length := by omega
    have hne := hm j _ hj (List.getElem?_eq_getElem hjl)
    cases hr : readyN (grf l) [] j with
    | false => rfl
    | true =>
      have h2 := (readyN_iff.1 hr).2
      rw [grfA_adj (List.getElem?_eq_getElem hjl)] at h2
      cases ha : (l[j]).after with
      | nil => exact absurd ha hne
      | cons a r =>
        rw [ha] at h2
        have := h2 (l.findIdx (isNm a)) (by simp)
        simp at this
theorem ord_first {l : List Stp} {k : Nat} {s : Stp} (h : l[k]? = some s) (hs : s.after = []) (hm : ∀ j y, j < k → l[j]? = some y → y.after ≠ []) : ∀ n, (ordN (grf l) (n + 1))[0]? = some k
  | 0 => by
    unfold ordN
    rw [show ordN (grf l) 0 = [] from rfl, next_first h hs hm]
    rfl
  | n + 1 => by
    have ih := ord_first h hs hm n
    have hl := (List.getElem?_eq_some_iff.1 ih).1
    rw [ordN]
    split
    · rw [List.getElem?_append_left hl]
      exact ih
    · exact ih
theorem ord_free {l : List Stp} (h : ∀ s ∈ l, s.after = []) : ∀ n, n ≤ l.length → ordN (grf l) n = List.range n
  | 0, _ => rfl
  | n + 1, hn => by
    have ih := ord_free h n (by omega)
    have hnx : nextN (grf l) (List.range n) = some n := by
      unfold nextN
      rw [List.find?_range_eq_some]
      refine ⟨readyN_iff.2 ⟨by simp, fun j hj => ?_⟩, by rw [grf_len]; exact List.mem_range.2 (by omega), fun j hj => ?_⟩
      · rw [grfA_adj (List.getElem?_eq_getElem (show n < l.length by omega)), h _ (List.getElem_mem _)] at hj
        simp at hj
      · cases hr : readyN (grf l) (List.range n) j with
        | false => rfl
        | true => exact absurd (List.mem_range.2 hj) (readyN_iff.1 hr).1
    rw [ordN, ih, hnx, List.range_succ]
/-- A step in a variable. -/
def varW (w : World) (xn xv xu xe : ByteArray) (xf : Bool) (xr xy xw : Int) (xs : Value) : World := (w.alloc (.cells #[.string ⟨#[]⟩, .string ⟨#[]⟩, .string ⟨#[]⟩, .string ⟨#[]⟩, .bool false, .int .i64 0, .int .i64 0, .int .i64 0, .slice none 0 0] 34)).setRow w.heap.size #[.string xn, .string xv, .string xu, .string xe, .bool xf, .int .i64 xr, .int .i64 xy, .int .i64 xw, xs]
theorem varW_blk (w : World) (xn xv xu xe : ByteArray) (xf : Bool) (xr xy xw : Int) (xs : Value) : Blk (varW w xn xv xu xe xf xr xy xw xs) w.heap.size 34 #[.string xn, .string xv, .string xu, .string xe, .bool xf, .int .i64 xr, .int .i64 xy, .int .i64 xw, xs] := (Blk.new w 34 #[.string ⟨#[]⟩, .string ⟨#[]⟩, .string ⟨#[]⟩, .string ⟨#[]⟩, .bool false, .int .i64 0, .int .i64 0, .int .i64 0, .slice none 0 0]).setRow _
theorem varW_below (w : World) (xn xv xu xe : ByteArray) (xf : Bool) (xr xy xw : Int) (xs : Value) : Below w.heap.size w (varW w xn xv xu xe xf xr xy xw xs) := by
  have hwa : Below w.heap.size w (w.alloc (.cells #[.string ⟨#[]⟩, .string ⟨#[]⟩, .string ⟨#[]⟩, .string ⟨#[]⟩, .bool false, .int .i64 0, .int .i64 0, .int .i64 0, .slice none 0 0] 34)) := (Below.refl _ _).alloc (Nat.le_refl _) _
  exact hwa.trans ((Touch.setRow _ w.heap.size _).below hwa.size (fun k hk => by rw [hk]; exact Nat.le_refl _))
theorem fieldN12 (a v u e f r y z s : Value) (w : World) : (Instr.field 34 (.agg #[a, v, u, e, f, r, y, z, s]) 0).run Try.prog w = .ok a w := by kernel_rfl
section
variable {base : Nat} {nm : ByteArray} {P : Nat} {vS vB vH : Value} {Ls : List Stp} {Bs Hs : List IRow} {dn : Bool} {ask : Int} {w w' : World}
/-- The name of a step that is in the plan. -/
theorem step_nm (h : PlW base nm P vS vB vH Ls Bs Hs dn ask w) (q : Nat) (s : Stp) (A0 : Option Addr) (c0 : Nat) (hq : Ls[q]? = some (twn s A0 c0)) (hok : s.after.length * 16 ≤ 140737488355328) : Calls Try.prog 12 #[.pointer (some ⟨P, 0, none⟩), .int .i64 (q : Int)] w fun e w' => ∃ v u x f r y z t, e = .returned (.agg #[.string s.name, v, u, x, f, r, y, z, t]) ∧ Below w.heap.size w w' :=
  (step_in h q _ hq hok).mono fun e w' ⟨A, cap, he, _, hb⟩ => ⟨_, _, _, _, _, _, _, _, he, hb⟩
end

end Go.Proofs.Ytemhoaapapeilaa
