/-
  The document's orders' book: two lists; Price, Find.
-/
import Derived.Test.YtdgoifnhlpjnpaaOall
namespace Go.Proofs.Ytdgoifnhlpjnpaa
open Go.RowKit Go.WideShapes Go.ChangeShapes Go.ChangeAt Go.Deep
set_option linter.unusedVariables false

theorem info_ri : (Try.prog.info? 63).map (fun i => (i.zero, i.size, i.bytes)) = some (some (.agg #[.int .i64 0, .int .i64 0]), 2, 16) := by kernel_rfl
theorem info_ro : (Try.prog.info? 67).map (fun i => (i.zero, i.size, i.bytes)) = some (some zO, 6, 72) := by kernel_rfl

/-- The lines that an order's slice reads, in a block of the document's lines. -/
def LnsAt (base : Nat) (w : World) (o : Od) : Prop := Rd w (some ⟨o.b, 0, none⟩) (o.ls.flatMap enL) ∧ base ≤ o.b ∧ ∃ cs, Blk w o.b 88 cs

/-- The document's book at block R. -/
structure IsRef (base : Nat) (w : World) (R : Nat) (A1 : Option Addr) (c1 : Nat) (is : List (Int × Int)) (A2 : Option Addr) (c2 : Nat) (rs : List Od) : Prop where
  blk : Blk w R 58 #[.slice A1 is.length c1, .slice A2 rs.length c2]
  own1 : w.ownsRow base 63 2 (.slice A1 is.length c1) is.length (is.flatMap en2)
  own2 : w.ownsRow base 67 6 (.slice A2 rs.length c2) rs.length (rs.flatMap enO6)
  lns : ∀ o ∈ rs, LnsAt base w o
  lt : R < base

section
variable {base R c1 c2 : Nat} {A1 A2 : Option Addr} {is : List (Int × Int)} {rs : List Od} {w w' : World}
theorem LnsAt.touch {S : Nat → Prop} {o : Od} (h : LnsAt base w o) (ht : Touch S w w') (hS : ¬ S o.b) : LnsAt base w' o := by
  obtain ⟨h1, h2, cs, h3⟩ := h
  exact ⟨ht.rd h1 (fun b hb => by simp at hb; subst hb; exact hS), h2, cs, ht.blk h3 hS⟩
theorem IsRef.next (h : IsRef base w R A1 c1 is A2 c2 rs) (hb : Below w.heap.size w w') : IsRef base w' R A1 c1 is A2 c2 rs :=
  ⟨h.blk.next hb, h.own1.kept (grown_of_below hb none) (by cases hv : (Value.slice A1 is.length c1).ownBlock <;> simp), h.own2.kept (grown_of_below hb none) (by cases hv : (Value.slice A2 rs.length c2).ownBlock <;> simp),
    fun o ho => (h.lns o ho).touch (S := fun _ => False) (.of_below hb) (fun h => h), h.lt⟩
theorem IsRef.cell0 (h : IsRef base w R A1 c1 is A2 c2 rs) : w.cell? ⟨R, 0, none⟩ = some (.slice A1 is.length c1) := h.blk.cell 0
theorem IsRef.cell1 (h : IsRef base w R A1 c1 is A2 c2 rs) : w.cell? ⟨R, 1, none⟩ = some (.slice A2 rs.length c2) := h.blk.cell 1
theorem IsRef.elem1 (h : IsRef base w R A1 c1 is A2 c2 rs) {k : Nat} {y : Int × Int} (hk : is[k]? = some y) : ∃ g, A1 = some ⟨g, 0, none⟩ ∧ base ≤ g ∧ CellsAt w g (k * 2) (en2 y) := by
  have hkl := (List.getElem?_eq_some_iff.1 hk).1
  obtain ⟨g, cap', e, hb, hlt⟩ := own_form h.own1 (by omega)
  injection e with e1 e2 e3
  subst e1 e3
  exact ⟨g, rfl, hb, hlt, fun j u hu => own_cells en2_len h.own1 hk hu⟩
theorem IsRef.elem2 (h : IsRef base w R A1 c1 is A2 c2 rs) {k : Nat} {y : Od} (hk : rs[k]? = some y) : ∃ g, A2 = some ⟨g, 0, none⟩ ∧ base ≤ g ∧ CellsAt w g (k * 6) (enO6 y) := by
  have hkl := (List.getElem?_eq_some_iff.1 hk).1
  obtain ⟨g, cap', e, hb, hlt⟩ := own_form h.own2 (by omega)
  injection e with e1 e2 e3
  subst e1 e3
  exact ⟨g, rfl, hb, hlt, fun j u hu => own_cells enO6_len h.own2 hk hu⟩

def isI (id : Int) (y : Int × Int) : Bool := decide (y.1 = id)
def isD (id : Int) (y : Od) : Bool := decide (y.i = id)

set_option maxRecDepth 100000 in
set_option maxHeartbeats 4000000 in
theorem rprice_any (h : IsRef base w R A1 c1 is A2 c2 rs) (id : Int) (hl : is.length ≤ 140737488355328) :
    Calls Try.prog 41 #[.pointer (some ⟨R, 0, none⟩), .int .i64 id] w fun e w' => e = .returned (.int .i64 (plc (isI id) is)) ∧ w = w' := by
  go_enter Try.func41, Try.ntmps41
  go_wp2_with fail
  go_loop [5] (fun i => ∃ k : Nat, k ≤ is.length ∧ i = .int .i64 k ∧ Hid (∀ j y, j < k → is[j]? = some y → isI id y = false)) (fun i => is.length - nOf i)
  case atStart => exact ⟨0, Nat.zero_le _, rfl, hid (fun j y hj => by omega)⟩
  case round =>
    obtain ⟨k, hk, rfl, hP⟩ := hrel
    have c0 := h.cell0
    by_cases hlt : k < is.length
    · obtain ⟨y, hy⟩ : ∃ y, is[k]? = some y := ⟨is[k], List.getElem?_eq_getElem hlt⟩
      obtain ⟨g, rfl, _, hpr⟩ := h.elem1 hy
      have HY := hid hy
      obtain ⟨yi, yl⟩ := y
      have p0 : w.cell? ⟨g, k * 2, none⟩ = some (.int .i64 yi) := hpr.2 0 _ rfl
      clear hy hpr
      by_cases e : yi = id
      · subst e
        have HV := hid (plc_some (p := isI yi) HY.out (by simp [isI]) hP.out)
        clear hP HY
        go_wp2_with fail
        go_ret
        rw [HV.out]; exact ⟨rfl, rfl⟩
      · have b2 : (yi == id) = false := by simpa using e
        have HN := hid (show isI id (yi, yl) = false from by simpa [isI] using e)
        clear e
        go_wp2_with fail
        go_round
        case rel => exact ⟨k + 1, by omega, by go_num, hid (fun j z hj hz => by
          by_cases e : j = k
          · subst e; rw [HY.out] at hz; injection hz with hz; subst hz; exact HN.out
          · exact hP.out j z (by omega) hz)⟩
        case measure => simp [nOf]; omega
    · have HV := hid (plc_none (p := isI id) (l := is) (fun y hy => by
        obtain ⟨j, hj⟩ := List.mem_iff_getElem?.1 hy
        exact hP.out j y (by have := (List.getElem?_eq_some_iff.1 hj).1; omega) hj))
      have hk' : k = is.length := by omega
      subst hk'
      clear hP hk hlt
      go_wp2_with fail
      go_ret
      rw [HV.out]; exact ⟨rfl, rfl⟩

set_option maxRecDepth 100000 in
set_option maxHeartbeats 4000000 in
theorem rfindO_any (h : IsRef base w R A1 c1 is A2 c2 rs) (id : Int) (hl : rs.length ≤ 140737488355328) :
    Calls Try.prog 32 #[.pointer (some ⟨R, 0, none⟩), .int .i64 id] w fun e w' => e = .returned (.int .i64 (plc (isD id) rs)) ∧ w = w' := by
  go_enter Try.func32, Try.ntmps32
  go_wp2_with fail
  go_loop [5] (fun i => ∃ k : Nat, k ≤ rs.length ∧ i = .int .i64 k ∧ Hid (∀ j y, j < k → rs[j]? = some y → isD id y = false)) (fun i => rs.length - nOf i)
  case atStart => exact ⟨0, Nat.zero_le _, rfl, hid (fun j y hj => by omega)⟩
  case round =>
    obtain ⟨k, hk, rfl, hP⟩ := hrel
    have c0 := h.cell1
    by_cases hlt : k < rs.length
    · obtain ⟨y, hy⟩ : ∃ y, rs[k]? = some y := ⟨rs[k], List.getElem?_eq_getElem hlt⟩
      obtain ⟨g, rfl, _, hpr⟩ := h.elem2 hy
      have HY := hid hy
      obtain ⟨yi, yc, yf, yb, ycp, yls, yn, yt⟩ := y
      have p0 : w.cell? ⟨g, k * 6, none⟩ = some (.int .i64 yi) := hpr.2 0 _ rfl
      clear hy hpr
      by_cases e : yi = id
      · subst e
        have HV := hid (plc_some (p := isD yi) HY.out (by simp [isD]) hP.out)
        clear hP HY
        go_wp2_with fail
        go_ret
        rw [HV.out]; exact ⟨rfl, rfl⟩
      · have b2 : (yi == id) = false := by simpa using e
        have HN := hid (show isD id (⟨yi, yc, yf, yb, ycp, yls, yn, yt⟩ : Od) = false from by simpa [isD] using e)
        clear e
        go_wp2_with fail
        go_round
        case rel => exact ⟨k + 1, by omega, by go_num, hid (fun j z hj hz => by
          by_cases e : j = k
          · subst e; rw [HY.out] at hz; injection hz with hz; subst hz; exact HN.out
          · exact hP.out j z (by omega) hz)⟩
        case measure => simp [nOf]; omega
    · have HV := hid (plc_none (p := isD id) (l := rs) (fun y hy => by
        obtain ⟨j, hj⟩ := List.mem_iff_getElem?.1 hy
        exact hP.out j y (by have := (List.getElem?_eq_some_iff.1 hj).1; omega) hj))
      have hk' : k = rs.length := by omega
      subst hk'
      clear hP hk hlt
      go_wp2_with fail
      go_ret
      rw [HV.out]; exact ⟨rfl, rfl⟩
end

end Go.Proofs.Ytdgoifnhlpjnpaa
