/-
  The document's stock book: two lists; Find, GoodsOf.
-/
import Derived.Test.YthfaaimmfdidnaaAl15
import Derived.Test.YthfaaimmfdidnaaPl15
namespace Go.Proofs.Ythfaaimmfdidnaa
open Go.RowKit Go.WideShapes Go.ChangeShapes Go.ChangeAt Go.Deep
set_option linter.unusedVariables false

theorem info_rg : (Try.prog.info? 102).map (fun i => (i.zero, i.size, i.bytes)) = some (some (.agg #[.int .i64 0, .int .i64 0]), 2, 16) := by kernel_rfl
theorem info_rd : (Try.prog.info? 67).map (fun i => (i.zero, i.size, i.bytes)) = some (some (.agg #[.int .i64 0, .int .i64 0, .slice none 0 0]), 3, 40) := by kernel_rfl
theorem info_rl : (Try.prog.info? 96).map (fun i => (i.zero, i.size, i.bytes)) = some (some (.agg #[.int .i64 0, .int .i64 0]), 2, 16) := by kernel_rfl

/-- The lines that goods' slice reads, in a block of the document's lines. -/
def LnsAt (base : Nat) (w : World) (d : Gd) : Prop := Rd w (some ⟨d.b, 0, none⟩) (d.ls.flatMap enL) ∧ base ≤ d.b ∧ ∃ cs, Blk w d.b 96 cs

/-- The document's book at block R. -/
structure IsRef (base : Nat) (w : World) (R : Nat) (A1 : Option Addr) (c1 : Nat) (is : List (Int × Int)) (A2 : Option Addr) (c2 : Nat) (rs : List Gd) : Prop where
  blk : Blk w R 54 #[.slice A1 is.length c1, .slice A2 rs.length c2]
  own1 : w.ownsRow base 102 2 (.slice A1 is.length c1) is.length (is.flatMap en2)
  own2 : w.ownsRow base 67 3 (.slice A2 rs.length c2) rs.length (rs.flatMap enG3)
  lns : ∀ o ∈ rs, LnsAt base w o
  lt : R < base

section
variable {base R c1 c2 : Nat} {A1 A2 : Option Addr} {is : List (Int × Int)} {rs : List Gd} {w w' : World}
theorem LnsAt.touch {S : Nat → Prop} {o : Gd} (h : LnsAt base w o) (ht : Touch S w w') (hS : ¬ S o.b) : LnsAt base w' o := by
  obtain ⟨h1, h2, cs, h3⟩ := h
  exact ⟨ht.rd h1 (fun b hb => by simp at hb; subst hb; exact hS), h2, cs, ht.blk h3 hS⟩
theorem IsRef.next (h : IsRef base w R A1 c1 is A2 c2 rs) (hb : Below w.heap.size w w') : IsRef base w' R A1 c1 is A2 c2 rs :=
  ⟨h.blk.next hb, h.own1.kept (grown_of_below hb none) (by cases hv : (Value.slice A1 is.length c1).ownBlock <;> simp), h.own2.kept (grown_of_below hb none) (by cases hv : (Value.slice A2 rs.length c2).ownBlock <;> simp),
    fun o ho => (h.lns o ho).touch (S := fun _ => False) (.of_below hb) (fun h => h), h.lt⟩
theorem IsRef.alloc (h : IsRef base w R A1 c1 is A2 c2 rs) (o : Obj) : IsRef base (w.alloc o) R A1 c1 is A2 c2 rs := h.next ((Below.refl _ _).alloc (Nat.le_refl _) o)
theorem IsRef.touch {S : Nat → Prop} (h : IsRef base w R A1 c1 is A2 c2 rs) (ht : Touch S w w') (hS : ∀ k, k = R ∨ base ≤ k ∧ k < w.heap.size → ¬ S k) : IsRef base w' R A1 c1 is A2 c2 rs :=
  ⟨ht.blk h.blk (hS R (.inl rfl)), own_touch h.own1 ht (fun g hg => hS g (.inr (h.own1.lt g hg))), own_touch h.own2 ht (fun g hg => hS g (.inr (h.own2.lt g hg))), fun o ho => (h.lns o ho).touch ht (hS _ (.inr ⟨(h.lns o ho).2.1, by obtain ⟨_, _, cs, h3⟩ := h.lns o ho; exact h3.lt⟩)), h.lt⟩
theorem IsRef.cell0 (h : IsRef base w R A1 c1 is A2 c2 rs) : w.cell? ⟨R, 0, none⟩ = some (.slice A1 is.length c1) := h.blk.cell 0
theorem IsRef.cell1 (h : IsRef base w R A1 c1 is A2 c2 rs) : w.cell? ⟨R, 1, none⟩ = some (.slice A2 rs.length c2) := h.blk.cell 1
theorem IsRef.elem1 (h : IsRef base w R A1 c1 is A2 c2 rs) {k : Nat} {y : Int × Int} (hk : is[k]? = some y) : ∃ g, A1 = some ⟨g, 0, none⟩ ∧ base ≤ g ∧ CellsAt w g (k * 2) (en2 y) := by
  have hkl := (List.getElem?_eq_some_iff.1 hk).1
  obtain ⟨g, cap', e, hb, hlt⟩ := own_form h.own1 (by omega)
  injection e with e1 e2 e3
  subst e1 e3
  exact ⟨g, rfl, hb, hlt, fun j u hu => own_cells en2_len h.own1 hk hu⟩
theorem IsRef.elem2 (h : IsRef base w R A1 c1 is A2 c2 rs) {k : Nat} {y : Gd} (hk : rs[k]? = some y) : ∃ g, A2 = some ⟨g, 0, none⟩ ∧ base ≤ g ∧ CellsAt w g (k * 3) (enG3 y) := by
  have hkl := (List.getElem?_eq_some_iff.1 hk).1
  obtain ⟨g, cap', e, hb, hlt⟩ := own_form h.own2 (by omega)
  injection e with e1 e2 e3
  subst e1 e3
  exact ⟨g, rfl, hb, hlt, fun j u hu => own_cells enG3_len h.own2 hk hu⟩

def isI (id : Int) (y : Int × Int) : Bool := decide (y.1 = id)
def isD (id : Int) (y : Gd) : Bool := decide (y.o = id)

set_option maxRecDepth 100000 in
set_option maxHeartbeats 4000000 in
theorem rfind_any (h : IsRef base w R A1 c1 is A2 c2 rs) (id : Int) (hl : is.length ≤ 140737488355328) :
    Calls Try.prog 51 #[.pointer (some ⟨R, 0, none⟩), .int .i64 id] w fun e w' => e = .returned (.int .i64 (plc (isI id) is)) ∧ w = w' := by
  go_enter Try.func51, Try.ntmps51
  go_wp2_with fail
  go_loop [5] (fun i => ∃ k : Nat, k ≤ is.length ∧ i = .int .i64 k ∧ Hid (∀ j y, j < k → is[j]? = some y → isI id y = false)) (fun i => is.length - nOf i)
  case atStart => exact ⟨0, Nat.zero_le _, rfl, hid (fun j y hj => by omega)⟩
  case round =>
    obtain ⟨k, hk, rfl, hP⟩ := hrel
    have c0 := h.cell0
    by_cases hlt : k < is.length
    · obtain ⟨y, hy⟩ : ∃ y, is[k]? = some y := ⟨is[k], List.getElem?_eq_getElem hlt⟩
      obtain ⟨g, rfl, _, hpr⟩ := h.elem1 hy
      have HY := hid hy
      obtain ⟨yi, yl⟩ := y
      have p0 : w.cell? ⟨g, k * 2, none⟩ = some (.int .i64 yi) := hpr.2 0 _ rfl
      clear hy hpr
      by_cases e : yi = id
      · subst e
        have HV := hid (plc_some (p := isI yi) HY.out (by simp [isI]) hP.out)
        clear hP HY
        go_wp2_with fail
        go_ret
        rw [HV.out]; exact ⟨rfl, rfl⟩
      · have b2 : (yi == id) = false := by simpa using e
        have HN := hid (show isI id (yi, yl) = false from by simpa [isI] using e)
        clear e
        go_wp2_with fail
        go_round
        case rel => exact ⟨k + 1, by omega, by go_num, hid (fun j z hj hz => by
          by_cases e : j = k
          · subst e; rw [HY.out] at hz; injection hz with hz; subst hz; exact HN.out
          · exact hP.out j z (by omega) hz)⟩
        case measure => simp [nOf]; omega
    · have HV := hid (plc_none (p := isI id) (l := is) (fun y hy => by
        obtain ⟨j, hj⟩ := List.mem_iff_getElem?.1 hy
        exact hP.out j y (by have := (List.getElem?_eq_some_iff.1 hj).1; omega) hj))
      have hk' : k = is.length := by omega
      subst hk'
      clear hP hk hlt
      go_wp2_with fail
      go_ret
      rw [HV.out]; exact ⟨rfl, rfl⟩

set_option maxRecDepth 100000 in
set_option maxHeartbeats 4000000 in
theorem rgoodsOf_any (h : IsRef base w R A1 c1 is A2 c2 rs) (id : Int) (hl : rs.length ≤ 140737488355328) :
    Calls Try.prog 44 #[.pointer (some ⟨R, 0, none⟩), .int .i64 id] w fun e w' => e = .returned (.int .i64 (plc (isD id) rs)) ∧ w = w' := by
  go_enter Try.func44, Try.ntmps44
  go_wp2_with fail
  go_loop [5] (fun i => ∃ k : Nat, k ≤ rs.length ∧ i = .int .i64 k ∧ Hid (∀ j y, j < k → rs[j]? = some y → isD id y = false)) (fun i => rs.length - nOf i)
  case atStart => exact ⟨0, Nat.zero_le _, rfl, hid (fun j y hj => by omega)⟩
  case round =>
    obtain ⟨k, hk, rfl, hP⟩ := hrel
    have c0 := h.cell1
    by_cases hlt : k < rs.length
    · obtain ⟨y, hy⟩ : ∃ y, rs[k]? = some y := ⟨rs[k], List.getElem?_eq_getElem hlt⟩
      obtain ⟨g, rfl, _, hpr⟩ := h.elem2 hy
      have HY := hid hy
      obtain ⟨yg, yi, yst, yb, ycp, yls⟩ := y
      have p0 : w.cell? ⟨g, k * 3, none⟩ = some (.int .i64 yi) := hpr.2 0 _ rfl
      clear hy hpr
      by_cases e : yi = id
      · subst e
        have HV := hid (plc_some (p := isD yi) HY.out (by simp [isD]) hP.out)
        clear hP HY
        go_wp2_with fail
        go_ret
        rw [HV.out]; exact ⟨rfl, rfl⟩
      · have b2 : (yi == id) = false := by simpa using e
        have HN := hid (show isD id (⟨yg, yi, yst, yb, ycp, yls⟩ : Gd) = false from by simpa [isD] using e)
        clear e
        go_wp2_with fail
        go_round
        case rel => exact ⟨k + 1, by omega, by go_num, hid (fun j z hj hz => by
          by_cases e : j = k
          · subst e; rw [HY.out] at hz; injection hz with hz; subst hz; exact HN.out
          · exact hP.out j z (by omega) hz)⟩
        case measure => simp [nOf]; omega
    · have HV := hid (plc_none (p := isD id) (l := rs) (fun y hy => by
        obtain ⟨j, hj⟩ := List.mem_iff_getElem?.1 hy
        exact hP.out j y (by have := (List.getElem?_eq_some_iff.1 hj).1; omega) hj))
      have hk' : k = rs.length := by omega
      subst hk'
      clear hP hk hlt
      go_wp2_with fail
      go_ret
      rw [HV.out]; exact ⟨rfl, rfl⟩

/-- How many of an item the goods in this state are, of a list. -/
def sqL (st : Int) : List Gd → Int → Int
  | [], _ => 0
  | d :: l, id => (if d.st = st then qOf d.ls id else 0) + sqL st l id
theorem sqL_append (st : Int) (l r : List Gd) (id : Int) : sqL st (l ++ r) id = sqL st l id + sqL st r id := by
  induction l with
  | nil => simp [sqL]
  | cons d l ih => simp only [List.cons_append, sqL, ih]; omega
theorem sqL_perm {st : Int} {l r : List Gd} (h : l.Perm r) (id : Int) : sqL st l id = sqL st r id := by
  induction h with
  | nil => rfl
  | cons x _ ih => simp only [sqL, ih]
  | swap x y l => simp only [sqL]; omega
  | trans _ _ h1 h2 => exact h1.trans h2
theorem sqL_bare (st : Int) (l : List Gd) (id : Int) : sqL st (l.map bareG) id = sqL st l id := by
  induction l with
  | nil => rfl
  | cons d l ih => simp only [List.map_cons, sqL, ih]; rfl
theorem sq_sqL (st : Int) (gs : List (Int × Gd)) (id : Int) : sq st gs id = sqL st (gs.map (·.2)) id := by
  induction gs with
  | nil => rfl
  | cons p l ih => simp only [List.map_cons, sqL, sq, ih]
theorem sqL_bd : ∀ {l : List Gd}, (∀ d ∈ l, ∀ k, LnOk d.ls k) → ∀ st id, 0 ≤ sqL st l id ∧ sqL st l id ≤ 1000000 * l.length := by
  intro l
  induction l with
  | nil => intro _ st id; simp [sqL]
  | cons p l ih =>
    intro h st id
    have h1 := ih (fun q hq => h q (by simp [hq])) st id
    have h2 := lines_pw (h p (by simp))
    have h3 := qOf_bd h2.1 h2.2 id
    simp only [sqL, List.length_cons]
    split <;> omega
end

end Go.Proofs.Ythfaaimmfdidnaa
