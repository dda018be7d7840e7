/-
  The document's credit book: two lists; Find, HeldFor, Exposure.
-/
import Derived.Test.YtpofhadeepgmbaaPl14
import Derived.Test.YtpofhadeepgmbaaOwn
import Derived.Test.YtpofhadeepgmbaaColl14
import Derived.Test.YtpofhadeepgmbaaIn
namespace Go.Proofs.Ytpofhadeepgmbaa
open Go.RowKit Go.WideShapes Go.ChangeShapes Go.ChangeAt Go.Deep
set_option linter.unusedVariables false

theorem info_pa : (Try.prog.info? 58).map (fun i => (i.zero, i.size, i.bytes)) = some (some (.agg #[.int .i64 0, .int .i64 0]), 2, 16) := by kernel_rfl
theorem info_rh : (Try.prog.info? 59).map (fun i => (i.zero, i.size, i.bytes)) = some (some (.agg #[.int .i64 0, .int .i64 0, .int .i64 0]), 3, 24) := by kernel_rfl

/-- The document's book at block R. -/
structure IsRef (base : Nat) (w : World) (R : Nat) (A1 : Option Addr) (c1 : Nat) (ps : List Pa) (A2 : Option Addr) (c2 : Nat) (hr : List Hd) : Prop where
  blk : Blk w R 50 #[.slice A1 ps.length c1, .slice A2 hr.length c2]
  own1 : w.ownsRow base 58 2 (.slice A1 ps.length c1) ps.length (ps.flatMap enP)
  own2 : w.ownsRow base 59 3 (.slice A2 hr.length c2) hr.length (hr.flatMap enH3)
  lt : R < base

section
variable {base R c1 c2 : Nat} {A1 A2 : Option Addr} {ps : List Pa} {hr : List Hd} {w w' : World}
theorem IsRef.next (h : IsRef base w R A1 c1 ps A2 c2 hr) (hb : Below w.heap.size w w') : IsRef base w' R A1 c1 ps A2 c2 hr :=
  ⟨h.blk.next hb, h.own1.kept (grown_of_below hb none) (by cases hv : (Value.slice A1 ps.length c1).ownBlock <;> simp), h.own2.kept (grown_of_below hb none) (by cases hv : (Value.slice A2 hr.length c2).ownBlock <;> simp), h.lt⟩
theorem IsRef.alloc (h : IsRef base w R A1 c1 ps A2 c2 hr) (o : Obj) : IsRef base (w.alloc o) R A1 c1 ps A2 c2 hr := h.next ((Below.refl _ _).alloc (Nat.le_refl _) o)
theorem IsRef.touch {S : Nat → Prop} (h : IsRef base w R A1 c1 ps A2 c2 hr) (ht : Touch S w w') (hS : ∀ k, k = R ∨ base ≤ k ∧ k < w.heap.size → ¬ S k) : IsRef base w' R A1 c1 ps A2 c2 hr :=
  ⟨ht.blk h.blk (hS R (.inl rfl)), own_touch h.own1 ht (fun g hg => hS g (.inr (h.own1.lt g hg))), own_touch h.own2 ht (fun g hg => hS g (.inr (h.own2.lt g hg))), h.lt⟩
theorem IsRef.cell0 (h : IsRef base w R A1 c1 ps A2 c2 hr) : w.cell? ⟨R, 0, none⟩ = some (.slice A1 ps.length c1) := h.blk.cell 0
theorem IsRef.cell1 (h : IsRef base w R A1 c1 ps A2 c2 hr) : w.cell? ⟨R, 1, none⟩ = some (.slice A2 hr.length c2) := h.blk.cell 1
theorem IsRef.elem1 (h : IsRef base w R A1 c1 ps A2 c2 hr) {k : Nat} {y : Pa} (hk : ps[k]? = some y) : ∃ g, A1 = some ⟨g, 0, none⟩ ∧ base ≤ g ∧ CellsAt w g (k * 2) (enP y) := by
  have hkl := (List.getElem?_eq_some_iff.1 hk).1
  obtain ⟨g, cap', e, hb, hlt⟩ := own_form h.own1 (by omega)
  injection e with e1 e2 e3
  subst e1 e3
  exact ⟨g, rfl, hb, hlt, fun j u hu => own_cells enP_len h.own1 hk hu⟩
theorem IsRef.elem2 (h : IsRef base w R A1 c1 ps A2 c2 hr) {k : Nat} {y : Hd} (hk : hr[k]? = some y) : ∃ g, A2 = some ⟨g, 0, none⟩ ∧ base ≤ g ∧ CellsAt w g (k * 3) (enH3 y) := by
  have hkl := (List.getElem?_eq_some_iff.1 hk).1
  obtain ⟨g, cap', e, hb, hlt⟩ := own_form h.own2 (by omega)
  injection e with e1 e2 e3
  subst e1 e3
  exact ⟨g, rfl, hb, hlt, fun j u hu => own_cells enH3_len h.own2 hk hu⟩

set_option maxRecDepth 100000 in
set_option maxHeartbeats 4000000 in
theorem rfind_any (h : IsRef base w R A1 c1 ps A2 c2 hr) (id : Int) (hl : ps.length ≤ 140737488355328) :
    Calls Try.prog 30 #[.pointer (some ⟨R, 0, none⟩), .int .i64 id] w fun e w' => e = .returned (.int .i64 (plc (isP id) ps)) ∧ w = w' := by
  go_enter Try.func30, Try.ntmps30
  go_wp2_with fail
  go_loop [5] (fun i => ∃ k : Nat, k ≤ ps.length ∧ i = .int .i64 k ∧ Hid (∀ j y, j < k → ps[j]? = some y → isP id y = false)) (fun i => ps.length - nOf i)
  case atStart => exact ⟨0, Nat.zero_le _, rfl, hid (fun j y hj => by omega)⟩
  case round =>
    obtain ⟨k, hk, rfl, hP⟩ := hrel
    have c0 := h.cell0
    by_cases hlt : k < ps.length
    · obtain ⟨y, hy⟩ : ∃ y, ps[k]? = some y := ⟨ps[k], List.getElem?_eq_getElem hlt⟩
      obtain ⟨g, rfl, _, hpr⟩ := h.elem1 hy
      have HY := hid hy
      obtain ⟨yi, yl⟩ := y
      have p0 : w.cell? ⟨g, k * 2, none⟩ = some (.int .i64 yi) := hpr.2 0 _ rfl
      clear hy hpr
      by_cases e : yi = id
      · subst e
        have HV := hid (plc_some (p := isP yi) HY.out (by simp [isP]) hP.out)
        clear hP HY
        go_wp2_with fail
        go_ret
        rw [HV.out]; exact ⟨rfl, rfl⟩
      · have b2 : (yi == id) = false := by simpa using e
        have HN := hid (show isP id (⟨yi, yl⟩ : Pa) = false from by simpa [isP] using e)
        clear e
        go_wp2_with fail
        go_round
        case rel => exact ⟨k + 1, by omega, by go_num, hid (fun j z hj hz => by
          by_cases e : j = k
          · subst e; rw [HY.out] at hz; injection hz with hz; subst hz; exact HN.out
          · exact hP.out j z (by omega) hz)⟩
        case measure => simp [nOf]; omega
    · have HV := hid (plc_none (p := isP id) (l := ps) (fun y hy => by
        obtain ⟨j, hj⟩ := List.mem_iff_getElem?.1 hy
        exact hP.out j y (by have := (List.getElem?_eq_some_iff.1 hj).1; omega) hj))
      have hk' : k = ps.length := by omega
      subst hk'
      clear hP hk hlt
      go_wp2_with fail
      go_ret
      rw [HV.out]; exact ⟨rfl, rfl⟩

set_option maxRecDepth 100000 in
set_option maxHeartbeats 4000000 in
theorem rheldFor_any (h : IsRef base w R A1 c1 ps A2 c2 hr) (id : Int) (hl : hr.length ≤ 140737488355328) :
    Calls Try.prog 34 #[.pointer (some ⟨R, 0, none⟩), .int .i64 id] w fun e w' => e = .returned (.int .i64 (plc (isO id) hr)) ∧ w = w' := by
  go_enter Try.func34, Try.ntmps34
  go_wp2_with fail
  go_loop [5] (fun i => ∃ k : Nat, k ≤ hr.length ∧ i = .int .i64 k ∧ Hid (∀ j y, j < k → hr[j]? = some y → isO id y = false)) (fun i => hr.length - nOf i)
  case atStart => exact ⟨0, Nat.zero_le _, rfl, hid (fun j y hj => by omega)⟩
  case round =>
    obtain ⟨k, hk, rfl, hP⟩ := hrel
    have c0 := h.cell1
    by_cases hlt : k < hr.length
    · obtain ⟨y, hy⟩ : ∃ y, hr[k]? = some y := ⟨hr[k], List.getElem?_eq_getElem hlt⟩
      obtain ⟨g, rfl, _, hpr⟩ := h.elem2 hy
      have HY := hid hy
      obtain ⟨yi, yc, ya⟩ := y
      have p0 : w.cell? ⟨g, k * 3, none⟩ = some (.int .i64 yi) := hpr.2 0 _ rfl
      clear hy hpr
      by_cases e : yi = id
      · subst e
        have HV := hid (plc_some (p := isO yi) HY.out (by simp [isO]) hP.out)
        clear hP HY
        go_wp2_with fail
        go_ret
        rw [HV.out]; exact ⟨rfl, rfl⟩
      · have b2 : (yi == id) = false := by simpa using e
        have HN := hid (show isO id (⟨yi, yc, ya⟩ : Hd) = false from by simpa [isO] using e)
        clear e
        go_wp2_with fail
        go_round
        case rel => exact ⟨k + 1, by omega, by go_num, hid (fun j z hj hz => by
          by_cases e : j = k
          · subst e; rw [HY.out] at hz; injection hz with hz; subst hz; exact HN.out
          · exact hP.out j z (by omega) hz)⟩
        case measure => simp [nOf]; omega
    · have HV := hid (plc_none (p := isO id) (l := hr) (fun y hy => by
        obtain ⟨j, hj⟩ := List.mem_iff_getElem?.1 hy
        exact hP.out j y (by have := (List.getElem?_eq_some_iff.1 hj).1; omega) hj))
      have hk' : k = hr.length := by omega
      subst hk'
      clear hP hk hlt
      go_wp2_with fail
      go_ret
      rw [HV.out]; exact ⟨rfl, rfl⟩

theorem sumC_snoc {l : List Hd} {k : Nat} {y : Hd} (hk : l[k]? = some y) (c : Int) : sumC (l.take (k + 1)) c = sumC (l.take k) c + (if y.c = c then y.a else 0) := by
  rw [List.take_add_one, hk, sumC_append]
  simp [sumC]
theorem sumC_take {l : List Hd} (hn : ∀ d ∈ l, 0 ≤ d.a) (k : Nat) (c : Int) : 0 ≤ sumC (l.take k) c ∧ sumC (l.take k) c ≤ sumC l c := by
  have h1 := sumC_nonneg (l := l.take k) (fun d hd => hn d (List.mem_of_mem_take hd)) c
  have h2 := sumC_nonneg (l := l.drop k) (fun d hd => hn d (List.mem_of_mem_drop hd)) c
  have h3 := sumC_append (l.take k) (l.drop k) c
  rw [List.take_append_drop] at h3
  omega

set_option maxRecDepth 100000 in
set_option maxHeartbeats 4000000 in
theorem rexposure_any (h : IsRef base w R A1 c1 ps A2 c2 hr) (id : Int) (hl : hr.length ≤ 140737488355328) (hn : ∀ d ∈ hr, 0 ≤ d.a) (hs : sumC hr id ≤ 1125899906842624) :
    Calls Try.prog 31 #[.pointer (some ⟨R, 0, none⟩), .int .i64 id] w fun e w' => e = .returned (.int .i64 (sumC hr id)) ∧ w = w' := by
  have HS := hid (And.intro hn hs)
  clear hn hs
  go_enter Try.func31, Try.ntmps31
  go_wp2_with fail
  go_loop [5, 6] (fun n i => ∃ k : Nat, k ≤ hr.length ∧ i = .int .i64 k ∧ n = .int .i64 (sumC (hr.take k) id)) (fun _ i => hr.length - nOf i)
  case atStart => exact ⟨0, Nat.zero_le _, rfl, rfl⟩
  case round =>
    obtain ⟨k, hk, rfl, rfl⟩ := hrel
    have c0 := h.cell1
    by_cases hlt : k < hr.length
    · obtain ⟨y, hy⟩ : ∃ y, hr[k]? = some y := ⟨hr[k], List.getElem?_eq_getElem hlt⟩
      obtain ⟨g, rfl, _, hpr⟩ := h.elem2 hy
      obtain ⟨yi, yc, ya⟩ := y
      have p1 : w.cell? ⟨g, k * 3 + 1, none⟩ = some (.int .i64 yc) := hpr.2 1 _ rfl
      have p2 : w.cell? ⟨g, k * 3 + 2, none⟩ = some (.int .i64 ya) := hpr.2 2 _ rfl
      obtain ⟨b1, b2⟩ := sumC_take HS.out.1 k id
      obtain ⟨b3, b4⟩ := sumC_take HS.out.1 (k + 1) id
      have b5 := HS.out.2
      have b6 := HS.out.1 _ (List.mem_of_getElem? hy)
      have HV := sumC_snoc hy id
      simp only at HV b6
      clear hy hpr
      by_cases e : yc = id
      · subst e
        rw [if_pos rfl] at HV
        have b7 : 0 ≤ sumC (hr.take k) yc + ya := by omega
        have b8 : sumC (hr.take k) yc + ya ≤ 1125899906842624 := by omega
        replace HV := hid HV
        clear b1 b2 b3 b4 b5
        go_wp2_with fail
        go_round
        case rel => exact ⟨k + 1, by omega, by go_num, by rw [HV.out]⟩
        case measure => simp [nOf]; omega
      · rw [if_neg e] at HV
        have b7 : (yc == id) = false := by simpa using e
        replace HV := hid HV
        clear e b1 b2 b3 b4 b5
        go_wp2_with fail
        go_round
        case rel => exact ⟨k + 1, by omega, by go_num, by rw [HV.out, Int.add_zero]⟩
        case measure => simp [nOf]; omega
    · have hk' : k = hr.length := by omega
      subst hk'
      clear hk hlt
      go_wp2_with fail
      go_ret
      exact ⟨rfl, rfl⟩
end

end Go.Proofs.Ytpofhadeepgmbaa
