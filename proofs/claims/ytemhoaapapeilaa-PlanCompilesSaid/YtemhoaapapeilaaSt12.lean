/-
  Definitions of flows: a step; may it stand by itself?
-/
import Derived.Test.YtemhoaapapeilaaUn12
import Derived.Test.YtemhoaapapeilaaTouch
namespace Go.Proofs.Ytemhoaapapeilaa
open Go.RowKit Go.WideShapes Go.ChangeShapes Go.ChangeAt Go.Deep
set_option linter.unusedVariables false

/-- A step, and where the names lie that it waits for. -/
structure Stp where
  name : ByteArray
  verb : ByteArray
  undo : ByteArray
  event : ByteArray
  fin : Bool
  ret : Int
  ev : Int
  wi : Int
  A : Option Addr
  cap : Nat
  after : List ByteArray
def enSt (s : Stp) : List Value := [.string s.name, .string s.verb, .string s.undo, .string s.event, .bool s.fin, .int .i64 s.ret, .int .i64 s.ev, .int .i64 s.wi, .slice s.A s.after.length s.cap]
theorem enSt_len (s : Stp) : (enSt s).length = 9 := rfl
/-- May the step stand by itself? -/
def oneN (s : Stp) : Int :=
  if s.event.toList.isEmpty = true then
    if (undoN s.verb).2.1 = true then
      if (s.undo.toList == (undoN s.verb).1.toList) = true then (if s.fin = (undoN s.verb).2.2 then 0 else 112) else 112
    else 111
  else if (s.event.toList == [112, 97, 105, 100]) = true then 0 else 111

set_option maxRecDepth 100000 in
set_option maxHeartbeats 8000000 in
theorem step_one (s : Stp) (w : World) : Calls Try.prog 44 #[.agg (enSt s).toArray] w fun e w' => e = .returned (.int .i64 (oneN s)) ∧ Below w.heap.size w w' := by
  obtain ⟨xn, xv, xu, xe, xf, xr, xy, xw, xA, xc, xl⟩ := s
  have earr : (enSt ⟨xn, xv, xu, xe, xf, xr, xy, xw, xA, xc, xl⟩).toArray = #[.string xn, .string xv, .string xu, .string xe, .bool xf, .int .i64 xr, .int .i64 xy, .int .i64 xw, .slice xA xl.length xc] := rfl
  rw [earr]
  clear earr
  have HB : Hid (Below w.heap.size w (w.alloc (.cells #[.string xn, .string xv, .string xu, .string xe, .bool xf, .int .i64 xr, .int .i64 xy, .int .i64 xw, .slice xA xl.length xc] 34))) := hid ((Below.refl _ _).alloc (Nat.le_refl _) _)
  cases he : xe.toList.isEmpty with
  | false =>
    cases hp : (xe.toList == [112, 97, 105, 100]) with
    | true =>
      have HV := hid (show oneN ⟨xn, xv, xu, xe, xf, xr, xy, xw, xA, xc, xl⟩ = 0 from by simp [oneN, he, hp])
      go_enter Try.func44, Try.ntmps44
      go_wp2_with fail
      go_ret
      exact ⟨by rw [HV.out]; rfl, HB.out⟩
    | false =>
      have HV := hid (show oneN ⟨xn, xv, xu, xe, xf, xr, xy, xw, xA, xc, xl⟩ = 111 from by simp [oneN, he, hp])
      go_enter Try.func44, Try.ntmps44
      go_wp2_with fail
      go_ret
      exact ⟨by rw [HV.out]; rfl, HB.out⟩
  | true =>
    have hu' : ∃ u kn fi, undoN xv = (u, kn, fi) := ⟨_, _, _, rfl⟩
    obtain ⟨u, kn, fi, hu⟩ := hu'
    cases kn with
    | false =>
      have HV := hid (show oneN ⟨xn, xv, xu, xe, xf, xr, xy, xw, xA, xc, xl⟩ = 111 from by simp [oneN, he, hu])
      go_enter Try.func44, Try.ntmps44
      go_wp2_with fail
      refine (undo_any xv _).mono ?_
      rintro e w2 ⟨rfl, rfl⟩
      rw [hu]
      go_wp2_with fail
      go_ret
      exact ⟨by rw [HV.out]; rfl, HB.out⟩
    | true =>
      cases hq : (xu.toList == u.toList) with
      | false =>
        have HV := hid (show oneN ⟨xn, xv, xu, xe, xf, xr, xy, xw, xA, xc, xl⟩ = 112 from by simp [oneN, he, hu, hq])
        go_enter Try.func44, Try.ntmps44
        go_wp2_with fail
        refine (undo_any xv _).mono ?_
        rintro e w2 ⟨rfl, rfl⟩
        rw [hu]
        go_wp2_with fail
        go_ret
        exact ⟨by rw [HV.out]; rfl, HB.out⟩
      | true =>
        cases xf with
        | false =>
          cases fi with
          | false =>
            have HV := hid (show oneN ⟨xn, xv, xu, xe, false, xr, xy, xw, xA, xc, xl⟩ = 0 from by simp [oneN, he, hu, hq])
            go_enter Try.func44, Try.ntmps44
            go_wp2_with fail
            refine (undo_any xv _).mono ?_
            rintro e w2 ⟨rfl, rfl⟩
            rw [hu]
            go_wp2_with fail
            go_ret
            exact ⟨by rw [HV.out]; rfl, HB.out⟩
          | true =>
            have HV := hid (show oneN ⟨xn, xv, xu, xe, false, xr, xy, xw, xA, xc, xl⟩ = 112 from by simp [oneN, he, hu, hq])
            go_enter Try.func44, Try.ntmps44
            go_wp2_with fail
            refine (undo_any xv _).mono ?_
            rintro e w2 ⟨rfl, rfl⟩
            rw [hu]
            go_wp2_with fail
            go_ret
            exact ⟨by rw [HV.out]; rfl, HB.out⟩
        | true =>
          cases fi with
          | false =>
            have HV := hid (show oneN ⟨xn, xv, xu, xe, true, xr, xy, xw, xA, xc, xl⟩ = 112 from by simp [oneN, he, hu, hq])
            go_enter Try.func44, Try.ntmps44
            go_wp2_with fail
            refine (undo_any xv _).mono ?_
            rintro e w2 ⟨rfl, rfl⟩
            rw [hu]
            go_wp2_with fail
            go_ret
            exact ⟨by rw [HV.out]; rfl, HB.out⟩
          | true =>
            have HV := hid (show oneN ⟨xn, xv, xu, xe, true, xr, xy, xw, xA, xc, xl⟩ = 0 from by simp [oneN, he, hu, hq])
            go_enter Try.func44, Try.ntmps44
            go_wp2_with fail
            refine (undo_any xv _).mono ?_
            rintro e w2 ⟨rfl, rfl⟩
            rw [hu]
            go_wp2_with fail
            go_ret
            exact ⟨by rw [HV.out]; rfl, HB.out⟩
set_option maxRecDepth 100000 in
set_option maxHeartbeats 8000000 in
theorem rstep_one (s : Stp) (w : World) : Calls Try.prog 57 #[.agg (enSt s).toArray] w fun e w' => e = .returned (.int .i64 (oneN s)) ∧ Below w.heap.size w w' := by
  obtain ⟨xn, xv, xu, xe, xf, xr, xy, xw, xA, xc, xl⟩ := s
  have earr : (enSt ⟨xn, xv, xu, xe, xf, xr, xy, xw, xA, xc, xl⟩).toArray = #[.string xn, .string xv, .string xu, .string xe, .bool xf, .int .i64 xr, .int .i64 xy, .int .i64 xw, .slice xA xl.length xc] := rfl
  rw [earr]
  clear earr
  have HB : Hid (Below w.heap.size w (w.alloc (.cells #[.string xn, .string xv, .string xu, .string xe, .bool xf, .int .i64 xr, .int .i64 xy, .int .i64 xw, .slice xA xl.length xc] 40))) := hid ((Below.refl _ _).alloc (Nat.le_refl _) _)
  cases he : xe.toList.isEmpty with
  | false =>
    cases hp : (xe.toList == [112, 97, 105, 100]) with
    | true =>
      have HV := hid (show oneN ⟨xn, xv, xu, xe, xf, xr, xy, xw, xA, xc, xl⟩ = 0 from by simp [oneN, he, hp])
      go_enter Try.func57, Try.ntmps57
      go_wp2_with fail
      go_ret
      exact ⟨by rw [HV.out]; rfl, HB.out⟩
    | false =>
      have HV := hid (show oneN ⟨xn, xv, xu, xe, xf, xr, xy, xw, xA, xc, xl⟩ = 111 from by simp [oneN, he, hp])
      go_enter Try.func57, Try.ntmps57
      go_wp2_with fail
      go_ret
      exact ⟨by rw [HV.out]; rfl, HB.out⟩
  | true =>
    have hu' : ∃ u kn fi, undoN xv = (u, kn, fi) := ⟨_, _, _, rfl⟩
    obtain ⟨u, kn, fi, hu⟩ := hu'
    cases kn with
    | false =>
      have HV := hid (show oneN ⟨xn, xv, xu, xe, xf, xr, xy, xw, xA, xc, xl⟩ = 111 from by simp [oneN, he, hu])
      go_enter Try.func57, Try.ntmps57
      go_wp2_with fail
      refine (rundo_any xv _).mono ?_
      rintro e w2 ⟨rfl, rfl⟩
      rw [hu]
      go_wp2_with fail
      go_ret
      exact ⟨by rw [HV.out]; rfl, HB.out⟩
    | true =>
      cases hq : (xu.toList == u.toList) with
      | false =>
        have HV := hid (show oneN ⟨xn, xv, xu, xe, xf, xr, xy, xw, xA, xc, xl⟩ = 112 from by simp [oneN, he, hu, hq])
        go_enter Try.func57, Try.ntmps57
        go_wp2_with fail
        refine (rundo_any xv _).mono ?_
        rintro e w2 ⟨rfl, rfl⟩
        rw [hu]
        go_wp2_with fail
        go_ret
        exact ⟨by rw [HV.out]; rfl, HB.out⟩
      | true =>
        cases xf with
        | false =>
          cases fi with
          | false =>
            have HV := hid (show oneN ⟨xn, xv, xu, xe, false, xr, xy, xw, xA, xc, xl⟩ = 0 from by simp [oneN, he, hu, hq])
            go_enter Try.func57, Try.ntmps57
            go_wp2_with fail
            refine (rundo_any xv _).mono ?_
            rintro e w2 ⟨rfl, rfl⟩
            rw [hu]
            go_wp2_with fail
            go_ret
            exact ⟨by rw [HV.out]; rfl, HB.out⟩
          | true =>
            have HV := hid (show oneN ⟨xn, xv, xu, xe, false, xr, xy, xw, xA, xc, xl⟩ = 112 from by simp [oneN, he, hu, hq])
            go_enter Try.func57, Try.ntmps57
            go_wp2_with fail
            refine (rundo_any xv _).mono ?_
            rintro e w2 ⟨rfl, rfl⟩
            rw [hu]
            go_wp2_with fail
            go_ret
            exact ⟨by rw [HV.out]; rfl, HB.out⟩
        | true =>
          cases fi with
          | false =>
            have HV := hid (show oneN ⟨xn, xv, xu, xe, true, xr, xy, xw, xA, xc, xl⟩ = 112 from by simp [oneN, he, hu, hq])
            go_enter Try.func57, Try.ntmps57
            go_wp2_with fail
            refine (rundo_any xv _).mono ?_
            rintro e w2 ⟨rfl, rfl⟩
            rw [hu]
            go_wp2_with fail
            go_ret
            exact ⟨by rw [HV.out]; rfl, HB.out⟩
          | true =>
            have HV := hid (show oneN ⟨xn, xv, xu, xe, true, xr, xy, xw, xA, xc, xl⟩ = 0 from by simp [oneN, he, hu, hq])
            go_enter Try.func57, Try.ntmps57
            go_wp2_with fail
            refine (rundo_any xv _).mono ?_
            rintro e w2 ⟨rfl, rfl⟩
            rw [hu]
            go_wp2_with fail
            go_ret
            exact ⟨by rw [HV.out]; rfl, HB.out⟩

end Go.Proofs.Ytemhoaapapeilaa
