/-
  Definitions of flows: which verb undoes which (printed by gen_un12.py).
-/
import Derived.Test.YtemhoaapapeilaaStrKey
namespace Go.Proofs.Ytemhoaapapeilaa
open Go.RowKit Go.WideShapes Go.ChangeShapes Go.ChangeAt Go.Deep
set_option linter.unusedVariables false

/-- The verb that undoes a verb; is there such a verb, and is it a final one? -/
def undoN (v : ByteArray) : ByteArray × Bool × Bool :=
  if (v.toList == [99, 114, 101, 100, 105, 116, 46, 104, 111, 108, 100]) = true then ((⟨#[99, 114, 101, 100, 105, 116, 46, 114, 101, 108, 101, 97, 115, 101]⟩ : ByteArray), true, false) else
  if (v.toList == [115, 116, 111, 99, 107, 46, 97, 108, 108, 111, 99, 97, 116, 101]) = true then ((⟨#[115, 116, 111, 99, 107, 46, 102, 114, 101, 101]⟩ : ByteArray), true, false) else
  if (v.toList == [115, 116, 111, 99, 107, 46, 115, 104, 105, 112]) = true then ((⟨#[115, 116, 111, 99, 107, 46, 114, 101, 115, 116, 111, 99, 107]⟩ : ByteArray), true, false) else
  if (v.toList == [98, 105, 108, 108, 46, 105, 110, 118, 111, 105, 99, 101]) = true then ((⟨#[98, 105, 108, 108, 46, 99, 114, 101, 100, 105, 116]⟩ : ByteArray), true, false) else
  if (v.toList == [99, 114, 101, 100, 105, 116, 46, 99, 108, 101, 97, 114]) = true then ((⟨#[]⟩ : ByteArray), true, true) else
  if (v.toList == [115, 116, 111, 99, 107, 46, 116, 97, 107, 101, 98, 97, 99, 107]) = true then ((⟨#[]⟩ : ByteArray), true, true) else
  if (v.toList == [98, 105, 108, 108, 46, 109, 101, 109, 111]) = true then ((⟨#[]⟩ : ByteArray), true, true) else
  if (v.toList == [99, 97, 115, 104, 46, 114, 101, 102, 117, 110, 100]) = true then ((⟨#[]⟩ : ByteArray), true, true) else
  ((⟨#[]⟩ : ByteArray), false, false)
set_option maxRecDepth 100000 in
set_option maxHeartbeats 8000000 in
theorem undo_any (v : ByteArray) (w : World) : Calls Try.prog 61 #[.string v] w fun e w' => e = .returned (.tuple #[.string (undoN v).1, .bool (undoN v).2.1, .bool (undoN v).2.2]) ∧ w = w' := by
  cases h0 : (v.toList == [99, 114, 101, 100, 105, 116, 46, 104, 111, 108, 100]) with
  | true =>
    have HV := hid (show undoN v = ((⟨#[99, 114, 101, 100, 105, 116, 46, 114, 101, 108, 101, 97, 115, 101]⟩ : ByteArray), true, false) from by simp [undoN, h0])
    go_enter Try.func61, Try.ntmps61
    go_wp2_with fail
    refine bodyPost_ret (v := .tuple #[.string (⟨#[99, 114, 101, 100, 105, 116, 46, 114, 101, 108, 101, 97, 115, 101]⟩ : ByteArray), .bool true, .bool false]) (by simp [results, Try.results61, go_sem]) rfl ⟨by rw [HV.out], rfl⟩
  | false =>
    cases h1 : (v.toList == [115, 116, 111, 99, 107, 46, 97, 108, 108, 111, 99, 97, 116, 101]) with
    | true =>
      have HV := hid (show undoN v = ((⟨#[115, 116, 111, 99, 107, 46, 102, 114, 101, 101]⟩ : ByteArray), true, false) from by simp [undoN, h0, h1])
      go_enter Try.func61, Try.ntmps61
      go_wp2_with fail
      refine bodyPost_ret (v := .tuple #[.string (⟨#[115, 116, 111, 99, 107, 46, 102, 114, 101, 101]⟩ : ByteArray), .bool true, .bool false]) (by simp [results, Try.results61, go_sem]) rfl ⟨by rw [HV.out], rfl⟩
    | false =>
      cases h2 : (v.toList == [115, 116, 111, 99, 107, 46, 115, 104, 105, 112]) with
      | true =>
        have HV := hid (show undoN v = ((⟨#[115, 116, 111, 99, 107, 46, 114, 101, 115, 116, 111, 99, 107]⟩ : ByteArray), true, false) from by simp [undoN, h0, h1, h2])
        go_enter Try.func61, Try.ntmps61
        go_wp2_with fail
        refine bodyPost_ret (v := .tuple #[.string (⟨#[115, 116, 111, 99, 107, 46, 114, 101, 115, 116, 111, 99, 107]⟩ : ByteArray), .bool true, .bool false]) (by simp [results, Try.results61, go_sem]) rfl ⟨by rw [HV.out], rfl⟩
      | false =>
        cases h3 : (v.toList == [98, 105, 108, 108, 46, 105, 110, 118, 111, 105, 99, 101]) with
        | true =>
          have HV := hid (show undoN v = ((⟨#[98, 105, 108, 108, 46, 99, 114, 101, 100, 105, 116]⟩ : ByteArray), true, false) from by simp [undoN, h0, h1, h2, h3])
          go_enter Try.func61, Try.ntmps61
          go_wp2_with fail
          refine bodyPost_ret (v := .tuple #[.string (⟨#[98, 105, 108, 108, 46, 99, 114, 101, 100, 105, 116]⟩ : ByteArray), .bool true, .bool false]) (by simp [results, Try.results61, go_sem]) rfl ⟨by rw [HV.out], rfl⟩
        | false =>
          cases h4 : (v.toList == [99, 114, 101, 100, 105, 116, 46, 99, 108, 101, 97, 114]) with
          | true =>
            have HV := hid (show undoN v = ((⟨#[]⟩ : ByteArray), true, true) from by simp [undoN, h0, h1, h2, h3, h4])
            go_enter Try.func61, Try.ntmps61
            go_wp2_with fail
            refine bodyPost_ret (v := .tuple #[.string (⟨#[]⟩ : ByteArray), .bool true, .bool true]) (by simp [results, Try.results61, go_sem]) rfl ⟨by rw [HV.out], rfl⟩
          | false =>
            cases h5 : (v.toList == [115, 116, 111, 99, 107, 46, 116, 97, 107, 101, 98, 97, 99, 107]) with
            | true =>
              have HV := hid (show undoN v = ((⟨#[]⟩ : ByteArray), true, true) from by simp [undoN, h0, h1, h2, h3, h4, h5])
              go_enter Try.func61, Try.ntmps61
              go_wp2_with fail
              refine bodyPost_ret (v := .tuple #[.string (⟨#[]⟩ : ByteArray), .bool true, .bool true]) (by simp [results, Try.results61, go_sem]) rfl ⟨by rw [HV.out], rfl⟩
            | false =>
              cases h6 : (v.toList == [98, 105, 108, 108, 46, 109, 101, 109, 111]) with
              | true =>
                have HV := hid (show undoN v = ((⟨#[]⟩ : ByteArray), true, true) from by simp [undoN, h0, h1, h2, h3, h4, h5, h6])
                go_enter Try.func61, Try.ntmps61
                go_wp2_with fail
                refine bodyPost_ret (v := .tuple #[.string (⟨#[]⟩ : ByteArray), .bool true, .bool true]) (by simp [results, Try.results61, go_sem]) rfl ⟨by rw [HV.out], rfl⟩
              | false =>
                cases h7 : (v.toList == [99, 97, 115, 104, 46, 114, 101, 102, 117, 110, 100]) with
                | true =>
                  have HV := hid (show undoN v = ((⟨#[]⟩ : ByteArray), true, true) from by simp [undoN, h0, h1, h2, h3, h4, h5, h6, h7])
                  go_enter Try.func61, Try.ntmps61
                  go_wp2_with fail
                  refine bodyPost_ret (v := .tuple #[.string (⟨#[]⟩ : ByteArray), .bool true, .bool true]) (by simp [results, Try.results61, go_sem]) rfl ⟨by rw [HV.out], rfl⟩
                | false =>
                  have HV := hid (show undoN v = ((⟨#[]⟩ : ByteArray), false, false) from by simp [undoN, h0, h1, h2, h3, h4, h5, h6, h7])
                  go_enter Try.func61, Try.ntmps61
                  go_wp2_with fail
                  refine bodyPost_ret (v := .tuple #[.string (⟨#[]⟩ : ByteArray), .bool false, .bool false]) (by simp [results, Try.results61, go_sem]) rfl ⟨by rw [HV.out], rfl⟩
set_option maxRecDepth 100000 in
set_option maxHeartbeats 8000000 in
theorem rundo_any (v : ByteArray) (w : World) : Calls Try.prog 77 #[.string v] w fun e w' => e = .returned (.tuple #[.string (undoN v).1, .bool (undoN v).2.1, .bool (undoN v).2.2]) ∧ w = w' := by
  cases h0 : (v.toList == [99, 114, 101, 100, 105, 116, 46, 104, 111, 108, 100]) with
  | true =>
    have HV := hid (show undoN v = ((⟨#[99, 114, 101, 100, 105, 116, 46, 114, 101, 108, 101, 97, 115, 101]⟩ : ByteArray), true, false) from by simp [undoN, h0])
    go_enter Try.func77, Try.ntmps77
    go_wp2_with fail
    refine bodyPost_ret (v := .tuple #[.string (⟨#[99, 114, 101, 100, 105, 116, 46, 114, 101, 108, 101, 97, 115, 101]⟩ : ByteArray), .bool true, .bool false]) (by simp [results, Try.results77, go_sem]) rfl ⟨by rw [HV.out], rfl⟩
  | false =>
    cases h1 : (v.toList == [115, 116, 111, 99, 107, 46, 97, 108, 108, 111, 99, 97, 116, 101]) with
    | true =>
      have HV := hid (show undoN v = ((⟨#[115, 116, 111, 99, 107, 46, 102, 114, 101, 101]⟩ : ByteArray), true, false) from by simp [undoN, h0, h1])
      go_enter Try.func77, Try.ntmps77
      go_wp2_with fail
      refine bodyPost_ret (v := .tuple #[.string (⟨#[115, 116, 111, 99, 107, 46, 102, 114, 101, 101]⟩ : ByteArray), .bool true, .bool false]) (by simp [results, Try.results77, go_sem]) rfl ⟨by rw [HV.out], rfl⟩
    | false =>
      cases h2 : (v.toList == [115, 116, 111, 99, 107, 46, 115, 104, 105, 112]) with
      | true =>
        have HV := hid (show undoN v = ((⟨#[115, 116, 111, 99, 107, 46, 114, 101, 115, 116, 111, 99, 107]⟩ : ByteArray), true, false) from by simp [undoN, h0, h1, h2])
        go_enter Try.func77, Try.ntmps77
        go_wp2_with fail
        refine bodyPost_ret (v := .tuple #[.string (⟨#[115, 116, 111, 99, 107, 46, 114, 101, 115, 116, 111, 99, 107]⟩ : ByteArray), .bool true, .bool false]) (by simp [results, Try.results77, go_sem]) rfl ⟨by rw [HV.out], rfl⟩
      | false =>
        cases h3 : (v.toList == [98, 105, 108, 108, 46, 105, 110, 118, 111, 105, 99, 101]) with
        | true =>
          have HV := hid (show undoN v = ((⟨#[98, 105, 108, 108, 46, 99, 114, 101, 100, 105, 116]⟩ : ByteArray), true, false) from by simp [undoN, h0, h1, h2, h3])
          go_enter Try.func77, Try.ntmps77
          go_wp2_with fail
          refine bodyPost_ret (v := .tuple #[.string (⟨#[98, 105, 108, 108, 46, 99, 114, 101, 100, 105, 116]⟩ : ByteArray), .bool true, .bool false]) (by simp [results, Try.results77, go_sem]) rfl ⟨by rw [HV.out], rfl⟩
        | false =>
          cases h4 : (v.toList == [99, 114, 101, 100, 105, 116, 46, 99, 108, 101, 97, 114]) with
          | true =>
            have HV := hid (show undoN v = ((⟨#[]⟩ : ByteArray), true, true) from by simp [undoN, h0, h1, h2, h3, h4])
            go_enter Try.func77, Try.ntmps77
            go_wp2_with fail
            refine bodyPost_ret (v := .tuple #[.string (⟨#[]⟩ : ByteArray), .bool true, .bool true]) (by simp [results, Try.results77, go_sem]) rfl ⟨by rw [HV.out], rfl⟩
          | false =>
            cases h5 : (v.toList == [115, 116, 111, 99, 107, 46, 116, 97, 107, 101, 98, 97, 99, 107]) with
            | true =>
              have HV := hid (show undoN v = ((⟨#[]⟩ : ByteArray), true, true) from by simp [undoN, h0, h1, h2, h3, h4, h5])
              go_enter Try.func77, Try.ntmps77
              go_wp2_with fail
              refine bodyPost_ret (v := .tuple #[.string (⟨#[]⟩ : ByteArray), .bool true, .bool true]) (by simp [results, Try.results77, go_sem]) rfl ⟨by rw [HV.out], rfl⟩
            | false =>
              cases h6 : (v.toList == [98, 105, 108, 108, 46, 109, 101, 109, 111]) with
              | true =>
                have HV := hid (show undoN v = ((⟨#[]⟩ : ByteArray), true, true) from by simp [undoN, h0, h1, h2, h3, h4, h5, h6])
                go_enter Try.func77, Try.ntmps77
                go_wp2_with fail
                refine bodyPost_ret (v := .tuple #[.string (⟨#[]⟩ : ByteArray), .bool true, .bool true]) (by simp [results, Try.results77, go_sem]) rfl ⟨by rw [HV.out], rfl⟩
              | false =>
                cases h7 : (v.toList == [99, 97, 115, 104, 46, 114, 101, 102, 117, 110, 100]) with
                | true =>
                  have HV := hid (show undoN v = ((⟨#[]⟩ : ByteArray), true, true) from by simp [undoN, h0, h1, h2, h3, h4, h5, h6, h7])
                  go_enter Try.func77, Try.ntmps77
                  go_wp2_with fail
                  refine bodyPost_ret (v := .tuple #[.string (⟨#[]⟩ : ByteArray), .bool true, .bool true]) (by simp [results, Try.results77, go_sem]) rfl ⟨by rw [HV.out], rfl⟩
                | false =>
                  have HV := hid (show undoN v = ((⟨#[]⟩ : ByteArray), false, false) from by simp [undoN, h0, h1, h2, h3, h4, h5, h6, h7])
                  go_enter Try.func77, Try.ntmps77
                  go_wp2_with fail
                  refine bodyPost_ret (v := .tuple #[.string (⟨#[]⟩ : ByteArray), .bool false, .bool false]) (by simp [results, Try.results77, go_sem]) rfl ⟨by rw [HV.out], rfl⟩

end Go.Proofs.Ytemhoaapapeilaa
