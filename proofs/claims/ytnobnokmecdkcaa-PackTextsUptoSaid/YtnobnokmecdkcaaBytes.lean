/-
  A slice of bytes as a string.
-/
import Derived.Test.YtnobnokmecdkcaaBase
import Derived.Lib.UnsafeStr
import Derived.Laws.BytesArg
namespace Go.Proofs.Ytnobnokmecdkcaa
open Go.RowKit

theorem strOfNums_bytes (l : List UInt8) : strOfNums (l.map fun b => (b.toNat : Int)) = ⟨l.toArray⟩ := by
  have h := strOfNums_data (l.map fun b => (b.toNat : Int))
  rw [List.map_map] at h
  have h2 : (strOfNums (l.map fun b => (b.toNat : Int))).data.toList = l := by
    rw [h]
    conv => rhs; rw [← List.map_id l]
    exact List.map_congr_left fun b _ => by simp
  have h3 : (strOfNums (l.map fun b => (b.toNat : Int))).data = l.toArray := Array.toList_inj.1 (by simpa using h2)
  calc strOfNums (l.map fun b => (b.toNat : Int)) = ⟨(strOfNums (l.map fun b => (b.toNat : Int))).data⟩ := rfl
    _ = ⟨l.toArray⟩ := by rw [h3]

theorem run_string_rd {P : Program} (w : World) (src dst e : TypeId) (hs : P.underlying src = some (.slice e)) (he : P.underlying e = some (.int .u8)) (hd : P.underlying dst = some .string)
    (A : Option Addr) (len cap : Nat) (l : List UInt8) (hl : l.length = len) (hR : Rd w A (Lib.byteCells l)) (hA : A = none → len = 0) :
    (convert src dst (.slice A len cap)).run P w = .ok (.string ⟨l.toArray⟩) w := by
  subst hl
  rcases hR with h | ⟨b, off, rfl, hlt, hc⟩
  · have hl0 : l = [] := by simpa [Lib.byteCells] using h
    subst hl0
    cases A with
    | none => exact run_convert_bytes_nil w src e hs he 0 cap dst hd
    | some a =>
      show (convert src dst (.slice (some a) 0 cap)).run P w = _
      rw [run_convert_bytes_string w src dst e _ _ cap hs he hd, run_bytesToString w a 0 cap [] (by simpa using run_loadCells_list (P := P) w a [] (fun j v hj => by simp at hj))]
      rfl
  · rw [run_convert_bytes_arg w src e hs he b off l.length cap (l.map fun b => (b.toNat : Int)) (by simp) (fun i hi => by
      have := hc i (.int .u8 (l[i]).toNat) (by simp [Lib.byteCells, hi])
      rw [this]
      simp [List.getD, hi]) dst hd, strOfNums_bytes]

theorem run_string_own {P : Program} (w : World) (src dst e : TypeId) (hs : P.underlying src = some (.slice e)) (he : P.underlying e = some (.int .u8)) (hd : P.underlying dst = some .string)
    {base : Nat} {v : Value} {l : List UInt8} (h : w.ownsRow base e 1 v l.length (Lib.byteCells l)) : (convert src dst v).run P w = .ok (.string ⟨l.toArray⟩) w := by
  have h0 := h
  obtain ⟨hl, h1 | ⟨g, cap, cur, rfl, _, hh, hn, _⟩⟩ := h
  · obtain ⟨rfl, hn0⟩ := h1
    exact run_string_rd w src dst e hs he hd none 0 0 l hn0 (.inl (by have := List.eq_nil_of_length_eq_zero hn0; subst this; rfl)) (fun _ => rfl)
  · refine run_string_rd w src dst e hs he hd _ l.length cap l rfl ?_ (fun h => by cases h)
    rcases l with _ | ⟨x, xs⟩
    · exact .inl rfl
    · refine .inr ⟨g, 0, rfl, (h0.lt g rfl).2, fun j u hu => ?_⟩
      have := h0.cells (g := g) rfl j u hu
      rw [Go.WideShapes.add_plain] at this
      exact this
end Go.Proofs.Ytnobnokmecdkcaa
