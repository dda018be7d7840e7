/-
  The walk of PackOne.
-/
import Derived.Test.YtnobnokmecdkcaaPlain
import Derived.Deep.RegionHeld3
import Derived.Deep.QuietTactic
import Derived.BigQuiet
namespace Go.Proofs.Ytnobnokmecdkcaa
open Go.RowKit

theorem below_drewN {B : Nat} {a w : World} (h : Below B a w) (n : Nat) : Below B a (w.drewN n) := h.trans ⟨rfl, rfl, rfl, Nat.le_refl _, fun _ _ => rfl⟩
theorem bdrew {B : Nat} {a w : World} (h : Below B a w) : Below B a w.drew := h.drew

theorem zig_unzig (v : Nat) : zig (unzig v) = v := by
  unfold zig unzig
  split <;> split <;> omega
theorem I64.of {n : Int} (h1 : -9223372036854775808 ≤ n) (h2 : n ≤ 9223372036854775807) : I64 n := by
  simpa [I64, Lit.wf, IntKind.min, IntKind.max, IntKind.signed, IntKind.bits] using ⟨h1, h2⟩
theorem unzig_I64 (v : Nat) (h : v < 18446744073709551616) : I64 (unzig v) := by
  have : -9223372036854775808 ≤ unzig v ∧ unzig v < 9223372036854775808 := by unfold unzig; split <;> omega
  exact I64.of (by omega) (by omega)

/-- What is read in order has its one form. -/
theorem readO_one (s : ByteArray) (q : Nat) (h : q + 8 ≤ s.size) : s.extract q (q + 8) = ⟨(be8 (beN s q 8)).toArray⟩ := by
  apply ba_ext
  rw [extract_list, show q + 8 - q = 8 from by omega]
  show _ = be8 (beN s q 8)
  have hb : ∀ j, j < 8 → ((s.data.toList.drop q).take 8)[j]? = some (byte s (q + j)).toUInt8 := fun j hj => by
    rw [List.getElem?_take_of_lt hj, List.getElem?_drop]
    unfold byte
    rw [List.getD_eq_getElem?_getD, List.getElem?_eq_getElem (by rw [← size_list]; omega)]
    simp
  have hl : ((s.data.toList.drop q).take 8).length = 8 := by simp; rw [size_list] at h; simp at h; omega
  have b0 := byte_lt s (q + 0); have b1 := byte_lt s (q + 1); have b2 := byte_lt s (q + 2); have b3 := byte_lt s (q + 3)
  have b4 := byte_lt s (q + 4); have b5 := byte_lt s (q + 5); have b6 := byte_lt s (q + 6); have b7 := byte_lt s (q + 7)
  apply List.ext_getElem?
  intro j
  by_cases hj : j < 8
  · rw [hb j hj]
    simp only [be8, beN]
    match j, hj with
    | 0, _ => simp only [List.getElem?_cons_zero]; congr 2; omega
    | 1, _ => simp only [List.getElem?_cons_zero, List.getElem?_cons_succ]; congr 2; omega
    | 2, _ => simp only [List.getElem?_cons_zero, List.getElem?_cons_succ]; congr 2; omega
    | 3, _ => simp only [List.getElem?_cons_zero, List.getElem?_cons_succ]; congr 2; omega
    | 4, _ => simp only [List.getElem?_cons_zero, List.getElem?_cons_succ]; congr 2; omega
    | 5, _ => simp only [List.getElem?_cons_zero, List.getElem?_cons_succ]; congr 2; omega
    | 6, _ => simp only [List.getElem?_cons_zero, List.getElem?_cons_succ]; congr 2; omega
    | 7, _ => simp only [List.getElem?_cons_zero, List.getElem?_cons_succ]; congr 2; omega
  · rw [List.getElem?_eq_none (by omega), List.getElem?_eq_none (by simp [be8]; omega)]

theorem beN_lt8 (s : ByteArray) (q : Nat) : beN s q 8 < 18446744073709551616 := by
  have h := beN_lt s q 8
  have h3 : (256 : Nat) ^ 8 = 18446744073709551616 := by decide +kernel
  omega
theorem beN_I64 (s : ByteArray) (q : Nat) : I64 ((beN s q 8 : Int) - 9223372036854775808) ∧ lift ((beN s q 8 : Int) - 9223372036854775808) = beN s q 8 := by
  have h := beN_lt8 s q
  generalize beN s q 8 = b at h
  constructor
  · exact I64.of (by omega) (by omega)
  · unfold lift; omega

/-- The text that is read has its one form. -/
theorem readT_one (s : ByteArray) (q n v : Nat) (hq : q ≤ n) (h : s.extract q n = ⟨(ub v).toArray⟩) (hn : n + v ≤ s.size) : s.extract q (n + v) = txt (s.extract n (n + v)) := by
  have e : (s.extract n (n + v)).size = v := by rw [ByteArray.size_extract]; omega
  unfold txt
  rw [e, ← h]
  apply ba_ext
  rw [ByteArray.data_append, Array.toList_append, extract_list, extract_list, extract_list, show n + v - n = v from by omega,
    show n + v - q = (n - q) + v from by omega, List.take_add, List.drop_drop, show q + (n - q) = n from by omega]

set_option maxHeartbeats 2000000 in
theorem one_err_err (s : ByteArray) (p : Int) (w : World) (_hs : s.size ≤ 140737488351232) (x : Int) (hx : x = 20 ∨ x = 21)
    (HU : Hid (∀ w, Calls Try.prog 19 #[.string s, .int .i64 p] w fun e w' => e = .returned (.tuple #[.int .u64 0, .int .i64 0, .int .i64 x]) ∧ w = w'))
    (HI : Hid (∀ w, Calls Try.prog 21 #[.string s, .int .i64 p] w fun e w' => e = .returned (.tuple #[.int .i64 0, .int .i64 0, .int .i64 x]) ∧ w = w'))
    (HT : Hid (∀ w, Calls Try.prog 18 #[.string s, .int .i64 p] w fun e w' => e = .returned (.tuple #[.string .empty, .int .i64 0, .int .i64 x]) ∧ w = w'))
    (HO : Hid (∀ w, Calls Try.prog 23 #[.string s, .int .i64 p] w fun e w' => e = .returned (.tuple #[.int .i64 0, .int .i64 0, .int .i64 20]) ∧ w = w')) :
    Calls Try.prog 8 #[.string s, .int .i64 p] w (Law w) := by
  rcases hx with rfl | rfl
  · go_enter Try.func8, Try.ntmps8
    go_wp2_with fail
    refine (wakes_any w).mono ?_
    rintro e w1 ⟨rfl, hb⟩
    go_wp2_with fail
    refine (HU.out _).mono ?_
    rintro e v1 ⟨rfl, rfl⟩
    go_wp2_with fail
    go_quiet (fail)
    go_wp2_with fail
    refine (HI.out _).mono ?_
    rintro e v2 ⟨rfl, rfl⟩
    go_wp2_with fail
    go_quiet (fail)
    go_wp2_with fail
    refine (HO.out _).mono ?_
    rintro e v3 ⟨rfl, rfl⟩
    go_wp2_with fail
    go_quiet (fail)
    go_wp2_with fail
    refine (HT.out _).mono ?_
    rintro e v4 ⟨rfl, rfl⟩
    go_wp2_with fail
    go_quiet (fail)
    go_wp2
    go_ret
    exact ⟨rfl, (by repeat (first | exact hb | refine below_drewN ?_ _ | refine bdrew ?_))⟩
  · go_enter Try.func8, Try.ntmps8
    go_wp2_with fail
    refine (wakes_any w).mono ?_
    rintro e w1 ⟨rfl, hb⟩
    go_wp2_with fail
    refine (HU.out _).mono ?_
    rintro e v1 ⟨rfl, rfl⟩
    go_wp2_with fail
    go_quiet (fail)
    go_wp2_with fail
    refine (HI.out _).mono ?_
    rintro e v2 ⟨rfl, rfl⟩
    go_wp2_with fail
    go_quiet (fail)
    go_wp2_with fail
    refine (HO.out _).mono ?_
    rintro e v3 ⟨rfl, rfl⟩
    go_wp2_with fail
    go_quiet (fail)
    go_wp2_with fail
    refine (HT.out _).mono ?_
    rintro e v4 ⟨rfl, rfl⟩
    go_wp2_with fail
    go_quiet (fail)
    go_wp2
    go_ret
    exact ⟨rfl, (by repeat (first | exact hb | refine below_drewN ?_ _ | refine bdrew ?_))⟩

set_option maxHeartbeats 2000000 in
theorem one_err_ok (s : ByteArray) (q : Nat) (w : World) (_hs : s.size ≤ 140737488351232) (x : Int) (hx : x = 20 ∨ x = 21)
    (HU : Hid (∀ w, Calls Try.prog 19 #[.string s, .int .i64 (q : Int)] w fun e w' => e = .returned (.tuple #[.int .u64 0, .int .i64 0, .int .i64 x]) ∧ w = w'))
    (HI : Hid (∀ w, Calls Try.prog 21 #[.string s, .int .i64 (q : Int)] w fun e w' => e = .returned (.tuple #[.int .i64 0, .int .i64 0, .int .i64 x]) ∧ w = w'))
    (HT : Hid (∀ w, Calls Try.prog 18 #[.string s, .int .i64 (q : Int)] w fun e w' => e = .returned (.tuple #[.string .empty, .int .i64 0, .int .i64 x]) ∧ w = w'))
    (y : Int) (n8 : Nat) (f5 : (n8 : Int) ≤ s.size) (f6 : (q : Int) ≤ n8)
    (HO : Hid (∀ w, Calls Try.prog 23 #[.string s, .int .i64 (q : Int)] w fun e w' => e = .returned (.tuple #[.int .i64 y, .int .i64 (n8 : Int), .int .i64 0]) ∧ w = w'))
    (HOb : Hid (∀ w, Calls Try.prog 15 #[.int .i64 y] w fun e w' => e = .returned (.string (s.extract q n8)) ∧ Below w.heap.size w w')) :
    Calls Try.prog 8 #[.string s, .int .i64 (q : Int)] w (Law w) := by
  have f0 : (0 : Int) ≤ q := by omega
  rcases hx with rfl | rfl
  · go_enter Try.func8, Try.ntmps8
    go_wp2_with fail
    refine (wakes_any w).mono ?_
    rintro e w1 ⟨rfl, hb⟩
    go_wp2_with fail
    refine (HU.out _).mono ?_
    rintro e v1 ⟨rfl, rfl⟩
    go_wp2_with fail
    go_quiet (fail)
    go_wp2_with fail
    refine (HI.out _).mono ?_
    rintro e v2 ⟨rfl, rfl⟩
    go_wp2_with fail
    go_quiet (fail)
    go_wp2_with fail
    refine (HO.out _).mono ?_
    rintro e v3 ⟨rfl, rfl⟩
    go_wp2_with fail
    go_region_held3 (fun _ => True) (trivial) ((go_at_call 15; refine (HOb.out _).mono ?_; rintro e w4 ⟨rfl, hb1⟩; (first | replace hb := bthen hb.drew hb1 | replace hb := bthen (below_drewN hb _).drew hb1 | replace hb := bthen (below_drewN (below_drewN hb _) _).drew hb1); clear hb1))
    go_wp2_with fail
    refine (HT.out _).mono ?_
    rintro e v4 ⟨rfl, rfl⟩
    go_wp2_with fail
    go_quiet (fail)
    go_wp2
    go_ret
    exact ⟨rfl, (by repeat (first | exact hb | refine below_drewN ?_ _ | refine bdrew ?_))⟩
  · go_enter Try.func8, Try.ntmps8
    go_wp2_with fail
    refine (wakes_any w).mono ?_
    rintro e w1 ⟨rfl, hb⟩
    go_wp2_with fail
    refine (HU.out _).mono ?_
    rintro e v1 ⟨rfl, rfl⟩
    go_wp2_with fail
    go_quiet (fail)
    go_wp2_with fail
    refine (HI.out _).mono ?_
    rintro e v2 ⟨rfl, rfl⟩
    go_wp2_with fail
    go_quiet (fail)
    go_wp2_with fail
    refine (HO.out _).mono ?_
    rintro e v3 ⟨rfl, rfl⟩
    go_wp2_with fail
    go_region_held3 (fun _ => True) (trivial) ((go_at_call 15; refine (HOb.out _).mono ?_; rintro e w4 ⟨rfl, hb1⟩; (first | replace hb := bthen hb.drew hb1 | replace hb := bthen (below_drewN hb _).drew hb1 | replace hb := bthen (below_drewN (below_drewN hb _) _).drew hb1); clear hb1))
    go_wp2_with fail
    refine (HT.out _).mono ?_
    rintro e v4 ⟨rfl, rfl⟩
    go_wp2_with fail
    go_quiet (fail)
    go_wp2
    go_ret
    exact ⟨rfl, (by repeat (first | exact hb | refine below_drewN ?_ _ | refine bdrew ?_))⟩

set_option maxHeartbeats 2000000 in
theorem one_ok_short_err (s : ByteArray) (q : Nat) (w : World) (_hs : s.size ≤ 140737488351232) (n v : Nat) (z : Int) (f1 : (q : Int) ≤ n) (f2 : (n : Int) ≤ s.size) (_hz : I64 z)
    (HU : Hid (∀ w, Calls Try.prog 19 #[.string s, .int .i64 (q : Int)] w fun e w' => e = .returned (.tuple #[.int .u64 (v : Int), .int .i64 (n : Int), .int .i64 0]) ∧ w = w'))
    (HUb : Hid (∀ w, Calls Try.prog 11 #[.int .u64 (v : Int)] w fun e w' => e = .returned (.string (s.extract q n)) ∧ Below w.heap.size w w'))
    (HI : Hid (∀ w, Calls Try.prog 21 #[.string s, .int .i64 (q : Int)] w fun e w' => e = .returned (.tuple #[.int .i64 z, .int .i64 (n : Int), .int .i64 0]) ∧ w = w'))
    (HIb : Hid (∀ w, Calls Try.prog 13 #[.int .i64 z] w fun e w' => e = .returned (.string (s.extract q n)) ∧ Below w.heap.size w w'))
    (HT : Hid (∀ w, Calls Try.prog 18 #[.string s, .int .i64 (q : Int)] w fun e w' => e = .returned (.tuple #[.string .empty, .int .i64 0, .int .i64 20]) ∧ w = w'))
    (HO : Hid (∀ w, Calls Try.prog 23 #[.string s, .int .i64 (q : Int)] w fun e w' => e = .returned (.tuple #[.int .i64 0, .int .i64 0, .int .i64 20]) ∧ w = w')) :
    Calls Try.prog 8 #[.string s, .int .i64 (q : Int)] w (Law w) := by
  have f0 : (0 : Int) ≤ q := by omega
  go_enter Try.func8, Try.ntmps8
  go_wp2_with fail
  refine (wakes_any w).mono ?_
  rintro e w1 ⟨rfl, hb⟩
  go_wp2_with fail
  refine (HU.out _).mono ?_
  rintro e v1 ⟨rfl, rfl⟩
  go_wp2_with fail
  go_region_held3 (fun _ => True) (trivial) ((go_at_call 11; refine (HUb.out _).mono ?_; rintro e w2 ⟨rfl, hb1⟩; (first | replace hb := bthen hb.drew hb1 | replace hb := bthen (below_drewN hb _).drew hb1 | replace hb := bthen (below_drewN (below_drewN hb _) _).drew hb1); clear hb1))
  go_wp2_with fail
  refine (HI.out _).mono ?_
  rintro e v2 ⟨rfl, rfl⟩
  go_wp2_with fail
  go_region_held3 (fun _ => True) (trivial) ((go_at_call 13; refine (HIb.out _).mono ?_; rintro e w3 ⟨rfl, hb1⟩; (first | replace hb := bthen hb.drew hb1 | replace hb := bthen (below_drewN hb _).drew hb1 | replace hb := bthen (below_drewN (below_drewN hb _) _).drew hb1); clear hb1))
  go_wp2_with fail
  refine (HO.out _).mono ?_
  rintro e v3 ⟨rfl, rfl⟩
  go_wp2_with fail
  go_quiet (fail)
  go_wp2_with fail
  refine (HT.out _).mono ?_
  rintro e v4 ⟨rfl, rfl⟩
  go_wp2_with fail
  go_quiet (fail)
  go_wp2
  go_ret
  exact ⟨rfl, (by repeat (first | exact hb | refine below_drewN ?_ _ | refine bdrew ?_))⟩

set_option maxHeartbeats 2000000 in
theorem one_ok_short_ok (s : ByteArray) (q : Nat) (w : World) (_hs : s.size ≤ 140737488351232) (n v : Nat) (z : Int) (f1 : (q : Int) ≤ n) (f2 : (n : Int) ≤ s.size) (_hz : I64 z)
    (HU : Hid (∀ w, Calls Try.prog 19 #[.string s, .int .i64 (q : Int)] w fun e w' => e = .returned (.tuple #[.int .u64 (v : Int), .int .i64 (n : Int), .int .i64 0]) ∧ w = w'))
    (HUb : Hid (∀ w, Calls Try.prog 11 #[.int .u64 (v : Int)] w fun e w' => e = .returned (.string (s.extract q n)) ∧ Below w.heap.size w w'))
    (HI : Hid (∀ w, Calls Try.prog 21 #[.string s, .int .i64 (q : Int)] w fun e w' => e = .returned (.tuple #[.int .i64 z, .int .i64 (n : Int), .int .i64 0]) ∧ w = w'))
    (HIb : Hid (∀ w, Calls Try.prog 13 #[.int .i64 z] w fun e w' => e = .returned (.string (s.extract q n)) ∧ Below w.heap.size w w'))
    (HT : Hid (∀ w, Calls Try.prog 18 #[.string s, .int .i64 (q : Int)] w fun e w' => e = .returned (.tuple #[.string .empty, .int .i64 0, .int .i64 20]) ∧ w = w'))
    (y : Int) (n8 : Nat) (f5 : (n8 : Int) ≤ s.size) (f6 : (q : Int) ≤ n8)
    (HO : Hid (∀ w, Calls Try.prog 23 #[.string s, .int .i64 (q : Int)] w fun e w' => e = .returned (.tuple #[.int .i64 y, .int .i64 (n8 : Int), .int .i64 0]) ∧ w = w'))
    (HOb : Hid (∀ w, Calls Try.prog 15 #[.int .i64 y] w fun e w' => e = .returned (.string (s.extract q n8)) ∧ Below w.heap.size w w')) :
    Calls Try.prog 8 #[.string s, .int .i64 (q : Int)] w (Law w) := by
  have f0 : (0 : Int) ≤ q := by omega
  go_enter Try.func8, Try.ntmps8
  go_wp2_with fail
  refine (wakes_any w).mono ?_
  rintro e w1 ⟨rfl, hb⟩
  go_wp2_with fail
  refine (HU.out _).mono ?_
  rintro e v1 ⟨rfl, rfl⟩
  go_wp2_with fail
  go_region_held3 (fun _ => True) (trivial) ((go_at_call 11; refine (HUb.out _).mono ?_; rintro e w2 ⟨rfl, hb1⟩; (first | replace hb := bthen hb.drew hb1 | replace hb := bthen (below_drewN hb _).drew hb1 | replace hb := bthen (below_drewN (below_drewN hb _) _).drew hb1); clear hb1))
  go_wp2_with fail
  refine (HI.out _).mono ?_
  rintro e v2 ⟨rfl, rfl⟩
  go_wp2_with fail
  go_region_held3 (fun _ => True) (trivial) ((go_at_call 13; refine (HIb.out _).mono ?_; rintro e w3 ⟨rfl, hb1⟩; (first | replace hb := bthen hb.drew hb1 | replace hb := bthen (below_drewN hb _).drew hb1 | replace hb := bthen (below_drewN (below_drewN hb _) _).drew hb1); clear hb1))
  go_wp2_with fail
  refine (HO.out _).mono ?_
  rintro e v3 ⟨rfl, rfl⟩
  go_wp2_with fail
  go_region_held3 (fun _ => True) (trivial) ((go_at_call 15; refine (HOb.out _).mono ?_; rintro e w4 ⟨rfl, hb1⟩; (first | replace hb := bthen hb.drew hb1 | replace hb := bthen (below_drewN hb _).drew hb1 | replace hb := bthen (below_drewN (below_drewN hb _) _).drew hb1); clear hb1))
  go_wp2_with fail
  refine (HT.out _).mono ?_
  rintro e v4 ⟨rfl, rfl⟩
  go_wp2_with fail
  go_quiet (fail)
  go_wp2
  go_ret
  exact ⟨rfl, (by repeat (first | exact hb | refine below_drewN ?_ _ | refine bdrew ?_))⟩

set_option maxHeartbeats 2000000 in
theorem one_ok_ok_err (s : ByteArray) (q : Nat) (w : World) (_hs : s.size ≤ 140737488351232) (n v : Nat) (z : Int) (f1 : (q : Int) ≤ n) (f2 : (n : Int) ≤ s.size) (_hz : I64 z)
    (HU : Hid (∀ w, Calls Try.prog 19 #[.string s, .int .i64 (q : Int)] w fun e w' => e = .returned (.tuple #[.int .u64 (v : Int), .int .i64 (n : Int), .int .i64 0]) ∧ w = w'))
    (HUb : Hid (∀ w, Calls Try.prog 11 #[.int .u64 (v : Int)] w fun e w' => e = .returned (.string (s.extract q n)) ∧ Below w.heap.size w w'))
    (HI : Hid (∀ w, Calls Try.prog 21 #[.string s, .int .i64 (q : Int)] w fun e w' => e = .returned (.tuple #[.int .i64 z, .int .i64 (n : Int), .int .i64 0]) ∧ w = w'))
    (HIb : Hid (∀ w, Calls Try.prog 13 #[.int .i64 z] w fun e w' => e = .returned (.string (s.extract q n)) ∧ Below w.heap.size w w'))
    (m : Nat) (a : ByteArray) (f3 : (q : Int) ≤ m) (f4 : (m : Int) ≤ s.size)
    (HT : Hid (∀ w, Calls Try.prog 18 #[.string s, .int .i64 (q : Int)] w fun e w' => e = .returned (.tuple #[.string a, .int .i64 (m : Int), .int .i64 0]) ∧ w = w'))
    (HTb : Hid (∀ w, Calls Try.prog 17 #[.string a] w fun e w' => e = .returned (.string (s.extract q m)) ∧ Below w.heap.size w w'))
    (HO : Hid (∀ w, Calls Try.prog 23 #[.string s, .int .i64 (q : Int)] w fun e w' => e = .returned (.tuple #[.int .i64 0, .int .i64 0, .int .i64 20]) ∧ w = w')) :
    Calls Try.prog 8 #[.string s, .int .i64 (q : Int)] w (Law w) := by
  have f0 : (0 : Int) ≤ q := by omega
  go_enter Try.func8, Try.ntmps8
  go_wp2_with fail
  refine (wakes_any w).mono ?_
  rintro e w1 ⟨rfl, hb⟩
  go_wp2_with fail
  refine (HU.out _).mono ?_
  rintro e v1 ⟨rfl, rfl⟩
  go_wp2_with fail
  go_region_held3 (fun _ => True) (trivial) ((go_at_call 11; refine (HUb.out _).mono ?_; rintro e w2 ⟨rfl, hb1⟩; (first | replace hb := bthen hb.drew hb1 | replace hb := bthen (below_drewN hb _).drew hb1 | replace hb := bthen (below_drewN (below_drewN hb _) _).drew hb1); clear hb1))
  go_wp2_with fail
  refine (HI.out _).mono ?_
  rintro e v2 ⟨rfl, rfl⟩
  go_wp2_with fail
  go_region_held3 (fun _ => True) (trivial) ((go_at_call 13; refine (HIb.out _).mono ?_; rintro e w3 ⟨rfl, hb1⟩; (first | replace hb := bthen hb.drew hb1 | replace hb := bthen (below_drewN hb _).drew hb1 | replace hb := bthen (below_drewN (below_drewN hb _) _).drew hb1); clear hb1))
  go_wp2_with fail
  refine (HO.out _).mono ?_
  rintro e v3 ⟨rfl, rfl⟩
  go_wp2_with fail
  go_quiet (fail)
  go_wp2_with fail
  refine (HT.out _).mono ?_
  rintro e v4 ⟨rfl, rfl⟩
  go_wp2_with fail
  go_region_held3 (fun _ => True) (trivial) ((go_at_call 17; refine (HTb.out _).mono ?_; rintro e w5 ⟨rfl, hb1⟩; (first | replace hb := bthen hb.drew hb1 | replace hb := bthen (below_drewN hb _).drew hb1 | replace hb := bthen (below_drewN (below_drewN hb _) _).drew hb1); clear hb1))
  go_wp2
  go_ret
  exact ⟨rfl, (by repeat (first | exact hb | refine below_drewN ?_ _ | refine bdrew ?_))⟩

set_option maxHeartbeats 2000000 in
theorem one_ok_ok_ok (s : ByteArray) (q : Nat) (w : World) (_hs : s.size ≤ 140737488351232) (n v : Nat) (z : Int) (f1 : (q : Int) ≤ n) (f2 : (n : Int) ≤ s.size) (_hz : I64 z)
    (HU : Hid (∀ w, Calls Try.prog 19 #[.string s, .int .i64 (q : Int)] w fun e w' => e = .returned (.tuple #[.int .u64 (v : Int), .int .i64 (n : Int), .int .i64 0]) ∧ w = w'))
    (HUb : Hid (∀ w, Calls Try.prog 11 #[.int .u64 (v : Int)] w fun e w' => e = .returned (.string (s.extract q n)) ∧ Below w.heap.size w w'))
    (HI : Hid (∀ w, Calls Try.prog 21 #[.string s, .int .i64 (q : Int)] w fun e w' => e = .returned (.tuple #[.int .i64 z, .int .i64 (n : Int), .int .i64 0]) ∧ w = w'))
    (HIb : Hid (∀ w, Calls Try.prog 13 #[.int .i64 z] w fun e w' => e = .returned (.string (s.extract q n)) ∧ Below w.heap.size w w'))
    (m : Nat) (a : ByteArray) (f3 : (q : Int) ≤ m) (f4 : (m : Int) ≤ s.size)
    (HT : Hid (∀ w, Calls Try.prog 18 #[.string s, .int .i64 (q : Int)] w fun e w' => e = .returned (.tuple #[.string a, .int .i64 (m : Int), .int .i64 0]) ∧ w = w'))
    (HTb : Hid (∀ w, Calls Try.prog 17 #[.string a] w fun e w' => e = .returned (.string (s.extract q m)) ∧ Below w.heap.size w w'))
    (y : Int) (n8 : Nat) (f5 : (n8 : Int) ≤ s.size) (f6 : (q : Int) ≤ n8)
    (HO : Hid (∀ w, Calls Try.prog 23 #[.string s, .int .i64 (q : Int)] w fun e w' => e = .returned (.tuple #[.int .i64 y, .int .i64 (n8 : Int), .int .i64 0]) ∧ w = w'))
    (HOb : Hid (∀ w, Calls Try.prog 15 #[.int .i64 y] w fun e w' => e = .returned (.string (s.extract q n8)) ∧ Below w.heap.size w w')) :
    Calls Try.prog 8 #[.string s, .int .i64 (q : Int)] w (Law w) := by
  have f0 : (0 : Int) ≤ q := by omega
  go_enter Try.func8, Try.ntmps8
  go_wp2_with fail
  refine (wakes_any w).mono ?_
  rintro e w1 ⟨rfl, hb⟩
  go_wp2_with fail
  refine (HU.out _).mono ?_
  rintro e v1 ⟨rfl, rfl⟩
  go_wp2_with fail
  go_region_held3 (fun _ => True) (trivial) ((go_at_call 11; refine (HUb.out _).mono ?_; rintro e w2 ⟨rfl, hb1⟩; (first | replace hb := bthen hb.drew hb1 | replace hb := bthen (below_drewN hb _).drew hb1 | replace hb := bthen (below_drewN (below_drewN hb _) _).drew hb1); clear hb1))
  go_wp2_with fail
  refine (HI.out _).mono ?_
  rintro e v2 ⟨rfl, rfl⟩
  go_wp2_with fail
  go_region_held3 (fun _ => True) (trivial) ((go_at_call 13; refine (HIb.out _).mono ?_; rintro e w3 ⟨rfl, hb1⟩; (first | replace hb := bthen hb.drew hb1 | replace hb := bthen (below_drewN hb _).drew hb1 | replace hb := bthen (below_drewN (below_drewN hb _) _).drew hb1); clear hb1))
  go_wp2_with fail
  refine (HO.out _).mono ?_
  rintro e v3 ⟨rfl, rfl⟩
  go_wp2_with fail
  go_region_held3 (fun _ => True) (trivial) ((go_at_call 15; refine (HOb.out _).mono ?_; rintro e w4 ⟨rfl, hb1⟩; (first | replace hb := bthen hb.drew hb1 | replace hb := bthen (below_drewN hb _).drew hb1 | replace hb := bthen (below_drewN (below_drewN hb _) _).drew hb1); clear hb1))
  go_wp2_with fail
  refine (HT.out _).mono ?_
  rintro e v4 ⟨rfl, rfl⟩
  go_wp2_with fail
  go_region_held3 (fun _ => True) (trivial) ((go_at_call 17; refine (HTb.out _).mono ?_; rintro e w5 ⟨rfl, hb1⟩; (first | replace hb := bthen hb.drew hb1 | replace hb := bthen (below_drewN hb _).drew hb1 | replace hb := bthen (below_drewN (below_drewN hb _) _).drew hb1); clear hb1))
  go_wp2
  go_ret
  exact ⟨rfl, (by repeat (first | exact hb | refine below_drewN ?_ _ | refine bdrew ?_))⟩

end Go.Proofs.Ytnobnokmecdkcaa
