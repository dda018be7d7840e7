/-
  The credit book, continued: New, money, Exposure, Customer.
-/
import Derived.Test.YtakaalldbnklcaaCrBook
namespace Go.Proofs.Ytakaalldbnklcaa.Cr
open Go.RowKit
set_option linter.unusedVariables false

theorem new_any (w : World) : Calls Try.prog 17 #[] w fun e w' =>
    ∃ X BA BH, e = .returned (.pointer (some ⟨X, 0, none⟩)) ∧ IsBook w.heap.size w' X BA BH [] [] ∧ Below w.heap.size w w' ∧ BA < w'.heap.size ∧ BH < w'.heap.size ∧ X < w'.heap.size := by
  have hmm := @run_makeMap Try.prog
  have hM1 := ((IsMap.made w kI vAcc).alloc (.map #[] 0)).alloc (.cells #[.map (some w.heap.size), .map (some (w.heap.size + 1))] 70)
  have hM2 := (IsMap.made (w.alloc (.map #[] 0)) kI enH).alloc (.cells #[.map (some w.heap.size), .map (some (w.heap.size + 1))] 70)
  have hb := Blk.new ((w.alloc (.map #[] 0)).alloc (.map #[] 0)) 70 #[.map (some w.heap.size), .map (some (w.heap.size + 1))]
  rw [World.size_alloc] at hM2
  rw [World.size_alloc, World.size_alloc] at hb
  have H := hid (show IsBook w.heap.size (((w.alloc (.map #[] 0)).alloc (.map #[] 0)).alloc (.cells #[.map (some w.heap.size), .map (some (w.heap.size + 1))] 70)) (w.heap.size + 1 + 1) w.heap.size (w.heap.size + 1) [] [] from
    ⟨hb, hM1, hM2, (fun p hp => by cases hp), by simp, (fun p hp => by cases hp), by omega, by omega, by omega, by omega, (fun p hp => by cases hp)⟩)
  clear hb hM1 hM2
  go_enter Try.func17, Try.ntmps17
  go_wp2_with fail
  go_ret
  exact ⟨w.heap.size + 1 + 1, w.heap.size, w.heap.size + 1, by simp, H.out, (((Below.refl _ _).alloc (Nat.le_refl _) _).alloc (by simp) _).alloc (by simp; omega) _, by simp; omega, by simp, by simp⟩

theorem money_yes (n : Int) (w : World) (h1 : 0 ≤ n) (h2 : n ≤ 1125899906842624) : Calls Try.prog 22 #[.int .i64 n] w fun e w' => e = .returned (.bool true) ∧ w = w' := by
  go_enter Try.func22, Try.ntmps22
  go_wp2_with fail
  go_ret
  exact ⟨rfl, rfl⟩
theorem money_no (n : Int) (w : World) (h : n < 0 ∨ 1125899906842624 < n) : Calls Try.prog 22 #[.int .i64 n] w fun e w' => e = .returned (.bool false) ∧ w = w' := by
  rcases h with h | h
  · go_enter Try.func22, Try.ntmps22
    go_wp2_with fail
    go_ret
    exact ⟨rfl, rfl⟩
  · by_cases h0 : 0 ≤ n
    · have hd : decide (n ≤ 1125899906842624) = false := decide_eq_false (by omega)
      go_enter Try.func22, Try.ntmps22
      go_wp2_with fail
      go_ret
      exact ⟨rfl, rfl⟩
    · omega

theorem mset_twice {κ ν : Type} [DecidableEq κ] {m : List (κ × ν)} {a : κ} {b c : ν} : mset (mset m a b) a c = mset m a c := by
  have hk : a ∈ (mset m a b).map (·.1) := by
    rw [mset_keys]; split
    · assumption
    · simp
  rw [mset, if_pos hk]
  unfold mset
  split
  · rw [List.map_map]
    refine List.map_congr_left fun p _ => ?_
    simp only [Function.comp]
    split <;> simp_all
  · rename_i hn
    rw [List.map_append]
    congr 1
    · conv => rhs; rw [← List.map_id m]
      refine List.map_congr_left fun p hp => ?_
      have : ¬ p.1 = a := fun e => hn (by rw [← e]; exact List.mem_map_of_mem hp)
      simp [this]
    · simp

section
variable {n0 : Nat} {w : World} {X BA BH : Nat} {ac : List (Int × Acc)} {hs : List (Int × Hd)}

/-- Exposure, told. -/
def expF (ac : List (Int × Acc)) (id : Int) : Int × Int × Bool := match mget ac id with | some a => (a.l, a.e, true) | none => (0, 0, false)

set_option maxHeartbeats 1000000 in
theorem exposure_any (h : IsBook n0 w X BA BH ac hs) (id : Int) :
    Calls Try.prog 12 #[.pointer (some ⟨X, 0, none⟩), .int .i64 id] w fun e w' =>
      e = .returned (.tuple #[.int .i64 (expF ac id).1, .int .i64 (expF ac id).2.1, .bool (expF ac id).2.2]) ∧ Below w.heap.size w w' := by
  have l1 := h.lookA id
  have hA := h.cellA
  unfold ptrOf at l1
  unfold expF
  cases hm : mget ac id with
  | none =>
    rw [hm] at l1
    simp only [Option.map_none] at l1
    clear hm
    go_enter Try.func12, Try.ntmps12
    go_wp2_with fail
    go_ret3
    exact ⟨rfl, Below.refl _ _⟩
  | some a =>
    have hc := h.at_ hm
    have c0 : w.cell? ⟨a.g, 0, none⟩ = some (.int .i64 a.l) := hc.cell 0
    have c1 : w.cell? ⟨a.g, 1, none⟩ = some (.int .i64 a.e) := hc.cell 1
    rw [hm] at l1
    simp only [Option.map_some] at l1
    obtain ⟨g, l, e⟩ := a
    simp only at c0 c1 l1 hc
    clear hm
    go_enter Try.func12, Try.ntmps12
    go_wp2_with fail
    go_quiet (fail)
    go_wp2_with fail
    go_ret3
    exact ⟨rfl, below_drewN (Below.refl _ _) _⟩

/-- Customer: what becomes of the accounts. -/
def custAc (ac : List (Int × Acc)) (id l : Int) (g : Nat) : List (Int × Acc) := mset ac id (match mget ac id with | some a => ⟨a.g, l, a.e⟩ | none => ⟨g, l, 0⟩)
def custOk (id l : Int) : Prop := 1 ≤ id ∧ id ≤ 64 ∧ 0 ≤ l ∧ l ≤ 1125899906842624

set_option maxRecDepth 100000 in
set_option maxHeartbeats 1000000 in
theorem customer_no (h : IsBook n0 w X BA BH ac hs) (id l : Int) (hno : ¬ custOk id l) :
    Calls Try.prog 8 #[.pointer (some ⟨X, 0, none⟩), .int .i64 id, .int .i64 l] w fun e w' =>
      e = .returned (.int .i64 2) ∧ w = w' := by
  unfold custOk at hno
  by_cases h1 : 1 ≤ id
  · by_cases h2 : id ≤ 64
    · have M := hid fun w => money_no l w (by omega)
      go_enter Try.func8, Try.ntmps8
      clear hno
      go_wp2_with fail
      refine (M.out _).mono ?_
      rintro e w1 ⟨rfl, rfl⟩
      go_wp2_with fail
      go_ret
      exact ⟨rfl, rfl⟩
    · go_enter Try.func8, Try.ntmps8
      clear hno
      go_wp2_with fail
      go_ret
      exact ⟨rfl, rfl⟩
  · go_enter Try.func8, Try.ntmps8
    clear hno
    go_wp2_with fail
    go_ret
    exact ⟨rfl, rfl⟩

set_option maxRecDepth 100000 in
set_option maxHeartbeats 1000000 in
theorem customer_yes (h : IsBook n0 w X BA BH ac hs) (hn : n0 ≤ w.heap.size) (id l : Int) (hok : custOk id l) :
    Calls Try.prog 8 #[.pointer (some ⟨X, 0, none⟩), .int .i64 id, .int .i64 l] w fun e w' =>
      ∃ g, e = .returned (.int .i64 0) ∧ w.heap.size ≤ g ∧ IsBook n0 w' X BA BH (custAc ac id l g) hs ∧ Touch (Own BA BH ac) w w' := by
  obtain ⟨k1, k2, k3, k4⟩ := hok
  have M := hid fun w => money_yes l w k3 k4
  have l1 := h.lookA id
  have hA := h.cellA
  unfold ptrOf at l1
  unfold custAc
  cases hm : mget ac id with
  | none =>
    rw [hm] at l1
    simp only [Option.map_none] at l1
    have h1 := h.alloc (.cells #[.int .i64 0, .int .i64 0] 72)
    have HM := hid hm
    clear hm
    go_enter Try.func8, Try.ntmps8
    go_wp2_with fail
    refine (M.out _).mono ?_
    rintro e w1 ⟨rfl, rfl⟩
    go_wp2_with (first | (at_mapUpdate; refine wpList_store _ rfl _ _ _ 67 66 rfl keyL Try.underlying67 BA ac rfl h1.acs id ⟨w.heap.size, 0, 0⟩ rfl rfl ?_; intro w2 hM2 hg2 hs2; (have h2 : IsBook n0 w2 X BA BH (mset ac id ⟨w.heap.size, 0, 0⟩) hs := h1.add HM.out (Blk.new _ _ _) (fun p hp => Nat.ne_of_lt (h.cells p hp).lt) hn hM2 hg2); (have l2 := h2.lookA id); (have e2 : ptrOf (mset ac id ⟨w.heap.size, 0, 0⟩) id = some ⟨w.heap.size, 0, none⟩ := (by unfold ptrOf; rw [mget_mset, if_pos rfl]; rfl)); rw [e2] at l2; have hA2 := h2.cellA; (have hc2 := h2.at_ (id := id) (a := ⟨w.heap.size, 0, 0⟩) (by rw [mget_mset, if_pos rfl])); (have c2 : w2.cell? ⟨w.heap.size, 0, none⟩ = some (.int .i64 0) := hc2.cell 0); (have f2 : w2.frozen? ⟨w.heap.size, 0, none⟩ = false := hc2.free 0); clear hs2 hM2 e2 hc2))
    have hput := h2.put (id := id) (a := ⟨w.heap.size, 0, 0⟩) (a' := ⟨w.heap.size, l, 0⟩) (i := 0) (v := .int .i64 l) (by rw [mget_mset, if_pos rfl]) rfl rfl
    rw [mset_twice] at hput
    have hT : Touch (Own BA BH ac) w w2 := (Touch.of_below ((Below.refl w.heap.size w).alloc (Nat.le_refl _) _)).then ((Touch.of_grown hg2).mono (fun k hk => .inl hk))
    go_ret
    exact ⟨w.heap.size, rfl, Nat.le_refl _, hput, hT.trans (Touch.setCell w2 w.heap.size 0 _) (fun k hk => .inr (Nat.le_of_eq hk.symm))⟩
  | some a =>
    have hc := h.at_ hm
    have c0 : w.cell? ⟨a.g, 0, none⟩ = some (.int .i64 a.l) := hc.cell 0
    have f0 : w.frozen? ⟨a.g, 0, none⟩ = false := hc.free 0
    have hput := h.put (a' := ⟨a.g, l, a.e⟩) (i := 0) (v := .int .i64 l) hm rfl rfl
    have hown : Own BA BH ac a.g := .inr (.inr ⟨_, mget_mem hm, rfl⟩)
    rw [hm] at l1
    simp only [Option.map_some] at l1
    obtain ⟨g, l0, e⟩ := a
    simp only at c0 f0 l1 hc hown hput
    clear hm
    go_enter Try.func8, Try.ntmps8
    go_wp2_with fail
    refine (M.out _).mono ?_
    rintro e w1 ⟨rfl, rfl⟩
    go_wp2_with fail
    go_ret
    exact ⟨w.heap.size, rfl, Nat.le_refl _, hput, (Touch.setCell w g 0 _).mono (fun k hk => by rw [hk]; exact hown)⟩
end

end Go.Proofs.Ytakaalldbnklcaa.Cr
