/-
  The walk of PackTexts.
-/
import Derived.Test.YtnobnokmecdkcaaTexts
import Derived.Deep.Strs
namespace Go.Proofs.Ytnobnokmecdkcaa
open Go.RowKit Go.Deep Go.ChangeShapes Go.WideShapes

/-- Texts' forms, one behind the other. -/
def catL (l : List ByteArray) : List UInt8 := l.flatMap fun t => (txt t).data.toList
def catT (l : List ByteArray) : ByteArray := ⟨(catL l).toArray⟩
theorem catT_snoc (l : List ByteArray) (t : ByteArray) : catT (l ++ [t]) = catT l ++ txt t := by
  apply ba_ext; rw [ByteArray.data_append]; simp [catT, catL]
def enS (s : ByteArray) : List Value := [.string s]
theorem enS_len (s : ByteArray) : (enS s).length = 1 := rfl
def sizes (l : List ByteArray) : Nat := (l.map fun s => s.size + 10).sum
theorem txt_size (t : ByteArray) : (txt t).size ≤ t.size + 10 := by
  unfold txt; rw [ByteArray.size_append, size_mk]; have := ub_len t.size; omega
theorem catT_size (l : List ByteArray) : (catT l).size ≤ sizes l := by
  unfold catT
  rw [size_mk]
  induction l with
  | nil => simp [catL]
  | cons t l ih =>
    have := txt_size t
    rw [size_list] at this
    simp only [sizes, catL, List.flatMap_cons, List.length_append, List.map_cons, List.sum_cons] at ih ⊢
    omega
theorem sizes_take (l : List ByteArray) (k : Nat) : sizes (l.take k) ≤ sizes l := by
  have := congrArg sizes (List.take_append_drop k l)
  simp only [sizes, List.map_append, List.sum_append] at this ⊢
  omega
theorem sizes_mem (l : List ByteArray) (t : ByteArray) (h : t ∈ l) : t.size + 10 ≤ sizes l := by
  induction l with
  | nil => cases h
  | cons x l ih =>
    simp only [sizes, List.map_cons, List.sum_cons] at ih ⊢
    cases h with
    | head => omega
    | tail _ h => have := ih h; omega
theorem catT_at (l : List ByteArray) (k : Nat) (t : ByteArray) (h : l[k]? = some t) : (catT l).data.toList = (catT (l.take k)).data.toList ++ ((txt t).data.toList ++ catL (l.drop (k + 1))) := by
  have hk : k < l.length := (List.getElem?_eq_some_iff.1 h).1
  have e : l = l.take k ++ (t :: l.drop (k + 1)) := by
    rw [← (List.getElem?_eq_some_iff.1 h).2, ← List.drop_eq_getElem_cons hk, List.take_append_drop]
  show catL l = catL (l.take k) ++ _
  rw [show catL l = catL (l.take k ++ (t :: l.drop (k + 1))) from by rw [← e]]
  simp [catL]

theorem take_snocT {α : Type} {l : List α} {k : Nat} {x : α} (h : l[k]? = some x) : l.take (k + 1) = l.take k ++ [x] := by
  rw [List.take_add_one, h]; rfl

set_option maxHeartbeats 2000000 in
theorem packTexts_walk (l : List ByteArray) (A : Option Addr) (cap : Nat) (w : World) (hR : Rd w A (l.flatMap enS)) (hl : l.length ≤ 1048576) (hz : sizes l ≤ 20000000) :
    Calls Try.prog 5 #[.slice A l.length cap] w (Law w) := by
  go_enter Try.func5, Try.ntmps5
  go_wp2_with fail
  refine (wakes_any _).mono ?_
  rintro e w1 ⟨rfl, hb⟩
  replace hR := hR.below hb
  have he : (⟨#[]⟩ : ByteArray) = catT [] := rfl
  go_wp2_with fail
  go_loopw [3, 16] (fun v i wr => ∃ k : Nat, k ≤ l.length ∧ v = .string (catT (l.take k)) ∧ i = .int .i64 k ∧ Rd wr A (l.flatMap enS) ∧ Below w.heap.size w wr) (fun _ i _ => l.length - (intOf i).toNat)
  case atStart => exact ⟨0, Nat.zero_le _, rfl, rfl, hR, hb⟩
  case round =>
    clear hR hb he
    obtain ⟨k, hk, rfl, rfl, hR, hb⟩ := hrel
    by_cases hlt : k < l.length
    · obtain ⟨x, hx⟩ : ∃ x, l[k]? = some x := ⟨l[k], List.getElem?_eq_getElem hlt⟩
      obtain ⟨b, off, rfl, hbs, hcc⟩ := hR.at_ 1 enS_len (by omega) hx
      have hq := hcc 0 _ rfl
      simp only [Nat.add_zero, Nat.mul_one] at hq
      clear hcc
      have hs1 := catT_size (l.take k)
      have hs2 := sizes_take l k
      have hs3 := sizes_mem l x (List.mem_of_getElem? hx)
      have hs4 := txt_size x
      have HX := hid (take_snocT hx)
      clear hx
      go_wp2_with fail
      refine (text_any _ _ (by omega)).mono ?_
      rintro e w2 ⟨rfl, hb1⟩
      replace hb := bthen hb hb1
      replace hR := hR.below hb1
      clear hb1
      go_wp2_with fail
      go_roundw
      case rel => exact ⟨k + 1, by omega, by rw [HX.out, catT_snoc], by go_num, hR, hb⟩
      case measure => simp [intOf]; omega
    · have hk' : k = l.length := by omega
      subst hk'
      rw [List.take_length]
      have hs1 := catT_size l
      clear hlt hk
      go_wp2_with fail
      obtain ⟨wo, rfl⟩ : ∃ wo : World, wo = wr := ⟨_, rfl⟩
      go_loopw [6, 27] (fun v i wr => ∃ k : Nat, k ≤ l.length ∧ v = .int .i64 ((catT (l.take k)).size : Nat) ∧ i = .int .i64 k ∧ Rd wr A (l.flatMap enS) ∧ Below w.heap.size w wr) (fun _ i _ => l.length - (intOf i).toNat)
      case atStart => exact ⟨0, Nat.zero_le _, rfl, rfl, hR, hb⟩
      case round =>
        clear hR hb
        obtain ⟨k, hk, rfl, rfl, hR, hb⟩ := hrel
        by_cases hlt : k < l.length
        · obtain ⟨x, hx⟩ : ∃ x, l[k]? = some x := ⟨l[k], List.getElem?_eq_getElem hlt⟩
          obtain ⟨b, off, rfl, hbs, hcc⟩ := hR.at_ 1 enS_len (by omega) hx
          have hq := hcc 0 _ rfl
          simp only [Nat.add_zero, Nat.mul_one] at hq
          clear hcc
          have hs2 := catT_size (l.take k)
          have hs5 := sizes_take l k
          have hs3 := sizes_mem l x (List.mem_of_getElem? hx)
          have hs4 := txt_size x
          have R := fun w => readText_any (catT l) ((catT (l.take k)).data.toList.length : Nat) w (by omega)
          rw [readT_at x (by omega) (catT_at l k x hx), ← size_list] at R
          simp only [retT] at R
          have HR := hid R
          have HX := hid (take_snocT hx)
          clear hx R
          go_wp2_with fail
          refine (HR.out _).mono ?_
          rintro e w2 ⟨rfl, rfl⟩
          go_wp2_with fail
          refine (text_any _ _ (by omega)).mono ?_
          rintro e w3 ⟨rfl, hb1⟩
          replace hb := bthen hb hb1
          replace hR := hR.below hb1
          clear hb1
          go_wp2_with fail
          go_roundw
          case rel => exact ⟨k + 1, by omega, by rw [HX.out, catT_snoc, ByteArray.size_append]; go_num, by go_num, hR, hb⟩
          case measure => simp [intOf]; omega
        · have hk' : k = l.length := by omega
          subst hk'
          rw [List.take_length]
          clear hlt hk
          go_wp2_with fail
          go_ret
          exact ⟨rfl, hb⟩

/-- A []string, opened: a list of texts that the slice reads as; no more letters than its bulk. -/
theorem open_strl {H : Type} {enc : TypeId × Value → H} {P : Program} {w : World} {base : Nat} {spare : Nat → Bool} {held : Bool} {t e : TypeId} {fuel : Nat} {cs : List Value} {x : DataW H × List MemPlace} (ht : P.underlying t = some (.slice e)) (he : P.underlying e = some .string) (hc : P.cellsOf e = 1)
    (h : DataW.trod enc P w base spare held fuel t cs = some x) :
    ∃ (A : Option Addr) (cap : Nat) (l : List ByteArray), cs = [.slice A l.length cap] ∧ Rd w A (l.flatMap enS) ∧ (l.map fun s => s.size + 1).sum ≤ Rows.uptoBulk x.1 := by
  rcases Go.Deep.open_strs ht he hc h with ⟨rfl, rfl⟩ | ⟨a, len, cap, m, Sx, rfl, hb, hl, hm, hmm, rfl, hx⟩
  · exact ⟨none, 0, [], rfl, .inl rfl, Nat.zero_le _⟩
  · have hlm : len ≤ m := by rw [hmm]; split <;> omega
    refine ⟨some a, cap, (List.range len).map Sx, by simp, ?_, ?_⟩
    · rcases Nat.eq_zero_or_pos len with h0 | h0
      · left; simp [h0]
      · right
        obtain ⟨b, off, spot⟩ := a
        have hsp : spot = none := cells_none (a := ⟨b, off, spot⟩) (n := 1) (cs := [.string (Sx 0)]) (by omega) (fun j hj => by
          have : j = 0 := by omega
          subst this
          exact (hx 0 (by omega)).1) rfl
        subst hsp
        have e0 := (hx 0 (by omega)).1
        refine ⟨b, off, rfl, by simpa [Addr.add] using World.block_lt_of_cell? _ _ e0, fun j u hu => ?_⟩
        have hj : j < len := by
          have := (List.getElem?_eq_some_iff.1 hu).1
          rw [length_flatMap_const enS 1 enS_len] at this
          simpa using this
        have h2 := getElem?_flatMap enS 1 enS_len ((List.range len).map Sx) j (Sx j) (by simp [hj]) 0 (by omega)
        simp only [Nat.mul_one, Nat.add_zero] at h2
        rw [h2] at hu
        simp [enS] at hu
        subst hu
        have e1 := (hx j (by omega)).1
        rw [add_plain] at e1
        exact e1
    · have key : ∀ L : List Nat, ((L.map Sx).map fun s => s.size + 1).sum = Rows.uptoBulkAll (L.map fun i => (DataW.lit (.string (Sx i).data.toList) : DataW H)) := by
        intro L
        induction L with
        | nil => rfl
        | cons i L ih =>
          simp only [List.map_cons, List.sum_cons, ih, Rows.uptoBulkAll, Rows.uptoBulk]
          rw [size_list]
      rw [key]
      simp only [Rows.uptoBulk]
      omega

theorem sizes_bulk (l : List ByteArray) : sizes l ≤ 10 * (l.map fun s => s.size + 1).sum ∧ l.length ≤ (l.map fun s => s.size + 1).sum := by
  unfold sizes
  induction l with
  | nil => simp
  | cons x l ih => simp only [List.map_cons, List.sum_cons, List.length_cons]; omega

end Go.Proofs.Ytnobnokmecdkcaa
