/-
  EngineEnds, plain: of each step at most two effects are pending.
  A row whose slice may be cut to its length (s[:n:n]), and an append to it.
  The law's ref: a definition, as the document has it (turned from XRe12's).
  Arguments with depth: slices whose elements are structs with slices in them; how long each is. No program, no condition.
  Layer 12: a definition of a flow as an argument.
  Layer 13: the laws' plans, the program's beside the document's.
-/
import Derived.Test.YtoemmakhbiiknaaGreatQe13
namespace Go.Proofs.YtoemmakhbiiknaaGreat
open Go.RowKit Go.WideShapes Go.ChangeShapes Go.ChangeAt Go.Deep
set_option linter.unusedVariables false

/-- How many effects of a step may be pending, by its mark. -/
def bnd (m : Int) : Nat := if m = 0 then 0 else if m ≤ 3 then 1 else 2
def cntE (l : List Eff) (s : Nat) : Nat := l.countP fun f => f.step == (s : Int)
def NB (l : List Eff) (ms : List Int) : Prop := ∀ s : Nat, cntE l s ≤ bnd (mkA ms s)
theorem cntE_append (a b : List Eff) (s : Nat) : cntE (a ++ b) s = cntE a s + cntE b s := by simp [cntE]
section
variable {Ls : List Stp} {Bs : List IRow} {pd l : List Eff} {ms : List Int} {v : Iv} {k : Nat}
theorem NB.upd (h : NB l ms) (hk : k < ms.length) {m : Int} {fs : List Eff} (hf : ∀ f ∈ fs, f.step = (k : Int)) (hc : cntE l k + fs.length ≤ bnd m) : NB (l ++ fs) (ms.set k m) := fun s => by
  rw [cntE_append, mkA_set ms hk]
  by_cases e : s = k
  · rw [if_pos e, e]
    have : cntE fs k ≤ fs.length := List.countP_le_length
    omega
  · rw [if_neg e]
    have : cntE fs s = 0 := List.countP_eq_zero.2 fun f hm => by
      have := hf f hm
      simp only [beq_iff_eq]
      omega
    have := h s
    omega
theorem NB.set (h : NB l ms) (hk : k < ms.length) {m : Int} (hc : cntE l k ≤ bnd m) : NB l (ms.set k m) := by
  have := h.upd hk (m := m) (fs := []) (fun f hf => by cases hf) (by simpa using hc)
  rwa [List.append_nil] at this
theorem NB.pop {f : Eff} {a b : List Eff} (h : NB (a ++ f :: b) ms) (hk : f.step = (k : Int)) : NB (a ++ b) ms ∧ cntE (a ++ b) k + 1 ≤ bnd (mkA ms k) := by
  have e : ∀ s, cntE (a ++ f :: b) s = cntE (a ++ b) s + if f.step = (s : Int) then 1 else 0 := fun s => by
    simp only [cntE, List.countP_append, List.countP_cons, beq_iff_eq]
    omega
  refine ⟨fun s => ?_, ?_⟩
  · have := h s
    rw [e] at this
    omega
  · have := h k
    rw [e, if_pos hk] at this
    exact this
theorem NB.len (h : NB l ms) {n : Nat} (hr : ∀ f ∈ l, ∃ q : Nat, f.step = (q : Int) ∧ q < n) : l.length ≤ 2 * n := by
  have hb : ∀ s : Nat, cntE l s ≤ 2 := fun s => by
    have := h s
    have : ∀ m, bnd m ≤ 2 := fun m => by unfold bnd; split <;> (try split) <;> omega
    have := this (mkA ms s)
    omega
  have hs : ∀ n : Nat, l.countP (fun f => decide (0 ≤ f.step ∧ f.step < (n : Int))) ≤ 2 * n := fun n => by
    induction n with
    | zero =>
      rw [List.countP_eq_zero.2 (fun f _ => by simp only [decide_eq_true_eq]; omega)]
      exact Nat.zero_le _
    | succ n ih =>
      have := hb n
      have e : l.countP (fun f => decide (0 ≤ f.step ∧ f.step < ((n + 1 : Nat) : Int))) ≤ l.countP (fun f => decide (0 ≤ f.step ∧ f.step < (n : Int))) + cntE l n := by
        unfold cntE
        clear hb ih this h hr
        induction l with
        | nil => simp
        | cons f t iht =>
          simp only [List.countP_cons]
          by_cases e1 : 0 ≤ f.step ∧ f.step < (n : Int)
          · have e2 : 0 ≤ f.step ∧ f.step < ((n + 1 : Nat) : Int) := by omega
            rw [decide_eq_true e2, decide_eq_true e1]
            simp only [if_true]
            omega
          · by_cases e3 : f.step = (n : Int)
            · have e2 : 0 ≤ f.step ∧ f.step < ((n + 1 : Nat) : Int) := by omega
              have e4 : (f.step == (n : Int)) = true := by simpa using e3
              rw [decide_eq_true e2, decide_eq_false e1, e4]
              simp only [if_true]
              simp only [Bool.false_eq_true, if_false]
              omega
            · have e2 : ¬ (0 ≤ f.step ∧ f.step < ((n + 1 : Nat) : Int)) := by omega
              have e4 : (f.step == (n : Int)) = false := by simpa using e3
              rw [decide_eq_false e2, decide_eq_false e1, e4]
              simp only [Bool.false_eq_true, if_false]
              omega
      omega
  have hall : l.countP (fun f => decide (0 ≤ f.step ∧ f.step < (n : Int))) = l.length := List.countP_eq_length.2 fun f hf => by
    obtain ⟨q, h1, h2⟩ := hr f hf
    simp only [decide_eq_true_eq]
    omega
  have := hs n
  omega
/-- What the engine's parts leave of it. -/
theorem NB.bg (h : NB (pd ++ v.out) v.ms) (hk : k < v.ms.length) (h0 : mkA v.ms k = 0) (t : Stp) : NB (pd ++ (bgV v k t).out) (bgV v k t).ms := by
  have hc : cntE (pd ++ v.out) k ≤ 0 := by have := h k; rw [h0] at this; exact this
  unfold bgV
  split
  · have := h.upd hk (m := 1) (fs := [⟨1, v.ord, k, 1, 0, false⟩]) (fun f hf => by obtain rfl := List.mem_singleton.1 hf; rfl) (by simp only [List.length_singleton, show bnd 1 = 1 from rfl]; omega)
    rwa [List.append_assoc] at this
  · split
    · exact h.set hk (by simp only [show bnd 3 = 1 from rfl]; omega)
    · have := h.upd hk (m := 2) (fs := [⟨2, v.ord, k, 0, t.wi, false⟩]) (fun f hf => by obtain rfl := List.mem_singleton.1 hf; rfl) (by simp only [List.length_singleton, show bnd 2 = 1 from rfl]; omega)
      rwa [List.append_assoc] at this
theorem NB.goNs (h : NB (pd ++ v.out) v.ms) (hl : v.ms.length = Ls.length) : ∀ k, NB (pd ++ (goN Ls Bs v k).out) (goN Ls Bs v k).ms ∧ (goN Ls Bs v k).ms.length = Ls.length
  | 0 => ⟨h, hl⟩
  | k + 1 => by
    obtain ⟨h1, h2⟩ := NB.goNs h hl k
    refine ⟨?_, (goS_ms Ls Bs (goN Ls Bs v k) k).trans h2⟩
    show NB (pd ++ (goS Ls Bs (goN Ls Bs v k) k).out) (goS Ls Bs (goN Ls Bs v k) k).ms
    unfold goS
    split
    · rename_i hc
      simp only [Bool.and_eq_true, beq_iff_eq] at hc
      cases ht : Ls[k]? with
      | none => exact h1
      | some t => exact h1.bg (by rw [h2]; exact (List.getElem?_eq_some_iff.1 ht).1) hc.1 t
    · exact h1
theorem NB.go (h : NB (pd ++ v.out) v.ms) (hl : v.ms.length = Ls.length) : NB (pd ++ (goV Ls Bs v).out) (goV Ls Bs v).ms := by
  unfold goV
  split
  · exact (h.goNs hl _).1
  · exact (h.goNs hl _).1
theorem mk_in {ms : List Int} {s : Nat} (h : mkA ms s ≠ 0) : s < ms.length := by
  by_cases e : s < ms.length
  · exact e
  · exact absurd (mkA_out (by omega)) h
theorem NB.uw1 (h : NB (pd ++ v.out) v.ms) (k : Nat) : NB (pd ++ (uwS Ls Bs v k).out) (uwS Ls Bs v k).ms := by
  unfold uwS
  split
  · rename_i hc
    simp only [Bool.and_eq_true, Bool.or_eq_true, beq_iff_eq] at hc
    have hk : k < v.ms.length := mk_in (by omega)
    have hb : cntE (pd ++ v.out) k ≤ 1 := by
      have := h k
      rcases hc.1 with e | e <;> rw [e] at this <;> exact this
    cases ht : Ls[k]? with
    | none => exact h
    | some t =>
      simp only
      split
      · have := h.upd hk (m := 4) (fs := [⟨1, v.ord, k, 0, 0, true⟩]) (fun f hf => by obtain rfl := List.mem_singleton.1 hf; rfl) (by simp only [List.length_singleton, show bnd 4 = 2 from rfl]; omega)
        rwa [List.append_assoc] at this
      · exact h.set hk (by simp only [show bnd 5 = 2 from rfl]; omega)
  · exact h
theorem NB.uwNs (h : NB (pd ++ v.out) v.ms) (n : Nat) : ∀ k, NB (pd ++ (uwN Ls Bs n v k).out) (uwN Ls Bs n v k).ms
  | 0 => h
  | k + 1 => (NB.uwNs h n k).uw1 _
theorem NB.uw (h : NB (pd ++ v.out) v.ms) : NB (pd ++ (uwV Ls Bs v).out) (uwV Ls Bs v).ms := by
  unfold uwV
  split
  · exact h.uwNs _ _
  · exact h.uwNs _ _
theorem NB.tn1 (h : NB (pd ++ v.out) v.ms) (k : Nat) : NB (pd ++ (tnS v k).out) (tnS v k).ms := by
  unfold tnS
  split
  · rename_i hc
    simp only [beq_iff_eq] at hc
    have hk : k < v.ms.length := mk_in (by omega)
    have hb : cntE (pd ++ v.out) k ≤ 1 := by
      have := h k
      rw [hc] at this
      exact this
    have := h.upd hk (m := 5) (fs := [⟨3, v.ord, k, 0, 0, false⟩]) (fun f hf => by obtain rfl := List.mem_singleton.1 hf; rfl) (by simp only [List.length_singleton, show bnd 5 = 2 from rfl]; omega)
    rwa [List.append_assoc] at this
  · exact h
theorem NB.tnNs (h : NB (pd ++ v.out) v.ms) : ∀ k, NB (pd ++ (tnN v k).out) (tnN v k).ms
  | 0 => h
  | k + 1 => (NB.tnNs h k).tn1 k
theorem NB.turn (h : NB (pd ++ v.out) v.ms) : NB (pd ++ (turnV Ls Bs v).out) (turnV Ls Bs v).ms :=
  (NB.tnNs (v := { v with st := 1 }) h v.ms.length).uw
/-- The calls. -/
theorem NB.fire {f : Eff} {a b : List Eff} (h : NB (pd ++ v.out) v.ms) (ho : v.out = []) (hpd : pd = a ++ f :: b) (hk : f.step = (k : Int)) (t : Stp) : NB (a ++ b ++ (frV Ls Bs v t k).out) (frV Ls Bs v t k).ms := by
  subst hpd
  rw [ho, List.append_nil] at h
  obtain ⟨h1, h2⟩ := h.pop hk
  unfold frV
  split
  · rw [ho, List.append_nil]; exact h1
  · rename_i hc
    have hc : mkA v.ms k = 2 := by simpa using hc
    have hkl : k < v.ms.length := mk_in (by omega)
    rw [hc, show bnd 2 = 1 from rfl] at h2
    split
    · rw [ho, List.nil_append]
      exact h1.upd hkl (m := 1) (fun f hf => by obtain rfl := List.mem_singleton.1 hf; rfl) (by simp only [List.length_singleton, show bnd 1 = 1 from rfl]; omega)
    · refine NB.turn (v := { v with ms := v.ms.set k 5 }) ?_
      show NB (a ++ b ++ v.out) (v.ms.set k 5)
      rw [ho, List.append_nil]
      exact h1.set hkl (by simp only [show bnd 5 = 2 from rfl]; omega)
theorem NB.reply {f : Eff} {a b : List Eff} (h : NB (pd ++ v.out) v.ms) (ho : v.out = []) (hl : v.ms.length = Ls.length) (hpd : pd = a ++ f :: b) (hk : f.step = (k : Int)) (t : Stp) (tr : Int) (u : Bool) (code : Int) : NB (a ++ b ++ (rpV Ls Bs v t k tr u code).out) (rpV Ls Bs v t k tr u code).ms := by
  subst hpd
  rw [ho, List.append_nil] at h
  obtain ⟨h1, h2⟩ := h.pop hk
  have hh : NB (a ++ b ++ v.out) v.ms := by rw [ho, List.append_nil]; exact h1
  unfold rpV
  split
  · split
    · rename_i hc
      have hc : mkA v.ms k = 4 := by simpa using hc
      have hkl : k < v.ms.length := mk_in (by omega)
      rw [hc, show bnd 4 = 2 from rfl] at h2
      refine NB.uw (v := { v with ms := v.ms.set k 5 }) ?_
      show NB (a ++ b ++ v.out) (v.ms.set k 5)
      rw [ho, List.append_nil]
      exact h1.set hkl (by simp only [show bnd 5 = 2 from rfl]; omega)
    · exact hh
  · split
    · exact hh
    · rename_i hc
      simp only [Bool.or_eq_true, bne_iff_ne, not_or, Decidable.not_not] at hc
      obtain ⟨_, hc, _⟩ := hc
      have hkl : k < v.ms.length := mk_in (by omega)
      rw [hc, show bnd 1 = 1 from rfl] at h2
      split
      · refine NB.go (v := { v with ms := v.ms.set k 3 }) ?_ (by simpa using hl)
        show NB (a ++ b ++ v.out) (v.ms.set k 3)
        rw [ho, List.append_nil]
        exact h1.set hkl (by simp only [show bnd 3 = 1 from rfl]; omega)
      · split
        · show NB (a ++ b ++ (v.out ++ _)) (v.ms.set k 2)
          rw [ho, List.nil_append]
          exact h1.upd hkl (m := 2) (fun f hf => by obtain rfl := List.mem_singleton.1 hf; rfl) (by simp only [List.length_singleton, show bnd 2 = 1 from rfl]; omega)
        · refine NB.turn (v := { v with ms := v.ms.set k 5 }) ?_
          show NB (a ++ b ++ v.out) (v.ms.set k 5)
          rw [ho, List.append_nil]
          exact h1.set hkl (by simp only [show bnd 5 = 2 from rfl]; omega)
theorem NB.drop {f : Eff} {a b : List Eff} (h : NB (a ++ f :: b) v.ms) {q : Nat} (hk : f.step = (q : Int)) : NB (a ++ b) v.ms := (h.pop hk).1
theorem NB.start (o : Int) : NB ([] ++ (goV Ls Bs (newV o Ls.length)).out) (goV Ls Bs (newV o Ls.length)).ms :=
  NB.go (v := newV o Ls.length) (fun s => by simp [newV, cntE]) (by simp [newV])
end

end Go.Proofs.YtoemmakhbiiknaaGreat

namespace Go.Proofs.YtoemmakhbiiknaaGreat
open Go.RowKit Go.WideShapes Go.ChangeShapes Go.ChangeAt Go.Deep
set_option linter.unusedVariables false

/-- A row, its slice with its whole capacity or cut to its length. -/
def CutR (w : World) (base : Nat) (e : TypeId) (size : Nat) (A : Option Addr) (n c : Nat) (xs : List Value) : Prop := ∃ c', (c = c' ∨ c = n) ∧ w.ownsRow base e size (.slice A n c') n xs
theorem CutR.of {w : World} {base : Nat} {e : TypeId} {size : Nat} {A : Option Addr} {n c : Nat} {xs : List Value} (h : w.ownsRow base e size (.slice A n c) n xs) : CutR w base e size A n c xs := ⟨c, .inl rfl, h⟩
/-- The first k of a row. -/
theorem CutR.take {w : World} {base : Nat} {e : TypeId} {size : Nat} {A : Option Addr} {n c k : Nat} {xs : List Value} (h : CutR w base e size A n c xs) (hk : k ≤ n) (hA : A ≠ none) : CutR w base e size A k k (xs.take (k * size)) := by
  obtain ⟨c', _, h1, h2⟩ := h
  rcases h2 with ⟨h2, _⟩ | ⟨g, cap, cur, h2, hb, hg, hn, hm, hs, ht⟩
  · injection h2 with h2
    exact absurd h2 hA
  · injection h2 with h2 _ h3
    subst h2 h3
    refine ⟨c', .inr rfl, ?_, .inr ⟨g, c', cur, rfl, hb, hg, by omega, hm, hs, ?_⟩⟩
    · rw [List.length_take, h1]
      exact Nat.min_eq_left (Nat.mul_le_mul_right _ hk)
    · rw [← ht, List.take_take, Nat.min_eq_left (Nat.mul_le_mul_right _ hk)]
theorem grown_self (w : World) (r : Option Nat) : w.grownBy w r := ⟨rfl, rfl, rfl, Nat.le_refl _, fun _ _ _ => rfl⟩
theorem run_append_cut {P : Program} (w : World) (base : Nat) (t ty : TypeId) (e : TypeId) (i : TypeInfo) (z : Value) (size bytes : Nat) (ht : P.underlying t = some (.slice e)) (hi : P.info? e = some i) (hz : i.zero = some z)
    (hsize : i.size = size) (hby : i.bytes = bytes) (hzs : z.cells.size = size) (hsz : 0 < size) {A A2 : Option Addr} {n c m c2 : Nat} {xs ys : List Value} (h : CutR w base e size A n c xs)
    (hl : ys.length = m * size) (hR : Rd w A2 ys) (h1 : ∀ u ∈ ys, u.oneCell' = true) (h63 : n + m ≤ maxLen) (hb : (n + m) * bytes ≤ 140737488355328) (hbase : base ≤ w.heap.size) :
    ∃ A' c' w', (Builtin.append_ #[t, t] ty #[.slice A n c, .slice A2 m c2]).run P w = .ok (.slice A' (n + m) c') w' ∧ CutR w' base e size A' (n + m) c' (xs ++ ys) ∧ w.grownBy w' (A.map (·.block)) ∧ (A'.map (·.block) = A.map (·.block) ∨ A'.map (·.block) = some w.heap.size) := by
  have hle : n ≤ c := by
    obtain ⟨c', h1, h2⟩ := h
    rcases h1 with h1 | h1
    · subst h1
      rcases h2.2 with ⟨h3, h4⟩ | ⟨g, cap, cur, h3, _, _, h5, _⟩
      · injection h3; omega
      · injection h3; omega
    · omega
  have nothing : m = 0 → ∃ A' c' w', (Builtin.append_ #[t, t] ty #[.slice A n c, .slice A2 m c2]).run P w = .ok (.slice A' (n + m) c') w' ∧ CutR w' base e size A' (n + m) c' (xs ++ ys) ∧ w.grownBy w' (A.map (·.block)) ∧ (A'.map (·.block) = A.map (·.block) ∨ A'.map (·.block) = some w.heap.size) := fun h0 => by
    subst h0
    obtain rfl : ys = [] := List.eq_nil_of_length_eq_zero (by simpa using hl)
    refine ⟨A, c, w, ?_, by simpa using h, grown_self w _, .inl rfl⟩
    cases A2 with
    | none => cases A <;> simp [Builtin.append_, run_underlying ht, sizeOf, typeInfo, hi, Builtin.lenOf, Builtin.firstCells, loadCells, storeCells, hle]
    | some ad => cases A <;> simp [Builtin.append_, run_underlying ht, sizeOf, typeInfo, hi, Builtin.lenOf, Builtin.firstCells, loadCells, loadCellsFrom, storeCells, hle]
  by_cases hm : m = 0
  · exact nothing hm
  · have hys : ys ≠ [] := fun e => by
      subst e
      rw [List.length_nil] at hl
      have := Nat.mul_pos (Nat.pos_of_ne_zero hm) hsz
      omega
    rcases hR with h0 | ⟨b, off, rfl, hlt, hc⟩
    · exact absurd h0 hys
    · have hnews : ∀ j u, ys[j]? = some u → w.cell? ((⟨b, off, none⟩ : Addr).add j) = some u := fun j u hu => by rw [add_plain]; exact hc j u hu
      obtain ⟨c', hcc, hown⟩ := h
      by_cases hcut : c = c'
      · subst hcut
        obtain ⟨v', w', hr, h2, h3, h4, h5⟩ := run_append_own_at (P := P) w base t ty e i z size bytes ht hi hz hsize hby hzs hsz _ n xs hown ⟨b, off, none⟩ m c2 ys hl hnews h1 h63 hb hbase
        obtain ⟨A', cap', rfl, _⟩ := own_slice h2
        have hob : ∀ (a : Option Addr) (x y : Nat), (Value.slice a x y).ownBlock = a.map (·.block) := fun a x y => by cases a <;> rfl
        rw [hob] at h3 h5
        rw [hob] at h5
        exact ⟨A', cap', w', hr, .of h2, h3, h5⟩
      · have hcn : c = n := by rcases hcc with h | h; exact absurd h hcut; exact h
        subst hcn
        rcases hown.2 with ⟨h3, h4⟩ | ⟨g, cap, cur, h3, hbg, hg, hnc, hcm, hcs, htake⟩
        · injection h3 with h5 h6 h7
          omega
        · injection h3 with h5 h6 h7
          subst h5 h7
          subst hsize hby
          have holds : ∀ j u, xs[j]? = some u → w.cell? ((⟨g, 0, none⟩ : Addr).add j) = some u := hown.cells (g := g) rfl
          have hsm : c + m ≤ 9223372036854775807 := by simp only [maxLen] at h63; omega
          have hr := run_append_grow (P := P) w t ty e i z ht hi hz ⟨g, 0, none⟩ c c xs hown.1 holds ⟨b, off, none⟩ m c2 ys hl hnews (by omega) (by omega) (growslice_fits (by omega) hb)
          have hge := grownCap_ge w (c + m) c e
          have hcm' : grownCap w (c + m) c e ≤ maxLen := grownCap_le_maxLen w (c + m) c e h63
          have hlen : (xs ++ ys).length = (c + m) * i.size := by rw [List.length_append, hown.1, hl, Nat.add_mul]
          refine ⟨_, _, _, hr, .of ⟨hlen, .inr ⟨w.heap.size, _, _, rfl, hbase, heap_alloc_new w.drew _, hge, hcm', ?_, ?_⟩⟩, ⟨rfl, rfl, rfl, by simp, fun k hk _ => Below.heap_alloc w.drew _ k hk⟩, .inr rfl⟩
          · simp only [Array.size_append, List.size_toArray, size_zeroCells, hzs, hown.1, hl, ← Nat.add_mul]
            congr 1
            omega
          · simp only [Array.toList_append, List.append_assoc]
            rw [← List.append_assoc, ← hlen]
            exact List.take_left
section
variable {P : Program} {w : World} (base : Nat) (e : TypeId) (i : TypeInfo) (z : Value) (size bytes : Nat)
theorem exec_append_cut {o : Oper} {a : Act} {X : Value → World → Prop} (s x : Operand) (t : TypeId)
    (ho : o.op = .call { callee := .builtin .append, args := #[s, x], argTypes := #[t, t] }) (ht : P.underlying t = some (.slice e)) (hi : P.info? e = some i) (hz : i.zero = some z)
    (hsize : i.size = size) (hby : i.bytes = bytes) (hzs : z.cells.size = size) (hsz : 0 < size) {A A2 : Option Addr} {n c m c2 : Nat} {xs ys : List Value} (hs : a.eval s = .slice A n c) (h : CutR w base e size A n c xs)
    (hx : a.eval x = .slice A2 m c2) (hl : ys.length = m * size) (hR : Rd w A2 ys) (h1 : ∀ u ∈ ys, u.oneCell' = true) (h63 : n + m ≤ maxLen) (hb : (n + m) * bytes ≤ 140737488355328) (hbase : base ≤ w.heap.size)
    (hK : ∀ A' c' w', CutR w' base e size A' (n + m) c' (xs ++ ys) → w.grownBy w' (A.map (·.block)) → (A'.map (·.block) = A.map (·.block) ∨ A'.map (·.block) = some w.heap.size) → X (.slice A' (n + m) c') w') : ∃ u w', (execOp a.eval o).run P w = .ok (.value u) w' ∧ X u w' := by
  obtain ⟨A', c', w', hr, h2, h3, h4⟩ := run_append_cut (P := P) w base t o.type e i z size bytes ht hi hz hsize hby hzs hsz (c2 := c2) h hl hR h1 h63 hb hbase
  refine ⟨_, w', ?_, hK A' c' w' h2 h3 h4⟩
  unfold execOp
  simp only [ho, resolve, invoke, builtin, Sem.run_bind, Sem.run_pure, Result.andThen_ok, List.map_toArray, List.map_cons, List.map_nil, hs, hx, hr]
theorem step_append_cut {ops : Array Oper} {o : Oper} {a : Act} {K : Act → World → Prop} {Q : Exit → Act → World → Prop} {E : Prop} (hgd : o.guard = none) (s x : Operand) (t : TypeId)
    (ho : o.op = .call { callee := .builtin .append, args := #[s, x], argTypes := #[t, t] }) (ht : P.underlying t = some (.slice e)) (hi : P.info? e = some i) (hz : i.zero = some z)
    (hsize : i.size = size) (hby : i.bytes = bytes) (hzs : z.cells.size = size) (hsz : 0 < size) {A A2 : Option Addr} {n c m c2 : Nat} {xs ys : List Value} (hs : a.eval s = .slice A n c) (h : CutR w base e size A n c xs)
    (hx : a.eval x = .slice A2 m c2) (hl : ys.length = m * size) (hR : Rd w A2 ys) (h1 : ∀ u ∈ ys, u.oneCell' = true) (h63 : n + m ≤ maxLen) (hb : (n + m) * bytes ≤ 140737488355328) (hbase : base ≤ w.heap.size)
    (hK : ∀ A' c' w', CutR w' base e size A' (n + m) c' (xs ++ ys) → w.grownBy w' (A.map (·.block)) → (A'.map (·.block) = A.map (·.block) ∨ A'.map (·.block) = some w.heap.size) → K (a.put o.dst (.slice A' (n + m) c')) w') :
    if Region.wanted o (yielded ops a.tmps) = true then Oper.wp P o a w K Q else E := by
  have hw : Region.wanted o (yielded ops a.tmps) = true := by simp [Region.wanted, hgd]
  rw [if_pos hw]
  obtain ⟨A', c', w', hr, h2, h3, h4⟩ := run_append_cut (P := P) w base t o.type e i z size bytes ht hi hz hsize hby hzs hsz (c2 := c2) h hl hR h1 h63 hb hbase
  unfold Oper.wp execOp
  simp only [ho, resolve, invoke, builtin, Sem.run_bind, Sem.run_pure, Result.andThen_ok, List.map_toArray, List.map_cons, List.map_nil, hs, hx, hr]
  exact hK A' c' w' h2 h3 h4
end

end Go.Proofs.YtoemmakhbiiknaaGreat

namespace Go.Proofs.YtoemmakhbiiknaaGreat
open Go.RowKit Go.MapKept Go.ChangeMaps Go.WideShapes Go.ChangeShapes Go.ChangeAt Go.Deep
set_option linter.unusedVariables false

/-- While ref runs. -/
structure RfS (w0 : World) (D R O : Nat) (nm : ByteArray) (A : Option Addr) (n cp : Nat) (SA : Option Addr) (sc : Nat) (Ls : List Stp) (w : World) : Prop where
  d : Blk w D 60 #[.string nm, .slice A n cp]
  r : Blk w R 86 #[.string ⟨#[]⟩, .slice none 0 0]
  o : Blk w O 86 #[.string nm, .slice SA Ls.length sc]
  ne : R ≠ O
  os : w.ownsRow w0.heap.size 156 9 (.slice SA Ls.length sc) Ls.length (Ls.flatMap enSt)
  st : ∀ s ∈ Ls, OwnSt w0.heap.size w s
  bel : Below w0.heap.size w0 w
  lo : w0.heap.size ≤ R ∧ w0.heap.size ≤ O
section
variable {w0 : World} {D R O : Nat} {nm : ByteArray} {A : Option Addr} {n cp : Nat} {SA : Option Addr} {sc : Nat} {Ls : List Stp} {w w' : World}
theorem RfS.next (h : RfS w0 D R O nm A n cp SA sc Ls w) (hb : Below w.heap.size w w') : RfS w0 D R O nm A n cp SA sc Ls w' :=
  ⟨h.d.next hb, h.r.next hb, h.o.next hb, h.ne, own_next h.os hb, fun s hs => own_next (h.st s hs) hb, bthen h.bel hb, h.lo⟩
theorem RfS.grew {g cap : Nat} (h : RfS w0 D R O nm A n cp SA sc Ls w) (hg : w.grownBy w' (Value.slice SA Ls.length sc).ownBlock) (t : Stp) (ho : w'.ownsRow w0.heap.size 156 9 (.slice (some ⟨g, 0, none⟩) (Ls.length + 1) cap) (Ls.length + 1) (Ls.flatMap enSt ++ enSt t)) (ht : OwnSt w0.heap.size w t) :
    RfS w0 D R O nm A n cp (some ⟨g, 0, none⟩) cap (Ls ++ [t]) (w'.setCell ⟨O, 1, none⟩ (.slice (some ⟨g, 0, none⟩) (Ls.length + 1) cap)) := by
  have hT := touch_own hg
  have hd := hT.blk h.d (fun e => own_notBlk h.os h.d (by decide) e)
  have hr := hT.blk h.r (fun e => own_notBlk h.os h.r (by decide) e)
  have hO := hT.blk h.o (fun e => own_notBlk h.os h.o (by decide) e)
  have hT2 := Touch.setCell w' O 1 (.slice (some ⟨g, 0, none⟩) (Ls.length + 1) cap)
  have no : ∀ {base : Nat} {e : TypeId} {size : Nat} {v : Value} {n : Nat} {xs : List Value}, 156 ≠ e → w.ownsRow base e size v n xs → w'.ownsRow base e size v n xs := fun hne ho2 => own_touch ho2 hT (fun g hg e => own_other h.os ho2 hne hg e)
  have no2 : ∀ {base : Nat} {e : TypeId} {size : Nat} {v : Value} {n : Nat} {xs : List Value}, e ≠ 86 → w'.ownsRow base e size v n xs → (w'.setCell ⟨O, 1, none⟩ (.slice (some ⟨g, 0, none⟩) (Ls.length + 1) cap)).ownsRow base e size v n xs := fun hne ho2 => own_touch ho2 hT2 (fun g hg e => own_notBlk ho2 hO hne (by rw [hg, e]))
  have hb := h.bel.trans (hT.below h.bel.size (fun k hk => (h.os.lt k hk).1))
  have hl : (Ls ++ [t]).length = Ls.length + 1 := by simp
  refine ⟨hT2.blk hd (fun e => hd.ne_ hO (by decide) e), hT2.blk hr (fun e => h.ne e), ?_, h.ne, ?_, fun s hs => ?_, hb.trans (hT2.below hb.size (fun k hk => by rw [hk]; exact h.lo.2)), h.lo⟩
  · rw [hl]; exact hO.set_ 1 _
  · have := no2 (by decide) ho
    rw [List.flatMap_append, hl]
    simpa using this
  · rcases List.mem_append.1 hs with hs | hs
    · exact no2 (by decide) (no (by decide) (h.st s hs))
    · simp at hs; subst hs; exact no2 (by decide) (no (by decide) ht)
end
theorem info_rstep12 : (Tryz.prog.info? 156).map (fun i => (i.zero, i.size, i.bytes)) = some (some (.agg #[.string ⟨#[]⟩, .string ⟨#[]⟩, .string ⟨#[]⟩, .string ⟨#[]⟩, .bool false, .int .i64 0, .int .i64 0, .int .i64 0, .slice none 0 0]), 9, 120) := by kernel_rfl
/-- What ref answers. -/
def RefR (nm : ByteArray) (l : List Stp) (w : World) (e : Ending) (w' : World) : Prop := ∃ (SA : Option Addr) (sc : Nat) (Ls : List Stp), e = .returned (.agg #[.string nm, .slice SA Ls.length sc]) ∧ Twins l Ls ∧ w'.ownsRow w.heap.size 156 9 (.slice SA Ls.length sc) Ls.length (Ls.flatMap enSt) ∧ (∀ s ∈ Ls, OwnSt w.heap.size w' s) ∧ Below w.heap.size w w'

set_option maxRecDepth 100000 in
set_option maxHeartbeats 32000000 in
theorem ref_any (nm : ByteArray) (l : List Stp) (A : Option Addr) (cp : Nat) (w : World) (hR : Rd w A (l.flatMap enSt)) (hok : ∀ s ∈ l, OkSt w s) (hl : l.length ≤ 1000) :
    Calls Tryz.prog 27 #[.agg #[.string nm, .slice A l.length cp]] w (RefR nm l w) := by
  have HOK := hid hok
  have HR := hid hR
  clear hok hR
  have hD0 := Blk.new w 60 #[.string nm, .slice A l.length cp]
  have b0 : Below w.heap.size w (w.alloc (.cells #[.string nm, .slice A l.length cp] 60)) := (Below.refl _ _).alloc (Nat.le_refl _) _
  obtain ⟨w1, e1⟩ : ∃ w1, w1 = w.alloc (.cells #[.string nm, .slice A l.length cp] 60) := ⟨_, rfl⟩
  obtain ⟨D, g1⟩ : ∃ D, D = w.heap.size := ⟨_, rfl⟩
  rw [← e1] at hD0 b0
  rw [← g1] at hD0
  have hR0 := Blk.new w1 86 #[.string ⟨#[]⟩, .slice none 0 0]
  have b1 : Below w1.heap.size w1 (w1.alloc (.cells #[.string ⟨#[]⟩, .slice none 0 0] 86)) := (Below.refl _ _).alloc (Nat.le_refl _) _
  obtain ⟨w2, e2⟩ : ∃ w2, w2 = w1.alloc (.cells #[.string ⟨#[]⟩, .slice none 0 0] 86) := ⟨_, rfl⟩
  obtain ⟨R, g2⟩ : ∃ R, R = w1.heap.size := ⟨_, rfl⟩
  rw [← e2] at hR0 b1
  rw [← g2] at hR0
  have hO0 := Blk.new w2 86 #[.string nm, .slice none 0 0]
  have b2 : Below w2.heap.size w2 (w2.alloc (.cells #[.string nm, .slice none 0 0] 86)) := (Below.refl _ _).alloc (Nat.le_refl _) _
  obtain ⟨w3, e3⟩ : ∃ w3, w3 = w2.alloc (.cells #[.string nm, .slice none 0 0] 86) := ⟨_, rfl⟩
  obtain ⟨O, g3⟩ : ∃ O, O = w2.heap.size := ⟨_, rfl⟩
  rw [← e3] at hO0 b2
  rw [← g3] at hO0
  have hs1 : w1.heap.size = w.heap.size + 1 := by rw [e1, World.size_alloc]
  have hs2 : w2.heap.size = w1.heap.size + 1 := by rw [e2, World.size_alloc]
  have hS : RfS w D R O nm A l.length cp none 0 [] w3 := ⟨(hD0.next b1).next b2, hR0.next b2, hO0, by omega, World.ownsRow_nil _ _ _ _, (fun s hs => by cases hs), bthen (bthen b0 b1) b2, by omega, by omega⟩
  have HS := hid hS
  have c0 : w1.cell? ⟨D, 0, none⟩ = some (.string nm) := hD0.cell 0
  have c2 : w2.cell? ⟨D, 0, none⟩ = some (.string nm) := (hD0.next b1).cell 0
  have lD : D < w1.heap.size := hD0.lt
  have lD2 : D < w2.heap.size := by omega
  have HE := hid (And.intro e1 (And.intro g1 (And.intro e2 (And.intro g2 (And.intro e3 g3)))))
  have HSZ := hid (And.intro hs1 hs2)
  have HT0 := hid (show Twins (l.take 0) [] from ⟨by simp, fun k s h => by simp at h⟩)
  clear hD0 b0 e1 g1 hR0 b1 e2 g2 hO0 b2 e3 g3 hS hs1 hs2
  go_enter Tryz.func27, Tryz.ntmps27
  go_upto_region 1 with fail
  rw [← HE.out.1, ← HE.out.2.2.1, ← HE.out.2.1, show D + 1 = R from by rw [HE.out.2.2.2.1, HSZ.out.1, HE.out.2.1]]
  go_upto_region 2 with fail
  rw [← HE.out.2.2.2.2.2, ← HE.out.2.2.2.2.1]
  have d1 : w3.cell? ⟨D, 1, none⟩ = some (.slice A l.length cp) := HS.out.d.cell 1
  have lD3 := HS.out.d.lt
  clear c0 c2 lD lD2 HSZ HE
  obtain ⟨i1, hi, hz0, hz1, hz2⟩ := info_parts info_str12
  obtain ⟨i2, hj, hy0, hy1, hy2⟩ := info_parts info_rstep12
  go_wp2_with fail
  go_loopw [12] (fun i wr => ∃ (k : Nat) (SA : Option Addr) (sc : Nat) (Ls : List Stp), k ≤ l.length ∧ i = .int .i64 k ∧ Hid (RfS w D R O nm A l.length cp SA sc Ls wr) ∧ Hid (Twins (l.take k) Ls)) (fun i _ => l.length - nOf i)
  case atStart => exact ⟨0, none, 0, [], Nat.zero_le _, rfl, HS, HT0⟩
  case round =>
    clear HS HT0 d1 lD3
    obtain ⟨k, SA, sc, Ls, hk, rfl, HS, HT⟩ := hrel
    by_cases hlt : k < l.length
    · obtain ⟨s, hs⟩ : ∃ s, l[k]? = some s := ⟨l[k], List.getElem?_eq_getElem hlt⟩
      obtain ⟨b, o, hAA, hbs, hcc⟩ := (HR.out.below HS.out.bel).at_ 9 enSt_len (by omega) hs
      have HTS := hid (fun (A' : Option Addr) (c' : Nat) => HT.out.snoc hs A' c')
      have HOS := hid ((HOK.out s (List.mem_of_getElem? hs)).next HS.out.bel)
      have hLk : Ls.length = k := by have := HT.out.len; rw [List.length_take, Nat.min_eq_left (by omega)] at this; exact this
      obtain ⟨xn, xv, xu, xe, xf, xr, xy, xw, xA, xc, xl⟩ := s
      have q0 : wr.cell? ⟨b, o + k * 9, none⟩ = some (.string xn) := hcc 0 _ rfl
      have q1 : wr.cell? ⟨b, o + k * 9 + 1, none⟩ = some (.string xv) := hcc 1 _ rfl
      have q2 : wr.cell? ⟨b, o + k * 9 + 2, none⟩ = some (.string xu) := hcc 2 _ rfl
      have q3 : wr.cell? ⟨b, o + k * 9 + 3, none⟩ = some (.string xe) := hcc 3 _ rfl
      have q4 : wr.cell? ⟨b, o + k * 9 + 4, none⟩ = some (.bool xf) := hcc 4 _ rfl
      have q5 : wr.cell? ⟨b, o + k * 9 + 5, none⟩ = some (.int .i64 xr) := hcc 5 _ rfl
      have q6 : wr.cell? ⟨b, o + k * 9 + 6, none⟩ = some (.int .i64 xy) := hcc 6 _ rfl
      have q7 : wr.cell? ⟨b, o + k * 9 + 7, none⟩ = some (.int .i64 xw) := hcc 7 _ rfl
      have q8 : wr.cell? ⟨b, o + k * 9 + 8, none⟩ = some (.slice xA xl.length xc) := hcc 8 _ rfl
      have hvb := Blk.new wr 69 #[.string xn, .string xv, .string xu, .string xe, .bool xf, .int .i64 xr, .int .i64 xy, .int .i64 xw, .slice xA xl.length xc]
      have hwa : Below wr.heap.size wr (wr.alloc (.cells #[.string xn, .string xv, .string xu, .string xe, .bool xf, .int .i64 xr, .int .i64 xy, .int .i64 xw, .slice xA xl.length xc] 69)) := (Below.refl _ _).alloc (Nat.le_refl _) _
      have hS3 := HS.out.next hwa
      have hOS3 := HOS.out.next hwa
      obtain ⟨w4, hw4⟩ : ∃ w4, w4 = wr.alloc (.cells #[.string xn, .string xv, .string xu, .string xe, .bool xf, .int .i64 xr, .int .i64 xy, .int .i64 xw, .slice xA xl.length xc] 69) := ⟨_, rfl⟩
      obtain ⟨V, hV⟩ : ∃ V, V = wr.heap.size := ⟨_, rfl⟩
      rw [← hw4] at hvb hS3 hOS3
      rw [← hV] at hvb
      have HW4 := hid (And.intro hw4 hV)
      have HS4 := hid hS3
      have HOS4 := hid hOS3
      have HVB := hid hvb
      clear hw4 hV hvb hS3 hOS3 hwa hcc hs HS HOS HT
      subst hAA
      go_upto_region 5 with fail
      rw [← HW4.out.1, ← HW4.out.2]
      clear q0 q1 q2 q3 q4 q5 q6 q7 q8 hbs
      obtain ⟨C, hCd⟩ : ∃ C : World → Prop, ∀ w', C w' ↔ Below w4.heap.size w4 w' := ⟨_, fun _ => Iff.rfl⟩
      have hC : C w4.drew := (hCd _).2 (Below.refl _ _).drew
      have hV : ∀ p : In C, Blk p.w V 69 #[.string xn, .string xv, .string xu, .string xe, .bool xf, .int .i64 xr, .int .i64 xy, .int .i64 xw, .slice xA xl.length xc] := fun p => HVB.out.next ((hCd _).1 p.h)
      have v0 : ∀ p : In C, p.w.cell? ⟨V, 0, none⟩ = some (.string xn) := fun p => (hV p).cell 0
      have v1 : ∀ p : In C, p.w.cell? ⟨V, 1, none⟩ = some (.string xv) := fun p => (hV p).cell 1
      have v2 : ∀ p : In C, p.w.cell? ⟨V, 2, none⟩ = some (.string xu) := fun p => (hV p).cell 2
      have v3 : ∀ p : In C, p.w.cell? ⟨V, 3, none⟩ = some (.string xe) := fun p => (hV p).cell 3
      have v4 : ∀ p : In C, p.w.cell? ⟨V, 4, none⟩ = some (.bool xf) := fun p => (hV p).cell 4
      have v5 : ∀ p : In C, p.w.cell? ⟨V, 5, none⟩ = some (.int .i64 xr) := fun p => (hV p).cell 5
      have v6 : ∀ p : In C, p.w.cell? ⟨V, 6, none⟩ = some (.int .i64 xy) := fun p => (hV p).cell 6
      have v7 : ∀ p : In C, p.w.cell? ⟨V, 7, none⟩ = some (.int .i64 xw) := fun p => (hV p).cell 7
      have v8 : ∀ p : In C, p.w.cell? ⟨V, 8, none⟩ = some (.slice xA xl.length xc) := fun p => (hV p).cell 8
      have lV : ∀ p : In C, V < p.w.heap.size := fun p => (hV p).lt
      have o1 : ∀ p : In C, p.w.cell? ⟨O, 1, none⟩ = some (.slice SA k sc) := fun p => by have := (HS4.out.next ((hCd _).1 p.h)).o.cell 1; rw [hLk] at this; exact this
      have lO : ∀ p : In C, O < p.w.heap.size := fun p => (HS4.out.next ((hCd _).1 p.h)).o.lt
      have HC0 := hid hC
      have HCd := hid hCd
      have HLk := hid hLk
      clear hC hCd hV hLk
      have hne : Nonempty (In C) := ⟨⟨_, HC0.out⟩⟩
      refine wp_region_many C (fun _ => none) 23 (by kernel_rfl) (by kernel_rfl) HC0.out ?_
      simp only [List.take_succ_cons, List.take_zero, List.drop_succ_cons, List.drop_zero]
      refine wpM_part (fun a D D' hd h w' hC hD' => h w' hC (hd w' hD')) ⟨_, HC0.out⟩ 20 20 (by kernel_rfl) (by kernel_rfl) (by kernel_rfl) ?_
      simp only [List.take_succ_cons, List.take_zero, List.drop_succ_cons, List.drop_zero]
      repeat (first | go_big_quiet_step (fail) | quiet_step (fail))
      refine wpQuiet_nil ?_
      clear v0 v1 v2 v3 v4 v5 v6 v7 v8 lV o1 lO hne
      refine wpM_many (fun a D D' hd h w' hC hD' => h w' hC (hd w' hD')) rfl (by kernel_rfl) (fun u w' => ∃ A7 c7, u = .slice A7 xl.length c7 ∧ w'.ownsRow w4.heap.size 9 1 (.slice A7 xl.length c7) xl.length (xl.flatMap enB)) (fun u w1 w2 ⟨A7, c7, h1, h2⟩ hb => ⟨A7, c7, h1, own_next h2 hb⟩) (fun w' hw' => ?_) ?_
      · have hb' := (HCd.out _).1 hw'
        have hOS' := HOS4.out.next hb'
        exact exec_append_any (X := fun u w7 => C w7 ∧ Below w'.heap.size w' w7 ∧ ∃ A7 c7, u = .slice A7 xl.length c7 ∧ w7.ownsRow w4.heap.size 9 1 (.slice A7 xl.length c7) xl.length (xl.flatMap enB)) _ _ 67 rfl 9 i1 _ 1 16 Tryz.underlying67 hi hz0 hz1 hz2 rfl (by decide) (by rfl) xA xl.length xc (xl.flatMap enB) (by rfl) (flat_enB_len xl) hOS'.row (enB_one xl) (by have := hOS'.len; simp only at this; unfold maxLen; omega) hOS'.len (fun A7 c7 w7 h2 h3 => ⟨(HCd.out _).2 (bthen hb' h3), h3, A7, c7, rfl, own_base h2 hb'.size⟩)
      rintro u ⟨wu, A7, c7, rfl, _⟩
      refine wpM_one (fun a D D' hd h w' hC hD' => h w' hC (hd w' hD')) rfl (by kernel_rfl) (.agg #[.string xn, .string xv, .string xu, .string xe, .bool xf, .int .i64 xr, .int .i64 xy, .int .i64 xw, .slice A7 xl.length c7]) (fun w' hw' => by go_simp) ?_
      refine wpM_many (fun a D D' hd h w' hC hD' => h w' hC (hd w' hD')) rfl (by kernel_rfl) (fun u w' => ∃ g, u = .slice (some ⟨g, 0, none⟩) 1 1 ∧ Blk w' g 156 #[.string xn, .string xv, .string xu, .string xe, .bool xf, .int .i64 xr, .int .i64 xy, .int .i64 xw, .slice A7 xl.length c7] ∧ w4.heap.size ≤ g) (fun u w1 w2 ⟨g, h1, h2, h3⟩ hb => ⟨g, h1, h2.next hb, h3⟩) (fun w' hw' => ⟨_, _, by go_simp, (HCd.out _).2 (((HCd.out _).1 hw').alloc ((HCd.out _).1 hw').size _), (Below.refl _ _).alloc (Nat.le_refl _) _, ⟨w'.heap.size, rfl, Blk.new _ _ _, ((HCd.out _).1 hw').size⟩⟩) ?_
      rintro u ⟨wu, g, rfl, _, _⟩
      refine wpM_nil ?_
      intro wf hC hD
      obtain ⟨⟨_, A7', c7', e1, hO7⟩, g', e2, hBg, hgl⟩ := hD
      simp only [Value.slice.injEq, Option.some.injEq, Addr.mk.injEq, and_true, true_and] at e1 e2
      obtain ⟨rfl, rfl⟩ := e1
      subst e2
      have hS5 := HS4.out.next ((HCd.out _).1 hC)
      have hT5 := HTS.out A7 c7
      have hbase := hS5.bel.size
      have HS5 := hid hS5
      have HO5 := hid (show OwnSt w.heap.size wf (twn (⟨xn, xv, xu, xe, xf, xr, xy, xw, xA, xc, xl⟩ : Stp) A7 c7) from own_base hO7 HS4.out.bel.size)
      have hOS := hS5.os
      rw [HLk.out] at hOS
      have hOo := hS5.o
      rw [HLk.out] at hOo
      have HT5 := hid hT5
      have HOo := hid hOo
      have HBg := hid hBg
      have HN5 := hid (show (∀ A2 c2, enSt (twn (⟨xn, xv, xu, xe, xf, xr, xy, xw, xA, xc, xl⟩ : Stp) A2 c2) = [.string xn, .string xv, .string xu, .string xe, .bool xf, .int .i64 xr, .int .i64 xy, .int .i64 xw, .slice A2 xl.length c2]) from fun _ _ => rfl)
      clear hS5 hT5 hO7 hBg hgl hOo HCd HC0 HVB HW4 HTS HOS4
      have hOS' := hid hOS
      clear hOS
      go_wp2_with (first
        | (refine wpList_append_lies _ rfl _ _ _ rfl w.heap.size 156 i2 _ 9 120 Tryz.underlying84 hj hy0 hy1 hy2 rfl (by decide) (.slice SA k sc) k (Ls.flatMap enSt) rfl hOS'.out ⟨g, 0, none⟩ 1 1 [.string xn, .string xv, .string xu, .string xe, .bool xf, .int .i64 xr, .int .i64 xy, .int .i64 xw, .slice A7 xl.length c7] rfl rfl (blk_news HBg.out) (by rw [← HN5.out]; exact enSt_one _) (by omega) (by unfold maxLen; omega) (by omega) hbase _ rfl ?_; intro g9 c9 w9 hO9 hg9 hat9 hl9; have hB9 := HOo.out.grown hg9 (fun e => own_notBlk hOS'.out HOo.out (by decide) e.symm); have o1 := hB9.cell 1; have o2 := hB9.free 1; have o3 := hB9.lt))
      have hfin := HS5.out.grew (g := g9) (cap := c9) (w' := w9) (by rw [HLk.out]; exact hg9) (twn (⟨xn, xv, xu, xe, xf, xr, xy, xw, xA, xc, xl⟩ : Stp) A7 c7) (by rw [HLk.out, HN5.out]; exact hO9) HO5.out
      rw [HLk.out] at hfin
      go_roundw
      case rel => exact ⟨k + 1, _, _, _, by omega, by go_num, hid hfin, HT5⟩
      case measure => simp [nOf]; omega
    · have hk' : k = l.length := by omega
      subst hk'
      have HT' := hid (show Twins l Ls from by have := HT.out; rwa [List.take_length] at this)
      have o0 : wr.cell? ⟨O, 0, none⟩ = some (.string nm) := HS.out.o.cell 0
      have o1 : wr.cell? ⟨O, 1, none⟩ = some (.slice SA Ls.length sc) := HS.out.o.cell 1
      have lO := HS.out.o.lt
      have hT5 := Touch.setRow wr R #[.string nm, .slice SA Ls.length sc]
      have hC5 := HS.out.r.setRow #[.string nm, .slice SA Ls.length sc]
      have hb5 := HS.out.bel.trans (hT5.below HS.out.bel.size (fun k hk => by rw [hk]; exact HS.out.lo.1))
      have hO5 := own_touch HS.out.os hT5 (fun g hg e => own_notBlk HS.out.os HS.out.r (by decide) (by rw [hg, e]))
      have hst5 : ∀ s ∈ Ls, OwnSt w.heap.size (wr.setRow R #[.string nm, .slice SA Ls.length sc]) s := fun s hs => own_touch (HS.out.st s hs) hT5 (fun g hg e => own_notBlk (HS.out.st s hs) HS.out.r (by decide) (by rw [hg, e]))
      obtain ⟨w5, hw5⟩ : ∃ w5, w5 = wr.setRow R #[.string nm, .slice SA Ls.length sc] := ⟨_, rfl⟩
      rw [← hw5] at hC5 hb5 hO5 hst5
      have HW5 := hid hw5
      have HB := hid HS.out.r
      have r0 : w5.cell? ⟨R, 0, none⟩ = some (.string nm) := hC5.cell 0
      have r1 : w5.cell? ⟨R, 1, none⟩ = some (.slice SA Ls.length sc) := hC5.cell 1
      have lR5 := hC5.lt
      have HF := hid (And.intro hO5 (And.intro hst5 hb5))
      clear hw5 hC5 hb5 hO5 hst5 hT5 HS HT hlt hk
      go_wp2_with (first
        | (refine wpList_store_row rfl 86 _ _ rfl R #[.string ⟨#[]⟩, .slice none 0 0] rfl rfl 86 _ HB.out (by kernel_rfl) (by rfl) (by simp [Value.oneCell']) ?_; rw [← HW5.out])
        | (refine wpList_store_row rfl 86 _ _ rfl R #[.string nm, .slice SA Ls.length sc] rfl rfl 86 _ HB.out (by kernel_rfl) (by rfl) (by simp [Value.oneCell']) ?_; rw [← HW5.out]))
      refine bodyPost_ret (v := .agg #[.string nm, .slice SA Ls.length sc]) (by simp [results, Tryz.results27, go_sem, r0, r1]) rfl ?_
      exact ⟨SA, sc, Ls, rfl, HT'.out, HF.out.1, HF.out.2.1, HF.out.2.2⟩

end Go.Proofs.YtoemmakhbiiknaaGreat

namespace Go.Proofs.YtoemmakhbiiknaaGreat
open Go.ChangeShapes Go.WideShapes Go.ChangeAt Go.RowKit Go.Deep
set_option linter.unusedVariables false

section
variable {H : Type} {enc : TypeId × Value → H} {P : Program} {w : World} {base : Nat} {spare : Nat → Bool} {held : Bool}

theorem weightsAll_mem {e : TypeId} {d : DataW H} {y : Nat} : ∀ {l : List (DataW H)}, d ∈ l → y ∈ d.weights P e → y ∈ DataW.weightsAll P e l
  | [], h, _ => by cases h
  | c :: l, h, hy => by
    simp only [DataW.weightsAll, List.mem_append]
    rcases List.mem_cons.1 h with rfl | h
    · exact .inl hy
    · exact .inr (weightsAll_mem h hy)
theorem weights_elem {t e : TypeId} {elems sp : List (DataW H)} {d : DataW H} {y : Nat} (ht : P.underlying t = some (.slice e)) (hd : d ∈ elems) (hy : y ∈ d.weights P e) : y ∈ (DataW.slice elems sp).weights P t := by
  simp only [DataW.weights, ht, List.mem_cons, List.mem_append]
  exact .inr (.inl (weightsAll_mem hd hy))
theorem weights_len {t e : TypeId} {elems sp : List (DataW H)} (ht : P.underlying t = some (.slice e)) : (elems.length + sp.length) * P.bytesOf e ∈ (DataW.slice elems sp).weights P t := by
  simp [DataW.weights, ht]
theorem weights_field {t : TypeId} {fs : Array Field} {parts : List (DataW H)} {j : Nat} {f : Field} {d : DataW H} {y : Nat} (ht : P.underlying t = some (.struct fs)) (hf : fs[j]? = some f) (hd : parts[j]? = some d) (hy : y ∈ d.weights P f.type) : y ∈ (DataW.agg parts).weights P t := by
  simp only [DataW.weights, ht]
  exact DataW.weights_mem_each (by rw [List.getElem?_map]; simp [hf]) hd y hy

/-- All that a datum weighs is within reach. -/
def Reach (P : Program) (t : TypeId) (d : DataW H) : Prop := ∀ y ∈ d.weights P t, y ≤ reachBytes

/-- A struct of one-cell fields, opened field by field. -/
theorem open_fields {t : TypeId} {fs : Array Field} (ht : P.underlying t = some (.struct fs)) (hone : oneCellFields P fs = true) {fuel : Nat} {cs : List Value} {x : DataW H × List MemPlace} (hl : cs.length = fs.size) (h : DataW.trod enc P w base spare held fuel t cs = some x) :
    ∃ (n : Nat) (ys : List (DataW H × List MemPlace)), x.1 = .agg (ys.map (·.1)) ∧ ys.length = fs.size ∧ ∀ (j : Nat) (f : Field), fs[j]? = some f → ∃ u y, cs[j]? = some u ∧ ys[j]? = some y ∧ DataW.trod enc P w base spare held n f.type [u] = some y := by
  obtain ⟨ys, n', hn', hy, hlen, hyl, hf⟩ := DataW.trod_struct ht h
  refine ⟨n', ys, by rw [hy], hyl, fun j f hfj => ?_⟩
  have hjs : j < fs.size := (Array.getElem?_eq_some_iff.1 hfj).1
  obtain ⟨ho, hk1⟩ := hone_of hone j _ hfj
  have h1 := hf j _ hfj
  rw [ho, hk1] at h1
  have hjl : j < cs.length := by omega
  have hone' : (cs.drop j).take 1 = [cs[j]] := by
    rw [List.drop_eq_getElem_cons hjl]; rfl
  have hjy : j < ys.length := by omega
  rw [hone', List.getElem?_eq_getElem hjy] at h1
  exact ⟨cs[j], ys[j], List.getElem?_eq_getElem hjl, List.getElem?_eq_getElem hjy, h1⟩

/-- A slice opened, element by element, into a list of things; G is what is known of an element's datum. -/
theorem open_rows {α : Type} {en : α → List Value} {Q : α → Prop} {G : DataW H → Prop} {t e : TypeId} {n : Nat} (hn : ∀ a, (en a).length = n) (hpos : 0 < n) (hC : P.cellsOf e = n) (ht : P.underlying t = some (.slice e))
    (helem : ∀ (fuel : Nat) (cs : List Value) (x : DataW H × List MemPlace), cs.length = n → DataW.trod enc P w base spare held fuel e cs = some x → G x.1 → ∃ a, cs = en a ∧ Q a)
    {fuel : Nat} {cs : List Value} {x : DataW H × List MemPlace} (h : DataW.trod enc P w base spare held fuel t cs = some x) (hG : ∀ elems sp, x.1 = .slice elems sp → ∀ d ∈ elems, G d) :
    ∃ (A : Option Addr) (cap : Nat) (l : List α), cs = [.slice A l.length cap] ∧ Rd w A (l.flatMap en) ∧ (∀ a ∈ l, Q a) ∧ (l.length = 0 ∨ ∃ elems sp, x.1 = .slice elems sp ∧ elems.length = l.length) := by
  rcases open_slice ht h with ⟨h0, _⟩ | ⟨a, len, cap, m, k, D, Pl, hcs, hb, hl, hm, hmm, hx, hi⟩
  · exact ⟨none, 0, [], h0, .inl rfl, fun a ha => (by cases ha), .inl rfl⟩
  · have hlm : len ≤ m := by rw [hmm]; split <;> omega
    rw [hC] at hi
    have hx1 : x.1 = .slice ((List.range len).map D) ((List.range (m - len)).map fun j => D (len + j)) := by rw [hx]
    have each : ∀ i, i < len → ∃ y : α, (∀ j, j < n → w.cell? (a.add (i * n + j)) = (en y)[j]?) ∧ Q y := by
      intro i hil
      obtain ⟨cs', hc, ht'⟩ := hi i (by omega)
      obtain ⟨_, hcl, hat⟩ := World.cells?_some hc
      obtain ⟨y, rfl, hq⟩ := helem _ _ _ hcl ht' (hG _ _ hx1 _ (List.mem_map.2 ⟨i, List.mem_range.2 hil, rfl⟩))
      exact ⟨y, fun j hj => by rw [← hat j hj, Go.Deep.add_add], hq⟩
    rcases Nat.eq_zero_or_pos len with h0 | h0
    · subst h0
      exact ⟨some a, cap, [], by simpa using hcs, .inl rfl, fun a ha => (by cases ha), .inl rfl⟩
    · obtain ⟨y0, _⟩ := each 0 h0
      have : Inhabited α := ⟨y0⟩
      obtain ⟨f, hf⟩ := choose_lt (α := α) each
      refine ⟨some a, cap, (List.range len).map f, by simpa using hcs, ?_, ?_, .inr ⟨_, _, hx1, by simp⟩⟩
      · right
        obtain ⟨b, off, spot⟩ := a
        have hsp : spot = none := cells_none (a := ⟨b, off, spot⟩) (n := n) (cs := en (f 0)) hpos (fun j hj => by have := (hf 0 h0).1 j hj; simpa using this) (hn _)
        subst hsp
        have e0 := (hf 0 h0).1 0 hpos
        rw [List.getElem?_eq_getElem (by rw [hn]; exact hpos)] at e0
        refine ⟨b, off, rfl, by simpa [Addr.add] using World.block_lt_of_cell? _ _ e0, fun j u hu => ?_⟩
        have hjl : j < len * n := by
          have := (List.getElem?_eq_some_iff.1 hu).1
          rw [length_flatMap_const en n hn] at this
          simpa using this
        have hq : j / n < len := Nat.div_lt_of_lt_mul (by rw [Nat.mul_comm]; exact hjl)
        have hr : j % n < n := Nat.mod_lt _ hpos
        have e1 := getElem?_flatMap en n hn ((List.range len).map f) (j / n) (f (j / n)) (by simp [hq]) (j % n) hr
        rw [Nat.mul_comm, Nat.div_add_mod] at e1
        rw [e1] at hu
        have e2 := (hf (j / n) hq).1 (j % n) hr
        rw [hu, Nat.mul_comm, Nat.div_add_mod] at e2
        simpa [add_plain] using e2
      · intro y hy
        obtain ⟨i, hi', rfl⟩ := List.mem_map.1 hy
        exact (hf i (List.mem_range.1 hi')).2
end

end Go.Proofs.YtoemmakhbiiknaaGreat

namespace Go.Proofs.YtoemmakhbiiknaaGreat
open Go.RowKit Go.WideShapes Go.ChangeShapes Go.ChangeAt Go.Deep
set_option linter.unusedVariables false

/-- A definition, and where its steps lie. -/
structure FDef where
  nm : ByteArray
  A : Option Addr
  cap : Nat
  l : List Stp
def enFD (x : FDef) : List Value := [.string x.nm, .slice x.A x.l.length x.cap]
theorem enFD_len (x : FDef) : (enFD x).length = 2 := rfl
structure OkFD (w : World) (x : FDef) : Prop where
  rd : Rd w x.A (x.l.flatMap enSt)
  ok : ∀ s ∈ x.l, OkSt w s
  len : x.l.length * 120 ≤ 140737488351232
  nms : ∀ s ∈ x.l, s.name.size ≤ 140737488351232
theorem bytesStr12 : Tryz.prog.bytesOf 9 = 16 := by kernel_rfl
theorem bytesStp12 : Tryz.prog.bytesOf 69 = 120 := by kernel_rfl
section
variable {H : Type} {enc : TypeId × Value → H} {w : World} {base : Nat} {spare : Nat → Bool} {held : Bool}
theorem open_names12 {fuel : Nat} {cs : List Value} {x : DataW H × List MemPlace} (h : DataW.trod enc Tryz.prog w base spare held fuel 67 cs = some x) (hw : Reach Tryz.prog 67 x.1) :
    ∃ (A : Option Addr) (cap : Nat) (l : List ByteArray), cs = [.slice A l.length cap] ∧ Rd w A (l.flatMap enB) ∧ l.length * 16 ≤ 140737488351232 := by
  obtain ⟨A, cap, l, rfl, hR, _, hd⟩ := open_rows (en := enB) (Q := fun _ => True) (G := fun _ => True) enB_len (by omega) (by kernel_rfl) Tryz.underlying67 (fun fuel cs x hl h _ => by
    obtain ⟨k, hv, _⟩ := DataW.trod_string Tryz.underlying9 h
    exact ⟨k, hv, trivial⟩) h (fun elems sp hx d hd => trivial)
  refine ⟨A, cap, l, rfl, hR, ?_⟩
  rcases hd with hd | ⟨elems, sp, hd, hel⟩
  · omega
  · have := hw _ (by rw [hd]; exact weights_len Tryz.underlying67)
    rw [bytesStr12] at this
    simp only [reachBytes] at this
    omega
theorem open_stp12 (fuel : Nat) (cs : List Value) (x : DataW H × List MemPlace) (hl : cs.length = 9) (h : DataW.trod enc Tryz.prog w base spare held fuel 69 cs = some x) (hw : Reach Tryz.prog 69 x.1) :
    ∃ p : Stp, cs = enSt p ∧ OkSt w p ∧ p.name.size ≤ 140737488351232 := by
  obtain ⟨n, ys, hx, hyl, hf⟩ := open_fields Tryz.underlying69 (by kernel_rfl) hl h
  obtain ⟨u0, y0, c0, e0, t0⟩ := hf 0 _ rfl
  obtain ⟨u1, y1, c1, e1, t1⟩ := hf 1 _ rfl
  obtain ⟨u2, y2, c2, e2, t2⟩ := hf 2 _ rfl
  obtain ⟨u3, y3, c3, e3, t3⟩ := hf 3 _ rfl
  obtain ⟨u4, y4, c4, e4, t4⟩ := hf 4 _ rfl
  obtain ⟨u5, y5, c5, e5, t5⟩ := hf 5 _ rfl
  obtain ⟨u6, y6, c6, e6, t6⟩ := hf 6 _ rfl
  obtain ⟨u7, y7, c7, e7, t7⟩ := hf 7 _ rfl
  obtain ⟨u8, y8, c8, e8, t8⟩ := hf 8 _ rfl
  obtain ⟨k0, hv0, hd0⟩ := DataW.trod_string Tryz.underlying9 t0
  obtain ⟨k1, hv1, _⟩ := DataW.trod_string Tryz.underlying9 t1
  obtain ⟨k2, hv2, _⟩ := DataW.trod_string Tryz.underlying9 t2
  obtain ⟨k3, hv3, _⟩ := DataW.trod_string Tryz.underlying9 t3
  obtain ⟨k4, hv4, _⟩ := DataW.trod_bool Tryz.underlying4 t4
  obtain ⟨k5, hv5, _⟩ := DataW.trod_int Tryz.underlying3 t5
  obtain ⟨k6, hv6, _⟩ := DataW.trod_int Tryz.underlying3 t6
  obtain ⟨k7, hv7, _⟩ := DataW.trod_int Tryz.underlying3 t7
  simp only [List.cons.injEq, and_true] at hv0 hv1 hv2 hv3 hv4 hv5 hv6 hv7
  subst hv0 hv1 hv2 hv3 hv4 hv5 hv6 hv7
  obtain ⟨A, cap, l, hc, hR, hlen⟩ := open_names12 t8 (fun y hy => hw y (by rw [hx]; exact weights_field (j := 8) Tryz.underlying69 rfl (by rw [List.getElem?_map, e8]; rfl) hy))
  simp only [List.cons.injEq, and_true] at hc
  subst hc
  match cs, hl with
  | [a, b, c, d, e, f, g, i, j], _ =>
    simp at c0 c1 c2 c3 c4 c5 c6 c7 c8
    subst c0 c1 c2 c3 c4 c5 c6 c7 c8
    refine ⟨⟨k0, k1, k2, k3, k4, k5, k6, k7, A, cap, l⟩, rfl, ⟨hR, show l.length * 16 ≤ 140737488355328 by omega⟩, ?_⟩
    have h0 := hw k0.data.toList.length (by rw [hx]; exact weights_field (j := 0) Tryz.underlying69 rfl (by rw [List.getElem?_map, e0]; rfl) (by rw [hd0.1]; simp [DataW.weights]))
    simp only [reachBytes] at h0
    rw [show k0.data.toList.length = k0.size from Array.length_toList] at h0
    show k0.size ≤ _
    omega
theorem open_def12 (fuel : Nat) (cs : List Value) (x : DataW H × List MemPlace) (hl : cs.length = 2) (h : DataW.trod enc Tryz.prog w base spare held fuel 60 cs = some x) (hw : Reach Tryz.prog 60 x.1) :
    ∃ p : FDef, cs = enFD p ∧ OkFD w p := by
  obtain ⟨n, ys, hx, hyl, hf⟩ := open_fields Tryz.underlying60 (by kernel_rfl) hl h
  obtain ⟨u0, y0, c0, e0, t0⟩ := hf 0 _ rfl
  obtain ⟨u1, y1, c1, e1, t1⟩ := hf 1 _ rfl
  obtain ⟨k0, hv0, _⟩ := DataW.trod_string Tryz.underlying9 t0
  simp only [List.cons.injEq, and_true] at hv0
  subst hv0
  have hw1 : Reach Tryz.prog 58 y1.1 := fun y hy => hw y (by rw [hx]; exact weights_field (j := 1) Tryz.underlying60 rfl (by rw [List.getElem?_map, e1]; rfl) hy)
  obtain ⟨A, cap, l, hc, hR, ok, hd⟩ := open_rows (en := enSt) (Q := fun p => OkSt w p ∧ p.name.size ≤ 140737488351232) (G := Reach Tryz.prog 69) enSt_len (by omega) (by kernel_rfl) Tryz.underlying58 open_stp12 t1 (fun elems sp hx d hd y hy => hw1 y (by rw [hx]; exact weights_elem Tryz.underlying58 hd hy))
  simp only [List.cons.injEq, and_true] at hc
  subst hc
  match cs, hl with
  | [a, b], _ =>
    simp at c0 c1
    subst c0 c1
    refine ⟨⟨k0, A, cap, l⟩, rfl, hR, fun s hs => (ok s hs).1, ?_, fun s hs => (ok s hs).2⟩
    rcases hd with hd | ⟨elems, sp, hd, hel⟩
    · show l.length * 120 ≤ _; omega
    · have := hw1 _ (by rw [hd]; exact weights_len Tryz.underlying58)
      rw [bytesStp12] at this
      simp only [reachBytes] at this
      show l.length * 120 ≤ _; omega
end

end Go.Proofs.YtoemmakhbiiknaaGreat

namespace Go.Proofs.YtoemmakhbiiknaaGreat
open Go.RowKit Go.WideShapes Go.ChangeShapes Go.ChangeAt Go.Deep
set_option linter.unusedVariables false

/-- A plan and the document's. -/
structure PlD where
  nm : ByteArray
  P : Nat
  Ls : List Stp
  Bs : List IRow
  base : Nat
  RP : Nat
  base2 : Nat
  SA : Option Addr
  sc : Nat
  Lr : List Stp
  lo : Nat
  mid : Nat
  hi : Nat
def PlD.In (d : PlD) (g : Nat) : Prop := d.lo ≤ g ∧ g < d.hi
/-- The blocks of the document's plan. -/
def PlD.RU (d : PlD) (g : Nat) : Prop := g = d.RP ∨ (Value.slice d.SA d.Lr.length d.sc).ownBlock = some g ∨ ∃ s ∈ d.Lr, s.A.map (·.block) = some g
/-- What holds of a plan whatever the world. -/
structure PlF (d : PlD) : Prop where
  s : SameP d.Ls d.Bs d.Lr
  n40 : d.Ls.length ≤ 40
  src : ∃ l, checkN l = 0 ∧ l.length = d.Ls.length ∧ PlG l (ordN (grf l) l.length) d.Ls d.Bs
  ir : ∀ g, d.RU g → d.mid ≤ g ∧ g < d.hi
structure PlOk (d : PlD) (ask : Int) (y : Pw) (w : World) : Prop where
  p : PlY d.base d.nm d.P d.Ls d.Bs ask y w
  r : RpS d.base2 d.RP d.nm d.SA d.sc d.Lr w
theorem PlOk.touch {d : PlD} {ask : Int} {y : Pw} {S : Nat → Prop} {w w' : World} (h : PlOk d ask y w) (hT : Touch S w w') (h1 : ∀ g, S g → ¬ PlV d.P d.Ls d.Bs y g) (h2 : ∀ g, S g → ¬ d.RU g) : PlOk d ask y w' :=
  ⟨⟨h.p.p.touchS hT h1, h.p.ok, h.p.nil, h.p.rows, h.p.aft⟩, ⟨hT.blk h.r.p (fun e => h2 _ e (.inl rfl)), own_touch h.r.os hT (fun g hg e => h2 g e (.inr (.inl hg))), fun s hs => ⟨hT.rd (h.r.ok s hs).row (fun b hb e => h2 b e (.inr (.inr ⟨s, hs, hb⟩))), (h.r.ok s hs).len⟩, h.r.n⟩⟩
theorem PlOk.next {d : PlD} {ask : Int} {y : Pw} {w w' : World} (h : PlOk d ask y w) (hb : Below w.heap.size w w') : PlOk d ask y w' := h.touch (S := fun _ => False) (Touch.of_below hb) (fun _ h => h.elim) (fun _ h => h.elim)
/-- As the plans are made. -/
structure PlM (d : PlD) (w : World) : Prop where
  f : PlF d
  ok : ∃ y, PlOk d 0 y w ∧ ∀ g, PlV d.P d.Ls d.Bs y g → d.lo ≤ g ∧ g < d.mid
  hi : (d.lo ≤ d.mid ∧ d.mid ≤ d.hi) ∧ d.hi ≤ w.heap.size
theorem PlM.touch {d : PlD} {S : Nat → Prop} {w w' : World} (h : PlM d w) (hT : Touch S w w') (hS : ∀ g, S g → ¬ d.In g) : PlM d w' := by
  obtain ⟨y, h1, h2⟩ := h.ok
  exact ⟨h.f, ⟨y, h1.touch hT (fun g hg hu => hS g hg (by have h3 := h2 g hu; have h4 := h.hi.1; unfold PlD.In; omega)) (fun g hg hu => hS g hg (by have h3 := h.f.ir g hu; have h4 := h.hi.1; unfold PlD.In; omega)), h2⟩, h.hi.1, Nat.le_trans h.hi.2 hT.size⟩
theorem PlM.next {d : PlD} {w w' : World} (h : PlM d w) (hb : Below w.heap.size w w') : PlM d w' := h.touch (S := fun _ => False) (Touch.of_below hb) (fun _ h => h.elim)
theorem Twins.self (l : List Stp) : Twins l l := ⟨rfl, fun k s hs => ⟨s.A, s.cap, hs⟩⟩
theorem made13 {nm : ByteArray} {l lr Ls Lr : List Stp} {Bs : List IRow} {P RP sc : Nat} {vS vB : Value} {SA : Option Addr} {w1 w2 w3 w4 : World} (hc : checkN l = 0) (hl : l.length ≤ 40) (hok : ∀ s ∈ l, s.after.length * 16 ≤ 140737488355328) (hp : PlB w1.heap.size nm P vS vB Ls Bs w2) (hg : PlG l (ordN (grf l) l.length) Ls Bs) (hb1 : Below w1.heap.size w1 w2)
    (ht : Twins l lr) (hs : ∀ s ∈ lr, OwnSt w2.heap.size w3 s) (hb2 : Below w2.heap.size w2 w3) (hr : RpS w3.heap.size RP nm SA sc Lr w4) (ho : OrdL lr (ordN (grf lr) lr.length) Lr) (hR : w3.heap.size ≤ RP) (hb3 : Below w3.heap.size w3 w4) :
    PlM ⟨nm, P, Ls, Bs, w1.heap.size, RP, w3.heap.size, SA, sc, Lr, w1.heap.size, w2.heap.size, w4.heap.size⟩ w4 := by
  obtain ⟨h1, h2, h3, h4⟩ := checkN_zero hc
  have hol : (ordN (grf l) l.length).length = l.length := ordN_len h2 (grf_shut h1) l.length (by rw [grf_len]; exact Nat.le_refl _)
  have hok2 := ordN_ok (grf l) l.length
  have hrows : RowsOk Ls Bs := hg.rows hok2 (by omega)
  rw [grf_twins ht, ht.len] at ho
  have hLs : Ls.length = l.length := by rw [hg.ls, hol]
  have hLr : Lr.length = l.length := by rw [ho.len, hol]
  have hlt : ∀ i ∈ ordN (grf l) l.length, i < lr.length := fun i hi => by have := hok2.lt i hi; rw [grf_len] at this; rw [ht.len]; exact this
  have s1 := hb1.size
  have s2 := hb2.size
  have s3 := hb3.size
  have hp4 := (hp.plw.next (bthen hb2 hb3))
  refine ⟨⟨⟨by show Lr.length = Ls.length; rw [hLr, hLs], hrows, fun q s hq => ?_, fun q t hq => ?_⟩, by show Ls.length ≤ 40; rw [hLs]; exact hl, ⟨l, hc, hLs.symm, hg⟩, fun g hu => ?_⟩, ⟨⟨vS, vB, .slice none 0 0, [], false⟩, ⟨⟨hp4, fun e => (by cases e), fun _ => rfl, hrows, fun s hs => ?_⟩, hr⟩, fun g hu => ?_⟩, ?_, Nat.le_refl _⟩
  · have hq2 : q < Ls.length := by have : q < Lr.length := (List.getElem?_eq_some_iff.1 hq).1; omega
    exact same_before h1 hok2 hg ho (Twins.self l) ht hq2 hq
  · have hqd : q < (ordN (grf l) l.length).length := by have := (List.getElem?_eq_some_iff.1 hq).1; rw [hg.ls] at this; exact this
    obtain ⟨s, A, c, g1, g2⟩ := hg.step q _ (List.getElem?_eq_getElem hqd)
    rw [hq] at g2
    injection g2 with g2
    subst g2
    obtain ⟨A2, c2, e2⟩ := ht.at_ _ _ g1
    exact ⟨A2, c2, by rw [ho.at_ q _ (List.getElem?_eq_getElem hqd), e2]; rfl⟩
  · show w2.heap.size ≤ g ∧ g < w4.heap.size
    rcases hu with hu | hu | ⟨s, hs2, hu⟩
    · have := hr.p.lt
      simp only at hu
      subst hu
      omega
    · have := hr.os.lt g hu
      omega
    · obtain ⟨i, _, hi⟩ := ho.mem hlt hs2
      have := own_blk (hs s (List.mem_of_getElem? hi)) g hu
      omega
  · obtain ⟨p, hp'⟩ := List.mem_iff_getElem?.1 hs
    have hpl : p < (ordN (grf l) l.length).length := by rw [← hg.ls]; exact (List.getElem?_eq_some_iff.1 hp').1
    obtain ⟨s', A', c', g1, g2⟩ := hg.step p _ (List.getElem?_eq_getElem hpl)
    rw [hp'] at g2
    injection g2 with g2
    rw [g2]
    exact hok s' (List.mem_of_getElem? g1)
  · have := hp.plw.use hu
    exact ⟨this.1, this.2⟩
  · show w1.heap.size ≤ w2.heap.size ∧ w2.heap.size ≤ w4.heap.size
    omega
/-- While the plans are made. -/
structure PnS (w0 : World) (ds : List PlD) (pA : Option Addr) (pc : Nat) (rA : Option Addr) (rc : Nat) (w : World) : Prop where
  po : w.ownsRow w0.heap.size 43 1 (.slice pA ds.length pc) ds.length (ds.flatMap fun d => enB13 d.P)
  ro : w.ownsRow w0.heap.size 77 1 (.slice rA ds.length rc) ds.length (ds.flatMap fun d => enB13 d.RP)
  ok : ∀ d ∈ ds, PlM d w
  no : ∀ d ∈ ds, ∀ g, (Value.slice pA ds.length pc).ownBlock = some g ∨ (Value.slice rA ds.length rc).ownBlock = some g → ¬ d.In g
  pw : ds.Pairwise fun a b => a.hi ≤ b.lo
  lo : ∀ d ∈ ds, w0.heap.size ≤ d.lo
  bel : Below w0.heap.size w0 w
theorem PnS.next {w0 w w' : World} {ds : List PlD} {pA rA : Option Addr} {pc rc : Nat} (h : PnS w0 ds pA pc rA rc w) (hb : Below w.heap.size w w') : PnS w0 ds pA pc rA rc w' :=
  ⟨own_next h.po hb, own_next h.ro hb, fun d hd => (h.ok d hd).next hb, h.no, h.pw, h.lo, bthen h.bel hb⟩
theorem PnS.start (w : World) : PnS w [] none 0 none 0 w := ⟨World.ownsRow_nil _ _ _ _, World.ownsRow_nil _ _ _ _, fun d h => (by cases h), fun d h => (by cases h), List.Pairwise.nil, fun d h => (by cases h), Below.refl _ _⟩
theorem own_atU {w : World} {b n m : Nat} {t : TypeId} {v : Value} {xs : List Value} (h : w.ownsRow b t m v n xs) {g : Nat} (hg : v.ownBlock = some g) : g < w.heap.size := (h.lt g hg).2
/-- One plan more, its pointers appended. -/
theorem PnS.more {w0 w w3 w5 : World} {ds : List PlD} {pA rA pA' rA' : Option Addr} {pc rc pc' rc' : Nat} {d : PlD} {B1 B2 : Obj} (h : PnS w0 ds pA pc rA rc w) (hd : PlM d w) (hlo : ∀ a ∈ ds, a.hi ≤ d.lo) (hl0 : w0.heap.size ≤ d.lo) (hpo : ∀ g, (Value.slice pA ds.length pc).ownBlock = some g ∨ (Value.slice rA ds.length rc).ownBlock = some g → ¬ d.In g)
    (h3 : w3.ownsRow w0.heap.size 43 1 (.slice pA' (ds.length + 1) pc') (ds.length + 1) (ds.flatMap (fun d => enB13 d.P) ++ [.pointer (some ⟨d.P, 0, none⟩)])) (g3 : (w.alloc B1).grownBy w3 (Value.slice pA ds.length pc).ownBlock) (a3 : (Value.slice pA' (ds.length + 1) pc').ownBlock = (Value.slice pA ds.length pc).ownBlock ∨ (Value.slice pA' (ds.length + 1) pc').ownBlock = some (w.heap.size + 1))
    (h5 : w5.ownsRow w0.heap.size 77 1 (.slice rA' (ds.length + 1) rc') (ds.length + 1) (ds.flatMap (fun d => enB13 d.RP) ++ [.pointer (some ⟨d.RP, 0, none⟩)])) (g5 : (w3.alloc B2).grownBy w5 (Value.slice rA ds.length rc).ownBlock) (a5 : (Value.slice rA' (ds.length + 1) rc').ownBlock = (Value.slice rA ds.length rc).ownBlock ∨ (Value.slice rA' (ds.length + 1) rc').ownBlock = some (w3.heap.size + 1)) :
    PnS w0 (ds ++ [d]) pA' pc' rA' rc' w5 := by
  have t3 : Touch (fun b => (Value.slice pA ds.length pc).ownBlock = some b) w w3 := (Touch.of_below ((Below.refl _ _).alloc (Nat.le_refl _) B1)).then ⟨g3.os, g3.tape, g3.output, g3.size, fun k hk hn => g3.block k hk (fun e => hn e.symm)⟩
  have t5 : Touch (fun b => (Value.slice rA ds.length rc).ownBlock = some b) w3 w5 := (Touch.of_below ((Below.refl _ _).alloc (Nat.le_refl _) B2)).then ⟨g5.os, g5.tape, g5.output, g5.size, fun k hk hn => g5.block k hk (fun e => hn e.symm)⟩
  have hT : Touch (fun b => (Value.slice pA ds.length pc).ownBlock = some b ∨ (Value.slice rA ds.length rc).ownBlock = some b) w w5 := (t3.mono (fun k hk => .inl hk)).then (t5.mono (fun k hk => .inr hk))
  have hno5 : ∀ g, (Value.slice pA' (ds.length + 1) pc').ownBlock = some g ∨ (Value.slice rA' (ds.length + 1) rc').ownBlock = some g → ((Value.slice pA ds.length pc).ownBlock = some g ∨ (Value.slice rA ds.length rc).ownBlock = some g) ∨ w.heap.size ≤ g := fun g hg => by
    have s3 := t3.size
    rcases hg with hg | hg
    · rcases a3 with a | a
      · exact .inl (.inl (by rw [← a]; exact hg))
      · rw [a] at hg; injection hg with hg; right; omega
    · rcases a5 with a | a
      · exact .inl (.inr (by rw [← a]; exact hg))
      · rw [a] at hg; injection hg with hg; right; omega
  refine ⟨?_, ?_, fun a ha => ?_, fun a ha g hg => ?_, ?_, fun a ha => ?_, ?_⟩
  · have := own_touch h3 t5 (fun g hg e => own_ne h3 (own_touch h.ro t3 (fun g hg e => own_ne h.ro h.po (by decide) hg e)) (by decide) hg e)
    simpa [enB13, pB] using this
  · simpa [enB13, pB] using h5
  · rcases List.mem_append.1 ha with ha | ha
    · exact (h.ok a ha).touch hT (h.no a ha)
    · obtain rfl : a = d := by simpa using ha
      exact hd.touch hT hpo
  · simp only [List.length_append, List.length_singleton] at hg
    rcases hno5 g hg with h1 | h1
    · rcases List.mem_append.1 ha with ha | ha
      · exact h.no a ha g h1
      · obtain rfl : a = d := by simpa using ha
        exact hpo g h1
    · intro hi
      have : a.hi ≤ w.heap.size := by
        rcases List.mem_append.1 ha with ha | ha
        · exact (h.ok a ha).hi.2
        · obtain rfl : a = d := by simpa using ha
          exact hd.hi.2
      have := hi.2
      omega
  · exact List.pairwise_append.2 ⟨h.pw, List.pairwise_singleton _ _, fun a ha b hb => by
      obtain rfl : b = d := by simpa using hb
      exact hlo a ha⟩
  · rcases List.mem_append.1 ha with ha | ha
    · exact h.lo a ha
    · obtain rfl : a = d := by simpa using ha
      exact hl0
  · exact h.bel.trans (hT.below h.bel.size (fun k hk => by
      rcases hk with hk | hk
      · exact (h.po.lt k hk).1
      · exact (h.ro.lt k hk).1))
theorem pw_all {α : Type} {R S : α → α → Prop} (hS : ∀ x, S x x) : ∀ {l : List α}, l.Pairwise R → (∀ {x y}, R x y → S x y ∧ S y x) → ∀ {a b : α}, a ∈ l → b ∈ l → S a b
  | [], _, _, _, _, ha, _ => by cases ha
  | x :: l, h, hR, a, b, ha, hb => by
    obtain ⟨h1, h2⟩ := List.pairwise_cons.1 h
    rcases List.mem_cons.1 ha with e1 | ha2
    · rcases List.mem_cons.1 hb with e2 | hb2
      · rw [e1, e2]; exact hS _
      · rw [e1]; exact (hR (h1 b hb2)).1
    · rcases List.mem_cons.1 hb with e2 | hb2
      · rw [e2]; exact (hR (h1 a ha2)).2
      · exact pw_all hS h2 hR ha2 hb2
theorem PnS.apart {w0 w : World} {ds : List PlD} {pA rA : Option Addr} {pc rc : Nat} (h : PnS w0 ds pA pc rA rc w) {a d : PlD} (ha : a ∈ ds) (hd : d ∈ ds) (hne : a ≠ d) : ∀ g, d.In g → ¬ a.In g := by
  have hp : ds.Pairwise fun a b => ∀ g, b.In g → ¬ a.In g := h.pw.imp (fun {x y} hxy g h1 h2 => by have := h1.1; have := h2.2; omega)
  exact (pw_all (S := fun a b => a = b ∨ ∀ g, b.In g → ¬ a.In g) (fun x => .inl rfl) hp (fun {x y} hxy => ⟨.inr hxy, .inr fun g h1 h2 => hxy g h2 h1⟩) ha hd).resolve_left hne
/-- The plans, when one of them was asked. -/
theorem PnS.asked {w0 w w' : World} {ds : List PlD} {pA rA : Option Addr} {pc rc : Nat} {d : PlD} {y : Pw} (h : PnS w0 ds pA pc rA rc w) (hd : d ∈ ds) (hT : Touch (· = d.P) w w') (hy : PlY d.base d.nm d.P d.Ls d.Bs 0 y w') (hin : ∀ g, PlV d.P d.Ls d.Bs y g → d.lo ≤ g ∧ g < d.mid) : PnS w0 ds pA pc rA rc w' := by
  have hM := h.ok d hd
  have hP : d.lo ≤ d.P ∧ d.P < d.mid := hin _ (.inl rfl)
  have hPI : d.In d.P := ⟨hP.1, by have := hM.hi.1; omega⟩
  obtain ⟨y0, h1, _⟩ := hM.ok
  refine ⟨own_touch h.po hT (fun g hg e => h.no d hd g (.inl hg) (by rw [e]; exact hPI)), own_touch h.ro hT (fun g hg e => h.no d hd g (.inr hg) (by rw [e]; exact hPI)), fun a ha => ?_, h.no, h.pw, h.lo, h.bel.trans (hT.below h.bel.size (fun k hk => by rw [hk]; have := h.lo d hd; omega))⟩
  by_cases e : a = d
  · subst e
    refine ⟨hM.f, ⟨y, ⟨hy, ?_⟩, hin⟩, hM.hi.1, Nat.le_trans hM.hi.2 hT.size⟩
    have hru : ∀ g, g = a.P → ¬ a.RU g := fun g hg hu => by have := hM.f.ir g hu; omega
    exact ⟨hT.blk h1.r.p (fun e => hru _ e (.inl rfl)), own_touch h1.r.os hT (fun g hg e => hru g e (.inr (.inl hg))), fun s hs => ⟨hT.rd (h1.r.ok s hs).row (fun b hb e => hru b e (.inr (.inr ⟨s, hs, hb⟩))), (h1.r.ok s hs).len⟩, h1.r.n⟩
  · exact (h.ok a ha).touch hT (fun g hg => by rw [hg]; exact h.apart ha hd e _ hPI)
theorem info_pptr : (Tryz.prog.info? 43).map (fun i => (i.zero, i.size, i.bytes)) = some (some (.pointer none), 1, 8) := by kernel_rfl
theorem info_rpptr : (Tryz.prog.info? 77).map (fun i => (i.zero, i.size, i.bytes)) = some (some (.pointer none), 1, 8) := by kernel_rfl
def PlansR (l : List FDef) (w : World) (e : Ending) (w' : World) : Prop := ∃ (ds : List PlD) (pA : Option Addr) (pc : Nat) (rA : Option Addr) (rc : Nat), e = .returned (.tuple #[.slice pA ds.length pc, .slice rA ds.length rc]) ∧ ds.length ≤ l.length ∧ PnS w ds pA pc rA rc w'
set_option maxRecDepth 100000 in
set_option maxHeartbeats 32000000 in
theorem plans13 (l : List FDef) (A : Option Addr) (cp : Nat) (w : World) (hR : Rd w A (l.flatMap enFD)) (hok : ∀ d ∈ l, OkFD w d) (hl : l.length * 40 ≤ 140737488351232) :
    Calls Tryz.prog 6 #[.slice A l.length cp] w (PlansR l w) := by
  have HR := hid hR
  have HOK := hid hok
  obtain ⟨i0, hi, hz0, hz1, hz2⟩ := info_parts info_pptr
  obtain ⟨i1, hj, hy0, hy1, hy2⟩ := info_parts info_rpptr
  clear hR hok
  go_enter Tryz.func6, Tryz.ntmps6
  go_wp2_with fail
  go_loopw [4, 5, 14] (fun ps rs i wr => ∃ (k : Nat) (ds : List PlD) (pA : Option Addr) (pc : Nat) (rA : Option Addr) (rc : Nat), k ≤ l.length ∧ ds.length ≤ k ∧ ps = .slice pA ds.length pc ∧ rs = .slice rA ds.length rc ∧ i = .int .i64 k ∧ Hid (PnS w ds pA pc rA rc wr)) (fun _ _ i _ => l.length - nOf i)
  case atStart => exact ⟨0, [], none, 0, none, 0, Nat.zero_le _, Nat.le_refl _, rfl, rfl, rfl, hid (PnS.start w)⟩
  case round =>
    obtain ⟨k, ds, pA, pc, rA, rc, hk, hdk, rfl, rfl, rfl, HS⟩ := hrel
    by_cases hlt : k < l.length
    · obtain ⟨x, hx⟩ : ∃ x, l[k]? = some x := ⟨l[k], List.getElem?_eq_getElem hlt⟩
      obtain ⟨b, off, hAA, _, hcc⟩ := (HR.out.below HS.out.bel).at_ 2 enFD_len (by omega) hx
      have HX := hid (HOK.out x (List.mem_of_getElem? hx))
      have HAA := hid hAA
      obtain ⟨nm, SA, scp, sl⟩ := x
      have q0 : wr.cell? ⟨b, off + k * 2, none⟩ = some (.string nm) := hcc 0 _ rfl
      have q1 : wr.cell? ⟨b, off + k * 2 + 1, none⟩ = some (.slice SA sl.length scp) := hcc 1 _ rfl
      rw [hAA]
      clear hcc hx hAA
      by_cases h40 : (40 : Int) < (sl.length : Int)
      · go_wp2_with fail
        go_roundw
        case rel => exact ⟨k + 1, ds, pA, pc, rA, rc, by omega, by omega, rfl, rfl, by go_num, hid (HS.out.next ((Below.refl _ _).alloc (Nat.le_refl _) _))⟩
        case measure => simp [nOf]; omega
      · have hB := Blk.new wr 60 #[.string nm, .slice SA sl.length scp]
        have hbW : Below wr.heap.size wr (wr.alloc (.cells #[.string nm, .slice SA sl.length scp] 60)) := (Below.refl _ _).alloc (Nat.le_refl _) _
        have HS1 := hid (HS.out.next hbW)
        have HG := hid (show wr.heap.size < (wr.alloc (.cells #[.string nm, .slice SA sl.length scp] 60)).heap.size from by simp)
        have HP0 := hid (show ∀ g, (Value.slice pA ds.length pc).ownBlock = some g ∨ (Value.slice rA ds.length rc).ownBlock = some g → g < wr.heap.size from fun g hg => hg.elim (fun h => (HS.out.po.lt g h).2) (fun h => (HS.out.ro.lt g h).2))
        go_upto_region 6 with fail
        generalize wr.alloc (.cells #[.string nm, .slice SA sl.length scp] 60) = W1 at hB HS1 HG ⊢
        generalize wr.heap.size = G at hB HP0 HG ⊢
        have HB := hid hB
        have b0 : W1.cell? ⟨G, 0, none⟩ = some (.string nm) := hB.cell 0
        have b1 : W1.cell? ⟨G, 1, none⟩ = some (.slice SA sl.length scp) := hB.cell 1
        have lG := hB.lt
        have hl40 : sl.length ≤ 40 := by omega
        have hbx : Below w.heap.size w W1 := HS1.out.bel
        have HOKS := hid (show ∀ s ∈ sl, OkSt W1 s from fun s hs => by
          have := HX.out.ok s hs
          exact ⟨this.row.below hbx, this.len⟩)
        have HRD := hid (show Rd W1 SA (sl.flatMap enSt) from HX.out.rd.below hbx)
        have KC := hid (compile_any nm sl SA scp W1 HRD.out HOKS.out (by omega))
        clear hB hbW hbx q0 q1 HAA
        go_wp2_with fail
        refine KC.out.mono ?_
        rintro e w2 ⟨hb2, hc2⟩
        have HB2 := hid hb2
        have HOKS2 := hid (show ∀ s ∈ sl, OkSt w2 s from fun s hs => (HOKS.out s hs).next hb2)
        have KF := hid (ref_any nm sl SA scp w2 (HRD.out.below hb2) HOKS2.out (by omega))
        have c0 : w2.cell? ⟨G, 0, none⟩ = some (.string nm) := (HB.out.next hb2).cell 0
        have c1 : w2.cell? ⟨G, 1, none⟩ = some (.slice SA sl.length scp) := (HB.out.next hb2).cell 1
        have lG2 : G < w2.heap.size := (HB.out.next hb2).lt
        clear KC hb2 b0 b1 lG
        rcases hc2 with ⟨hc, rfl⟩ | ⟨hc, P, vS, vB, Ls, Bs, rfl, hp, hg⟩
        · have HC := hid hc
          have hne : (checkN sl == 0) = false := by simpa using hc
          clear hc
          go_wp2_with fail
          refine KF.out.mono ?_
          rintro e w3 ⟨FA, fc, lr, rfl, ht, hO, hs, hb3⟩
          have KR := hid (rcompile_any nm lr FA fc w3 (own_rd hO) (fun s hm => ⟨own_rd (hs s hm), by
            obtain ⟨q, hq⟩ := List.mem_iff_getElem?.1 hm
            have hql : q < sl.length := by rw [← ht.len]; exact (List.getElem?_eq_some_iff.1 hq).1
            obtain ⟨A2, c2, e2⟩ := ht.at_ q _ (List.getElem?_eq_getElem hql)
            rw [hq] at e2
            injection e2 with e2
            rw [e2]
            exact (HOKS2.out _ (List.getElem_mem hql)).len⟩) (by rw [ht.len]; omega))
          rw [show RcmR nm lr w3 = fun e w' => RcmR nm lr w3 e w' from rfl] at KR
          have HT := hid ht
          have HB3 := hid hb3
          clear KF hO hs hb3 ht
          go_wp2_with fail
          refine KR.out.mono ?_
          rintro e w4 ⟨hb4, hc4⟩
          rw [check_twins HT.out] at hc4
          have HB4 := hid hb4
          rcases hc4 with ⟨_, rfl⟩ | ⟨hc, _⟩
          · go_wp2_with fail
            go_roundw
            case rel => exact ⟨k + 1, ds, pA, pc, rA, rc, by omega, by omega, rfl, rfl, by go_num, hid (((HS1.out.next HB2.out).next HB3.out).next HB4.out)⟩
            case measure => simp [nOf]; omega
          · exact absurd hc HC.out
        · have HC := hid hc
          clear hc
          have HPG := hid (And.intro hp hg)
          clear hp hg
          go_wp2_with fail
          refine KF.out.mono ?_
          rintro e w3 ⟨FA, fc, lr, rfl, ht, hO, hs, hb3⟩
          have KR := hid (rcompile_any nm lr FA fc w3 (own_rd hO) (fun s hm => ⟨own_rd (hs s hm), by
            obtain ⟨q, hq⟩ := List.mem_iff_getElem?.1 hm
            have hql : q < sl.length := by rw [← ht.len]; exact (List.getElem?_eq_some_iff.1 hq).1
            obtain ⟨A2, c2, e2⟩ := ht.at_ q _ (List.getElem?_eq_getElem hql)
            rw [hq] at e2
            injection e2 with e2
            rw [e2]
            exact (HOKS2.out _ (List.getElem_mem hql)).len⟩) (by rw [ht.len]; omega))
          have HT := hid ht
          have HB3 := hid hb3
          have HOS := hid hs
          clear KF hO hs hb3 ht
          go_wp2_with fail
          refine KR.out.mono ?_
          rintro e w4 ⟨hb4, hc4⟩
          rw [check_twins HT.out] at hc4
          have HB4 := hid hb4
          rcases hc4 with ⟨hc, _⟩ | ⟨_, RP, SR, sr, Lr, rfl, hrp, hord, hRle⟩
          · exact absurd HC.out hc
          · have HM := hid (made13 HC.out hl40 (fun s hm => (HOKS.out s hm).len) HPG.out.1 HPG.out.2 HB2.out HT.out HOS.out HB3.out hrp hord hRle HB4.out)
            have HS4 := hid (((HS1.out.next HB2.out).next HB3.out).next HB4.out)
            have hbz : w.heap.size ≤ w4.heap.size := HS4.out.bel.size
            have HPO := hid HS4.out.po
            have HRO := hid HS4.out.ro
            clear KR hrp hord hRle hb4 c0 c1 lG2
            go_wp2_with (first
              | (at_builtin; refine wpList_push_at _ rfl _ _ 24 rfl w.heap.size 43 i0 _ 1 8 Tryz.underlying24 hi hz0 hz1 hz2 rfl (by decide) _ _ _ (by rfl) HPO.out #[.pointer (some ⟨P, 0, none⟩)] w4.heap.size rfl (by rfl) (by rfl) (by rfl) (by unfold maxLen; omega) (by omega) hbz ?_; intro v' w5 hO5 hg5 ha5; obtain ⟨pA', pc', rfl, _⟩ := own_slice hO5; have hbz5 : w.heap.size ≤ w5.heap.size := Nat.le_trans hbz (Nat.le_trans (by simp) hg5.size); have HRO5 := hid (own_touch HRO.out ((Touch.of_below ((Below.refl _ _).alloc (Nat.le_refl _) _)).then (S := fun b => (Value.slice pA ds.length pc).ownBlock = some b) ⟨hg5.os, hg5.tape, hg5.output, hg5.size, fun k hk hn => hg5.block k hk (fun e => hn e.symm)⟩) (fun g hg e => own_ne HRO.out HPO.out (by decide) hg e)); have HA := hid (And.intro hO5 (And.intro hg5 ha5)); clear hO5 hg5 ha5)
              | (at_builtin; refine wpList_push_at _ rfl _ _ 25 rfl w.heap.size 77 i1 _ 1 8 Tryz.underlying25 hj hy0 hy1 hy2 rfl (by decide) _ _ _ (by rfl) HRO5.out #[.pointer (some ⟨RP, 0, none⟩)] w5.heap.size rfl (by rfl) (by rfl) (by rfl) (by unfold maxLen; omega) (by omega) hbz5 ?_; intro v' w6 hO6 hg6 ha6; obtain ⟨rA', rc', rfl, _⟩ := own_slice hO6; have HA2 := hid (And.intro hO6 (And.intro hg6 ha6)); clear hO6 hg6 ha6))
            have HF := hid (HS4.out.more HM.out (fun a ha => (HS1.out.ok a ha).hi.2) HS1.out.bel.size (fun g hg hi => by have h1 := HP0.out g hg; have h2 := hi.1; have h3 := HG.out; simp only at h2; omega) HA.out.1 HA.out.2.1 HA.out.2.2 HA2.out.1 HA2.out.2.1 HA2.out.2.2)
            go_roundw
            case rel => exact ⟨k + 1, ds ++ [_], pA', pc', rA', rc', by omega, by simp; omega, by simp, by simp, by go_num, HF⟩
            case measure => simp [nOf]; omega
    · have hk' : k = l.length := by omega
      subst hk'
      go_wp2_with fail
      go_ret2
      exact ⟨ds, pA, pc, rA, rc, rfl, hdk, HS.out⟩

end Go.Proofs.YtoemmakhbiiknaaGreat
