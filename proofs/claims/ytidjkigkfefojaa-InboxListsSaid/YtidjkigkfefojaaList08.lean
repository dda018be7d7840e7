/-
  The inbox's List: all that is remembered, in order.
-/
import Derived.Test.YtidjkigkfefojaaOrder08
import Derived.Test.YtidjkigkfefojaaSort
namespace Go.Proofs.Ytidjkigkfefojaa
open Go.RowKit Go.WideShapes
set_option linter.unusedVariables false

instance : Inhabited Ent := ⟨noEnt⟩
def enE5 (e : Ent) : List Value := [.int .i64 e.o, .int .i64 e.s, .int .i64 e.t, .int .i64 e.c, .bool e.b]
theorem enE5_len (e : Ent) : (enE5 e).length = 5 := rfl
theorem enE5_one (e : Ent) : ∀ v ∈ enE5 e, v.oneCell' = true := by
  intro v hv
  simp only [enE5, List.mem_cons, List.not_mem_nil, or_false] at hv
  rcases hv with rfl | rfl | rfl | rfl | rfl <;> rfl
theorem info_ent : (Try.prog.info? 58).map (fun i => (i.zero, i.size, i.bytes)) = some (some (enE noEnt), 5, 40) := by kernel_rfl

/-- Does x come ahead of y? -/
def ltE (x y : Ent) : Bool := decide (cfE x y < 0)
theorem ltE_iff (x y : Ent) : ltE x y = true ↔ x.o < y.o ∨ (x.o = y.o ∧ x.s < y.s) := by
  unfold ltE cfE orI cmpI
  rw [decide_eq_true_eq]
  by_cases h1 : x.o < y.o
  · simp [h1]
  · by_cases h2 : y.o < x.o
    · simp [h1, h2]; omega
    · have : x.o = y.o := by omega
      by_cases h3 : x.s < y.s
      · simp [this, h3]
      · by_cases h4 : y.s < x.s <;> simp [this, h3, h4]
theorem swoE : Sort.SWO ltE where
  irrefl x := by
    cases h : ltE x x with
    | false => rfl
    | true => have := (ltE_iff x x).1 h; omega
  trans x y z h1 h2 := by rw [ltE_iff] at *; omega
  ntrans x y z h1 h2 := by
    cases h : ltE x z with
    | false => rfl
    | true =>
      have h' := (ltE_iff x z).1 h
      have a : ¬ (x.o < y.o ∨ (x.o = y.o ∧ x.s < y.s)) := fun e => by rw [(ltE_iff x y).2 e] at h1; cases h1
      have b : ¬ (y.o < z.o ∨ (y.o = z.o ∧ y.s < z.s)) := fun e => by rw [(ltE_iff y z).2 e] at h2; cases h2
      omega

theorem IsIter.left_len {κ ν : Type} {w : World} {r B : Nat} {kE : κ → Value} {vE : ν → Value} {m left : List (κ × ν)} (h : IsIter w r B kE vE m left) : w.rangeLeft B r = left.length := by
  obtain ⟨es, clock, since, c0, seen, hb, hr, _, _, _, _, _, hit, rfl⟩ := h
  have hl : es.length = m.length := by have := congrArg List.length hr; simpa using this
  simp only [World.rangeLeft, hb, hit, leftOf]
  unfold toCome
  rw [List.length_map]
  have e1 := zip_fst (m := m) hl
  have e2 : (Array.filter (fun e => !seen.contains e.born) es.toArray).size = (es.filter fun e => !seen.contains e.born).length := by simp
  rw [e2]
  conv => lhs; rw [← e1, List.filter_map, List.length_map]
  rfl

set_option maxRecDepth 100000 in
set_option maxHeartbeats 4000000 in
theorem list_any (hS : SortsAt Try.prog 24 (.func (.func 25) #[] #[]) enE5 5 ltE) (X B : Nat) (m : List ((Int × Int) × Ent)) (w : World) (h : IsBox w X B m) (hm : m.length * 40 ≤ 140737488351232) :
    Calls Try.prog 16 #[.pointer (some ⟨X, 0, none⟩)] w fun e w' =>
      ∃ (v : Value) (l : List Ent), e = .returned v ∧ l.Perm (m.map (·.2)) ∧ l.Pairwise (fun a b => ltE b a = false) ∧ w'.ownsRow w.heap.size 58 5 v l.length (l.flatMap enE5) ∧ Below w.heap.size w w' := by
  have hc := h.1.cell 0
  have hs : (#[.map (some B)] : Array Value)[0]? = some (.map (some B)) := rfl
  rw [hs] at hc
  clear hs
  obtain ⟨i0, hi, hz0, hz1, hz2⟩ := info_parts info_ent
  go_enter Try.func16, Try.ntmps16
  go_wp2_with (at_range; refine wpList_range _ rfl _ 59 63 58 rfl Try.underlying59 B m rfl h.2 ?_; intro w1 hI hb hz)
  go_frame
  go_loopw [3] (fun v wr => ∃ (left : List ((Int × Int) × Ent)) (vis : List Ent), wr.ownsRow w.heap.size 58 5 v vis.length (vis.flatMap enE5) ∧ IsIter wr w.heap.size B kP enE m left ∧ Hid ((vis ++ left.map (·.2)).Perm (m.map (·.2))) ∧ Below w.heap.size w wr)
    (fun _ wr => wr.rangeLeft B w.heap.size)
  case atStart => exact ⟨m, [], World.ownsRow_nil _ _ _ _, hI, hid (by simp), hb⟩
  case round =>
    clear hI hb hz
    obtain ⟨left, vis, hO, hI, hP, hb⟩ := hrel
    have hlen : vis.length ≤ m.length := by
      have := hP.out.length_eq
      simp at this
      omega
    have hll := hI.left_len
    have HL := hid hll
    clear hll
    go_wp2_with (first
      | (at_next; refine wpList_next _ rfl _ rfl w.heap.size B m left rfl hI ?_ ?_))
    · intro hl0
      subst hl0
      have hP2 : vis.Perm (m.map (·.2)) := by simpa using hP.out
      clear hP HL
      go_wp2_with fail
      refine (sort_owned hS enE5_len hO (by omega)).mono ?_
      rintro e w5 ⟨rfl, l', hp, hst, hO', hg⟩
      have hb5 : Below w.heap.size w w5 := hb.grown hg hb.size (fun k hk => (hO.lt k hk).1)
      clear hO hI hb hg
      go_wp2_with fail
      go_ret
      exact ⟨_, l', rfl, hp.trans hP2, hst, hO', hb5⟩
    · intro a b v left' w2 hp hI2 hg2 hs2 hen
      obtain ⟨vo, vs, vt, vc, vb⟩ := v
      simp only [kP, enE] at hen
      have hO2 := hO.kept hg2 (.inr (fun e => hI.notOwn hO e.symm))
      have hb2 := hb.trans (grown_below hg2 hb.size (Nat.le_refl _))
      have hO3 := hO2.alloc (.cells #[.int .i64 vo, .int .i64 vs, .int .i64 vt, .int .i64 vc, .bool vb] 58)
      have hI3 := (hI2.alloc (.cells #[.int .i64 vo, .int .i64 vs, .int .i64 vt, .int .i64 vc, .bool vb] 58)).alloc (.cells #[.int .i64 vo, .int .i64 vs, .int .i64 vt, .int .i64 vc, .bool vb] 58)
      have hlen2 : vis.length + 1 ≤ m.length := by
        have h1 := hP.out.length_eq
        have h2 := hp.length_eq
        simp at h1 h2
        omega
      clear hO hI hg2 hs2 hO2 hb
      go_wp2_with (first
        | (at_builtin; refine wpList_push _ rfl _ _ 47 rfl w.heap.size 58 i0 _ 5 40 Try.underlying47 hi hz0 hz1 hz2 rfl (by decide) _ _ _ (by rfl) hO3 #[.int .i64 vo, .int .i64 vs, .int .i64 vt, .int .i64 vc, .bool vb] (w2.heap.size + 1) (by simp) (by rfl) (by rfl) (by rfl) (by unfold maxLen; omega) (by omega) (by have := hb2.size; simp; omega) ?_; intro v' w3 hO4 hg4))
      have hI5 := (hI2.alloc (.cells #[.int .i64 vo, .int .i64 vs, .int .i64 vt, .int .i64 vc, .bool vb] 58))
      have hI4 := hI3.grown hg4 (fun e => hI5.isMap.notOwn hO3 e) (fun e => hI5.notOwn hO3 e)
      have hb4 := ((hb2.alloc hb2.size (.cells #[.int .i64 vo, .int .i64 vs, .int .i64 vt, .int .i64 vc, .bool vb] 58)).alloc (by have := hb2.size; simp; omega) (.cells #[.int .i64 vo, .int .i64 vs, .int .i64 vt, .int .i64 vc, .bool vb] 58)).grown hg4 (by have := hb2.size; simp; omega) (fun k hk => (hO3.lt k hk).1)
      have hP4 := hid (show ((vis ++ [(⟨vo, vs, vt, vc, vb⟩ : Ent)]) ++ left'.map (·.2)).Perm (m.map (·.2)) from by
        refine List.Perm.trans ?_ hP.out
        rw [List.append_assoc]
        have hq := (hp.map (fun x : (Int × Int) × Ent => x.2)).symm
        rw [List.map_cons] at hq
        exact List.Perm.append_left vis hq)
      have hO5 : w3.ownsRow w.heap.size 58 5 v' (vis ++ [(⟨vo, vs, vt, vc, vb⟩ : Ent)]).length ((vis ++ [(⟨vo, vs, vt, vc, vb⟩ : Ent)]).flatMap enE5) := by simpa [enE5] using hO4
      have hll : left'.length < left.length := by have := hp.length_eq; simp at this; omega
      clear hO3 hI3 hI5 hO4 hg4 hI2 hb2 hen
      go_roundw
      case rel => exact ⟨left', _, hO5, hI4, hP4, hb4⟩
      case measure => rw [hI4.left_len, HL.out]; exact hll

end Go.Proofs.Ytidjkigkfefojaa
