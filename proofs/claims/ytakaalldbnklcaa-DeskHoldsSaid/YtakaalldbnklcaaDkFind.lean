/-
  The desk: which service a verb has.
-/
import Derived.Test.YtakaalldbnklcaaStrKey
import Derived.Test.YtakaalldbnklcaaTouch
import Derived.RegionTactic
namespace Go.Proofs.Ytakaalldbnklcaa
open Go.RowKit Go.WideShapes Go.ChangeShapes Go.ChangeAt Go.Deep
set_option linter.unusedVariables false

def vId (v : Value) : Value := v
theorem zeroSv (w : World) : (zeroValue 92).run Try.prog w = .ok .nilFunc w := by kernel_rfl
theorem keyStr : KeyLaw Try.prog 9 kS := strKey Try.underlying9
def vb0 : ByteArray := ⟨#[99, 114, 101, 100, 105, 116, 46, 104, 111, 108, 100]⟩
def vb1 : ByteArray := ⟨#[99, 114, 101, 100, 105, 116, 46, 114, 101, 108, 101, 97, 115, 101]⟩
def vb2 : ByteArray := ⟨#[99, 114, 101, 100, 105, 116, 46, 99, 108, 101, 97, 114]⟩
def vb3 : ByteArray := ⟨#[115, 116, 111, 99, 107, 46, 97, 108, 108, 111, 99, 97, 116, 101]⟩
def vb4 : ByteArray := ⟨#[115, 116, 111, 99, 107, 46, 102, 114, 101, 101]⟩
def vb5 : ByteArray := ⟨#[115, 116, 111, 99, 107, 46, 115, 104, 105, 112]⟩
def vb6 : ByteArray := ⟨#[115, 116, 111, 99, 107, 46, 114, 101, 115, 116, 111, 99, 107]⟩
def vb7 : ByteArray := ⟨#[115, 116, 111, 99, 107, 46, 116, 97, 107, 101, 98, 97, 99, 107]⟩
def vb8 : ByteArray := ⟨#[98, 105, 108, 108, 46, 105, 110, 118, 111, 105, 99, 101]⟩
def vb9 : ByteArray := ⟨#[98, 105, 108, 108, 46, 99, 114, 101, 100, 105, 116]⟩
def vb10 : ByteArray := ⟨#[98, 105, 108, 108, 46, 109, 101, 109, 111]⟩
def vb11 : ByteArray := ⟨#[99, 97, 115, 104, 46, 114, 101, 102, 117, 110, 100]⟩
/-- The number of a verb's service: 0 none, 1 hold, 2 release, 3 allocate, 4 free, 5 ship, 6 restock, 7 invoice, 8 memo, 9 refund. -/
def svc (s : ByteArray) : Nat := if s = vb0 then 1 else if s = vb1 then 2 else if s = vb2 then 2 else if s = vb3 then 3 else if s = vb4 then 4 else if s = vb5 then 5 else if s = vb6 then 6 else if s = vb7 then 6 else if s = vb8 then 7 else if s = vb9 then 8 else if s = vb10 then 8 else if s = vb11 then 9 else 0
/-- The function that a service of this number is. -/
def svcIs (k : Nat) (w : World) (v : Value) : Prop :=
  (k = 0 ∧ v = .nilFunc) ∨ (k = 1 ∧ v = .func (.func 32) #[] #[]) ∨ (k = 3 ∧ v = .func (.func 36) #[] #[]) ∨ (k = 7 ∧ v = .func (.func 41) #[] #[]) ∨
  ∃ (g : Nat) (u : Value), v = .func (.func 47) #[] #[.pointer (some ⟨g, 0, none⟩)] ∧ Blk w g 111 #[u] ∧
    ((k = 2 ∧ u = .func (.func 35) #[] #[]) ∨ (k = 4 ∧ u = .func (.func 38) #[] #[]) ∨ (k = 5 ∧ u = .func (.func 39) #[] #[]) ∨ (k = 6 ∧ u = .func (.func 40) #[] #[]) ∨ (k = 8 ∧ u = .func (.func 43) #[] #[]) ∨ (k = 9 ∧ u = .func (.func 44) #[] #[]))
theorem svcIs.touch {S : Nat → Prop} {k : Nat} {w w' : World} {v : Value} (h : svcIs k w v) (ht : Touch S w w') (hS : ∀ g cs, Blk w g 111 cs → ¬ S g) : svcIs k w' v := by
  rcases h with h | h | h | h | ⟨g, u, h1, h2, h3⟩
  · exact .inl h
  · exact .inr (.inl h)
  · exact .inr (.inr (.inl h))
  · exact .inr (.inr (.inr (.inl h)))
  · exact .inr (.inr (.inr (.inr ⟨g, u, h1, ht.blk h2 (hS g _ h2), h3⟩)))

theorem plain_any (n : FuncId) (w : World) : Calls Try.prog 34 #[.func (.func n) #[] #[]] w fun e w' => e = .returned (.func (.func 47) #[] #[.pointer (some ⟨w.heap.size, 0, none⟩)]) ∧ Blk w' w.heap.size 111 #[.func (.func n) #[] #[]] ∧ Below w.heap.size w w' := by
  have hmf : ∀ (fn : Fn) (first cap : Array Value) (w : World), (Instr.makeFunc fn first cap).run Try.prog w = .ok (.func fn first cap) w := fun _ _ _ _ => rfl
  go_enter Try.func34, Try.ntmps34
  go_wp2_with fail
  go_ret
  exact ⟨rfl, Blk.new _ _ _, (Below.refl _ _).alloc (Nat.le_refl _) _⟩

/-- The map of services, as far as it is filled. -/
structure FM (w0 w : World) (B : Nat) (m : List (ByteArray × Value)) : Prop where
  mp : IsMap w B kS vId m
  ok : ∀ k v, mget m k = some v → svcIs (svc k) w v
  keys : ∀ k, svc k ≠ 0 → k ∈ m.map (·.1) ∨ True
  bel : Below w0.heap.size w0 w
  lo : w0.heap.size ≤ B
theorem FM.next {w0 w w' : World} {B : Nat} {m : List (ByteArray × Value)} (h : FM w0 w B m) (hb : Below w.heap.size w w') : FM w0 w' B m :=
  ⟨h.mp.next hb, fun k v hv => (h.ok k v hv).touch (S := fun _ => False) (.of_below hb) (fun _ _ _ h => h), h.keys, bthen h.bel hb, h.lo⟩
theorem FM.put {w0 w w' : World} {B : Nat} {m : List (ByteArray × Value)} {k : ByteArray} {v : Value} (h : FM w0 w B m) (hM : IsMap w' B kS vId (mset m k v)) (hg : w.grownBy w' (some B)) (hv : svcIs (svc k) w v) : FM w0 w' B (mset m k v) := by
  have hS : ∀ g cs, Blk w g 111 cs → ¬ g = B := fun g cs hb e => h.mp.notBlk hb e.symm
  refine ⟨hM, fun k' v' hv' => ?_, fun _ _ => .inr trivial, h.bel.trans (grown_below hg h.bel.size h.lo), h.lo⟩
  rw [mget_mset] at hv'
  split at hv'
  · rename_i e
    injection hv' with hv'
    subst hv' e
    exact hv.touch (Touch.of_grown hg) hS
  · exact (h.ok k' v' hv').touch (Touch.of_grown hg) hS

set_option maxRecDepth 100000 in
set_option maxHeartbeats 8000000 in
theorem find_any (s : ByteArray) (w : World) : Calls Try.prog 27 #[.string s] w fun e w' => ∃ v, e = .returned v ∧ svcIs (svc s) w' v ∧ Below w.heap.size w w' := by
  have hmm := @run_makeMap Try.prog
  have hF0 : FM w (w.alloc (.map #[] 0)) w.heap.size [] := ⟨IsMap.made w kS vId, fun _ _ h => by simp [mget] at h, fun _ _ => .inr trivial, (Below.refl _ _).alloc (Nat.le_refl _) _, Nat.le_refl _⟩
  have hwB := hF0.lo
  obtain ⟨w0', hr0, hM0, hg0, hs0⟩ := hF0.mp.store (P := Try.prog) (mt := 115) (et := 92) keyStr Try.underlying115 vb0 (.func (.func 32) #[] #[])
  have hF0' := hF0.put hM0 hg0 (show svcIs (svc vb0) _ _ from .inr (.inl ⟨by decide, rfl⟩))
  simp only [kS, vId] at hr0
  rw [vb0] at hr0
  clear hM0 hg0 hs0
  go_enter Try.func27, Try.ntmps27
  go_wp2_with fail
  clear hr0
  refine (plain_any _ _).mono ?_
  rintro e w1 ⟨rfl, hBk1, hb1⟩
  have hG1 := hF0'.next hb1
  obtain ⟨w1', hr1, hM1, hg1, hs1⟩ := hG1.mp.store (P := Try.prog) (mt := 115) (et := 92) keyStr Try.underlying115 vb1 (.func (.func 47) #[] #[.pointer (some ⟨w0'.heap.size, 0, none⟩)])
  have hF1' := hG1.put hM1 hg1 (show svcIs (svc vb1) _ _ from .inr (.inr (.inr (.inr ⟨_, _, rfl, hBk1, .inl ⟨by decide, rfl⟩⟩))))
  simp only [kS, vId] at hr1
  rw [vb1] at hr1
  clear hM1 hg1 hs1 hBk1 hb1 hG1
  go_wp2_with fail
  clear hr1
  refine (plain_any _ _).mono ?_
  rintro e w2 ⟨rfl, hBk2, hb2⟩
  have hG2 := hF1'.next hb2
  obtain ⟨w2', hr2, hM2, hg2, hs2⟩ := hG2.mp.store (P := Try.prog) (mt := 115) (et := 92) keyStr Try.underlying115 vb2 (.func (.func 47) #[] #[.pointer (some ⟨w1'.heap.size, 0, none⟩)])
  have hF2' := hG2.put hM2 hg2 (show svcIs (svc vb2) _ _ from .inr (.inr (.inr (.inr ⟨_, _, rfl, hBk2, .inl ⟨by decide, rfl⟩⟩))))
  simp only [kS, vId] at hr2
  rw [vb2] at hr2
  clear hM2 hg2 hs2 hBk2 hb2 hG2
  obtain ⟨w3', hr3, hM3, hg3, hs3⟩ := hF2'.mp.store (P := Try.prog) (mt := 115) (et := 92) keyStr Try.underlying115 vb3 (.func (.func 36) #[] #[])
  have hF3' := hF2'.put hM3 hg3 (show svcIs (svc vb3) _ _ from .inr (.inr (.inl ⟨by decide, rfl⟩)))
  simp only [kS, vId] at hr3
  rw [vb3] at hr3
  clear hM3 hg3 hs3
  go_wp2_with fail
  clear hr2 hr3
  refine (plain_any _ _).mono ?_
  rintro e w4 ⟨rfl, hBk4, hb4⟩
  have hG4 := hF3'.next hb4
  obtain ⟨w4', hr4, hM4, hg4, hs4⟩ := hG4.mp.store (P := Try.prog) (mt := 115) (et := 92) keyStr Try.underlying115 vb4 (.func (.func 47) #[] #[.pointer (some ⟨w3'.heap.size, 0, none⟩)])
  have hF4' := hG4.put hM4 hg4 (show svcIs (svc vb4) _ _ from .inr (.inr (.inr (.inr ⟨_, _, rfl, hBk4, .inr (.inl ⟨by decide, rfl⟩)⟩))))
  simp only [kS, vId] at hr4
  rw [vb4] at hr4
  clear hM4 hg4 hs4 hBk4 hb4 hG4
  go_wp2_with fail
  clear hr4
  refine (plain_any _ _).mono ?_
  rintro e w5 ⟨rfl, hBk5, hb5⟩
  have hG5 := hF4'.next hb5
  obtain ⟨w5', hr5, hM5, hg5, hs5⟩ := hG5.mp.store (P := Try.prog) (mt := 115) (et := 92) keyStr Try.underlying115 vb5 (.func (.func 47) #[] #[.pointer (some ⟨w4'.heap.size, 0, none⟩)])
  have hF5' := hG5.put hM5 hg5 (show svcIs (svc vb5) _ _ from .inr (.inr (.inr (.inr ⟨_, _, rfl, hBk5, .inr (.inr (.inl ⟨by decide, rfl⟩))⟩))))
  simp only [kS, vId] at hr5
  rw [vb5] at hr5
  clear hM5 hg5 hs5 hBk5 hb5 hG5
  go_wp2_with fail
  clear hr5
  refine (plain_any _ _).mono ?_
  rintro e w6 ⟨rfl, hBk6, hb6⟩
  have hG6 := hF5'.next hb6
  obtain ⟨w6', hr6, hM6, hg6, hs6⟩ := hG6.mp.store (P := Try.prog) (mt := 115) (et := 92) keyStr Try.underlying115 vb6 (.func (.func 47) #[] #[.pointer (some ⟨w5'.heap.size, 0, none⟩)])
  have hF6' := hG6.put hM6 hg6 (show svcIs (svc vb6) _ _ from .inr (.inr (.inr (.inr ⟨_, _, rfl, hBk6, .inr (.inr (.inr (.inl ⟨by decide, rfl⟩)))⟩))))
  simp only [kS, vId] at hr6
  rw [vb6] at hr6
  clear hM6 hg6 hs6 hBk6 hb6 hG6
  go_wp2_with fail
  clear hr6
  refine (plain_any _ _).mono ?_
  rintro e w7 ⟨rfl, hBk7, hb7⟩
  have hG7 := hF6'.next hb7
  obtain ⟨w7', hr7, hM7, hg7, hs7⟩ := hG7.mp.store (P := Try.prog) (mt := 115) (et := 92) keyStr Try.underlying115 vb7 (.func (.func 47) #[] #[.pointer (some ⟨w6'.heap.size, 0, none⟩)])
  have hF7' := hG7.put hM7 hg7 (show svcIs (svc vb7) _ _ from .inr (.inr (.inr (.inr ⟨_, _, rfl, hBk7, .inr (.inr (.inr (.inl ⟨by decide, rfl⟩)))⟩))))
  simp only [kS, vId] at hr7
  rw [vb7] at hr7
  clear hM7 hg7 hs7 hBk7 hb7 hG7
  obtain ⟨w8', hr8, hM8, hg8, hs8⟩ := hF7'.mp.store (P := Try.prog) (mt := 115) (et := 92) keyStr Try.underlying115 vb8 (.func (.func 41) #[] #[])
  have hF8' := hF7'.put hM8 hg8 (show svcIs (svc vb8) _ _ from .inr (.inr (.inr (.inl ⟨by decide, rfl⟩))))
  simp only [kS, vId] at hr8
  rw [vb8] at hr8
  clear hM8 hg8 hs8
  go_wp2_with fail
  clear hr7 hr8
  refine (plain_any _ _).mono ?_
  rintro e w9 ⟨rfl, hBk9, hb9⟩
  have hG9 := hF8'.next hb9
  obtain ⟨w9', hr9, hM9, hg9, hs9⟩ := hG9.mp.store (P := Try.prog) (mt := 115) (et := 92) keyStr Try.underlying115 vb9 (.func (.func 47) #[] #[.pointer (some ⟨w8'.heap.size, 0, none⟩)])
  have hF9' := hG9.put hM9 hg9 (show svcIs (svc vb9) _ _ from .inr (.inr (.inr (.inr ⟨_, _, rfl, hBk9, .inr (.inr (.inr (.inr (.inl ⟨by decide, rfl⟩))))⟩))))
  simp only [kS, vId] at hr9
  rw [vb9] at hr9
  clear hM9 hg9 hs9 hBk9 hb9 hG9
  go_wp2_with fail
  clear hr9
  refine (plain_any _ _).mono ?_
  rintro e w10 ⟨rfl, hBk10, hb10⟩
  have hG10 := hF9'.next hb10
  obtain ⟨w10', hr10, hM10, hg10, hs10⟩ := hG10.mp.store (P := Try.prog) (mt := 115) (et := 92) keyStr Try.underlying115 vb10 (.func (.func 47) #[] #[.pointer (some ⟨w9'.heap.size, 0, none⟩)])
  have hF10' := hG10.put hM10 hg10 (show svcIs (svc vb10) _ _ from .inr (.inr (.inr (.inr ⟨_, _, rfl, hBk10, .inr (.inr (.inr (.inr (.inl ⟨by decide, rfl⟩))))⟩))))
  simp only [kS, vId] at hr10
  rw [vb10] at hr10
  clear hM10 hg10 hs10 hBk10 hb10 hG10
  go_wp2_with fail
  clear hr10
  refine (plain_any _ _).mono ?_
  rintro e w11 ⟨rfl, hBk11, hb11⟩
  have hG11 := hF10'.next hb11
  obtain ⟨w11', hr11, hM11, hg11, hs11⟩ := hG11.mp.store (P := Try.prog) (mt := 115) (et := 92) keyStr Try.underlying115 vb11 (.func (.func 47) #[] #[.pointer (some ⟨w10'.heap.size, 0, none⟩)])
  have hF11' := hG11.put hM11 hg11 (show svcIs (svc vb11) _ _ from .inr (.inr (.inr (.inr ⟨_, _, rfl, hBk11, .inr (.inr (.inr (.inr (.inr (⟨by decide, rfl⟩)))))⟩))))
  simp only [kS, vId] at hr11
  rw [vb11] at hr11
  clear hM11 hg11 hs11 hBk11 hb11 hG11
  have hlk := hF11'.mp.look keyStr Try.underlying115 (zeroSv _) s
  rw [show looked Value.nilFunc vId _ s = looked Value.nilFunc vId _ s from rfl] at hlk
  simp only [kS] at hlk
  have HF := hid hF11'
  go_wp2_with fail
  clear hr11
  clear hlk
  go_ret
  refine ⟨_, rfl, ?_, HF.out.bel⟩
  unfold looked
  split
  · rename_i v hv
    exact HF.out.ok s v hv
  · rename_i hv
    refine .inl ⟨?_, rfl⟩
    simp only [mget_mset] at hv
    unfold svc
    by_cases e0 : s = vb0
    · simp [e0, vb0, vb1, vb2, vb3, vb4, vb5, vb6, vb7, vb8, vb9, vb10, vb11] at hv
    rw [if_neg e0]
    by_cases e1 : s = vb1
    · simp [e1, vb1, vb2, vb3, vb4, vb5, vb6, vb7, vb8, vb9, vb10, vb11] at hv
    rw [if_neg e1]
    by_cases e2 : s = vb2
    · simp [e2, vb2, vb3, vb4, vb5, vb6, vb7, vb8, vb9, vb10, vb11] at hv
    rw [if_neg e2]
    by_cases e3 : s = vb3
    · simp [e3, vb3, vb4, vb5, vb6, vb7, vb8, vb9, vb10, vb11] at hv
    rw [if_neg e3]
    by_cases e4 : s = vb4
    · simp [e4, vb4, vb5, vb6, vb7, vb8, vb9, vb10, vb11] at hv
    rw [if_neg e4]
    by_cases e5 : s = vb5
    · simp [e5, vb5, vb6, vb7, vb8, vb9, vb10, vb11] at hv
    rw [if_neg e5]
    by_cases e6 : s = vb6
    · simp [e6, vb6, vb7, vb8, vb9, vb10, vb11] at hv
    rw [if_neg e6]
    by_cases e7 : s = vb7
    · simp [e7, vb7, vb8, vb9, vb10, vb11] at hv
    rw [if_neg e7]
    by_cases e8 : s = vb8
    · simp [e8, vb8, vb9, vb10, vb11] at hv
    rw [if_neg e8]
    by_cases e9 : s = vb9
    · simp [e9, vb9, vb10, vb11] at hv
    rw [if_neg e9]
    by_cases e10 : s = vb10
    · simp [e10, vb10, vb11] at hv
    rw [if_neg e10]
    by_cases e11 : s = vb11
    · simp [e11, vb11] at hv
    rw [if_neg e11]

end Go.Proofs.Ytakaalldbnklcaa
