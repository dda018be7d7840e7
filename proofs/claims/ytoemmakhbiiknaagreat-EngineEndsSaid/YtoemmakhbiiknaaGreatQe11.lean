/-
  An engine's instance: its numbers, its rows, its effects; all, some, tell, effects.
  (*instance).all, some, effects, tell.
  An instance and its plan; begin.
  goOn.
  unwind, turn.
  turn.
  An engine: New, find, room, at.
-/
import Derived.Test.YtoemmakhbiiknaaGreatQe10
import Derived.Deep.AppendLies
import Derived.RegionTactic
namespace Go.Proofs.YtoemmakhbiiknaaGreat
open Go.RowKit Go.WideShapes Go.ChangeShapes Go.ChangeAt Go.Deep
set_option linter.unusedVariables false

/-- An effect. -/
structure Eff where
  kind : Int
  order : Int
  step : Int
  tr : Int
  ticks : Int
  undo : Bool
def enEf (f : Eff) : List Value := [.int .i64 f.kind, .int .i64 f.order, .int .i64 f.step, .int .i64 f.tr, .int .i64 f.ticks, .bool f.undo]
theorem enEf_len (f : Eff) : (enEf f).length = 6 := rfl
theorem enEf_one (f : Eff) : ∀ u ∈ enEf f, u.oneCell' = true := by
  intro u hu
  simp only [enEf, List.mem_cons, List.not_mem_nil, or_false] at hu
  rcases hu with rfl | rfl | rfl | rfl | rfl | rfl <;> rfl
/-- What an instance holds. -/
structure Iv where
  ord : Int
  st : Int
  paid : Bool
  ms : List Int
  ts : List Int
  out : List Eff
/-- Where its rows lie. -/
structure Il where
  MA : Option Addr
  mc : Nat
  TA : Option Addr
  tc : Nat
  OA : Option Addr
  oc : Nat
def inC (vP : Value) (v : Iv) (l : Il) : Array Value := #[.int .i64 v.ord, .int .i64 v.st, .bool v.paid, .slice l.MA v.ms.length l.mc, .slice l.TA v.ts.length l.tc, vP, .slice l.OA v.out.length l.oc]
structure IsI (base I : Nat) (vP : Value) (v : Iv) (l : Il) (w : World) : Prop where
  b : Blk w I 96 (inC vP v l)
  m : w.ownsRow base 71 1 (.slice l.MA v.ms.length l.mc) v.ms.length (v.ms.flatMap en1)
  t : w.ownsRow base 3 1 (.slice l.TA v.ts.length l.tc) v.ts.length (v.ts.flatMap en1)
  o : w.ownsRow base 55 6 (.slice l.OA v.out.length l.oc) v.out.length (v.out.flatMap enEf)
  lo : base ≤ I
  n : v.ms.length ≤ 1000
  tl : v.ts.length = v.ms.length
/-- The blocks of an instance. -/
def IU (I : Nat) (v : Iv) (l : Il) (g : Nat) : Prop := g = I ∨ (Value.slice l.MA v.ms.length l.mc).ownBlock = some g ∨ (Value.slice l.TA v.ts.length l.tc).ownBlock = some g ∨ (Value.slice l.OA v.out.length l.oc).ownBlock = some g
/-- What a call may do to an instance and to X. -/
structure Mv (X : Nat → Prop) (I : Nat) (v : Iv) (l : Il) (v' : Iv) (l' : Il) (w w' : World) : Prop where
  t : Touch (fun g => IU I v l g ∨ X g) w w'
  u : ∀ g, IU I v' l' g → IU I v l g ∨ w.heap.size ≤ g
  s : (l'.MA = l.MA ∧ l'.mc = l.mc) ∧ l'.TA = l.TA ∧ l'.tc = l.tc
section
variable {X : Nat → Prop} {base I : Nat} {vP : Value} {v v1 v2 : Iv} {l l1 l2 : Il} {w w' w1 w2 : World}
theorem Mv.trans (h1 : Mv X I v l v1 l1 w w1) (h2 : Mv X I v1 l1 v2 l2 w1 w2) : Mv X I v l v2 l2 w w2 :=
  ⟨h1.t.trans h2.t (fun k hk => by
    rcases hk with hk | hk
    · rcases h1.u k hk with h | h
      · exact .inl (.inl h)
      · exact .inr h
    · exact .inl (.inr hk)), fun g hg => by
    rcases h2.u g hg with h | h
    · exact h1.u g h
    · exact .inr (Nat.le_trans h1.t.size h), ⟨⟨h2.s.1.1.trans h1.s.1.1, h2.s.1.2.trans h1.s.1.2⟩, h2.s.2.1.trans h1.s.2.1, h2.s.2.2.trans h1.s.2.2⟩⟩
theorem Mv.refl : Mv X I v l v l w w := ⟨Touch.refl _ _, fun g hg => .inl hg, ⟨rfl, rfl⟩, rfl, rfl⟩
theorem Mv.next (h1 : Mv X I v l v1 l1 w w1) (hb : Below w1.heap.size w1 w2) : Mv X I v l v1 l1 w w2 := ⟨h1.t.then (Touch.of_below hb), h1.u, h1.s⟩
theorem IsI.use (h : IsI base I vP v l w) {g : Nat} (hu : IU I v l g) : base ≤ g ∧ g < w.heap.size := by
  rcases hu with rfl | e | e | e
  · exact ⟨h.lo, h.b.lt⟩
  · exact h.m.lt g e
  · exact h.t.lt g e
  · exact h.o.lt g e
theorem IsI.touch {S : Nat → Prop} (h : IsI base I vP v l w) (hT : Touch S w w') (hS : ∀ g, S g → ¬ IU I v l g) : IsI base I vP v l w' :=
  ⟨hT.blk h.b (fun e => hS I e (.inl rfl)), own_touch h.m hT (fun g hg e => hS g e (.inr (.inl hg))), own_touch h.t hT (fun g hg e => hS g e (.inr (.inr (.inl hg)))), own_touch h.o hT (fun g hg e => hS g e (.inr (.inr (.inr hg)))), h.lo, h.n, h.tl⟩
theorem IsI.next (h : IsI base I vP v l w) (hb : Below w.heap.size w w') : IsI base I vP v l w' := h.touch (S := fun _ => False) (Touch.of_below hb) (fun g hg => hg.elim)
/-- The state, or that it was paid, is set. -/
theorem IsI.setSt (h : IsI base I vP v l w) (s : Int) : IsI base I vP { v with st := s } l (w.setCell ⟨I, 1, none⟩ (.int .i64 s)) ∧ Mv X I v l { v with st := s } l w (w.setCell ⟨I, 1, none⟩ (.int .i64 s)) := by
  have hT := Touch.setCell w I 1 (.int .i64 s)
  refine ⟨⟨h.b.set_ 1 _, own_touch h.m hT (fun g hg e => own_notBlk h.m h.b (by decide) (by rw [hg, e])), own_touch h.t hT (fun g hg e => own_notBlk h.t h.b (by decide) (by rw [hg, e])), own_touch h.o hT (fun g hg e => own_notBlk h.o h.b (by decide) (by rw [hg, e])), h.lo, h.n, h.tl⟩, hT.mono (fun k hk => .inl (.inl hk)), fun g hg => .inl hg, ⟨rfl, rfl⟩, rfl, rfl⟩
theorem IsI.setPaid (h : IsI base I vP v l w) (s : Bool) : IsI base I vP { v with paid := s } l (w.setCell ⟨I, 2, none⟩ (.bool s)) ∧ Mv X I v l { v with paid := s } l w (w.setCell ⟨I, 2, none⟩ (.bool s)) := by
  have hT := Touch.setCell w I 2 (.bool s)
  refine ⟨⟨h.b.set_ 2 _, own_touch h.m hT (fun g hg e => own_notBlk h.m h.b (by decide) (by rw [hg, e])), own_touch h.t hT (fun g hg e => own_notBlk h.t h.b (by decide) (by rw [hg, e])), own_touch h.o hT (fun g hg e => own_notBlk h.o h.b (by decide) (by rw [hg, e])), h.lo, h.n, h.tl⟩, hT.mono (fun k hk => .inl (.inl hk)), fun g hg => .inl hg, ⟨rfl, rfl⟩, rfl, rfl⟩
/-- The effects are taken. -/
theorem IsI.setOut (h : IsI base I vP v l w) : IsI base I vP { v with out := [] } { l with OA := none, oc := 0 } (w.setCell ⟨I, 6, none⟩ (.slice none 0 0)) ∧ Mv X I v l { v with out := [] } { l with OA := none, oc := 0 } w (w.setCell ⟨I, 6, none⟩ (.slice none 0 0)) := by
  have hT := Touch.setCell w I 6 (.slice none 0 0)
  refine ⟨⟨h.b.set_ 6 _, own_touch h.m hT (fun g hg e => own_notBlk h.m h.b (by decide) (by rw [hg, e])), own_touch h.t hT (fun g hg e => own_notBlk h.t h.b (by decide) (by rw [hg, e])), World.ownsRow_nil _ _ _ _, h.lo, h.n, h.tl⟩, hT.mono (fun k hk => .inl (.inl hk)), fun g hg => ?_, ⟨rfl, rfl⟩, rfl, rfl⟩
  rcases hg with hg | hg | hg | hg
  · exact .inl (.inl hg)
  · exact .inl (.inr (.inl hg))
  · exact .inl (.inr (.inr (.inl hg)))
  · cases hg
theorem own_ne {base : Nat} {e e' : TypeId} {size size' : Nat} {x y : Value} {n n' : Nat} {xs ys : List Value} (h : w.ownsRow base e size x n xs) (h' : w.ownsRow base e' size' y n' ys) (hne : e ≠ e') {g : Nat} (h1 : x.ownBlock = some g) (h2 : y.ownBlock = some g) : False := by
  rcases h.2 with ⟨e1, _⟩ | ⟨g1, c1, cur1, rfl, _, hg1, _⟩
  · rw [e1] at h1; cases h1
  · rcases h'.2 with ⟨e2, _⟩ | ⟨g2, c2, cur2, rfl, _, hg2, _⟩
    · rw [e2] at h2; cases h2
    · have e1 : g1 = g := by simpa [Value.ownBlock] using h1
      have e2 : g2 = g := by simpa [Value.ownBlock] using h2
      subst e1 e2
      rw [hg1] at hg2
      simp only [Option.some.injEq, Obj.cells.injEq] at hg2
      exact hne hg2.2.1
theorem IsI.setMark (h : IsI base I vP v l w) {k g : Nat} (hg : l.MA = some ⟨g, 0, none⟩) (hk : k < v.ms.length) (s : Int) : IsI base I vP { v with ms := v.ms.set k s } l (w.setCell ⟨g, k, none⟩ (.int .i64 s)) ∧ Mv X I v l { v with ms := v.ms.set k s } l w (w.setCell ⟨g, k, none⟩ (.int .i64 s)) := by
  have hT := Touch.setCell w g k (.int .i64 s)
  have hbk : (Value.slice l.MA v.ms.length l.mc).ownBlock = some g := by rw [hg]; rfl
  have hm := h.m
  rw [hg] at hm
  obtain ⟨h3, _⟩ := hm.stored k (.int .i64 s)
  have e1 := set_flat en1 1 (fun _ => rfl) v.ms k 0 v.ms[k] (.int .i64 s) (List.getElem?_eq_getElem hk) (by omega) s rfl
  rw [Nat.mul_one, Nat.add_zero] at e1
  rw [e1] at h3
  have hB : Blk (w.setCell ⟨g, k, none⟩ (.int .i64 s)) I 96 (inC vP v l) := hT.blk h.b (fun e => own_notBlk h.m h.b (by decide) (by rw [hbk, e]))
  refine ⟨⟨by simpa [inC] using hB, by simpa [hg] using h3, own_touch h.t hT (fun g' hg' e => own_ne h.m h.t (by decide) hbk (by rw [hg', e])), own_touch h.o hT (fun g' hg' e => own_ne h.m h.o (by decide) hbk (by rw [hg', e])), h.lo, by simpa using h.n, by simpa using h.tl⟩, hT.mono (fun k hk => .inl (.inr (.inl (by rw [hk]; exact hbk)))), fun g hg => .inl (by simpa [IU] using hg), ⟨rfl, rfl⟩, rfl, rfl⟩
theorem IsI.setTry (h : IsI base I vP v l w) {k g : Nat} (hg : l.TA = some ⟨g, 0, none⟩) (hk : k < v.ts.length) (s : Int) : IsI base I vP { v with ts := v.ts.set k s } l (w.setCell ⟨g, k, none⟩ (.int .i64 s)) ∧ Mv X I v l { v with ts := v.ts.set k s } l w (w.setCell ⟨g, k, none⟩ (.int .i64 s)) := by
  have hT := Touch.setCell w g k (.int .i64 s)
  have hbk : (Value.slice l.TA v.ts.length l.tc).ownBlock = some g := by rw [hg]; rfl
  have hm := h.t
  rw [hg] at hm
  obtain ⟨h3, _⟩ := hm.stored k (.int .i64 s)
  have e1 := set_flat en1 1 (fun _ => rfl) v.ts k 0 v.ts[k] (.int .i64 s) (List.getElem?_eq_getElem hk) (by omega) s rfl
  rw [Nat.mul_one, Nat.add_zero] at e1
  rw [e1] at h3
  have hB : Blk (w.setCell ⟨g, k, none⟩ (.int .i64 s)) I 96 (inC vP v l) := hT.blk h.b (fun e => own_notBlk h.t h.b (by decide) (by rw [hbk, e]))
  refine ⟨⟨by simpa [inC] using hB, own_touch h.m hT (fun g' hg' e => own_ne h.t h.m (by decide) hbk (by rw [hg', e])), by simpa [hg] using h3, own_touch h.o hT (fun g' hg' e => own_ne h.t h.o (by decide) hbk (by rw [hg', e])), h.lo, h.n, by simpa using h.tl⟩, hT.mono (fun k hk => .inl (.inr (.inr (.inl (by rw [hk]; exact hbk))))), fun g hg => .inl (by simpa [IU] using hg), ⟨rfl, rfl⟩, rfl, rfl⟩
theorem IsI.ma (h : IsI base I vP v l w) {k : Nat} (hk : k < v.ms.length) : ∃ g, l.MA = some ⟨g, 0, none⟩ ∧ g < w.heap.size := by
  obtain ⟨g, c, e, _, h2⟩ := own_form h.m (by omega)
  simp only [Value.slice.injEq] at e
  exact ⟨g, e.1, h2⟩
theorem IsI.ta (h : IsI base I vP v l w) {k : Nat} (hk : k < v.ms.length) : ∃ g, l.TA = some ⟨g, 0, none⟩ ∧ g < w.heap.size := by
  obtain ⟨g, c, e, _, h2⟩ := own_form h.t (by have := h.tl; omega)
  simp only [Value.slice.injEq] at e
  exact ⟨g, e.1, h2⟩
theorem IsI.mark (h : IsI base I vP v l w) {k g : Nat} (hg : l.MA = some ⟨g, 0, none⟩) {s : Int} (hs : v.ms[k]? = some s) : w.cell? ⟨g, k, none⟩ = some (.int .i64 s) := by
  have hm := h.m
  rw [hg] at hm
  have := own_cells (enc := en1) (fun _ => rfl) hm hs (j := 0) (u := .int .i64 s) rfl
  simpa using this
theorem IsI.try_ (h : IsI base I vP v l w) {k g : Nat} (hg : l.TA = some ⟨g, 0, none⟩) {s : Int} (hs : v.ts[k]? = some s) : w.cell? ⟨g, k, none⟩ = some (.int .i64 s) := by
  have hm := h.t
  rw [hg] at hm
  have := own_cells (enc := en1) (fun _ => rfl) hm hs (j := 0) (u := .int .i64 s) rfl
  simpa using this
end

end Go.Proofs.YtoemmakhbiiknaaGreat

namespace Go.Proofs.YtoemmakhbiiknaaGreat
open Go.RowKit Go.WideShapes Go.ChangeShapes Go.ChangeAt Go.Deep
set_option linter.unusedVariables false

section
variable {X : Nat → Prop} {base I : Nat} {vP : Value} {v : Iv} {l : Il} {w w' : World}
set_option maxRecDepth 100000 in
set_option maxHeartbeats 8000000 in
theorem all1_any (h : IsI base I vP v l w) (bi bm : Nat) (hbi : w.cell? ⟨bi, 0, none⟩ = some (.pointer (some ⟨I, 0, none⟩))) (lbi : bi < w.heap.size) (XA : Option Addr) (q : List Int) (xc : Nat) (hbm : w.cell? ⟨bm, 0, none⟩ = some (.slice XA q.length xc)) (lbm : bm < w.heap.size) (hX : Rd w XA (q.flatMap en1)) (hq : q.length ≤ 1000) (k : Nat) (m : Int) (hm : v.ms[k]? = some m) :
    Calls Tryz.prog 101 #[.int .i64 k, .pointer (some ⟨bm, 0, none⟩), .pointer (some ⟨bi, 0, none⟩)] w fun e w' => e = .returned (.bool (!(q.any fun y => m == y))) ∧ Below w.heap.size w w' := by
  have hk : k < v.ms.length := (List.getElem?_eq_some_iff.1 hm).1
  obtain ⟨g, hg, lg⟩ := h.ma hk
  have HI := hid h
  have HX := hid hX
  have HM := hid hm
  have HG := hid hg
  obtain ⟨C, hCd⟩ : ∃ C : World → Prop, ∀ w', C w' ↔ Below w.heap.size w w' := ⟨_, fun _ => Iff.rfl⟩
  have hC : C w.drew := (hCd _).2 (Below.refl _ _).drew
  have c0 : ∀ p : In C, p.w.cell? ⟨bi, 0, none⟩ = some (.pointer (some ⟨I, 0, none⟩)) := fun p => by rw [((hCd _).1 p.h).cell lbi]; exact hbi
  have c1 : ∀ p : In C, p.w.cell? ⟨bm, 0, none⟩ = some (.slice XA q.length xc) := fun p => by rw [((hCd _).1 p.h).cell lbm]; exact hbm
  have l0 : ∀ p : In C, bi < p.w.heap.size := fun p => Nat.lt_of_lt_of_le lbi ((hCd _).1 p.h).size
  have l1 : ∀ p : In C, bm < p.w.heap.size := fun p => Nat.lt_of_lt_of_le lbm ((hCd _).1 p.h).size
  have c2 : ∀ p : In C, p.w.cell? ⟨I, 3, none⟩ = some (.slice (some ⟨g, 0, none⟩) v.ms.length l.mc) := fun p => by
    have := (HI.out.next ((hCd _).1 p.h)).b.cell 3
    rw [this]
    simp [inC, HG.out]
  have l2 : ∀ p : In C, I < p.w.heap.size := fun p => (HI.out.next ((hCd _).1 p.h)).b.lt
  have c3 : ∀ p : In C, p.w.cell? ⟨g, k, none⟩ = some (.int .i64 m) := fun p => (HI.out.next ((hCd _).1 p.h)).mark HG.out HM.out
  have O : Hid (∀ p : In C, Calls Tryz.prog 102 #[.slice XA q.length xc, .int .i64 m] p.w fun e w' => e = .returned (.bool (q.any fun y => m == y)) ∧ C w') := hid (fun p =>
    (hasMk q XA xc m p.w (HX.out.below ((hCd _).1 p.h)) (by omega)).mono fun _ _ ⟨e1, e2⟩ => ⟨e1, (hCd _).2 (bthen ((hCd _).1 p.h) e2)⟩)
  generalize (q.any fun y => m == y) = bq at O ⊢
  have HCd := hid hCd
  have hn := h.n
  clear hCd h hbi hbm hX hm hg
  go_enter Tryz.func101, Tryz.ntmps101
  go_upto_region 1 with fail
  refine wp_region_in C (by kernel_rfl) (by kernel_rfl) hC ?_
  intro hne
  clear hC
  repeat (first | go_big_quiet_step ((go_at_call 102; exact Calls.in_of (O.out _))) | quiet_step ((go_at_call 102; exact Calls.in_of (O.out _))))
  refine wpQuiet_nil ?_
  intro wq hq'
  have HB := hid ((HCd.out _).1 hq')
  clear c0 c1 l0 l1 c2 l2 c3 O hne hq' HCd
  go_wp2_with fail
  go_ret
  exact ⟨rfl, HB.out⟩
/-- The mark of a step. -/
def mkA (ms : List Int) (s : Int) : Int := ms.getD s.toNat 0
set_option maxRecDepth 100000 in
set_option maxHeartbeats 8000000 in
theorem all_any (h : IsI base I vP v l w) (SA : Option Addr) (ss : List Int) (sc : Nat) (hS : Rd w SA (ss.flatMap en1)) (hs : ∀ s ∈ ss, 0 ≤ s ∧ s < v.ms.length) (hl : ss.length ≤ 1000) (XA : Option Addr) (q : List Int) (xc : Nat) (hX : Rd w XA (q.flatMap en1)) (hq : q.length ≤ 1000) :
    Calls Tryz.prog 71 #[.pointer (some ⟨I, 0, none⟩), .slice SA ss.length sc, .slice XA q.length xc] w fun e w' => e = .returned (.bool (!(ss.any fun s => !(q.any fun y => mkA v.ms s == y)))) ∧ Below w.heap.size w w' := by
  have hb1 : Below w.heap.size w ((w.alloc (.cells #[.pointer (some ⟨I, 0, none⟩)] 91)).alloc (.cells #[.slice XA q.length xc] 37)) := ((Below.refl _ _).alloc (Nat.le_refl _) _).alloc (by simp) _
  have hB0 := (Blk.new w 91 #[.pointer (some ⟨I, 0, none⟩)]).next (w' := (w.alloc (.cells #[.pointer (some ⟨I, 0, none⟩)] 91)).alloc (.cells #[.slice XA q.length xc] 37)) ((Below.refl _ _).alloc (Nat.le_refl _) _)
  have hB1 := Blk.new (w.alloc (.cells #[.pointer (some ⟨I, 0, none⟩)] 91)) 37 #[.slice XA q.length xc]
  obtain ⟨W, e1⟩ : ∃ W, W = (w.alloc (.cells #[.pointer (some ⟨I, 0, none⟩)] 91)).alloc (.cells #[.slice XA q.length xc] 37) := ⟨_, rfl⟩
  obtain ⟨G0, g0⟩ : ∃ G, G = w.heap.size := ⟨_, rfl⟩
  obtain ⟨G1, g1⟩ : ∃ G, G = w.heap.size + 1 := ⟨_, rfl⟩
  have hsz : (w.alloc (.cells #[.pointer (some ⟨I, 0, none⟩)] 91)).heap.size = w.heap.size + 1 := by simp
  rw [hsz] at hB1
  rw [← e1] at hb1 hB0 hB1
  rw [← g0] at hB0
  rw [← g1] at hB1
  have HBW := hid hb1
  have K := hid (hasI2 ss SA sc 101 (.pointer (some ⟨G1, 0, none⟩)) (.pointer (some ⟨G0, 0, none⟩)) (fun s => !(q.any fun y => mkA v.ms s == y)) W (hS.below hb1) (by omega) (fun _ _ => by go_simp) (fun s hs' w2 hb2 => by
    obtain ⟨a1, a2⟩ := hs s hs'
    obtain ⟨k, rfl⟩ : ∃ k : Nat, s = (k : Int) := ⟨s.toNat, by omega⟩
    have hk : k < v.ms.length := by omega
    have e9 : mkA v.ms (k : Int) = v.ms[k] := by simp [mkA, hk]
    refine (all1_any (h.next (bthen hb1 hb2)) G0 G1 ((hB0.next hb2).cell 0) (hB0.next hb2).lt XA q xc ((hB1.next hb2).cell 0) (hB1.next hb2).lt (hX.below (bthen hb1 hb2)) hq k _ (List.getElem?_eq_getElem hk)).mono ?_
    rintro e w3 ⟨r, hb3⟩
    exact ⟨by rw [r]; simp only [e9], hb3⟩))
  generalize (ss.any fun s => !(q.any fun y => mkA v.ms s == y)) = bq at K ⊢
  have HE := hid (And.intro e1 (And.intro g0 g1))
  have HE2 := hid (show G1 = G0 + 1 from by rw [g1, g0])
  clear e1 g0 g1 hsz hb1 hB0 hB1 h hS hs hX
  go_enter Tryz.func71, Tryz.ntmps71
  go_upto_region 1 with fail
  rw [← HE.out.1, ← HE.out.2.1, ← HE2.out]
  go_wp2_with (first | (go_at_call 53; refine K.out.mono ?_; rintro e w5 ⟨rfl, hb5⟩))
  go_ret
  exact ⟨rfl, bthen HBW.out hb5⟩
/-- 'some', closure: has the step one of these marks? -/
theorem some1_any (bm : Nat) (XA : Option Addr) (q : List Int) (xc : Nat) (hbm : w.cell? ⟨bm, 0, none⟩ = some (.slice XA q.length xc)) (lbm : bm < w.heap.size) (hX : Rd w XA (q.flatMap en1)) (hq : q.length ≤ 1000) (m : Int) :
    Calls Tryz.prog 103 #[.int .i64 m, .pointer (some ⟨bm, 0, none⟩)] w fun e w' => e = .returned (.bool (q.any fun y => m == y)) ∧ Below w.heap.size w w' := by
  have K := hid (hasMk q XA xc m w hX (by omega))
  generalize (q.any fun y => m == y) = bq at K ⊢
  clear hX
  go_enter Tryz.func103, Tryz.ntmps103
  go_wp2_with (first | (go_at_call 102; refine K.out.mono ?_; rintro e w5 ⟨rfl, hb5⟩))
  go_ret
  exact ⟨rfl, hb5⟩
set_option maxRecDepth 100000 in
set_option maxHeartbeats 8000000 in
theorem some_any (h : IsI base I vP v l w) (XA : Option Addr) (q : List Int) (xc : Nat) (hX : Rd w XA (q.flatMap en1)) (hq : q.length ≤ 1000) :
    Calls Tryz.prog 72 #[.pointer (some ⟨I, 0, none⟩), .slice XA q.length xc] w fun e w' => e = .returned (.bool (v.ms.any fun m => q.any fun y => m == y)) ∧ Below w.heap.size w w' := by
  have hb1 : Below w.heap.size w (w.alloc (.cells #[.slice XA q.length xc] 37)) := (Below.refl _ _).alloc (Nat.le_refl _) _
  have hB1 := Blk.new w 37 #[.slice XA q.length xc]
  obtain ⟨W, e1⟩ : ∃ W, W = w.alloc (.cells #[.slice XA q.length xc] 37) := ⟨_, rfl⟩
  obtain ⟨G1, g1⟩ : ∃ G, G = w.heap.size := ⟨_, rfl⟩
  rw [← e1] at hb1 hB1
  rw [← g1] at hB1
  have HBW := hid hb1
  have h1 := h.next hb1
  have K := hid (hasM1 v.ms l.MA l.mc 103 (.pointer (some ⟨G1, 0, none⟩)) (fun m => q.any fun y => m == y) W (own_rd h1.m) (by have := h.n; omega) (fun _ _ => by go_simp) (fun s hs' w2 hb2 =>
    some1_any G1 XA q xc ((hB1.next hb2).cell 0) (hB1.next hb2).lt (hX.below (bthen hb1 hb2)) hq s))
  generalize (v.ms.any fun m => q.any fun y => m == y) = bq at K ⊢
  have HE := hid (And.intro e1 g1)
  have i3 : W.cell? ⟨I, 3, none⟩ = some (.slice l.MA v.ms.length l.mc) := h1.b.cell 3
  have lI := h1.b.lt
  clear e1 g1 hb1 hB1 h h1 hX
  go_enter Tryz.func72, Tryz.ntmps72
  go_upto_region 1 with fail
  rw [← HE.out.1, ← HE.out.2]
  go_wp2_with (first | (go_at_call 52; refine K.out.mono ?_; rintro e w5 ⟨rfl, hb5⟩))
  go_ret
  exact ⟨rfl, bthen HBW.out hb5⟩
set_option maxRecDepth 100000 in
set_option maxHeartbeats 8000000 in
/-- The effects are answered, and taken. -/
theorem effects_any (h : IsI base I vP v l w) :
    Calls Tryz.prog 35 #[.pointer (some ⟨I, 0, none⟩)] w fun e w' => e = .returned (.slice l.OA v.out.length l.oc) ∧ IsI base I vP { v with out := [] } { l with OA := none, oc := 0 } w' ∧ Mv X I v l { v with out := [] } { l with OA := none, oc := 0 } w w' ∧ w'.ownsRow base 55 6 (.slice l.OA v.out.length l.oc) v.out.length (v.out.flatMap enEf) := by
  have HF := hid (h.setOut (X := X))
  have HO := hid (own_touch h.o (Touch.setCell w I 6 (.slice none 0 0)) (fun g hg e => own_notBlk h.o h.b (by decide) (by rw [hg, e])))
  have i6 : w.cell? ⟨I, 6, none⟩ = some (.slice l.OA v.out.length l.oc) := h.b.cell 6
  have f6 := h.b.free 6
  have lI := h.b.lt
  clear h
  go_enter Tryz.func35, Tryz.ntmps35
  go_wp2_with fail
  go_ret
  exact ⟨rfl, HF.out.1, HF.out.2, HO.out⟩
theorem info_eff : (Tryz.prog.info? 55).map (fun i => (i.zero, i.size, i.bytes)) = some (some (.agg #[.int .i64 0, .int .i64 0, .int .i64 0, .int .i64 0, .int .i64 0, .bool false]), 6, 48) := by kernel_rfl
set_option maxRecDepth 100000 in
set_option maxHeartbeats 8000000 in
theorem tell_any (h : IsI base I vP v l w) (ho : v.out.length ≤ 1000000) (kd st tr ti : Int) (u : Bool) :
    Calls Tryz.prog 33 #[.pointer (some ⟨I, 0, none⟩), .int .i64 kd, .int .i64 st, .int .i64 tr, .int .i64 ti, .bool u] w fun e w' => e = .returned (.tuple #[]) ∧ ∃ OA' oc', IsI base I vP { v with out := v.out ++ [⟨kd, v.ord, st, tr, ti, u⟩] } { l with OA := OA', oc := oc' } w' ∧ Mv X I v l { v with out := v.out ++ [⟨kd, v.ord, st, tr, ti, u⟩] } { l with OA := OA', oc := oc' } w w' := by
  obtain ⟨i0, hi, hz0, hz1, hz2⟩ := info_parts info_eff
  have HI := hid h
  have i0' : w.cell? ⟨I, 0, none⟩ = some (.int .i64 v.ord) := h.b.cell 0
  have i6 : w.cell? ⟨I, 6, none⟩ = some (.slice l.OA v.out.length l.oc) := h.b.cell 6
  have f6 := h.b.free 6
  have lI := h.b.lt
  have hbs : base ≤ w.heap.size := by have := h.lo; omega
  obtain ⟨B, hB⟩ : ∃ B : Obj, B = .cells #[.int .i64 kd, .int .i64 v.ord, .int .i64 st, .int .i64 tr, .int .i64 ti, .bool u] 55 := ⟨_, rfl⟩
  have hbw : Below w.heap.size w (w.drew.alloc B) := (Below.refl _ _).drew.alloc (Nat.le_refl _) _
  have hn := h.next hbw
  have hO := hid hn.o
  have hIb := hid hn.b
  have HW := hid (show some I ≠ (Value.slice l.OA v.out.length l.oc).ownBlock from fun e => own_notBlk h.o h.b (by decide) e.symm)
  have HFIN : ∀ (g cap : Nat) (w7 : World), w7.ownsRow base 55 6 (.slice (some ⟨g, 0, none⟩) (v.out.length + 1) cap) (v.out.length + 1) (v.out.flatMap enEf ++ [.int .i64 kd, .int .i64 v.ord, .int .i64 st, .int .i64 tr, .int .i64 ti, .bool u]) → (w.drew.alloc B).grownBy w7 (Value.slice l.OA v.out.length l.oc).ownBlock → ((Value.slice l.OA v.out.length l.oc).ownBlock = some g ∨ g = (w.drew.alloc B).heap.size) →
      ∃ OA' oc', IsI base I vP { v with out := v.out ++ [⟨kd, v.ord, st, tr, ti, u⟩] } { l with OA := OA', oc := oc' } (w7.setCell ⟨I, 6, none⟩ (.slice (some ⟨g, 0, none⟩) (v.out.length + 1) cap)) ∧ Mv X I v l { v with out := v.out ++ [⟨kd, v.ord, st, tr, ti, u⟩] } { l with OA := OA', oc := oc' } w (w7.setCell ⟨I, 6, none⟩ (.slice (some ⟨g, 0, none⟩) (v.out.length + 1) cap)) := by
    intro g cap w7 hO7 hg7 hat
    have hT7 : Touch (fun b => (Value.slice l.OA v.out.length l.oc).ownBlock = some b) (w.drew.alloc B) w7 := ⟨hg7.os, hg7.tape, hg7.output, hg7.size, fun k hk hn => hg7.block k hk (fun e => hn e.symm)⟩
    have hb7 := hT7.blk hn.b (fun e => HW.out e.symm)
    have hm7 := own_touch hn.m hT7 (fun q hq e => own_ne hn.m hn.o (by decide) hq e)
    have ht7 := own_touch hn.t hT7 (fun q hq e => own_ne hn.t hn.o (by decide) hq e)
    have hS := Touch.setCell w7 I 6 (.slice (some ⟨g, 0, none⟩) (v.out.length + 1) cap)
    have hb8 := hb7.set_ 6 (.slice (some ⟨g, 0, none⟩) (v.out.length + 1) cap)
    have hm8 := own_touch hm7 hS (fun q hq e => own_notBlk hm7 hb7 (by decide) (by rw [hq, e]))
    have ht8 := own_touch ht7 hS (fun q hq e => own_notBlk ht7 hb7 (by decide) (by rw [hq, e]))
    have ho8 := own_touch hO7 hS (fun q hq e => own_notBlk hO7 hb7 (by decide) (by rw [hq, e]))
    refine ⟨some ⟨g, 0, none⟩, cap, ⟨?_, hm8, ht8, ?_, hn.lo, hn.n, hn.tl⟩, ?_, ?_, ⟨rfl, rfl⟩, rfl, rfl⟩
    · simpa [inC] using hb8
    · simpa [enEf] using ho8
    · exact ((Touch.of_below hbw).then (hT7.mono (fun k hk => .inl (.inr (.inr (.inr hk)))))).then (hS.mono (fun k hk => .inl (.inl hk)))
    · intro q hq
      rcases hq with hq | hq | hq | hq
      · exact .inl (.inl hq)
      · exact .inl (.inr (.inl hq))
      · exact .inl (.inr (.inr (.inl hq)))
      · have e2 : g = q := by simpa [Value.ownBlock] using hq
        subst e2
        rcases hat with hat | hat
        · exact .inl (.inr (.inr (.inr hat)))
        · right
          rw [hat]
          exact hbw.size
  have HF := hid HFIN
  have HWS := hid (show (w.drew.alloc B).heap.size = w.heap.size + 1 from by simp)
  clear h hn HFIN hbw
  subst hB
  go_enter Tryz.func33, Tryz.ntmps33
  go_region_law ((refine step_append_lies _ (by rfl) _ _ _ (by rfl) base 55 i0 _ 6 48 Tryz.underlying46 hi hz0 hz1 hz2 rfl (by decide) _ _ _ (by rfl) hO.out ⟨w.heap.size, 0, none⟩ 1 1 [.int .i64 kd, .int .i64 v.ord, .int .i64 st, .int .i64 tr, .int .i64 ti, .bool u] (by rfl) (by rfl) (World.news_of_block (heap_alloc_new _ _)) (enEf_one ⟨kd, v.ord, st, tr, ti, u⟩) (by omega) (by unfold maxLen; omega) (by omega) (by simp; omega) _ rfl ?_; intro g7 cap7 w7 hO7 hg7 hat7 hlt7; have hB7 := hIb.out.grown hg7 HW.out; have c7 : w7.cell? ⟨I, 6, none⟩ = some (.slice l.OA v.out.length l.oc) := hB7.cell 6; have f7 := hB7.free 6))
  all_goals
    have HZ := hid (HF.out _ _ _ hO7 hg7 hat7)
    clear hO7 hg7 hat7 HF hO hIb hlt7 hB7 c7 f7 i6 i0' f6
    go_wp2_with fail
    go_end0
    exact ⟨rfl, HZ.out⟩
end

end Go.Proofs.YtoemmakhbiiknaaGreat

namespace Go.Proofs.YtoemmakhbiiknaaGreat
open Go.RowKit Go.WideShapes Go.ChangeShapes Go.ChangeAt Go.Deep
set_option linter.unusedVariables false

/-- Where a plan's parts lie. -/
structure Pw where
  vS : Value
  vB : Value
  vH : Value
  Hs : List IRow
  dn : Bool
def PlV (P : Nat) (Ls : List Stp) (Bs : List IRow) (y : Pw) (g : Nat) : Prop := PlU P y.vS y.vB y.vH Ls Bs y.Hs y.dn g
/-- A plan. -/
structure PlY (base : Nat) (nm : ByteArray) (P : Nat) (Ls : List Stp) (Bs : List IRow) (ask : Int) (y : Pw) (w : World) : Prop where
  p : PlW base nm P y.vS y.vB y.vH Ls Bs y.Hs y.dn ask w
  ok : y.dn = true → HsOk Bs y.Hs Ls.length
  nil : y.dn = false → y.vH = .slice none 0 0
  rows : RowsOk Ls Bs
  aft : ∀ s ∈ Ls, s.after.length * 16 ≤ 140737488355328
/-- An instance with its plan. -/
structure InP (base base2 I P : Nat) (nm : ByteArray) (Ls : List Stp) (Bs : List IRow) (ask : Int) (y : Pw) (v : Iv) (l : Il) (w : World) : Prop where
  i : IsI base I (.pointer (some ⟨P, 0, none⟩)) v l w
  p : PlY base2 nm P Ls Bs ask y w
  dj : ∀ g, PlV P Ls Bs y g → ¬ IU I v l g
  mn : v.ms.length = Ls.length
/-- What a call may do to both. -/
structure Mw (I P : Nat) (Ls : List Stp) (Bs : List IRow) (y : Pw) (v : Iv) (l : Il) (y' : Pw) (v' : Iv) (l' : Il) (w w' : World) : Prop where
  m : Mv (· = P) I v l v' l' w w'
  p : ∀ g, PlV P Ls Bs y' g → PlV P Ls Bs y g ∨ w.heap.size ≤ g
section
variable {base base2 I P : Nat} {nm : ByteArray} {Ls : List Stp} {Bs : List IRow} {ask : Int} {y y1 y2 : Pw} {v v1 v2 : Iv} {l l1 l2 : Il} {w w' w1 w2 : World} {X : Nat → Prop}
theorem Mw.refl : Mw I P Ls Bs y v l y v l w w := ⟨Mv.refl, fun g hg => .inl hg⟩
theorem Mw.trans (h1 : Mw I P Ls Bs y v l y1 v1 l1 w w1) (h2 : Mw I P Ls Bs y1 v1 l1 y2 v2 l2 w1 w2) : Mw I P Ls Bs y v l y2 v2 l2 w w2 := ⟨h1.m.trans h2.m, fun g hg => by
  rcases h2.p g hg with h | h
  · exact h1.p g h
  · exact .inr (Nat.le_trans h1.m.t.size h)⟩
theorem Mw.next (h1 : Mw I P Ls Bs y v l y1 v1 l1 w w1) (hb : Below w1.heap.size w1 w2) : Mw I P Ls Bs y v l y1 v1 l1 w w2 := ⟨h1.m.next hb, h1.p⟩
theorem Mv.mono (h : Mv (fun _ => False) I v l v1 l1 w w1) : Mv X I v l v1 l1 w w1 := ⟨h.t.mono (fun k hk => hk.elim .inl (fun h => h.elim)), h.u, h.s⟩
theorem Mw.of (h : Mv (fun _ => False) I v l v1 l1 w w1) : Mw I P Ls Bs y v l y v1 l1 w w1 := ⟨h.mono, fun g hg => .inl hg⟩
theorem PlY.next (h : PlY base nm P Ls Bs ask y w) (hb : Below w.heap.size w w') : PlY base nm P Ls Bs ask y w' := ⟨h.p.next hb, h.ok, h.nil, h.rows, h.aft⟩
theorem InP.next (h : InP base base2 I P nm Ls Bs ask y v l w) (hb : Below w.heap.size w w') : InP base base2 I P nm Ls Bs ask y v l w' := ⟨h.i.next hb, h.p.next hb, h.dj, h.mn⟩
theorem InP.upd (h : InP base base2 I P nm Ls Bs ask y v l w) (hi : IsI base I (.pointer (some ⟨P, 0, none⟩)) v1 l1 w') (hm : Mv (fun _ => False) I v l v1 l1 w w') (hn : v1.ms.length = v.ms.length) : InP base base2 I P nm Ls Bs ask y v1 l1 w' :=
  ⟨hi, ⟨h.p.p.touchS hm.t (fun g hg hu => hg.elim (h.dj g hu) (fun hf => hf)), h.p.ok, h.p.nil, h.p.rows, h.p.aft⟩, fun g hg hu => by
    rcases hm.u g hu with h1 | h1
    · exact h.dj g hg h1
    · have := (h.p.p.use hg).2; omega, by rw [hn]; exact h.mn⟩
theorem _root_.Go.RowKit.Below.mv {I : Nat} {v : Iv} {l : Il} {w w' : World} (hb : Below w.heap.size w w') : Mv (fun _ => False) I v l v l w w' := ⟨Touch.of_below hb, fun g hg => .inl hg, ⟨rfl, rfl⟩, rfl, rfl⟩
/-- What 'begin' makes of an instance. -/
def bgV (v : Iv) (s : Nat) (t : Stp) : Iv :=
  if t.event.toList.isEmpty = true then { v with ms := v.ms.set s 1, ts := v.ts.set s 1, out := v.out ++ [⟨1, v.ord, s, 1, 0, false⟩] }
  else if v.paid = true then { v with ms := v.ms.set s 3 }
  else { v with ms := v.ms.set s 2, out := v.out ++ [⟨2, v.ord, s, 0, t.wi, false⟩] }
set_option maxRecDepth 100000 in
set_option maxHeartbeats 8000000 in
theorem begin_any (h : InP base base2 I P nm Ls Bs ask y v l w) (ho : v.out.length ≤ 1000000) (s : Nat) (t : Stp) (ht : Ls[s]? = some t) :
    Calls Tryz.prog 74 #[.pointer (some ⟨I, 0, none⟩), .int .i64 s] w fun e w' => e = .returned (.tuple #[]) ∧ ∃ l', InP base base2 I P nm Ls Bs ask y (bgV v s t) l' w' ∧ Mw I P Ls Bs y v l y (bgV v s t) l' w w' := by
  have hs : s < v.ms.length := by rw [h.mn]; exact (List.getElem?_eq_some_iff.1 ht).1
  have K := hid (step_in h.p.p s t ht (h.p.aft t (List.mem_of_getElem? ht)))
  have HI := hid h
  have HHS := hid hs
  have i5 : w.cell? ⟨I, 5, none⟩ = some (.pointer (some ⟨P, 0, none⟩)) := h.i.b.cell 5
  have lI := h.i.b.lt
  clear h ht hs
  go_enter Tryz.func74, Tryz.ntmps74
  go_wp2_with fail
  refine K.out.mono ?_
  rintro e w1 ⟨A, cap, rfl, _, hb1⟩
  have HI1 := hid (HI.out.next hb1)
  clear K i5
  obtain ⟨xn, xv, xu, xe, xf, xr, xy, xw, xA, xc, xl⟩ := t
  rw [show (enSt (twn ⟨xn, xv, xu, xe, xf, xr, xy, xw, xA, xc, xl⟩ A cap)).toArray = #[.string xn, .string xv, .string xu, .string xe, .bool xf, .int .i64 xr, .int .i64 xy, .int .i64 xw, .slice A xl.length cap] from rfl]
  go_upto_region 3 with fail
  have hB := Blk.new w1 69 #[.string xn, .string xv, .string xu, .string xe, .bool xf, .int .i64 xr, .int .i64 xy, .int .i64 xw, .slice A xl.length cap]
  have hbW : Below w1.heap.size w1 (w1.alloc (.cells #[.string xn, .string xv, .string xu, .string xe, .bool xf, .int .i64 xr, .int .i64 xy, .int .i64 xw, .slice A xl.length cap] 69)) := (Below.refl _ _).alloc (Nat.le_refl _) _
  generalize w1.alloc (.cells #[.string xn, .string xv, .string xu, .string xe, .bool xf, .int .i64 xr, .int .i64 xy, .int .i64 xw, .slice A xl.length cap] 69) = W at hB hbW ⊢
  have HIW := hid (HI1.out.next hbW)
  have HBW := hid (bthen hb1 hbW)
  clear hbW
  have hGlt := hid (show ∀ g, IU I v l g → g < w1.heap.size from fun g hg => (HI1.out.i.use hg).2)
  generalize w1.heap.size = G at hB hGlt ⊢
  obtain ⟨gm, hgm, lgm⟩ := HIW.out.i.ma HHS.out
  obtain ⟨gt, hgt, lgt⟩ := HIW.out.i.ta HHS.out
  have HGM := hid hgm
  have HGT := hid hgt
  have b3 : W.cell? ⟨G, 3, none⟩ = some (.string xe) := hB.cell 3
  have b7 : W.cell? ⟨G, 7, none⟩ = some (.int .i64 xw) := hB.cell 7
  have lG := hB.lt
  have i3 : W.cell? ⟨I, 3, none⟩ = some (.slice (some ⟨gm, 0, none⟩) v.ms.length l.mc) := by rw [HIW.out.i.b.cell 3, ← hgm]; rfl
  have i4 : W.cell? ⟨I, 4, none⟩ = some (.slice (some ⟨gt, 0, none⟩) v.ts.length l.tc) := by rw [HIW.out.i.b.cell 4, ← hgt]; rfl
  have i2 : W.cell? ⟨I, 2, none⟩ = some (.bool v.paid) := HIW.out.i.b.cell 2
  have lIW := HIW.out.i.b.lt
  have hsz := HHS.out
  have htl : v.ts.length = v.ms.length := HIW.out.i.tl
  have cm : W.cell? ⟨gm, s, none⟩ = some (.int .i64 v.ms[s]) := HIW.out.i.mark hgm (List.getElem?_eq_getElem hsz)
  have hst : s < v.ts.length := by omega
  have ct : W.cell? ⟨gt, s, none⟩ = some (.int .i64 v.ts[s]) := HIW.out.i.try_ hgt (List.getElem?_eq_getElem hst)
  have fm : W.frozen? ⟨gm, s, none⟩ = false := own_free (by have := HIW.out.i.m; rw [hgm] at this; exact this) s
  have ft : W.frozen? ⟨gt, s, none⟩ = false := own_free (by have := HIW.out.i.t; rw [hgt] at this; exact this) s
  have hne : gm ≠ gt := fun e => own_ne HIW.out.i.m HIW.out.i.t (by decide) (g := gm) (by rw [hgm]; rfl) (by rw [hgt, e]; rfl)
  have hgG : gm ≠ G := fun e => by have := hGlt.out gm (.inr (.inl (by rw [hgm]; rfl))); omega
  clear hgm hgt hB hb1 HI HI1 hGlt
  cases he : xe.toList.isEmpty with
  | true =>
    have HV := hid (show bgV v s ⟨xn, xv, xu, xe, xf, xr, xy, xw, xA, xc, xl⟩ = { v with ms := v.ms.set s 1, ts := v.ts.set s 1, out := v.out ++ [⟨1, v.ord, s, 1, 0, false⟩] } from if_pos he)
    obtain ⟨m1, m2⟩ := HIW.out.i.setMark (X := fun _ => False) HGM.out HHS.out 1
    have U1 := HIW.out.upd m1 m2 (by simp)
    obtain ⟨t1, t2⟩ := U1.i.setTry (X := fun _ => False) HGT.out hst 1
    have U2 := (U1.upd t1 t2 rfl).next (belowN _ 1)
    have M2 := (m2.trans t2).next (belowN _ 1)
    have HT := hid (tell_any (X := fun _ => False) U2.i ho 1 s 1 0 false)
    have HU2 := hid (And.intro U2 M2)
    clear m1 m2 U1 t1 t2 U2 M2
    go_upto_region 4 with fail
    go_region
    all_goals
      clear b3 b7 i3 i4 i2 cm ct fm ft
      go_wp2_with fail
      refine HT.out.mono ?_
      rintro e w5 ⟨rfl, OA', oc', T1, T2⟩
      have HU3 := hid (And.intro (HU2.out.1.upd T1 T2 rfl) (HU2.out.2.trans T2))
      clear T1 T2 HT HU2
      go_wp2_with fail
      go_end0
      rw [HV.out]
      exact ⟨rfl, _, HU3.out.1, (Mw.of (HBW.out.mv)).trans (Mw.of HU3.out.2)⟩
  | false =>
    cases hp : v.paid with
    | true =>
      have HV := hid (show bgV v s ⟨xn, xv, xu, xe, xf, xr, xy, xw, xA, xc, xl⟩ = { v with ms := v.ms.set s 3 } from by unfold bgV; rw [if_neg (by rw [he]; decide), if_pos hp])
      obtain ⟨m1, m2⟩ := HIW.out.i.setMark (X := fun _ => False) HGM.out HHS.out 3
      have HU := hid (And.intro (HIW.out.upd m1 m2 (by simp)) m2)
      clear m1 m2
      go_wp2_with fail
      go_end0
      rw [HV.out]
      exact ⟨rfl, l, HU.out.1, (Mw.of (HBW.out.mv)).trans (Mw.of HU.out.2)⟩
    | false =>
      have HV := hid (show bgV v s ⟨xn, xv, xu, xe, xf, xr, xy, xw, xA, xc, xl⟩ = { v with ms := v.ms.set s 2, out := v.out ++ [⟨2, v.ord, s, 0, xw, false⟩] } from by unfold bgV; rw [if_neg (by rw [he]; decide), if_neg (by rw [hp]; decide)])
      obtain ⟨m1, m2⟩ := HIW.out.i.setMark (X := fun _ => False) HGM.out HHS.out 2
      have U1 := HIW.out.upd m1 m2 (by simp)
      have HT := hid (tell_any (X := fun _ => False) U1.i ho 2 s 0 xw false)
      have HU := hid (And.intro U1 m2)
      clear m1 m2 U1
      go_wp2_with fail
      refine HT.out.mono ?_
      rintro e w5 ⟨rfl, OA', oc', T1, T2⟩
      have HU2 := hid (And.intro (HU.out.1.upd T1 T2 rfl) (HU.out.2.trans T2))
      clear T1 T2 HT HU
      go_wp2_with fail
      go_end0
      rw [HV.out]
      exact ⟨rfl, _, HU2.out.1, (Mw.of (HBW.out.mv)).trans (Mw.of HU2.out.2)⟩
end

end Go.Proofs.YtoemmakhbiiknaaGreat

namespace Go.Proofs.YtoemmakhbiiknaaGreat
open Go.RowKit Go.WideShapes Go.ChangeShapes Go.ChangeAt Go.Deep
set_option linter.unusedVariables false

section
variable {base base2 I P : Nat} {nm : ByteArray} {Ls : List Stp} {Bs : List IRow} {ask : Int} {y y1 y2 : Pw} {v v1 v2 : Iv} {l l1 l2 : Il} {w w' w1 w2 : World} {X : Nat → Prop}
theorem bgV_ms (v : Iv) (s : Nat) (t : Stp) : (bgV v s t).ms.length = v.ms.length := by unfold bgV; split <;> (try split) <;> simp
theorem bgV_out (v : Iv) (s : Nat) (t : Stp) : (bgV v s t).out.length ≤ v.out.length + 1 := by unfold bgV; split <;> (try split) <;> simp
/-- May the step be begun? -/
def bfOk (Bs : List IRow) (v : Iv) (s : Nat) : Bool := !((rowAt Bs s).any fun b => !([3].any fun y => mkA v.ms b == y))
def goS (Ls : List Stp) (Bs : List IRow) (v : Iv) (s : Nat) : Iv := if (mkA v.ms s == 0 && bfOk Bs v s) = true then (match Ls[s]? with | some t => bgV v s t | none => v) else v
def goN (Ls : List Stp) (Bs : List IRow) (v : Iv) : Nat → Iv
  | 0 => v
  | k + 1 => goS Ls Bs (goN Ls Bs v k) k
def anyMk (q : List Int) (ms : List Int) : Bool := ms.any fun m => q.any fun y => m == y
def goV (Ls : List Stp) (Bs : List IRow) (v : Iv) : Iv := if anyMk [0, 1, 2, 4, 5] (goN Ls Bs v v.ms.length).ms = true then goN Ls Bs v v.ms.length else { goN Ls Bs v v.ms.length with st := 2 }
theorem goS_ms (Ls : List Stp) (Bs : List IRow) (v : Iv) (s : Nat) : (goS Ls Bs v s).ms.length = v.ms.length := by
  unfold goS
  split
  · cases h : Ls[s]? with
    | none => rfl
    | some t => exact bgV_ms v s t
  · rfl
theorem goS_out (Ls : List Stp) (Bs : List IRow) (v : Iv) (s : Nat) : (goS Ls Bs v s).out.length ≤ v.out.length + 1 := by
  unfold goS
  split
  · cases h : Ls[s]? with
    | none => simp
    | some t => exact bgV_out v s t
  · simp
theorem goN_ms (Ls : List Stp) (Bs : List IRow) (v : Iv) : ∀ k, (goN Ls Bs v k).ms.length = v.ms.length
  | 0 => rfl
  | k + 1 => (goS_ms _ _ _ _).trans (goN_ms Ls Bs v k)
theorem goN_out (Ls : List Stp) (Bs : List IRow) (v : Iv) : ∀ k, (goN Ls Bs v k).out.length ≤ v.out.length + k
  | 0 => Nat.le_refl _
  | k + 1 => by
    have h1 := goS_out Ls Bs (goN Ls Bs v k) k
    have h2 := goN_out Ls Bs v k
    show (goS Ls Bs (goN Ls Bs v k) k).out.length ≤ _
    omega
set_option maxRecDepth 100000 in
set_option maxHeartbeats 8000000 in
theorem goOn_any (h : InP base base2 I P nm Ls Bs ask y v l w) (ho : v.out.length ≤ 900000) :
    Calls Tryz.prog 32 #[.pointer (some ⟨I, 0, none⟩)] w fun e w' => e = .returned (.tuple #[]) ∧ ∃ l', InP base base2 I P nm Ls Bs ask y (goV Ls Bs v) l' w' ∧ Mw I P Ls Bs y v l y (goV Ls Bs v) l' w w' := by
  have HI := hid h
  have i3 : w.cell? ⟨I, 3, none⟩ = some (.slice l.MA v.ms.length l.mc) := h.i.b.cell 3
  have lI := h.i.b.lt
  have hn := h.i.n
  clear h
  go_enter Tryz.func32, Tryz.ntmps32
  go_wp2_with fail
  go_loopw [2, 3, 10] (fun a b i wr => ∃ (k : Nat) (l1 : Il), k ≤ v.ms.length ∧ i = .int .i64 k ∧ Hid (InP base base2 I P nm Ls Bs ask y (goN Ls Bs v k) l1 wr ∧ Mw I P Ls Bs y v l y (goN Ls Bs v k) l1 w wr)) (fun a b i _ => v.ms.length - nOf i)
  case atStart => exact ⟨0, l, Nat.zero_le _, rfl, hid ⟨HI.out, Mw.refl⟩⟩
  case round =>
    obtain ⟨k, l1, hk, rfl, HJ⟩ := hrel
    clear i3 lI
    by_cases hlt : k < v.ms.length
    · have hku : k < (goN Ls Bs v k).ms.length := by rw [goN_ms]; exact hlt
      obtain ⟨gm, hgm, lgm⟩ := HJ.out.1.i.ma hku
      have HML := hid (HJ.out.2.m.s.1.1.symm.trans hgm)
      obtain ⟨m, hm⟩ : ∃ m, (goN Ls Bs v k).ms[k]? = some m := ⟨_, List.getElem?_eq_getElem hku⟩
      have cm : wr.cell? ⟨gm, k, none⟩ = some (.int .i64 m) := HJ.out.1.i.mark hgm hm
      have hmk : mkA (goN Ls Bs v k).ms k = m := by simp [mkA, List.getD, hm]
      have HMK := hid hmk
      have HOL := hid (goN_out Ls Bs v k)
      have hLs : k < Ls.length := by have := HJ.out.1.mn; omega
      obtain ⟨t, ht⟩ : ∃ t, Ls[k]? = some t := ⟨_, List.getElem?_eq_getElem hLs⟩
      have hBs : k < Bs.length := by have := HJ.out.1.p.rows.len; omega
      obtain ⟨b, hb⟩ : ∃ b, Bs[k]? = some b := ⟨_, List.getElem?_eq_getElem hBs⟩
      have HT := hid ht
      have HBK := hid hb
      clear ht hb hmk hm
      have i5 : wr.cell? ⟨I, 5, none⟩ = some (.pointer (some ⟨P, 0, none⟩)) := HJ.out.1.i.b.cell 5
      have lI := HJ.out.1.i.b.lt
      rw [HML.out]
      cases hz : (m == 0) with
      | true =>
        have hbl : b.xs.length ≤ 1000 := Nat.le_trans (rise_len (HJ.out.1.p.rows.up b (List.mem_of_getElem? HBK.out)) (HJ.out.1.p.rows.lt b (List.mem_of_getElem? HBK.out))) (by have := HJ.out.1.p.rows.n; omega)
        have KB := hid (before_in HJ.out.1.p.p k b HBK.out HJ.out.1.p.rows.len (by omega))
        go_wp2_with fail
        refine KB.out.mono ?_
        rintro e w3 ⟨A, cap, rfl, hO, hb3⟩
        clear KB
        have hbW : Below w3.heap.size w3 (w3.alloc (.cells #[.int .i64 3] 71)) := (Below.refl _ _).alloc (Nat.le_refl _) _
        have hX := (Blk.new w3 71 #[.int .i64 3]).rd12 (xs := [3].flatMap en1) rfl
        have HW := hid (HJ.out.1.next (bthen hb3 hbW))
        have KA := hid (all_any HW.out.i A b.xs cap ((own_rd hO).below hbW) (fun x hx => by
          obtain ⟨q, rfl, hq⟩ := HW.out.p.rows.lt b (List.mem_of_getElem? HBK.out) x hx
          have := HW.out.mn
          omega) hbl _ [3] 1 hX (by simp))
        have HBW := hid (bthen hb3 hbW)
        have HBV := hid (show bfOk Bs (goN Ls Bs v k) k = !(b.xs.any fun s => !([3].any fun y => mkA (goN Ls Bs v k).ms s == y)) from by unfold bfOk; rw [rowAt_in HBK.out])
        generalize (!(b.xs.any fun s => !([3].any fun y => mkA (goN Ls Bs v k).ms s == y))) = bv at KA HBV
        clear hX hO hb3 hbW
        go_wp2_with fail
        refine KA.out.mono ?_
        rintro e w5 ⟨rfl, hb5⟩
        have HM5 := hid (HJ.out.2.next (bthen HBW.out hb5))
        have HI5 := hid (HW.out.next hb5)
        clear KA HW HBW hb5 cm i5 lI HJ
        cases bv with
        | true =>
          have KG := hid (begin_any HI5.out (by have := HOL.out; omega) k t HT.out)
          have HST := hid (show goN Ls Bs v (k + 1) = bgV (goN Ls Bs v k) k t from by
            show goS Ls Bs (goN Ls Bs v k) k = _
            unfold goS
            rw [if_pos (by rw [HMK.out, hz, HBV.out]; rfl), HT.out])
          go_wp2_with fail
          refine KG.out.mono ?_
          rintro e w6 ⟨rfl, l6, h6, m6⟩
          go_wp2_with fail
          go_roundw
          case rel => exact ⟨k + 1, l6, by omega, by go_num, by rw [HST.out]; exact hid ⟨h6, HM5.out.trans m6⟩⟩
          case measure => simp [nOf]; omega
        | false =>
          have HST := hid (show goN Ls Bs v (k + 1) = goN Ls Bs v k from by
            show goS Ls Bs (goN Ls Bs v k) k = _
            unfold goS
            rw [if_neg (by rw [HBV.out]; simp)])
          go_wp2_with fail
          go_roundw
          case rel => exact ⟨k + 1, l1, by omega, by go_num, by rw [HST.out]; exact hid ⟨HI5.out, HM5.out⟩⟩
          case measure => simp [nOf]; omega
      | false =>
        have HST := hid (show goN Ls Bs v (k + 1) = goN Ls Bs v k from by
          show goS Ls Bs (goN Ls Bs v k) k = _
          unfold goS
          rw [if_neg (by rw [HMK.out, hz]; simp)])
        go_wp2_with fail
        go_roundw
        case rel => exact ⟨k + 1, l1, by omega, by go_num, by rw [HST.out]; exact HJ⟩
        case measure => simp [nOf]; omega
    · have hk' : k = v.ms.length := by omega
      subst hk'
      have hbW : Below wr.heap.size wr (wr.alloc (.cells #[.int .i64 0, .int .i64 1, .int .i64 2, .int .i64 4, .int .i64 5] 71)) := (Below.refl _ _).alloc (Nat.le_refl _) _
      have hX := (Blk.new wr 71 #[.int .i64 0, .int .i64 1, .int .i64 2, .int .i64 4, .int .i64 5]).rd12 (xs := [0, 1, 2, 4, 5].flatMap en1) rfl
      have HW := hid (HJ.out.1.next hbW)
      have KA := hid (some_any HW.out.i _ [0, 1, 2, 4, 5] 5 hX (by simp))
      have HBV := hid (show anyMk [0, 1, 2, 4, 5] (goN Ls Bs v v.ms.length).ms = (goN Ls Bs v v.ms.length).ms.any fun m => [0, 1, 2, 4, 5].any fun y => m == y from rfl)
      generalize ((goN Ls Bs v v.ms.length).ms.any fun m => [0, 1, 2, 4, 5].any fun y => m == y) = bv at KA HBV
      have HMW := hid (HJ.out.2.next hbW)
      clear hX hbW HJ
      go_wp2_with fail
      refine KA.out.mono ?_
      rintro e w5 ⟨rfl, hb5⟩
      have HM5 := hid (HMW.out.next hb5)
      have HI5 := hid (HW.out.next hb5)
      clear KA HW HMW hb5
      cases bv with
      | true =>
        have HV := hid (show goV Ls Bs v = goN Ls Bs v v.ms.length from if_pos HBV.out)
        go_wp2_with fail
        go_end0
        rw [HV.out]
        exact ⟨rfl, l1, HI5.out, HM5.out⟩
      | false =>
        have HV := hid (show goV Ls Bs v = { goN Ls Bs v v.ms.length with st := 2 } from if_neg (by rw [HBV.out]; decide))
        have c1 : w5.cell? ⟨I, 1, none⟩ = some (.int .i64 (goN Ls Bs v v.ms.length).st) := HI5.out.i.b.cell 1
        have f1 := HI5.out.i.b.free 1
        have lI := HI5.out.i.b.lt
        obtain ⟨s1, s2⟩ := HI5.out.i.setSt (X := fun _ => False) 2
        have HU := hid (And.intro (HI5.out.upd s1 s2 rfl) s2)
        clear s1 s2
        go_wp2_with fail
        go_end0
        rw [HV.out]
        exact ⟨rfl, l1, HU.out.1, HM5.out.trans (Mw.of HU.out.2)⟩
end

end Go.Proofs.YtoemmakhbiiknaaGreat

namespace Go.Proofs.YtoemmakhbiiknaaGreat
open Go.RowKit Go.WideShapes Go.ChangeShapes Go.ChangeAt Go.Deep
set_option linter.unusedVariables false

section
variable {base base2 I P : Nat} {nm : ByteArray} {Ls : List Stp} {Bs : List IRow} {ask : Int} {y y1 y2 : Pw} {v v1 v2 : Iv} {l l1 l2 : Il} {w w' w1 w2 : World} {X : Nat → Prop}
/-- What Behind leaves of an instance and its plan. -/
theorem InP.behind (h : InP base base2 I P nm Ls Bs ask y v l w) (i : Int) (ha : 0 ≤ ask ∧ ask ≤ 4611686018427387904) :
    Calls Tryz.prog 18 #[.pointer (some ⟨P, 0, none⟩), .int .i64 i] w fun e w' => ∃ y' A cap, e = .returned (.slice A (behL Bs Ls.length i).length cap) ∧ Rd w' A ((behL Bs Ls.length i).flatMap en1) ∧ InP base base2 I P nm Ls Bs (ask + 1) y' v l w' ∧ Mw I P Ls Bs y v l y' v l w w' := by
  refine (behind_any3 h.p.p h.p.rows h.p.ok h.p.nil i ha).mono ?_
  rintro e w' ⟨w3, A, cap, vH', Hs', rfl, hO, hP, hH, hT, hb3, hN⟩
  have hPu : ∀ g, PlV P Ls Bs ⟨y.vS, y.vB, vH', Hs', true⟩ g → PlV P Ls Bs y g ∨ w.heap.size ≤ g := by
    intro g hg
    rcases hg with e | e | e | e | e | ⟨_, e⟩
    · exact .inl (.inl e)
    · exact .inl (.inr (.inl e))
    · exact .inl (.inr (.inr (.inl e)))
    · exact .inl (.inr (.inr (.inr (.inl e))))
    · exact .inl (.inr (.inr (.inr (.inr (.inl e)))))
    · rcases hN g e with ⟨hd, h3⟩ | h3
      · exact .inl (.inr (.inr (.inr (.inr (.inr ⟨hd, h3⟩)))))
      · exact .inr h3
  have hi3 := h.i.touch hT (fun g hg hu => h.dj g (by rw [hg]; exact .inl rfl) hu)
  refine ⟨⟨y.vS, y.vB, vH', Hs', true⟩, A, cap, rfl, own_rd hO, ⟨hi3.next hb3, ⟨hP.next hb3, (fun _ => hH), (fun e => (by cases e)), h.p.rows, h.p.aft⟩, fun g hg hu => ?_, h.mn⟩, ⟨⟨(hT.mono (fun k hk => .inr hk)).then (Touch.of_below hb3), fun g hg => .inl hg, ⟨rfl, rfl⟩, rfl, rfl⟩, hPu⟩⟩
  rcases hPu g hg with h1 | h1
  · exact h.dj g h1 hu
  · have := (h.i.use hu).2; omega
/-- May the step be undone? -/
def bhOk (Bs : List IRow) (n : Nat) (v : Iv) (s : Nat) : Bool := !((behL Bs n s).any fun b => !([0, 5].any fun y => mkA v.ms b == y))
def uwS (Ls : List Stp) (Bs : List IRow) (v : Iv) (s : Nat) : Iv :=
  if ((mkA v.ms s == 1 || mkA v.ms s == 3) && bhOk Bs Ls.length v s) = true then
    (match Ls[s]? with | some t => if t.event.toList.isEmpty = true then { v with ms := v.ms.set s 4, out := v.out ++ [⟨1, v.ord, s, 0, 0, true⟩] } else { v with ms := v.ms.set s 5 } | none => v)
  else v
def uwN (Ls : List Stp) (Bs : List IRow) (n : Nat) (v : Iv) : Nat → Iv
  | 0 => v
  | k + 1 => uwS Ls Bs (uwN Ls Bs n v k) (n - 1 - k)
def uwV (Ls : List Stp) (Bs : List IRow) (v : Iv) : Iv := if anyMk [1, 2, 3, 4] (uwN Ls Bs v.ms.length v v.ms.length).ms = true then uwN Ls Bs v.ms.length v v.ms.length else { uwN Ls Bs v.ms.length v v.ms.length with st := 3 }
theorem uwS_ms (Ls : List Stp) (Bs : List IRow) (v : Iv) (s : Nat) : (uwS Ls Bs v s).ms.length = v.ms.length := by
  unfold uwS
  split
  · cases h : Ls[s]? with
    | none => rfl
    | some t => simp only; split <;> simp
  · rfl
theorem uwS_out (Ls : List Stp) (Bs : List IRow) (v : Iv) (s : Nat) : (uwS Ls Bs v s).out.length ≤ v.out.length + 1 := by
  unfold uwS
  split
  · cases h : Ls[s]? with
    | none => simp
    | some t => simp only; split <;> simp
  · simp
theorem uwN_ms (Ls : List Stp) (Bs : List IRow) (n : Nat) (v : Iv) : ∀ k, (uwN Ls Bs n v k).ms.length = v.ms.length
  | 0 => rfl
  | k + 1 => (uwS_ms _ _ _ _).trans (uwN_ms Ls Bs n v k)
theorem uwN_out (Ls : List Stp) (Bs : List IRow) (n : Nat) (v : Iv) : ∀ k, (uwN Ls Bs n v k).out.length ≤ v.out.length + k
  | 0 => Nat.le_refl _
  | k + 1 => by
    have h1 := uwS_out Ls Bs (uwN Ls Bs n v k) (n - 1 - k)
    have h2 := uwN_out Ls Bs n v k
    show (uwS Ls Bs (uwN Ls Bs n v k) (n - 1 - k)).out.length ≤ _
    omega
theorem fieldE13 (a v u e f r y z s : Value) (w : World) : (Instr.field 69 (.agg #[a, v, u, e, f, r, y, z, s]) 3).run Tryz.prog w = .ok e w := by kernel_rfl
def upOf : Value → Nat | .int _ q => (q + 1).toNat | _ => 0
set_option maxRecDepth 100000 in
set_option maxHeartbeats 16000000 in
theorem unwind_any (h : InP base base2 I P nm Ls Bs ask y v l w) (ho : v.out.length ≤ 900000) (ha : 0 ≤ ask ∧ ask ≤ 4611686018427386904) :
    Calls Tryz.prog 31 #[.pointer (some ⟨I, 0, none⟩)] w fun e w' => e = .returned (.tuple #[]) ∧ ∃ ask' y' l', ask ≤ ask' ∧ ask' ≤ ask + 1000 ∧ InP base base2 I P nm Ls Bs ask' y' (uwV Ls Bs v) l' w' ∧ Mw I P Ls Bs y v l y' (uwV Ls Bs v) l' w w' := by
  have HI := hid h
  have HA := hid ha
  have i3 : w.cell? ⟨I, 3, none⟩ = some (.slice l.MA v.ms.length l.mc) := h.i.b.cell 3
  have lI := h.i.b.lt
  have hn := h.i.n
  obtain ⟨n, hnn⟩ : ∃ n, n = v.ms.length := ⟨_, rfl⟩
  rw [← hnn] at i3 hn
  have HN := hid hnn
  have HNL := hid (show n = Ls.length from by rw [hnn]; exact h.mn)
  clear h hnn ha
  go_enter Tryz.func31, Tryz.ntmps31
  go_wp2_with fail
  go_loopw [2, 3] (fun i _m wr => ∃ (k : Nat) (ask1 : Int) (y1 : Pw) (l1 : Il), k ≤ n ∧ i = .int .i64 ((n : Int) - 1 - k) ∧ Hid ((ask ≤ ask1 ∧ ask1 ≤ ask + k) ∧ InP base base2 I P nm Ls Bs ask1 y1 (uwN Ls Bs n v k) l1 wr ∧ Mw I P Ls Bs y v l y1 (uwN Ls Bs n v k) l1 w wr)) (fun i _m _ => upOf i)
  case atStart => exact ⟨0, ask, y, l, Nat.zero_le _, by go_num, hid ⟨⟨by omega, by omega⟩, HI.out, Mw.refl⟩⟩
  case round =>
    obtain ⟨k, ask1, y1, l1, hk, rfl, HJ⟩ := hrel
    clear i3 lI
    by_cases hlt : k < n
    · obtain ⟨s, hs⟩ : ∃ s, s = n - 1 - k := ⟨_, rfl⟩
      have hsn : s < n := by omega
      have hsi : (n : Int) - 1 - k = (s : Int) := by omega
      rw [hsi]
      have HS := hid hs
      have HSI := hid hsi
      have hku : s < (uwN Ls Bs n v k).ms.length := by rw [uwN_ms, ← HN.out]; exact hsn
      have HKU := hid hku
      obtain ⟨gm, hgm, lgm⟩ := HJ.out.2.1.i.ma hku
      have HGM := hid hgm
      obtain ⟨m, hm⟩ : ∃ m, (uwN Ls Bs n v k).ms[s]? = some m := ⟨_, List.getElem?_eq_getElem hku⟩
      have cm : wr.cell? ⟨gm, s, none⟩ = some (.int .i64 m) := HJ.out.2.1.i.mark hgm hm
      have hmk : mkA (uwN Ls Bs n v k).ms s = m := by simp [mkA, List.getD, hm]
      have HMK := hid hmk
      have HOL := hid (uwN_out Ls Bs n v k)
      have hLs : s < Ls.length := by rw [← HNL.out]; exact hsn
      obtain ⟨t, ht⟩ : ∃ t, Ls[s]? = some t := ⟨_, List.getElem?_eq_getElem hLs⟩
      have HT := hid ht
      have i3 : wr.cell? ⟨I, 3, none⟩ = some (.slice (some ⟨gm, 0, none⟩) n l1.mc) := by
        rw [HJ.out.2.1.i.b.cell 3, ← hgm]
        simp [inC, uwN_ms, ← HN.out]
      have i5 : wr.cell? ⟨I, 5, none⟩ = some (.pointer (some ⟨P, 0, none⟩)) := HJ.out.2.1.i.b.cell 5
      have lI := HJ.out.2.1.i.b.lt
      have HUN : Hid (uwN Ls Bs n v (k + 1) = uwS Ls Bs (uwN Ls Bs n v k) s) := hid (by rw [hs]; rfl)
      clear ht hmk hm hgm hs hsi hlt hku
      cases h13 : (m == 1 || m == 3) with
      | true =>
        have hor : (m != 1) = false ∨ ((m != 1) = true ∧ (m != 3) = false) := by
          by_cases e : m = 1
          · left; simp [e]
          · right
            have : m = 3 := by simpa [e] using h13
            subst this
            exact ⟨by decide, by decide⟩
        have HH := hid h13
        clear h13
        have KB := hid (HJ.out.2.1.behind s (by have := HA.out; have := HJ.out.1; omega))
        rcases hor with h1 | ⟨h1, h3⟩
        · go_wp2_with fail
          refine KB.out.mono ?_
          rintro e w3 ⟨y2, A, cap, rfl, hRd, hI3, hM3⟩
          have hlen : behL Bs Ls.length s = hitsB Bs s Bs.length := by unfold behL; rw [if_pos (by simp [hasN]; omega)]; simp
          have hBL := hI3.p.rows.len
          have hLn := hI3.p.rows.n
          have hbl : (behL Bs Ls.length s).length ≤ 1000 := by rw [hlen]; have := hitsB_len hI3.p.rows.up s Bs.length; omega
          have hmem : ∀ x ∈ behL Bs Ls.length s, 0 ≤ x ∧ x < (uwN Ls Bs n v k).ms.length := fun x hx => by
            rw [hlen] at hx
            obtain ⟨i, hi, rfl, _⟩ := hitsB_mem.1 hx
            have := hI3.mn
            omega
          have hbW : Below w3.heap.size w3 (w3.alloc (.cells #[.int .i64 0, .int .i64 5] 71)) := (Below.refl _ _).alloc (Nat.le_refl _) _
          have hX := (Blk.new w3 71 #[.int .i64 0, .int .i64 5]).rd12 (xs := [0, 5].flatMap en1) rfl
          have HW := hid (hI3.next hbW)
          have HM3 := hid (hM3.next hbW)
          have KA := hid (all_any HW.out.i A (behL Bs Ls.length s) cap (hRd.below hbW) hmem hbl _ [0, 5] 2 hX (by simp))
          have HBV := hid (show bhOk Bs Ls.length (uwN Ls Bs n v k) s = !((behL Bs Ls.length s).any fun b => !([0, 5].any fun y => mkA (uwN Ls Bs n v k).ms b == y)) from rfl)
          generalize (!((behL Bs Ls.length s).any fun b => !([0, 5].any fun y => mkA (uwN Ls Bs n v k).ms b == y))) = bv at KA HBV
          generalize (behL Bs Ls.length s).length = bl at KA
          clear hX hRd hI3 hM3 hbW hlen hBL hLn hbl hmem KB cm i3 i5 lI
          go_wp2_with fail
          refine KA.out.mono ?_
          rintro e w5 ⟨rfl, hb5⟩
          have HM5 := hid (HJ.out.2.2.trans (HM3.out.next hb5))
          have HI5 := hid (HW.out.next hb5)
          have HAS := hid HJ.out.1
          clear KA HW hb5 HJ HM3
          cases bv with
          | false =>
            have HST := hid (show uwN Ls Bs n v (k + 1) = uwN Ls Bs n v k from by
              rw [HUN.out]
              unfold uwS
              rw [if_neg (by rw [HBV.out]; simp)])
            go_wp2_with fail
            go_roundw
            case rel => exact ⟨k + 1, ask1 + 1, y2, l1, by have := HSI.out; omega, by have := HSI.out; go_num, by rw [HST.out]; exact hid ⟨⟨by have := HAS.out; omega, by have := HAS.out; omega⟩, HI5.out, HM5.out⟩⟩
            case measure => simp [upOf]
          | true =>
            have KS := hid (step_in HI5.out.p.p s t HT.out (HI5.out.p.aft t (List.mem_of_getElem? HT.out)))
            have i5 : w5.cell? ⟨I, 5, none⟩ = some (.pointer (some ⟨P, 0, none⟩)) := HI5.out.i.b.cell 5
            have lI := HI5.out.i.b.lt
            have HST := hid (show uwN Ls Bs n v (k + 1) = if t.event.toList.isEmpty = true then { uwN Ls Bs n v k with ms := (uwN Ls Bs n v k).ms.set s 4, out := (uwN Ls Bs n v k).out ++ [⟨1, (uwN Ls Bs n v k).ord, s, 0, 0, true⟩] } else { uwN Ls Bs n v k with ms := (uwN Ls Bs n v k).ms.set s 5 } from by
              rw [HUN.out]
              unfold uwS
              rw [if_pos (by rw [HMK.out, HH.out, HBV.out]; rfl), HT.out])
            go_wp2_with fail
            refine KS.out.mono ?_
            rintro e w6 ⟨A6, cap6, rfl, _, hb6⟩
            have HM6 := hid (HM5.out.next hb6)
            have HI6 := hid (HI5.out.next hb6)
            clear KS i5 lI hb6 HM5 HI5
            obtain ⟨xn, xv, xu, xe, xf, xr, xy, xw, xA, xc, xl⟩ := t
            rw [show (enSt (twn ⟨xn, xv, xu, xe, xf, xr, xy, xw, xA, xc, xl⟩ A6 cap6)).toArray = #[.string xn, .string xv, .string xu, .string xe, .bool xf, .int .i64 xr, .int .i64 xy, .int .i64 xw, .slice A6 xl.length cap6] from rfl]
            have hfd := fieldE13 (.string xn) (.string xv) (.string xu) (.string xe) (.bool xf) (.int .i64 xr) (.int .i64 xy) (.int .i64 xw) (.slice A6 xl.length cap6)
            have hku := HKU.out
            obtain ⟨mv, hmv⟩ : ∃ mv, (uwN Ls Bs n v k).ms[s]? = some mv := ⟨_, List.getElem?_eq_getElem hku⟩
            have cm : w6.cell? ⟨gm, s, none⟩ = some (.int .i64 mv) := HI6.out.i.mark HGM.out hmv
            clear hmv
            have fm : w6.frozen? ⟨gm, s, none⟩ = false := own_free (by have := HI6.out.i.m; rw [HGM.out] at this; exact this) s
            have i3 : w6.cell? ⟨I, 3, none⟩ = some (.slice (some ⟨gm, 0, none⟩) n l1.mc) := by
              rw [HI6.out.i.b.cell 3, ← HGM.out]
              simp [inC, uwN_ms, ← HN.out]
            have lI := HI6.out.i.b.lt
            have lgm6 : gm < w6.heap.size := by have := (HI6.out.i.use (.inr (.inl (by rw [HGM.out]; rfl)) : IU I _ l1 gm)).2; exact this
            cases he : xe.toList.isEmpty with
            | false =>
              obtain ⟨m1, m2⟩ := HI6.out.i.setMark (X := fun _ => False) HGM.out hku 5
              have HU := hid (And.intro (HI6.out.upd m1 m2 (by simp)) m2)
              have HST2 := hid (HST.out.trans (if_neg (by simp only; rw [he]; decide)))
              clear m1 m2 HST hku
              go_wp2_with fail
              go_roundw
              case rel => exact ⟨k + 1, ask1 + 1, y2, l1, by have := HSI.out; omega, by have := HSI.out; go_num, by rw [HST2.out]; exact hid ⟨⟨by have := HAS.out; omega, by have := HAS.out; omega⟩, HU.out.1, HM6.out.trans (Mw.of HU.out.2)⟩⟩
              case measure => simp [upOf]
            | true =>
              obtain ⟨m1, m2⟩ := HI6.out.i.setMark (X := fun _ => False) HGM.out hku 4
              have U1 := HI6.out.upd m1 m2 (by simp)
              have KT := hid (tell_any (X := fun _ => False) U1.i (by have := HOL.out; simp only; omega) 1 s 0 0 true)
              have HU := hid (And.intro U1 m2)
              have HST2 := hid (HST.out.trans (if_pos he))
              clear m1 m2 HST U1 hku
              go_wp2_with fail
              refine KT.out.mono ?_
              rintro e w7 ⟨rfl, OA', oc', T1, T2⟩
              have HU2 := hid (And.intro (HU.out.1.upd T1 T2 rfl) (HU.out.2.trans T2))
              clear T1 T2 KT HU
              go_wp2_with fail
              go_roundw
              case rel => exact ⟨k + 1, ask1 + 1, y2, _, by have := HSI.out; omega, by have := HSI.out; go_num, by rw [HST2.out]; exact hid ⟨⟨by have := HAS.out; omega, by have := HAS.out; omega⟩, HU2.out.1, HM6.out.trans (Mw.of HU2.out.2)⟩⟩
              case measure => simp [upOf]
        · go_wp2_with fail
          refine KB.out.mono ?_
          rintro e w3 ⟨y2, A, cap, rfl, hRd, hI3, hM3⟩
          have hlen : behL Bs Ls.length s = hitsB Bs s Bs.length := by unfold behL; rw [if_pos (by simp [hasN]; omega)]; simp
          have hBL := hI3.p.rows.len
          have hLn := hI3.p.rows.n
          have hbl : (behL Bs Ls.length s).length ≤ 1000 := by rw [hlen]; have := hitsB_len hI3.p.rows.up s Bs.length; omega
          have hmem : ∀ x ∈ behL Bs Ls.length s, 0 ≤ x ∧ x < (uwN Ls Bs n v k).ms.length := fun x hx => by
            rw [hlen] at hx
            obtain ⟨i, hi, rfl, _⟩ := hitsB_mem.1 hx
            have := hI3.mn
            omega
          have hbW : Below w3.heap.size w3 (w3.alloc (.cells #[.int .i64 0, .int .i64 5] 71)) := (Below.refl _ _).alloc (Nat.le_refl _) _
          have hX := (Blk.new w3 71 #[.int .i64 0, .int .i64 5]).rd12 (xs := [0, 5].flatMap en1) rfl
          have HW := hid (hI3.next hbW)
          have HM3 := hid (hM3.next hbW)
          have KA := hid (all_any HW.out.i A (behL Bs Ls.length s) cap (hRd.below hbW) hmem hbl _ [0, 5] 2 hX (by simp))
          have HBV := hid (show bhOk Bs Ls.length (uwN Ls Bs n v k) s = !((behL Bs Ls.length s).any fun b => !([0, 5].any fun y => mkA (uwN Ls Bs n v k).ms b == y)) from rfl)
          generalize (!((behL Bs Ls.length s).any fun b => !([0, 5].any fun y => mkA (uwN Ls Bs n v k).ms b == y))) = bv at KA HBV
          generalize (behL Bs Ls.length s).length = bl at KA
          clear hX hRd hI3 hM3 hbW hlen hBL hLn hbl hmem KB cm i3 i5 lI
          go_wp2_with fail
          refine KA.out.mono ?_
          rintro e w5 ⟨rfl, hb5⟩
          have HM5 := hid (HJ.out.2.2.trans (HM3.out.next hb5))
          have HI5 := hid (HW.out.next hb5)
          have HAS := hid HJ.out.1
          clear KA HW hb5 HJ HM3
          cases bv with
          | false =>
            have HST := hid (show uwN Ls Bs n v (k + 1) = uwN Ls Bs n v k from by
              rw [HUN.out]
              unfold uwS
              rw [if_neg (by rw [HBV.out]; simp)])
            go_wp2_with fail
            go_roundw
            case rel => exact ⟨k + 1, ask1 + 1, y2, l1, by have := HSI.out; omega, by have := HSI.out; go_num, by rw [HST.out]; exact hid ⟨⟨by have := HAS.out; omega, by have := HAS.out; omega⟩, HI5.out, HM5.out⟩⟩
            case measure => simp [upOf]
          | true =>
            have KS := hid (step_in HI5.out.p.p s t HT.out (HI5.out.p.aft t (List.mem_of_getElem? HT.out)))
            have i5 : w5.cell? ⟨I, 5, none⟩ = some (.pointer (some ⟨P, 0, none⟩)) := HI5.out.i.b.cell 5
            have lI := HI5.out.i.b.lt
            have HST := hid (show uwN Ls Bs n v (k + 1) = if t.event.toList.isEmpty = true then { uwN Ls Bs n v k with ms := (uwN Ls Bs n v k).ms.set s 4, out := (uwN Ls Bs n v k).out ++ [⟨1, (uwN Ls Bs n v k).ord, s, 0, 0, true⟩] } else { uwN Ls Bs n v k with ms := (uwN Ls Bs n v k).ms.set s 5 } from by
              rw [HUN.out]
              unfold uwS
              rw [if_pos (by rw [HMK.out, HH.out, HBV.out]; rfl), HT.out])
            go_wp2_with fail
            refine KS.out.mono ?_
            rintro e w6 ⟨A6, cap6, rfl, _, hb6⟩
            have HM6 := hid (HM5.out.next hb6)
            have HI6 := hid (HI5.out.next hb6)
            clear KS i5 lI hb6 HM5 HI5
            obtain ⟨xn, xv, xu, xe, xf, xr, xy, xw, xA, xc, xl⟩ := t
            rw [show (enSt (twn ⟨xn, xv, xu, xe, xf, xr, xy, xw, xA, xc, xl⟩ A6 cap6)).toArray = #[.string xn, .string xv, .string xu, .string xe, .bool xf, .int .i64 xr, .int .i64 xy, .int .i64 xw, .slice A6 xl.length cap6] from rfl]
            have hfd := fieldE13 (.string xn) (.string xv) (.string xu) (.string xe) (.bool xf) (.int .i64 xr) (.int .i64 xy) (.int .i64 xw) (.slice A6 xl.length cap6)
            have hku := HKU.out
            obtain ⟨mv, hmv⟩ : ∃ mv, (uwN Ls Bs n v k).ms[s]? = some mv := ⟨_, List.getElem?_eq_getElem hku⟩
            have cm : w6.cell? ⟨gm, s, none⟩ = some (.int .i64 mv) := HI6.out.i.mark HGM.out hmv
            clear hmv
            have fm : w6.frozen? ⟨gm, s, none⟩ = false := own_free (by have := HI6.out.i.m; rw [HGM.out] at this; exact this) s
            have i3 : w6.cell? ⟨I, 3, none⟩ = some (.slice (some ⟨gm, 0, none⟩) n l1.mc) := by
              rw [HI6.out.i.b.cell 3, ← HGM.out]
              simp [inC, uwN_ms, ← HN.out]
            have lI := HI6.out.i.b.lt
            have lgm6 : gm < w6.heap.size := by have := (HI6.out.i.use (.inr (.inl (by rw [HGM.out]; rfl)) : IU I _ l1 gm)).2; exact this
            cases he : xe.toList.isEmpty with
            | false =>
              obtain ⟨m1, m2⟩ := HI6.out.i.setMark (X := fun _ => False) HGM.out hku 5
              have HU := hid (And.intro (HI6.out.upd m1 m2 (by simp)) m2)
              have HST2 := hid (HST.out.trans (if_neg (by simp only; rw [he]; decide)))
              clear m1 m2 HST hku
              go_wp2_with fail
              go_roundw
              case rel => exact ⟨k + 1, ask1 + 1, y2, l1, by have := HSI.out; omega, by have := HSI.out; go_num, by rw [HST2.out]; exact hid ⟨⟨by have := HAS.out; omega, by have := HAS.out; omega⟩, HU.out.1, HM6.out.trans (Mw.of HU.out.2)⟩⟩
              case measure => simp [upOf]
            | true =>
              obtain ⟨m1, m2⟩ := HI6.out.i.setMark (X := fun _ => False) HGM.out hku 4
              have U1 := HI6.out.upd m1 m2 (by simp)
              have KT := hid (tell_any (X := fun _ => False) U1.i (by have := HOL.out; simp only; omega) 1 s 0 0 true)
              have HU := hid (And.intro U1 m2)
              have HST2 := hid (HST.out.trans (if_pos he))
              clear m1 m2 HST U1 hku
              go_wp2_with fail
              refine KT.out.mono ?_
              rintro e w7 ⟨rfl, OA', oc', T1, T2⟩
              have HU2 := hid (And.intro (HU.out.1.upd T1 T2 rfl) (HU.out.2.trans T2))
              clear T1 T2 KT HU
              go_wp2_with fail
              go_roundw
              case rel => exact ⟨k + 1, ask1 + 1, y2, _, by have := HSI.out; omega, by have := HSI.out; go_num, by rw [HST2.out]; exact hid ⟨⟨by have := HAS.out; omega, by have := HAS.out; omega⟩, HU2.out.1, HM6.out.trans (Mw.of HU2.out.2)⟩⟩
              case measure => simp [upOf]
      | false =>
        have h1 : (m != 1) = true := by
          have : (m == 1) = false := by cases e : (m == 1) with | true => rw [e] at h13; simp at h13 | false => rfl
          simp [bne, this]
        have h3 : (m != 3) = true := by
          have : (m == 3) = false := by cases e : (m == 3) with | true => rw [e] at h13; simp at h13 | false => rfl
          simp [bne, this]
        have HST := hid (show uwN Ls Bs n v (k + 1) = uwN Ls Bs n v k from by
          rw [HUN.out]
          unfold uwS
          rw [if_neg (by rw [HMK.out, h13]; simp)])
        clear h13
        go_wp2_with fail
        go_roundw
        case rel => exact ⟨k + 1, ask1, y1, l1, by have := HSI.out; omega, by have := HSI.out; go_num, by rw [HST.out]; exact hid ⟨⟨by have := HJ.out.1; omega, by have := HJ.out.1; omega⟩, HJ.out.2⟩⟩
        case measure => simp [upOf]
    · have hk' : k = n := by omega
      subst hk'
      have hbW : Below wr.heap.size wr (wr.alloc (.cells #[.int .i64 1, .int .i64 2, .int .i64 3, .int .i64 4] 71)) := (Below.refl _ _).alloc (Nat.le_refl _) _
      have hX := (Blk.new wr 71 #[.int .i64 1, .int .i64 2, .int .i64 3, .int .i64 4]).rd12 (xs := [1, 2, 3, 4].flatMap en1) rfl
      have HW := hid (HJ.out.2.1.next hbW)
      have KA := hid (some_any HW.out.i _ [1, 2, 3, 4] 4 hX (by simp))
      have HBV := hid (show anyMk [1, 2, 3, 4] (uwN Ls Bs k v k).ms = (uwN Ls Bs k v k).ms.any fun m => [1, 2, 3, 4].any fun y => m == y from rfl)
      generalize ((uwN Ls Bs k v k).ms.any fun m => [1, 2, 3, 4].any fun y => m == y) = bv at KA HBV
      have HMW := hid (HJ.out.2.2.next hbW)
      have HAS := hid HJ.out.1
      clear hX hbW HJ
      go_wp2_with fail
      refine KA.out.mono ?_
      rintro e w5 ⟨rfl, hb5⟩
      have HM5 := hid (HMW.out.next hb5)
      have HI5 := hid (HW.out.next hb5)
      clear KA HW HMW hb5
      cases bv with
      | true =>
        have HV := hid (show uwV Ls Bs v = uwN Ls Bs k v k from by unfold uwV; rw [← HN.out, if_pos HBV.out])
        go_wp2_with fail
        go_end0
        rw [HV.out]
        exact ⟨rfl, ask1, y1, l1, HAS.out.1, by have := HAS.out; omega, HI5.out, HM5.out⟩
      | false =>
        have HV := hid (show uwV Ls Bs v = { uwN Ls Bs k v k with st := 3 } from by unfold uwV; rw [← HN.out, if_neg (by rw [HBV.out]; decide)])
        have c1 : w5.cell? ⟨I, 1, none⟩ = some (.int .i64 (uwN Ls Bs k v k).st) := HI5.out.i.b.cell 1
        have f1 := HI5.out.i.b.free 1
        have lI := HI5.out.i.b.lt
        obtain ⟨s1, s2⟩ := HI5.out.i.setSt (X := fun _ => False) 3
        have HU := hid (And.intro (HI5.out.upd s1 s2 rfl) s2)
        clear s1 s2
        go_wp2_with fail
        go_end0
        rw [HV.out]
        exact ⟨rfl, ask1, y1, l1, HAS.out.1, by have := HAS.out; omega, HU.out.1, HM5.out.trans (Mw.of HU.out.2)⟩
end

end Go.Proofs.YtoemmakhbiiknaaGreat

namespace Go.Proofs.YtoemmakhbiiknaaGreat
open Go.RowKit Go.WideShapes Go.ChangeShapes Go.ChangeAt Go.Deep
set_option linter.unusedVariables false

section
variable {base base2 I P : Nat} {nm : ByteArray} {Ls : List Stp} {Bs : List IRow} {ask : Int} {y y1 y2 : Pw} {v v1 v2 : Iv} {l l1 l2 : Il} {w w' w1 w2 : World} {X : Nat → Prop}
def tnS (v : Iv) (s : Nat) : Iv := if (mkA v.ms s == 2) = true then { v with ms := v.ms.set s 5, out := v.out ++ [⟨3, v.ord, s, 0, 0, false⟩] } else v
def tnN (v : Iv) : Nat → Iv
  | 0 => v
  | k + 1 => tnS (tnN v k) k
def turnV (Ls : List Stp) (Bs : List IRow) (v : Iv) : Iv := uwV Ls Bs (tnN { v with st := 1 } v.ms.length)
theorem tnS_ms (v : Iv) (s : Nat) : (tnS v s).ms.length = v.ms.length := by unfold tnS; split <;> simp
theorem tnS_out (v : Iv) (s : Nat) : (tnS v s).out.length ≤ v.out.length + 1 := by unfold tnS; split <;> simp
theorem tnN_ms (v : Iv) : ∀ k, (tnN v k).ms.length = v.ms.length
  | 0 => rfl
  | k + 1 => (tnS_ms _ _).trans (tnN_ms v k)
theorem tnN_out (v : Iv) : ∀ k, (tnN v k).out.length ≤ v.out.length + k
  | 0 => Nat.le_refl _
  | k + 1 => by
    have h1 := tnS_out (tnN v k) k
    have h2 := tnN_out v k
    show (tnS (tnN v k) k).out.length ≤ _
    omega
set_option maxRecDepth 100000 in
set_option maxHeartbeats 16000000 in
theorem turn_any (h : InP base base2 I P nm Ls Bs ask y v l w) (ho : v.out.length ≤ 890000) (ha : 0 ≤ ask ∧ ask ≤ 4611686018427386904) :
    Calls Tryz.prog 34 #[.pointer (some ⟨I, 0, none⟩)] w fun e w' => e = .returned (.tuple #[]) ∧ ∃ ask' y' l', ask ≤ ask' ∧ ask' ≤ ask + 1000 ∧ InP base base2 I P nm Ls Bs ask' y' (turnV Ls Bs v) l' w' ∧ Mw I P Ls Bs y v l y' (turnV Ls Bs v) l' w w' := by
  have HA := hid ha
  have c1 : w.cell? ⟨I, 1, none⟩ = some (.int .i64 v.st) := h.i.b.cell 1
  have f1 := h.i.b.free 1
  have i3 : w.cell? ⟨I, 3, none⟩ = some (.slice l.MA v.ms.length l.mc) := h.i.b.cell 3
  have lI := h.i.b.lt
  have hn := h.i.n
  obtain ⟨s1, s2⟩ := h.i.setSt (X := fun _ => False) 1
  have HU := hid (And.intro (h.upd s1 s2 rfl) s2)
  obtain ⟨n, hnn⟩ : ∃ n, n = v.ms.length := ⟨_, rfl⟩
  rw [← hnn] at i3 hn
  have HN := hid hnn
  have HO := hid ho
  obtain ⟨u, hu⟩ : ∃ u : Iv, u = { v with st := 1 } := ⟨_, rfl⟩
  rw [← hu] at HU
  have HUV := hid (show turnV Ls Bs v = uwV Ls Bs (tnN u n) from by unfold turnV; rw [← hu, ← hnn])
  have HUL := hid (show u.ms.length = n ∧ u.out.length = v.out.length from by rw [hu]; exact ⟨hnn.symm, rfl⟩)
  clear h hnn ha s1 s2 hu ho
  go_enter Tryz.func34, Tryz.ntmps34
  go_wp2_with fail
  go_loopw [2, 3, 14] (fun _a _b i wr => ∃ (k : Nat) (l1 : Il), k ≤ n ∧ i = .int .i64 k ∧ Hid (InP base base2 I P nm Ls Bs ask y (tnN u k) l1 wr ∧ Mw I P Ls Bs y v l y (tnN u k) l1 w wr)) (fun _a _b i _ => n - nOf i)
  case atStart => exact ⟨0, l, Nat.zero_le _, rfl, hid ⟨HU.out.1, Mw.of HU.out.2⟩⟩
  case round =>
    obtain ⟨k, l1, hk, rfl, HJ⟩ := hrel
    clear i3 lI c1 f1 HU
    by_cases hlt : k < n
    · have hku : k < (tnN u k).ms.length := by rw [tnN_ms, HUL.out.1]; exact hlt
      obtain ⟨gm, hgm, lgm⟩ := HJ.out.1.i.ma hku
      have HGM := hid hgm
      have HML := hid (HJ.out.2.m.s.1.1.symm.trans hgm)
      obtain ⟨m, hm⟩ : ∃ m, (tnN u k).ms[k]? = some m := ⟨_, List.getElem?_eq_getElem hku⟩
      have cm : wr.cell? ⟨gm, k, none⟩ = some (.int .i64 m) := HJ.out.1.i.mark hgm hm
      have hmk : mkA (tnN u k).ms k = m := by simp [mkA, List.getD, hm]
      have HMK := hid hmk
      have HKU := hid hku
      have HOL := hid (tnN_out u k)
      have HMV := hid hm
      clear hmk hm hku hgm
      rw [HML.out]
      cases hz : (m == 2) with
      | true =>
        have KT := hid (tell_any (X := fun _ => False) HJ.out.1.i (by have := HOL.out; have := HUL.out.2; have := HO.out; omega) 3 k 0 0 false)
        have HST := hid (show tnN u (k + 1) = { tnN u k with ms := (tnN u k).ms.set k 5, out := (tnN u k).out ++ [⟨3, (tnN u k).ord, k, 0, 0, false⟩] } from by
          show tnS (tnN u k) k = _
          unfold tnS
          rw [if_pos (by rw [HMK.out, hz])])
        go_wp2_with fail
        refine KT.out.mono ?_
        rintro e w7 ⟨rfl, OA', oc', T1, T2⟩
        have U1 := HJ.out.1.upd T1 T2 rfl
        obtain ⟨m1, m2⟩ := U1.i.setMark (X := fun _ => False) (k := k) HGM.out HKU.out 5
        have HU := hid (And.intro (U1.upd m1 m2 (by simp)) (T2.trans m2))
        have c7 : w7.cell? ⟨gm, k, none⟩ = some (.int .i64 m) := U1.i.mark HGM.out HMV.out
        have f7 : w7.frozen? ⟨gm, k, none⟩ = false := own_free (by have := U1.i.m; simp only at this; rw [HGM.out] at this; exact this) k
        have i7 : w7.cell? ⟨I, 3, none⟩ = some (.slice (some ⟨gm, 0, none⟩) n l1.mc) := by
          rw [U1.i.b.cell 3, ← HGM.out]
          simp [inC, tnN_ms, HUL.out.1]
        have lI := U1.i.b.lt
        have lg7 : gm < w7.heap.size := (U1.i.use (.inr (.inl (by simp only; rw [HGM.out]; rfl)) : IU I _ _ gm)).2
        clear U1 T1 T2 m1 m2 KT cm lgm
        go_wp2_with fail
        go_roundw
        case rel => exact ⟨k + 1, _, by omega, by go_num, by rw [HST.out]; exact hid ⟨HU.out.1, HJ.out.2.trans (Mw.of HU.out.2)⟩⟩
        case measure => simp [nOf]; omega
      | false =>
        have HST := hid (show tnN u (k + 1) = tnN u k from by
          show tnS (tnN u k) k = _
          unfold tnS
          rw [if_neg (by rw [HMK.out, hz]; simp)])
        go_wp2_with fail
        go_roundw
        case rel => exact ⟨k + 1, l1, by omega, by go_num, by rw [HST.out]; exact HJ⟩
        case measure => simp [nOf]; omega
    · have hk' : k = n := by omega
      subst hk'
      have KU := hid (unwind_any HJ.out.1 (by have := tnN_out u k; have := HUL.out.2; have := HO.out; omega) HA.out)
      go_wp2_with fail
      refine KU.out.mono ?_
      rintro e w5 ⟨rfl, ask', y', l', q1, q2, q3, q4⟩
      have HF := hid (And.intro q3 q4)
      clear q3 q4 KU
      go_wp2_with fail
      go_end0
      rw [HUV.out]
      exact ⟨rfl, ask', y', l', q1, q2, HF.out.1, HJ.out.2.trans HF.out.2⟩
end

end Go.Proofs.YtoemmakhbiiknaaGreat

namespace Go.Proofs.YtoemmakhbiiknaaGreat
open Go.RowKit Go.WideShapes Go.ChangeShapes Go.ChangeAt Go.Deep
set_option linter.unusedVariables false

/-- A pointer to a block. -/
def pB (b : Nat) : Value := .pointer (some ⟨b, 0, none⟩)
def kE13 (n : Int) : Value := .int .i64 n
theorem keyE13 : KeyLaw Tryz.prog 3 kE13 := intKey Tryz.underlying3
theorem zeroE13 (w : World) : (zeroValue 91).run Tryz.prog w = .ok (.pointer none) w := by kernel_rfl
/-- An engine, its instances' blocks. -/
structure IsEng (n0 : Nat) (X M : Nat) (es : List (Int × Nat)) (w : World) : Prop where
  blk : Blk w X 90 #[.map (some M)]
  map : IsMap w M kE13 pB es
  low : n0 ≤ X ∧ n0 ≤ M
section
variable {n0 X M : Nat} {es : List (Int × Nat)} {w w' : World}
theorem IsEng.touch {S : Nat → Prop} (h : IsEng n0 X M es w) (hT : Touch S w w') (hX : ¬ S X) (hM : ¬ S M) : IsEng n0 X M es w' := ⟨hT.blk h.blk hX, hT.isMap h.map hM, h.low⟩
theorem IsEng.next (h : IsEng n0 X M es w) (hb : Below w.heap.size w w') : IsEng n0 X M es w' := h.touch (S := fun _ => False) (.of_below hb) (fun h => h) (fun h => h)
theorem IsEng.look (h : IsEng n0 X M es w) (o : Int) : (Instr.lookup 88 (.map (some M)) (.int .i64 o) false).run Tryz.prog w = .ok (match mget es o with | some b => pB b | none => .pointer none) w :=
  by
    have := h.map.look keyE13 Tryz.underlying88 (zeroE13 _) o
    rw [show looked (.pointer none) pB es o = (match mget es o with | some b => pB b | none => .pointer none) from by unfold looked; cases mget es o <;> rfl] at this
    exact this
theorem enew_any (w : World) : Calls Tryz.prog 7 #[] w fun e w' => ∃ X M, e = .returned (.pointer (some ⟨X, 0, none⟩)) ∧ IsEng w.heap.size X M [] w' ∧ Below w.heap.size w w' := by
  have hmm := @run_makeMap Tryz.prog
  have hM1 := (IsMap.made w kE13 pB).alloc (.cells #[.map (some w.heap.size)] 90)
  have hb := Blk.new (w.alloc (.map #[] 0)) 90 #[.map (some w.heap.size)]
  rw [World.size_alloc] at hb
  have H := hid (show IsEng w.heap.size (w.heap.size + 1) w.heap.size [] ((w.alloc (.map #[] 0)).alloc (.cells #[.map (some w.heap.size)] 90)) from ⟨hb, hM1, by omega, by omega⟩)
  clear hb hM1
  go_enter Tryz.func7, Tryz.ntmps7
  go_wp2_with fail
  go_ret
  exact ⟨w.heap.size + 1, w.heap.size, by simp, H.out, ((Below.refl _ _).alloc (Nat.le_refl _) _).alloc (by simp) _⟩
/-- What 'find' answers. -/
def findV (es : List (Int × Nat)) (o : Int) : Value × Int := match mget es o with | some b => (pB b, 0) | none => (.pointer none, 70)
theorem find_nil (o : Int) (w : World) : Calls Tryz.prog 28 #[.pointer none, .int .i64 o] w fun e w' => e = .returned (.tuple #[.pointer none, .int .i64 1]) ∧ w' = w := by
  go_enter Tryz.func28, Tryz.ntmps28
  go_wp2_with fail
  go_ret2
  exact ⟨rfl, rfl⟩
theorem efind_any (h : IsEng n0 X M es w) (o : Int) : Calls Tryz.prog 28 #[.pointer (some ⟨X, 0, none⟩), .int .i64 o] w fun e w' => e = .returned (.tuple #[(findV es o).1, .int .i64 (findV es o).2]) ∧ w' = w := by
  have hL := h.look o
  have c0 : w.cell? ⟨X, 0, none⟩ = some (.map (some M)) := h.blk.cell 0
  have lX := h.blk.lt
  have HV := hid (show findV es o = (match mget es o with | some b => (pB b, 0) | none => (.pointer none, 70)) from rfl)
  clear h
  cases hg : mget es o with
  | some b =>
    rw [hg] at HV hL
    simp only [pB] at hL
    go_enter Tryz.func28, Tryz.ntmps28
    go_wp2_with fail
    go_ret2
    rw [HV.out]
    exact ⟨rfl, rfl⟩
  | none =>
    rw [hg] at HV hL
    simp only at hL
    go_enter Tryz.func28, Tryz.ntmps28
    go_wp2_with fail
    go_ret2
    rw [HV.out]
    exact ⟨rfl, rfl⟩
theorem room_nil (o : Int) (pv : Value) (w : World) : Calls Tryz.prog 43 #[.pointer none, .int .i64 o, pv] w fun e w' => e = .returned (.int .i64 1) ∧ w' = w := by
  go_enter Tryz.func43, Tryz.ntmps43
  go_wp2_with fail
  go_ret
  exact ⟨rfl, rfl⟩
theorem room_nil2 (xv : Nat) (o : Int) (w : World) : Calls Tryz.prog 43 #[.pointer (some ⟨xv, 0, none⟩), .int .i64 o, .pointer none] w fun e w' => e = .returned (.int .i64 1) ∧ w' = w := by
  go_enter Tryz.func43, Tryz.ntmps43
  go_wp2_with fail
  go_ret
  exact ⟨rfl, rfl⟩
def roomV (es : List (Int × Nat)) (o : Int) : Int := match mget es o with | some _ => 71 | none => 0
theorem room_any (h : IsEng n0 X M es w) (o : Int) (P : Nat) : Calls Tryz.prog 43 #[.pointer (some ⟨X, 0, none⟩), .int .i64 o, .pointer (some ⟨P, 0, none⟩)] w fun e w' => e = .returned (.int .i64 (roomV es o)) ∧ w' = w := by
  have hL := h.look o
  have c0 : w.cell? ⟨X, 0, none⟩ = some (.map (some M)) := h.blk.cell 0
  have lX := h.blk.lt
  have HV := hid (show roomV es o = (match mget es o with | some _ => 71 | none => 0) from rfl)
  clear h
  cases hg : mget es o with
  | some b =>
    rw [hg] at HV hL
    simp only [pB] at hL
    go_enter Tryz.func43, Tryz.ntmps43
    go_wp2_with fail
    go_ret
    rw [HV.out]
    exact ⟨rfl, rfl⟩
  | none =>
    rw [hg] at HV hL
    simp only at hL
    go_enter Tryz.func43, Tryz.ntmps43
    go_wp2_with fail
    go_ret
    rw [HV.out]
    exact ⟨rfl, rfl⟩
theorem at_nil (o st : Int) (w : World) : Calls Tryz.prog 30 #[.pointer none, .int .i64 o, .int .i64 st] w fun e w' => e = .returned (.tuple #[.pointer none, .int .i64 1]) ∧ w' = w := by
  have K := hid (find_nil o w)
  go_enter Tryz.func30, Tryz.ntmps30
  go_wp2_with fail
  refine K.out.mono ?_
  rintro e w2 ⟨rfl, rfl⟩
  go_wp2_with fail
  go_ret2
  exact ⟨rfl, rfl⟩
/-- No such order. -/
theorem at_none (h : IsEng n0 X M es w) (o st : Int) (hg : mget es o = none) : Calls Tryz.prog 30 #[.pointer (some ⟨X, 0, none⟩), .int .i64 o, .int .i64 st] w fun e w' => e = .returned (.tuple #[.pointer none, .int .i64 70]) ∧ w' = w := by
  have K := hid (efind_any h o)
  rw [show findV es o = (.pointer none, 70) from by unfold findV; rw [hg]] at K
  go_enter Tryz.func30, Tryz.ntmps30
  go_wp2_with fail
  refine K.out.mono ?_
  rintro e w2 ⟨rfl, rfl⟩
  go_wp2_with fail
  go_ret2
  exact ⟨rfl, rfl⟩
theorem at_some {base I : Nat} {vP : Value} {v : Iv} {l : Il} (h : IsEng n0 X M es w) (o st : Int) (hg : mget es o = some I) (hi : IsI base I vP v l w) : Calls Tryz.prog 30 #[.pointer (some ⟨X, 0, none⟩), .int .i64 o, .int .i64 st] w fun e w' => e = .returned (.tuple (if 0 ≤ st ∧ st < v.ms.length then #[.pointer (some ⟨I, 0, none⟩), .int .i64 0] else #[.pointer none, .int .i64 70])) ∧ w' = w := by
  have K := hid (efind_any h o)
  rw [show findV es o = (.pointer (some ⟨I, 0, none⟩), 0) from by unfold findV; rw [hg]; rfl] at K
  have i3 : w.cell? ⟨I, 3, none⟩ = some (.slice l.MA v.ms.length l.mc) := hi.b.cell 3
  have lI := hi.b.lt
  have hn := hi.n
  clear h hi hg
  obtain ⟨n, hnn⟩ : ∃ n, n = v.ms.length := ⟨_, rfl⟩
  rw [← hnn] at i3 hn ⊢
  clear hnn
  by_cases h0 : st < 0
  · rw [if_neg (by omega)]
    go_enter Tryz.func30, Tryz.ntmps30
    go_wp2_with fail
    refine K.out.mono ?_
    rintro e w2 ⟨rfl, rfl⟩
    go_wp2_with fail
    go_ret2
    exact ⟨rfl, rfl⟩
  · by_cases h1 : (n : Int) ≤ st
    · rw [if_neg (by omega)]
      go_enter Tryz.func30, Tryz.ntmps30
      go_wp2_with fail
      refine K.out.mono ?_
      rintro e w2 ⟨rfl, rfl⟩
      go_wp2_with fail
      go_ret2
      exact ⟨rfl, rfl⟩
    · rw [if_pos (by omega)]
      go_enter Tryz.func30, Tryz.ntmps30
      go_wp2_with fail
      refine K.out.mono ?_
      rintro e w2 ⟨rfl, rfl⟩
      go_wp2_with fail
      go_ret2
      exact ⟨rfl, rfl⟩
end

end Go.Proofs.YtoemmakhbiiknaaGreat
