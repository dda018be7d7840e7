/-
  The document's engine: an instance under way; all, tell.
  The document's engine: count.
  The document's engine: goOn.
  The law's ref: a definition, as the document has it (turned from XRe12's).
  Arguments with depth: slices whose elements are structs with slices in them; how long each is. No program, no condition.
  Layer 12: a definition of a flow as an argument.
-/
import Derived.Test.YtoemmakhbiiknaaGreatQa11
namespace Go.Proofs.YtoemmakhbiiknaaGreat
open Go.RowKit Go.WideShapes Go.ChangeShapes Go.ChangeAt Go.Deep
set_option linter.unusedVariables false

/-- The document's instance. -/
def inD (RP : Nat) (v : Iv) (l : Il) : Array Value := #[.int .i64 v.ord, .int .i64 v.st, .bool v.paid, .slice l.MA v.ms.length l.mc, .slice l.TA v.ts.length l.tc, .pointer (some ⟨RP, 0, none⟩)]
structure IsD (n0 : Nat) (X : Nat → Prop) (R J RP : Nat) (vL : Value) (v : Iv) (l : Il) (w : World) : Prop where
  r : Blk w R 34 #[vL, .slice l.OA v.out.length l.oc]
  b : Blk w J 106 (inD RP v l)
  m : w.ownsRow 0 3 1 (.slice l.MA v.ms.length l.mc) v.ms.length (v.ms.flatMap en1)
  t : w.ownsRow 0 3 1 (.slice l.TA v.ts.length l.tc) v.ts.length (v.ts.flatMap en1)
  o : w.ownsRow n0 163 6 (.slice l.OA v.out.length l.oc) v.out.length (v.out.flatMap enEf)
  mt : ∀ g, (Value.slice l.MA v.ms.length l.mc).ownBlock = some g → (Value.slice l.TA v.ts.length l.tc).ownBlock ≠ some g
  xm : ∀ g, (Value.slice l.MA v.ms.length l.mc).ownBlock = some g → X g
  xt : ∀ g, (Value.slice l.TA v.ts.length l.tc).ownBlock = some g → X g
  lo : X J ∧ n0 ≤ w.heap.size ∧ ∀ g, n0 ≤ g → X g
  n : v.ms.length ≤ 1000
  tl : v.ts.length = v.ms.length
/-- What a call of the document's engine may write: its own cell and what is new. -/
def DU (X : Nat → Prop) (R : Nat) (g : Nat) : Prop := g = R ∨ X g
/-- The document's plan, while an instance is under way. -/
structure RpK (X : Nat → Prop) (R bG base2 RP : Nat) (nm : ByteArray) (SA : Option Addr) (sc : Nat) (Lr : List Stp) (w : World) : Prop where
  r : RpS base2 RP nm SA sc Lr w
  af : ∀ s ∈ Lr, ∀ b, s.A.map (·.block) = some b → b < bG
  x : ∀ g, DU X R g → bG ≤ g ∧ g ≠ RP ∧ (Value.slice SA Lr.length sc).ownBlock ≠ some g
section
variable {n0 R J RP bG base2 sc : Nat} {X : Nat → Prop} {vL : Value} {v : Iv} {l : Il} {w w' : World} {nm : ByteArray} {SA : Option Addr} {Lr : List Stp}
theorem RpK.touch (h : RpK X R bG base2 RP nm SA sc Lr w) (hT : Touch (DU X R) w w') : RpK X R bG base2 RP nm SA sc Lr w' :=
  ⟨h.r.touch h.af hT h.x, h.af, h.x⟩
theorem RpK.next (h : RpK X R bG base2 RP nm SA sc Lr w) (hb : Below w.heap.size w w') : RpK X R bG base2 RP nm SA sc Lr w' := h.touch (Touch.of_below hb)
theorem IsD.next (h : IsD n0 X R J RP vL v l w) (hb : Below w.heap.size w w') : IsD n0 X R J RP vL v l w' :=
  ⟨h.r.next hb, h.b.next hb, own_next h.m hb, own_next h.t hb, own_next h.o hb, h.mt, h.xm, h.xt, ⟨h.lo.1, Nat.le_trans h.lo.2.1 hb.size, h.lo.2.2⟩, h.n, h.tl⟩
theorem setD_size (w : World) (a : Addr) (u : Value) : (w.setCell a u).heap.size = w.heap.size := by simp [World.setCell]
theorem IsD.setSt (h : IsD n0 X R J RP vL v l w) (s : Int) : IsD n0 X R J RP vL { v with st := s } l (w.setCell ⟨J, 1, none⟩ (.int .i64 s)) ∧ Touch (DU X R) w (w.setCell ⟨J, 1, none⟩ (.int .i64 s)) := by
  have hT := Touch.setCell w J 1 (.int .i64 s)
  refine ⟨⟨hT.blk h.r (fun e => h.b.ne_ h.r (by decide) e.symm), h.b.set_ 1 _, own_touch h.m hT (fun g hg e => own_notBlk h.m h.b (by decide) (by rw [hg, e])), own_touch h.t hT (fun g hg e => own_notBlk h.t h.b (by decide) (by rw [hg, e])), own_touch h.o hT (fun g hg e => own_notBlk h.o h.b (by decide) (by rw [hg, e])), h.mt, h.xm, h.xt, ⟨h.lo.1, by rw [setD_size]; exact h.lo.2.1, h.lo.2.2⟩, h.n, h.tl⟩, hT.mono (fun k hk => .inr (by rw [hk]; exact h.lo.1))⟩
theorem IsD.setMark (h : IsD n0 X R J RP vL v l w) {k g : Nat} (hg : l.MA = some ⟨g, 0, none⟩) (hk : k < v.ms.length) (s : Int) : IsD n0 X R J RP vL { v with ms := v.ms.set k s } l (w.setCell ⟨g, k, none⟩ (.int .i64 s)) ∧ Touch (DU X R) w (w.setCell ⟨g, k, none⟩ (.int .i64 s)) := by
  have hT := Touch.setCell w g k (.int .i64 s)
  have hbk : (Value.slice l.MA v.ms.length l.mc).ownBlock = some g := by rw [hg]; rfl
  have hm := h.m
  rw [hg] at hm
  obtain ⟨h3, _⟩ := hm.stored k (.int .i64 s)
  have e1 := set_flat en1 1 (fun _ => rfl) v.ms k 0 v.ms[k] (.int .i64 s) (List.getElem?_eq_getElem hk) (by omega) s rfl
  rw [Nat.mul_one, Nat.add_zero] at e1
  rw [e1] at h3
  have hB : Blk (w.setCell ⟨g, k, none⟩ (.int .i64 s)) J 106 (inD RP v l) := hT.blk h.b (fun e => own_notBlk h.m h.b (by decide) (by rw [hbk, e]))
  refine ⟨⟨hT.blk h.r (fun e => own_notBlk h.m h.r (by decide) (by rw [hbk, e])), by simpa [inD] using hB, by simpa [hg] using h3, own_touch h.t hT (fun g' hg' e => h.mt g hbk (by rw [hg', e])), own_touch h.o hT (fun g' hg' e => own_ne h.m (own_base h.o (Nat.zero_le _)) (by decide) hbk (by rw [hg', e])), by simpa using h.mt, by simpa using h.xm, by simpa using h.xt, ⟨h.lo.1, by rw [setD_size]; exact h.lo.2.1, h.lo.2.2⟩, by simpa using h.n, by simpa using h.tl⟩, hT.mono (fun k hk => .inr (by rw [hk]; exact h.xm g hbk))⟩
theorem IsD.setTry (h : IsD n0 X R J RP vL v l w) {k g : Nat} (hg : l.TA = some ⟨g, 0, none⟩) (hk : k < v.ts.length) (s : Int) : IsD n0 X R J RP vL { v with ts := v.ts.set k s } l (w.setCell ⟨g, k, none⟩ (.int .i64 s)) ∧ Touch (DU X R) w (w.setCell ⟨g, k, none⟩ (.int .i64 s)) := by
  have hT := Touch.setCell w g k (.int .i64 s)
  have hbk : (Value.slice l.TA v.ts.length l.tc).ownBlock = some g := by rw [hg]; rfl
  have hm := h.t
  rw [hg] at hm
  obtain ⟨h3, _⟩ := hm.stored k (.int .i64 s)
  have e1 := set_flat en1 1 (fun _ => rfl) v.ts k 0 v.ts[k] (.int .i64 s) (List.getElem?_eq_getElem hk) (by omega) s rfl
  rw [Nat.mul_one, Nat.add_zero] at e1
  rw [e1] at h3
  have hB : Blk (w.setCell ⟨g, k, none⟩ (.int .i64 s)) J 106 (inD RP v l) := hT.blk h.b (fun e => own_notBlk h.t h.b (by decide) (by rw [hbk, e]))
  refine ⟨⟨hT.blk h.r (fun e => own_notBlk h.t h.r (by decide) (by rw [hbk, e])), by simpa [inD] using hB, own_touch h.m hT (fun g' hg' e => h.mt g' hg' (by rw [hbk, e])), by simpa [hg] using h3, own_touch h.o hT (fun g' hg' e => own_ne h.t (own_base h.o (Nat.zero_le _)) (by decide) hbk (by rw [hg', e])), by simpa using h.mt, h.xm, by simpa using h.xt, ⟨h.lo.1, by rw [setD_size]; exact h.lo.2.1, h.lo.2.2⟩, h.n, by simpa using h.tl⟩, hT.mono (fun k hk => .inr (by rw [hk]; exact h.xt g hbk))⟩
theorem IsD.ma (h : IsD n0 X R J RP vL v l w) {k : Nat} (hk : k < v.ms.length) : ∃ g, l.MA = some ⟨g, 0, none⟩ ∧ g < w.heap.size := by
  obtain ⟨g, c, e, _, h2⟩ := own_form h.m (by omega)
  simp only [Value.slice.injEq] at e
  exact ⟨g, e.1, h2⟩
theorem IsD.ta (h : IsD n0 X R J RP vL v l w) {k : Nat} (hk : k < v.ms.length) : ∃ g, l.TA = some ⟨g, 0, none⟩ ∧ g < w.heap.size := by
  obtain ⟨g, c, e, _, h2⟩ := own_form h.t (by have := h.tl; omega)
  simp only [Value.slice.injEq] at e
  exact ⟨g, e.1, h2⟩
theorem IsD.mark (h : IsD n0 X R J RP vL v l w) {k g : Nat} (hg : l.MA = some ⟨g, 0, none⟩) {s : Int} (hs : v.ms[k]? = some s) : w.cell? ⟨g, k, none⟩ = some (.int .i64 s) := by
  have hm := h.m
  rw [hg] at hm
  have := own_cells (enc := en1) (fun _ => rfl) hm hs (j := 0) (u := .int .i64 s) rfl
  simpa using this
theorem IsD.try_ (h : IsD n0 X R J RP vL v l w) {k g : Nat} (hg : l.TA = some ⟨g, 0, none⟩) {s : Int} (hs : v.ts[k]? = some s) : w.cell? ⟨g, k, none⟩ = some (.int .i64 s) := by
  have hm := h.t
  rw [hg] at hm
  have := own_cells (enc := en1) (fun _ => rfl) hm hs (j := 0) (u := .int .i64 s) rfl
  simpa using this
theorem info_deff : (Tryz.prog.info? 163).map (fun i => (i.zero, i.size, i.bytes)) = some (some (.agg #[.int .i64 0, .int .i64 0, .int .i64 0, .int .i64 0, .int .i64 0, .bool false]), 6, 48) := by kernel_rfl
set_option maxRecDepth 100000 in
set_option maxHeartbeats 8000000 in
theorem dtell_any (h : IsD n0 X R J RP vL v l w) (ho : v.out.length ≤ 1000000) (kd st tr ti : Int) (u : Bool) :
    Calls Tryz.prog 76 #[.pointer (some ⟨R, 0, none⟩), .pointer (some ⟨J, 0, none⟩), .int .i64 kd, .int .i64 st, .int .i64 tr, .int .i64 ti, .bool u] w fun e w' => e = .returned (.tuple #[]) ∧ ∃ OA' oc', IsD n0 X R J RP vL { v with out := v.out ++ [⟨kd, v.ord, st, tr, ti, u⟩] } { l with OA := OA', oc := oc' } w' ∧ Touch (DU X R) w w' := by
  obtain ⟨i0, hi, hz0, hz1, hz2⟩ := info_parts info_deff
  have HI := hid h
  have i0' : w.cell? ⟨J, 0, none⟩ = some (.int .i64 v.ord) := h.b.cell 0
  have i6 : w.cell? ⟨R, 1, none⟩ = some (.slice l.OA v.out.length l.oc) := h.r.cell 1
  have f6 := h.r.free 1
  have lI := h.b.lt
  have lR := h.r.lt
  have hbs : n0 ≤ w.heap.size := h.lo.2.1
  obtain ⟨B, hB⟩ : ∃ B : Obj, B = .cells #[.int .i64 kd, .int .i64 v.ord, .int .i64 st, .int .i64 tr, .int .i64 ti, .bool u] 163 := ⟨_, rfl⟩
  have hbw : Below w.heap.size w (w.drew.alloc B) := (Below.refl _ _).drew.alloc (Nat.le_refl _) _
  have hn := h.next hbw
  have hO := hid hn.o
  have hRb := hid hn.r
  have HW := hid (show some R ≠ (Value.slice l.OA v.out.length l.oc).ownBlock from fun e => own_notBlk h.o h.r (by decide) e.symm)
  have HFIN : ∀ (g cap : Nat) (w7 : World), w7.ownsRow n0 163 6 (.slice (some ⟨g, 0, none⟩) (v.out.length + 1) cap) (v.out.length + 1) (v.out.flatMap enEf ++ [.int .i64 kd, .int .i64 v.ord, .int .i64 st, .int .i64 tr, .int .i64 ti, .bool u]) → (w.drew.alloc B).grownBy w7 (Value.slice l.OA v.out.length l.oc).ownBlock →
      ∃ OA' oc', IsD n0 X R J RP vL { v with out := v.out ++ [⟨kd, v.ord, st, tr, ti, u⟩] } { l with OA := OA', oc := oc' } (w7.setCell ⟨R, 1, none⟩ (.slice (some ⟨g, 0, none⟩) (v.out.length + 1) cap)) ∧ Touch (DU X R) w (w7.setCell ⟨R, 1, none⟩ (.slice (some ⟨g, 0, none⟩) (v.out.length + 1) cap)) := by
    intro g cap w7 hO7 hg7
    have hT7 : Touch (fun b => (Value.slice l.OA v.out.length l.oc).ownBlock = some b) (w.drew.alloc B) w7 := ⟨hg7.os, hg7.tape, hg7.output, hg7.size, fun k hk hn => hg7.block k hk (fun e => hn e.symm)⟩
    have hb7 := hT7.blk hn.b (fun e => own_notBlk hn.o hn.b (by decide) e)
    have hr7 := hT7.blk hn.r (fun e => HW.out e.symm)
    have hm7 := own_touch hn.m hT7 (fun q hq e => own_ne hn.m (own_base hn.o (Nat.zero_le _)) (by decide) hq e)
    have ht7 := own_touch hn.t hT7 (fun q hq e => own_ne hn.t (own_base hn.o (Nat.zero_le _)) (by decide) hq e)
    have hS := Touch.setCell w7 R 1 (.slice (some ⟨g, 0, none⟩) (v.out.length + 1) cap)
    have hb8 := hS.blk hb7 (fun e => hb7.ne_ hr7 (by decide) e)
    have hr8 := hr7.set_ 1 (.slice (some ⟨g, 0, none⟩) (v.out.length + 1) cap)
    have hm8 := own_touch hm7 hS (fun q hq e => own_notBlk hm7 hr7 (by decide) (by rw [hq, e]))
    have ht8 := own_touch ht7 hS (fun q hq e => own_notBlk ht7 hr7 (by decide) (by rw [hq, e]))
    have ho8 := own_touch hO7 hS (fun q hq e => own_notBlk hO7 hr7 (by decide) (by rw [hq, e]))
    refine ⟨some ⟨g, 0, none⟩, cap, ⟨?_, hb8, hm8, ht8, ?_, hn.mt, hn.xm, hn.xt, ⟨hn.lo.1, by rw [setD_size]; exact Nat.le_trans hn.lo.2.1 hT7.size, hn.lo.2.2⟩, hn.n, hn.tl⟩, ?_⟩
    · simpa using hr8
    · simpa [enEf] using ho8
    · exact ((Touch.of_below hbw).then (hT7.mono (fun k hk => .inr (hn.lo.2.2 k (hn.o.lt k hk).1)))).then (hS.mono (fun k hk => .inl hk))
  have HF := hid HFIN
  have HWS := hid (show (w.drew.alloc B).heap.size = w.heap.size + 1 from by simp)
  clear h hn HFIN hbw
  subst hB
  go_enter Tryz.func76, Tryz.ntmps76
  go_region_law ((refine step_append_lies _ (by rfl) _ _ _ (by rfl) n0 163 i0 _ 6 48 Tryz.underlying32 hi hz0 hz1 hz2 rfl (by decide) _ _ _ (by rfl) hO.out ⟨w.heap.size, 0, none⟩ 1 1 [.int .i64 kd, .int .i64 v.ord, .int .i64 st, .int .i64 tr, .int .i64 ti, .bool u] (by rfl) (by rfl) (World.news_of_block (heap_alloc_new _ _)) (enEf_one ⟨kd, v.ord, st, tr, ti, u⟩) (by omega) (by unfold maxLen; omega) (by omega) (by simp; omega) _ rfl ?_; intro g7 cap7 w7 hO7 hg7 hat7 hlt7; have hB7 := hRb.out.grown hg7 HW.out; have c7 : w7.cell? ⟨R, 1, none⟩ = some (.slice l.OA v.out.length l.oc) := hB7.cell 1; have f7 := hB7.free 1))
  all_goals
    have HZ := hid (HF.out _ _ _ hO7 hg7)
    clear hO7 hg7 hat7 HF hO hRb hlt7 hB7 c7 f7 i6 i0' f6
    go_wp2_with fail
    go_end0
    exact ⟨rfl, HZ.out⟩
/-- Have all of these steps one of two marks? -/
def dallB (ms : List Int) (xs : List Int) (a b : Int) : Bool := xs.all fun x => mkA ms x == a || mkA ms x == b
set_option maxRecDepth 100000 in
set_option maxHeartbeats 8000000 in
theorem dall_any (hd : IsD n0 X R J RP vL v l w) (hr : RpS base2 RP nm SA sc Lr w) (hn : v.ms.length = Lr.length) {q : Nat} {s : Stp} (hq : Lr[q]? = some s) (a b : Int) :
    Calls Tryz.prog 86 #[.pointer (some ⟨J, 0, none⟩), .int .i64 q, .bool false, .int .i64 a, .int .i64 b] w fun e w' => e = .returned (.bool (dallB v.ms (pickL (fun t => waitB s t) Lr Lr.length) a b)) ∧ Below w.heap.size w w' := by
  have K := hid (rbefore_any hr hq)
  have HD := hid hd
  have i5 : w.cell? ⟨J, 5, none⟩ = some (.pointer (some ⟨RP, 0, none⟩)) := hd.b.cell 5
  have lJ := hd.b.lt
  have hLr := hr.n
  have HPL := hid (pickL_len (fun t => waitB s t) Lr Lr.length)
  have HPX := hid (show ∀ x ∈ pickL (fun t => waitB s t) Lr Lr.length, ∃ k : Nat, x = (k : Int) ∧ k < v.ms.length from fun x hx => by
    obtain ⟨k, t, h1, h2, _⟩ := pickL_mem.1 hx
    exact ⟨k, h2, by omega⟩)
  generalize pickL (fun t => waitB s t) Lr Lr.length = xs at K HPL HPX ⊢
  clear hd hr hq
  go_enter Tryz.func86, Tryz.ntmps86
  go_wp2_with fail
  refine K.out.mono ?_
  rintro e w1 ⟨A, cap, rfl, hO, hb⟩
  clear K i5 lJ
  have HR := hid (own_rd hO)
  have HD1 := hid (HD.out.next hb)
  have HB := hid hb
  clear hO hb HD
  have hxl := HPL.out
  go_wp2_with fail
  go_loopw [12, 13] (fun i m wr => ∃ k : Nat, k ≤ xs.length ∧ i = .int .i64 k ∧ Hid ((xs.take k).all (fun x => mkA v.ms x == a || mkA v.ms x == b) = true) ∧ Hid (Below w1.heap.size w1 wr)) (fun i m _ => xs.length - nOf i)
  case atStart => exact ⟨0, Nat.zero_le _, rfl, hid rfl, hid (Below.refl _ _)⟩
  case round =>
    obtain ⟨k, hk, rfl, hT, hbr⟩ := hrel
    by_cases hlt : k < xs.length
    · obtain ⟨x, hx⟩ : ∃ x, xs[k]? = some x := ⟨xs[k], List.getElem?_eq_getElem hlt⟩
      obtain ⟨z, rfl, hz⟩ := HPX.out x (List.mem_of_getElem? hx)
      have HDr := hid (HD1.out.next hbr.out)
      have HTK := hid (take_succ_of hx)
      have HX := hid (List.mem_of_getElem? hx)
      obtain ⟨g, off, hAA, _, hcc⟩ := (HR.out.below hbr.out).at_ 1 (fun _ => rfl) (by omega) hx
      have HRr := hid hAA
      have q0 : wr.cell? ⟨g, off + k * 1, none⟩ = some (.int .i64 z) := hcc 0 _ rfl
      rw [Nat.mul_one] at q0
      obtain ⟨gm, hgm, lgm⟩ := HDr.out.ma hz
      have i3 : wr.cell? ⟨J, 3, none⟩ = some (.slice (some ⟨gm, 0, none⟩) v.ms.length l.mc) := by rw [HDr.out.b.cell 3, ← hgm]; rfl
      obtain ⟨m, hm⟩ : ∃ m, v.ms[z]? = some m := ⟨_, List.getElem?_eq_getElem hz⟩
      have cm : wr.cell? ⟨gm, z, none⟩ = some (.int .i64 m) := HDr.out.mark hgm hm
      have HMK := hid (show mkA v.ms z = m from by simp [mkA, List.getD, hm])
      have lJ := HDr.out.b.lt
      clear hgm hm hcc hx
      rw [hAA]
      clear hAA
      have HBR := hid hbr.out
      have HE := hid (show (mkA v.ms z == a || mkA v.ms z == b) = (m == a || m == b) from by rw [HMK.out])
      have HT1 := hid (show (m != a && m != b) = false → (xs.take (k + 1)).all (fun x => mkA v.ms x == a || mkA v.ms x == b) = true from fun h => by rw [HTK.out, List.all_append, hT.out]; simp only [List.all_cons, List.all_nil, Bool.and_true, Bool.true_and]; rw [HE.out]; revert h; simp only [bne]; cases (m == a) <;> cases (m == b) <;> simp)
      have HF1 := hid (show (m != a && m != b) = true → dallB v.ms xs a b = false from fun h => by
        unfold dallB
        rw [List.all_eq_false]
        exact ⟨_, HX.out, by rw [HE.out]; revert h; simp only [bne]; cases (m == a) <;> cases (m == b) <;> simp⟩)
      clear hbr hT HTK HX HE HMK HDr HD1
      cases e1 : (m != a) with
      | false =>
        have HT2 := hid (HT1.out (by rw [e1]; rfl))
        go_upto_region 7 with fail
        go_region
        all_goals
          go_wp2_with fail
          go_roundw
          case rel => exact ⟨k + 1, by omega, by go_num, HT2, hid (below_drewN HBR.out _)⟩
          case measure => simp [nOf]; omega
      | true =>
        cases e2 : (m != b) with
        | false =>
          have HT2 := hid (HT1.out (by rw [e1, e2]; rfl))
          go_upto_region 7 with fail
          go_region
          all_goals
            go_wp2_with fail
            go_roundw
            case rel => exact ⟨k + 1, by omega, by go_num, HT2, hid (below_drewN HBR.out _)⟩
            case measure => simp [nOf]; omega
        | true =>
          have HF2 := hid (HF1.out (by rw [e1, e2]; rfl))
          go_upto_region 7 with fail
          go_region
          all_goals
            go_wp2_with fail
            go_ret
            rw [HF2.out]
            exact ⟨rfl, bthen HB.out (below_drewN HBR.out _)⟩
    · have hk' : k = xs.length := by omega
      subst hk'
      have HV := hid (show dallB v.ms xs a b = true from by have := hT.out; rw [List.take_length] at this; exact this)
      go_wp2_with fail
      go_ret
      rw [HV.out]
      exact ⟨rfl, bthen HB.out hbr.out⟩
end

end Go.Proofs.YtoemmakhbiiknaaGreat

namespace Go.Proofs.YtoemmakhbiiknaaGreat
open Go.RowKit Go.WideShapes Go.ChangeShapes Go.ChangeAt Go.Deep
set_option linter.unusedVariables false

set_option maxRecDepth 100000 in
set_option maxHeartbeats 8000000 in
/-- How many steps have the mark. -/
theorem dcount_any (J : Nat) (MA : Option Addr) (mc : Nat) (ms : List Int) (m : Int) (w : World) (hJ : w.cell? ⟨J, 3, none⟩ = some (.slice MA ms.length mc)) (lJ : J < w.heap.size) (hM : Rd w MA (ms.flatMap en1)) (hl : ms.length ≤ 140737488355328) :
    Calls Tryz.prog 87 #[.pointer (some ⟨J, 0, none⟩), .int .i64 m] w fun e w' => e = .returned (.int .i64 ((ms.countP (fun x => x == m) : Nat) : Int)) ∧ w' = w := by
  have HM := hid hM
  clear hM
  go_enter Tryz.func87, Tryz.ntmps87
  go_wp2_with fail
  go_loop [5, 6] (fun n i => ∃ k : Nat, k ≤ ms.length ∧ i = .int .i64 k ∧ n = .int .i64 (((ms.take k).countP (fun x => x == m) : Nat) : Int)) (fun n i => ms.length - nOf i)
  case atStart => exact ⟨0, Nat.zero_le _, rfl, rfl⟩
  case round =>
    obtain ⟨k, hk, rfl, rfl⟩ := hrel
    by_cases hlt : k < ms.length
    · obtain ⟨x, hx⟩ : ∃ x, ms[k]? = some x := ⟨ms[k], List.getElem?_eq_getElem hlt⟩
      obtain ⟨b, off, hAA, _, hcc⟩ := HM.out.at_ 1 (fun _ => rfl) (by omega) hx
      subst hAA
      have q0 : w.cell? ⟨b, off + k * 1, none⟩ = some (.int .i64 x) := hcc 0 _ rfl
      rw [Nat.mul_one] at q0
      have hcl : ((ms.take k).countP (fun x => x == m)) ≤ ms.length := Nat.le_trans List.countP_le_length (by simp; omega)
      have HTK := hid (take_succ_of hx)
      have HLV := hid (show ((ms.take (k + 1)).countP (fun x => x == m)) = (ms.take k).countP (fun x => x == m) + (if (x == m) = true then 1 else 0) from by rw [HTK.out, List.countP_append]; simp [List.countP_cons])
      generalize (ms.take k).countP (fun x => x == m) = cn at hcl HLV ⊢
      clear hcc hx
      cases hs : (x == m) with
      | true =>
        have HS := hid hs
        go_wp2_with fail
        go_round
        case rel => exact ⟨k + 1, by omega, by go_num, by rw [HLV.out, if_pos HS.out]; go_num⟩
        case measure => simp [nOf]; omega
      | false =>
        have HS := hid hs
        go_wp2_with fail
        go_round
        case rel => exact ⟨k + 1, by omega, by go_num, by rw [HLV.out, if_neg (by rw [HS.out]; decide)]; rfl⟩
        case measure => simp [nOf]; omega
    · have hk' : k = ms.length := by omega
      subst hk'
      have HTA := hid (show ms.take ms.length = ms from List.take_length)
      rw [HTA.out]
      go_wp2_with fail
      go_ret
      exact ⟨rfl, rfl⟩

end Go.Proofs.YtoemmakhbiiknaaGreat

namespace Go.Proofs.YtoemmakhbiiknaaGreat
open Go.RowKit Go.WideShapes Go.ChangeShapes Go.ChangeAt Go.Deep
set_option linter.unusedVariables false

/-- The program's plan beside the document's. -/
structure SameP (Ls : List Stp) (Bs : List IRow) (Lr : List Stp) : Prop where
  len : Lr.length = Ls.length
  rows : RowsOk Ls Bs
  row : ∀ (q : Nat) (s : Stp), Lr[q]? = some s → rowAt Bs (q : Int) = pickL (fun t => waitB s t) Lr Lr.length
  st : ∀ (q : Nat) (t : Stp), Ls[q]? = some t → ∃ A c, Lr[q]? = some (twn t A c)
theorem bfOk_dall (Bs : List IRow) (v : Iv) (q : Nat) : bfOk Bs v q = dallB v.ms (rowAt Bs (q : Int)) 3 3 := by
  unfold bfOk dallB
  rw [List.not_any_eq_all_not]
  congr 1
  funext x
  simp
/-- The marks are marks. -/
def MkOk (ms : List Int) : Prop := ∀ m ∈ ms, 0 ≤ m ∧ m ≤ 5
theorem MkOk.set {ms : List Int} (h : MkOk ms) (k : Nat) {m : Int} (hm : 0 ≤ m ∧ m ≤ 5) : MkOk (ms.set k m) := fun x hx => by
  rcases List.mem_or_eq_of_mem_set hx with h1 | h1
  · exact h x h1
  · rw [h1]; exact hm
theorem bgV_mk {v : Iv} (h : MkOk v.ms) (s : Nat) (t : Stp) : MkOk (bgV v s t).ms := by
  unfold bgV
  split
  · exact h.set s (by omega)
  · split
    · exact h.set s (by omega)
    · exact h.set s (by omega)
theorem goS_mk {v : Iv} (Ls : List Stp) (Bs : List IRow) (h : MkOk v.ms) (s : Nat) : MkOk (goS Ls Bs v s).ms := by
  unfold goS
  split
  · cases Ls[s]? with
    | none => exact h
    | some t => exact bgV_mk h s t
  · exact h
theorem goN_mk {v : Iv} (Ls : List Stp) (Bs : List IRow) (h : MkOk v.ms) : ∀ k, MkOk (goN Ls Bs v k).ms
  | 0 => h
  | k + 1 => goS_mk Ls Bs (goN_mk Ls Bs h k) k
theorem done_all {ms : List Int} (h : MkOk ms) : (anyMk [0, 1, 2, 4, 5] ms = true ↔ ms.countP (fun x => x == 3) ≠ ms.length) := by
  have h1 := @List.countP_eq_length Int ms (fun x => x == 3)
  rw [ne_eq, h1]
  unfold anyMk
  rw [List.any_eq_true]
  constructor
  · rintro ⟨m, hm, hy⟩ hall
    have := hall m hm
    simp only [beq_iff_eq] at this
    subst this
    simp at hy
  · intro hn
    apply Classical.byContradiction
    intro hc
    refine hn fun m hm => ?_
    have hr := h m hm
    have : m = 3 := by
      apply Classical.byContradiction
      intro h3
      refine hc ⟨m, hm, ?_⟩
      have : m = 0 ∨ m = 1 ∨ m = 2 ∨ m = 4 ∨ m = 5 := by omega
      rcases this with rfl | rfl | rfl | rfl | rfl <;> rfl
    simp [this]
section
variable {n0 R J RP bG base2 sc : Nat} {X : Nat → Prop} {vL : Value} {v : Iv} {l : Il} {w w' : World} {nm : ByteArray} {SA : Option Addr} {Ls Lr : List Stp} {Bs : List IRow}
/-- The instance between the rounds. -/
structure DgS (w0 : World) (n0 : Nat) (X : Nat → Prop) (R J RP bG base2 : Nat) (nm : ByteArray) (SA : Option Addr) (sc : Nat) (Lr : List Stp) (vL : Value) (v : Iv) (l : Il) (w : World) : Prop where
  d : IsD n0 X R J RP vL v l w
  p : RpK X R bG base2 RP nm SA sc Lr w
  t : Touch (DU X R) w0 w
theorem DgS.next {w0 : World} (h : DgS w0 n0 X R J RP bG base2 nm SA sc Lr vL v l w) (hb : Below w.heap.size w w') : DgS w0 n0 X R J RP bG base2 nm SA sc Lr vL v l w' := ⟨h.d.next hb, h.p.next hb, h.t.then (Touch.of_below hb)⟩
theorem DgS.upd {w0 : World} {v1 : Iv} {l1 : Il} (h : DgS w0 n0 X R J RP bG base2 nm SA sc Lr vL v l w) (hd : IsD n0 X R J RP vL v1 l1 w') (hT : Touch (DU X R) w w') : DgS w0 n0 X R J RP bG base2 nm SA sc Lr vL v1 l1 w' := ⟨hd, h.p.touch hT, h.t.then hT⟩
set_option maxRecDepth 100000 in
set_option maxHeartbeats 16000000 in
theorem dgoOn_any (h : IsD n0 X R J RP vL v l w) (hp : RpK X R bG base2 RP nm SA sc Lr w) (hs : SameP Ls Bs Lr) (hmn : v.ms.length = Ls.length) (hrg : MkOk v.ms) (ho : v.out.length ≤ 900000) :
    Calls Tryz.prog 57 #[.pointer (some ⟨R, 0, none⟩), .pointer (some ⟨J, 0, none⟩)] w fun e w' => e = .returned (.tuple #[]) ∧ ∃ l', DgS w n0 X R J RP bG base2 nm SA sc Lr vL (goV Ls Bs v) l' w' := by
  have HI := hid (DgS.mk (w0 := w) h hp (Touch.refl _ _))
  have HS := hid hs
  have HMN := hid hmn
  have hn := h.n
  have HRG := hid hrg
  clear h hp hs hmn hrg
  go_enter Tryz.func57, Tryz.ntmps57
  go_wp2_with fail
  go_loopw [4] (fun i wr => ∃ (k : Nat) (l1 : Il), k ≤ v.ms.length ∧ i = .int .i64 k ∧ Hid (DgS w n0 X R J RP bG base2 nm SA sc Lr vL (goN Ls Bs v k) l1 wr)) (fun i _ => v.ms.length - nOf i)
  case atStart => exact ⟨0, l, Nat.zero_le _, rfl, HI⟩
  case round =>
    obtain ⟨k, l1, hk, rfl, HJ⟩ := hrel
    have i3 : wr.cell? ⟨J, 3, none⟩ = some (.slice l1.MA v.ms.length l1.mc) := by have := HJ.out.d.b.cell 3; simpa [inD, goN_ms] using this
    have lJ := HJ.out.d.b.lt
    by_cases hlt : k < v.ms.length
    · have hku : k < (goN Ls Bs v k).ms.length := by rw [goN_ms]; exact hlt
      have HKU := hid hku
      have hLs : k < Ls.length := by have := HMN.out; omega
      obtain ⟨t, ht⟩ : ∃ t, Ls[k]? = some t := ⟨_, List.getElem?_eq_getElem hLs⟩
      obtain ⟨tA, tc, htr⟩ := HS.out.st k t ht
      have hml : (goN Ls Bs v k).ms.length = Lr.length := by rw [goN_ms, HMN.out, HS.out.len]
      have KA := hid (dall_any HJ.out.d HJ.out.p.r hml htr 3 3)
      rw [← HS.out.row k _ htr, ← bfOk_dall] at KA
      have HT := hid ht
      have HTR := hid htr
      have HOL := hid (goN_out Ls Bs v k)
      have HST := hid (show goN Ls Bs v (k + 1) = goS Ls Bs (goN Ls Bs v k) k from rfl)
      obtain ⟨m, hm⟩ : ∃ m, (goN Ls Bs v k).ms[k]? = some m := ⟨_, List.getElem?_eq_getElem hku⟩
      have HMK := hid (show mkA (goN Ls Bs v k).ms k = m from by simp [mkA, List.getD, hm])
      have HM := hid hm
      have HVL := hid (show (goN Ls Bs v k).ms.length = v.ms.length from goN_ms Ls Bs v k)
      generalize hgv : goN Ls Bs v k = u at *
      clear hgv ht htr hml hm hku
      obtain ⟨bo, hbo⟩ : ∃ bo, bfOk Bs u k = bo := ⟨_, rfl⟩
      rw [hbo] at KA
      have HBO := hid hbo
      clear hbo
      go_wp2_with fail
      refine KA.out.mono ?_
      rintro e w3 ⟨rfl, hb3⟩
      have H3 := hid (HJ.out.next hb3)
      clear KA HJ hb3 i3 lJ
      obtain ⟨gm, hgm, lgm⟩ := H3.out.d.ma HKU.out
      have HGM := hid hgm
      have i3 : w3.cell? ⟨J, 3, none⟩ = some (.slice (some ⟨gm, 0, none⟩) v.ms.length l1.mc) := by have := H3.out.d.b.cell 3; simpa [inD, HVL.out, hgm] using this
      have lJ := H3.out.d.b.lt
      have cm : w3.cell? ⟨gm, k, none⟩ = some (.int .i64 m) := H3.out.d.mark hgm HM.out
      clear hgm
      cases em : (m != 0) with
      | true =>
        have HSK := hid (show goN Ls Bs v (k + 1) = u from by
          rw [HST.out]; unfold goS
          rw [if_neg (by rw [HMK.out]; simp only [bne] at em; cases h0 : (m == 0) <;> simp_all)])
        go_wp2_with fail
        go_roundw
        case rel => exact ⟨k + 1, l1, by omega, by go_num, by rw [HSK.out]; exact H3⟩
        case measure => simp [nOf]; omega
      | false =>
        cases bo with
        | false =>
          have HSK := hid (show goN Ls Bs v (k + 1) = u from by
            rw [HST.out]; unfold goS
            rw [if_neg (by rw [HBO.out]; simp)])
          go_wp2_with fail
          go_roundw
          case rel => exact ⟨k + 1, l1, by omega, by go_num, by rw [HSK.out]; exact H3⟩
          case measure => simp [nOf]; omega
        | true =>
          have HSK := hid (show goN Ls Bs v (k + 1) = bgV u k t from by
            rw [HST.out]; unfold goS
            rw [if_pos (by rw [HMK.out, HBO.out]; simp only [bne] at em; cases h0 : (m == 0) <;> simp_all), HT.out])
          have i5 : w3.cell? ⟨J, 5, none⟩ = some (.pointer (some ⟨RP, 0, none⟩)) := H3.out.d.b.cell 5
          have p1 : w3.cell? ⟨RP, 1, none⟩ = some (.slice SA Lr.length sc) := H3.out.p.r.p.cell 1
          have lP := H3.out.p.r.p.lt
          have hkr : k < Lr.length := (List.getElem?_eq_some_iff.1 HTR.out).1
          have hLrn := H3.out.p.r.n
          obtain ⟨sb, so, hAA, _, hcc⟩ := (own_rd H3.out.p.r.os).at_ 9 enSt_len (by omega) HTR.out
          have HSA := hid hAA
          obtain ⟨xn, xv, xu, xe, xf, xr, xy, xw, xA, xc, xl⟩ := t
          have q0 : w3.cell? ⟨sb, so + k * 9, none⟩ = some (.string xn) := hcc 0 _ rfl
          have q1 : w3.cell? ⟨sb, so + k * 9 + 1, none⟩ = some (.string xv) := hcc 1 _ rfl
          have q2 : w3.cell? ⟨sb, so + k * 9 + 2, none⟩ = some (.string xu) := hcc 2 _ rfl
          have q3 : w3.cell? ⟨sb, so + k * 9 + 3, none⟩ = some (.string xe) := hcc 3 _ rfl
          have q4 : w3.cell? ⟨sb, so + k * 9 + 4, none⟩ = some (.bool xf) := hcc 4 _ rfl
          have q5 : w3.cell? ⟨sb, so + k * 9 + 5, none⟩ = some (.int .i64 xr) := hcc 5 _ rfl
          have q6 : w3.cell? ⟨sb, so + k * 9 + 6, none⟩ = some (.int .i64 xy) := hcc 6 _ rfl
          have q7 : w3.cell? ⟨sb, so + k * 9 + 7, none⟩ = some (.int .i64 xw) := hcc 7 _ rfl
          have q8 : w3.cell? ⟨sb, so + k * 9 + 8, none⟩ = some (.slice tA xl.length tc) := hcc 8 _ rfl
          rw [hAA] at p1
          clear hcc hAA
          go_upto_region 6 with fail
          have hB := Blk.new w3 156 #[.string xn, .string xv, .string xu, .string xe, .bool xf, .int .i64 xr, .int .i64 xy, .int .i64 xw, .slice tA xl.length tc]
          have hbW : Below w3.heap.size w3 (w3.alloc (.cells #[.string xn, .string xv, .string xu, .string xe, .bool xf, .int .i64 xr, .int .i64 xy, .int .i64 xw, .slice tA xl.length tc] 156)) := (Below.refl _ _).alloc (Nat.le_refl _) _
          have hDlt := hid (show gm < w3.heap.size from lgm)
          clear q0 q1 q2 q3 q4 q5 q6 q7 q8 p1 lP i3 i5 lJ cm lgm
          generalize w3.alloc (.cells #[.string xn, .string xv, .string xu, .string xe, .bool xf, .int .i64 xr, .int .i64 xy, .int .i64 xw, .slice tA xl.length tc] 156) = W at hB hbW ⊢
          have HW := hid (H3.out.next hbW)
          have b3 : W.cell? ⟨w3.heap.size, 3, none⟩ = some (.string xe) := hB.cell 3
          have b7 : W.cell? ⟨w3.heap.size, 7, none⟩ = some (.int .i64 xw) := hB.cell 7
          have lG := hB.lt
          have hgG : gm ≠ w3.heap.size := fun e => by have := hDlt.out; omega
          generalize w3.heap.size = G at hB lG b3 b7 hgG hbW ⊢
          clear hB hbW H3 hDlt
          have hku : k < u.ms.length := HKU.out
          have hkt : k < u.ts.length := by have := HW.out.d.tl; omega
          obtain ⟨gt, hgt, lgt⟩ := HW.out.d.ta hku
          have HGT := hid hgt
          have HKT := hid hkt
          have hum : u.ms.length = v.ms.length := HVL.out
          have hut : u.ts.length = v.ms.length := by have := HW.out.d.tl; omega
          have i3 : W.cell? ⟨J, 3, none⟩ = some (.slice (some ⟨gm, 0, none⟩) v.ms.length l1.mc) := by rw [HW.out.d.b.cell 3, ← HGM.out, ← hum]; rfl
          have i4 : W.cell? ⟨J, 4, none⟩ = some (.slice (some ⟨gt, 0, none⟩) v.ms.length l1.tc) := by rw [HW.out.d.b.cell 4, ← hgt, ← hut]; rfl
          have i2 : W.cell? ⟨J, 2, none⟩ = some (.bool u.paid) := HW.out.d.b.cell 2
          have lJ := HW.out.d.b.lt
          have lgm : gm < W.heap.size := by obtain ⟨g', h1, h2⟩ := HW.out.d.ma hku; rw [HGM.out] at h1; simp only [Option.some.injEq, Addr.mk.injEq, and_true] at h1; omega
          have cm : W.cell? ⟨gm, k, none⟩ = some (.int .i64 m) := HW.out.d.mark HGM.out HM.out
          have ct : W.cell? ⟨gt, k, none⟩ = some (.int .i64 u.ts[k]) := HW.out.d.try_ hgt (List.getElem?_eq_getElem hkt)
          have fm : W.frozen? ⟨gm, k, none⟩ = false := own_free (by have := HW.out.d.m; rw [HGM.out] at this; exact this) k
          have ft : W.frozen? ⟨gt, k, none⟩ = false := own_free (by have := HW.out.d.t; rw [hgt] at this; exact this) k
          have hne : gm ≠ gt := fun e => HW.out.d.mt gm (by rw [HGM.out]; rfl) (by rw [hgt, e]; rfl)
          have hJm : J ≠ gm := fun e => own_notBlk HW.out.d.m HW.out.d.b (by decide) (g := J) (by rw [HGM.out, e]; rfl)
          have hmJ := hJm.symm
          clear hgt hum hut
          generalize u.ts[k] = tq at ct
          cases he : xe.toList.isEmpty with
          | true =>
            have HV := hid (show bgV u k ⟨xn, xv, xu, xe, xf, xr, xy, xw, xA, xc, xl⟩ = { u with ms := u.ms.set k 1, ts := u.ts.set k 1, out := u.out ++ [⟨1, u.ord, k, 1, 0, false⟩] } from if_pos he)
            obtain ⟨m1, m2⟩ := HW.out.d.setMark HGM.out hku 1
            have U1 := HW.out.upd m1 m2
            obtain ⟨t1, t2⟩ := m1.setTry HGT.out hkt 1
            have U2 := U1.upd t1 t2
            have HTL := hid (dtell_any U2.d (by have := HOL.out; show u.out.length ≤ _; omega) 1 k 1 0 false)
            have HU2 := hid U2
            clear m1 m2 U1 t1 t2 U2
            go_wp2_with fail
            refine HTL.out.mono ?_
            rintro e w5 ⟨rfl, OA', oc', T1, T2⟩
            have HU3 := hid (HU2.out.upd T1 T2)
            clear T1 T2 HTL HU2
            go_wp2_with fail
            go_roundw
            case rel => exact ⟨k + 1, _, by omega, by go_num, by rw [HSK.out, HV.out]; exact HU3⟩
            case measure => simp [nOf]; omega
          | false =>
            cases hpd : u.paid with
            | true =>
              have HV := hid (show bgV u k ⟨xn, xv, xu, xe, xf, xr, xy, xw, xA, xc, xl⟩ = { u with ms := u.ms.set k 3 } from by unfold bgV; rw [if_neg (by rw [he]; decide), if_pos hpd])
              obtain ⟨m1, m2⟩ := HW.out.d.setMark HGM.out hku 3
              have HU := hid (HW.out.upd m1 m2)
              clear m1 m2
              go_wp2_with fail
              go_roundw
              case rel => exact ⟨k + 1, _, by omega, by go_num, by rw [HSK.out, HV.out]; exact HU⟩
              case measure => simp [nOf]; omega
            | false =>
              have HV := hid (show bgV u k ⟨xn, xv, xu, xe, xf, xr, xy, xw, xA, xc, xl⟩ = { u with ms := u.ms.set k 2, out := u.out ++ [⟨2, u.ord, k, 0, xw, false⟩] } from by unfold bgV; rw [if_neg (by rw [he]; decide), if_neg (by rw [hpd]; decide)])
              obtain ⟨m1, m2⟩ := HW.out.d.setMark HGM.out hku 2
              have U1 := HW.out.upd m1 m2
              have HTL := hid (dtell_any U1.d (by have := HOL.out; show u.out.length ≤ _; omega) 2 k 0 xw false)
              have HU := hid U1
              clear m1 m2 U1
              go_wp2_with fail
              refine HTL.out.mono ?_
              rintro e w5 ⟨rfl, OA', oc', T1, T2⟩
              have HU2 := hid (HU.out.upd T1 T2)
              clear T1 T2 HTL HU
              go_wp2_with fail
              go_roundw
              case rel => exact ⟨k + 1, _, by omega, by go_num, by rw [HSK.out, HV.out]; exact HU2⟩
              case measure => simp [nOf]; omega
    · have hk' : k = v.ms.length := by omega
      subst hk'
      have HNM := hid (goN_mk Ls Bs HRG.out v.ms.length)
      have HGV := hid (show goV Ls Bs v = if anyMk [0, 1, 2, 4, 5] (goN Ls Bs v v.ms.length).ms = true then goN Ls Bs v v.ms.length else { goN Ls Bs v v.ms.length with st := 2 } from rfl)
      have hVL : (goN Ls Bs v v.ms.length).ms.length = v.ms.length := goN_ms Ls Bs v v.ms.length
      generalize goN Ls Bs v v.ms.length = u at *
      have KC := hid (dcount_any J l1.MA l1.mc u.ms 3 wr (HJ.out.d.b.cell 3) lJ (own_rd HJ.out.d.m) (by omega))
      have hle : u.ms.countP (fun x => x == 3) ≤ v.ms.length := by rw [← hVL]; exact List.countP_le_length
      have HDA := hid (done_all HNM.out)
      generalize u.ms.countP (fun x => x == 3) = c at KC hle HDA
      go_wp2_with fail
      refine KC.out.mono ?_
      rintro e w3 ⟨rfl, rfl⟩
      clear KC
      cases hc : decide (c = v.ms.length) with
      | true =>
        have hc' := of_decide_eq_true hc
        subst hc'
        have HV2 := hid (show goV Ls Bs v = { u with st := 2 } from by rw [HGV.out, if_neg (fun h => HDA.out.1 h hVL.symm)])
        have c1 : w3.cell? ⟨J, 1, none⟩ = some (.int .i64 u.st) := HJ.out.d.b.cell 1
        have f1 := HJ.out.d.b.free 1
        obtain ⟨s1, s2⟩ := HJ.out.d.setSt 2
        have HU := hid (HJ.out.upd s1 s2)
        clear s1 s2
        go_wp2_with fail
        go_end0
        rw [HV2.out]
        exact ⟨rfl, _, HU.out⟩
      | false =>
        have hc' := of_decide_eq_false hc
        have HV2 := hid (show goV Ls Bs v = u from by rw [HGV.out, if_pos (HDA.out.2 (by omega))])
        go_wp2_with fail
        go_end0
        rw [HV2.out]
        exact ⟨rfl, _, HJ.out⟩
end

end Go.Proofs.YtoemmakhbiiknaaGreat

namespace Go.Proofs.YtoemmakhbiiknaaGreat
open Go.RowKit Go.MapKept Go.ChangeMaps Go.WideShapes Go.ChangeShapes Go.ChangeAt Go.Deep
set_option linter.unusedVariables false

/-- While ref runs. -/
structure RfS (w0 : World) (D R O : Nat) (nm : ByteArray) (A : Option Addr) (n cp : Nat) (SA : Option Addr) (sc : Nat) (Ls : List Stp) (w : World) : Prop where
  d : Blk w D 60 #[.string nm, .slice A n cp]
  r : Blk w R 86 #[.string ⟨#[]⟩, .slice none 0 0]
  o : Blk w O 86 #[.string nm, .slice SA Ls.length sc]
  ne : R ≠ O
  os : w.ownsRow w0.heap.size 156 9 (.slice SA Ls.length sc) Ls.length (Ls.flatMap enSt)
  st : ∀ s ∈ Ls, OwnSt w0.heap.size w s
  bel : Below w0.heap.size w0 w
  lo : w0.heap.size ≤ R ∧ w0.heap.size ≤ O
section
variable {w0 : World} {D R O : Nat} {nm : ByteArray} {A : Option Addr} {n cp : Nat} {SA : Option Addr} {sc : Nat} {Ls : List Stp} {w w' : World}
theorem RfS.next (h : RfS w0 D R O nm A n cp SA sc Ls w) (hb : Below w.heap.size w w') : RfS w0 D R O nm A n cp SA sc Ls w' :=
  ⟨h.d.next hb, h.r.next hb, h.o.next hb, h.ne, own_next h.os hb, fun s hs => own_next (h.st s hs) hb, bthen h.bel hb, h.lo⟩
theorem RfS.grew {g cap : Nat} (h : RfS w0 D R O nm A n cp SA sc Ls w) (hg : w.grownBy w' (Value.slice SA Ls.length sc).ownBlock) (t : Stp) (ho : w'.ownsRow w0.heap.size 156 9 (.slice (some ⟨g, 0, none⟩) (Ls.length + 1) cap) (Ls.length + 1) (Ls.flatMap enSt ++ enSt t)) (ht : OwnSt w0.heap.size w t) :
    RfS w0 D R O nm A n cp (some ⟨g, 0, none⟩) cap (Ls ++ [t]) (w'.setCell ⟨O, 1, none⟩ (.slice (some ⟨g, 0, none⟩) (Ls.length + 1) cap)) := by
  have hT := touch_own hg
  have hd := hT.blk h.d (fun e => own_notBlk h.os h.d (by decide) e)
  have hr := hT.blk h.r (fun e => own_notBlk h.os h.r (by decide) e)
  have hO := hT.blk h.o (fun e => own_notBlk h.os h.o (by decide) e)
  have hT2 := Touch.setCell w' O 1 (.slice (some ⟨g, 0, none⟩) (Ls.length + 1) cap)
  have no : ∀ {base : Nat} {e : TypeId} {size : Nat} {v : Value} {n : Nat} {xs : List Value}, 156 ≠ e → w.ownsRow base e size v n xs → w'.ownsRow base e size v n xs := fun hne ho2 => own_touch ho2 hT (fun g hg e => own_other h.os ho2 hne hg e)
  have no2 : ∀ {base : Nat} {e : TypeId} {size : Nat} {v : Value} {n : Nat} {xs : List Value}, e ≠ 86 → w'.ownsRow base e size v n xs → (w'.setCell ⟨O, 1, none⟩ (.slice (some ⟨g, 0, none⟩) (Ls.length + 1) cap)).ownsRow base e size v n xs := fun hne ho2 => own_touch ho2 hT2 (fun g hg e => own_notBlk ho2 hO hne (by rw [hg, e]))
  have hb := h.bel.trans (hT.below h.bel.size (fun k hk => (h.os.lt k hk).1))
  have hl : (Ls ++ [t]).length = Ls.length + 1 := by simp
  refine ⟨hT2.blk hd (fun e => hd.ne_ hO (by decide) e), hT2.blk hr (fun e => h.ne e), ?_, h.ne, ?_, fun s hs => ?_, hb.trans (hT2.below hb.size (fun k hk => by rw [hk]; exact h.lo.2)), h.lo⟩
  · rw [hl]; exact hO.set_ 1 _
  · have := no2 (by decide) ho
    rw [List.flatMap_append, hl]
    simpa using this
  · rcases List.mem_append.1 hs with hs | hs
    · exact no2 (by decide) (no (by decide) (h.st s hs))
    · simp at hs; subst hs; exact no2 (by decide) (no (by decide) ht)
end
theorem info_rstep12 : (Tryz.prog.info? 156).map (fun i => (i.zero, i.size, i.bytes)) = some (some (.agg #[.string ⟨#[]⟩, .string ⟨#[]⟩, .string ⟨#[]⟩, .string ⟨#[]⟩, .bool false, .int .i64 0, .int .i64 0, .int .i64 0, .slice none 0 0]), 9, 120) := by kernel_rfl
/-- What ref answers. -/
def RefR (nm : ByteArray) (l : List Stp) (w : World) (e : Ending) (w' : World) : Prop := ∃ (SA : Option Addr) (sc : Nat) (Ls : List Stp), e = .returned (.agg #[.string nm, .slice SA Ls.length sc]) ∧ Twins l Ls ∧ w'.ownsRow w.heap.size 156 9 (.slice SA Ls.length sc) Ls.length (Ls.flatMap enSt) ∧ (∀ s ∈ Ls, OwnSt w.heap.size w' s) ∧ Below w.heap.size w w'

set_option maxRecDepth 100000 in
set_option maxHeartbeats 32000000 in
theorem ref_any (nm : ByteArray) (l : List Stp) (A : Option Addr) (cp : Nat) (w : World) (hR : Rd w A (l.flatMap enSt)) (hok : ∀ s ∈ l, OkSt w s) (hl : l.length ≤ 1000) :
    Calls Tryz.prog 27 #[.agg #[.string nm, .slice A l.length cp]] w (RefR nm l w) := by
  have HOK := hid hok
  have HR := hid hR
  clear hok hR
  have hD0 := Blk.new w 60 #[.string nm, .slice A l.length cp]
  have b0 : Below w.heap.size w (w.alloc (.cells #[.string nm, .slice A l.length cp] 60)) := (Below.refl _ _).alloc (Nat.le_refl _) _
  obtain ⟨w1, e1⟩ : ∃ w1, w1 = w.alloc (.cells #[.string nm, .slice A l.length cp] 60) := ⟨_, rfl⟩
  obtain ⟨D, g1⟩ : ∃ D, D = w.heap.size := ⟨_, rfl⟩
  rw [← e1] at hD0 b0
  rw [← g1] at hD0
  have hR0 := Blk.new w1 86 #[.string ⟨#[]⟩, .slice none 0 0]
  have b1 : Below w1.heap.size w1 (w1.alloc (.cells #[.string ⟨#[]⟩, .slice none 0 0] 86)) := (Below.refl _ _).alloc (Nat.le_refl _) _
  obtain ⟨w2, e2⟩ : ∃ w2, w2 = w1.alloc (.cells #[.string ⟨#[]⟩, .slice none 0 0] 86) := ⟨_, rfl⟩
  obtain ⟨R, g2⟩ : ∃ R, R = w1.heap.size := ⟨_, rfl⟩
  rw [← e2] at hR0 b1
  rw [← g2] at hR0
  have hO0 := Blk.new w2 86 #[.string nm, .slice none 0 0]
  have b2 : Below w2.heap.size w2 (w2.alloc (.cells #[.string nm, .slice none 0 0] 86)) := (Below.refl _ _).alloc (Nat.le_refl _) _
  obtain ⟨w3, e3⟩ : ∃ w3, w3 = w2.alloc (.cells #[.string nm, .slice none 0 0] 86) := ⟨_, rfl⟩
  obtain ⟨O, g3⟩ : ∃ O, O = w2.heap.size := ⟨_, rfl⟩
  rw [← e3] at hO0 b2
  rw [← g3] at hO0
  have hs1 : w1.heap.size = w.heap.size + 1 := by rw [e1, World.size_alloc]
  have hs2 : w2.heap.size = w1.heap.size + 1 := by rw [e2, World.size_alloc]
  have hS : RfS w D R O nm A l.length cp none 0 [] w3 := ⟨(hD0.next b1).next b2, hR0.next b2, hO0, by omega, World.ownsRow_nil _ _ _ _, (fun s hs => by cases hs), bthen (bthen b0 b1) b2, by omega, by omega⟩
  have HS := hid hS
  have c0 : w1.cell? ⟨D, 0, none⟩ = some (.string nm) := hD0.cell 0
  have c2 : w2.cell? ⟨D, 0, none⟩ = some (.string nm) := (hD0.next b1).cell 0
  have lD : D < w1.heap.size := hD0.lt
  have lD2 : D < w2.heap.size := by omega
  have HE := hid (And.intro e1 (And.intro g1 (And.intro e2 (And.intro g2 (And.intro e3 g3)))))
  have HSZ := hid (And.intro hs1 hs2)
  have HT0 := hid (show Twins (l.take 0) [] from ⟨by simp, fun k s h => by simp at h⟩)
  clear hD0 b0 e1 g1 hR0 b1 e2 g2 hO0 b2 e3 g3 hS hs1 hs2
  go_enter Tryz.func27, Tryz.ntmps27
  go_upto_region 1 with fail
  rw [← HE.out.1, ← HE.out.2.2.1, ← HE.out.2.1, show D + 1 = R from by rw [HE.out.2.2.2.1, HSZ.out.1, HE.out.2.1]]
  go_upto_region 2 with fail
  rw [← HE.out.2.2.2.2.2, ← HE.out.2.2.2.2.1]
  have d1 : w3.cell? ⟨D, 1, none⟩ = some (.slice A l.length cp) := HS.out.d.cell 1
  have lD3 := HS.out.d.lt
  clear c0 c2 lD lD2 HSZ HE
  obtain ⟨i1, hi, hz0, hz1, hz2⟩ := info_parts info_str12
  obtain ⟨i2, hj, hy0, hy1, hy2⟩ := info_parts info_rstep12
  go_wp2_with fail
  go_loopw [12] (fun i wr => ∃ (k : Nat) (SA : Option Addr) (sc : Nat) (Ls : List Stp), k ≤ l.length ∧ i = .int .i64 k ∧ Hid (RfS w D R O nm A l.length cp SA sc Ls wr) ∧ Hid (Twins (l.take k) Ls)) (fun i _ => l.length - nOf i)
  case atStart => exact ⟨0, none, 0, [], Nat.zero_le _, rfl, HS, HT0⟩
  case round =>
    clear HS HT0 d1 lD3
    obtain ⟨k, SA, sc, Ls, hk, rfl, HS, HT⟩ := hrel
    by_cases hlt : k < l.length
    · obtain ⟨s, hs⟩ : ∃ s, l[k]? = some s := ⟨l[k], List.getElem?_eq_getElem hlt⟩
      obtain ⟨b, o, hAA, hbs, hcc⟩ := (HR.out.below HS.out.bel).at_ 9 enSt_len (by omega) hs
      have HTS := hid (fun (A' : Option Addr) (c' : Nat) => HT.out.snoc hs A' c')
      have HOS := hid ((HOK.out s (List.mem_of_getElem? hs)).next HS.out.bel)
      have hLk : Ls.length = k := by have := HT.out.len; rw [List.length_take, Nat.min_eq_left (by omega)] at this; exact this
      obtain ⟨xn, xv, xu, xe, xf, xr, xy, xw, xA, xc, xl⟩ := s
      have q0 : wr.cell? ⟨b, o + k * 9, none⟩ = some (.string xn) := hcc 0 _ rfl
      have q1 : wr.cell? ⟨b, o + k * 9 + 1, none⟩ = some (.string xv) := hcc 1 _ rfl
      have q2 : wr.cell? ⟨b, o + k * 9 + 2, none⟩ = some (.string xu) := hcc 2 _ rfl
      have q3 : wr.cell? ⟨b, o + k * 9 + 3, none⟩ = some (.string xe) := hcc 3 _ rfl
      have q4 : wr.cell? ⟨b, o + k * 9 + 4, none⟩ = some (.bool xf) := hcc 4 _ rfl
      have q5 : wr.cell? ⟨b, o + k * 9 + 5, none⟩ = some (.int .i64 xr) := hcc 5 _ rfl
      have q6 : wr.cell? ⟨b, o + k * 9 + 6, none⟩ = some (.int .i64 xy) := hcc 6 _ rfl
      have q7 : wr.cell? ⟨b, o + k * 9 + 7, none⟩ = some (.int .i64 xw) := hcc 7 _ rfl
      have q8 : wr.cell? ⟨b, o + k * 9 + 8, none⟩ = some (.slice xA xl.length xc) := hcc 8 _ rfl
      have hvb := Blk.new wr 69 #[.string xn, .string xv, .string xu, .string xe, .bool xf, .int .i64 xr, .int .i64 xy, .int .i64 xw, .slice xA xl.length xc]
      have hwa : Below wr.heap.size wr (wr.alloc (.cells #[.string xn, .string xv, .string xu, .string xe, .bool xf, .int .i64 xr, .int .i64 xy, .int .i64 xw, .slice xA xl.length xc] 69)) := (Below.refl _ _).alloc (Nat.le_refl _) _
      have hS3 := HS.out.next hwa
      have hOS3 := HOS.out.next hwa
      obtain ⟨w4, hw4⟩ : ∃ w4, w4 = wr.alloc (.cells #[.string xn, .string xv, .string xu, .string xe, .bool xf, .int .i64 xr, .int .i64 xy, .int .i64 xw, .slice xA xl.length xc] 69) := ⟨_, rfl⟩
      obtain ⟨V, hV⟩ : ∃ V, V = wr.heap.size := ⟨_, rfl⟩
      rw [← hw4] at hvb hS3 hOS3
      rw [← hV] at hvb
      have HW4 := hid (And.intro hw4 hV)
      have HS4 := hid hS3
      have HOS4 := hid hOS3
      have HVB := hid hvb
      clear hw4 hV hvb hS3 hOS3 hwa hcc hs HS HOS HT
      subst hAA
      go_upto_region 5 with fail
      rw [← HW4.out.1, ← HW4.out.2]
      clear q0 q1 q2 q3 q4 q5 q6 q7 q8 hbs
      obtain ⟨C, hCd⟩ : ∃ C : World → Prop, ∀ w', C w' ↔ Below w4.heap.size w4 w' := ⟨_, fun _ => Iff.rfl⟩
      have hC : C w4.drew := (hCd _).2 (Below.refl _ _).drew
      have hV : ∀ p : In C, Blk p.w V 69 #[.string xn, .string xv, .string xu, .string xe, .bool xf, .int .i64 xr, .int .i64 xy, .int .i64 xw, .slice xA xl.length xc] := fun p => HVB.out.next ((hCd _).1 p.h)
      have v0 : ∀ p : In C, p.w.cell? ⟨V, 0, none⟩ = some (.string xn) := fun p => (hV p).cell 0
      have v1 : ∀ p : In C, p.w.cell? ⟨V, 1, none⟩ = some (.string xv) := fun p => (hV p).cell 1
      have v2 : ∀ p : In C, p.w.cell? ⟨V, 2, none⟩ = some (.string xu) := fun p => (hV p).cell 2
      have v3 : ∀ p : In C, p.w.cell? ⟨V, 3, none⟩ = some (.string xe) := fun p => (hV p).cell 3
      have v4 : ∀ p : In C, p.w.cell? ⟨V, 4, none⟩ = some (.bool xf) := fun p => (hV p).cell 4
      have v5 : ∀ p : In C, p.w.cell? ⟨V, 5, none⟩ = some (.int .i64 xr) := fun p => (hV p).cell 5
      have v6 : ∀ p : In C, p.w.cell? ⟨V, 6, none⟩ = some (.int .i64 xy) := fun p => (hV p).cell 6
      have v7 : ∀ p : In C, p.w.cell? ⟨V, 7, none⟩ = some (.int .i64 xw) := fun p => (hV p).cell 7
      have v8 : ∀ p : In C, p.w.cell? ⟨V, 8, none⟩ = some (.slice xA xl.length xc) := fun p => (hV p).cell 8
      have lV : ∀ p : In C, V < p.w.heap.size := fun p => (hV p).lt
      have o1 : ∀ p : In C, p.w.cell? ⟨O, 1, none⟩ = some (.slice SA k sc) := fun p => by have := (HS4.out.next ((hCd _).1 p.h)).o.cell 1; rw [hLk] at this; exact this
      have lO : ∀ p : In C, O < p.w.heap.size := fun p => (HS4.out.next ((hCd _).1 p.h)).o.lt
      have HC0 := hid hC
      have HCd := hid hCd
      have HLk := hid hLk
      clear hC hCd hV hLk
      have hne : Nonempty (In C) := ⟨⟨_, HC0.out⟩⟩
      refine wp_region_many C (fun _ => none) 23 (by kernel_rfl) (by kernel_rfl) HC0.out ?_
      simp only [List.take_succ_cons, List.take_zero, List.drop_succ_cons, List.drop_zero]
      refine wpM_part (fun a D D' hd h w' hC hD' => h w' hC (hd w' hD')) ⟨_, HC0.out⟩ 20 20 (by kernel_rfl) (by kernel_rfl) (by kernel_rfl) ?_
      simp only [List.take_succ_cons, List.take_zero, List.drop_succ_cons, List.drop_zero]
      repeat (first | go_big_quiet_step (fail) | quiet_step (fail))
      refine wpQuiet_nil ?_
      clear v0 v1 v2 v3 v4 v5 v6 v7 v8 lV o1 lO hne
      refine wpM_many (fun a D D' hd h w' hC hD' => h w' hC (hd w' hD')) rfl (by kernel_rfl) (fun u w' => ∃ A7 c7, u = .slice A7 xl.length c7 ∧ w'.ownsRow w4.heap.size 9 1 (.slice A7 xl.length c7) xl.length (xl.flatMap enB)) (fun u w1 w2 ⟨A7, c7, h1, h2⟩ hb => ⟨A7, c7, h1, own_next h2 hb⟩) (fun w' hw' => ?_) ?_
      · have hb' := (HCd.out _).1 hw'
        have hOS' := HOS4.out.next hb'
        exact exec_append_any (X := fun u w7 => C w7 ∧ Below w'.heap.size w' w7 ∧ ∃ A7 c7, u = .slice A7 xl.length c7 ∧ w7.ownsRow w4.heap.size 9 1 (.slice A7 xl.length c7) xl.length (xl.flatMap enB)) _ _ 67 rfl 9 i1 _ 1 16 Tryz.underlying67 hi hz0 hz1 hz2 rfl (by decide) (by rfl) xA xl.length xc (xl.flatMap enB) (by rfl) (flat_enB_len xl) hOS'.row (enB_one xl) (by have := hOS'.len; simp only at this; unfold maxLen; omega) hOS'.len (fun A7 c7 w7 h2 h3 => ⟨(HCd.out _).2 (bthen hb' h3), h3, A7, c7, rfl, own_base h2 hb'.size⟩)
      rintro u ⟨wu, A7, c7, rfl, _⟩
      refine wpM_one (fun a D D' hd h w' hC hD' => h w' hC (hd w' hD')) rfl (by kernel_rfl) (.agg #[.string xn, .string xv, .string xu, .string xe, .bool xf, .int .i64 xr, .int .i64 xy, .int .i64 xw, .slice A7 xl.length c7]) (fun w' hw' => by go_simp) ?_
      refine wpM_many (fun a D D' hd h w' hC hD' => h w' hC (hd w' hD')) rfl (by kernel_rfl) (fun u w' => ∃ g, u = .slice (some ⟨g, 0, none⟩) 1 1 ∧ Blk w' g 156 #[.string xn, .string xv, .string xu, .string xe, .bool xf, .int .i64 xr, .int .i64 xy, .int .i64 xw, .slice A7 xl.length c7] ∧ w4.heap.size ≤ g) (fun u w1 w2 ⟨g, h1, h2, h3⟩ hb => ⟨g, h1, h2.next hb, h3⟩) (fun w' hw' => ⟨_, _, by go_simp, (HCd.out _).2 (((HCd.out _).1 hw').alloc ((HCd.out _).1 hw').size _), (Below.refl _ _).alloc (Nat.le_refl _) _, ⟨w'.heap.size, rfl, Blk.new _ _ _, ((HCd.out _).1 hw').size⟩⟩) ?_
      rintro u ⟨wu, g, rfl, _, _⟩
      refine wpM_nil ?_
      intro wf hC hD
      obtain ⟨⟨_, A7', c7', e1, hO7⟩, g', e2, hBg, hgl⟩ := hD
      simp only [Value.slice.injEq, Option.some.injEq, Addr.mk.injEq, and_true, true_and] at e1 e2
      obtain ⟨rfl, rfl⟩ := e1
      subst e2
      have hS5 := HS4.out.next ((HCd.out _).1 hC)
      have hT5 := HTS.out A7 c7
      have hbase := hS5.bel.size
      have HS5 := hid hS5
      have HO5 := hid (show OwnSt w.heap.size wf (twn (⟨xn, xv, xu, xe, xf, xr, xy, xw, xA, xc, xl⟩ : Stp) A7 c7) from own_base hO7 HS4.out.bel.size)
      have hOS := hS5.os
      rw [HLk.out] at hOS
      have hOo := hS5.o
      rw [HLk.out] at hOo
      have HT5 := hid hT5
      have HOo := hid hOo
      have HBg := hid hBg
      have HN5 := hid (show (∀ A2 c2, enSt (twn (⟨xn, xv, xu, xe, xf, xr, xy, xw, xA, xc, xl⟩ : Stp) A2 c2) = [.string xn, .string xv, .string xu, .string xe, .bool xf, .int .i64 xr, .int .i64 xy, .int .i64 xw, .slice A2 xl.length c2]) from fun _ _ => rfl)
      clear hS5 hT5 hO7 hBg hgl hOo HCd HC0 HVB HW4 HTS HOS4
      have hOS' := hid hOS
      clear hOS
      go_wp2_with (first
        | (refine wpList_append_lies _ rfl _ _ _ rfl w.heap.size 156 i2 _ 9 120 Tryz.underlying84 hj hy0 hy1 hy2 rfl (by decide) (.slice SA k sc) k (Ls.flatMap enSt) rfl hOS'.out ⟨g, 0, none⟩ 1 1 [.string xn, .string xv, .string xu, .string xe, .bool xf, .int .i64 xr, .int .i64 xy, .int .i64 xw, .slice A7 xl.length c7] rfl rfl (blk_news HBg.out) (by rw [← HN5.out]; exact enSt_one _) (by omega) (by unfold maxLen; omega) (by omega) hbase _ rfl ?_; intro g9 c9 w9 hO9 hg9 hat9 hl9; have hB9 := HOo.out.grown hg9 (fun e => own_notBlk hOS'.out HOo.out (by decide) e.symm); have o1 := hB9.cell 1; have o2 := hB9.free 1; have o3 := hB9.lt))
      have hfin := HS5.out.grew (g := g9) (cap := c9) (w' := w9) (by rw [HLk.out]; exact hg9) (twn (⟨xn, xv, xu, xe, xf, xr, xy, xw, xA, xc, xl⟩ : Stp) A7 c7) (by rw [HLk.out, HN5.out]; exact hO9) HO5.out
      rw [HLk.out] at hfin
      go_roundw
      case rel => exact ⟨k + 1, _, _, _, by omega, by go_num, hid hfin, HT5⟩
      case measure => simp [nOf]; omega
    · have hk' : k = l.length := by omega
      subst hk'
      have HT' := hid (show Twins l Ls from by have := HT.out; rwa [List.take_length] at this)
      have o0 : wr.cell? ⟨O, 0, none⟩ = some (.string nm) := HS.out.o.cell 0
      have o1 : wr.cell? ⟨O, 1, none⟩ = some (.slice SA Ls.length sc) := HS.out.o.cell 1
      have lO := HS.out.o.lt
      have hT5 := Touch.setRow wr R #[.string nm, .slice SA Ls.length sc]
      have hC5 := HS.out.r.setRow #[.string nm, .slice SA Ls.length sc]
      have hb5 := HS.out.bel.trans (hT5.below HS.out.bel.size (fun k hk => by rw [hk]; exact HS.out.lo.1))
      have hO5 := own_touch HS.out.os hT5 (fun g hg e => own_notBlk HS.out.os HS.out.r (by decide) (by rw [hg, e]))
      have hst5 : ∀ s ∈ Ls, OwnSt w.heap.size (wr.setRow R #[.string nm, .slice SA Ls.length sc]) s := fun s hs => own_touch (HS.out.st s hs) hT5 (fun g hg e => own_notBlk (HS.out.st s hs) HS.out.r (by decide) (by rw [hg, e]))
      obtain ⟨w5, hw5⟩ : ∃ w5, w5 = wr.setRow R #[.string nm, .slice SA Ls.length sc] := ⟨_, rfl⟩
      rw [← hw5] at hC5 hb5 hO5 hst5
      have HW5 := hid hw5
      have HB := hid HS.out.r
      have r0 : w5.cell? ⟨R, 0, none⟩ = some (.string nm) := hC5.cell 0
      have r1 : w5.cell? ⟨R, 1, none⟩ = some (.slice SA Ls.length sc) := hC5.cell 1
      have lR5 := hC5.lt
      have HF := hid (And.intro hO5 (And.intro hst5 hb5))
      clear hw5 hC5 hb5 hO5 hst5 hT5 HS HT hlt hk
      go_wp2_with (first
        | (refine wpList_store_row rfl 86 _ _ rfl R #[.string ⟨#[]⟩, .slice none 0 0] rfl rfl 86 _ HB.out (by kernel_rfl) (by rfl) (by simp [Value.oneCell']) ?_; rw [← HW5.out])
        | (refine wpList_store_row rfl 86 _ _ rfl R #[.string nm, .slice SA Ls.length sc] rfl rfl 86 _ HB.out (by kernel_rfl) (by rfl) (by simp [Value.oneCell']) ?_; rw [← HW5.out]))
      refine bodyPost_ret (v := .agg #[.string nm, .slice SA Ls.length sc]) (by simp [results, Tryz.results27, go_sem, r0, r1]) rfl ?_
      exact ⟨SA, sc, Ls, rfl, HT'.out, HF.out.1, HF.out.2.1, HF.out.2.2⟩

end Go.Proofs.YtoemmakhbiiknaaGreat

namespace Go.Proofs.YtoemmakhbiiknaaGreat
open Go.ChangeShapes Go.WideShapes Go.ChangeAt Go.RowKit Go.Deep
set_option linter.unusedVariables false

section
variable {H : Type} {enc : TypeId × Value → H} {P : Program} {w : World} {base : Nat} {spare : Nat → Bool} {held : Bool}

theorem weightsAll_mem {e : TypeId} {d : DataW H} {y : Nat} : ∀ {l : List (DataW H)}, d ∈ l → y ∈ d.weights P e → y ∈ DataW.weightsAll P e l
  | [], h, _ => by cases h
  | c :: l, h, hy => by
    simp only [DataW.weightsAll, List.mem_append]
    rcases List.mem_cons.1 h with rfl | h
    · exact .inl hy
    · exact .inr (weightsAll_mem h hy)
theorem weights_elem {t e : TypeId} {elems sp : List (DataW H)} {d : DataW H} {y : Nat} (ht : P.underlying t = some (.slice e)) (hd : d ∈ elems) (hy : y ∈ d.weights P e) : y ∈ (DataW.slice elems sp).weights P t := by
  simp only [DataW.weights, ht, List.mem_cons, List.mem_append]
  exact .inr (.inl (weightsAll_mem hd hy))
theorem weights_len {t e : TypeId} {elems sp : List (DataW H)} (ht : P.underlying t = some (.slice e)) : (elems.length + sp.length) * P.bytesOf e ∈ (DataW.slice elems sp).weights P t := by
  simp [DataW.weights, ht]
theorem weights_field {t : TypeId} {fs : Array Field} {parts : List (DataW H)} {j : Nat} {f : Field} {d : DataW H} {y : Nat} (ht : P.underlying t = some (.struct fs)) (hf : fs[j]? = some f) (hd : parts[j]? = some d) (hy : y ∈ d.weights P f.type) : y ∈ (DataW.agg parts).weights P t := by
  simp only [DataW.weights, ht]
  exact DataW.weights_mem_each (by rw [List.getElem?_map]; simp [hf]) hd y hy

/-- All that a datum weighs is within reach. -/
def Reach (P : Program) (t : TypeId) (d : DataW H) : Prop := ∀ y ∈ d.weights P t, y ≤ reachBytes

/-- A struct of one-cell fields, opened field by field. -/
theorem open_fields {t : TypeId} {fs : Array Field} (ht : P.underlying t = some (.struct fs)) (hone : oneCellFields P fs = true) {fuel : Nat} {cs : List Value} {x : DataW H × List MemPlace} (hl : cs.length = fs.size) (h : DataW.trod enc P w base spare held fuel t cs = some x) :
    ∃ (n : Nat) (ys : List (DataW H × List MemPlace)), x.1 = .agg (ys.map (·.1)) ∧ ys.length = fs.size ∧ ∀ (j : Nat) (f : Field), fs[j]? = some f → ∃ u y, cs[j]? = some u ∧ ys[j]? = some y ∧ DataW.trod enc P w base spare held n f.type [u] = some y := by
  obtain ⟨ys, n', hn', hy, hlen, hyl, hf⟩ := DataW.trod_struct ht h
  refine ⟨n', ys, by rw [hy], hyl, fun j f hfj => ?_⟩
  have hjs : j < fs.size := (Array.getElem?_eq_some_iff.1 hfj).1
  obtain ⟨ho, hk1⟩ := hone_of hone j _ hfj
  have h1 := hf j _ hfj
  rw [ho, hk1] at h1
  have hjl : j < cs.length := by omega
  have hone' : (cs.drop j).take 1 = [cs[j]] := by
    rw [List.drop_eq_getElem_cons hjl]; rfl
  have hjy : j < ys.length := by omega
  rw [hone', List.getElem?_eq_getElem hjy] at h1
  exact ⟨cs[j], ys[j], List.getElem?_eq_getElem hjl, List.getElem?_eq_getElem hjy, h1⟩

/-- A slice opened, element by element, into a list of things; G is what is known of an element's datum. -/
theorem open_rows {α : Type} {en : α → List Value} {Q : α → Prop} {G : DataW H → Prop} {t e : TypeId} {n : Nat} (hn : ∀ a, (en a).length = n) (hpos : 0 < n) (hC : P.cellsOf e = n) (ht : P.underlying t = some (.slice e))
    (helem : ∀ (fuel : Nat) (cs : List Value) (x : DataW H × List MemPlace), cs.length = n → DataW.trod enc P w base spare held fuel e cs = some x → G x.1 → ∃ a, cs = en a ∧ Q a)
    {fuel : Nat} {cs : List Value} {x : DataW H × List MemPlace} (h : DataW.trod enc P w base spare held fuel t cs = some x) (hG : ∀ elems sp, x.1 = .slice elems sp → ∀ d ∈ elems, G d) :
    ∃ (A : Option Addr) (cap : Nat) (l : List α), cs = [.slice A l.length cap] ∧ Rd w A (l.flatMap en) ∧ (∀ a ∈ l, Q a) ∧ (l.length = 0 ∨ ∃ elems sp, x.1 = .slice elems sp ∧ elems.length = l.length) := by
  rcases open_slice ht h with ⟨h0, _⟩ | ⟨a, len, cap, m, k, D, Pl, hcs, hb, hl, hm, hmm, hx, hi⟩
  · exact ⟨none, 0, [], h0, .inl rfl, fun a ha => (by cases ha), .inl rfl⟩
  · have hlm : len ≤ m := by rw [hmm]; split <;> omega
    rw [hC] at hi
    have hx1 : x.1 = .slice ((List.range len).map D) ((List.range (m - len)).map fun j => D (len + j)) := by rw [hx]
    have each : ∀ i, i < len → ∃ y : α, (∀ j, j < n → w.cell? (a.add (i * n + j)) = (en y)[j]?) ∧ Q y := by
      intro i hil
      obtain ⟨cs', hc, ht'⟩ := hi i (by omega)
      obtain ⟨_, hcl, hat⟩ := World.cells?_some hc
      obtain ⟨y, rfl, hq⟩ := helem _ _ _ hcl ht' (hG _ _ hx1 _ (List.mem_map.2 ⟨i, List.mem_range.2 hil, rfl⟩))
      exact ⟨y, fun j hj => by rw [← hat j hj, Go.Deep.add_add], hq⟩
    rcases Nat.eq_zero_or_pos len with h0 | h0
    · subst h0
      exact ⟨some a, cap, [], by simpa using hcs, .inl rfl, fun a ha => (by cases ha), .inl rfl⟩
    · obtain ⟨y0, _⟩ := each 0 h0
      have : Inhabited α := ⟨y0⟩
      obtain ⟨f, hf⟩ := choose_lt (α := α) each
      refine ⟨some a, cap, (List.range len).map f, by simpa using hcs, ?_, ?_, .inr ⟨_, _, hx1, by simp⟩⟩
      · right
        obtain ⟨b, off, spot⟩ := a
        have hsp : spot = none := cells_none (a := ⟨b, off, spot⟩) (n := n) (cs := en (f 0)) hpos (fun j hj => by have := (hf 0 h0).1 j hj; simpa using this) (hn _)
        subst hsp
        have e0 := (hf 0 h0).1 0 hpos
        rw [List.getElem?_eq_getElem (by rw [hn]; exact hpos)] at e0
        refine ⟨b, off, rfl, by simpa [Addr.add] using World.block_lt_of_cell? _ _ e0, fun j u hu => ?_⟩
        have hjl : j < len * n := by
          have := (List.getElem?_eq_some_iff.1 hu).1
          rw [length_flatMap_const en n hn] at this
          simpa using this
        have hq : j / n < len := Nat.div_lt_of_lt_mul (by rw [Nat.mul_comm]; exact hjl)
        have hr : j % n < n := Nat.mod_lt _ hpos
        have e1 := getElem?_flatMap en n hn ((List.range len).map f) (j / n) (f (j / n)) (by simp [hq]) (j % n) hr
        rw [Nat.mul_comm, Nat.div_add_mod] at e1
        rw [e1] at hu
        have e2 := (hf (j / n) hq).1 (j % n) hr
        rw [hu, Nat.mul_comm, Nat.div_add_mod] at e2
        simpa [add_plain] using e2
      · intro y hy
        obtain ⟨i, hi', rfl⟩ := List.mem_map.1 hy
        exact (hf i (List.mem_range.1 hi')).2
end

end Go.Proofs.YtoemmakhbiiknaaGreat

namespace Go.Proofs.YtoemmakhbiiknaaGreat
open Go.RowKit Go.WideShapes Go.ChangeShapes Go.ChangeAt Go.Deep
set_option linter.unusedVariables false

/-- A definition, and where its steps lie. -/
structure FDef where
  nm : ByteArray
  A : Option Addr
  cap : Nat
  l : List Stp
def enFD (x : FDef) : List Value := [.string x.nm, .slice x.A x.l.length x.cap]
theorem enFD_len (x : FDef) : (enFD x).length = 2 := rfl
structure OkFD (w : World) (x : FDef) : Prop where
  rd : Rd w x.A (x.l.flatMap enSt)
  ok : ∀ s ∈ x.l, OkSt w s
  len : x.l.length * 120 ≤ 140737488351232
  nms : ∀ s ∈ x.l, s.name.size ≤ 140737488351232
theorem bytesStr12 : Tryz.prog.bytesOf 9 = 16 := by kernel_rfl
theorem bytesStp12 : Tryz.prog.bytesOf 69 = 120 := by kernel_rfl
section
variable {H : Type} {enc : TypeId × Value → H} {w : World} {base : Nat} {spare : Nat → Bool} {held : Bool}
theorem open_names12 {fuel : Nat} {cs : List Value} {x : DataW H × List MemPlace} (h : DataW.trod enc Tryz.prog w base spare held fuel 67 cs = some x) (hw : Reach Tryz.prog 67 x.1) :
    ∃ (A : Option Addr) (cap : Nat) (l : List ByteArray), cs = [.slice A l.length cap] ∧ Rd w A (l.flatMap enB) ∧ l.length * 16 ≤ 140737488351232 := by
  obtain ⟨A, cap, l, rfl, hR, _, hd⟩ := open_rows (en := enB) (Q := fun _ => True) (G := fun _ => True) enB_len (by omega) (by kernel_rfl) Tryz.underlying67 (fun fuel cs x hl h _ => by
    obtain ⟨k, hv, _⟩ := DataW.trod_string Tryz.underlying9 h
    exact ⟨k, hv, trivial⟩) h (fun elems sp hx d hd => trivial)
  refine ⟨A, cap, l, rfl, hR, ?_⟩
  rcases hd with hd | ⟨elems, sp, hd, hel⟩
  · omega
  · have := hw _ (by rw [hd]; exact weights_len Tryz.underlying67)
    rw [bytesStr12] at this
    simp only [reachBytes] at this
    omega
theorem open_stp12 (fuel : Nat) (cs : List Value) (x : DataW H × List MemPlace) (hl : cs.length = 9) (h : DataW.trod enc Tryz.prog w base spare held fuel 69 cs = some x) (hw : Reach Tryz.prog 69 x.1) :
    ∃ p : Stp, cs = enSt p ∧ OkSt w p ∧ p.name.size ≤ 140737488351232 := by
  obtain ⟨n, ys, hx, hyl, hf⟩ := open_fields Tryz.underlying69 (by kernel_rfl) hl h
  obtain ⟨u0, y0, c0, e0, t0⟩ := hf 0 _ rfl
  obtain ⟨u1, y1, c1, e1, t1⟩ := hf 1 _ rfl
  obtain ⟨u2, y2, c2, e2, t2⟩ := hf 2 _ rfl
  obtain ⟨u3, y3, c3, e3, t3⟩ := hf 3 _ rfl
  obtain ⟨u4, y4, c4, e4, t4⟩ := hf 4 _ rfl
  obtain ⟨u5, y5, c5, e5, t5⟩ := hf 5 _ rfl
  obtain ⟨u6, y6, c6, e6, t6⟩ := hf 6 _ rfl
  obtain ⟨u7, y7, c7, e7, t7⟩ := hf 7 _ rfl
  obtain ⟨u8, y8, c8, e8, t8⟩ := hf 8 _ rfl
  obtain ⟨k0, hv0, hd0⟩ := DataW.trod_string Tryz.underlying9 t0
  obtain ⟨k1, hv1, _⟩ := DataW.trod_string Tryz.underlying9 t1
  obtain ⟨k2, hv2, _⟩ := DataW.trod_string Tryz.underlying9 t2
  obtain ⟨k3, hv3, _⟩ := DataW.trod_string Tryz.underlying9 t3
  obtain ⟨k4, hv4, _⟩ := DataW.trod_bool Tryz.underlying4 t4
  obtain ⟨k5, hv5, _⟩ := DataW.trod_int Tryz.underlying3 t5
  obtain ⟨k6, hv6, _⟩ := DataW.trod_int Tryz.underlying3 t6
  obtain ⟨k7, hv7, _⟩ := DataW.trod_int Tryz.underlying3 t7
  simp only [List.cons.injEq, and_true] at hv0 hv1 hv2 hv3 hv4 hv5 hv6 hv7
  subst hv0 hv1 hv2 hv3 hv4 hv5 hv6 hv7
  obtain ⟨A, cap, l, hc, hR, hlen⟩ := open_names12 t8 (fun y hy => hw y (by rw [hx]; exact weights_field (j := 8) Tryz.underlying69 rfl (by rw [List.getElem?_map, e8]; rfl) hy))
  simp only [List.cons.injEq, and_true] at hc
  subst hc
  match cs, hl with
  | [a, b, c, d, e, f, g, i, j], _ =>
    simp at c0 c1 c2 c3 c4 c5 c6 c7 c8
    subst c0 c1 c2 c3 c4 c5 c6 c7 c8
    refine ⟨⟨k0, k1, k2, k3, k4, k5, k6, k7, A, cap, l⟩, rfl, ⟨hR, show l.length * 16 ≤ 140737488355328 by omega⟩, ?_⟩
    have h0 := hw k0.data.toList.length (by rw [hx]; exact weights_field (j := 0) Tryz.underlying69 rfl (by rw [List.getElem?_map, e0]; rfl) (by rw [hd0.1]; simp [DataW.weights]))
    simp only [reachBytes] at h0
    rw [show k0.data.toList.length = k0.size from Array.length_toList] at h0
    show k0.size ≤ _
    omega
theorem open_def12 (fuel : Nat) (cs : List Value) (x : DataW H × List MemPlace) (hl : cs.length = 2) (h : DataW.trod enc Tryz.prog w base spare held fuel 60 cs = some x) (hw : Reach Tryz.prog 60 x.1) :
    ∃ p : FDef, cs = enFD p ∧ OkFD w p := by
  obtain ⟨n, ys, hx, hyl, hf⟩ := open_fields Tryz.underlying60 (by kernel_rfl) hl h
  obtain ⟨u0, y0, c0, e0, t0⟩ := hf 0 _ rfl
  obtain ⟨u1, y1, c1, e1, t1⟩ := hf 1 _ rfl
  obtain ⟨k0, hv0, _⟩ := DataW.trod_string Tryz.underlying9 t0
  simp only [List.cons.injEq, and_true] at hv0
  subst hv0
  have hw1 : Reach Tryz.prog 58 y1.1 := fun y hy => hw y (by rw [hx]; exact weights_field (j := 1) Tryz.underlying60 rfl (by rw [List.getElem?_map, e1]; rfl) hy)
  obtain ⟨A, cap, l, hc, hR, ok, hd⟩ := open_rows (en := enSt) (Q := fun p => OkSt w p ∧ p.name.size ≤ 140737488351232) (G := Reach Tryz.prog 69) enSt_len (by omega) (by kernel_rfl) Tryz.underlying58 open_stp12 t1 (fun elems sp hx d hd y hy => hw1 y (by rw [hx]; exact weights_elem Tryz.underlying58 hd hy))
  simp only [List.cons.injEq, and_true] at hc
  subst hc
  match cs, hl with
  | [a, b], _ =>
    simp at c0 c1
    subst c0 c1
    refine ⟨⟨k0, A, cap, l⟩, rfl, hR, fun s hs => (ok s hs).1, ?_, fun s hs => (ok s hs).2⟩
    rcases hd with hd | ⟨elems, sp, hd, hel⟩
    · show l.length * 120 ≤ _; omega
    · have := hw1 _ (by rw [hd]; exact weights_len Tryz.underlying58)
      rw [bytesStp12] at this
      simp only [reachBytes] at this
      show l.length * 120 ≤ _; omega
end

end Go.Proofs.YtoemmakhbiiknaaGreat
