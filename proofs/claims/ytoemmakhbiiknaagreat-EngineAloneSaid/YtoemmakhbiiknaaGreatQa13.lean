/-
  Layer 13: the laws' plans, the program's beside the document's.
  (*Engine).Start: a new instance.
  The document's engine: Start.
  twin of what is saved; Get of an instance that is there.
  (*Engine).Get of an instance that is there.
-/
import Derived.Test.YtoemmakhbiiknaaGreatQa12
import Derived.Laws.OwnMore
import Derived.Laws.MakeOwn
import Derived.Deep.RegionWith
namespace Go.Proofs.YtoemmakhbiiknaaGreat
open Go.RowKit Go.WideShapes Go.ChangeShapes Go.ChangeAt Go.Deep
set_option linter.unusedVariables false

/-- A plan and the document's. -/
structure PlD where
  nm : ByteArray
  P : Nat
  Ls : List Stp
  Bs : List IRow
  base : Nat
  RP : Nat
  base2 : Nat
  SA : Option Addr
  sc : Nat
  Lr : List Stp
  lo : Nat
  mid : Nat
  hi : Nat
def PlD.In (d : PlD) (g : Nat) : Prop := d.lo ≤ g ∧ g < d.hi
/-- The blocks of the document's plan. -/
def PlD.RU (d : PlD) (g : Nat) : Prop := g = d.RP ∨ (Value.slice d.SA d.Lr.length d.sc).ownBlock = some g ∨ ∃ s ∈ d.Lr, s.A.map (·.block) = some g
/-- What holds of a plan whatever the world. -/
structure PlF (d : PlD) : Prop where
  s : SameP d.Ls d.Bs d.Lr
  n40 : d.Ls.length ≤ 40
  src : ∃ l, checkN l = 0 ∧ l.length = d.Ls.length ∧ PlG l (ordN (grf l) l.length) d.Ls d.Bs
  ir : ∀ g, d.RU g → d.mid ≤ g ∧ g < d.hi
structure PlOk (d : PlD) (ask : Int) (y : Pw) (w : World) : Prop where
  p : PlY d.base d.nm d.P d.Ls d.Bs ask y w
  r : RpS d.base2 d.RP d.nm d.SA d.sc d.Lr w
theorem PlOk.touch {d : PlD} {ask : Int} {y : Pw} {S : Nat → Prop} {w w' : World} (h : PlOk d ask y w) (hT : Touch S w w') (h1 : ∀ g, S g → ¬ PlV d.P d.Ls d.Bs y g) (h2 : ∀ g, S g → ¬ d.RU g) : PlOk d ask y w' :=
  ⟨⟨h.p.p.touchS hT h1, h.p.ok, h.p.nil, h.p.rows, h.p.aft⟩, ⟨hT.blk h.r.p (fun e => h2 _ e (.inl rfl)), own_touch h.r.os hT (fun g hg e => h2 g e (.inr (.inl hg))), fun s hs => ⟨hT.rd (h.r.ok s hs).row (fun b hb e => h2 b e (.inr (.inr ⟨s, hs, hb⟩))), (h.r.ok s hs).len⟩, h.r.n⟩⟩
theorem PlOk.next {d : PlD} {ask : Int} {y : Pw} {w w' : World} (h : PlOk d ask y w) (hb : Below w.heap.size w w') : PlOk d ask y w' := h.touch (S := fun _ => False) (Touch.of_below hb) (fun _ h => h.elim) (fun _ h => h.elim)
/-- As the plans are made. -/
structure PlM (d : PlD) (w : World) : Prop where
  f : PlF d
  ok : ∃ y, PlOk d 0 y w ∧ ∀ g, PlV d.P d.Ls d.Bs y g → d.lo ≤ g ∧ g < d.mid
  hi : (d.lo ≤ d.mid ∧ d.mid ≤ d.hi) ∧ d.hi ≤ w.heap.size
theorem PlM.touch {d : PlD} {S : Nat → Prop} {w w' : World} (h : PlM d w) (hT : Touch S w w') (hS : ∀ g, S g → ¬ d.In g) : PlM d w' := by
  obtain ⟨y, h1, h2⟩ := h.ok
  exact ⟨h.f, ⟨y, h1.touch hT (fun g hg hu => hS g hg (by have h3 := h2 g hu; have h4 := h.hi.1; unfold PlD.In; omega)) (fun g hg hu => hS g hg (by have h3 := h.f.ir g hu; have h4 := h.hi.1; unfold PlD.In; omega)), h2⟩, h.hi.1, Nat.le_trans h.hi.2 hT.size⟩
theorem PlM.next {d : PlD} {w w' : World} (h : PlM d w) (hb : Below w.heap.size w w') : PlM d w' := h.touch (S := fun _ => False) (Touch.of_below hb) (fun _ h => h.elim)
theorem Twins.self (l : List Stp) : Twins l l := ⟨rfl, fun k s hs => ⟨s.A, s.cap, hs⟩⟩
theorem made13 {nm : ByteArray} {l lr Ls Lr : List Stp} {Bs : List IRow} {P RP sc : Nat} {vS vB : Value} {SA : Option Addr} {w1 w2 w3 w4 : World} (hc : checkN l = 0) (hl : l.length ≤ 40) (hok : ∀ s ∈ l, s.after.length * 16 ≤ 140737488355328) (hp : PlB w1.heap.size nm P vS vB Ls Bs w2) (hg : PlG l (ordN (grf l) l.length) Ls Bs) (hb1 : Below w1.heap.size w1 w2)
    (ht : Twins l lr) (hs : ∀ s ∈ lr, OwnSt w2.heap.size w3 s) (hb2 : Below w2.heap.size w2 w3) (hr : RpS w3.heap.size RP nm SA sc Lr w4) (ho : OrdL lr (ordN (grf lr) lr.length) Lr) (hR : w3.heap.size ≤ RP) (hb3 : Below w3.heap.size w3 w4) :
    PlM ⟨nm, P, Ls, Bs, w1.heap.size, RP, w3.heap.size, SA, sc, Lr, w1.heap.size, w2.heap.size, w4.heap.size⟩ w4 := by
  obtain ⟨h1, h2, h3, h4⟩ := checkN_zero hc
  have hol : (ordN (grf l) l.length).length = l.length := ordN_len h2 (grf_shut h1) l.length (by rw [grf_len]; exact Nat.le_refl _)
  have hok2 := ordN_ok (grf l) l.length
  have hrows : RowsOk Ls Bs := hg.rows hok2 (by omega)
  rw [grf_twins ht, ht.len] at ho
  have hLs : Ls.length = l.length := by rw [hg.ls, hol]
  have hLr : Lr.length = l.length := by rw [ho.len, hol]
  have hlt : ∀ i ∈ ordN (grf l) l.length, i < lr.length := fun i hi => by have := hok2.lt i hi; rw [grf_len] at this; rw [ht.len]; exact this
  have s1 := hb1.size
  have s2 := hb2.size
  have s3 := hb3.size
  have hp4 := (hp.plw.next (bthen hb2 hb3))
  refine ⟨⟨⟨by show Lr.length = Ls.length; rw [hLr, hLs], hrows, fun q s hq => ?_, fun q t hq => ?_⟩, by show Ls.length ≤ 40; rw [hLs]; exact hl, ⟨l, hc, hLs.symm, hg⟩, fun g hu => ?_⟩, ⟨⟨vS, vB, .slice none 0 0, [], false⟩, ⟨⟨hp4, fun e => (by cases e), fun _ => rfl, hrows, fun s hs => ?_⟩, hr⟩, fun g hu => ?_⟩, ?_, Nat.le_refl _⟩
  · have hq2 : q < Ls.length := by have : q < Lr.length := (List.getElem?_eq_some_iff.1 hq).1; omega
    exact same_before h1 hok2 hg ho (Twins.self l) ht hq2 hq
  · have hqd : q < (ordN (grf l) l.length).length := by have := (List.getElem?_eq_some_iff.1 hq).1; rw [hg.ls] at this; exact this
    obtain ⟨s, A, c, g1, g2⟩ := hg.step q _ (List.getElem?_eq_getElem hqd)
    rw [hq] at g2
    injection g2 with g2
    subst g2
    obtain ⟨A2, c2, e2⟩ := ht.at_ _ _ g1
    exact ⟨A2, c2, by rw [ho.at_ q _ (List.getElem?_eq_getElem hqd), e2]; rfl⟩
  · show w2.heap.size ≤ g ∧ g < w4.heap.size
    rcases hu with hu | hu | ⟨s, hs2, hu⟩
    · have := hr.p.lt
      simp only at hu
      subst hu
      omega
    · have := hr.os.lt g hu
      omega
    · obtain ⟨i, _, hi⟩ := ho.mem hlt hs2
      have := own_blk (hs s (List.mem_of_getElem? hi)) g hu
      omega
  · obtain ⟨p, hp'⟩ := List.mem_iff_getElem?.1 hs
    have hpl : p < (ordN (grf l) l.length).length := by rw [← hg.ls]; exact (List.getElem?_eq_some_iff.1 hp').1
    obtain ⟨s', A', c', g1, g2⟩ := hg.step p _ (List.getElem?_eq_getElem hpl)
    rw [hp'] at g2
    injection g2 with g2
    rw [g2]
    exact hok s' (List.mem_of_getElem? g1)
  · have := hp.plw.use hu
    exact ⟨this.1, this.2⟩
  · show w1.heap.size ≤ w2.heap.size ∧ w2.heap.size ≤ w4.heap.size
    omega
/-- While the plans are made. -/
structure PnS (w0 : World) (ds : List PlD) (pA : Option Addr) (pc : Nat) (rA : Option Addr) (rc : Nat) (w : World) : Prop where
  po : w.ownsRow w0.heap.size 43 1 (.slice pA ds.length pc) ds.length (ds.flatMap fun d => enB13 d.P)
  ro : w.ownsRow w0.heap.size 77 1 (.slice rA ds.length rc) ds.length (ds.flatMap fun d => enB13 d.RP)
  ok : ∀ d ∈ ds, PlM d w
  no : ∀ d ∈ ds, ∀ g, (Value.slice pA ds.length pc).ownBlock = some g ∨ (Value.slice rA ds.length rc).ownBlock = some g → ¬ d.In g
  pw : ds.Pairwise fun a b => a.hi ≤ b.lo
  lo : ∀ d ∈ ds, w0.heap.size ≤ d.lo
  bel : Below w0.heap.size w0 w
theorem PnS.next {w0 w w' : World} {ds : List PlD} {pA rA : Option Addr} {pc rc : Nat} (h : PnS w0 ds pA pc rA rc w) (hb : Below w.heap.size w w') : PnS w0 ds pA pc rA rc w' :=
  ⟨own_next h.po hb, own_next h.ro hb, fun d hd => (h.ok d hd).next hb, h.no, h.pw, h.lo, bthen h.bel hb⟩
theorem PnS.start (w : World) : PnS w [] none 0 none 0 w := ⟨World.ownsRow_nil _ _ _ _, World.ownsRow_nil _ _ _ _, fun d h => (by cases h), fun d h => (by cases h), List.Pairwise.nil, fun d h => (by cases h), Below.refl _ _⟩
theorem own_atU {w : World} {b n m : Nat} {t : TypeId} {v : Value} {xs : List Value} (h : w.ownsRow b t m v n xs) {g : Nat} (hg : v.ownBlock = some g) : g < w.heap.size := (h.lt g hg).2
/-- One plan more, its pointers appended. -/
theorem PnS.more {w0 w w3 w5 : World} {ds : List PlD} {pA rA pA' rA' : Option Addr} {pc rc pc' rc' : Nat} {d : PlD} {B1 B2 : Obj} (h : PnS w0 ds pA pc rA rc w) (hd : PlM d w) (hlo : ∀ a ∈ ds, a.hi ≤ d.lo) (hl0 : w0.heap.size ≤ d.lo) (hpo : ∀ g, (Value.slice pA ds.length pc).ownBlock = some g ∨ (Value.slice rA ds.length rc).ownBlock = some g → ¬ d.In g)
    (h3 : w3.ownsRow w0.heap.size 43 1 (.slice pA' (ds.length + 1) pc') (ds.length + 1) (ds.flatMap (fun d => enB13 d.P) ++ [.pointer (some ⟨d.P, 0, none⟩)])) (g3 : (w.alloc B1).grownBy w3 (Value.slice pA ds.length pc).ownBlock) (a3 : (Value.slice pA' (ds.length + 1) pc').ownBlock = (Value.slice pA ds.length pc).ownBlock ∨ (Value.slice pA' (ds.length + 1) pc').ownBlock = some (w.heap.size + 1))
    (h5 : w5.ownsRow w0.heap.size 77 1 (.slice rA' (ds.length + 1) rc') (ds.length + 1) (ds.flatMap (fun d => enB13 d.RP) ++ [.pointer (some ⟨d.RP, 0, none⟩)])) (g5 : (w3.alloc B2).grownBy w5 (Value.slice rA ds.length rc).ownBlock) (a5 : (Value.slice rA' (ds.length + 1) rc').ownBlock = (Value.slice rA ds.length rc).ownBlock ∨ (Value.slice rA' (ds.length + 1) rc').ownBlock = some (w3.heap.size + 1)) :
    PnS w0 (ds ++ [d]) pA' pc' rA' rc' w5 := by
  have t3 : Touch (fun b => (Value.slice pA ds.length pc).ownBlock = some b) w w3 := (Touch.of_below ((Below.refl _ _).alloc (Nat.le_refl _) B1)).then ⟨g3.os, g3.tape, g3.output, g3.size, fun k hk hn => g3.block k hk (fun e => hn e.symm)⟩
  have t5 : Touch (fun b => (Value.slice rA ds.length rc).ownBlock = some b) w3 w5 := (Touch.of_below ((Below.refl _ _).alloc (Nat.le_refl _) B2)).then ⟨g5.os, g5.tape, g5.output, g5.size, fun k hk hn => g5.block k hk (fun e => hn e.symm)⟩
  have hT : Touch (fun b => (Value.slice pA ds.length pc).ownBlock = some b ∨ (Value.slice rA ds.length rc).ownBlock = some b) w w5 := (t3.mono (fun k hk => .inl hk)).then (t5.mono (fun k hk => .inr hk))
  have hno5 : ∀ g, (Value.slice pA' (ds.length + 1) pc').ownBlock = some g ∨ (Value.slice rA' (ds.length + 1) rc').ownBlock = some g → ((Value.slice pA ds.length pc).ownBlock = some g ∨ (Value.slice rA ds.length rc).ownBlock = some g) ∨ w.heap.size ≤ g := fun g hg => by
    have s3 := t3.size
    rcases hg with hg | hg
    · rcases a3 with a | a
      · exact .inl (.inl (by rw [← a]; exact hg))
      · rw [a] at hg; injection hg with hg; right; omega
    · rcases a5 with a | a
      · exact .inl (.inr (by rw [← a]; exact hg))
      · rw [a] at hg; injection hg with hg; right; omega
  refine ⟨?_, ?_, fun a ha => ?_, fun a ha g hg => ?_, ?_, fun a ha => ?_, ?_⟩
  · have := own_touch h3 t5 (fun g hg e => own_ne h3 (own_touch h.ro t3 (fun g hg e => own_ne h.ro h.po (by decide) hg e)) (by decide) hg e)
    simpa [enB13, pB] using this
  · simpa [enB13, pB] using h5
  · rcases List.mem_append.1 ha with ha | ha
    · exact (h.ok a ha).touch hT (h.no a ha)
    · obtain rfl : a = d := by simpa using ha
      exact hd.touch hT hpo
  · simp only [List.length_append, List.length_singleton] at hg
    rcases hno5 g hg with h1 | h1
    · rcases List.mem_append.1 ha with ha | ha
      · exact h.no a ha g h1
      · obtain rfl : a = d := by simpa using ha
        exact hpo g h1
    · intro hi
      have : a.hi ≤ w.heap.size := by
        rcases List.mem_append.1 ha with ha | ha
        · exact (h.ok a ha).hi.2
        · obtain rfl : a = d := by simpa using ha
          exact hd.hi.2
      have := hi.2
      omega
  · exact List.pairwise_append.2 ⟨h.pw, List.pairwise_singleton _ _, fun a ha b hb => by
      obtain rfl : b = d := by simpa using hb
      exact hlo a ha⟩
  · rcases List.mem_append.1 ha with ha | ha
    · exact h.lo a ha
    · obtain rfl : a = d := by simpa using ha
      exact hl0
  · exact h.bel.trans (hT.below h.bel.size (fun k hk => by
      rcases hk with hk | hk
      · exact (h.po.lt k hk).1
      · exact (h.ro.lt k hk).1))
theorem pw_all {α : Type} {R S : α → α → Prop} (hS : ∀ x, S x x) : ∀ {l : List α}, l.Pairwise R → (∀ {x y}, R x y → S x y ∧ S y x) → ∀ {a b : α}, a ∈ l → b ∈ l → S a b
  | [], _, _, _, _, ha, _ => by cases ha
  | x :: l, h, hR, a, b, ha, hb => by
    obtain ⟨h1, h2⟩ := List.pairwise_cons.1 h
    rcases List.mem_cons.1 ha with e1 | ha2
    · rcases List.mem_cons.1 hb with e2 | hb2
      · rw [e1, e2]; exact hS _
      · rw [e1]; exact (hR (h1 b hb2)).1
    · rcases List.mem_cons.1 hb with e2 | hb2
      · rw [e2]; exact (hR (h1 a ha2)).2
      · exact pw_all hS h2 hR ha2 hb2
theorem PnS.apart {w0 w : World} {ds : List PlD} {pA rA : Option Addr} {pc rc : Nat} (h : PnS w0 ds pA pc rA rc w) {a d : PlD} (ha : a ∈ ds) (hd : d ∈ ds) (hne : a ≠ d) : ∀ g, d.In g → ¬ a.In g := by
  have hp : ds.Pairwise fun a b => ∀ g, b.In g → ¬ a.In g := h.pw.imp (fun {x y} hxy g h1 h2 => by have := h1.1; have := h2.2; omega)
  exact (pw_all (S := fun a b => a = b ∨ ∀ g, b.In g → ¬ a.In g) (fun x => .inl rfl) hp (fun {x y} hxy => ⟨.inr hxy, .inr fun g h1 h2 => hxy g h2 h1⟩) ha hd).resolve_left hne
/-- The plans, when one of them was asked. -/
theorem PnS.asked {w0 w w' : World} {ds : List PlD} {pA rA : Option Addr} {pc rc : Nat} {d : PlD} {y : Pw} (h : PnS w0 ds pA pc rA rc w) (hd : d ∈ ds) (hT : Touch (· = d.P) w w') (hy : PlY d.base d.nm d.P d.Ls d.Bs 0 y w') (hin : ∀ g, PlV d.P d.Ls d.Bs y g → d.lo ≤ g ∧ g < d.mid) : PnS w0 ds pA pc rA rc w' := by
  have hM := h.ok d hd
  have hP : d.lo ≤ d.P ∧ d.P < d.mid := hin _ (.inl rfl)
  have hPI : d.In d.P := ⟨hP.1, by have := hM.hi.1; omega⟩
  obtain ⟨y0, h1, _⟩ := hM.ok
  refine ⟨own_touch h.po hT (fun g hg e => h.no d hd g (.inl hg) (by rw [e]; exact hPI)), own_touch h.ro hT (fun g hg e => h.no d hd g (.inr hg) (by rw [e]; exact hPI)), fun a ha => ?_, h.no, h.pw, h.lo, h.bel.trans (hT.below h.bel.size (fun k hk => by rw [hk]; have := h.lo d hd; omega))⟩
  by_cases e : a = d
  · subst e
    refine ⟨hM.f, ⟨y, ⟨hy, ?_⟩, hin⟩, hM.hi.1, Nat.le_trans hM.hi.2 hT.size⟩
    have hru : ∀ g, g = a.P → ¬ a.RU g := fun g hg hu => by have := hM.f.ir g hu; omega
    exact ⟨hT.blk h1.r.p (fun e => hru _ e (.inl rfl)), own_touch h1.r.os hT (fun g hg e => hru g e (.inr (.inl hg))), fun s hs => ⟨hT.rd (h1.r.ok s hs).row (fun b hb e => hru b e (.inr (.inr ⟨s, hs, hb⟩))), (h1.r.ok s hs).len⟩, h1.r.n⟩
  · exact (h.ok a ha).touch hT (fun g hg => by rw [hg]; exact h.apart ha hd e _ hPI)
theorem info_pptr : (Tryz.prog.info? 43).map (fun i => (i.zero, i.size, i.bytes)) = some (some (.pointer none), 1, 8) := by kernel_rfl
theorem info_rpptr : (Tryz.prog.info? 77).map (fun i => (i.zero, i.size, i.bytes)) = some (some (.pointer none), 1, 8) := by kernel_rfl
def PlansR (l : List FDef) (w : World) (e : Ending) (w' : World) : Prop := ∃ (ds : List PlD) (pA : Option Addr) (pc : Nat) (rA : Option Addr) (rc : Nat), e = .returned (.tuple #[.slice pA ds.length pc, .slice rA ds.length rc]) ∧ ds.length ≤ l.length ∧ PnS w ds pA pc rA rc w'
set_option maxRecDepth 100000 in
set_option maxHeartbeats 32000000 in
theorem plans13 (l : List FDef) (A : Option Addr) (cp : Nat) (w : World) (hR : Rd w A (l.flatMap enFD)) (hok : ∀ d ∈ l, OkFD w d) (hl : l.length * 40 ≤ 140737488351232) :
    Calls Tryz.prog 6 #[.slice A l.length cp] w (PlansR l w) := by
  have HR := hid hR
  have HOK := hid hok
  obtain ⟨i0, hi, hz0, hz1, hz2⟩ := info_parts info_pptr
  obtain ⟨i1, hj, hy0, hy1, hy2⟩ := info_parts info_rpptr
  clear hR hok
  go_enter Tryz.func6, Tryz.ntmps6
  go_wp2_with fail
  go_loopw [4, 5, 14] (fun ps rs i wr => ∃ (k : Nat) (ds : List PlD) (pA : Option Addr) (pc : Nat) (rA : Option Addr) (rc : Nat), k ≤ l.length ∧ ds.length ≤ k ∧ ps = .slice pA ds.length pc ∧ rs = .slice rA ds.length rc ∧ i = .int .i64 k ∧ Hid (PnS w ds pA pc rA rc wr)) (fun _ _ i _ => l.length - nOf i)
  case atStart => exact ⟨0, [], none, 0, none, 0, Nat.zero_le _, Nat.le_refl _, rfl, rfl, rfl, hid (PnS.start w)⟩
  case round =>
    obtain ⟨k, ds, pA, pc, rA, rc, hk, hdk, rfl, rfl, rfl, HS⟩ := hrel
    by_cases hlt : k < l.length
    · obtain ⟨x, hx⟩ : ∃ x, l[k]? = some x := ⟨l[k], List.getElem?_eq_getElem hlt⟩
      obtain ⟨b, off, hAA, _, hcc⟩ := (HR.out.below HS.out.bel).at_ 2 enFD_len (by omega) hx
      have HX := hid (HOK.out x (List.mem_of_getElem? hx))
      have HAA := hid hAA
      obtain ⟨nm, SA, scp, sl⟩ := x
      have q0 : wr.cell? ⟨b, off + k * 2, none⟩ = some (.string nm) := hcc 0 _ rfl
      have q1 : wr.cell? ⟨b, off + k * 2 + 1, none⟩ = some (.slice SA sl.length scp) := hcc 1 _ rfl
      rw [hAA]
      clear hcc hx hAA
      by_cases h40 : (40 : Int) < (sl.length : Int)
      · go_wp2_with fail
        go_roundw
        case rel => exact ⟨k + 1, ds, pA, pc, rA, rc, by omega, by omega, rfl, rfl, by go_num, hid (HS.out.next ((Below.refl _ _).alloc (Nat.le_refl _) _))⟩
        case measure => simp [nOf]; omega
      · have hB := Blk.new wr 60 #[.string nm, .slice SA sl.length scp]
        have hbW : Below wr.heap.size wr (wr.alloc (.cells #[.string nm, .slice SA sl.length scp] 60)) := (Below.refl _ _).alloc (Nat.le_refl _) _
        have HS1 := hid (HS.out.next hbW)
        have HG := hid (show wr.heap.size < (wr.alloc (.cells #[.string nm, .slice SA sl.length scp] 60)).heap.size from by simp)
        have HP0 := hid (show ∀ g, (Value.slice pA ds.length pc).ownBlock = some g ∨ (Value.slice rA ds.length rc).ownBlock = some g → g < wr.heap.size from fun g hg => hg.elim (fun h => (HS.out.po.lt g h).2) (fun h => (HS.out.ro.lt g h).2))
        go_upto_region 6 with fail
        generalize wr.alloc (.cells #[.string nm, .slice SA sl.length scp] 60) = W1 at hB HS1 HG ⊢
        generalize wr.heap.size = G at hB HP0 HG ⊢
        have HB := hid hB
        have b0 : W1.cell? ⟨G, 0, none⟩ = some (.string nm) := hB.cell 0
        have b1 : W1.cell? ⟨G, 1, none⟩ = some (.slice SA sl.length scp) := hB.cell 1
        have lG := hB.lt
        have hl40 : sl.length ≤ 40 := by omega
        have hbx : Below w.heap.size w W1 := HS1.out.bel
        have HOKS := hid (show ∀ s ∈ sl, OkSt W1 s from fun s hs => by
          have := HX.out.ok s hs
          exact ⟨this.row.below hbx, this.len⟩)
        have HRD := hid (show Rd W1 SA (sl.flatMap enSt) from HX.out.rd.below hbx)
        have KC := hid (compile_any nm sl SA scp W1 HRD.out HOKS.out (by omega))
        clear hB hbW hbx q0 q1 HAA
        go_wp2_with fail
        refine KC.out.mono ?_
        rintro e w2 ⟨hb2, hc2⟩
        have HB2 := hid hb2
        have HOKS2 := hid (show ∀ s ∈ sl, OkSt w2 s from fun s hs => (HOKS.out s hs).next hb2)
        have KF := hid (ref_any nm sl SA scp w2 (HRD.out.below hb2) HOKS2.out (by omega))
        have c0 : w2.cell? ⟨G, 0, none⟩ = some (.string nm) := (HB.out.next hb2).cell 0
        have c1 : w2.cell? ⟨G, 1, none⟩ = some (.slice SA sl.length scp) := (HB.out.next hb2).cell 1
        have lG2 : G < w2.heap.size := (HB.out.next hb2).lt
        clear KC hb2 b0 b1 lG
        rcases hc2 with ⟨hc, rfl⟩ | ⟨hc, P, vS, vB, Ls, Bs, rfl, hp, hg⟩
        · have HC := hid hc
          have hne : (checkN sl == 0) = false := by simpa using hc
          clear hc
          go_wp2_with fail
          refine KF.out.mono ?_
          rintro e w3 ⟨FA, fc, lr, rfl, ht, hO, hs, hb3⟩
          have KR := hid (rcompile_any nm lr FA fc w3 (own_rd hO) (fun s hm => ⟨own_rd (hs s hm), by
            obtain ⟨q, hq⟩ := List.mem_iff_getElem?.1 hm
            have hql : q < sl.length := by rw [← ht.len]; exact (List.getElem?_eq_some_iff.1 hq).1
            obtain ⟨A2, c2, e2⟩ := ht.at_ q _ (List.getElem?_eq_getElem hql)
            rw [hq] at e2
            injection e2 with e2
            rw [e2]
            exact (HOKS2.out _ (List.getElem_mem hql)).len⟩) (by rw [ht.len]; omega))
          rw [show RcmR nm lr w3 = fun e w' => RcmR nm lr w3 e w' from rfl] at KR
          have HT := hid ht
          have HB3 := hid hb3
          clear KF hO hs hb3 ht
          go_wp2_with fail
          refine KR.out.mono ?_
          rintro e w4 ⟨hb4, hc4⟩
          rw [check_twins HT.out] at hc4
          have HB4 := hid hb4
          rcases hc4 with ⟨_, rfl⟩ | ⟨hc, _⟩
          · go_wp2_with fail
            go_roundw
            case rel => exact ⟨k + 1, ds, pA, pc, rA, rc, by omega, by omega, rfl, rfl, by go_num, hid (((HS1.out.next HB2.out).next HB3.out).next HB4.out)⟩
            case measure => simp [nOf]; omega
          · exact absurd hc HC.out
        · have HC := hid hc
          clear hc
          have HPG := hid (And.intro hp hg)
          clear hp hg
          go_wp2_with fail
          refine KF.out.mono ?_
          rintro e w3 ⟨FA, fc, lr, rfl, ht, hO, hs, hb3⟩
          have KR := hid (rcompile_any nm lr FA fc w3 (own_rd hO) (fun s hm => ⟨own_rd (hs s hm), by
            obtain ⟨q, hq⟩ := List.mem_iff_getElem?.1 hm
            have hql : q < sl.length := by rw [← ht.len]; exact (List.getElem?_eq_some_iff.1 hq).1
            obtain ⟨A2, c2, e2⟩ := ht.at_ q _ (List.getElem?_eq_getElem hql)
            rw [hq] at e2
            injection e2 with e2
            rw [e2]
            exact (HOKS2.out _ (List.getElem_mem hql)).len⟩) (by rw [ht.len]; omega))
          have HT := hid ht
          have HB3 := hid hb3
          have HOS := hid hs
          clear KF hO hs hb3 ht
          go_wp2_with fail
          refine KR.out.mono ?_
          rintro e w4 ⟨hb4, hc4⟩
          rw [check_twins HT.out] at hc4
          have HB4 := hid hb4
          rcases hc4 with ⟨hc, _⟩ | ⟨_, RP, SR, sr, Lr, rfl, hrp, hord, hRle⟩
          · exact absurd HC.out hc
          · have HM := hid (made13 HC.out hl40 (fun s hm => (HOKS.out s hm).len) HPG.out.1 HPG.out.2 HB2.out HT.out HOS.out HB3.out hrp hord hRle HB4.out)
            have HS4 := hid (((HS1.out.next HB2.out).next HB3.out).next HB4.out)
            have hbz : w.heap.size ≤ w4.heap.size := HS4.out.bel.size
            have HPO := hid HS4.out.po
            have HRO := hid HS4.out.ro
            clear KR hrp hord hRle hb4 c0 c1 lG2
            go_wp2_with (first
              | (at_builtin; refine wpList_push_at _ rfl _ _ 24 rfl w.heap.size 43 i0 _ 1 8 Tryz.underlying24 hi hz0 hz1 hz2 rfl (by decide) _ _ _ (by rfl) HPO.out #[.pointer (some ⟨P, 0, none⟩)] w4.heap.size rfl (by rfl) (by rfl) (by rfl) (by unfold maxLen; omega) (by omega) hbz ?_; intro v' w5 hO5 hg5 ha5; obtain ⟨pA', pc', rfl, _⟩ := own_slice hO5; have hbz5 : w.heap.size ≤ w5.heap.size := Nat.le_trans hbz (Nat.le_trans (by simp) hg5.size); have HRO5 := hid (own_touch HRO.out ((Touch.of_below ((Below.refl _ _).alloc (Nat.le_refl _) _)).then (S := fun b => (Value.slice pA ds.length pc).ownBlock = some b) ⟨hg5.os, hg5.tape, hg5.output, hg5.size, fun k hk hn => hg5.block k hk (fun e => hn e.symm)⟩) (fun g hg e => own_ne HRO.out HPO.out (by decide) hg e)); have HA := hid (And.intro hO5 (And.intro hg5 ha5)); clear hO5 hg5 ha5)
              | (at_builtin; refine wpList_push_at _ rfl _ _ 25 rfl w.heap.size 77 i1 _ 1 8 Tryz.underlying25 hj hy0 hy1 hy2 rfl (by decide) _ _ _ (by rfl) HRO5.out #[.pointer (some ⟨RP, 0, none⟩)] w5.heap.size rfl (by rfl) (by rfl) (by rfl) (by unfold maxLen; omega) (by omega) hbz5 ?_; intro v' w6 hO6 hg6 ha6; obtain ⟨rA', rc', rfl, _⟩ := own_slice hO6; have HA2 := hid (And.intro hO6 (And.intro hg6 ha6)); clear hO6 hg6 ha6))
            have HF := hid (HS4.out.more HM.out (fun a ha => (HS1.out.ok a ha).hi.2) HS1.out.bel.size (fun g hg hi => by have h1 := HP0.out g hg; have h2 := hi.1; have h3 := HG.out; simp only at h2; omega) HA.out.1 HA.out.2.1 HA.out.2.2 HA2.out.1 HA2.out.2.1 HA2.out.2.2)
            go_roundw
            case rel => exact ⟨k + 1, ds ++ [_], pA', pc', rA', rc', by omega, by simp; omega, by simp, by simp, by go_num, HF⟩
            case measure => simp [nOf]; omega
    · have hk' : k = l.length := by omega
      subst hk'
      go_wp2_with fail
      go_ret2
      exact ⟨ds, pA, pc, rA, rc, rfl, hdk, HS.out⟩

end Go.Proofs.YtoemmakhbiiknaaGreat

namespace Go.Proofs.YtoemmakhbiiknaaGreat
open Go.RowKit Go.WideShapes Go.ChangeShapes Go.ChangeAt Go.Deep
set_option linter.unusedVariables false

theorem info_mk13 : (Tryz.prog.info? 71).map (fun i => (i.zero, i.size, i.bytes)) = some (some (.int .i64 0), 1, 8) := by kernel_rfl
theorem info_int13 : (Tryz.prog.info? 3).map (fun i => (i.zero, i.size, i.bytes)) = some (some (.int .i64 0), 1, 8) := by kernel_rfl
theorem made_zeros (n : Nat) : (madeCells (Value.int .i64 0).cells (n * 1)).toList = (List.replicate n (0 : Int)).flatMap en1 := by
  rw [flat_en1]
  apply List.ext_getElem?
  intro i
  by_cases hi : i < n
  · simp [madeCells, Value.cells, hi, Nat.mod_one]
  · simp [madeCells, Value.cells, hi]
theorem below_grown13 {w w' : World} (h : w.grownBy w' none) : Below w.heap.size w w' := ⟨h.os, h.tape, h.output, h.size, fun k hk => h.block k hk (by simp)⟩
section
variable {base base2 n0 I P X M : Nat} {es : List (Int × Nat)} {nm : ByteArray} {Ls : List Stp} {Bs : List IRow} {ask : Int} {y y1 y2 : Pw} {v v1 v2 : Iv} {l l1 l2 : Il} {w w' w1 w2 : World}
theorem PlY.notMap {κ ν : Type} {kE : κ → Value} {vE : ν → Value} {m : List (κ × ν)} (h : PlY base2 nm P Ls Bs ask y w) (hM : IsMap w M kE vE m) : ¬ PlV P Ls Bs y M := by
  rintro (e | e | e | ⟨s, hs, e⟩ | ⟨b, hb, e⟩ | ⟨hd, e⟩)
  · exact hM.notBlk h.p.p e
  · exact hM.notOwn h.p.os e.symm
  · exact hM.notOwn h.p.ob e.symm
  · exact hM.notOwn (h.p.st s hs) e.symm
  · exact hM.notOwn (h.p.rw b hb) e.symm
  · obtain ⟨H, h1, h2, h3, h4⟩ := h.p.hs hd
    rcases e with e | ⟨b, hb, e⟩
    · rw [h1] at e
      have e2 : H = M := by simpa [Value.ownBlock] using e
      exact hM.notBlk h2 e2.symm
    · exact hM.notOwn (h4 b hb) e.symm
theorem IsI.notMap {κ ν : Type} {kE : κ → Value} {vE : ν → Value} {m : List (κ × ν)} {vP : Value} (h : IsI base I vP v l w) (hM : IsMap w M kE vE m) : ¬ IU I v l M := by
  rintro (e | e | e | e)
  · exact hM.notBlk h.b e
  · exact hM.notOwn h.m e.symm
  · exact hM.notOwn h.t e.symm
  · exact hM.notOwn h.o e.symm
theorem IsEng.mw {y' : Pw} {v' : Iv} {l' : Il} (hE : IsEng n0 X M es w) (hI : InP base base2 I P nm Ls Bs ask y v l w) (hm : Mw I P Ls Bs y v l y' v' l' w w') : IsEng n0 X M es w' :=
  hE.touch hm.m.t (fun hu => by
    rcases hu with (hu | hu | hu | hu) | hu
    · exact hE.blk.ne_ hI.i.b (by decide) hu
    · exact own_notBlk hI.i.m hE.blk (by decide) hu
    · exact own_notBlk hI.i.t hE.blk (by decide) hu
    · exact own_notBlk hI.i.o hE.blk (by decide) hu
    · exact hE.blk.ne_ hI.p.p.p (by decide) hu) (fun hu => by
    rcases hu with hu | hu
    · exact hI.i.notMap hE.map hu
    · exact hE.map.notBlk hI.p.p.p hu)
def newV (o : Int) (n : Nat) : Iv := ⟨o, 0, false, List.replicate n 0, List.replicate n 0, []⟩
/-- What Start leaves. -/
def StaR (base2 n0 P X M : Nat) (es : List (Int × Nat)) (nm : ByteArray) (Ls : List Stp) (Bs : List IRow) (ask : Int) (y : Pw) (o : Int) (w : World) (e : Ending) (w' : World) : Prop :=
  ∃ I OA oc l', e = .returned (.tuple #[.slice OA (goV Ls Bs (newV o Ls.length)).out.length oc, .int .i64 0]) ∧ InP w.heap.size base2 I P nm Ls Bs ask y { goV Ls Bs (newV o Ls.length) with out := [] } l' w' ∧ IsEng n0 X M (mset es o I) w' ∧ Touch (fun g => g = M ∨ g = P) w w' ∧
    w'.ownsRow w.heap.size 55 6 (.slice OA (goV Ls Bs (newV o Ls.length)).out.length oc) (goV Ls Bs (newV o Ls.length)).out.length ((goV Ls Bs (newV o Ls.length)).out.flatMap enEf) ∧ l'.OA = none
set_option maxRecDepth 100000 in
set_option maxHeartbeats 32000000 in
theorem start_any (h : PlY base2 nm P Ls Bs ask y w) (hE : IsEng n0 X M es w) (o : Int) (hno : mget es o = none) :
    Calls Tryz.prog 16 #[.pointer (some ⟨X, 0, none⟩), .int .i64 o, .pointer (some ⟨P, 0, none⟩)] w (StaR base2 n0 P X M es nm Ls Bs ask y o w) := by
  have KR := hid (room_any hE o P)
  rw [show roomV es o = 0 from by unfold roomV; rw [hno]] at KR
  have HP := hid h
  have HE := hid hE
  have HLn := hid h.rows.n
  obtain ⟨n, hn⟩ : ∃ n, n = Ls.length := ⟨_, rfl⟩
  have HN := hid hn
  clear h hE hno hn
  go_enter Tryz.func16, Tryz.ntmps16
  go_wp2_with fail
  refine KR.out.mono ?_
  rintro e w0 ⟨rfl, rfl⟩
  clear KR
  go_upto_region 4 with fail
  obtain ⟨C, hCd⟩ : ∃ C : World → Prop, ∀ w', C w' ↔ Below w0.heap.size w0 w' := ⟨_, fun _ => Iff.rfl⟩
  have HCd := hid hCd
  have HC0 : Hid (C w0.drew) := hid ((hCd _).2 (Below.refl _ _).drew)
  clear hCd
  obtain ⟨i1, hj, hy0, hy1, hy2⟩ := info_parts info_mk13
  obtain ⟨i2, hk, hx0, hx1, hx2⟩ := info_parts info_int13
  have HLe := hid (show ∀ w' : World, C w' → Calls Tryz.prog 17 #[.pointer (some ⟨P, 0, none⟩)] w' fun e w'' => e = .returned (.int .i64 (n : Int)) ∧ C w'' ∧ Below w'.heap.size w' w'' from fun w' hw' => by
    refine (len_some (HP.out.next ((HCd.out _).1 hw')).p).mono ?_
    rintro e w2 ⟨rfl, rfl⟩
    exact ⟨by rw [HN.out], hw', Below.refl _ _⟩)
  refine wp_region_many C (fun i => if i = 2 ∨ i = 5 then some (.int .i64 (n : Int)) else none) 11 (by kernel_rfl) (by kernel_rfl) HC0.out ?_
  simp only [List.take_succ_cons, List.take_zero, List.drop_succ_cons, List.drop_zero]
  have KM1 := hid (show ∀ w' : World, C w' → ∃ u w'', (Instr.makeSlice 37 (.int .i64 (n : Int)) (.int .i64 (n : Int))).run Tryz.prog w' = .ok u w'' ∧ C w'' ∧ Below w'.heap.size w' w'' ∧ ∃ g, u = .slice (some ⟨g, 0, none⟩) n n ∧ w''.ownsRow w0.heap.size 71 1 (.slice (some ⟨g, 0, none⟩) n n) n ((List.replicate n (0 : Int)).flatMap en1) from fun w' hw' => by
    have hb := (HCd.out _).1 hw'
    have hnl := HLn.out
    rw [← HN.out] at hnl
    obtain ⟨w'', h1, h2, h3⟩ := run_makeSlice_full (P := Tryz.prog) (w := w') w0.heap.size 37 71 i1 (.int .i64 0) 1 Tryz.underlying37 hj hy0 hy1 .i64 .i64 n (by omega) (by rw [hy2]; omega) (by unfold maxLen; omega) hb.size
    rw [made_zeros] at h2
    have hb3 := below_grown13 h3
    exact ⟨_, w'', h1, (HCd.out _).2 (bthen hb hb3), hb3, _, rfl, h2⟩)
  have KM2 := hid (show ∀ w' : World, C w' → ∃ u w'', (Instr.makeSlice 38 (.int .i64 (n : Int)) (.int .i64 (n : Int))).run Tryz.prog w' = .ok u w'' ∧ C w'' ∧ Below w'.heap.size w' w'' ∧ ∃ g, u = .slice (some ⟨g, 0, none⟩) n n ∧ w''.ownsRow w0.heap.size 3 1 (.slice (some ⟨g, 0, none⟩) n n) n ((List.replicate n (0 : Int)).flatMap en1) from fun w' hw' => by
    have hb := (HCd.out _).1 hw'
    have hnl := HLn.out
    rw [← HN.out] at hnl
    obtain ⟨w'', h1, h2, h3⟩ := run_makeSlice_full (P := Tryz.prog) (w := w') w0.heap.size 38 3 i2 (.int .i64 0) 1 Tryz.underlying38 hk hx0 hx1 .i64 .i64 n (by omega) (by rw [hx2]; omega) (by unfold maxLen; omega) hb.size
    rw [made_zeros] at h2
    have hb3 := below_grown13 h3
    exact ⟨_, w'', h1, (HCd.out _).2 (bthen hb hb3), hb3, _, rfl, h2⟩)
  clear hj hy0 hy1 hy2 hk hx0 hx1 hx2
  refine wpM_one (fun a D D' hd h w' hC hD' => h w' hC (hd w' hD')) (if_neg (by omega)) (by kernel_rfl) (.int .i64 o) (fun w' hw' => by go_simp) ?_
  refine wpM_one (fun a D D' hd h w' hC hD' => h w' hC (hd w' hD')) (if_neg (by omega)) (by kernel_rfl) (.pointer (some ⟨P, 0, none⟩)) (fun w' hw' => by go_simp) ?_
  refine wpM_call (v := .int .i64 (n : Int)) (fun a D D' hd h w' hC hD' => h w' hC (hd w' hD')) rfl (by kernel_rfl) (fun w' hw' => ⟨17, #[.pointer (some ⟨P, 0, none⟩)], by go_simp, HLe.out w' hw'⟩) ?_
  refine wpM_many (fun a D D' hd h w' hC hD' => h w' hC (hd w' hD')) (if_neg (by omega)) (by kernel_rfl) (fun u w' => ∃ g, u = .slice (some ⟨g, 0, none⟩) n n ∧ w'.ownsRow w0.heap.size 71 1 (.slice (some ⟨g, 0, none⟩) n n) n ((List.replicate n (0 : Int)).flatMap en1)) (fun u w1 w2 ⟨g, h1, h2⟩ hb => ⟨g, h1, own_next h2 hb⟩) (fun w' hw' => by
    obtain ⟨u, w'', hrun, hC', hb', hR⟩ := KM1.out w' hw'
    exact ⟨u, w'', by go_simp, hC', hb', hR⟩) ?_
  rintro u1 ⟨_, g1, rfl, _⟩
  refine wpM_one (fun a D D' hd h w' hC hD' => h w' hC (hd w' hD')) (if_neg (by omega)) (by kernel_rfl) (.pointer (some ⟨P, 0, none⟩)) (fun w' hw' => by go_simp) ?_
  refine wpM_call (v := .int .i64 (n : Int)) (fun a D D' hd h w' hC hD' => h w' hC (hd w' hD')) rfl (by kernel_rfl) (fun w' hw' => ⟨17, #[.pointer (some ⟨P, 0, none⟩)], by go_simp, HLe.out w' hw'⟩) ?_
  refine wpM_many (fun a D D' hd h w' hC hD' => h w' hC (hd w' hD')) (if_neg (by omega)) (by kernel_rfl) (fun u w' => ∃ g, u = .slice (some ⟨g, 0, none⟩) n n ∧ w'.ownsRow w0.heap.size 3 1 (.slice (some ⟨g, 0, none⟩) n n) n ((List.replicate n (0 : Int)).flatMap en1)) (fun u w1 w2 ⟨g, h1, h2⟩ hb => ⟨g, h1, own_next h2 hb⟩) (fun w' hw' => by
    obtain ⟨u, w'', hrun, hC', hb', hR⟩ := KM2.out w' hw'
    exact ⟨u, w'', by go_simp, hC', hb', hR⟩) ?_
  rintro u2 ⟨_, g2, rfl, _⟩
  refine wpM_one (fun a D D' hd h w' hC hD' => h w' hC (hd w' hD')) (if_neg (by omega)) (by kernel_rfl) (.agg #[.int .i64 o, .int .i64 0, .bool false, .slice (some ⟨g1, 0, none⟩) n n, .slice (some ⟨g2, 0, none⟩) n n]) (fun w' hw' => by go_simp) ?_
  refine wpM_one (fun a D D' hd h w' hC hD' => h w' hC (hd w' hD')) (if_neg (by omega)) (by kernel_rfl) (.pointer (some ⟨P, 0, none⟩)) (fun w' hw' => by go_simp) ?_
  refine wpM_one (fun a D D' hd h w' hC hD' => h w' hC (hd w' hD')) (if_neg (by omega)) (by kernel_rfl) (.agg #[.int .i64 o, .int .i64 0, .bool false, .slice (some ⟨g1, 0, none⟩) n n, .slice (some ⟨g2, 0, none⟩) n n, .pointer (some ⟨P, 0, none⟩), .slice none 0 0]) (fun w' hw' => by go_simp) ?_
  refine wpM_many (fun a D D' hd h w' hC hD' => h w' hC (hd w' hD')) (if_neg (by omega)) (by kernel_rfl) (fun u w' => ∃ g, u = .pointer (some ⟨g, 0, none⟩) ∧ Blk w' g 96 #[.int .i64 o, .int .i64 0, .bool false, .slice (some ⟨g1, 0, none⟩) n n, .slice (some ⟨g2, 0, none⟩) n n, .pointer (some ⟨P, 0, none⟩), .slice none 0 0] ∧ w0.heap.size ≤ g) (fun u w1 w2 ⟨g, h1, h2, h3⟩ hb => ⟨g, h1, h2.next hb, h3⟩) (fun w' hw' => ⟨.pointer (some ⟨w'.heap.size, 0, none⟩), w'.alloc (.cells #[.int .i64 o, .int .i64 0, .bool false, .slice (some ⟨g1, 0, none⟩) n n, .slice (some ⟨g2, 0, none⟩) n n, .pointer (some ⟨P, 0, none⟩), .slice none 0 0] 96), by go_simp, (HCd.out _).2 (((HCd.out _).1 hw').alloc ((HCd.out _).1 hw').size _), (Below.refl _ _).alloc (Nat.le_refl _) _, w'.heap.size, rfl, Blk.new _ _ _, ((HCd.out _).1 hw').size⟩) ?_
  rintro u3 ⟨_, I, rfl, _, _⟩
  refine wpM_nil ?_
  intro wf hC hD
  obtain ⟨⟨⟨_, g1', e1, hO1⟩, g2', e2, hO2⟩, I', e3, hBI, hIl⟩ := hD
  simp only [Value.slice.injEq, Value.pointer.injEq, Option.some.injEq, Addr.mk.injEq, and_true] at e1 e2 e3
  subst e1 e2 e3
  have hbf := (HCd.out _).1 hC
  obtain ⟨l0, hl0⟩ : ∃ l0 : Il, l0 = ⟨some ⟨g1, 0, none⟩, n, some ⟨g2, 0, none⟩, n, none, 0⟩ := ⟨_, rfl⟩
  have hPf := HP.out.next hbf
  have hEf := HE.out.next hbf
  have hnl := HLn.out
  rw [← HN.out] at hnl
  have hIs : IsI w0.heap.size I (.pointer (some ⟨P, 0, none⟩)) (newV o n) l0 wf := by
    subst hl0
    exact ⟨by simpa [inC, newV] using hBI, by simpa [newV] using hO1, by simpa [newV] using hO2, World.ownsRow_nil _ _ _ _, hIl, by simpa [newV] using hnl, by simp [newV]⟩
  obtain ⟨w8, hrun, hM8, hg8, hs8⟩ := hEf.map.store keyE13 Tryz.underlying88 o I
  simp only [kE13, pB] at hrun
  have hT8 := Touch.of_grown hg8
  have hdj : ∀ g, PlV P Ls Bs y g → ¬ IU I (newV o n) l0 g := fun g hg hu => by
    have h1 := (HP.out.p.use hg).2
    have h2 := (hIs.use hu).1
    omega
  have hI8 := hIs.touch hT8 (fun g hg hu => hIs.notMap hEf.map (by rw [← hg]; exact hu))
  have hP8 : PlY base2 nm P Ls Bs ask y w8 := ⟨hPf.p.touchS hT8 (fun g hg hu => hPf.notMap hEf.map (by rw [← hg]; exact hu)), hPf.ok, hPf.nil, hPf.rows, hPf.aft⟩
  have hInP : InP w0.heap.size base2 I P nm Ls Bs ask y (newV o n) l0 w8 := ⟨hI8, hP8, hdj, by simp [newV, HN.out]⟩
  have hE8 : IsEng n0 X M (mset es o I) w8 := ⟨hT8.blk hEf.blk (fun e => hEf.map.notBlk hEf.blk e.symm), hM8, hEf.low⟩
  have hT0 := (Touch.of_below (S := (· = M)) hbf).then hT8
  have KG := hid (goOn_any hInP (by simp [newV]))
  have HE8 := hid hE8
  have HT0 := hid hT0
  have HB8 := hid (show ∀ g, IU I (newV o n) l0 g → w0.heap.size ≤ g from fun g hg => (hIs.use hg).1)
  have c0 : wf.cell? ⟨X, 0, none⟩ = some (.map (some M)) := hEf.blk.cell 0
  have lX := hEf.blk.lt
  clear hInP hE8 hT0 hI8 hP8 hT8 hM8 hg8 hs8 hdj hIs hBI hIl hO1 hO2 hPf hEf hbf hC hl0
  go_wp2_with fail
  refine KG.out.mono ?_
  rintro e w9 ⟨rfl, l9, hI9, hM9⟩
  have KE := hid (effects_any (X := fun _ => False) hI9.i)
  have HF := hid (And.intro hI9 hM9)
  clear KG hI9 hM9
  go_wp2_with fail
  refine KE.out.mono ?_
  rintro e w10 ⟨rfl, E1, E2, E3⟩
  have HI10 := hid (HF.out.1.upd E1 E2 rfl)
  have HM10 := hid (HF.out.2.trans (Mw.of E2))
  have HO := hid E3
  clear E1 E2 E3 KE
  go_wp2_with fail
  go_ret2
  unfold StaR
  rw [← HN.out]
  refine ⟨I, _, _, _, rfl, HI10.out, ?_, ?_, HO.out, rfl⟩
  · have lX := HE.out.blk.lt
    have lM := HE.out.map.lt
    refine HE8.out.touch HM10.out.m.t (fun hu => ?_) (fun hu => ?_)
    · rcases hu with hu | hu
      · have := HB8.out X hu; omega
      · exact HE.out.blk.ne_ HP.out.p.p (by decide) hu
    · rcases hu with hu | hu
      · have := HB8.out M hu; omega
      · exact HE.out.map.notBlk HP.out.p.p hu
  · exact (HT0.out.mono (fun k hk => .inl hk)).trans HM10.out.m.t (fun k hk => by
      rcases hk with hk | hk
      · exact .inr (HB8.out k hk)
      · exact .inl (.inr hk))
end

end Go.Proofs.YtoemmakhbiiknaaGreat

namespace Go.Proofs.YtoemmakhbiiknaaGreat
open Go.RowKit Go.WideShapes Go.ChangeShapes Go.ChangeAt Go.Deep
set_option linter.unusedVariables false

/-- The document's engine. -/
structure DEn (n1 R : Nat) (LA : Option Addr) (lc : Nat) (bs : List Nat) (od : Nat → Int) (vO : Value) (w : World) : Prop where
  r : Blk w R 34 #[.slice LA bs.length lc, vO]
  own : w.ownsRow n1 139 1 (.slice LA bs.length lc) bs.length (bs.flatMap enB13)
  inst : ∀ b ∈ bs, ∃ v l RP, Blk w b 106 (inD RP v l) ∧ v.ord = od b
  lo : n1 ≤ R ∧ ∀ b ∈ bs, n1 ≤ b
section
variable {n1 R lc RP bG base2 sc : Nat} {LA SA : Option Addr} {bs : List Nat} {od : Nat → Int} {vO : Value} {w w' : World} {nm : ByteArray} {Ls Lr : List Stp} {Bs : List IRow}
/-- What a call of the document's engine may write. -/
def DV (R : Nat) (LA : Option Addr) (n lc g : Nat) : Prop := g = R ∨ (Value.slice LA n lc).ownBlock = some g
theorem DEn.touch {S : Nat → Prop} (h : DEn n1 R LA lc bs od vO w) (hT : Touch S w w') (h1 : ¬ S R) (h2 : ∀ g, (Value.slice LA bs.length lc).ownBlock = some g → ¬ S g) (h3 : ∀ b ∈ bs, ¬ S b) : DEn n1 R LA lc bs od vO w' :=
  ⟨hT.blk h.r h1, own_touch h.own hT (fun g hg => h2 g hg), fun b hb => by
    obtain ⟨v, l, RP, a, e⟩ := h.inst b hb
    exact ⟨v, l, RP, hT.blk a (h3 b hb), e⟩, h.lo⟩
theorem DEn.next (h : DEn n1 R LA lc bs od vO w) (hb : Below w.heap.size w w') : DEn n1 R LA lc bs od vO w' := h.touch (S := fun _ => False) (Touch.of_below hb) (fun h => h) (fun _ _ h => h) (fun _ _ h => h)
theorem DEn.find (h : DEn n1 R LA lc bs od vO w) (o : Int) (hl : bs.length ≤ 140737488355328) : Calls Tryz.prog 56 #[.pointer (some ⟨R, 0, none⟩), .int .i64 o] w fun e w' => e = .returned (dfV od bs o) ∧ w' = w :=
  dfind_any R LA lc bs od o w (h.r.cell 0) h.r.lt (own_rd h.own) hl (fun b hb => by
    obtain ⟨v, l, RP, a, e⟩ := h.inst b hb
    exact ⟨by rw [a.cell 0]; simp [inD, e], a.lt⟩)
theorem DEn.push {J : Nat} {v : Iv} {l : Il} {o : Int} (h : DEn n1 R LA lc bs od vO w) (hJ : Blk w J 106 (inD RP v l)) (ho : v.ord = o) (hne : ∀ b ∈ bs, b ≠ J) (hlo : n1 ≤ J) {B : Obj} {w3 : World} {A' : Option Addr} {cap' : Nat} (hO : w3.ownsRow n1 139 1 (.slice A' (bs.length + 1) cap') (bs.length + 1) (bs.flatMap enB13 ++ [.pointer (some ⟨J, 0, none⟩)])) (hg : (w.alloc B).grownBy w3 (Value.slice LA bs.length lc).ownBlock) :
    DEn n1 R A' cap' (bs ++ [J]) (fun b => if b = J then o else od b) vO (w3.setCell ⟨R, 0, none⟩ (.slice A' (bs.length + 1) cap')) ∧ Touch (DV R LA bs.length lc) w (w3.setCell ⟨R, 0, none⟩ (.slice A' (bs.length + 1) cap')) ∧ Blk w3 R 34 #[.slice LA bs.length lc, vO] := by
  have hT7 : Touch (fun b => (Value.slice LA bs.length lc).ownBlock = some b) w w3 := (Touch.of_below ((Below.refl _ _).alloc (Nat.le_refl _) B)).then ⟨hg.os, hg.tape, hg.output, hg.size, fun k hk hn => hg.block k hk (fun e => hn e.symm)⟩
  have hr3 := hT7.blk h.r (fun e => own_notBlk h.own h.r (by decide) e)
  have hS := Touch.setCell w3 R 0 (.slice A' (bs.length + 1) cap')
  have hst : ∀ {b : Nat} {cs : Array Value}, Blk w b 106 cs → Blk (w3.setCell ⟨R, 0, none⟩ (.slice A' (bs.length + 1) cap')) b 106 cs := fun {b cs} hb => by
    have h3 := hT7.blk hb (fun e => own_notBlk h.own hb (by decide) e)
    exact hS.blk h3 (fun e => h3.ne_ hr3 (by decide) e)
  refine ⟨⟨?_, ?_, fun b hb => ?_, h.lo.1, fun b hb => ?_⟩, ?_, hr3⟩
  · have := hr3.set_ 0 (.slice A' (bs.length + 1) cap')
    simpa using this
  · have := own_touch hO hS (fun q hq e => own_notBlk hO hr3 (by decide) (by rw [hq, e]))
    simpa [enB13, pB] using this
  · rcases List.mem_append.1 hb with hb | hb
    · obtain ⟨v2, l2, RP2, a, e⟩ := h.inst b hb
      exact ⟨v2, l2, RP2, hst a, by rw [if_neg (hne b hb)]; exact e⟩
    · obtain rfl : b = J := by simpa using hb
      exact ⟨v, l, RP, hst hJ, by rw [if_pos rfl]; exact ho⟩
  · rcases List.mem_append.1 hb with hb | hb
    · exact h.lo.2 b hb
    · obtain rfl : b = J := by simpa using hb
      exact hlo
  · exact (hT7.mono (fun k hk => .inr hk)).then (hS.mono (fun k hk => .inl hk))
theorem DEn.setOut {u : Value} (h : DEn n1 R LA lc bs od vO w) : DEn n1 R LA lc bs od u (w.setCell ⟨R, 1, none⟩ u) := by
  have hS := Touch.setCell w R 1 u
  refine ⟨by simpa using h.r.set_ 1 u, own_touch h.own hS (fun q hq e => own_notBlk h.own h.r (by decide) (by rw [hq, e])), fun b hb => ?_, h.lo⟩
  obtain ⟨v2, l2, RP2, a, e⟩ := h.inst b hb
  exact ⟨v2, l2, RP2, hS.blk a (fun e => a.ne_ h.r (by decide) e), e⟩
/-- The class of blocks that an instance under way has. -/
def XN (J g1 g2 n0 : Nat) (g : Nat) : Prop := g = J ∨ g = g1 ∨ g = g2 ∨ n0 ≤ g
theorem newV_mk (o : Int) (n : Nat) : MkOk (newV o n).ms := fun m hm => by
  have := List.eq_of_mem_replicate (show m ∈ List.replicate n (0 : Int) from hm)
  omega
theorem dstart_fin {n J g1 g2 nz : Nat} {o : Int} {W w3 : World} {B : Obj} {A' : Option Addr} {cap' : Nat} (hnz : nz ≤ W.heap.size) (hE : DEn n1 R LA lc bs od vO W) (hP : RpS base2 RP nm SA sc Lr W) (haf : ∀ s ∈ Lr, ∀ b, s.A.map (·.block) = some b → b < bG) (hbG : bG ≤ n1) (hn1 : n1 ≤ nz) (hPz : RP < nz) (hSz : ∀ g, (Value.slice SA Lr.length sc).ownBlock = some g → g < nz) (hbz : ∀ b ∈ bs, b < nz) (hn : n ≤ 1000)
    (hBJ : Blk W J 106 (inD RP (newV o n) ⟨some ⟨g1, 0, none⟩, n, some ⟨g2, 0, none⟩, n, none, 0⟩)) (hO1 : W.ownsRow nz 3 1 (.slice (some ⟨g1, 0, none⟩) n n) n ((List.replicate n (0 : Int)).flatMap en1)) (hO2 : W.ownsRow nz 3 1 (.slice (some ⟨g2, 0, none⟩) n n) n ((List.replicate n (0 : Int)).flatMap en1)) (hJ : nz ≤ J) (h12 : g1 ≠ g2)
    (hO : w3.ownsRow n1 139 1 (.slice A' (bs.length + 1) cap') (bs.length + 1) (bs.flatMap enB13 ++ [.pointer (some ⟨J, 0, none⟩)])) (hg : (W.alloc B).grownBy w3 (Value.slice LA bs.length lc).ownBlock) (W5 : World) (hW5 : W5 = (w3.setCell ⟨R, 0, none⟩ (.slice A' (bs.length + 1) cap')).setCell ⟨R, 1, none⟩ (.slice none 0 0)) :
    DEn n1 R A' cap' (bs ++ [J]) (fun b => if b = J then o else od b) (.slice none 0 0) W5 ∧ Touch (DV R LA bs.length lc) W W5 ∧
    IsD W5.heap.size (XN J g1 g2 W5.heap.size) R J RP (.slice A' (bs.length + 1) cap') (newV o n) ⟨some ⟨g1, 0, none⟩, n, some ⟨g2, 0, none⟩, n, none, 0⟩ W5 ∧ RpK (XN J g1 g2 W5.heap.size) R bG base2 RP nm SA sc Lr W5 ∧ Blk w3 R 34 #[.slice LA bs.length lc, vO] := by
  obtain ⟨P1, P2, P3⟩ := hE.push hBJ (o := o) rfl (fun b hb e => by have := hbz b hb; omega) (by omega) hO hg
  have P4 := P1.setOut (u := .slice none 0 0)
  have hT : Touch (DV R LA bs.length lc) W W5 := by
    rw [hW5]
    exact P2.then ((Touch.setCell _ R 1 (.slice none 0 0)).mono (fun k hk => .inl hk))
  rw [← hW5] at P4
  have hsz := hT.size
  have hg1 := (hO1.lt g1 rfl)
  have hg2 := (hO2.lt g2 rfl)
  have hJlt := hBJ.lt
  have hJ5 := hT.blk hBJ (fun hS => by
    rcases hS with hS | hS
    · exact hBJ.ne_ hE.r (by decide) hS
    · exact own_notBlk hE.own hBJ (by decide) hS)
  have hrow : ∀ {q : Nat} , W.ownsRow nz 3 1 (.slice (some ⟨q, 0, none⟩) n n) n ((List.replicate n (0 : Int)).flatMap en1) → W5.ownsRow 0 3 1 (.slice (some ⟨q, 0, none⟩) n n) n ((List.replicate n (0 : Int)).flatMap en1) := fun {q} h => own_base (own_touch h hT (fun g hg' hS => by
    rcases hS with hS | hS
    · exact own_notBlk h hE.r (by decide) (by rw [hg', hS])
    · exact own_ne (own_base h (Nat.zero_le _)) (own_base hE.own (Nat.zero_le _)) (by decide) hg' hS)) (Nat.zero_le _)
  have hRK : ∀ g, DV R LA bs.length lc g → bG ≤ g ∧ g ≠ RP ∧ (Value.slice SA Lr.length sc).ownBlock ≠ some g := fun g hg' => by
    rcases hg' with hg' | hg'
    · subst hg'
      exact ⟨by have := hE.lo.1; omega, fun e => hE.r.ne_ hP.p (by decide) e, fun e => own_notBlk hP.os hE.r (by decide) e⟩
    · exact ⟨by have := (hE.own.lt g hg').1; omega, fun e => own_notBlk hE.own hP.p (by decide) (by rw [hg', e]), fun e => own_ne (own_base hP.os (Nat.zero_le _)) (own_base hE.own (Nat.zero_le _)) (by decide) e hg'⟩
  refine ⟨P4, hT, ⟨P4.r |> fun h => by simpa [newV] using h, hJ5, ?_, ?_, World.ownsRow_nil _ _ _ _, ?_, ?_, ?_, ⟨.inl rfl, Nat.le_refl _, fun g hg' => .inr (.inr (.inr hg'))⟩, by simpa [newV] using hn, by simp [newV]⟩, ⟨hP.touch haf hT hRK, haf, ?_⟩, P3⟩
  · simpa [newV] using hrow hO1
  · simpa [newV] using hrow hO2
  · intro g ha hb
    have e1 : g1 = g := by simpa [Value.ownBlock] using ha
    have e2 : g2 = g := by simpa [Value.ownBlock] using hb
    exact h12 (e1.trans e2.symm)
  · intro g ha
    have e1 : g1 = g := by simpa [Value.ownBlock] using ha
    exact .inr (.inl e1.symm)
  · intro g ha
    have e1 : g2 = g := by simpa [Value.ownBlock] using ha
    exact .inr (.inr (.inl e1.symm))
  · intro g hg'
    rcases hg' with hg' | hg' | hg' | hg' | hg'
    · exact hRK g (.inl hg')
    all_goals exact ⟨by omega, by omega, fun e => by have := hSz g e; omega⟩
theorem goV_ord (Ls : List Stp) (Bs : List IRow) (v : Iv) : (goV Ls Bs v).ord = v.ord := by
  have hN : ∀ k, (goN Ls Bs v k).ord = v.ord := fun k => by
    induction k with
    | zero => rfl
    | succ k ih =>
      show (goS Ls Bs (goN Ls Bs v k) k).ord = _
      unfold goS
      split
      · cases Ls[k]? with
        | none => exact ih
        | some t => show (bgV _ _ _).ord = _; unfold bgV; split <;> (try split) <;> exact ih
      · exact ih
  unfold goV
  split <;> exact hN _
theorem goV_ms (Ls : List Stp) (Bs : List IRow) (v : Iv) : (goV Ls Bs v).ms.length = v.ms.length := by
  unfold goV
  split <;> exact goN_ms Ls Bs v _
theorem dstart_end {J g1 g2 : Nat} {W5 w9 : World} {vL : Value} {u : Iv} {l9 : Il} (hE : DEn n1 R LA lc bs od vO W5) {v5 : Iv} {l5 : Il} (hJ : Blk W5 J 106 (inD RP v5 l5)) (h1 : ∃ b t s v n xs, W5.ownsRow b t s v n xs ∧ v.ownBlock = some g1 ∧ t = 3) (h2 : ∃ b t s v n xs, W5.ownsRow b t s v n xs ∧ v.ownBlock = some g2 ∧ t = 3) (hd : IsD W5.heap.size (XN J g1 g2 W5.heap.size) R J RP vL u l9 w9) (hT : Touch (DU (XN J g1 g2 W5.heap.size) R) W5 w9) (hL : vL = .slice LA bs.length lc) (hJb : ∀ b ∈ bs, b ≠ J ∨ u.ord = od b) :
    DEn n1 R LA lc bs od (.slice l9.OA u.out.length l9.oc) w9 := by
  subst hL
  have hx : ∀ {g : Nat}, ∀ {t : TypeId} {cs : Array Value}, Blk W5 g t cs → t ≠ 3 → g ≠ R → g ≠ J → ¬ DU (XN J g1 g2 W5.heap.size) R g := fun {g t cs} hb ht hR hJ hu => by
    rcases hu with hu | hu | hu | hu | hu
    · exact hR hu
    · exact hJ hu
    · obtain ⟨_, _, _, _, _, _, a, b, rfl⟩ := h1
      exact own_notBlk a hb (fun e => ht e.symm) (by rw [b, hu])
    · obtain ⟨_, _, _, _, _, _, a, b, rfl⟩ := h2
      exact own_notBlk a hb (fun e => ht e.symm) (by rw [b, hu])
    · have := hb.lt; omega
  refine ⟨hd.r, own_touch hE.own hT (fun g hg hu => ?_), fun b hb => ?_, hE.lo⟩
  · rcases hu with hu | hu | hu | hu | hu
    · exact own_notBlk hE.own hE.r (by decide) (by rw [hg, hu])
    · exact own_notBlk hE.own hJ (by decide) (by rw [hg, hu])
    · obtain ⟨_, _, _, _, _, _, a, b, rfl⟩ := h1
      exact own_ne (own_base hE.own (Nat.zero_le _)) (own_base a (Nat.zero_le _)) (by decide) hg (by rw [hu]; exact b)
    · obtain ⟨_, _, _, _, _, _, a, b, rfl⟩ := h2
      exact own_ne (own_base hE.own (Nat.zero_le _)) (own_base a (Nat.zero_le _)) (by decide) hg (by rw [hu]; exact b)
    · have := (hE.own.lt g hg).2; omega
  · by_cases e : b = J
    · subst e
      exact ⟨u, l9, RP, hd.b, (hJb b hb).resolve_left (fun h => h rfl)⟩
    · obtain ⟨v2, l2, RP2, a, e2⟩ := hE.inst b hb
      exact ⟨v2, l2, RP2, hT.blk a (hx a (by decide) (fun e3 => a.ne_ hE.r (by decide) e3) e), e2⟩
theorem info_dptr : (Tryz.prog.info? 139).map (fun i => (i.zero, i.size, i.bytes)) = some (some (.pointer none), 1, 8) := by kernel_rfl
set_option maxRecDepth 100000 in
set_option maxHeartbeats 16000000 in
theorem dstart_no (h : DEn n1 R LA lc bs od vO w) (o : Int) (rv : Value) (hl : bs.length ≤ 140737488355328) (b : Nat) (hf : dfV od bs o = pB b) : Calls Tryz.prog 23 #[.pointer (some ⟨R, 0, none⟩), .int .i64 o, rv] w fun e w' => e = .returned (.tuple #[.slice none 0 0, .int .i64 71]) ∧ w' = w := by
  have K := hid (h.find o hl)
  rw [hf] at K
  unfold pB at K
  clear h hf
  go_enter Tryz.func23, Tryz.ntmps23
  go_wp2_with fail
  refine K.out.mono ?_
  rintro e w2 ⟨rfl, rfl⟩
  go_wp2_with fail
  go_ret2
  exact ⟨rfl, rfl⟩
set_option maxRecDepth 100000 in
set_option maxHeartbeats 16000000 in
theorem dstart_any (h : DEn n1 R LA lc bs od vO w) (hp : RpS base2 RP nm SA sc Lr w) (haf : ∀ s ∈ Lr, ∀ b, s.A.map (·.block) = some b → b < bG) (hbG : bG ≤ n1) (hs : SameP Ls Bs Lr) (o : Int) (hl : bs.length * 8 + 8 ≤ 140737488355328) (hf : dfV od bs o = .pointer none) :
    Calls Tryz.prog 23 #[.pointer (some ⟨R, 0, none⟩), .int .i64 o, .pointer (some ⟨RP, 0, none⟩)] w fun e w' => ∃ (J : Nat) (LA' : Option Addr) (lc' : Nat) (l' : Il) (n0 : Nat) (X : Nat → Prop), e = .returned (.tuple #[.slice l'.OA (goV Ls Bs (newV o Ls.length)).out.length l'.oc, .int .i64 0]) ∧
      DEn n1 R LA' lc' (bs ++ [J]) (fun b => if b = J then o else od b) (.slice l'.OA (goV Ls Bs (newV o Ls.length)).out.length l'.oc) w' ∧ IsD n0 X R J RP (.slice LA' (bs.length + 1) lc') (goV Ls Bs (newV o Ls.length)) l' w' ∧ Touch (DV R LA bs.length lc) w w' ∧ w.heap.size ≤ J ∧ (∀ g, (Value.slice LA' (bs.length + 1) lc').ownBlock = some g → (Value.slice LA bs.length lc).ownBlock = some g ∨ w.heap.size ≤ g) := by
  have K := hid (h.find o (by omega))
  rw [hf] at K
  have HE := hid h
  have HP := hid hp
  have HAF := hid (And.intro haf hbG)
  have HS := hid hs
  have p1 : w.cell? ⟨RP, 1, none⟩ = some (.slice SA Lr.length sc) := hp.p.cell 1
  have lP := hp.p.lt
  have hLn := hp.n
  clear h hp haf hbG hs hf
  go_enter Tryz.func23, Tryz.ntmps23
  go_wp2_with fail
  refine K.out.mono ?_
  rintro e w2 ⟨rfl, rfl⟩
  clear K
  obtain ⟨n, hn⟩ : ∃ n, n = Lr.length := ⟨_, rfl⟩
  rw [← hn] at p1 hLn
  have HN := hid hn
  clear hn
  obtain ⟨i2, hk, hx0, hx1, hx2⟩ := info_parts info_int13
  obtain ⟨Z, hZ⟩ : ∃ Z, Z = madeCells (Value.int .i64 0).cells (n * 1) := ⟨_, rfl⟩
  have HZ := hid hZ
  have hmk : ∀ w' : World, (Instr.makeSlice 38 (.int .i64 (n : Int)) (.int .i64 (n : Int))).run Tryz.prog w' = .ok (.slice (some ⟨w'.heap.size, 0, none⟩) n n) (w'.alloc (.cells Z 3)) := fun w' => by
    have := run_makeSlice (P := Tryz.prog) (w := w') 38 3 i2 (.int .i64 0) Tryz.underlying38 hk hx0 .i64 .i64 n n (by omega) (by omega) (by rw [hx1]; omega) (by rw [hx2]; omega) (by omega)
    rw [hx1, Int.toNat_natCast, ← hZ] at this
    exact this
  clear hk hx0 hx1 hx2 hZ
  go_upto_region 4 with fail
  obtain ⟨nz, hnz⟩ : ∃ nz, nz = w2.heap.size := ⟨_, rfl⟩
  have HMO := hid (show ∀ (w' : World), nz ≤ w'.heap.size → (w'.alloc (.cells Z 3)).ownsRow nz 3 1 (.slice (some ⟨w'.heap.size, 0, none⟩) n n) n ((List.replicate n (0 : Int)).flatMap en1) from fun w' hw => by
    obtain ⟨i2, hk, hx0, hx1, hx2⟩ := info_parts info_int13
    obtain ⟨w'', h1, h2, h3⟩ := run_makeSlice_full (P := Tryz.prog) (w := w') nz 38 3 i2 (.int .i64 0) 1 Tryz.underlying38 hk hx0 hx1 .i64 .i64 n (by omega) (by rw [hx2]; omega) (by unfold maxLen; omega) hw
    rw [hmk w'] at h1
    simp only [Result.ok.injEq, true_and] at h1
    rw [made_zeros, ← h1] at h2
    exact h2)
  have HFR := hid (show ∀ (g1 g2 : Nat), (g1 = w2.heap.size ∧ g2 = w2.heap.size + 1 ∨ g1 = w2.heap.size + 1 ∧ g2 = w2.heap.size) → ∀ W : World, W = (((w2.alloc (.cells Z 3)).alloc (.cells Z 3)).alloc (.cells #[.int .i64 o, .int .i64 0, .bool false, .slice (some ⟨g1, 0, none⟩) n n, .slice (some ⟨g2, 0, none⟩) n n, .pointer (some ⟨RP, 0, none⟩)] 106)).drew →
      Below w2.heap.size w2 W ∧ Blk W (w2.heap.size + 1 + 1) 106 (inD RP (newV o n) ⟨some ⟨g1, 0, none⟩, n, some ⟨g2, 0, none⟩, n, none, 0⟩) ∧ W.ownsRow nz 3 1 (.slice (some ⟨g1, 0, none⟩) n n) n ((List.replicate n (0 : Int)).flatMap en1) ∧ W.ownsRow nz 3 1 (.slice (some ⟨g2, 0, none⟩) n n) n ((List.replicate n (0 : Int)).flatMap en1) ∧ nz ≤ w2.heap.size + 1 + 1 ∧ g1 ≠ g2 from by
    rintro g1 g2 hgg W rfl
    have hb1 : Below w2.heap.size w2 (w2.alloc (.cells Z 3)) := (Below.refl _ _).alloc (Nat.le_refl _) _
    have hm1 := HMO.out w2 (by omega)
    have hm2 := HMO.out (w2.alloc (.cells Z 3)) (by simp; omega)
    have hs1 : (w2.alloc (.cells Z 3)).heap.size = w2.heap.size + 1 := by simp
    rw [hs1] at hm2
    have hb2 : Below (w2.alloc (.cells Z 3)).heap.size (w2.alloc (.cells Z 3)) ((w2.alloc (.cells Z 3)).alloc (.cells Z 3)) := (Below.refl _ _).alloc (Nat.le_refl _) _
    have hm1' := own_next hm1 hb2
    have hs2 : ((w2.alloc (.cells Z 3)).alloc (.cells Z 3)).heap.size = w2.heap.size + 1 + 1 := by simp
    generalize hW2 : (w2.alloc (.cells Z 3)).alloc (.cells Z 3) = W2 at *
    have hB := Blk.new W2 106 #[.int .i64 o, .int .i64 0, .bool false, .slice (some ⟨g1, 0, none⟩) n n, .slice (some ⟨g2, 0, none⟩) n n, .pointer (some ⟨RP, 0, none⟩)]
    have hb3 : Below W2.heap.size W2 (W2.alloc (.cells #[.int .i64 o, .int .i64 0, .bool false, .slice (some ⟨g1, 0, none⟩) n n, .slice (some ⟨g2, 0, none⟩) n n, .pointer (some ⟨RP, 0, none⟩)] 106)).drew := ((Below.refl _ _).alloc (Nat.le_refl _) _).drew
    have hn1 := own_next hm1' hb3
    have hn2 := own_next hm2 hb3
    rw [hs2] at hB
    refine ⟨bthen (bthen hb1 hb2) hb3, ?_, ?_, ?_, by omega, by omega⟩
    · exact (hB.next (w' := (W2.alloc (.cells #[.int .i64 o, .int .i64 0, .bool false, .slice (some ⟨g1, 0, none⟩) n n, .slice (some ⟨g2, 0, none⟩) n n, .pointer (some ⟨RP, 0, none⟩)] 106)).drew) (Below.refl _ _).drew) |> fun h => by simpa [inD, newV] using h
    · rcases hgg with ⟨rfl, rfl⟩ | ⟨rfl, rfl⟩
      · exact hn1
      · exact hn2
    · rcases hgg with ⟨rfl, rfl⟩ | ⟨rfl, rfl⟩
      · exact hn2
      · exact hn1)
  have HNZ := hid hnz
  clear HMO hnz
  obtain ⟨i0, hi, hz0, hz1, hz2⟩ := info_parts info_dptr
  go_region
  · have HF := hid (HFR.out (w2.heap.size) (w2.heap.size + 1) (.inl ⟨rfl, rfl⟩) _ rfl)
    clear HFR hmk
    generalize (((w2.alloc (.cells Z 3)).alloc (.cells Z 3)).alloc (.cells #[.int .i64 o, .int .i64 0, .bool false, .slice (some ⟨w2.heap.size, 0, none⟩) n n, .slice (some ⟨w2.heap.size + 1, 0, none⟩) n n, .pointer (some ⟨RP, 0, none⟩)] 106)).drew = W at HF ⊢
    generalize w2.heap.size + 1 + 1 = J at HF ⊢
    have HBL := hid HF.out.1
    have HF2 := hid HF.out.2
    clear HF
    generalize w2.heap.size + 1 = g2 at HF2 ⊢
    generalize w2.heap.size = g1 at HF2 ⊢
    have HEW := hid (HE.out.next HBL.out)
    have HPW := hid (HP.out.next HBL.out)
    have r0 : W.cell? ⟨R, 0, none⟩ = some (.slice LA bs.length lc) := HEW.out.r.cell 0
    have lR := HEW.out.r.lt
    have HOL := hid HEW.out.own
    have hlow : n1 ≤ W.heap.size := by have := HEW.out.lo.1; omega
    have HSZ := hid HBL.out.size
    have HPZ := hid (And.intro HP.out.p.lt (And.intro (fun g (hg : (Value.slice SA Lr.length sc).ownBlock = some g) => (HP.out.os.lt g hg).2) (And.intro (fun b (hb : b ∈ bs) => by obtain ⟨v, l, RP, a, e⟩ := HE.out.inst b hb; exact a.lt) (show n1 ≤ w2.heap.size from by have := HE.out.lo.1; have := HE.out.r.lt; omega))))
    clear p1 lP
    go_wp2_with (at_builtin; refine wpList_push_at _ rfl _ _ 31 rfl n1 139 i0 _ 1 8 Tryz.underlying31 hi hz0 hz1 hz2 rfl (by decide) _ _ _ (by rfl) HOL.out #[.pointer (some ⟨J, 0, none⟩)] W.heap.size rfl (by rfl) (by rfl) (by rfl) (by unfold maxLen; omega) (by omega) hlow ?_; intro v' w3 hO4 hg4 hat4; obtain ⟨A', cap', rfl, _⟩ := own_slice hO4; have HFI := hid (dstart_fin (W := W) (w3 := w3) (by rw [HNZ.out]; exact HSZ.out) HEW.out HPW.out HAF.out.1 HAF.out.2 (by rw [HNZ.out]; exact HPZ.out.2.2.2) (by rw [HNZ.out]; exact HPZ.out.1) (by rw [HNZ.out]; exact HPZ.out.2.1) (by rw [HNZ.out]; exact HPZ.out.2.2.1) hLn HF2.out.1 HF2.out.2.1 HF2.out.2.2.1 HF2.out.2.2.2.1 HF2.out.2.2.2.2 hO4 hg4 _ rfl); have c3 : w3.cell? ⟨R, 0, none⟩ = some (.slice LA bs.length lc) := HFI.out.2.2.2.2.cell 0; have c4 : w3.cell? ⟨R, 1, none⟩ = some vO := HFI.out.2.2.2.2.cell 1; have f3 := HFI.out.2.2.2.2.free 0; have f4 := HFI.out.2.2.2.2.free 1; have l3 := HFI.out.2.2.2.2.lt; have HO4 := hid hO4; have HAT := hid hat4; clear hO4 hg4 hat4)
    generalize hW5 : (w3.setCell ⟨R, 0, none⟩ (.slice A' (bs.length + 1) cap')).setCell ⟨R, 1, none⟩ (.slice none 0 0) = W5 at HFI ⊢
    clear c3 c4 f3 f4 l3 hW5 r0 lR HOL
    have HNL := hid (show n = Ls.length from HN.out.trans HS.out.len)
    have KG := hid (dgoOn_any HFI.out.2.2.1 HFI.out.2.2.2.1 HS.out (show (newV o n).ms.length = Ls.length from by rw [← HNL.out]; simp [newV]) (newV_mk o n) (by simp [newV]))
    refine KG.out.mono ?_
    rintro e w9 ⟨rfl, l9, G9⟩
    clear KG
    have HG9 := hid G9
    have c1 : w9.cell? ⟨R, 1, none⟩ = some (.slice l9.OA (goV Ls Bs (newV o n)).out.length l9.oc) := G9.d.r.cell 1
    have l9' := G9.d.r.lt
    clear G9
    go_wp2_with fail
    go_ret2
    rw [← HNL.out]
    have hnz : nz = w2.heap.size := HNZ.out
    have hd := HG9.out.d
    refine ⟨J, A', cap', l9, _, _, rfl, ?_, hd, ?_, ?_, ?_⟩
    · refine dstart_end HFI.out.1 HFI.out.2.2.1.b ⟨_, _, _, _, _, _, HFI.out.2.2.1.m, rfl, rfl⟩ ⟨_, _, _, _, _, _, HFI.out.2.2.1.t, rfl, rfl⟩ hd HG9.out.t (by simp) (fun b hb => ?_)
      by_cases e : b = J
      · right
        rw [goV_ord, if_pos e]
        rfl
      · exact .inl e
    · refine ((Touch.of_below HBL.out).then HFI.out.2.1).trans HG9.out.t (fun k hk => ?_)
      rcases hk with hk | hk | hk | hk | hk
      · exact .inl (.inl hk)
      · right; have := HF2.out.2.2.2.1; omega
      · right; have := (HF2.out.2.1.lt k (by rw [hk]; rfl)).1; omega
      · right; have := (HF2.out.2.2.1.lt k (by rw [hk]; rfl)).1; omega
      · right
        have h1 := HBL.out.size
        have h2 := HFI.out.2.1.size
        omega
    · have := HF2.out.2.2.2.1; omega
    · intro g hg
      rcases HAT.out with h | h
      · exact .inl (by rw [← h]; exact hg)
      · right
        rw [h] at hg
        have h1 := HBL.out.size
        simp only [Option.some.injEq] at hg
        omega
  · have HF := hid (HFR.out (w2.heap.size + 1) (w2.heap.size) (.inr ⟨rfl, rfl⟩) _ rfl)
    clear HFR hmk
    generalize (((w2.alloc (.cells Z 3)).alloc (.cells Z 3)).alloc (.cells #[.int .i64 o, .int .i64 0, .bool false, .slice (some ⟨w2.heap.size + 1, 0, none⟩) n n, .slice (some ⟨w2.heap.size, 0, none⟩) n n, .pointer (some ⟨RP, 0, none⟩)] 106)).drew = W at HF ⊢
    generalize w2.heap.size + 1 + 1 = J at HF ⊢
    have HBL := hid HF.out.1
    have HF2 := hid HF.out.2
    clear HF
    generalize w2.heap.size + 1 = g1 at HF2 ⊢
    generalize w2.heap.size = g2 at HF2 ⊢
    have HEW := hid (HE.out.next HBL.out)
    have HPW := hid (HP.out.next HBL.out)
    have r0 : W.cell? ⟨R, 0, none⟩ = some (.slice LA bs.length lc) := HEW.out.r.cell 0
    have lR := HEW.out.r.lt
    have HOL := hid HEW.out.own
    have hlow : n1 ≤ W.heap.size := by have := HEW.out.lo.1; omega
    have HSZ := hid HBL.out.size
    have HPZ := hid (And.intro HP.out.p.lt (And.intro (fun g (hg : (Value.slice SA Lr.length sc).ownBlock = some g) => (HP.out.os.lt g hg).2) (And.intro (fun b (hb : b ∈ bs) => by obtain ⟨v, l, RP, a, e⟩ := HE.out.inst b hb; exact a.lt) (show n1 ≤ w2.heap.size from by have := HE.out.lo.1; have := HE.out.r.lt; omega))))
    clear p1 lP
    go_wp2_with (at_builtin; refine wpList_push_at _ rfl _ _ 31 rfl n1 139 i0 _ 1 8 Tryz.underlying31 hi hz0 hz1 hz2 rfl (by decide) _ _ _ (by rfl) HOL.out #[.pointer (some ⟨J, 0, none⟩)] W.heap.size rfl (by rfl) (by rfl) (by rfl) (by unfold maxLen; omega) (by omega) hlow ?_; intro v' w3 hO4 hg4 hat4; obtain ⟨A', cap', rfl, _⟩ := own_slice hO4; have HFI := hid (dstart_fin (W := W) (w3 := w3) (by rw [HNZ.out]; exact HSZ.out) HEW.out HPW.out HAF.out.1 HAF.out.2 (by rw [HNZ.out]; exact HPZ.out.2.2.2) (by rw [HNZ.out]; exact HPZ.out.1) (by rw [HNZ.out]; exact HPZ.out.2.1) (by rw [HNZ.out]; exact HPZ.out.2.2.1) hLn HF2.out.1 HF2.out.2.1 HF2.out.2.2.1 HF2.out.2.2.2.1 HF2.out.2.2.2.2 hO4 hg4 _ rfl); have c3 : w3.cell? ⟨R, 0, none⟩ = some (.slice LA bs.length lc) := HFI.out.2.2.2.2.cell 0; have c4 : w3.cell? ⟨R, 1, none⟩ = some vO := HFI.out.2.2.2.2.cell 1; have f3 := HFI.out.2.2.2.2.free 0; have f4 := HFI.out.2.2.2.2.free 1; have l3 := HFI.out.2.2.2.2.lt; have HO4 := hid hO4; have HAT := hid hat4; clear hO4 hg4 hat4)
    generalize hW5 : (w3.setCell ⟨R, 0, none⟩ (.slice A' (bs.length + 1) cap')).setCell ⟨R, 1, none⟩ (.slice none 0 0) = W5 at HFI ⊢
    clear c3 c4 f3 f4 l3 hW5 r0 lR HOL
    have HNL := hid (show n = Ls.length from HN.out.trans HS.out.len)
    have KG := hid (dgoOn_any HFI.out.2.2.1 HFI.out.2.2.2.1 HS.out (show (newV o n).ms.length = Ls.length from by rw [← HNL.out]; simp [newV]) (newV_mk o n) (by simp [newV]))
    refine KG.out.mono ?_
    rintro e w9 ⟨rfl, l9, G9⟩
    clear KG
    have HG9 := hid G9
    have c1 : w9.cell? ⟨R, 1, none⟩ = some (.slice l9.OA (goV Ls Bs (newV o n)).out.length l9.oc) := G9.d.r.cell 1
    have l9' := G9.d.r.lt
    clear G9
    go_wp2_with fail
    go_ret2
    rw [← HNL.out]
    have hnz : nz = w2.heap.size := HNZ.out
    have hd := HG9.out.d
    refine ⟨J, A', cap', l9, _, _, rfl, ?_, hd, ?_, ?_, ?_⟩
    · refine dstart_end HFI.out.1 HFI.out.2.2.1.b ⟨_, _, _, _, _, _, HFI.out.2.2.1.m, rfl, rfl⟩ ⟨_, _, _, _, _, _, HFI.out.2.2.1.t, rfl, rfl⟩ hd HG9.out.t (by simp) (fun b hb => ?_)
      by_cases e : b = J
      · right
        rw [goV_ord, if_pos e]
        rfl
      · exact .inl e
    · refine ((Touch.of_below HBL.out).then HFI.out.2.1).trans HG9.out.t (fun k hk => ?_)
      rcases hk with hk | hk | hk | hk | hk
      · exact .inl (.inl hk)
      · right; have := HF2.out.2.2.2.1; omega
      · right; have := (HF2.out.2.1.lt k (by rw [hk]; rfl)).1; omega
      · right; have := (HF2.out.2.2.1.lt k (by rw [hk]; rfl)).1; omega
      · right
        have h1 := HBL.out.size
        have h2 := HFI.out.2.1.size
        omega
    · have := HF2.out.2.2.2.1; omega
    · intro g hg
      rcases HAT.out with h | h
      · exact .inl (by rw [← h]; exact hg)
      · right
        rw [h] at hg
        have h1 := HBL.out.size
        simp only [Option.some.injEq] at hg
        omega
end

end Go.Proofs.YtoemmakhbiiknaaGreat

namespace Go.Proofs.YtoemmakhbiiknaaGreat
open Go.RowKit Go.WideShapes Go.ChangeShapes Go.ChangeAt Go.Deep
set_option linter.unusedVariables false

set_option maxRecDepth 100000 in
set_option maxHeartbeats 2000000 in
theorem cloneM_any (l : List Int) (A : Option Addr) (cap : Nat) (w : World) (hR : Rd w A (l.flatMap en1)) (hl : l.length * 8 ≤ 140737488355328) :
    Calls Tryz.prog 70 #[.slice A l.length cap] w (NewRowOf en1 71 1 l w) := by
  obtain ⟨i0, hi, hz0, hz1, hz2⟩ := info_parts info_mk13
  cases A with
  | none =>
    have hl0 : l = [] := by
      rcases hR with h | ⟨_, _, h, _⟩
      · cases l with
        | nil => rfl
        | cons x l => simp [en1] at h
      · cases h
    subst hl0
    have hnil : ∀ W, (binOp .eql 37 (.slice none 0 cap) (.slice none 0 0)).run Tryz.prog W = .ok (.bool true) W := fun W => Lib.run_eql_slice_nil_nil W _ _ Tryz.underlying37
    go_enter Tryz.func70, Tryz.ntmps70
    go_wp2_with fail
    go_ret
    exact ⟨none, 0, rfl, World.ownsRow_nil _ _ _ _, Below.refl _ _⟩
  | some a =>
    have hR1 := hid (hR.below ((Below.refl w.heap.size w).alloc (Nat.le_refl _) (.cells #[] 71)))
    have hO := hid (show (w.alloc (.cells #[] 71)).ownsRow w.heap.size 71 1 (.slice (some ⟨w.heap.size, 0, none⟩) 0 0) 0 [] from ⟨rfl, .inr ⟨w.heap.size, 0, #[], rfl, Nat.le_refl _, heap_alloc_new w _, Nat.le_refl _, Nat.zero_le _, rfl, rfl⟩⟩)
    have hnil : ∀ W, (binOp .eql 37 (.slice (some a) l.length cap) (.slice none 0 0)).run Tryz.prog W = .ok (.bool false) W := fun W => Lib.run_eql_slice_some_nil W _ _ _ Tryz.underlying37
    clear hR
    go_enter Tryz.func70, Tryz.ntmps70
    go_wp2_with (first
      | (at_builtin; refine wpList_append_own _ rfl _ _ 37 rfl w.heap.size 71 i0 _ 1 8 Tryz.underlying37 hi hz0 hz1 hz2 rfl (by decide) _ 0 [] (by rfl) hO.out a l.length cap (l.flatMap en1) (by rfl) (length_flatMap_const en1 1 en1_len l) ?_ (en1_one l) (by unfold maxLen; omega) (by omega) (by simp) ?_))
    · intro j u hu
      rcases hR1.out with h0 | ⟨b', off', hA, hlt, hc⟩
      · rw [h0] at hu; simp at hu
      · simp only [Option.some.injEq] at hA
        subst hA
        rw [add_plain]
        exact hc j u hu
    · intro v' w' h2 h3 _
      obtain ⟨A', cap', rfl, _⟩ := own_slice h2
      have hbb := hid (((Below.refl w.heap.size w).alloc (Nat.le_refl _) (.cells #[] 71)).grown h3 (by simp) (fun k hk => by simp [Value.ownBlock] at hk; omega))
      go_wp2_with fail
      go_ret
      exact ⟨A', cap', rfl, h2, hbb.out⟩

section
variable {base I : Nat} {vP : Value} {v : Iv} {l : Il} {w w' : World}
/-- What is saved, as a value. -/
def svC (o st : Int) (pd : Bool) (ms : List Int) (MA : Option Addr) (mc : Nat) (ts : List Int) (TA : Option Addr) (tc : Nat) : Array Value := #[.int .i64 o, .int .i64 st, .bool pd, .slice MA ms.length mc, .slice TA ts.length tc]
/-- What twin leaves. -/
def TwR (o st : Int) (pd : Bool) (ms ts : List Int) (w : World) (e : Ending) (w' : World) : Prop := ∃ MA mc TA tc, e = .returned (.agg (svC o st pd ms MA mc ts TA tc)) ∧ w'.ownsRow w.heap.size 71 1 (.slice MA ms.length mc) ms.length (ms.flatMap en1) ∧ w'.ownsRow w.heap.size 3 1 (.slice TA ts.length tc) ts.length (ts.flatMap en1) ∧ Below w.heap.size w w'
set_option maxRecDepth 100000 in
set_option maxHeartbeats 16000000 in
theorem etwin_any (o st : Int) (pd : Bool) (ms : List Int) (MA : Option Addr) (mc : Nat) (ts : List Int) (TA : Option Addr) (tc : Nat) (hm : Rd w MA (ms.flatMap en1)) (ht : Rd w TA (ts.flatMap en1)) (hml : ms.length ≤ 17592186044416) (htl : ts.length ≤ 17592186044416) :
    Calls Tryz.prog 29 #[.agg #[.int .i64 o, .int .i64 st, .bool pd, .slice MA ms.length mc, .slice TA ts.length tc]] w (TwR o st pd ms ts w) := by
  have hwa : Below w.heap.size w ((w.alloc (.cells #[.int .i64 o, .int .i64 st, .bool pd, .slice MA ms.length mc, .slice TA ts.length tc] 40)).alloc (.cells #[.int .i64 0, .int .i64 0, .bool false, .slice none 0 0, .slice none 0 0] 40)) := ((Below.refl _ _).alloc (Nat.le_refl _) _).alloc (by simp) _
  have hB0 := (Blk.new w 40 #[.int .i64 o, .int .i64 st, .bool pd, .slice MA ms.length mc, .slice TA ts.length tc]).alloc (.cells #[.int .i64 0, .int .i64 0, .bool false, .slice none 0 0, .slice none 0 0] 40)
  have hB1 := Blk.new (w.alloc (.cells #[.int .i64 o, .int .i64 st, .bool pd, .slice MA ms.length mc, .slice TA ts.length tc] 40)) 40 #[.int .i64 0, .int .i64 0, .bool false, .slice none 0 0, .slice none 0 0]
  rw [World.size_alloc] at hB1
  obtain ⟨W, hW⟩ : ∃ W, W = (w.alloc (.cells #[.int .i64 o, .int .i64 st, .bool pd, .slice MA ms.length mc, .slice TA ts.length tc] 40)).alloc (.cells #[.int .i64 0, .int .i64 0, .bool false, .slice none 0 0, .slice none 0 0] 40) := ⟨_, rfl⟩
  obtain ⟨G, hG⟩ : ∃ G, G = w.heap.size := ⟨_, rfl⟩
  rw [← hW] at hwa hB0 hB1
  rw [← hG] at hB0 hB1
  have HW := hid (And.intro hB0 (And.intro hB1 hwa))
  have HWG := hid (And.intro hW hG)
  have KM := hid (show ∀ w', Below W.heap.size W w' → Calls Tryz.prog 70 #[.slice MA ms.length mc] w' (NewRowOf en1 71 1 ms w') from fun w' hb => cloneM_any ms MA mc w' (hm.below (bthen hwa hb)) (by omega))
  have KI := hid (show ∀ w', Below W.heap.size W w' → Calls Tryz.prog 48 #[.slice TA ts.length tc] w' (NewRowOf en1 3 1 ts w') from fun w' hb => cloneI_any ts TA tc w' (ht.below (bthen hwa hb)) (by omega))
  have g3 : W.cell? ⟨G, 3, none⟩ = some (.slice MA ms.length mc) := hB0.cell 3
  have g4 : W.cell? ⟨G, 4, none⟩ = some (.slice TA ts.length tc) := hB0.cell 4
  have lG := hB0.lt
  have HD := hid (show Below W.heap.size W W.drew from (Below.refl _ _).drew)
  clear hwa hB0 hB1 hW hG hm ht
  go_enter Tryz.func29, Tryz.ntmps29
  go_upto_region 1 with fail
  rw [← HWG.out.1, ← HWG.out.2]
  go_region_with ((first
    | (go_at_call 70; refine (KM.out _ HD.out).mono ?_; rintro e w7 ⟨A7, c7, rfl, hO7, hb7⟩
       have HB7 := hid (HD.out.trans (hb7.mono HD.out.size))
       have HO7 := hid hO7
       have g37 : w7.cell? ⟨G, 3, none⟩ = some (.slice MA ms.length mc) := (HW.out.1.next HB7.out).cell 3
       have g47 : w7.cell? ⟨G, 4, none⟩ = some (.slice TA ts.length tc) := (HW.out.1.next HB7.out).cell 4
       have lG7 := (HW.out.1.next HB7.out).lt
       clear hO7 hb7)
    | (go_at_call 48; refine (KI.out _ HB7.out).mono ?_; rintro e w8 ⟨A8, c8, rfl, hO8, hb8⟩
       have HB8 := hid (HB7.out.trans (hb8.mono HB7.out.size))
       have HO8 := hid hO8
       have HO78 := hid (own_next HO7.out hb8)
       have g38 : w8.cell? ⟨G, 3, none⟩ = some (.slice MA ms.length mc) := (HW.out.1.next HB8.out).cell 3
       have g48 : w8.cell? ⟨G, 4, none⟩ = some (.slice TA ts.length tc) := (HW.out.1.next HB8.out).cell 4
       have f38 := (HW.out.1.next HB8.out).free 3
       have f48 := (HW.out.1.next HB8.out).free 4
       have lG8 := (HW.out.1.next HB8.out).lt
       clear hO8 hb8)))
  all_goals
    clear g3 g4 lG g37 g47 lG7 g38 g48 f38 f48 lG8 KM KI
    have hT9 := (Touch.setCell w8 G 3 (.slice A7 ms.length c7)).then (Touch.setCell (w8.setCell ⟨G, 3, none⟩ (.slice A7 ms.length c7)) G 4 (.slice A8 ts.length c8))
    have hB9 := ((HW.out.1.next HB8.out).set_ 3 (.slice A7 ms.length c7)).set_ 4 (.slice A8 ts.length c8)
    have hC9 := ((HW.out.2.1.next HB8.out).far (p := ⟨G, 3, none⟩) (by simp) (.slice A7 ms.length c7)).far (p := ⟨G, 4, none⟩) (by simp) (.slice A8 ts.length c8)
    have hM9 := own_touch HO78.out hT9 (fun g hg e => own_notBlk HO78.out (HW.out.1.next HB8.out) (by decide) (by rw [hg, e]))
    have hI9 := own_touch HO8.out hT9 (fun g hg e => own_notBlk HO8.out (HW.out.1.next HB8.out) (by decide) (by rw [hg, e]))
    have hb8 := bthen HW.out.2.2 HB8.out
    have hb9 := hb8.trans (hT9.below hb8.size (fun k hk => by rw [hk]; exact Nat.le_of_eq HWG.out.2.symm))
    generalize (w8.setCell ⟨G, 3, none⟩ (.slice A7 ms.length c7)).setCell ⟨G, 4, none⟩ (.slice A8 ts.length c8) = w9 at hT9 hB9 hC9 hM9 hI9 hb9 ⊢
    have hB9' : Blk w9 G 40 #[.int .i64 o, .int .i64 st, .bool pd, .slice A7 ms.length c7, .slice A8 ts.length c8] := hB9
    have q0 : w9.cell? ⟨G, 0, none⟩ = some (.int .i64 o) := hB9'.cell 0
    have q1 : w9.cell? ⟨G, 1, none⟩ = some (.int .i64 st) := hB9'.cell 1
    have q2 : w9.cell? ⟨G, 2, none⟩ = some (.bool pd) := hB9'.cell 2
    have q3 : w9.cell? ⟨G, 3, none⟩ = some (.slice A7 ms.length c7) := hB9'.cell 3
    have q4 : w9.cell? ⟨G, 4, none⟩ = some (.slice A8 ts.length c8) := hB9'.cell 4
    have lG := hB9'.lt
    have hT5 := Touch.setRow w9 (G + 1) #[.int .i64 o, .int .i64 st, .bool pd, .slice A7 ms.length c7, .slice A8 ts.length c8]
    have hC5 := hC9.setRow #[.int .i64 o, .int .i64 st, .bool pd, .slice A7 ms.length c7, .slice A8 ts.length c8]
    have hM5 := own_touch hM9 hT5 (fun g hg e => own_notBlk hM9 hC9 (by decide) (by rw [hg, e]))
    have hI5 := own_touch hI9 hT5 (fun g hg e => own_notBlk hI9 hC9 (by decide) (by rw [hg, e]))
    have hb5 := hb9.trans (hT5.below hb9.size (fun k hk => by rw [hk]; have := HWG.out.2; omega))
    obtain ⟨w5, hw5⟩ : ∃ w5, w5 = w9.setRow (G + 1) #[.int .i64 o, .int .i64 st, .bool pd, .slice A7 ms.length c7, .slice A8 ts.length c8] := ⟨_, rfl⟩
    rw [← hw5] at hC5 hM5 hI5 hb5
    have HW5 := hid hw5
    have HF := hid (And.intro hM5 (And.intro hI5 hb5))
    have r0 : w5.cell? ⟨G + 1, 0, none⟩ = some (.int .i64 o) := hC5.cell 0
    have r1 : w5.cell? ⟨G + 1, 1, none⟩ = some (.int .i64 st) := hC5.cell 1
    have r2 : w5.cell? ⟨G + 1, 2, none⟩ = some (.bool pd) := hC5.cell 2
    have r3 : w5.cell? ⟨G + 1, 3, none⟩ = some (.slice A7 ms.length c7) := hC5.cell 3
    have r4 : w5.cell? ⟨G + 1, 4, none⟩ = some (.slice A8 ts.length c8) := hC5.cell 4
    have lG5 := hC5.lt
    have HC9 := hid hC9
    clear hT5 hC5 hM5 hI5 hb5 hw5 hC9 hM9 hI9 hb9 hb8 hB9 hB9' hT9
    go_wp2_with (first
      | (refine wpList_store_row rfl 40 _ _ rfl (G + 1) #[.int .i64 o, .int .i64 st, .bool pd, .slice A7 ms.length c7, .slice A8 ts.length c8] rfl rfl 40 _ HC9.out (by kernel_rfl) (by rfl) (by simp [Value.oneCell']) ?_; rw [← HW5.out]))
    refine bodyPost_ret (v := .agg #[.int .i64 o, .int .i64 st, .bool pd, .slice A7 ms.length c7, .slice A8 ts.length c8]) (by simp [results, Tryz.results29, go_sem, r0, r1, r2, r3, r4]) rfl ?_
    have hsz := HW.out.2.2.size
    have hsz7 := Nat.le_trans hsz HB7.out.size
    exact ⟨A7, c7, A8, c8, rfl, own_base HF.out.1 hsz, own_base HF.out.2.1 hsz7, HF.out.2.2⟩
end

end Go.Proofs.YtoemmakhbiiknaaGreat

namespace Go.Proofs.YtoemmakhbiiknaaGreat
open Go.RowKit Go.WideShapes Go.ChangeShapes Go.ChangeAt Go.Deep
set_option linter.unusedVariables false

theorem step_store_row13 {P : Program} {ops : Array Oper} {o : Oper} {a : Act} {w : World} {K : Act → World → Prop} {Q : Exit → Act → World → Prop} {E : Prop} (hgd : o.guard = none) (ty : TypeId) (x y : Operand) (ho : o.op = .store ty x y)
    (g : Nat) (cells : Array Value) (hx : a.eval x = .pointer (some ⟨g, 0, none⟩)) (hy : a.eval y = .agg cells)
    (t : TypeId) (old : Array Value) (hg : w.heap[g]? = some (.cells old t (0, 0))) (hi : (P.info? ty).map (·.size) = some cells.size)
    (hold : old.size = cells.size) (h1 : cells.all (·.oneCell') = true)
    (h : K (a.put o.dst undef) (w.setRow g cells)) : if Region.wanted o (yielded ops a.tmps) = true then Oper.wp P o a w K Q else E := by
  have hw : Region.wanted o (yielded ops a.tmps) = true := by simp [Region.wanted, hgd]
  rw [if_pos hw]
  exact wp_store_row ty x y ho g cells hx hy t old hg hi hold h1 h
section
variable {base I P : Nat} {v : Iv} {l : Il} {w w' : World}
/-- What Get answers of an instance. -/
def GetR (P : Nat) (v : Iv) (w : World) (e : Ending) (w' : World) : Prop := ∃ MA mc TA tc, e = .returned (.tuple #[.agg (svC v.ord v.st v.paid v.ms MA mc v.ts TA tc), .pointer (some ⟨P, 0, none⟩), .bool true]) ∧ w'.ownsRow w.heap.size 71 1 (.slice MA v.ms.length mc) v.ms.length (v.ms.flatMap en1) ∧ w'.ownsRow w.heap.size 3 1 (.slice TA v.ts.length tc) v.ts.length (v.ts.flatMap en1) ∧ Below w.heap.size w w'
set_option maxRecDepth 100000 in
set_option maxHeartbeats 16000000 in
theorem get_some (h : IsI base I (.pointer (some ⟨P, 0, none⟩)) v l w) (xv : Value) (o : Int)
    (hat : ∀ w' : World, Below w.heap.size w w' → Calls Tryz.prog 28 #[xv, .int .i64 o] w' fun e w'' => e = .returned (.tuple #[.pointer (some ⟨I, 0, none⟩), .int .i64 0]) ∧ w'' = w') :
    Calls Tryz.prog 9 #[xv, .int .i64 o] w (GetR P v w) := by
  have hwa : Below w.heap.size w (w.alloc (.cells #[.int .i64 0, .int .i64 0, .bool false, .slice none 0 0, .slice none 0 0] 40)) := (Below.refl _ _).alloc (Nat.le_refl _) _
  have hB1 := Blk.new w 40 #[.int .i64 0, .int .i64 0, .bool false, .slice none 0 0, .slice none 0 0]
  obtain ⟨W, hW⟩ : ∃ W, W = w.alloc (.cells #[.int .i64 0, .int .i64 0, .bool false, .slice none 0 0, .slice none 0 0] 40) := ⟨_, rfl⟩
  obtain ⟨G, hG⟩ : ∃ G, G = w.heap.size := ⟨_, rfl⟩
  rw [← hW] at hwa hB1
  rw [← hG] at hB1
  have K := hid (hat W hwa)
  have hI := h.next hwa
  have HI := hid hI
  have HB := hid hB1
  have HWA := hid hwa
  have HWG := hid (And.intro hW hG)
  have HGI := hid (show G ≠ I from fun e => hB1.ne_ hI.b (by decide) e)
  obtain ⟨ord, ho⟩ : ∃ x, x = v.ord := ⟨_, rfl⟩
  obtain ⟨st, hs⟩ : ∃ x, x = v.st := ⟨_, rfl⟩
  obtain ⟨pd, hp⟩ : ∃ x, x = v.paid := ⟨_, rfl⟩
  obtain ⟨ms, hm⟩ : ∃ x, x = v.ms := ⟨_, rfl⟩
  obtain ⟨ts, ht⟩ : ∃ x, x = v.ts := ⟨_, rfl⟩
  have i0 : W.cell? ⟨I, 0, none⟩ = some (.int .i64 ord) := by rw [ho]; exact hI.b.cell 0
  have i1 : W.cell? ⟨I, 1, none⟩ = some (.int .i64 st) := by rw [hs]; exact hI.b.cell 1
  have i2 : W.cell? ⟨I, 2, none⟩ = some (.bool pd) := by rw [hp]; exact hI.b.cell 2
  have i3 : W.cell? ⟨I, 3, none⟩ = some (.slice l.MA ms.length l.mc) := by rw [hm]; exact hI.b.cell 3
  have i4 : W.cell? ⟨I, 4, none⟩ = some (.slice l.TA ts.length l.tc) := by rw [ht]; exact hI.b.cell 4
  have i5 : W.cell? ⟨I, 5, none⟩ = some (.pointer (some ⟨P, 0, none⟩)) := hI.b.cell 5
  have lI := hI.b.lt
  have lG := hB1.lt
  have KT := hid (etwin_any (w := W.drew) ord st pd ms l.MA l.mc ts l.TA l.tc (by rw [hm]; exact own_rd (hI.next (Below.refl _ _).drew).m) (by rw [ht]; exact own_rd (hI.next (Below.refl _ _).drew).t) (by rw [hm]; have := hI.n; omega) (by rw [ht, hI.tl]; have := hI.n; omega))
  have HGR : Hid (∀ e w', (∃ MA mc TA tc, e = .returned (.tuple #[.agg #[.int .i64 ord, .int .i64 st, .bool pd, .slice MA ms.length mc, .slice TA ts.length tc], .pointer (some ⟨P, 0, none⟩), .bool true]) ∧ w'.ownsRow w.heap.size 71 1 (.slice MA ms.length mc) ms.length (ms.flatMap en1) ∧ w'.ownsRow w.heap.size 3 1 (.slice TA ts.length tc) ts.length (ts.flatMap en1) ∧ Below w.heap.size w w') → GetR P v w e w') := hid (fun e w' hh => by subst ho hs hp hm ht; exact hh)
  have HD := hid (show Below W.heap.size W W.drew from (Below.refl _ _).drew)
  clear hwa hB1 hW hG hI h ho hs hp hm ht
  go_enter Tryz.func9, Tryz.ntmps9
  go_wp2_with fail
  rw [← HWG.out.1, ← HWG.out.2]
  refine K.out.mono ?_
  rintro e w1 ⟨rfl, rfl⟩
  clear K
  go_upto_region 4 with fail
  go_region_with ((first
    | (go_at_call 29; refine KT.out.mono ?_; rintro e w7 ⟨A7, c7, A8, c8, rfl, hO7, hO8, hb7⟩
       simp only [svC]
       have HB7 := hid (HD.out.trans (hb7.mono HD.out.size))
       have HO7 := hid (And.intro hO7 hO8)
       have HG7 := hid (HB.out.next HB7.out)
       have i57 : w7.cell? ⟨I, 5, none⟩ = some (.pointer (some ⟨P, 0, none⟩)) := (HI.out.next HB7.out).b.cell 5
       have lI7 := (HI.out.next HB7.out).b.lt
       have z0 : w7.cell? ⟨G, 0, none⟩ = some (.int .i64 0) := HG7.out.cell 0
       have z1 : w7.cell? ⟨G, 1, none⟩ = some (.int .i64 0) := HG7.out.cell 1
       have z2 : w7.cell? ⟨G, 2, none⟩ = some (.bool false) := HG7.out.cell 2
       have z3 : w7.cell? ⟨G, 3, none⟩ = some (.slice none 0 0) := HG7.out.cell 3
       have z4 : w7.cell? ⟨G, 4, none⟩ = some (.slice none 0 0) := HG7.out.cell 4
       have f0 := HG7.out.free 0
       have f1 := HG7.out.free 1
       have f2 := HG7.out.free 2
       have f3 := HG7.out.free 3
       have f4 := HG7.out.free 4
       have lG7 := HG7.out.lt
       have hGI := HGI.out
       clear hO7 hO8 hb7)))
  all_goals
    clear z0 z1 z2 z3 z4 f0 f1 f2 f3 f4 i0 i1 i2 i3 i4 i5 i57 lI7 lG7 KT lI lG
    have hT := ((((Touch.setCell w7 G 0 (.int .i64 ord)).then (Touch.setCell (w7.setCell ⟨G, 0, none⟩ (.int .i64 ord)) G 1 (.int .i64 st))).then (Touch.setCell ((w7.setCell ⟨G, 0, none⟩ (.int .i64 ord)).setCell ⟨G, 1, none⟩ (.int .i64 st)) G 2 (.bool pd))).then (Touch.setCell (((w7.setCell ⟨G, 0, none⟩ (.int .i64 ord)).setCell ⟨G, 1, none⟩ (.int .i64 st)).setCell ⟨G, 2, none⟩ (.bool pd)) G 3 (.slice A7 ms.length c7))).then (Touch.setCell ((((w7.setCell ⟨G, 0, none⟩ (.int .i64 ord)).setCell ⟨G, 1, none⟩ (.int .i64 st)).setCell ⟨G, 2, none⟩ (.bool pd)).setCell ⟨G, 3, none⟩ (.slice A7 ms.length c7)) G 4 (.slice A8 ts.length c8))
    have hBf := ((((HG7.out.set_ 0 (.int .i64 ord)).set_ 1 (.int .i64 st)).set_ 2 (.bool pd)).set_ 3 (.slice A7 ms.length c7)).set_ 4 (.slice A8 ts.length c8)
    have hM := own_touch HO7.out.1 hT (fun g hg e => own_notBlk HO7.out.1 HG7.out (by decide) (by rw [hg, e]))
    have hI := own_touch HO7.out.2 hT (fun g hg e => own_notBlk HO7.out.2 HG7.out (by decide) (by rw [hg, e]))
    have hb7 := bthen HWA.out HB7.out
    have hb9 := hb7.trans (hT.below hb7.size (fun k hk => by rw [hk]; exact Nat.le_of_eq HWG.out.2.symm))
    generalize (((((w7.setCell ⟨G, 0, none⟩ (.int .i64 ord)).setCell ⟨G, 1, none⟩ (.int .i64 st)).setCell ⟨G, 2, none⟩ (.bool pd)).setCell ⟨G, 3, none⟩ (.slice A7 ms.length c7)).setCell ⟨G, 4, none⟩ (.slice A8 ts.length c8)) = wf at hT hBf hM hI hb9 ⊢
    have hB' : Blk wf G 40 #[.int .i64 ord, .int .i64 st, .bool pd, .slice A7 ms.length c7, .slice A8 ts.length c8] := hBf
    have r0 : wf.cell? ⟨G, 0, none⟩ = some (.int .i64 ord) := hB'.cell 0
    have r1 : wf.cell? ⟨G, 1, none⟩ = some (.int .i64 st) := hB'.cell 1
    have r2 : wf.cell? ⟨G, 2, none⟩ = some (.bool pd) := hB'.cell 2
    have r3 : wf.cell? ⟨G, 3, none⟩ = some (.slice A7 ms.length c7) := hB'.cell 3
    have r4 : wf.cell? ⟨G, 4, none⟩ = some (.slice A8 ts.length c8) := hB'.cell 4
    have HF := hid (And.intro hM (And.intro hI hb9))
    clear hT hBf hM hI hb9 hb7 hB'
    go_wp2_with fail
    refine bodyPost_ret (v := .tuple #[.agg #[.int .i64 ord, .int .i64 st, .bool pd, .slice A7 ms.length c7, .slice A8 ts.length c8], .pointer (some ⟨P, 0, none⟩), .bool true]) (by simp [results, Tryz.results9, go_sem, r0, r1, r2, r3, r4]) rfl ?_
    have hsz := HWA.out.size
    exact HGR.out _ _ ⟨A7, c7, A8, c8, rfl, own_base HF.out.1 hsz, own_base HF.out.2.1 hsz, HF.out.2.2⟩
end

end Go.Proofs.YtoemmakhbiiknaaGreat
