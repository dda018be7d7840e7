/-
  EngineEnds: one instance, its engine and plan, what is pending, what was undone and sent.
  EngineEnds: the engine's calls on what the loop holds.
  Layer 13: definitions as an argument.
  Layer 13: definitions and scripts as arguments.
  Layer 13: the answers of a world as an argument.
-/
import Derived.Test.YtoemmakhbiiknaaGreatQe17
namespace Go.Proofs.YtoemmakhbiiknaaGreat
open Go.RowKit Go.WideShapes Go.ChangeShapes Go.ChangeAt Go.Deep
set_option linter.unusedVariables false

section
variable {base base2 n0 n1 I P X M U S : Nat} {es : List (Int × Nat)} {nm : ByteArray} {Ls : List Stp} {Bs : List IRow} {ask : Int} {y y' : Pw} {v v' : Iv} {l l' : Il} {w w' : World}
theorem PlY.notTy (h : PlY base nm P Ls Bs ask y w) {g : Nat} {t : TypeId} {cs : Array Value} (hb : Blk w g t cs) (t1 : 126 ≠ t) (t2 : 69 ≠ t) (t3 : 38 ≠ t) (t4 : 3 ≠ t) (t5 : 9 ≠ t) : ¬ PlV P Ls Bs y g := by
  rintro (e | e | e | ⟨s, hs, e⟩ | ⟨b, hbb, e⟩ | ⟨hd, e⟩)
  · exact hb.ne_ h.p.p t1.symm e
  · exact own_notBlk h.p.os hb t2 e
  · exact own_notBlk h.p.ob hb t3 e
  · exact own_notBlk (h.p.st s hs) hb (by first | exact t4 | exact t5) e
  · exact own_notBlk (h.p.rw b hbb) hb t4 e
  · obtain ⟨H, h1, h2, h3, h4⟩ := h.p.hs hd
    rcases e with e | ⟨b, hbb, e⟩
    · rw [h1] at e
      have e2 : H = g := by simpa [Value.ownBlock] using e
      exact hb.ne_ h2 t3.symm e2.symm
    · exact own_notBlk (h4 b hbb) hb t4 e
theorem IsI.notTy {vP : Value} (h : IsI base I vP v l w) (hl : l.OA = none) {g : Nat} {t : TypeId} {cs : Array Value} (hb : Blk w g t cs) (t1 : 96 ≠ t) (t2 : 71 ≠ t) (t4 : 3 ≠ t) : ¬ IU I v l g := by
  rintro (e | e | e | e)
  · exact hb.ne_ h.b t1.symm e
  · exact own_notBlk h.m hb t2 e
  · exact own_notBlk h.t hb t4 e
  · rw [hl] at e
    cases e
theorem InP.touch {T : Nat → Prop} (h : InP base base2 I P nm Ls Bs ask y v l w) (hT : Touch T w w') (h1 : ∀ g, T g → ¬ PlV P Ls Bs y g) (h2 : ∀ g, T g → ¬ IU I v l g) : InP base base2 I P nm Ls Bs ask y v l w' :=
  ⟨h.i.touch hT h2, ⟨h.p.p.touchS hT h1, h.p.ok, h.p.nil, h.p.rows, h.p.aft⟩, h.dj, h.mn⟩
end
theorem rowBlk13 {w : World} {base n cap m : Nat} {e : TypeId} {size : Nat} {A : Option Addr} {xs : List Value} (h : w.ownsRow base e size (.slice A n cap) m xs) {b : Nat} (hb : A.map (·.block) = some b) : ∃ cs, Blk w b e cs := by
  rcases h.2 with ⟨h1, _⟩ | ⟨g, cap', cur, h1, _, hh, _⟩
  · simp at h1
    rw [h1.1] at hb
    simp at hb
  · simp at h1
    rw [h1.1] at hb
    simp at hb
    subst hb
    exact ⟨_, hh⟩
/-- All that the law holds. -/
structure EnS (d : PlD) (X M n0 n1 I U S : Nat) (ask : Int) (y : Pw) (v : Iv) (l : Il) (pd : List Eff) (PA : Option Addr) (pc : Nat) (un se : Nat → Bool) (w : World) : Prop where
  inp : InP n1 d.base I d.P d.nm d.Ls d.Bs ask y v l w
  eng : IsEng n0 X M [((1 : Int), I)] w
  pd : CutR w n1 55 6 PA pd.length pc (pd.flatMap enEf)
  u : Blk w U 4 (rngC d.Ls.length fun k => .bool (un k))
  s : Blk w S 4 (rngC d.Ls.length fun k => .bool (se k))
  us : U ≠ S
  oa : l.OA = none
  out : v.out = []
section
variable {d : PlD} {X M n0 n1 I U S : Nat} {ask ask' : Int} {y y' : Pw} {v v' : Iv} {l l' : Il} {pd pd' : List Eff} {PA PA' : Option Addr} {pc pc' : Nat} {un se : Nat → Bool} {w w' : World}
theorem CutR.next {b n c m : Nat} {e : TypeId} {A : Option Addr} {xs : List Value} (h : CutR w b e m A n c xs) (hb : Below w.heap.size w w') : CutR w' b e m A n c xs := by
  obtain ⟨c', h1, h2⟩ := h
  exact ⟨c', h1, own_next h2 hb⟩
theorem CutR.touch {T : Nat → Prop} {b n c m : Nat} {e : TypeId} {A : Option Addr} {xs : List Value} (h : CutR w b e m A n c xs) (hT : Touch T w w') (h1 : ∀ g, A.map (·.block) = some g → ¬ T g) : CutR w' b e m A n c xs := by
  obtain ⟨c', h2, h3⟩ := h
  exact ⟨c', h2, own_touch h3 hT (fun g hg => h1 g (by cases A with | none => cases hg | some a => exact hg))⟩
theorem CutR.blk {b n c m : Nat} {e : TypeId} {A : Option Addr} {xs : List Value} (h : CutR w b e m A n c xs) {g : Nat} (hg : A.map (·.block) = some g) : ∃ cs, Blk w g e cs := by
  obtain ⟨c', h2, h3⟩ := h
  exact rowBlk13 h3 hg
theorem CutR.rd {b n c m : Nat} {e : TypeId} {A : Option Addr} {xs : List Value} (h : CutR w b e m A n c xs) : Rd w A xs := by
  obtain ⟨c', h2, h3⟩ := h
  exact own_rd h3
theorem EnS.next (h : EnS d X M n0 n1 I U S ask y v l pd PA pc un se w) (hb : Below w.heap.size w w') : EnS d X M n0 n1 I U S ask y v l pd PA pc un se w' :=
  ⟨h.inp.next hb, h.eng.next hb, h.pd.next hb, h.u.next hb, h.s.next hb, h.us, h.oa, h.out⟩
/-- A call of the engine. -/
theorem EnS.eff (h : EnS d X M n0 n1 I U S ask y v l pd PA pc un se w) (hM : Mw I d.P d.Ls d.Bs y v l y' v' l' w w') (hI : InP n1 d.base I d.P d.nm d.Ls d.Bs ask' y' v' l' w') (hl : l'.OA = none) (ho : v'.out = []) : EnS d X M n0 n1 I U S ask' y' v' l' pd PA pc un se w' := by
  have hblk : ∀ {g : Nat} {cs : Array Value}, Blk w g 4 cs → Blk w' g 4 cs := fun {g cs} hb => hM.m.t.blk hb (fun hu => by
    rcases hu with hu | hu
    · exact h.inp.i.notTy h.oa hb (by decide) (by decide) (by decide) hu
    · exact h.inp.p.notTy hb (by decide) (by decide) (by decide) (by decide) (by decide) (.inl hu))
  refine ⟨hI, h.eng.mw h.inp hM, ?_, hblk h.u, hblk h.s, h.us, hl, ho⟩
  obtain ⟨c', h2, h3⟩ := h.pd
  exact ⟨c', h2, eff_keep h3 h.inp h.oa hM⟩
/-- What is pending is another row. -/
theorem EnS.pend (h : EnS d X M n0 n1 I U S ask y v l pd PA pc un se w) (hg : w.grownBy w' (PA.map (·.block))) (hp : CutR w' n1 55 6 PA' pd'.length pc' (pd'.flatMap enEf)) : EnS d X M n0 n1 I U S ask y v l pd' PA' pc' un se w' := by
  have hT : Touch (fun g => PA.map (·.block) = some g) w w' := ⟨hg.os, hg.tape, hg.output, hg.size, fun k hk hn => hg.block k hk (fun e => hn e.symm)⟩
  have hbk : ∀ g, PA.map (·.block) = some g → ∃ cs, Blk w g 55 cs := fun g hg => h.pd.blk hg
  refine ⟨h.inp.touch hT (fun g hg => ?_) (fun g hg => ?_), h.eng.touch hT (fun hg => ?_) (fun hg => ?_), hp, hT.blk h.u (fun hg => ?_), hT.blk h.s (fun hg => ?_), h.us, h.oa, h.out⟩
  · obtain ⟨cs, hb⟩ := hbk g hg
    exact h.inp.p.notTy hb (by decide) (by decide) (by decide) (by decide) (by decide)
  · obtain ⟨cs, hb⟩ := hbk g hg
    exact h.inp.i.notTy h.oa hb (by decide) (by decide) (by decide)
  · obtain ⟨cs, hb⟩ := hbk _ hg
    exact hb.ne_ h.eng.blk (by decide) rfl
  · obtain ⟨cs, hb⟩ := hbk _ hg
    exact h.eng.map.notBlk hb rfl
  · obtain ⟨cs, hb⟩ := hbk _ hg
    exact hb.ne_ h.u (by decide) rfl
  · obtain ⟨cs, hb⟩ := hbk _ hg
    exact hb.ne_ h.s (by decide) rfl
theorem rng_set {n k : Nat} (f : Nat → Bool) (hk : k < n) : (rngC n fun j => Value.bool (f j)).setIfInBounds k (.bool true) = rngC n fun j => Value.bool (f j || j == k) := by
  rw [rngC_set _ _ hk]
  congr 1
  funext j
  by_cases e : j = k
  · subst e; simp
  · have : (j == k) = false := by simpa using e
    rw [if_neg e, this, Bool.or_false]
theorem EnS.other (h : EnS d X M n0 n1 I U S ask y v l pd PA pc un se w) {g : Nat} {cs : Array Value} (hb : Blk w g 4 cs) (hT : Touch (· = g) w w') : InP n1 d.base I d.P d.nm d.Ls d.Bs ask y v l w' ∧ IsEng n0 X M [((1 : Int), I)] w' ∧ CutR w' n1 55 6 PA pd.length pc (pd.flatMap enEf) := by
  refine ⟨h.inp.touch hT (fun q hq => ?_) (fun q hq => ?_), h.eng.touch hT (fun hg => ?_) (fun hg => ?_), h.pd.touch hT (fun q hq e => ?_)⟩
  · subst hq
    exact h.inp.p.notTy hb (by decide) (by decide) (by decide) (by decide) (by decide)
  · subst hq
    exact h.inp.i.notTy h.oa hb (by decide) (by decide) (by decide)
  · exact h.eng.blk.ne_ hb (by decide) hg
  · exact h.eng.map.notBlk hb hg
  · obtain ⟨cs2, hb2⟩ := h.pd.blk hq
    exact hb2.ne_ hb (by decide) e
theorem EnS.setU (h : EnS d X M n0 n1 I U S ask y v l pd PA pc un se w) {k : Nat} (hk : k < d.Ls.length) : EnS d X M n0 n1 I U S ask y v l pd PA pc (fun j => un j || j == k) se (w.setCell ⟨U, k, none⟩ (.bool true)) := by
  have hT := Touch.setCell w U k (.bool true)
  obtain ⟨h1, h2, h3⟩ := h.other h.u hT
  have h4 := h.u.set_ k (.bool true)
  rw [rng_set un hk] at h4
  exact ⟨h1, h2, h3, h4, hT.blk h.s (fun e => h.us e.symm), h.us, h.oa, h.out⟩
theorem EnS.setS (h : EnS d X M n0 n1 I U S ask y v l pd PA pc un se w) {k : Nat} (hk : k < d.Ls.length) : EnS d X M n0 n1 I U S ask y v l pd PA pc un (fun j => se j || j == k) (w.setCell ⟨S, k, none⟩ (.bool true)) := by
  have hT := Touch.setCell w S k (.bool true)
  obtain ⟨h1, h2, h3⟩ := h.other h.s hT
  have h4 := h.s.set_ k (.bool true)
  rw [rng_set se hk] at h4
  exact ⟨h1, h2, h3, hT.blk h.u (fun e => h.us e), h4, h.us, h.oa, h.out⟩
/-- The loop's state: c codes are left, n rounds are done, B0 bounds it all. -/
def EnX (d : PlD) (X M n0 n1 I U S : Nat) (B0 c n : Nat) (pd : List Eff) (PA : Option Addr) (pc : Nat) (un se : Nat → Bool) (w : World) : Prop :=
  ∃ (ask : Int) (y : Pw) (v : Iv) (l : Il) (B : Nat), EnS d X M n0 n1 I U S ask y v l pd PA pc un se w ∧ EJ d.Ls d.Bs pd un se B v ∧ SS d.Ls d.Bs v ∧ B + 2 * c + n ≤ B0 ∧ (0 ≤ ask ∧ ask ≤ 10000 * n) ∧ IvP 1 (1099511627776 + n) v ∧ NB pd v.ms
theorem EnX.next {B0 c n : Nat} (h : EnX d X M n0 n1 I U S B0 c n pd PA pc un se w) (hb : Below w.heap.size w w') : EnX d X M n0 n1 I U S B0 c n pd PA pc un se w' := by
  obtain ⟨ask, y, v, l, B, h1, h2⟩ := h
  exact ⟨ask, y, v, l, B, h1.next hb, h2⟩
theorem rng_ff (n : Nat) : (rngC n fun _ => Value.bool false) = rngC n fun j => Value.bool ((fun _ => false : Nat → Bool) j) := rfl
/-- As it starts. -/
theorem EnX.start {B0 c : Nat} {OA : Option Addr} {oc : Nat} (hF : PlF d) (hI : InP n1 d.base I d.P d.nm d.Ls d.Bs 0 y { goV d.Ls d.Bs (newV 1 d.Ls.length) with out := [] } l w) (hE : IsEng n0 X M [((1 : Int), I)] w) (hO : w.ownsRow n1 55 6 (.slice OA (goV d.Ls d.Bs (newV 1 d.Ls.length)).out.length oc) (goV d.Ls d.Bs (newV 1 d.Ls.length)).out.length ((goV d.Ls d.Bs (newV 1 d.Ls.length)).out.flatMap enEf)) (hl : l.OA = none)
    (hU : Blk w U 4 (rngC d.Ls.length fun _ => .bool false)) (hS : Blk w S 4 (rngC d.Ls.length fun _ => .bool false)) (hUS : U ≠ S) (hB : 3 * d.Ls.length + 2 * c ≤ B0) : EnX d X M n0 n1 I U S B0 c 0 (goV d.Ls d.Bs (newV 1 d.Ls.length)).out OA oc (fun _ => false) (fun _ => false) w := by
  obtain ⟨sl, _, _, hsg⟩ := hF.src
  have hT : Topo d.Ls d.Bs := topo_of hsg (ordN_ok _ _) hF.n40
  obtain ⟨h1, h2⟩ := EJ.start hT 1
  have h3 := h1.out0
  rw [List.nil_append] at h3
  exact ⟨0, y, _, l, _, ⟨hI, hE, .of hO, hU, hS, hUS, hl, rfl⟩, h3, h2, by omega, ⟨by omega, by omega⟩, (((IvP.new (B := 1099511627776) 1 d.Ls.length (by omega) (List.replicate d.Ls.length 0) (fun t ht => List.eq_of_mem_replicate ht)).go (by omega) _ _).zero).mono (by omega), NB.start 1⟩
end

end Go.Proofs.YtoemmakhbiiknaaGreat

namespace Go.Proofs.YtoemmakhbiiknaaGreat
open Go.RowKit Go.WideShapes Go.ChangeShapes Go.ChangeAt Go.Deep
set_option linter.unusedVariables false

theorem CutR.some {w : World} {base n c m : Nat} {e : TypeId} {A : Option Addr} {xs : List Value} (h : CutR w base e m A n c xs) (hn : 0 < n) : ∃ g, A = some ⟨g, 0, none⟩ ∧ base ≤ g ∧ g < w.heap.size ∧ n ≤ c ∧ c ≤ maxLen := by
  obtain ⟨c', h1, h2⟩ := h
  rcases h2.2 with ⟨h3, h4⟩ | ⟨g, cap, cur, h3, hb, hg, h5, h6, _⟩
  · omega
  · injection h3 with e1 e2 e3
    refine ⟨g, e1, hb, (Array.getElem?_eq_some_iff.1 hg).1, ?_, ?_⟩
    · rcases h1 with h1 | h1 <;> omega
    · rcases h1 with h1 | h1 <;> omega
/-- An append whose run is known. -/
theorem wpList_append_run {P : Program} {ops : Array Oper} {rest : List Oper} {o : Oper} {a : Act} {Q : Exit → Act → World → Prop} (w : World) (hgd : o.guard = none) (s x : Operand) (t : TypeId)
    (ho : o.op = .call { callee := .builtin .append, args := #[s, x], argTypes := #[t, t] }) {u u2 v : Value} {w' : World} (hr : (Builtin.append_ #[t, t] o.type #[u, u2]).run P w = .ok v w') (hs : a.eval s = u) (hx : a.eval x = u2)
    (h : wpList P ops Q rest (a.put o.dst v) w') : wpList P ops Q (o :: rest) a w := by
  refine wpList_plain hgd fun K' hK' => ?_
  unfold Oper.wp
  simp only [execOp, ho, resolve, invoke, builtin, Sem.run_bind, Sem.run_pure, Result.andThen_ok, List.map_toArray, List.map_cons, List.map_nil, hs, hx, hr]
  exact hK' _ _ h
section
variable {d : PlD} {X M n0 n1 I U S : Nat} {a b : List Eff} {f : Eff} {PA PA' : Option Addr} {pc pc' : Nat} {un se un2 se2 : Nat → Bool} {B0 c n : Nat} {w w' : World} {ra r : Int}
/-- One effect is taken off, and the call for it is not made yet: un2, se2 are told by the rows already. -/
def EnM (ra : Int) (d : PlD) (X M n0 n1 I U S : Nat) (B0 c n : Nat) (a : List Eff) (f : Eff) (b : List Eff) (PA : Option Addr) (pc : Nat) (un se un2 se2 : Nat → Bool) (w : World) : Prop :=
  ∃ (ask : Int) (y : Pw) (v : Iv) (l : Il) (B : Nat), EnS d X M n0 n1 I U S ask y v l (a ++ b) PA pc un2 se2 w ∧ EJ d.Ls d.Bs (a ++ f :: b) un se (B + 1) v ∧ SS d.Ls d.Bs v ∧ B + 1 + 2 * c + n ≤ B0 ∧ (0 ≤ ask ∧ ask ≤ 10000 * n + ra) ∧ IvP 1 (1099511627776 + n) v ∧ NB (a ++ f :: b) v.ms
/-- The call is made: fs is what it wants. -/
def EnA (r : Int) (d : PlD) (X M n0 n1 I U S : Nat) (B0 c n : Nat) (pd fs : List Eff) (OA PA : Option Addr) (oc pc : Nat) (un se : Nat → Bool) (w : World) : Prop :=
  ∃ (ask : Int) (y : Pw) (v : Iv) (l : Il) (B : Nat), EnS d X M n0 n1 I U S ask y v l pd PA pc un se w ∧ w.ownsRow n1 55 6 (.slice OA fs.length oc) fs.length (fs.flatMap enEf) ∧ EJ d.Ls d.Bs (pd ++ fs) un se B v ∧ SS d.Ls d.Bs v ∧ B + 2 * c + n ≤ B0 ∧ (0 ≤ ask ∧ ask + r ≤ 10000 * n) ∧ IvP 1 (1099511627776 + n) v ∧ NB (pd ++ fs) v.ms
/-- What a call leaves. -/
def EnC (r : Int) (d : PlD) (X M n0 n1 I U S : Nat) (B0 c n : Nat) (pd : List Eff) (PA : Option Addr) (pc : Nat) (un se : Nat → Bool) (w : World) (e : Ending) (w' : World) : Prop :=
  ∃ (OA : Option Addr) (oc : Nat) (fs : List Eff) (co : Int), e = .returned (.tuple #[.slice OA fs.length oc, .int .i64 co]) ∧ EnA r d X M n0 n1 I U S B0 c n pd fs OA PA oc pc un se w' ∧ ∀ (q : Nat) (w0 : World), q ≤ n1 → q ≤ d.P → Below q w0 w → Below q w0 w'
theorem topo_plf (hF : PlF d) : Topo d.Ls d.Bs := by
  obtain ⟨sl, _, _, hsg⟩ := hF.src
  exact topo_of hsg (ordN_ok _ _) hF.n40
theorem EnM.fire (hra : ra ≤ 5000) (hF : PlF d) (hB0 : B0 ≤ 100000000000000) (h : EnM ra d X M n0 n1 I U S B0 c n a f b PA pc un se un se w) (hf : f.kind = 2) :
    Calls Tryz.prog 11 #[.pointer (some ⟨X, 0, none⟩), .int .i64 1, .int .i64 f.step] w (EnC 2000 d X M n0 n1 I U S B0 c (n + 1) (a ++ b) PA pc un se w) := by
  obtain ⟨ask, y, v, l, B, hS, hJ, hSS, hB, hask, hiv, hnb⟩ := h
  obtain ⟨⟨q, hq, hql⟩, _⟩ := hJ.rng f (by simp)
  have hat := at_some hS.eng 1 f.step (by simp [mget]) hS.inp.i
  have hml := hS.inp.mn
  rw [if_pos (by omega), hq] at hat
  have hm := mkA_ts hiv (by omega) q
  rw [hq]
  refine (fire_any hS.inp (by rw [hS.out]; simp) (by omega) (.pointer (some ⟨X, 0, none⟩)) 1 q _ (List.getElem?_eq_getElem hql) (by omega) hat).mono ?_
  rintro e w2 ⟨OA, oc, ask', y', l', rfl, ha', hI, hM, hO, hl⟩
  obtain ⟨j1, j2⟩ := hJ.fire (topo_plf hF) hSS hS.out rfl hq hf (List.getElem?_eq_getElem hql)
  have j3 := j1.out0
  refine ⟨OA, oc, _, 0, rfl, ⟨ask', y', _, l', B, hS.eff hM hI hl rfl, hO, j3, j2, by omega, ⟨by omega, by omega⟩, ?_⟩, fun q w0 h1 h2 hb => hM.below hb hS.inp h1 h2⟩
  exact ⟨((hiv.fr (by omega) _ _ _ _).zero).mono (by push_cast; omega), (NB.fire (v := v) (pd := a ++ f :: b) (by rw [hS.out, List.append_nil]; exact hnb) hS.out rfl hq _)⟩
/-- A request to do. -/
theorem EnM.reply (hra : ra ≤ 5000) (hF : PlF d) (hB0 : B0 ≤ 100000000000000) (h : EnM ra d X M n0 n1 I U S B0 c n a f b PA pc un se un se2 w) (hf : f.kind = 1) (hfu : f.undo = false) {q : Nat} (hq : f.step = (q : Int)) (hse : se2 = fun s => se s || s == q) (code : Int) {c' : Nat} (hc : c' ≤ c) (hc2 : code ≠ 0 → c' + 1 ≤ c) :
    Calls Tryz.prog 10 #[.pointer (some ⟨X, 0, none⟩), .int .i64 1, .int .i64 f.step, .int .i64 f.tr, .bool false, .int .i64 code] w (EnC 2000 d X M n0 n1 I U S B0 c' (n + 1) (a ++ b) PA pc un se2 w) := by
  subst hse
  obtain ⟨ask, y, v, l, B, hS, hJ, hSS, hB, hask, hiv, hnb⟩ := h
  obtain ⟨⟨q', hq', hql⟩, _⟩ := hJ.rng f (by simp)
  obtain rfl : q' = q := by omega
  have hat := at_some hS.eng 1 f.step (by simp [mget]) hS.inp.i
  have hml := hS.inp.mn
  rw [if_pos (by omega), hq] at hat
  rw [hq]
  refine (reply_any hS.inp (by rw [hS.out]; simp) (by omega) (.pointer (some ⟨X, 0, none⟩)) 1 f.tr code false q' _ (List.getElem?_eq_getElem hql) hat).mono ?_
  rintro e w2 ⟨OA, oc, ask', y', l', rfl, ha', hI, hM, hO, hl⟩
  obtain ⟨j1, j2⟩ := (hJ.sent (hJ.sn1 f (by simp) hf q' hq)).reply (topo_plf hF) hSS hS.out rfl hq hf hfu (List.getElem?_eq_getElem hql) code (B' := B + 2 * (c - c')) (by omega) (fun h => by have := hc2 h; omega)
  have j3 := j1.out0
  refine ⟨OA, oc, _, 0, rfl, ⟨ask', y', _, l', B + 2 * (c - c'), hS.eff hM hI hl rfl, hO, j3, j2, by omega, ⟨by omega, by omega⟩, ?_⟩, fun q w0 h1 h2 hb => hM.below hb hS.inp h1 h2⟩
  exact ⟨((hiv.rp (by omega) _ _ _ _ _ _ _).zero).mono (by push_cast; omega), (NB.reply (v := v) (pd := a ++ f :: b) (by rw [hS.out, List.append_nil]; exact hnb) hS.out hS.inp.mn rfl hq _ _ _ _)⟩
/-- A request to undo. -/
theorem EnM.undo (hra : ra ≤ 5000) (hF : PlF d) (hB0 : B0 ≤ 100000000000000) (h : EnM ra d X M n0 n1 I U S B0 c n a f b PA pc un se un2 se2 w) (hf : f.kind = 1) (hfu : f.undo = true) {q : Nat} (hq : f.step = (q : Int)) (hun : un2 = fun s => un s || s == q) (hse : se2 = fun s => se s || s == q) (code : Int) :
    Calls Tryz.prog 10 #[.pointer (some ⟨X, 0, none⟩), .int .i64 1, .int .i64 f.step, .int .i64 f.tr, .bool true, .int .i64 code] w (EnC 2000 d X M n0 n1 I U S B0 c (n + 1) (a ++ b) PA pc un2 se2 w) := by
  subst hse hun
  obtain ⟨ask, y, v, l, B, hS, hJ, hSS, hB, hask, hiv, hnb⟩ := h
  obtain ⟨⟨q', hq', hql⟩, _⟩ := hJ.rng f (by simp)
  obtain rfl : q' = q := by omega
  have hat := at_some hS.eng 1 f.step (by simp [mget]) hS.inp.i
  have hml := hS.inp.mn
  rw [if_pos (by omega), hq] at hat
  rw [hq]
  refine (reply_any hS.inp (by rw [hS.out]; simp) (by omega) (.pointer (some ⟨X, 0, none⟩)) 1 f.tr code true q' _ (List.getElem?_eq_getElem hql) hat).mono ?_
  rintro e w2 ⟨OA, oc, ask', y', l', rfl, ha', hI, hM, hO, hl⟩
  obtain ⟨j1, j2⟩ := (hJ.sent (hJ.sn1 f (by simp) hf q' hq)).undo (topo_plf hF) hSS hS.out rfl hq hf hfu hql d.Ls[q'] f.tr code
  have j3 := j1.out0
  refine ⟨OA, oc, _, 0, rfl, ⟨ask', y', _, l', B, hS.eff hM hI hl rfl, hO, j3, j2, by omega, ⟨by omega, by omega⟩, ?_⟩, fun q w0 h1 h2 hb => hM.below hb hS.inp h1 h2⟩
  exact ⟨((hiv.rp (by omega) _ _ _ _ _ _ _).zero).mono (by push_cast; omega), (NB.reply (v := v) (pd := a ++ f :: b) (by rw [hS.out, List.append_nil]; exact hnb) hS.out hS.inp.mn rfl hq _ _ _ _)⟩
/-- A timer taken down: nothing. -/
theorem EnM.drop (hra : ra ≤ 5000) (h : EnM ra d X M n0 n1 I U S B0 c n a f b PA pc un se un se w) (hf : f.kind = 3) : EnA 2000 d X M n0 n1 I U S B0 c (n + 1) (a ++ b) [] none PA 0 pc un se w := by
  obtain ⟨ask, y, v, l, B, hS, hJ, hSS, hB, hask, hiv, hnb⟩ := h
  obtain ⟨⟨q, hq, hql⟩, _⟩ := hJ.rng f (by simp)
  exact ⟨ask, y, v, l, B, hS, World.ownsRow_nil _ _ _ _, by rw [List.append_nil]; exact hJ.drop hS.out rfl hq hf, hSS, by omega, ⟨by omega, by omega⟩, hiv.mono (by push_cast; omega), by rw [List.append_nil]; exact hnb.drop hq⟩
/-- Cancel. -/
theorem EnA.cancel (hF : PlF d) (hB0 : B0 ≤ 100000000000000) {pd : List Eff} {oc : Nat} {OA : Option Addr} (h : EnA 2000 d X M n0 n1 I U S B0 c n pd [] OA PA oc pc un se w) :
    Calls Tryz.prog 13 #[.pointer (some ⟨X, 0, none⟩), .int .i64 1] w (EnC 1000 d X M n0 n1 I U S B0 c n pd PA pc un se w) := by
  obtain ⟨ask, y, v, l, B, hS, _, hJ, hSS, hB, hask, hiv, hnb⟩ := h
  rw [List.append_nil] at hJ hnb
  have hf := efind_any hS.eng 1
  rw [show findV [((1 : Int), I)] 1 = (.pointer (some ⟨I, 0, none⟩), 0) from by unfold findV; simp [mget, pB]] at hf
  refine (cancel_any hS.inp (by rw [hS.out]; simp) (by omega) (.pointer (some ⟨X, 0, none⟩)) 1 hf).mono ?_
  intro e w2 hE
  unfold CanR at hE
  split at hE
  · obtain ⟨rfl, hb⟩ := hE
    have hb' : Below w.heap.size w w2 := hb
    refine ⟨none, 0, [], 130, rfl, ⟨ask, y, v, l, B, hS.next hb', World.ownsRow_nil _ _ _ _, by simpa using hJ, hSS, hB, ⟨by omega, by omega⟩, hiv, by simpa using hnb⟩, fun q w0 h1 h2 hb2 => ?_⟩
    exact hb2.trans (hb'.mono (by have := (hS.inp.i.use (.inl rfl : IU I v l I)); omega))
  · obtain ⟨OA, oc, ask', y', l', rfl, ha', hI, hM, hO, hl⟩ := hE
    obtain ⟨j1, j2⟩ := hJ.cancel (topo_plf hF)
    have j3 := j1.out0
    refine ⟨OA, oc, _, 0, rfl, ⟨ask', y', _, l', B, hS.eff hM hI hl rfl, hO, by rw [← List.append_nil pd, ← hS.out] at j3 ⊢; simpa using j3, j2, by omega, ⟨by omega, by omega⟩, ?_⟩, fun q w0 h1 h2 hb => hM.below hb hS.inp h1 h2⟩
    exact ⟨(hiv.turn _ _).zero, NB.turn (v := v) (by rw [hS.out, List.append_nil]; exact hnb)⟩
/-- What is pending is short. -/
theorem EnX.dl (hF : PlF d) {pd : List Eff} (h : EnX d X M n0 n1 I U S B0 c n pd PA pc un se w) : pd.length ≤ 80 := by
  obtain ⟨ask, y, v, l, B, hS, hJ, hSS, hB, hask, hiv, hnb⟩ := h
  have := hnb.len (n := d.Ls.length) (fun f hf => (hJ.rng f (by simp [hf])).1)
  have := hF.n40
  omega
theorem EnA.dl (hF : PlF d) {pd fs : List Eff} {oc : Nat} {OA : Option Addr} (h : EnA r d X M n0 n1 I U S B0 c n pd fs OA PA oc pc un se w) : pd.length + fs.length ≤ 80 := by
  obtain ⟨ask, y, v, l, B, hS, _, hJ, hSS, hB, hask, hiv, hnb⟩ := h
  have := hnb.len (n := d.Ls.length) (fun f hf => (hJ.rng f (List.mem_append_left _ hf)).1)
  have := hF.n40
  rw [List.length_append] at *
  omega
theorem EnA.pd {pd fs : List Eff} {oc : Nat} {OA : Option Addr} (h : EnA r d X M n0 n1 I U S B0 c n pd fs OA PA oc pc un se w) : CutR w n1 55 6 PA pd.length pc (pd.flatMap enEf) := by
  obtain ⟨ask, y, v, l, B, hS, _⟩ := h
  exact hS.pd
theorem EnA.rd {pd fs : List Eff} {oc : Nat} {OA : Option Addr} (h : EnA r d X M n0 n1 I U S B0 c n pd fs OA PA oc pc un se w) : Rd w OA (fs.flatMap enEf) := by
  obtain ⟨ask, y, v, l, B, hS, hO, _⟩ := h
  exact own_rd hO
theorem EnA.lo {pd fs : List Eff} {oc : Nat} {OA : Option Addr} (h : EnA r d X M n0 n1 I U S B0 c n pd fs OA PA oc pc un se w) : n1 ≤ w.heap.size := by
  obtain ⟨ask, y, v, l, B, hS, _⟩ := h
  have := hS.inp.i.use (.inl rfl : IU I v l I)
  omega
theorem EnX.lo {pd : List Eff} (h : EnX d X M n0 n1 I U S B0 c n pd PA pc un se w) : n1 ≤ w.heap.size := by
  obtain ⟨ask, y, v, l, B, hS, _⟩ := h
  have := hS.inp.i.use (.inl rfl : IU I v l I)
  omega
theorem EnX.pd {pd : List Eff} (h : EnX d X M n0 n1 I U S B0 c n pd PA pc un se w) : CutR w n1 55 6 PA pd.length pc (pd.flatMap enEf) := by
  obtain ⟨ask, y, v, l, B, hS, _⟩ := h
  exact hS.pd
theorem EnX.nb {pd : List Eff} (h : EnX d X M n0 n1 I U S B0 c n pd PA pc un se w) : n ≤ B0 := by
  obtain ⟨ask, y, v, l, B, _, _, _, hB, _⟩ := h
  omega
/-- What came is pending too. -/
theorem EnA.join {pd fs : List Eff} {oc : Nat} {OA : Option Addr} (h : EnA r d X M n0 n1 I U S B0 c n pd fs OA PA oc pc un se w) (hg : w.grownBy w' (PA.map (·.block))) (hp : CutR w' n1 55 6 PA' (pd ++ fs).length pc' ((pd ++ fs).flatMap enEf)) : EnA r d X M n0 n1 I U S B0 c n (pd ++ fs) [] none PA' 0 pc' un se w' := by
  obtain ⟨ask, y, v, l, B, hS, hO, hJ, hSS, hB, hask, hiv, hnb⟩ := h
  exact ⟨ask, y, v, l, B, hS.pend hg hp, World.ownsRow_nil _ _ _ _, by rw [List.append_nil]; exact hJ, hSS, hB, hask, hiv, by rw [List.append_nil]; exact hnb⟩
theorem EnA.x {pd : List Eff} {oc : Nat} {OA : Option Addr} (hr : 0 ≤ r) (h : EnA r d X M n0 n1 I U S B0 c n pd [] OA PA oc pc un se w) : EnX d X M n0 n1 I U S B0 c n pd PA pc un se w := by
  obtain ⟨ask, y, v, l, B, hS, hO, hJ, hSS, hB, hask, hiv, hnb⟩ := h
  rw [List.append_nil] at hJ hnb
  exact ⟨ask, y, v, l, B, hS, hJ, hSS, hB, ⟨hask.1, by omega⟩, hiv, hnb⟩
theorem EnA.cods {pd fs : List Eff} {oc : Nat} {OA : Option Addr} (h : EnA r d X M n0 n1 I U S B0 c n pd fs OA PA oc pc un se w) {c' : Nat} (hc : c' ≤ c) : EnA r d X M n0 n1 I U S B0 c' n pd fs OA PA oc pc un se w := by
  obtain ⟨ask, y, v, l, B, hS, hO, hJ, hSS, hB, hask⟩ := h
  exact ⟨ask, y, v, l, B, hS, hO, hJ, hSS, by omega, hask⟩
theorem EnA.next {pd fs : List Eff} {oc : Nat} {OA : Option Addr} (h : EnA r d X M n0 n1 I U S B0 c n pd fs OA PA oc pc un se w) (hb : Below w.heap.size w w') : EnA r d X M n0 n1 I U S B0 c n pd fs OA PA oc pc un se w' := by
  obtain ⟨ask, y, v, l, B, hS, hO, hJ⟩ := h
  exact ⟨ask, y, v, l, B, hS.next hb, own_next hO hb, hJ⟩
/-- One effect is taken off. -/
theorem EnX.take (h : EnX d X M n0 n1 I U S B0 c n (a ++ f :: b) PA pc un se w) (hg : w.grownBy w' (PA.map (·.block))) (hp : CutR w' n1 55 6 PA' (a ++ b).length pc' ((a ++ b).flatMap enEf)) : EnM 0 d X M n0 n1 I U S B0 c n a f b PA' pc' un se un se w' := by
  obtain ⟨ask, y, v, l, B, hS, hJ, hSS, hB, hask, hiv, hnb⟩ := h
  have h1 := hJ.phi
  rw [List.length_append, List.length_cons] at h1
  obtain ⟨B', rfl⟩ : ∃ B', B = B' + 1 := ⟨B - 1, by omega⟩
  exact ⟨ask, y, v, l, B', hS.pend hg hp, hJ, hSS, by omega, ⟨hask.1, by omega⟩, hiv, hnb⟩
theorem EnM.next (h : EnM ra d X M n0 n1 I U S B0 c n a f b PA pc un se un2 se2 w) (hb : Below w.heap.size w w') : EnM ra d X M n0 n1 I U S B0 c n a f b PA pc un se un2 se2 w' := by
  obtain ⟨ask, y, v, l, B, hS, h⟩ := h
  exact ⟨ask, y, v, l, B, hS.next hb, h⟩
theorem EnM.lo (h : EnM ra d X M n0 n1 I U S B0 c n a f b PA pc un se un2 se2 w) : n1 ≤ w.heap.size := by
  obtain ⟨ask, y, v, l, B, hS, _⟩ := h
  have := hS.inp.i.use (.inl rfl : IU I v l I)
  omega
theorem EnM.rng (h : EnM ra d X M n0 n1 I U S B0 c n a f b PA pc un se un2 se2 w) : (∃ q : Nat, f.step = (q : Int) ∧ q < d.Ls.length) ∧ (f.kind = 1 ∨ f.kind = 2 ∨ f.kind = 3) := by
  obtain ⟨ask, y, v, l, B, hS, hJ, _⟩ := h
  exact hJ.rng f (by simp)
theorem EnM.setU (h : EnM ra d X M n0 n1 I U S B0 c n a f b PA pc un se un2 se2 w) {q : Nat} (hq : q < d.Ls.length) : EnM ra d X M n0 n1 I U S B0 c n a f b PA pc un se (fun s => un2 s || s == q) se2 (w.setCell ⟨U, q, none⟩ (.bool true)) := by
  obtain ⟨ask, y, v, l, B, hS, h⟩ := h
  exact ⟨ask, y, v, l, B, hS.setU hq, h⟩
theorem EnM.setS (h : EnM ra d X M n0 n1 I U S B0 c n a f b PA pc un se un2 se2 w) {q : Nat} (hq : q < d.Ls.length) : EnM ra d X M n0 n1 I U S B0 c n a f b PA pc un se un2 (fun s => se2 s || s == q) (w.setCell ⟨S, q, none⟩ (.bool true)) := by
  obtain ⟨ask, y, v, l, B, hS, h⟩ := h
  exact ⟨ask, y, v, l, B, hS.setS hq, h⟩
theorem EnM.cu (h : EnM ra d X M n0 n1 I U S B0 c n a f b PA pc un se un2 se2 w) {q : Nat} (hq : q < d.Ls.length) : w.cell? ⟨U, q, none⟩ = some (.bool (un2 q)) ∧ w.frozen? ⟨U, q, none⟩ = false ∧ U < w.heap.size := by
  obtain ⟨ask, y, v, l, B, hS, h⟩ := h
  exact ⟨by rw [hS.u.cell, rngC_at _ hq], hS.u.free q, hS.u.lt⟩
theorem EnM.cs (h : EnM ra d X M n0 n1 I U S B0 c n a f b PA pc un se un2 se2 w) {q : Nat} (hq : q < d.Ls.length) : w.cell? ⟨S, q, none⟩ = some (.bool (se2 q)) ∧ w.frozen? ⟨S, q, none⟩ = false ∧ S < w.heap.size := by
  obtain ⟨ask, y, v, l, B, hS, h⟩ := h
  exact ⟨by rw [hS.s.cell, rngC_at _ hq], hS.s.free q, hS.s.lt⟩
theorem EnM.und (h : EnM ra d X M n0 n1 I U S B0 c n a f b PA pc un se un2 se2 w) (hf : f.kind = 1) (hfu : f.undo = true) {q : Nat} (hq : f.step = (q : Int)) : un q = false := by
  obtain ⟨ask, y, v, l, B, hS, hJ, _⟩ := h
  exact (hJ.undoing (by simp) hq hf hfu).2.1
theorem EnM.ne (h : EnM ra d X M n0 n1 I U S B0 c n a f b PA pc un se un2 se2 w) {g : Nat} {cs : Array Value} (hb : Blk w g 55 cs) : g ≠ U ∧ g ≠ S := by
  obtain ⟨ask, y, v, l, B, hS, _⟩ := h
  exact ⟨hb.ne_ hS.u (by decide), hb.ne_ hS.s (by decide)⟩
theorem EnM.bl (hF : PlF d) (h : EnM ra d X M n0 n1 I U S B0 c n a f b PA pc un se un2 se2 w) {q : Nat} (hq : q < d.Ls.length) : (behL d.Bs d.Ls.length (q : Int)).length ≤ 40 := by
  obtain ⟨ask, y, v, l, B, hS, _⟩ := h
  have hlen : behL d.Bs d.Ls.length (q : Int) = hitsB d.Bs q d.Bs.length := by unfold behL; rw [if_pos (by simp [hasN]; omega)]; simp
  have h1 := hitsB_len hS.inp.p.rows.up q d.Bs.length
  have h2 := (topo_plf hF).len
  have h3 := hF.n40
  rw [hlen]
  omega
/-- Behind. -/
theorem EnM.behind (hra : ra ≤ 4000) (hB0 : B0 ≤ 100000000000000) (h : EnM ra d X M n0 n1 I U S B0 c n a f b PA pc un se un2 se2 w) (i : Int) :
    Calls Tryz.prog 18 #[.pointer (some ⟨d.P, 0, none⟩), .int .i64 i] w fun e w' => ∃ A cap, e = .returned (.slice A (behL d.Bs d.Ls.length i).length cap) ∧ Rd w' A ((behL d.Bs d.Ls.length i).flatMap en1) ∧ EnM (ra + 1) d X M n0 n1 I U S B0 c n a f b PA pc un se un2 se2 w' ∧ (∀ g cs, Blk w g 55 cs → Blk w' g 55 cs) ∧ ∀ (q : Nat) (w0 : World), q ≤ n1 → q ≤ d.P → Below q w0 w → Below q w0 w' := by
  obtain ⟨ask, y, v, l, B, hS, hJ, hSS, hB, hask, hiv, hnb⟩ := h
  refine (hS.inp.behind i (by omega)).mono ?_
  rintro e w2 ⟨y', A, cap, rfl, hR, hI, hM⟩
  refine ⟨A, cap, rfl, hR, ⟨ask + 1, y', v, l, B, hS.eff hM hI hS.oa hS.out, hJ, hSS, hB, ⟨by omega, by omega⟩, hiv, hnb⟩, fun g cs hb => hM.m.t.blk hb (fun hu => ?_), fun q w0 h1 h2 hb => hM.below hb hS.inp h1 h2⟩
  rcases hu with hu | hu
  · exact hS.inp.i.notTy hS.oa hb (by decide) (by decide) (by decide) hu
  · exact hS.inp.p.notTy hb (by decide) (by decide) (by decide) (by decide) (by decide) (.inl hu)
/-- Step. -/
theorem EnM.step (h : EnM ra d X M n0 n1 I U S B0 c n a f b PA pc un se un2 se2 w) {q : Nat} {t : Stp} (ht : d.Ls[q]? = some t) :
    Calls Tryz.prog 19 #[.pointer (some ⟨d.P, 0, none⟩), .int .i64 (q : Int)] w (StepR t w) := by
  obtain ⟨ask, y, v, l, B, hS, _⟩ := h
  exact step_in hS.inp.p.p q t ht (hS.inp.p.aft t (List.mem_of_getElem? ht))
/-- Get, while a step is undone. -/
theorem EnM.get (h : EnM ra d X M n0 n1 I U S B0 c n a f b PA pc un se un2 se2 w) (hf : f.kind = 1) (hfu : f.undo = true) {q : Nat} (hq : f.step = (q : Int)) :
    Calls Tryz.prog 9 #[.pointer (some ⟨X, 0, none⟩), .int .i64 1] w fun e w' => ∃ (MA : Option Addr) (mc : Nat) (TA : Option Addr) (tc : Nat) (ov sv : Int) (pv : Bool) (ms : List Int) (tn : Nat) (gv : Value), e = .returned (.tuple #[.agg #[.int .i64 ov, .int .i64 sv, .bool pv, .slice MA ms.length mc, .slice TA tn tc], gv, .bool true]) ∧ Rd w' MA (ms.flatMap en1) ∧ ms.length = d.Ls.length ∧ (∀ x : Nat, (x : Int) ∈ behL d.Bs d.Ls.length q → se x = true → ms[x]? = some 5) ∧ Below w.heap.size w w' := by
  obtain ⟨ask, y, v, l, B, hS, hJ, _⟩ := h
  refine (get_some hS.inp.i (.pointer (some ⟨X, 0, none⟩)) 1 (fun w' hb => ?_)).mono ?_
  · have hfd := efind_any (hS.eng.next hb) 1
    rw [show findV [((1 : Int), I)] 1 = (.pointer (some ⟨I, 0, none⟩), 0) from by unfold findV; simp [mget, pB]] at hfd
    exact hfd
  · rintro e w2 ⟨MA, mc, TA, tc, rfl, h1, h2, hb⟩
    refine ⟨MA, mc, TA, tc, v.ord, v.st, v.paid, v.ms, v.ts.length, _, rfl, own_rd h1, hS.inp.mn, fun x hx hs => ?_, hb⟩
    have h5 := (hJ.undoing (by simp) hq hf hfu).2.2 x hx hs
    have hin : x < v.ms.length := mk_in (by omega)
    rw [List.getElem?_eq_getElem hin]
    rw [mkA_nat, List.getElem?_eq_getElem hin] at h5
    exact congrArg some h5
/-- Get at the end. -/
theorem EnX.fin (hF : PlF d) (h : EnX d X M n0 n1 I U S B0 c n [] PA pc un se w) :
    Calls Tryz.prog 9 #[.pointer (some ⟨X, 0, none⟩), .int .i64 1] w fun e w' => ∃ (MA : Option Addr) (mc : Nat) (TA : Option Addr) (tc : Nat) (sv : Int) (ms : List Int) (tn : Nat) (gv : Value), e = .returned (.tuple #[.agg #[.int .i64 1, .int .i64 sv, .bool false, .slice MA ms.length mc, .slice TA tn tc], gv, .bool true]) ∧ Rd w' MA (ms.flatMap en1) ∧ ms.length = d.Ls.length ∧ ((sv = 2 ∧ (∀ (x : Nat) (m : Int), ms[x]? = some m → m = 3) ∧ ∀ s : Nat, un s = false) ∨ (sv = 3 ∧ ∀ (x : Nat) (m : Int), ms[x]? = some m → m = 0 ∨ m = 5)) ∧ Below w.heap.size w w' := by
  obtain ⟨ask, y, v, l, B, hS, hJ, hSS, hB, hask, hiv, hnb⟩ := h
  have he := hJ.ends (topo_plf hF) hSS hS.out
  refine (get_some hS.inp.i (.pointer (some ⟨X, 0, none⟩)) 1 (fun w' hb => ?_)).mono ?_
  · have hfd := efind_any (hS.eng.next hb) 1
    rw [show findV [((1 : Int), I)] 1 = (.pointer (some ⟨I, 0, none⟩), 0) from by unfold findV; simp [mget, pB]] at hfd
    exact hfd
  · rintro e w2 ⟨MA, mc, TA, tc, rfl, h1, h2, hb⟩
    have hm : ∀ (x : Nat) (m : Int), v.ms[x]? = some m → mkA v.ms x = m := fun x m hx => by rw [mkA_nat, hx]; rfl
    have hl := hS.inp.mn
    refine ⟨MA, mc, TA, tc, v.st, v.ms, v.ts.length, _, by rw [svC, hiv.ord, hJ.pd0], own_rd h1, hl, ?_, hb⟩
    rcases he with ⟨e1, e2, e3⟩ | ⟨e1, e2⟩
    · exact .inl ⟨e1, fun x m hx => by rw [← hm x m hx]; exact e2 x (by rw [← hl]; exact (List.getElem?_eq_some_iff.1 hx).1), e3⟩
    · exact .inr ⟨e1, fun x m hx => by rw [← hm x m hx]; exact e2 x⟩
theorem EnX.live (hF : PlF d) (h : EnX d X M n0 n1 I U S B0 c n [] PA pc un se w) :
    Calls Tryz.prog 20 #[.pointer (some ⟨X, 0, none⟩)] w fun e w' => e = .returned (.int .i64 0) ∧ Below w.heap.size w w' := by
  obtain ⟨ask, y, v, l, B, hS, hJ, hSS, hB, hask, hiv, hnb⟩ := h
  have he := hJ.ends (topo_plf hF) hSS hS.out
  refine (live_any hS.eng (by simp) (fun _ => v.st) (fun p hp => ?_)).mono ?_
  · obtain rfl := List.mem_singleton.1 hp
    exact ⟨_, _, _, _, hS.inp.i, rfl⟩
  · rintro e w2 ⟨rfl, hb⟩
    refine ⟨?_, hb⟩
    rcases he with ⟨e1, _⟩ | ⟨e1, _⟩ <;> simp [livB, e1]
theorem EnX.cu {pd : List Eff} (h : EnX d X M n0 n1 I U S B0 c n pd PA pc un se w) {q : Nat} (hq : q < d.Ls.length) : w.cell? ⟨U, q, none⟩ = some (.bool (un q)) ∧ U < w.heap.size := by
  obtain ⟨ask, y, v, l, B, hS, h⟩ := h
  exact ⟨by rw [hS.u.cell, rngC_at _ hq], hS.u.lt⟩
end

end Go.Proofs.YtoemmakhbiiknaaGreat

namespace Go.Proofs.YtoemmakhbiiknaaGreat
open Go.RowKit Go.WideShapes Go.ChangeShapes Go.ChangeAt Go.Deep
set_option linter.unusedVariables false

theorem bytesDef13 : Tryz.prog.bytesOf 60 = 40 := by kernel_rfl
section
variable {H : Type} {enc : TypeId × Value → H} {w : World} {base : Nat} {spare : Nat → Bool} {held : Bool}
theorem open_defs13 {fuel : Nat} {cs : List Value} {x : DataW H × List MemPlace} (h : DataW.trod enc Tryz.prog w base spare held fuel 22 cs = some x) (hw : Reach Tryz.prog 22 x.1) :
    ∃ (A : Option Addr) (cap : Nat) (l : List FDef), cs = [.slice A l.length cap] ∧ Rd w A (l.flatMap enFD) ∧ (∀ p ∈ l, OkFD w p) ∧ l.length * 40 ≤ 140737488351232 := by
  obtain ⟨A, cap, l, rfl, hR, ok, hd⟩ := open_rows (en := enFD) (Q := OkFD w) (G := Reach Tryz.prog 60) enFD_len (by omega) (by kernel_rfl) Tryz.underlying22 open_def12 h (fun elems sp hx d hd y hy => hw y (by rw [hx]; exact weights_elem Tryz.underlying22 hd hy))
  refine ⟨A, cap, l, rfl, hR, ok, ?_⟩
  rcases hd with hd | ⟨elems, sp, hd, hel⟩
  · omega
  · have := hw _ (by rw [hd]; exact weights_len Tryz.underlying22)
    rw [bytesDef13] at this
    simp only [reachBytes] at this
    omega
end

end Go.Proofs.YtoemmakhbiiknaaGreat

namespace Go.Proofs.YtoemmakhbiiknaaGreat
open Go.RowKit Go.WideShapes Go.ChangeShapes Go.ChangeAt Go.Deep
set_option linter.unusedVariables false

theorem flatMk13 : Flat Tryz.prog 71 [.int .i64] := flat_scalar (by kernel_rfl) (by kernel_rfl)
theorem flatIn13 : Flat Tryz.prog 3 [.int .i64] := flat_scalar (by kernel_rfl) (by kernel_rfl)
theorem bytesMk13 : Tryz.prog.bytesOf 71 = 8 := by kernel_rfl
theorem bytesIn13 : Tryz.prog.bytesOf 3 = 8 := by kernel_rfl
theorem bytesOp13 : Tryz.prog.bytesOf 42 = 120 := by kernel_rfl
section
variable {H : Type} {enc : TypeId × Value → H} {P : Program} {w : World} {base : Nat} {spare : Nat → Bool} {held : Bool}
/-- A struct, opened part by part. -/
theorem open_parts {t : TypeId} {fs : Array Field} (ht : P.underlying t = some (.struct fs)) {fuel : Nat} {cs : List Value} {x : DataW H × List MemPlace} (h : DataW.trod enc P w base spare held fuel t cs = some x) :
    ∃ (n : Nat) (ys : List (DataW H × List MemPlace)), x.1 = .agg (ys.map (·.1)) ∧ ys.length = fs.size ∧ ∀ (j : Nat) (f : Field), fs[j]? = some f → ∃ y, ys[j]? = some y ∧ DataW.trod enc P w base spare held n f.type ((cs.drop f.offset).take (P.cellsOf f.type)) = some y := by
  obtain ⟨ys, n', hn', hy, hlen, hyl, hf⟩ := DataW.trod_struct ht h
  refine ⟨n', ys, by rw [hy], hyl, fun j f hfj => ?_⟩
  have hjs : j < fs.size := (Array.getElem?_eq_some_iff.1 hfj).1
  have h1 := hf j _ hfj
  have hjy : j < ys.length := by omega
  rw [List.getElem?_eq_getElem hjy] at h1
  exact ⟨ys[j], List.getElem?_eq_getElem hjy, h1⟩
end
section
variable {H : Type} {enc : TypeId × Value → H} {w : World} {base : Nat} {spare : Nat → Bool} {held : Bool}
theorem open_marks13 {fuel : Nat} {cs : List Value} {x : DataW H × List MemPlace} (h : DataW.trod enc Tryz.prog w base spare held fuel 37 cs = some x) (hw : Reach Tryz.prog 37 x.1) :
    ∃ (A : Option Addr) (cap : Nat) (l : List Int), cs = [.slice A l.length cap] ∧ Rd w A (l.flatMap en1) ∧ l.length * 8 ≤ 140737488351232 := by
  obtain ⟨A, len, cap, xs, rfl, hlc, hcm, hxl, hR, hall, hd⟩ := open_flat Tryz.underlying37 flatMk13 (by decide) h
  obtain ⟨l, rfl, rfl, ok⟩ := flat_list (ks := [.int .i64]) (en := en1) (ok := Go.Proofs.YtoemmakhbiiknaaGreat.ok1) dec1 len xs hxl hall
  refine ⟨A, cap, l, rfl, hR, ?_⟩
  rcases hd with hd | ⟨elems, sp, hd, hel⟩
  · omega
  · have := hw _ (by rw [hd]; exact weights_len Tryz.underlying37)
    rw [bytesMk13] at this
    simp only [reachBytes] at this
    omega
theorem open_intl13 {fuel : Nat} {cs : List Value} {x : DataW H × List MemPlace} (h : DataW.trod enc Tryz.prog w base spare held fuel 38 cs = some x) (hw : Reach Tryz.prog 38 x.1) :
    ∃ (A : Option Addr) (cap : Nat) (l : List Int), cs = [.slice A l.length cap] ∧ Rd w A (l.flatMap en1) ∧ l.length * 8 ≤ 140737488351232 := by
  obtain ⟨A, len, cap, xs, rfl, hlc, hcm, hxl, hR, hall, hd⟩ := open_flat Tryz.underlying38 flatIn13 (by decide) h
  obtain ⟨l, rfl, rfl, ok⟩ := flat_list (ks := [.int .i64]) (en := en1) (ok := Go.Proofs.YtoemmakhbiiknaaGreat.ok1) dec1 len xs hxl hall
  refine ⟨A, cap, l, rfl, hR, ?_⟩
  rcases hd with hd | ⟨elems, sp, hd, hel⟩
  · omega
  · have := hw _ (by rw [hd]; exact weights_len Tryz.underlying38)
    rw [bytesIn13] at this
    simp only [reachBytes] at this
    omega
set_option maxRecDepth 100000 in
theorem open_op13 (fuel : Nat) (cs : List Value) (x : DataW H × List MemPlace) (hl : cs.length = 11) (h : DataW.trod enc Tryz.prog w base spare held fuel 42 cs = some x) (hw : Reach Tryz.prog 42 x.1) :
    ∃ p : OpE, cs = enOpE p ∧ OkOpE w p := by
  obtain ⟨n, ys, hx, hyl, hf⟩ := open_parts Tryz.underlying42 h
  match cs, hl with
  | [u0, u1, u2, u3, u4, u5, v0, v1, v2, v3, v4], _ =>
    obtain ⟨y0, e0, t0⟩ := hf 0 _ rfl
    obtain ⟨y1, e1, t1⟩ := hf 1 _ rfl
    obtain ⟨y2, e2, t2⟩ := hf 2 _ rfl
    obtain ⟨y3, e3, t3⟩ := hf 3 _ rfl
    obtain ⟨y4, e4, t4⟩ := hf 4 _ rfl
    obtain ⟨y5, e5, t5⟩ := hf 5 _ rfl
    obtain ⟨y6, e6, t6⟩ := hf 6 _ rfl
    have hint : Tryz.prog.cellsOf 3 = 1 := by kernel_rfl
    have hboo : Tryz.prog.cellsOf 4 = 1 := by kernel_rfl
    have hsav : Tryz.prog.cellsOf 40 = 5 := by kernel_rfl
    have t0 : DataW.trod enc Tryz.prog w base spare held n 3 ((List.drop 0 [u0, u1, u2, u3, u4, u5, v0, v1, v2, v3, v4]).take (Tryz.prog.cellsOf 3)) = some y0 := t0
    rw [hint] at t0
    have t0 : DataW.trod enc Tryz.prog w base spare held n 3 [u0] = some y0 := t0
    have t1 : DataW.trod enc Tryz.prog w base spare held n 3 ((List.drop 1 [u0, u1, u2, u3, u4, u5, v0, v1, v2, v3, v4]).take (Tryz.prog.cellsOf 3)) = some y1 := t1
    rw [hint] at t1
    have t1 : DataW.trod enc Tryz.prog w base spare held n 3 [u1] = some y1 := t1
    have t2 : DataW.trod enc Tryz.prog w base spare held n 3 ((List.drop 2 [u0, u1, u2, u3, u4, u5, v0, v1, v2, v3, v4]).take (Tryz.prog.cellsOf 3)) = some y2 := t2
    rw [hint] at t2
    have t2 : DataW.trod enc Tryz.prog w base spare held n 3 [u2] = some y2 := t2
    have t3 : DataW.trod enc Tryz.prog w base spare held n 3 ((List.drop 3 [u0, u1, u2, u3, u4, u5, v0, v1, v2, v3, v4]).take (Tryz.prog.cellsOf 3)) = some y3 := t3
    rw [hint] at t3
    have t3 : DataW.trod enc Tryz.prog w base spare held n 3 [u3] = some y3 := t3
    have t4 : DataW.trod enc Tryz.prog w base spare held n 3 ((List.drop 4 [u0, u1, u2, u3, u4, u5, v0, v1, v2, v3, v4]).take (Tryz.prog.cellsOf 3)) = some y4 := t4
    rw [hint] at t4
    have t4 : DataW.trod enc Tryz.prog w base spare held n 3 [u4] = some y4 := t4
    have t5 : DataW.trod enc Tryz.prog w base spare held n 4 ((List.drop 5 [u0, u1, u2, u3, u4, u5, v0, v1, v2, v3, v4]).take (Tryz.prog.cellsOf 4)) = some y5 := t5
    rw [hboo] at t5
    have t5 : DataW.trod enc Tryz.prog w base spare held n 4 [u5] = some y5 := t5
    have t6 : DataW.trod enc Tryz.prog w base spare held n 40 ((List.drop 6 [u0, u1, u2, u3, u4, u5, v0, v1, v2, v3, v4]).take (Tryz.prog.cellsOf 40)) = some y6 := t6
    rw [hsav] at t6
    have t6 : DataW.trod enc Tryz.prog w base spare held n 40 [v0, v1, v2, v3, v4] = some y6 := t6
    obtain ⟨k0, hv0, _, hw0⟩ := DataW.trod_int Tryz.underlying3 t0
    obtain ⟨k1, hv1, _, hw1⟩ := DataW.trod_int Tryz.underlying3 t1
    obtain ⟨k2, hv2, _, hw2⟩ := DataW.trod_int Tryz.underlying3 t2
    obtain ⟨k3, hv3, _, hw3⟩ := DataW.trod_int Tryz.underlying3 t3
    obtain ⟨k4, hv4, _, hw4⟩ := DataW.trod_int Tryz.underlying3 t4
    obtain ⟨k5, hv5, _⟩ := DataW.trod_bool Tryz.underlying4 t5
    have hw6 : Reach Tryz.prog 40 y6.1 := fun y hy => hw y (by rw [hx]; exact weights_field (j := 6) Tryz.underlying42 rfl (by rw [List.getElem?_map, e6]; rfl) hy)
    obtain ⟨n2, zs, hz, hzl, hg⟩ := open_fields Tryz.underlying40 (by kernel_rfl) rfl t6
    obtain ⟨a0, z0, c0, d0, s0⟩ := hg 0 _ rfl
    obtain ⟨a1, z1, c1, d1, s1⟩ := hg 1 _ rfl
    obtain ⟨a2, z2, c2, d2, s2⟩ := hg 2 _ rfl
    obtain ⟨a3, z3, c3, d3, s3⟩ := hg 3 _ rfl
    obtain ⟨a4, z4, c4, d4, s4⟩ := hg 4 _ rfl
    simp at c0 c1 c2 c3 c4
    subst c0 c1 c2 c3 c4
    obtain ⟨j0, hj0, _, _⟩ := DataW.trod_int Tryz.underlying3 s0
    obtain ⟨j1, hj1, _, _⟩ := DataW.trod_int Tryz.underlying36 s1
    obtain ⟨j2, hj2, _⟩ := DataW.trod_bool Tryz.underlying4 s2
    obtain ⟨MA, mc, ms, hm, hRm, hlm⟩ := open_marks13 s3 (fun y hy => hw6 y (by rw [hz]; exact weights_field (j := 3) Tryz.underlying40 rfl (by rw [List.getElem?_map, d3]; rfl) hy))
    obtain ⟨TA, tc, ts, ht, hRt, hlt⟩ := open_intl13 s4 (fun y hy => hw6 y (by rw [hz]; exact weights_field (j := 4) Tryz.underlying40 rfl (by rw [List.getElem?_map, d4]; rfl) hy))
    simp only [List.cons.injEq, and_true] at hv0 hv1 hv2 hv3 hv4 hv5 hj0 hj1 hj2 hm ht
    subst hv0 hv1 hv2 hv3 hv4 hv5 hj0 hj1 hj2 hm ht
    exact ⟨⟨k0, k1, k2, k3, k4, k5, j0, j1, j2, MA, mc, ms, TA, tc, ts⟩, rfl, hRm, hRt, hlm, hlt, by simpa [Lit.wf, IntKind.min, IntKind.max, IntKind.signed, IntKind.bits] using hw2⟩
theorem open_ops13 {fuel : Nat} {cs : List Value} {x : DataW H × List MemPlace} (h : DataW.trod enc Tryz.prog w base spare held fuel 23 cs = some x) (hw : Reach Tryz.prog 23 x.1) :
    ∃ (A : Option Addr) (cap : Nat) (l : List OpE), cs = [.slice A l.length cap] ∧ Rd w A (l.flatMap enOpE) ∧ (∀ p ∈ l, OkOpE w p) ∧ l.length * 120 ≤ 140737488351232 := by
  obtain ⟨A, cap, l, rfl, hR, ok, hd⟩ := open_rows (en := enOpE) (Q := OkOpE w) (G := Reach Tryz.prog 42) enOpE_len (by omega) (by kernel_rfl) Tryz.underlying23 open_op13 h (fun elems sp hx d hd y hy => hw y (by rw [hx]; exact weights_elem Tryz.underlying23 hd hy))
  refine ⟨A, cap, l, rfl, hR, ok, ?_⟩
  rcases hd with hd | ⟨elems, sp, hd, hel⟩
  · omega
  · have := hw _ (by rw [hd]; exact weights_len Tryz.underlying23)
    rw [bytesOp13] at this
    simp only [reachBytes] at this
    omega
end

end Go.Proofs.YtoemmakhbiiknaaGreat

namespace Go.Proofs.YtoemmakhbiiknaaGreat
open Go.RowKit Go.WideShapes Go.ChangeShapes Go.ChangeAt Go.Deep
set_option linter.unusedVariables false

/-- How a world answers. -/
structure AnsE where
  CA : Option Addr
  cc : Nat
  cs : List Int
  PA : Option Addr
  pc : Nat
  ps : List Int
def enAns (p : AnsE) : List Value := [.slice p.CA p.cs.length p.cc, .slice p.PA p.ps.length p.pc]
structure OkAns (w : World) (p : AnsE) : Prop where
  rc : Rd w p.CA (p.cs.flatMap en1)
  rp : Rd w p.PA (p.ps.flatMap en1)
  lc : p.cs.length * 8 ≤ 140737488351232
  lp : p.ps.length * 8 ≤ 140737488351232
  cl : p.cs.length ≤ p.cc
section
variable {H : Type} {enc : TypeId × Value → H} {w : World} {base : Nat} {spare : Nat → Bool} {held : Bool}
theorem open_intl13c {fuel : Nat} {cs : List Value} {x : DataW H × List MemPlace} (h : DataW.trod enc Tryz.prog w base spare held fuel 38 cs = some x) (hw : Reach Tryz.prog 38 x.1) :
    ∃ (A : Option Addr) (cap : Nat) (l : List Int), cs = [.slice A l.length cap] ∧ Rd w A (l.flatMap en1) ∧ l.length * 8 ≤ 140737488351232 ∧ l.length ≤ cap := by
  obtain ⟨A, len, cap, xs, rfl, hlc, hcm, hxl, hR, hall, hd⟩ := open_flat Tryz.underlying38 flatIn13 (by decide) h
  obtain ⟨l, rfl, rfl, ok⟩ := flat_list (ks := [.int .i64]) (en := en1) (ok := Go.Proofs.YtoemmakhbiiknaaGreat.ok1) dec1 len xs hxl hall
  refine ⟨A, cap, l, rfl, hR, ?_, hlc⟩
  rcases hd with hd | ⟨elems, sp, hd, hel⟩
  · omega
  · have := hw _ (by rw [hd]; exact weights_len Tryz.underlying38)
    rw [bytesIn13] at this
    simp only [reachBytes] at this
    omega
theorem open_ans13 (fuel : Nat) (cs : List Value) (x : DataW H × List MemPlace) (hl : cs.length = 2) (h : DataW.trod enc Tryz.prog w base spare held fuel 62 cs = some x) (hw : Reach Tryz.prog 62 x.1) :
    ∃ p : AnsE, cs = enAns p ∧ OkAns w p := by
  obtain ⟨n, ys, hx, hyl, hf⟩ := open_fields Tryz.underlying62 (by kernel_rfl) hl h
  obtain ⟨u0, y0, c0, e0, t0⟩ := hf 0 _ rfl
  obtain ⟨u1, y1, c1, e1, t1⟩ := hf 1 _ rfl
  obtain ⟨MA, mc, ms, hm, hRm, hlm, hcm⟩ := open_intl13c t0 (fun y hy => hw y (by rw [hx]; exact weights_field (j := 0) Tryz.underlying62 rfl (by rw [List.getElem?_map, e0]; rfl) hy))
  obtain ⟨TA, tc, ts, ht, hRt, hlt⟩ := open_intl13 t1 (fun y hy => hw y (by rw [hx]; exact weights_field (j := 1) Tryz.underlying62 rfl (by rw [List.getElem?_map, e1]; rfl) hy))
  simp only [List.cons.injEq, and_true] at hm ht
  subst hm ht
  refine ⟨⟨MA, mc, ms, TA, tc, ts⟩, ?_, hRm, hRt, hlm, hlt, hcm⟩
  match cs, hl with
  | [a, b], _ =>
    simp at c0 c1
    rw [c0, c1]
    rfl
end

end Go.Proofs.YtoemmakhbiiknaaGreat
