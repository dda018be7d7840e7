/-
  Money of orders: the laws' words step and play (printed by gen_chpl.py).
-/
import Derived.Test.YthdmbbfppgenlaaGreatChSS
import Derived.Test.YthdmbbfppgenlaaGreatChRR
import Derived.Deep.RegionHeld3
namespace Go.Proofs.YthdmbbfppgenlaaGreat
open Go.RowKit Go.WideShapes Go.ChangeShapes Go.ChangeAt Go.Deep
set_option linter.unusedVariables false

theorem rowBlk18 {w : World} {base n cap m : Nat} {e : TypeId} {size : Nat} {A : Option Addr} {xs : List Value} (h : w.ownsRow base e size (.slice A n cap) m xs) {b : Nat} (hb : A.map (·.block) = some b) : ∃ cs, Blk w b e cs := by
  rcases h.2 with ⟨h1, _⟩ | ⟨g, cap', cur, h1, _, hh, _⟩
  · simp at h1
    rw [h1.1] at hb
    simp at hb
  · simp at h1
    rw [h1.1] at hb
    simp at hb
    subst hb
    exact ⟨_, hh⟩
/-- An operation. -/
structure Op18 where
  k : Int
  o : Int
  c : Int
  a : Int
  b : Int
def en18 (x : Op18) : List Value := [.int .i64 x.k, .int .i64 x.o, .int .i64 x.c, .int .i64 x.a, .int .i64 x.b]
theorem en18_len (x : Op18) : (en18 x).length = 5 := rfl
def ok18 (x : Op18) : Prop := I64 x.a
theorem dec18 (vs : List Value) (hl : vs.length = 5) (h : ∀ j, j < 5 → ∃ (u : Value) (k : SK), vs[j]? = some u ∧ ([SK.int .i64, .int .i64, .int .i64, .int .i64, .int .i64] : List SK)[j]? = some k ∧ k.ok u) : ∃ x : Op18, vs = en18 x ∧ ok18 x := by
  match vs, hl with
  | [a, b, c, d, e], _ =>
    obtain ⟨u0, k0, a0, b0, c0⟩ := h 0 (by omega)
    obtain ⟨u1, k1, a1, b1, c1⟩ := h 1 (by omega)
    obtain ⟨u2, k2, a2, b2, c2⟩ := h 2 (by omega)
    obtain ⟨u3, k3, a3, b3, c3⟩ := h 3 (by omega)
    obtain ⟨u4, k4, a4, b4, c4⟩ := h 4 (by omega)
    simp at a0 b0 a1 b1 a2 b2 a3 b3 a4 b4
    subst a0 b0 a1 b1 a2 b2 a3 b3 a4 b4
    obtain ⟨n0, rfl, g0⟩ := c0
    obtain ⟨n1, rfl, g1⟩ := c1
    obtain ⟨n2, rfl, g2⟩ := c2
    obtain ⟨n3, rfl, g3⟩ := c3
    obtain ⟨n4, rfl, g4⟩ := c4
    exact ⟨⟨n0, n1, n2, n3, n4⟩, rfl, g3⟩
section
variable {n0 base R cap : Nat} {A : Option Addr} {L : List Ca} {d : Int} {w w' w4 wr : World} {X XL BL BA : Nat} {ac : List (Int × CP)} {w0 : World}
theorem notOwn18 {f : Fn} {k : Nat} {t : TypeId} {cs : Array Value} (h : IsCash n0 w X XL BL BA ac f d) (hk : Blk w k t cs) (h1 : t ≠ 113) (h2 : t ≠ 35) : ¬ Ch.Own XL BL BA ac k := by
  rintro (e | e | e | ⟨p, hp, e⟩)
  · exact hk.ne_ h.led.blk h1 e
  · obtain ⟨m, hm, _⟩ := h.led.map
    exact hm.notBlk hk e.symm
  · exact h.acs.notBlk hk e.symm
  · exact hk.ne_ (h.cells p hp) h2 e.symm
theorem notRT18 {k : Nat} {t : TypeId} {cs : Array Value} (h : IsRf base w R A cap L d) (hk : Blk w k t cs) (h1 : t ≠ 95) (h2 : t ≠ 47) : ¬ RT w.heap.size R A k := by
  rintro (e | e | e)
  · exact hk.ne_ h.blk h1 e
  · obtain ⟨cs', hb⟩ := rowBlk18 h.own e
    exact hk.ne_ hb h2 rfl
  · have := hk.lt; omega
theorem mapNotRT18 {κ ν : Type} {kE : κ → Value} {vE : ν → Value} {mm : List (κ × ν)} {k : Nat} (h : IsRf base w R A cap L d) (hk : IsMap w k kE vE mm) : ¬ RT w.heap.size R A k := by
  rintro (rfl | e | e)
  · exact hk.notBlk h.blk rfl
  · obtain ⟨cs', hb⟩ := rowBlk18 h.own e
    exact hk.notBlk hb rfl
  · have := hk.lt; omega
theorem own_RT18 {f : Fn} {d' : Int} (h : IsCash n0 w X XL BL BA ac f d') (hF : IsRf base w R A cap L d) : ∀ k, Ch.Own XL BL BA ac k → ¬ RT w.heap.size R A k := by
  rintro k (rfl | rfl | rfl | ⟨p, hp, rfl⟩)
  · exact notRT18 hF h.led.blk (by decide) (by decide)
  · obtain ⟨m, hm, _⟩ := h.led.map
    exact mapNotRT18 hF hm
  · exact mapNotRT18 hF h.acs
  · exact notRT18 hF (h.cells p hp) (by decide) (by decide)
theorem cash_RT18 {d' : Int} (h : IsC n0 w X XL BL BA ac d') (hF : IsRf base w R A cap L d) (hT : Touch (RT w.heap.size R A) w w') : IsC n0 w' X XL BL BA ac d' :=
  ⟨h.bk.touch hT (notRT18 hF h.bk.blk (by decide) (by decide)) (own_RT18 h.bk hF), h.gd⟩
theorem rf_Own18 {d' : Int} (h : IsC n0 w X XL BL BA ac d') (hF : IsRf base w R A cap L d) (hT : Touch (Ch.Own XL BL BA ac) w w') : IsRf base w' R A cap L d := by
  refine ⟨hT.blk hF.blk (notOwn18 h.bk hF.blk (by decide) (by decide)), own_touch hF.own hT (fun g hg => ?_), hF.lt⟩
  obtain ⟨cs, hb⟩ := rowBlk18 hF.own (b := g) (by cases A with | none => simp [Value.ownBlock] at hg | some a => simpa [Value.ownBlock] using hg)
  intro ho
  rcases ho with e | e | e | ⟨p, hp, e⟩
  · exact hb.ne_ h.bk.led.blk (by decide) e
  · obtain ⟨m, hm, _⟩ := h.bk.led.map
    exact hm.notBlk hb e.symm
  · exact h.bk.acs.notBlk hb e.symm
  · exact hb.ne_ (h.bk.cells p hp) (by decide) e.symm
/-- Between the book's call and the document's. -/
structure Mid (w0 : World) (n0 base X XL BL BA R : Nat) (A : Option Addr) (cap : Nat) (ac : List (Int × CP)) (L : List Ca) (d o : Int) (x : Option Ca) (d' : Int) (G : Nat) (cs : Array Value) (w : World) : Prop where
  c : ∃ ac', IsC n0 w X XL BL BA ac' d' ∧ cfind ac' = updC (cfind ac) o x
  f : IsRf base w R A cap L d
  blk : Blk w G 100 cs
  bel : Below w0.heap.size w0 w
  bw : base ≤ w.heap.size
  low : w0.heap.size ≤ n0 ∧ w0.heap.size ≤ R ∧ n0 ≤ base
/-- What a step leaves. -/
def Fin18 (w0 : World) (n0 base X XL BL BA R N : Nat) (w : World) : Prop := ∃ (ac : List (Int × CP)) (L : List Ca) (A : Option Addr) (cap : Nat) (d : Int), L.length ≤ N ∧ St w0 n0 base X XL BL BA R A cap ac L d w
/-- The operation's first two cells. -/
def COp (G : Nat) (k o : Int) (w : World) : Prop := w.cell? ⟨G, 0, none⟩ = some (.int .i64 k) ∧ w.cell? ⟨G, 1, none⟩ = some (.int .i64 o)
theorem St.prog {G : Nat} {cs : Array Value} {o : Int} {r : ResC} (h : St w0 n0 base X XL BL BA R A cap ac L d w) (hB : Blk w G 100 cs) (hP : PostC n0 X XL BL BA ac o r w w') : Mid w0 n0 base X XL BL BA R A cap ac L d o r.acc r.d G cs w' := by
  obtain ⟨ac', h1, h2, h3, _⟩ := hP
  exact ⟨⟨ac', h1, h2⟩, rf_Own18 h.c h.f h3, h3.blk hB (notOwn18 h.c.bk hB (by decide) (by decide)), h.bel.trans (h3.below h.bel.size (fun k hk => Nat.le_trans h.low.1 (h.c.bk.own_low hk))), Nat.le_trans h.bw h3.size, h.low⟩
theorem Mid.doc {G : Nat} {cs : Array Value} {o d' : Int} {x : Option Ca} (hG : Mid w0 n0 base X XL BL BA R A cap ac L d o x d' G cs w) (hP : PostR base R A L (cfind ac) o x d' w w') : Fin18 w0 n0 base X XL BL BA R (L.length + 1) w' := by
  obtain ⟨ac', h1, h2⟩ := hG.c
  obtain ⟨A', cap', L', g1, g2, g3, g4⟩ := hP
  refine ⟨ac', L', A', cap', d', g3, cash_RT18 h1 hG.f g4, g1, by rw [h2]; exact g2, hG.bel.trans (g4.below hG.bel.size (fun k hk => ?_)), Nat.le_trans hG.bw g4.size, hG.low⟩
  have := hG.low
  have hs := hG.bel.size
  rcases hk with e | e | e
  · omega
  · have := hG.f.own.lt k (by cases A with | none => simp at e | some a => simpa [Value.ownBlock] using e); omega
  · omega
theorem Mid.cop {G : Nat} {k o c a b d' : Int} {x : Option Ca} (hG : Mid w0 n0 base X XL BL BA R A cap ac L d o x d' G #[.int .i64 k, .int .i64 o, .int .i64 c, .int .i64 a, .int .i64 b] w) (hP : PostR base R A L (cfind ac) o x d' w w') : COp G k o w' := by
  obtain ⟨A', cap', L', g1, g2, g3, g4⟩ := hP
  have hB := g4.blk hG.blk (notRT18 hG.f hG.blk (by decide) (by decide))
  exact ⟨hB.cell 0, hB.cell 1⟩

set_option maxRecDepth 100000 in
set_option maxHeartbeats 16000000 in
theorem step_any (h : St w0 n0 base X XL BL BA R A cap ac L d w) (hl : L.length * 72 + 72 ≤ 140737488355328) (k o c a b : Int) (ha : I64 a) :
    Calls Tryz.prog 51 #[.pointer (some ⟨X, 0, none⟩), .pointer (some ⟨R, 0, none⟩), .agg #[.int .i64 k, .int .i64 o, .int .i64 c, .int .i64 a, .int .i64 b]] w fun e w' => e = .returned (.bool true) ∧ Fin18 w0 n0 base X XL BL BA R (L.length + 1) w' := by
  have hz := h.next ((Below.refl _ _).alloc (Nat.le_refl _) (.cells #[.int .i64 k, .int .i64 o, .int .i64 c, .int .i64 a, .int .i64 b] 100))
  have hB := Blk.new w 100 #[.int .i64 k, .int .i64 o, .int .i64 c, .int .i64 a, .int .i64 b]
  obtain ⟨W0, hW0⟩ : ∃ W0, W0 = w.alloc (.cells #[.int .i64 k, .int .i64 o, .int .i64 c, .int .i64 a, .int .i64 b] 100) := ⟨_, rfl⟩
  obtain ⟨G, hG⟩ : ∃ G, G = w.heap.size := ⟨_, rfl⟩
  rw [← hW0] at hz hB
  rw [← hG] at hB
  have HW := hid hW0
  have HG := hid hG
  have HZ := hid (And.intro hz hB)
  clear h hz hB hW0 hG
  go_enter Tryz.func51, Tryz.ntmps51
  go_upto_region 4 with fail
  rw [← HW.out, ← HG.out]
  obtain ⟨h, hB⟩ := HZ.out
  clear HW HG HZ
  by_cases hkk : k = 1
  · subst hkk
    have K1 : Calls Tryz.prog 4 #[.pointer (some ⟨X, 0, none⟩), .int .i64 o, .int .i64 c, .int .i64 a, .int .i64 b] W0 fun e w' => e = .returned (.tuple #[.bool ((invR (cfind ac) d o c a b).paid), .int .i64 ((invR (cfind ac) d o c a b).code)]) ∧ Mid w0 n0 base X XL BL BA R A cap ac L d o ((invR (cfind ac) d o c a b).acc) ((invR (cfind ac) d o c a b).d) G #[.int .i64 1, .int .i64 o, .int .i64 c, .int .i64 a, .int .i64 b] w' := (cinv_any h.c (Nat.le_trans h.low.2.2 h.bw) o c a b).mono fun e w' ⟨h1, h2⟩ => ⟨h1, h.prog hB h2⟩
    have K2 : ∀ w, Mid w0 n0 base X XL BL BA R A cap ac L d o ((invR (cfind ac) d o c a b).acc) ((invR (cfind ac) d o c a b).d) G #[.int .i64 1, .int .i64 o, .int .i64 c, .int .i64 a, .int .i64 b] w → Calls Tryz.prog 66 #[.pointer (some ⟨R, 0, none⟩), .int .i64 o, .int .i64 c, .int .i64 a, .int .i64 b] w fun e w' => e = .returned (.tuple #[.bool ((invR (cfind ac) d o c a b).paid), .int .i64 ((invR (cfind ac) d o c a b).code)]) ∧ Fin18 w0 n0 base X XL BL BA R (L.length + 1) w' := fun w m => (rinv_any m.f h.rel h.c.gd.good hl m.bw o c a b).mono fun e w' ⟨h1, h2⟩ => ⟨h1, m.doc h2⟩
    generalize invR (cfind ac) d o c a b = r at K1 K2
    generalize r.code = z at K1 K2
    generalize r.acc = xx at K1 K2
    generalize r.d = dx at K1 K2
    generalize r.paid = pd at K1 K2
    obtain ⟨MM, hMM⟩ : ∃ MM : World → Prop, MM = Mid w0 n0 base X XL BL BA R A cap ac L d o xx dx G #[.int .i64 1, .int .i64 o, .int .i64 c, .int .i64 a, .int .i64 b] := ⟨_, rfl⟩
    rw [← hMM] at K1 K2
    have HMM := hid hMM
    replace K1 := hid K1
    replace K2 := hid K2
    have g0 : W0.cell? ⟨G, 0, none⟩ = some (.int .i64 1) := hB.cell 0
    have g1 : W0.cell? ⟨G, 1, none⟩ = some (.int .i64 o) := hB.cell 1
    have g2 : W0.cell? ⟨G, 2, none⟩ = some (.int .i64 c) := hB.cell 2
    have g3 : W0.cell? ⟨G, 3, none⟩ = some (.int .i64 a) := hB.cell 3
    have g4 : W0.cell? ⟨G, 4, none⟩ = some (.int .i64 b) := hB.cell 4
    have lG := hB.lt
    have tz : (z == z) = true := by simp
    have tp : (pd == pd) = true := by simp
    clear hMM h hB
    go_wp2_with fail
    refine K1.out.mono ?_
    rintro e w1 ⟨rfl, hm⟩
    have hB1 : Blk w1 G 100 #[.int .i64 1, .int .i64 o, .int .i64 c, .int .i64 a, .int .i64 b] := by rw [HMM.out] at hm; exact hm.blk
    clear K1 g0 g1 g2 g3 g4 lG
    have g0 : w1.cell? ⟨G, 0, none⟩ = some (.int .i64 1) := hB1.cell 0
    have g1 : w1.cell? ⟨G, 1, none⟩ = some (.int .i64 o) := hB1.cell 1
    have g2 : w1.cell? ⟨G, 2, none⟩ = some (.int .i64 c) := hB1.cell 2
    have g3 : w1.cell? ⟨G, 3, none⟩ = some (.int .i64 a) := hB1.cell 3
    have g4 : w1.cell? ⟨G, 4, none⟩ = some (.int .i64 b) := hB1.cell 4
    have lG := hB1.lt
    replace K2 := hid (K2.out _ hm)
    clear hB1 hm HMM
    go_wp2_with fail
    refine K2.out.mono ?_
    rintro e w2 ⟨rfl, hf⟩
    have HF := hid hf
    clear K2 g0 g1 g2 g3 g4 lG hf
    go_wp2_with fail
    go_ret
    exact ⟨by simp, HF.out⟩
  · have hk1 : ¬ k = 1 := hkk
    clear hkk
    by_cases hkk : k = 2
    · subst hkk
      have K1 : Calls Tryz.prog 5 #[.pointer (some ⟨X, 0, none⟩), .int .i64 o, .int .i64 c, .int .i64 a] W0 fun e w' => e = .returned (.tuple #[.bool ((rcvR (cfind ac) d o c a).paid), .int .i64 ((rcvR (cfind ac) d o c a).code)]) ∧ Mid w0 n0 base X XL BL BA R A cap ac L d o ((rcvR (cfind ac) d o c a).acc) ((rcvR (cfind ac) d o c a).d) G #[.int .i64 2, .int .i64 o, .int .i64 c, .int .i64 a, .int .i64 b] w' := (crcv_any h.c (Nat.le_trans h.low.2.2 h.bw) o c a ha).mono fun e w' ⟨h1, h2⟩ => ⟨h1, h.prog hB h2⟩
      have K2 : ∀ w, Mid w0 n0 base X XL BL BA R A cap ac L d o ((rcvR (cfind ac) d o c a).acc) ((rcvR (cfind ac) d o c a).d) G #[.int .i64 2, .int .i64 o, .int .i64 c, .int .i64 a, .int .i64 b] w → Calls Tryz.prog 67 #[.pointer (some ⟨R, 0, none⟩), .int .i64 o, .int .i64 c, .int .i64 a] w fun e w' => e = .returned (.tuple #[.bool ((rcvR (cfind ac) d o c a).paid), .int .i64 ((rcvR (cfind ac) d o c a).code)]) ∧ Fin18 w0 n0 base X XL BL BA R (L.length + 1) w' := fun w m => (rrcv_any m.f h.rel h.c.gd.good hl m.bw o c a).mono fun e w' ⟨h1, h2⟩ => ⟨h1, m.doc h2⟩
      generalize rcvR (cfind ac) d o c a = r at K1 K2
      generalize r.code = z at K1 K2
      generalize r.acc = xx at K1 K2
      generalize r.d = dx at K1 K2
      generalize r.paid = pd at K1 K2
      obtain ⟨MM, hMM⟩ : ∃ MM : World → Prop, MM = Mid w0 n0 base X XL BL BA R A cap ac L d o xx dx G #[.int .i64 2, .int .i64 o, .int .i64 c, .int .i64 a, .int .i64 b] := ⟨_, rfl⟩
      rw [← hMM] at K1 K2
      have HMM := hid hMM
      replace K1 := hid K1
      replace K2 := hid K2
      have g0 : W0.cell? ⟨G, 0, none⟩ = some (.int .i64 2) := hB.cell 0
      have g1 : W0.cell? ⟨G, 1, none⟩ = some (.int .i64 o) := hB.cell 1
      have g2 : W0.cell? ⟨G, 2, none⟩ = some (.int .i64 c) := hB.cell 2
      have g3 : W0.cell? ⟨G, 3, none⟩ = some (.int .i64 a) := hB.cell 3
      have g4 : W0.cell? ⟨G, 4, none⟩ = some (.int .i64 b) := hB.cell 4
      have lG := hB.lt
      have tz : (z == z) = true := by simp
      have tp : (pd == pd) = true := by simp
      clear hMM h hB
      go_wp2_with fail
      refine K1.out.mono ?_
      rintro e w1 ⟨rfl, hm⟩
      have hB1 : Blk w1 G 100 #[.int .i64 2, .int .i64 o, .int .i64 c, .int .i64 a, .int .i64 b] := by rw [HMM.out] at hm; exact hm.blk
      clear K1 g0 g1 g2 g3 g4 lG
      have g0 : w1.cell? ⟨G, 0, none⟩ = some (.int .i64 2) := hB1.cell 0
      have g1 : w1.cell? ⟨G, 1, none⟩ = some (.int .i64 o) := hB1.cell 1
      have g2 : w1.cell? ⟨G, 2, none⟩ = some (.int .i64 c) := hB1.cell 2
      have g3 : w1.cell? ⟨G, 3, none⟩ = some (.int .i64 a) := hB1.cell 3
      have g4 : w1.cell? ⟨G, 4, none⟩ = some (.int .i64 b) := hB1.cell 4
      have lG := hB1.lt
      replace K2 := hid (K2.out _ hm)
      clear hB1 hm HMM
      go_wp2_with fail
      refine K2.out.mono ?_
      rintro e w2 ⟨rfl, hf⟩
      have HF := hid hf
      clear K2 g0 g1 g2 g3 g4 lG hf
      go_wp2_with fail
      go_ret
      exact ⟨by simp, HF.out⟩
    · have hk2 : ¬ k = 2 := hkk
      clear hkk
      by_cases hkk : k = 3
      · subst hkk
        have hd : Below W0.heap.size W0 W0.drew := below_drewN (Below.refl _ _) 1
        replace h := h.next hd
        have hB0 := hB
        replace hB := hB.next hd
        have K1 : Calls Tryz.prog 10 #[.pointer (some ⟨X, 0, none⟩), .int .i64 o] W0.drew fun e w' => e = .returned (.int .i64 ((wofR (cfind ac) d o).code)) ∧ Mid w0 n0 base X XL BL BA R A cap ac L d o ((wofR (cfind ac) d o).acc) ((wofR (cfind ac) d o).d) G #[.int .i64 3, .int .i64 o, .int .i64 c, .int .i64 a, .int .i64 b] w' := (cwof_any h.c o).mono fun e w' ⟨h1, h2⟩ => ⟨h1, h.prog hB h2⟩
        have K2 : ∀ w, Mid w0 n0 base X XL BL BA R A cap ac L d o ((wofR (cfind ac) d o).acc) ((wofR (cfind ac) d o).d) G #[.int .i64 3, .int .i64 o, .int .i64 c, .int .i64 a, .int .i64 b] w → Calls Tryz.prog 68 #[.pointer (some ⟨R, 0, none⟩), .int .i64 o] w fun e w' => e = .returned (.int .i64 ((wofR (cfind ac) d o).code)) ∧ Fin18 w0 n0 base X XL BL BA R (L.length + 1) w' ∧ COp G 3 o w' := fun w m => (rwof_any m.f h.rel h.c.gd.goodG (by omega) m.bw o).mono fun e w' ⟨h1, h2⟩ => ⟨h1, m.doc h2, m.cop h2⟩
        generalize wofR (cfind ac) d o = r at K1 K2
        generalize r.code = z at K1 K2
        generalize r.acc = xx at K1 K2
        generalize r.d = dx at K1 K2
        have HC8 := hid (fun w' (m : Mid w0 n0 base X XL BL BA R A cap ac L d o xx dx G #[.int .i64 3, .int .i64 o, .int .i64 c, .int .i64 a, .int .i64 b] w') => (⟨m.blk.cell 0, m.blk.cell 1⟩ : COp G 3 o w'))
        obtain ⟨MM, hMM⟩ : ∃ MM : World → Prop, MM = Mid w0 n0 base X XL BL BA R A cap ac L d o xx dx G #[.int .i64 3, .int .i64 o, .int .i64 c, .int .i64 a, .int .i64 b] := ⟨_, rfl⟩
        rw [← hMM] at K1 K2 HC8
        have HMM := hid hMM
        replace K1 := hid K1
        replace K2 := hid K2
        have g0 : W0.cell? ⟨G, 0, none⟩ = some (.int .i64 3) := hB0.cell 0
        have g1 : W0.cell? ⟨G, 1, none⟩ = some (.int .i64 o) := hB0.cell 1
        have g2 : W0.cell? ⟨G, 2, none⟩ = some (.int .i64 c) := hB0.cell 2
        have g3 : W0.cell? ⟨G, 3, none⟩ = some (.int .i64 a) := hB0.cell 3
        have g4 : W0.cell? ⟨G, 4, none⟩ = some (.int .i64 b) := hB0.cell 4
        have lG := hB0.lt
        clear hB0 hd
        have tz : (z == z) = true := by simp
        have HH := hid h
        clear hMM h hB g2 g3 g4
        go_wp2_with fail
        have hW : COp G 3 o W0.drew := ⟨g0, g1⟩
        clear HH
        go_region_held3 (fun w' => w'.cell? ⟨G, 0, none⟩ = some (.int .i64 3) ∧ w'.cell? ⟨G, 1, none⟩ = some (.int .i64 o)) (first | exact c9 | exact c8 | exact hW)
          (first
            | (go_at_call 10; refine K1.out.mono ?_; rintro e w7 ⟨rfl, hM7⟩; clear K1; have c8 : COp G 3 o w7 := HC8.out w7 hM7)
            | (go_at_call 68; refine (K2.out _ hM7).mono ?_; rintro e w8 ⟨rfl, hF8, c9⟩; clear hM7))
        all_goals
          have HF := hid hF8
          clear hF8 c8 c9 hW g0 g1 K2 HC8
          go_wp2_with fail
          go_ret
          exact ⟨by simp, HF.out⟩
      · have hk3 : ¬ k = 3 := hkk
        clear hkk
        by_cases hkk : k = 4
        · subst hkk
          have hd : Below W0.heap.size W0 W0.drew := below_drewN (Below.refl _ _) 1
          replace h := h.next hd
          have hB0 := hB
          replace hB := hB.next hd
          have K1 : Calls Tryz.prog 11 #[.pointer (some ⟨X, 0, none⟩), .int .i64 o] W0.drew fun e w' => e = .returned (.int .i64 ((memR (cfind ac) d o).code)) ∧ Mid w0 n0 base X XL BL BA R A cap ac L d o ((memR (cfind ac) d o).acc) ((memR (cfind ac) d o).d) G #[.int .i64 4, .int .i64 o, .int .i64 c, .int .i64 a, .int .i64 b] w' := (cmem_any h.c o).mono fun e w' ⟨h1, h2⟩ => ⟨h1, h.prog hB h2⟩
          have K2 : ∀ w, Mid w0 n0 base X XL BL BA R A cap ac L d o ((memR (cfind ac) d o).acc) ((memR (cfind ac) d o).d) G #[.int .i64 4, .int .i64 o, .int .i64 c, .int .i64 a, .int .i64 b] w → Calls Tryz.prog 69 #[.pointer (some ⟨R, 0, none⟩), .int .i64 o] w fun e w' => e = .returned (.int .i64 ((memR (cfind ac) d o).code)) ∧ Fin18 w0 n0 base X XL BL BA R (L.length + 1) w' ∧ COp G 4 o w' := fun w m => (rmem_any m.f h.rel h.c.gd.goodG (by omega) m.bw o).mono fun e w' ⟨h1, h2⟩ => ⟨h1, m.doc h2, m.cop h2⟩
          generalize memR (cfind ac) d o = r at K1 K2
          generalize r.code = z at K1 K2
          generalize r.acc = xx at K1 K2
          generalize r.d = dx at K1 K2
          have HC8 := hid (fun w' (m : Mid w0 n0 base X XL BL BA R A cap ac L d o xx dx G #[.int .i64 4, .int .i64 o, .int .i64 c, .int .i64 a, .int .i64 b] w') => (⟨m.blk.cell 0, m.blk.cell 1⟩ : COp G 4 o w'))
          obtain ⟨MM, hMM⟩ : ∃ MM : World → Prop, MM = Mid w0 n0 base X XL BL BA R A cap ac L d o xx dx G #[.int .i64 4, .int .i64 o, .int .i64 c, .int .i64 a, .int .i64 b] := ⟨_, rfl⟩
          rw [← hMM] at K1 K2 HC8
          have HMM := hid hMM
          replace K1 := hid K1
          replace K2 := hid K2
          have g0 : W0.cell? ⟨G, 0, none⟩ = some (.int .i64 4) := hB0.cell 0
          have g1 : W0.cell? ⟨G, 1, none⟩ = some (.int .i64 o) := hB0.cell 1
          have g2 : W0.cell? ⟨G, 2, none⟩ = some (.int .i64 c) := hB0.cell 2
          have g3 : W0.cell? ⟨G, 3, none⟩ = some (.int .i64 a) := hB0.cell 3
          have g4 : W0.cell? ⟨G, 4, none⟩ = some (.int .i64 b) := hB0.cell 4
          have lG := hB0.lt
          clear hB0 hd
          have tz : (z == z) = true := by simp
          have HH := hid h
          clear hMM h hB g2 g3 g4
          go_wp2_with fail
          have hW : COp G 4 o W0.drew := ⟨g0, g1⟩
          clear HH
          go_region_held3 (fun w' => w'.cell? ⟨G, 0, none⟩ = some (.int .i64 4) ∧ w'.cell? ⟨G, 1, none⟩ = some (.int .i64 o)) (first | exact c9 | exact c8 | exact hW)
            (first
              | (go_at_call 11; refine K1.out.mono ?_; rintro e w7 ⟨rfl, hM7⟩; clear K1; have c8 : COp G 4 o w7 := HC8.out w7 hM7)
              | (go_at_call 69; refine (K2.out _ hM7).mono ?_; rintro e w8 ⟨rfl, hF8, c9⟩; clear hM7))
          all_goals
            have HF := hid hF8
            clear hF8 c8 c9 hW g0 g1 K2 HC8
            go_wp2_with fail
            go_ret
            exact ⟨by simp, HF.out⟩
        · have hk4 : ¬ k = 4 := hkk
          clear hkk
          by_cases hkk : k = 5
          · subst hkk
            have K1 : Calls Tryz.prog 6 #[.pointer (some ⟨X, 0, none⟩), .int .i64 o] W0 fun e w' => e = .returned (.tuple #[.int .i64 ((refR (cfind ac) d o).1), .int .i64 ((refR (cfind ac) d o).2.code)]) ∧ Mid w0 n0 base X XL BL BA R A cap ac L d o ((refR (cfind ac) d o).2.acc) ((refR (cfind ac) d o).2.d) G #[.int .i64 5, .int .i64 o, .int .i64 c, .int .i64 a, .int .i64 b] w' := (cref_any h.c o).mono fun e w' ⟨h1, h2⟩ => ⟨h1, h.prog hB h2⟩
            have K2 : ∀ w, Mid w0 n0 base X XL BL BA R A cap ac L d o ((refR (cfind ac) d o).2.acc) ((refR (cfind ac) d o).2.d) G #[.int .i64 5, .int .i64 o, .int .i64 c, .int .i64 a, .int .i64 b] w → Calls Tryz.prog 70 #[.pointer (some ⟨R, 0, none⟩), .int .i64 o] w fun e w' => e = .returned (.tuple #[.int .i64 ((refR (cfind ac) d o).1), .int .i64 ((refR (cfind ac) d o).2.code)]) ∧ Fin18 w0 n0 base X XL BL BA R (L.length + 1) w' := fun w m => (rref_any m.f h.rel h.c.gd.goodG (by omega) m.bw o).mono fun e w' ⟨h1, h2⟩ => ⟨h1, m.doc h2⟩
            generalize refR (cfind ac) d o = r at K1 K2
            obtain ⟨pd, r⟩ := r
            simp only at K1 K2
            generalize r.code = z at K1 K2
            generalize r.acc = xx at K1 K2
            generalize r.d = dx at K1 K2
            obtain ⟨MM, hMM⟩ : ∃ MM : World → Prop, MM = Mid w0 n0 base X XL BL BA R A cap ac L d o xx dx G #[.int .i64 5, .int .i64 o, .int .i64 c, .int .i64 a, .int .i64 b] := ⟨_, rfl⟩
            rw [← hMM] at K1 K2
            have HMM := hid hMM
            replace K1 := hid K1
            replace K2 := hid K2
            have g0 : W0.cell? ⟨G, 0, none⟩ = some (.int .i64 5) := hB.cell 0
            have g1 : W0.cell? ⟨G, 1, none⟩ = some (.int .i64 o) := hB.cell 1
            have g2 : W0.cell? ⟨G, 2, none⟩ = some (.int .i64 c) := hB.cell 2
            have g3 : W0.cell? ⟨G, 3, none⟩ = some (.int .i64 a) := hB.cell 3
            have g4 : W0.cell? ⟨G, 4, none⟩ = some (.int .i64 b) := hB.cell 4
            have lG := hB.lt
            have tz : (z == z) = true := by simp
            have tp : (pd == pd) = true := by simp
            clear hMM h hB
            go_wp2_with fail
            refine K1.out.mono ?_
            rintro e w1 ⟨rfl, hm⟩
            have hB1 : Blk w1 G 100 #[.int .i64 5, .int .i64 o, .int .i64 c, .int .i64 a, .int .i64 b] := by rw [HMM.out] at hm; exact hm.blk
            clear K1 g0 g1 g2 g3 g4 lG
            have g0 : w1.cell? ⟨G, 0, none⟩ = some (.int .i64 5) := hB1.cell 0
            have g1 : w1.cell? ⟨G, 1, none⟩ = some (.int .i64 o) := hB1.cell 1
            have g2 : w1.cell? ⟨G, 2, none⟩ = some (.int .i64 c) := hB1.cell 2
            have g3 : w1.cell? ⟨G, 3, none⟩ = some (.int .i64 a) := hB1.cell 3
            have g4 : w1.cell? ⟨G, 4, none⟩ = some (.int .i64 b) := hB1.cell 4
            have lG := hB1.lt
            replace K2 := hid (K2.out _ hm)
            clear hB1 hm HMM
            go_wp2_with fail
            refine K2.out.mono ?_
            rintro e w2 ⟨rfl, hf⟩
            have HF := hid hf
            clear K2 g0 g1 g2 g3 g4 lG hf
            go_wp2_with fail
            go_ret
            exact ⟨by simp, HF.out⟩
          · have hk5 : ¬ k = 5 := hkk
            clear hkk
            by_cases hkk : k = 6
            · subst hkk
              have K1 : Calls Tryz.prog 7 #[.pointer (some ⟨X, 0, none⟩), .int .i64 o] W0 fun e w' => e = .returned (.tuple #[.int .i64 ((dunR (cfind ac) o).1), .bool ((dunR (cfind ac) o).2.1)]) ∧ Mid w0 n0 base X XL BL BA R A cap ac L d o ((dunR (cfind ac) o).2.2) (d) G #[.int .i64 6, .int .i64 o, .int .i64 c, .int .i64 a, .int .i64 b] w' := (cdun_any h.c o).mono fun e w' ⟨h1, h2⟩ => ⟨h1, h.prog hB h2⟩
              have K2 : ∀ w, Mid w0 n0 base X XL BL BA R A cap ac L d o ((dunR (cfind ac) o).2.2) (d) G #[.int .i64 6, .int .i64 o, .int .i64 c, .int .i64 a, .int .i64 b] w → Calls Tryz.prog 71 #[.pointer (some ⟨R, 0, none⟩), .int .i64 o] w fun e w' => e = .returned (.tuple #[.int .i64 ((dunR (cfind ac) o).1), .bool ((dunR (cfind ac) o).2.1)]) ∧ Fin18 w0 n0 base X XL BL BA R (L.length + 1) w' := fun w m => (rdun_any m.f h.rel h.c.gd.goodG (by omega) m.bw o).mono fun e w' ⟨h1, h2⟩ => ⟨h1, m.doc h2⟩
              generalize (dunR (cfind ac) o).1 = z at K1 K2
              generalize (dunR (cfind ac) o).2.1 = pd at K1 K2
              generalize (dunR (cfind ac) o).2.2 = xx at K1 K2
              obtain ⟨MM, hMM⟩ : ∃ MM : World → Prop, MM = Mid w0 n0 base X XL BL BA R A cap ac L d o xx d G #[.int .i64 6, .int .i64 o, .int .i64 c, .int .i64 a, .int .i64 b] := ⟨_, rfl⟩
              rw [← hMM] at K1 K2
              have HMM := hid hMM
              replace K1 := hid K1
              replace K2 := hid K2
              have g0 : W0.cell? ⟨G, 0, none⟩ = some (.int .i64 6) := hB.cell 0
              have g1 : W0.cell? ⟨G, 1, none⟩ = some (.int .i64 o) := hB.cell 1
              have g2 : W0.cell? ⟨G, 2, none⟩ = some (.int .i64 c) := hB.cell 2
              have g3 : W0.cell? ⟨G, 3, none⟩ = some (.int .i64 a) := hB.cell 3
              have g4 : W0.cell? ⟨G, 4, none⟩ = some (.int .i64 b) := hB.cell 4
              have lG := hB.lt
              have tz : (z == z) = true := by simp
              have tp : (pd == pd) = true := by simp
              clear hMM h hB
              go_wp2_with fail
              refine K1.out.mono ?_
              rintro e w1 ⟨rfl, hm⟩
              have hB1 : Blk w1 G 100 #[.int .i64 6, .int .i64 o, .int .i64 c, .int .i64 a, .int .i64 b] := by rw [HMM.out] at hm; exact hm.blk
              clear K1 g0 g1 g2 g3 g4 lG
              have g0 : w1.cell? ⟨G, 0, none⟩ = some (.int .i64 6) := hB1.cell 0
              have g1 : w1.cell? ⟨G, 1, none⟩ = some (.int .i64 o) := hB1.cell 1
              have g2 : w1.cell? ⟨G, 2, none⟩ = some (.int .i64 c) := hB1.cell 2
              have g3 : w1.cell? ⟨G, 3, none⟩ = some (.int .i64 a) := hB1.cell 3
              have g4 : w1.cell? ⟨G, 4, none⟩ = some (.int .i64 b) := hB1.cell 4
              have lG := hB1.lt
              replace K2 := hid (K2.out _ hm)
              clear hB1 hm HMM
              go_wp2_with fail
              refine K2.out.mono ?_
              rintro e w2 ⟨rfl, hf⟩
              have HF := hid hf
              clear K2 g0 g1 g2 g3 g4 lG hf
              go_wp2_with fail
              go_ret
              exact ⟨by simp, HF.out⟩
            · have hk6 : ¬ k = 6 := hkk
              clear hkk
              have u1 : (k == 1) = false := by simpa using hk1
              have u2 : (k == 2) = false := by simpa using hk2
              have u3 : (k == 3) = false := by simpa using hk3
              have u4 : (k == 4) = false := by simpa using hk4
              have u5 : (k == 5) = false := by simpa using hk5
              have u6 : (k == 6) = false := by simpa using hk6
              have HH := hid h
              have HB := hid hB
              have g0 : W0.cell? ⟨G, 0, none⟩ = some (.int .i64 k) := hB.cell 0
              have lG := hB.lt
              clear h hB hk1 hk2 hk3 hk4 hk5 hk6
              go_wp2_with fail
              go_ret
              exact ⟨by simp, ac, L, A, cap, d, by omega, HH.out⟩
set_option maxRecDepth 100000 in
set_option maxHeartbeats 16000000 in
theorem play_any (hS : SortsL) (l : List Op18) (Ao : Option Addr) (cp : Nat) (hR0 : Rd w0 Ao (l.flatMap en18)) (hok : ∀ x ∈ l, ok18 x) (h : St w0 n0 base X XL BL BA R A cap ac L d w) (hl : (L.length + l.length) * 72 ≤ 140737488351232) :
    Calls Tryz.prog 20 #[.pointer (some ⟨X, 0, none⟩), .pointer (some ⟨R, 0, none⟩), .slice Ao l.length cp] w fun e w' => e = .returned (.bool true) ∧ Fin18 w0 n0 base X XL BL BA R (L.length + l.length) w' := by
  obtain ⟨N, hN⟩ : ∃ N, N = L.length := ⟨_, rfl⟩
  rw [← hN] at hl ⊢
  have HH : Hid (Fin18 w0 n0 base X XL BL BA R (N + 0) w) := hid ⟨ac, L, A, cap, d, by omega, h⟩
  have HOK := hid hok
  have HSS := hid hS
  clear h hok hS hN
  go_enter Tryz.func20, Tryz.ntmps20
  go_wp2_with fail
  go_loopw [11] (fun i wr => ∃ k : Nat, k ≤ l.length ∧ i = .int .i64 k ∧ Hid (Fin18 w0 n0 base X XL BL BA R (N + k) wr)) (fun i _ => l.length - nOf i)
  case atStart => exact ⟨0, Nat.zero_le _, rfl, HH⟩
  case round =>
    clear HH
    obtain ⟨k, hk, rfl, HF⟩ := hrel
    by_cases hlt : k < l.length
    · obtain ⟨x, hx⟩ : ∃ x, l[k]? = some x := ⟨l[k], List.getElem?_eq_getElem hlt⟩
      have hox := HOK.out x (List.mem_of_getElem? hx)
      obtain ⟨ac, L, A, cap, d, hL, h⟩ := HF.out
      obtain ⟨b, off, rfl, _, hcc⟩ := (hR0.below h.bel).at_ 5 en18_len (by omega) hx
      obtain ⟨xk, xo, xc, xa, xb⟩ := x
      have q0 : wr.cell? ⟨b, off + k * 5, none⟩ = some (.int .i64 xk) := hcc 0 _ rfl
      have q1 : wr.cell? ⟨b, off + k * 5 + 1, none⟩ = some (.int .i64 xo) := hcc 1 _ rfl
      have q2 : wr.cell? ⟨b, off + k * 5 + 2, none⟩ = some (.int .i64 xc) := hcc 2 _ rfl
      have q3 : wr.cell? ⟨b, off + k * 5 + 3, none⟩ = some (.int .i64 xa) := hcc 3 _ rfl
      have q4 : wr.cell? ⟨b, off + k * 5 + 4, none⟩ = some (.int .i64 xb) := hcc 4 _ rfl
      have hz := h.next ((Below.refl _ _).alloc (Nat.le_refl _) (.cells #[.int .i64 xk, .int .i64 xo, .int .i64 xc, .int .i64 xa, .int .i64 xb] 100))
      have HB := hid (Blk.new wr 100 #[.int .i64 xk, .int .i64 xo, .int .i64 xc, .int .i64 xa, .int .i64 xb])
      have K := hid (step_any hz (by omega) xk xo xc xa xb hox)
      clear hcc hx hz h HF hox
      go_upto_region 4 with fail
      clear q0 q1 q2 q3 q4
      obtain ⟨W0, hW0⟩ : ∃ W0, W0 = wr.alloc (.cells #[.int .i64 xk, .int .i64 xo, .int .i64 xc, .int .i64 xa, .int .i64 xb] 100) := ⟨_, rfl⟩
      obtain ⟨G, hG⟩ : ∃ G, G = wr.heap.size := ⟨_, rfl⟩
      have hB := HB.out
      rw [← hW0] at K hB ⊢
      rw [← hG] at hB ⊢
      clear HB hW0 hG
      have g0 : W0.cell? ⟨G, 0, none⟩ = some (.int .i64 xk) := hB.cell 0
      have g1 : W0.cell? ⟨G, 1, none⟩ = some (.int .i64 xo) := hB.cell 1
      have g2 : W0.cell? ⟨G, 2, none⟩ = some (.int .i64 xc) := hB.cell 2
      have g3 : W0.cell? ⟨G, 3, none⟩ = some (.int .i64 xa) := hB.cell 3
      have g4 : W0.cell? ⟨G, 4, none⟩ = some (.int .i64 xb) := hB.cell 4
      clear hB
      go_wp2_with fail
      refine K.out.mono ?_
      rintro e w2 ⟨rfl, ac2, L2, A2, cap2, d2, hL2, h2⟩
      have hL3 : ac2.length * 72 ≤ 140737488351232 := by rw [← h2.rel.len h2.c.gd h2.c.bk.acs.nodup]; omega
      have KS := hid (state_any HSS.out h2 hL3)
      have H2 := hid h2
      clear K g0 g1 g2 g3 g4 h2 hL3
      go_wp2_with fail
      refine KS.out.mono ?_
      rintro e w3 ⟨rfl, hb3⟩
      have HN : Hid (Fin18 w0 n0 base X XL BL BA R (N + (k + 1)) w3) := hid ⟨ac2, L2, A2, cap2, d2, by omega, H2.out.next hb3⟩
      clear KS H2 hb3 hL2 hL
      go_wp2_with fail
      go_roundw
      case rel => exact ⟨k + 1, by omega, by go_num, HN⟩
      case measure => simp [nOf]; omega
    · have hk' : k = l.length := by omega
      subst hk'
      clear hk hlt
      go_wp2_with fail
      go_ret
      exact ⟨rfl, HF.out⟩
end

theorem rf_new (w : World) : IsRf (w.heap.size + 1) (w.alloc (.cells #[.slice none 0 0, .int .i64 0] 95)) w.heap.size none 0 [] 0 :=
  ⟨Blk.new _ _ _, World.ownsRow_nil _ _ _ _, Nat.lt_succ_self _⟩
end Go.Proofs.YthdmbbfppgenlaaGreat
