/-
  What each step comes behind: (*behind).of of the program.
-/
import Derived.Test.YtemhoaapapeilaaOfP12
import Derived.Test.YtemhoaapapeilaaInTurn
import Derived.Test.YtemhoaapapeilaaRange
import Derived.WalkSpells
namespace Go.Proofs.Ytemhoaapapeilaa
open Go.RowKit Go.WideShapes Go.ChangeShapes Go.ChangeAt Go.Deep
set_option linter.unusedVariables false

def kZ (n : Int) : Value := .int .i64 n
theorem keyZ12 : KeyLaw Try.prog 3 kZ := intKey Try.underlying3
theorem looked_kZ (m : ZMap) (a : Int) : looked (vN 0) vN m a = .int .i64 ((mget m a).getD 0) := by
  unfold looked
  cases mget m a <;> rfl
/-- What stays the same through all askings. -/
structure OfK where
  w0 : World
  D : Nat
  Ds : Nat
  Do : Nat
  M : Nat
  nm : ByteArray
  l : List Stp
  A : Option Addr
  cp : Nat
structure OfS (K : OfK) (S : Sets) (O : Nat → Bool) (w : World) : Prop where
  d : Blk w K.D 98 #[.string K.nm, .slice K.A K.l.length K.cp, .map (some K.M), .slice (some ⟨K.Ds, 0, none⟩) K.l.length K.l.length, .slice (some ⟨K.Do, 0, none⟩) K.l.length K.l.length]
  s : Blk w K.Ds 99 (rngC K.l.length fun j => setV (S j))
  o : Blk w K.Do 4 (rngC K.l.length fun j => .bool (O j))
  m : IsMap w K.M kS vN (mkN (K.l.map Stp.name) K.l.length)
  sets : ∀ i g mm, i < K.l.length → S i = some (g, mm) → IsMap w g kZ vN mm ∧ SetOk (grf K.l) i mm ∧ K.w0.heap.size ≤ g
  bel : Below K.w0.heap.size K.w0 w
  lo : K.w0.heap.size ≤ K.Ds ∧ K.w0.heap.size ≤ K.Do
section
variable {K : OfK} {S : Sets} {O : Nat → Bool} {w w' : World}
def SD (K : OfK) (k : Nat) : Prop := k = K.Ds ∨ k = K.Do
theorem OfS.nds (h : OfS K S O w) : K.D ≠ K.Ds := h.d.ne_ h.s (by decide)
theorem OfS.ndo (h : OfS K S O w) : K.D ≠ K.Do := h.d.ne_ h.o (by decide)
theorem OfS.nso (h : OfS K S O w) : K.Ds ≠ K.Do := h.s.ne_ h.o (by decide)
theorem OfS.far {T : Nat → Prop} (h : OfS K S O w) (hT : Touch T w w') (h1 : ¬ T K.D) (h2 : ¬ T K.Ds) (h3 : ¬ T K.Do) (h4 : ¬ T K.M) (h5 : ∀ i g mm, i < K.l.length → S i = some (g, mm) → ¬ T g) (h6 : ∀ k, T k → K.w0.heap.size ≤ k) : OfS K S O w' :=
  ⟨hT.blk h.d h1, hT.blk h.s h2, hT.blk h.o h3, hT.isMap h.m h4, fun i g mm hi hs => ⟨hT.isMap (h.sets i g mm hi hs).1 (h5 i g mm hi hs), (h.sets i g mm hi hs).2⟩, h.bel.trans (hT.below h.bel.size h6), h.lo⟩
theorem OfS.next (h : OfS K S O w) (hb : Below w.heap.size w w') : OfS K S O w' :=
  ⟨h.d.next hb, h.s.next hb, h.o.next hb, h.m.next hb, fun i g mm hi hs => ⟨(h.sets i g mm hi hs).1.next hb, (h.sets i g mm hi hs).2⟩, h.bel.trans (hb.mono h.bel.size), h.lo⟩
theorem OfS.flip {O' : Nat → Bool} (h : OfS K S O w) {i : Nat} (hi : i < K.l.length) (b : Bool) (hO : ∀ j, O' j = if j = i then b else O j) : OfS K S O' (w.setCell ⟨K.Do, i, none⟩ (.bool b)) := by
  have hT := Touch.setCell w K.Do i (.bool b)
  refine ⟨hT.blk h.d h.ndo, hT.blk h.s h.nso, ?_, hT.isMap h.m (fun e => h.m.notBlk h.o e), fun j g mm hj hs => ⟨hT.isMap (h.sets j g mm hj hs).1 (fun e => (h.sets j g mm hj hs).1.notBlk h.o e), (h.sets j g mm hj hs).2⟩, h.bel.trans (hT.below h.bel.size (fun k hk => by rw [hk]; exact h.lo.2)), h.lo⟩
  have h1 := h.o.set_ i (.bool b)
  rw [opnC_set hi] at h1
  have : (fun j => Value.bool (O' j)) = fun j => .bool (if j = i then b else O j) := by funext j; rw [hO j]
  rw [this]
  exact h1
theorem OfS.put (h : OfS K S O w) {i g : Nat} {mm : ZMap} (hi : i < K.l.length) (hM : IsMap w g kZ vN mm) (hk : SetOk (grf K.l) i mm) (hg : K.w0.heap.size ≤ g) : OfS K (putS S i g mm) O (w.setCell ⟨K.Ds, i, none⟩ (.map (some g))) := by
  have hT := Touch.setCell w K.Ds i (.map (some g))
  refine ⟨hT.blk h.d h.nds, ?_, hT.blk h.o (fun e => h.nso e.symm), hT.isMap h.m (fun e => h.m.notBlk h.s e), fun j g' mm' hj hs => ?_, h.bel.trans (hT.below h.bel.size (fun k hk => by rw [hk]; exact h.lo.1)), h.lo⟩
  · have h1 := h.s.set_ i (.map (some g))
    rw [setC_putS (mm := mm) hi] at h1
    exact h1
  · unfold putS at hs
    split at hs
    · rename_i e
      simp only [Option.some.injEq, Prod.mk.injEq] at hs
      obtain ⟨rfl, rfl⟩ := hs
      subst e
      exact ⟨hT.isMap hM (fun e => hM.notBlk h.s e), hk, hg⟩
    · exact ⟨hT.isMap (h.sets j g' mm' hj hs).1 (fun e => (h.sets j g' mm' hj hs).1.notBlk h.s e), (h.sets j g' mm' hj hs).2⟩
end
theorem IsIter.notMap {κ ν κ' ν' : Type} {w : World} {r B B' : Nat} {kE : κ → Value} {vE : ν → Value} {m left : List (κ × ν)} {kE' : κ' → Value} {vE' : ν' → Value} {m' : List (κ' × ν')} (h : IsIter w r B kE vE m left) (h' : IsMap w B' kE' vE' m') : r ≠ B' := by
  rintro rfl
  obtain ⟨es, clock, since, c0, seen, _, _, _, _, _, _, _, h8, _⟩ := h
  obtain ⟨_, _, h9, _⟩ := h'
  rw [h8] at h9
  cases h9
/-- What is known while step i's own set is gathered. -/
structure OfG (K : OfK) (S' : Sets) (O : Nat → Bool) (g0 : Nat) (mm : ZMap) (w wr : World) : Prop where
  s : OfS K S' O wr
  m : IsMap wr g0 kZ vN mm
  t : Touch (SD K) w wr
  own : ∀ j g m, j < K.l.length → S' j = some (g, m) → g ≠ g0
  map : K.M ≠ g0
  lo : K.w0.heap.size ≤ g0
theorem OfG.put_ {K : OfK} {S' : Sets} {O : Nat → Bool} {g0 : Nat} {mm mm' : ZMap} {w wr w' : World} (h : OfG K S' O g0 mm w wr) (hT : Touch (· = g0) wr w') (hM : IsMap w' g0 kZ vN mm') (hg : w.heap.size ≤ g0) : OfG K S' O g0 mm' w w' :=
  ⟨h.s.far hT (fun e => h.m.notBlk h.s.d e.symm) (fun e => h.m.notBlk h.s.s e.symm) (fun e => h.m.notBlk h.s.o e.symm) h.map (fun i g m hi hs e => h.own i g m hi hs e) (fun k hk => by rw [hk]; exact h.lo), hM, h.t.trans hT (fun k hk => .inr (by rw [hk]; exact hg)), h.own, h.map, h.lo⟩
theorem OfG.next {K : OfK} {S' : Sets} {O : Nat → Bool} {g0 : Nat} {mm : ZMap} {w wr w' : World} (h : OfG K S' O g0 mm w wr) (hb : Below wr.heap.size wr w') : OfG K S' O g0 mm w w' :=
  ⟨h.s.next hb, h.m.next hb, h.t.then (Touch.of_below hb), h.own, h.map, h.lo⟩
theorem OfG.asked {K : OfK} {S' S2 : Sets} {O : Nat → Bool} {g0 : Nat} {mm : ZMap} {w wr w' : World} (h : OfG K S' O g0 mm w wr) (hT : Touch (SD K) wr w') (hS : OfS K S2 O w') (hn : ∀ j g m, j < K.l.length → S2 j = some (g, m) → S' j = some (g, m) ∨ wr.heap.size ≤ g) : OfG K S2 O g0 mm w w' :=
  ⟨hS, hT.isMap h.m (fun e => e.elim (fun e => h.m.notBlk h.s.s e) (fun e => h.m.notBlk h.s.o e)), h.t.then hT, fun j g m hj hs e => (hn j g m hj hs).elim (fun h' => h.own j g m hj h' e) (fun h' => by have := h.m.lt; omega), h.map, h.lo⟩
theorem OfG.iter {K : OfK} {S' : Sets} {O : Nat → Bool} {g0 r B : Nat} {mm m left : ZMap} {w wr w' : World} (h : OfG K S' O g0 mm w wr) (hI : IsIter wr r B kZ vN m left) (hg : wr.grownBy w' (some r)) (hr : w.heap.size ≤ r) (hr0 : K.w0.heap.size ≤ r) : OfG K S' O g0 mm w w' :=
  have hT := Touch.of_grown hg
  ⟨h.s.far hT (fun e => hI.notBlk h.s.d e.symm) (fun e => hI.notBlk h.s.s e.symm) (fun e => hI.notBlk h.s.o e.symm) (fun e => hI.notMap h.s.m e.symm) (fun i g m hi hs e => hI.notMap (h.s.sets i g m hi hs).1 e.symm) (fun k hk => by rw [hk]; exact hr0), hT.isMap h.m (fun e => hI.notMap h.m e.symm), h.t.trans hT (fun k hk => .inr (by rw [hk]; exact hr)), h.own, h.map, h.lo⟩
/-- What an asking of step i leaves. -/
def OfR (K : OfK) (S : Sets) (O : Nat → Bool) (i : Nat) (w : World) (e : Ending) (w' : World) : Prop :=
  Touch (SD K) w w' ∧ (((∃ j, Rch (grf K.l) j j) ∧ e = .returned (.tuple #[.map none, .bool false])) ∨
    ∃ (g : Nat) (mm : ZMap) (S' : Sets), e = .returned (.tuple #[.map (some g), .bool true]) ∧ OfS K S' O w' ∧ S' i = some (g, mm) ∧ (∀ j q, S j = some q → S' j = some q) ∧ ∀ j g mm, j < K.l.length → S' j = some (g, mm) → S j = some (g, mm) ∨ w.heap.size ≤ g)

theorem neqMap12 (r : Option Nat) (w : World) : (binOp .neq 99 (.map r) (.map none)).run Try.prog w = .ok (.bool (!r.isNone)) w := run_neq_map_nil w _ _ _ r Try.underlying99

set_option maxRecDepth 100000 in
set_option maxHeartbeats 32000000 in
theorem of_step (K : OfK) (hR : Rd K.w0 K.A (K.l.flatMap enSt)) (hok : ∀ s ∈ K.l, OkSt K.w0 s) (hN : NamesOk K.l) (hl : K.l.length ≤ 1000) (f : Nat)
    (ih : ∀ (i : Nat) (w : World) (S : Sets) (O : Nat → Bool), f ≠ 0 → i < K.l.length → OfS K S O w → (∀ j, j < K.l.length → O j = true → Rch (grf K.l) j i) → shutN K.l.length O + 1 ≤ f →
      Calls Try.prog 45 #[.pointer (some ⟨K.D, 0, none⟩), .int .i64 (i : Int)] w (OfR K S O i w))
    (i : Nat) (w : World) (S : Sets) (O : Nat → Bool) (hi : i < K.l.length) (hS : OfS K S O w) (hO : ∀ j, j < K.l.length → O j = true → Rch (grf K.l) j i) (hf : shutN K.l.length O ≤ f) :
    Calls Try.prog 45 #[.pointer (some ⟨K.D, 0, none⟩), .int .i64 (i : Int)] w (OfR K S O i w) := by
  have HOK := hid hok
  have HN := hid hN
  have HR := hid hR
  have HIH := hid ih
  have HS := hid hS
  have HO := hid hO
  have HF := hid hf
  clear hok hN hR ih hS hO hf
  have hd3 : w.cell? ⟨K.D, 3, none⟩ = some (.slice (some ⟨K.Ds, 0, none⟩) K.l.length K.l.length) := HS.out.d.cell 3
  have hd4 : w.cell? ⟨K.D, 4, none⟩ = some (.slice (some ⟨K.Do, 0, none⟩) K.l.length K.l.length) := HS.out.d.cell 4
  have lD := HS.out.d.lt
  have cs : w.cell? ⟨K.Ds, i, none⟩ = some (setV (S i)) := by rw [HS.out.s.cell]; exact rngC_at _ hi
  have lDs := HS.out.s.lt
  have co : w.cell? ⟨K.Do, i, none⟩ = some (.bool (O i)) := by rw [HS.out.o.cell]; exact rngC_at _ hi
  have lDo := HS.out.o.lt
  cases hsi : S i with
  | some q =>
    obtain ⟨g, mm⟩ := q
    rw [hsi] at cs
    simp only [setV] at cs
    have hq := neqMap12 (some g)
    simp only [Option.isNone_some, Bool.not_false] at hq
    have HSI := hid hsi
    clear hsi
    go_enter Try.func45, Try.ntmps45
    go_wp2_with fail
    go_ret2
    exact ⟨Touch.refl _ _, .inr ⟨g, mm, S, rfl, HS.out, HSI.out, fun _ _ h => h, fun _ _ _ _ h => .inl h⟩⟩
  | none =>
    rw [hsi] at cs
    simp only [setV] at cs
    have hq := neqMap12 none
    simp only [Option.isNone_none, Bool.not_true] at hq
    have HSI := hid hsi
    clear hsi
    cases hoi : O i with
    | true =>
      rw [hoi] at co
      have HCY := hid (HO.out i hi hoi)
      clear hoi
      go_enter Try.func45, Try.ntmps45
      go_wp2_with fail
      go_ret2
      exact ⟨Touch.refl _ _, .inl ⟨⟨i, HCY.out⟩, rfl⟩⟩
    | false =>
      rw [hoi] at co
      have HOI := hid hoi
      have fo := HS.out.o.free i
      have hOp := HS.out.flip (O' := opn O i) hi true (fun _ => rfl)
      have hT1 := (Touch.setCell w K.Do i (.bool true)).mono (fun k hk => (.inr hk : SD K k))
      obtain ⟨W1, hW1⟩ : ∃ W1, W1 = w.setCell ⟨K.Do, i, none⟩ (.bool true) := ⟨_, rfl⟩
      have hsz : W1.heap.size = w.heap.size := by rw [hW1]; simp [World.setCell]
      rw [← hW1] at hOp hT1
      have hbA : Below W1.heap.size W1 (W1.alloc (.map #[] 0)) := (Below.refl _ _).alloc (Nat.le_refl _) _
      have hM0 := IsMap.made W1 kZ vN
      rw [hsz] at hM0
      have hmm := @run_makeMap Try.prog
      obtain ⟨s, hs⟩ : ∃ s, K.l[i]? = some s := ⟨K.l[i], List.getElem?_eq_getElem hi⟩
      have HSK := hid hs
      have HSL := hid (show ∀ w' : World, Below K.w0.heap.size K.w0 w' → ∃ (b o : Nat), K.A = some ⟨b, o, none⟩ ∧ (w'.cell? ⟨b, o + i * 9 + 8, none⟩ = some (.slice s.A s.after.length s.cap)) from fun w' hb => by
        obtain ⟨b, o, hA, _, hc⟩ := (HR.out.below hb).at_ 9 enSt_len (by omega) hs
        exact ⟨b, o, hA, hc 8 _ rfl⟩)
      have hlen := (HOK.out s (List.mem_of_getElem? hs)).len
      have HROW := hid (HOK.out s (List.mem_of_getElem? hs)).row
      have HADJ := hid (grf_adj hs)
      have HAF := hid (fun a (ha : a ∈ s.after) => HN.out.2 s (List.mem_of_getElem? hs) a ha)
      clear hs
      have HW := hid (And.intro (hOp.next hbA) (And.intro hM0 (hT1.then (Touch.of_below hbA))))
      obtain ⟨W, hWd⟩ : ∃ W, W = W1.alloc (.map #[] 0) := ⟨_, rfl⟩
      rw [← hWd] at HW
      have x1 : W.cell? ⟨K.D, 1, none⟩ = some (.slice K.A K.l.length K.cp) := HW.out.1.d.cell 1
      have lD' := HW.out.1.d.lt
      obtain ⟨b, o, hAA, q8⟩ := HSL.out _ HW.out.1.bel
      have HSZ := hid hsz
      obtain ⟨g0, hg0⟩ : ∃ g0, g0 = w.heap.size := ⟨_, rfl⟩
      rw [← hg0] at HW
      have HG0 := hid hg0
      clear hOp hT1 hbA hM0 hoi
      rw [hAA] at x1
      rw [hWd, hW1] at x1 lD' q8
      go_enter Try.func45, Try.ntmps45
      go_wp2_with fail
      clear x1 lD' q8 hd3 hd4 lD cs lDs co lDo fo hq hmm
      rw [← hW1, ← hWd]
      rw [← hg0]
      clear hWd hW1 hg0 HSZ hsz HSL
      try clear W1
      have H0 : Hid (SetIn (grf K.l) ((adj (grf K.l) i).take 0) 0 []) := hid (by rw [List.take_zero]; exact SetIn.nil _)
      have hn1 : (K.l.length : Int) ≤ 1000 := by omega
      go_loopw [52] (fun v wr => ∃ (j c : Nat) (S' : Sets) (mm : ZMap), j ≤ s.after.length ∧ v = .int .i64 j ∧ c ≤ j * 1001 ∧ Hid (SetIn (grf K.l) ((adj (grf K.l) i).take j) c mm ∧ ∀ x ∈ (adj (grf K.l) i).take j, Clean (grf K.l) x) ∧ Hid (OfG K S' (opn O i) g0 mm w wr) ∧ Hid ((∀ j q, S j = some q → S' j = some q) ∧ ∀ j g mm, j < K.l.length → S' j = some (g, mm) → S j = some (g, mm) ∨ w.heap.size ≤ g)) (fun v _ => s.after.length - nOf v)
      case atStart => exact ⟨0, 0, S, [], Nat.zero_le _, rfl, by omega, hid ⟨H0.out, fun x hx => by simp at hx⟩, hid ⟨HW.out.1, HW.out.2.1, HW.out.2.2, fun j g m hj hs e => by have := (HS.out.sets j g m hj hs).1.lt; have := HG0.out; omega, fun e => by have := HS.out.m.lt; have := HG0.out; omega, by have := HS.out.bel.size; have := HG0.out; omega⟩, hid ⟨fun _ _ h => h, fun _ _ _ _ h => .inl h⟩⟩
      case round =>
        clear HW H0
        obtain ⟨j, c, S', mm, hj, rfl, hc, HI, HW, HE⟩ := hrel
        by_cases hjl : j < s.after.length
        · obtain ⟨a, ha⟩ : ∃ a, s.after[j]? = some a := ⟨s.after[j], List.getElem?_eq_getElem hjl⟩
          obtain ⟨k, hk⟩ : ∃ k, k = K.l.findIdx (isNm a) := ⟨_, rfl⟩
          have hin := HAF.out a (List.mem_of_getElem? ha)
          have hkl : k < K.l.length := by
            obtain ⟨_, _, _, h⟩ := HN.out.idx hin
            rw [hk]; exact h
          have hka : (adj (grf K.l) i)[j]? = some k := by rw [HADJ.out, List.getElem?_map, ha, hk]; rfl
          have HTK := hid (take_succ_of hka)
          have HKM := hid (List.mem_of_getElem? hka)
          obtain ⟨b2, o2, hA2, _, hc2⟩ := (HROW.out.below HW.out.s.bel).at_ 1 enB_len (by omega) ha
          have q0 : wr.cell? ⟨b2, o2 + j * 1, none⟩ = some (.string a) := hc2 0 _ rfl
          rw [Nat.mul_one] at q0
          have d2 : wr.cell? ⟨K.D, 2, none⟩ = some (.map (some K.M)) := HW.out.s.d.cell 2
          have lD := HW.out.s.d.lt
          have lk : (Instr.lookup 30 (.map (some K.M)) (.string a) false).run Try.prog wr = .ok (.int .i64 (k : Int)) wr := by
            have := HW.out.s.m.look keyStr12 Try.underlying30 (zeroN _) a
            unfold looked at this
            rw [mkN_idx HN.out hin, ← hk] at this
            exact this
          have hv := getD_bd (a := (k : Int)) HI.out.1.bd (Int.le_refl _) (by omega) (by omega)
          obtain ⟨v0, hv0⟩ : ∃ v0, v0 = (mget mm (k : Int)).getD 0 := ⟨_, rfl⟩
          rw [← hv0] at hv
          have HV0 := hid hv0
          have lk2 : (Instr.lookup 99 (.map (some g0)) (.int .i64 (k : Int)) false).run Try.prog wr = .ok (.int .i64 v0) wr := by
            have := HW.out.m.look keyZ12 Try.underlying99 (zeroN _) (k : Int)
            rw [looked_kZ, ← hv0] at this
            exact this
          clear hc2 ha hk hin hka hv0
          generalize s.A = sA at HROW hA2
          subst hA2
          go_wp2_with (first
            | (at_mapUpdate; refine wpList_store _ rfl _ _ _ 99 3 rfl keyZ12 Try.underlying99 g0 mm rfl HW.out.m (k : Int) (v0 + 1) rfl rfl ?_; intro w5 hM5 hg5 hs5))
          have HP5 := hid (HW.out.put_ (Touch.of_grown hg5) hM5 (by rw [HG0.out]; exact Nat.le_refl _))
          have hA0 := HI.out.1.start (by omega) k
          rw [← HV0.out] at hA0
          have HAD := hid hA0
          have hfl := shutN_lt hi HOI.out
          have hf0 := HF.out
          have KC := hid (HIH.out k w5 S' (opn O i) (by omega) hkl HP5.out.s (fun x hx ho => by
            unfold opn at ho
            split at ho
            · rename_i e; subst e; exact .one HKM.out
            · exact (HO.out x hx ho).trans (.one HKM.out)) (by omega))
          clear q0 d2 lD lk lk2 hM5 hg5 hs5 hA0 hfl hf0 hv
          refine KC.out.mono ?_
          rintro e w6 ⟨hT6, h6⟩
          rcases h6 with ⟨hcy, rfl⟩ | ⟨g, mk, S2, rfl, hS2, hk2, hx2, hn2⟩
          · have HR6 := hid (And.intro (HP5.out.t.then hT6) hcy)
            clear hT6 hcy KC
            go_wp2_with fail
            go_ret2
            exact ⟨HR6.out.1, .inl ⟨HR6.out.2, rfl⟩⟩
          · have HG6 := hid (HP5.out.asked hT6 hS2 hn2)
            have HK6 := hid (hS2.sets k g mk hkl hk2)
            have HGK := hid (show g ≠ g0 from HG6.out.own k g mk hkl hk2)
            have HE6 := hid (show (∀ j q, S j = some q → S2 j = some q) ∧ ∀ j g mm, j < K.l.length → S2 j = some (g, mm) → S j = some (g, mm) ∨ w.heap.size ≤ g from
              ⟨fun x q hq => hx2 x q (HE.out.1 x q hq), fun x g' m' hx hs => (hn2 x g' m' hx hs).elim (HE.out.2 x g' m' hx) (fun h => .inr (by have := HP5.out.t.size; omega))⟩)
            have hmk := HK6.out.1
            have hml : (mk.length : Int) ≤ 1000 := by
              have := HK6.out.2.1.len (grf_shut HN.out) hmk.nodup
              rw [grf_len] at this
              omega
            clear hT6 hS2 hk2 hx2 hn2 KC HP5
            go_wp2_with (at_range; refine wpList_range _ rfl _ 99 3 3 rfl Try.underlying99 g mk rfl hmk ?_; intro w7 hI7 hb7 hz7)
            obtain ⟨r, hr⟩ : ∃ r, r = w6.heap.size := ⟨_, rfl⟩
            rw [← hr] at hI7 ⊢
            have hrg : r ≠ g0 := fun e => by have := HG6.out.m.lt; omega
            have HRG := hid hrg
            have HRL := hid (show w.heap.size ≤ r ∧ K.w0.heap.size ≤ r from ⟨by have := HG6.out.t.size; omega, by have := HG6.out.s.bel.size; omega⟩)
            have HG7 := hid (HG6.out.next hb7)
            obtain ⟨wu, hwu⟩ : ∃ wu, wu = w7 := ⟨_, rfl⟩
            rw [← hwu] at hI7 HG7 ⊢
            clear hr hb7 hz7 hwu hmk hrg HG6
            go_frame
            go_loopw [] (fun wq => ∃ lft dn mq : ZMap, IsIter wq r g kZ vN mk lft ∧ Hid ((dn ++ lft).Perm mk) ∧ Hid (SetAdd (grf K.l) ((adj (grf K.l) i).take j) k dn c mq) ∧ Hid (OfG K S2 (opn O i) g0 mq w wq)) (fun wq => wq.rangeLeft g r)
            case atStart => exact ⟨mk, [], _, hI7, hid (List.Perm.refl _), HAD, HG7⟩
            case round =>
              clear hI7 HG7 HAD
              obtain ⟨lft, dn, mq, hI, HPM, HAD, HG7⟩ := hrel
              have HLL := hid hI.left_len
              go_wp2_with (first
                | (at_next; refine wpList_next _ rfl _ rfl r g mk lft rfl hI ?_ ?_))
              · intro hl0
                subst hl0
                have HI2 := hid (show SetIn (grf K.l) ((adj (grf K.l) i).take (j + 1)) (c + 1 + 1000) mq from by
                  rw [HTK.out]
                  exact HAD.out.done (by have := HPM.out; rwa [List.append_nil] at this) HK6.out.2.1 hml)
                have HC2 := hid (show ∀ x ∈ (adj (grf K.l) i).take (j + 1), Clean (grf K.l) x from fun x hx => by
                  rw [HTK.out] at hx
                  rcases List.mem_append.1 hx with hx | hx
                  · exact HI.out.2 x hx
                  · simp at hx; subst hx; exact HK6.out.2.1.clean)
                clear hI HPM HAD HLL HI HK6
                go_wp2_with fail
                go_roundw
                case rel => exact ⟨j + 1, c + 1 + 1000, S2, mq, by omega, by go_num, by omega, hid ⟨HI2.out, HC2.out⟩, HG7, HE6⟩
                case measure => simp [nOf]; omega
              · intro z n left' w8 hp hI2 hg2 hs2 hen
                simp only [kZ, vN] at hen
                have HPM2 := hid (show ((dn ++ [(z, n)]) ++ left').Perm mk from by
                  refine List.Perm.trans ?_ HPM.out
                  rw [List.append_assoc]
                  exact List.Perm.append_left dn hp.symm)
                have HLT := hid (show left'.length < lft.length from by have := hp.length_eq; simp at this; omega)
                have hdl : (dn.length : Int) ≤ 1000 := by
                  have := HPM.out.length_eq
                  rw [List.length_append] at this
                  omega
                have HG8 := hid (HG7.out.iter hI hg2 HRL.out.1 HRL.out.2)
                have hv := getD_bd (a := z) HAD.out.bd (Int.le_refl _) (by omega) (by omega)
                obtain ⟨v1, hv1⟩ : ∃ v1, v1 = (mget mq z).getD 0 := ⟨_, rfl⟩
                rw [← hv1] at hv
                have hA2 := HAD.out.next (by omega) z n
                rw [← hv1] at hA2
                have HA2 := hid hA2
                have lk2 : (Instr.lookup 99 (.map (some g0)) (.int .i64 z) false).run Try.prog w8 = .ok (.int .i64 v1) w8 := by
                  have := HG8.out.m.look keyZ12 Try.underlying99 (zeroN _) z
                  rw [looked_kZ, ← hv1] at this
                  exact this
                have HI2 := hid hI2
                clear hI hp hg2 hs2 hv1 hA2 hI2 HPM HAD HG7
                go_wp2_with (first
                  | (at_mapUpdate; refine wpList_store _ rfl _ _ _ 99 3 rfl keyZ12 Try.underlying99 g0 mq rfl HG8.out.m z (v1 + 1) rfl rfl ?_; intro w9 hM9 hg9 hs9))
                have HG9 := hid (HG8.out.put_ (Touch.of_grown hg9) hM9 (by rw [HG0.out]; exact Nat.le_refl _))
                have HI9 := hid (HI2.out.grown hg9 (fun e => HGK.out (by injection e)) (fun e => HRG.out (by injection e)))
                clear lk2 hM9 hg9 hs9 hen hv
                go_roundw
                case rel => exact ⟨_, _, _, _, _, _, _, _, _, ⟨left', _, _, HI9.out, HPM2, HA2, HG9⟩, rfl⟩
                case measure => rw [HI9.out.left_len, HLL.out]; exact HLT.out
        · have hjn : j = s.after.length := by omega
          have hall : (adj (grf K.l) i).take j = adj (grf K.l) i := List.take_of_length_le (by rw [HADJ.out, List.length_map]; omega)
          rw [hall] at HI
          have HSO := hid (HI.out.1.all HI.out.2)
          have HFO := hid (show ∀ x, O x = if x = i then false else opn O i x from fun x => by
            unfold opn
            by_cases e : x = i
            · rw [if_pos e, e]; exact HOI.out
            · rw [if_neg e, if_neg e])
          have HEND : Hid (∀ w', OfG K S' O g0 mm w w' → OfR K S O i w (.returned (.tuple #[.map (some g0), .bool true])) (w'.setCell ⟨K.Ds, i, none⟩ (.map (some g0)))) := hid (fun w' h =>
            ⟨h.t.then ((Touch.setCell w' K.Ds i _).mono (fun k hk => (.inl hk : SD K k))), .inr ⟨g0, mm, putS S' i g0 mm, rfl, h.s.put hi h.m HSO.out h.lo, putS_at _ _ _ _, fun x q hq => by
              unfold putS
              split
              · rename_i e; subst e; rw [HSI.out] at hq; cases hq
              · exact HE.out.1 x q hq, fun x g m hx hs => by
              unfold putS at hs
              split at hs
              · simp only [Option.some.injEq, Prod.mk.injEq] at hs
                right; rw [← hs.1, HG0.out]; exact Nat.le_refl _
              · exact HE.out.2 x g m hx hs⟩⟩)
          have hWn := HW.out.next (w' := wr.drew) (Below.refl _ _).drew
          clear hall HI hjn HE HSO
          go_upto_region 20 with fail
          obtain ⟨CB, hC0, hC1⟩ : ∃ CB : Bool → World → Prop, (∀ w', CB false w' ↔ OfG K S' (opn O i) g0 mm w w') ∧ (∀ w', CB true w' ↔ OfG K S' O g0 mm w w') :=
            ⟨fun b w' => match b with | false => OfG K S' (opn O i) g0 mm w w' | true => OfG K S' O g0 mm w w', fun _ => Iff.rfl, fun _ => Iff.rfl⟩
          obtain ⟨C, hCd⟩ : ∃ C : World → Prop, ∀ w', C w' ↔ ∃ b, CB b w' := ⟨_, fun _ => Iff.rfl⟩
          have HCC := hid (fun b w' (h : CB b w') => (hCd w').2 ⟨b, h⟩)
          have hC : CB false wr.drew := (hC0 _).2 hWn
          have hne : Nonempty (In C) := ⟨⟨wr.drew, HCC.out _ _ hC⟩⟩
          have hall : ∀ p : In C, ∃ O', OfG K S' O' g0 mm w p.w := fun p => by
            obtain ⟨b, hb⟩ := (hCd _).1 p.h
            cases b with
            | false => exact ⟨_, (hC0 _).1 hb⟩
            | true => exact ⟨_, (hC1 _).1 hb⟩
          have d3 : ∀ p : In C, p.w.cell? ⟨K.D, 3, none⟩ = some (.slice (some ⟨K.Ds, 0, none⟩) K.l.length K.l.length) := fun p => by obtain ⟨_, h⟩ := hall p; exact h.s.d.cell 3
          have d4 : ∀ p : In C, p.w.cell? ⟨K.D, 4, none⟩ = some (.slice (some ⟨K.Do, 0, none⟩) K.l.length K.l.length) := fun p => by obtain ⟨_, h⟩ := hall p; exact h.s.d.cell 4
          have ld : ∀ p : In C, K.D < p.w.heap.size := fun p => by obtain ⟨_, h⟩ := hall p; exact h.s.d.lt
          have HC0 := hid hC0
          have HC1 := hid hC1
          clear hC0 hC1 hCd hall hWn HW
          refine wp_region_turn CB 12 14 (by omega) (by kernel_rfl) (by kernel_rfl) hC ?_
          simp only [List.take_succ_cons, List.take_zero, List.drop_succ_cons, List.drop_zero]
          refine wpT_part C HCC.out 1 1 (by kernel_rfl) (by kernel_rfl) (by decide) ?_
          simp only [List.take_succ_cons, List.take_zero, List.drop_succ_cons, List.drop_zero]
          repeat (first | go_big_quiet_step (fail) | quiet_step (fail))
          refine wpQuiet_nil ?_
          refine wpT_call (by decide) (.pointer (some ⟨K.D, 0, none⟩)) (by kernel_rfl) (fun b' w' hb' => by go_simp; exact ⟨hb', rfl⟩) ?_
          refine wpT_part C HCC.out 4 6 (by kernel_rfl) (by kernel_rfl) (by decide) ?_
          simp only [List.take_succ_cons, List.take_zero, List.drop_succ_cons, List.drop_zero]
          repeat (first | go_big_quiet_step (fail) | quiet_step (fail))
          refine wpQuiet_nil ?_
          refine wpT_call (by decide) (.pointer (some ⟨K.D, 0, none⟩)) (by kernel_rfl) (fun b' w' hb' => by go_simp; exact ⟨hb', rfl⟩) ?_
          refine wpT_part C HCC.out 5 12 (by kernel_rfl) (by kernel_rfl) (by decide) ?_
          simp only [List.take_succ_cons, List.take_zero, List.drop_succ_cons, List.drop_zero]
          repeat (first | go_big_quiet_step (fail) | quiet_step (fail))
          refine wpQuiet_nil ?_
          refine wpT_turn undef (by kernel_rfl) (fun wp hwp => ?_) ?_
          · have hG := (HC0.out _).1 hwp
            have x1 : wp.cell? ⟨K.Do, i, none⟩ = some (.bool (opn O i i)) := by rw [hG.s.o.cell]; exact rngC_at _ hi
            have f1 := hG.s.o.free i
            have lg := hG.s.o.lt
            have K1 : CB true (wp.setCell ⟨K.Do, i, none⟩ (.bool false)) := (HC1.out _).2 ⟨hG.s.flip hi false HFO.out, (Touch.setCell wp K.Do i (.bool false)).isMap hG.m (fun e => hG.m.notBlk hG.s.o e), hG.t.then ((Touch.setCell wp K.Do i _).mono (fun k hk => (.inr hk : SD K k))), hG.own, hG.map, hG.lo⟩
            clear hG hwp
            go_simp
            exact ⟨K1, rfl⟩
          refine wpT_part C HCC.out 1 14 (by kernel_rfl) (by kernel_rfl) (by decide) ?_
          simp only [List.take_succ_cons, List.take_zero, List.drop_succ_cons, List.drop_zero]
          repeat (first | go_big_quiet_step (fail) | quiet_step (fail))
          refine wpQuiet_nil ?_
          refine wpT_nil ?_
          intro wq hq
          have hG := (HC1.out _).1 hq
          have x2 : wq.cell? ⟨K.Ds, i, none⟩ = some (setV (S' i)) := by rw [hG.s.s.cell]; exact rngC_at _ hi
          have f2 := hG.s.s.free i
          have lg := hG.s.s.lt
          have HZ := hid (HEND.out wq hG)
          clear hG hq d3 d4 ld hne HEND
          go_wp2_with fail
          go_ret2
          exact HZ.out

set_option maxRecDepth 100000 in
set_option maxHeartbeats 32000000 in
theorem of_any (K : OfK) (hR : Rd K.w0 K.A (K.l.flatMap enSt)) (hok : ∀ s ∈ K.l, OkSt K.w0 s) (hN : NamesOk K.l) (hl : K.l.length ≤ 1000) : ∀ (f i : Nat) (w : World) (S : Sets) (O : Nat → Bool), i < K.l.length → OfS K S O w → (∀ j, j < K.l.length → O j = true → Rch (grf K.l) j i) → shutN K.l.length O ≤ f →
    Calls Try.prog 45 #[.pointer (some ⟨K.D, 0, none⟩), .int .i64 (i : Int)] w (OfR K S O i w) := by
  have HOK := hid hok
  have HN := hid hN
  have HR := hid hR
  clear hok hN hR
  intro f
  induction f with
  | zero =>
    intro i w S O hi hS hO hf
    exact of_step K HR.out HOK.out HN.out hl 0 (fun _ _ _ _ h _ => absurd h (by simp)) i w S O hi hS hO hf
  | succ f ih =>
    intro i w S O hi hS hO hf
    exact of_step K HR.out HOK.out HN.out hl (f + 1) (fun i w S O _ hi hS hO hf => ih i w S O hi hS hO (by omega)) i w S O hi hS hO hf

end Go.Proofs.Ytemhoaapapeilaa
