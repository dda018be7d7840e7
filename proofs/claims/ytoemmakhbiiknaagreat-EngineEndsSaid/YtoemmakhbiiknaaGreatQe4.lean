/-
  What each step comes behind: (*behind).of of the program.
  slices.IndexFunc and slices.ContainsFunc over the steps of a definition and over names, with a closure that tests (its number and what it holds are letters).
  May a definition run: plainly; the test of what is not final (check.Check$1).
  The closure of a library function, laid at this program (the numbers as the kit's command told them). No condition.
  The closure of a library function, laid at this program (the numbers as the kit's command told them). No condition.
  Parts of a plan: slices.Clone of names and of numbers, plan.twin; slices.Sort and slices.Compact at numbers, told of a row that the call owns; rising lists.
-/
import Derived.Test.YtoemmakhbiiknaaGreatQe3
import Derived.WalkSpells
import Derived.Shelf.SlLaysM
import Derived.Test.YtoemmakhbiiknaaGreatProg
import Derived.Shelf.Lays2
import Derived.Shelf.SortM.Plain
import Derived.Shelf.SortM.SortNone
import Derived.Shelf.Slices.CompactI
import Derived.Lib.BufferMore
namespace Go.Proofs.YtoemmakhbiiknaaGreat
open Go.RowKit Go.WideShapes Go.ChangeShapes Go.ChangeAt Go.Deep
set_option linter.unusedVariables false

def kZ (n : Int) : Value := .int .i64 n
theorem keyZ12 : KeyLaw Tryz.prog 3 kZ := intKey Tryz.underlying3
theorem looked_kZ (m : ZMap) (a : Int) : looked (vN 0) vN m a = .int .i64 ((mget m a).getD 0) := by
  unfold looked
  cases mget m a <;> rfl
/-- What stays the same through all askings. -/
structure OfK where
  w0 : World
  D : Nat
  Ds : Nat
  Do : Nat
  M : Nat
  nm : ByteArray
  l : List Stp
  A : Option Addr
  cp : Nat
structure OfS (K : OfK) (S : Sets) (O : Nat → Bool) (w : World) : Prop where
  d : Blk w K.D 179 #[.string K.nm, .slice K.A K.l.length K.cp, .map (some K.M), .slice (some ⟨K.Ds, 0, none⟩) K.l.length K.l.length, .slice (some ⟨K.Do, 0, none⟩) K.l.length K.l.length]
  s : Blk w K.Ds 180 (rngC K.l.length fun j => setV (S j))
  o : Blk w K.Do 4 (rngC K.l.length fun j => .bool (O j))
  m : IsMap w K.M kS vN (mkN (K.l.map Stp.name) K.l.length)
  sets : ∀ i g mm, i < K.l.length → S i = some (g, mm) → IsMap w g kZ vN mm ∧ SetOk (grf K.l) i mm ∧ K.w0.heap.size ≤ g
  bel : Below K.w0.heap.size K.w0 w
  lo : K.w0.heap.size ≤ K.Ds ∧ K.w0.heap.size ≤ K.Do
section
variable {K : OfK} {S : Sets} {O : Nat → Bool} {w w' : World}
def SD (K : OfK) (k : Nat) : Prop := k = K.Ds ∨ k = K.Do
theorem OfS.nds (h : OfS K S O w) : K.D ≠ K.Ds := h.d.ne_ h.s (by decide)
theorem OfS.ndo (h : OfS K S O w) : K.D ≠ K.Do := h.d.ne_ h.o (by decide)
theorem OfS.nso (h : OfS K S O w) : K.Ds ≠ K.Do := h.s.ne_ h.o (by decide)
theorem OfS.far {T : Nat → Prop} (h : OfS K S O w) (hT : Touch T w w') (h1 : ¬ T K.D) (h2 : ¬ T K.Ds) (h3 : ¬ T K.Do) (h4 : ¬ T K.M) (h5 : ∀ i g mm, i < K.l.length → S i = some (g, mm) → ¬ T g) (h6 : ∀ k, T k → K.w0.heap.size ≤ k) : OfS K S O w' :=
  ⟨hT.blk h.d h1, hT.blk h.s h2, hT.blk h.o h3, hT.isMap h.m h4, fun i g mm hi hs => ⟨hT.isMap (h.sets i g mm hi hs).1 (h5 i g mm hi hs), (h.sets i g mm hi hs).2⟩, h.bel.trans (hT.below h.bel.size h6), h.lo⟩
theorem OfS.next (h : OfS K S O w) (hb : Below w.heap.size w w') : OfS K S O w' :=
  ⟨h.d.next hb, h.s.next hb, h.o.next hb, h.m.next hb, fun i g mm hi hs => ⟨(h.sets i g mm hi hs).1.next hb, (h.sets i g mm hi hs).2⟩, h.bel.trans (hb.mono h.bel.size), h.lo⟩
theorem OfS.flip {O' : Nat → Bool} (h : OfS K S O w) {i : Nat} (hi : i < K.l.length) (b : Bool) (hO : ∀ j, O' j = if j = i then b else O j) : OfS K S O' (w.setCell ⟨K.Do, i, none⟩ (.bool b)) := by
  have hT := Touch.setCell w K.Do i (.bool b)
  refine ⟨hT.blk h.d h.ndo, hT.blk h.s h.nso, ?_, hT.isMap h.m (fun e => h.m.notBlk h.o e), fun j g mm hj hs => ⟨hT.isMap (h.sets j g mm hj hs).1 (fun e => (h.sets j g mm hj hs).1.notBlk h.o e), (h.sets j g mm hj hs).2⟩, h.bel.trans (hT.below h.bel.size (fun k hk => by rw [hk]; exact h.lo.2)), h.lo⟩
  have h1 := h.o.set_ i (.bool b)
  rw [opnC_set hi] at h1
  have : (fun j => Value.bool (O' j)) = fun j => .bool (if j = i then b else O j) := by funext j; rw [hO j]
  rw [this]
  exact h1
theorem OfS.put (h : OfS K S O w) {i g : Nat} {mm : ZMap} (hi : i < K.l.length) (hM : IsMap w g kZ vN mm) (hk : SetOk (grf K.l) i mm) (hg : K.w0.heap.size ≤ g) : OfS K (putS S i g mm) O (w.setCell ⟨K.Ds, i, none⟩ (.map (some g))) := by
  have hT := Touch.setCell w K.Ds i (.map (some g))
  refine ⟨hT.blk h.d h.nds, ?_, hT.blk h.o (fun e => h.nso e.symm), hT.isMap h.m (fun e => h.m.notBlk h.s e), fun j g' mm' hj hs => ?_, h.bel.trans (hT.below h.bel.size (fun k hk => by rw [hk]; exact h.lo.1)), h.lo⟩
  · have h1 := h.s.set_ i (.map (some g))
    rw [setC_putS (mm := mm) hi] at h1
    exact h1
  · unfold putS at hs
    split at hs
    · rename_i e
      simp only [Option.some.injEq, Prod.mk.injEq] at hs
      obtain ⟨rfl, rfl⟩ := hs
      subst e
      exact ⟨hT.isMap hM (fun e => hM.notBlk h.s e), hk, hg⟩
    · exact ⟨hT.isMap (h.sets j g' mm' hj hs).1 (fun e => (h.sets j g' mm' hj hs).1.notBlk h.s e), (h.sets j g' mm' hj hs).2⟩
end
theorem IsIter.notMap {κ ν κ' ν' : Type} {w : World} {r B B' : Nat} {kE : κ → Value} {vE : ν → Value} {m left : List (κ × ν)} {kE' : κ' → Value} {vE' : ν' → Value} {m' : List (κ' × ν')} (h : IsIter w r B kE vE m left) (h' : IsMap w B' kE' vE' m') : r ≠ B' := by
  rintro rfl
  obtain ⟨es, clock, since, c0, seen, _, _, _, _, _, _, _, h8, _⟩ := h
  obtain ⟨_, _, h9, _⟩ := h'
  rw [h8] at h9
  cases h9
/-- What is known while step i's own set is gathered. -/
structure OfG (K : OfK) (S' : Sets) (O : Nat → Bool) (g0 : Nat) (mm : ZMap) (w wr : World) : Prop where
  s : OfS K S' O wr
  m : IsMap wr g0 kZ vN mm
  t : Touch (SD K) w wr
  own : ∀ j g m, j < K.l.length → S' j = some (g, m) → g ≠ g0
  map : K.M ≠ g0
  lo : K.w0.heap.size ≤ g0
theorem OfG.put_ {K : OfK} {S' : Sets} {O : Nat → Bool} {g0 : Nat} {mm mm' : ZMap} {w wr w' : World} (h : OfG K S' O g0 mm w wr) (hT : Touch (· = g0) wr w') (hM : IsMap w' g0 kZ vN mm') (hg : w.heap.size ≤ g0) : OfG K S' O g0 mm' w w' :=
  ⟨h.s.far hT (fun e => h.m.notBlk h.s.d e.symm) (fun e => h.m.notBlk h.s.s e.symm) (fun e => h.m.notBlk h.s.o e.symm) h.map (fun i g m hi hs e => h.own i g m hi hs e) (fun k hk => by rw [hk]; exact h.lo), hM, h.t.trans hT (fun k hk => .inr (by rw [hk]; exact hg)), h.own, h.map, h.lo⟩
theorem OfG.next {K : OfK} {S' : Sets} {O : Nat → Bool} {g0 : Nat} {mm : ZMap} {w wr w' : World} (h : OfG K S' O g0 mm w wr) (hb : Below wr.heap.size wr w') : OfG K S' O g0 mm w w' :=
  ⟨h.s.next hb, h.m.next hb, h.t.then (Touch.of_below hb), h.own, h.map, h.lo⟩
theorem OfG.asked {K : OfK} {S' S2 : Sets} {O : Nat → Bool} {g0 : Nat} {mm : ZMap} {w wr w' : World} (h : OfG K S' O g0 mm w wr) (hT : Touch (SD K) wr w') (hS : OfS K S2 O w') (hn : ∀ j g m, j < K.l.length → S2 j = some (g, m) → S' j = some (g, m) ∨ wr.heap.size ≤ g) : OfG K S2 O g0 mm w w' :=
  ⟨hS, hT.isMap h.m (fun e => e.elim (fun e => h.m.notBlk h.s.s e) (fun e => h.m.notBlk h.s.o e)), h.t.then hT, fun j g m hj hs e => (hn j g m hj hs).elim (fun h' => h.own j g m hj h' e) (fun h' => by have := h.m.lt; omega), h.map, h.lo⟩
theorem OfG.iter {K : OfK} {S' : Sets} {O : Nat → Bool} {g0 r B : Nat} {mm m left : ZMap} {w wr w' : World} (h : OfG K S' O g0 mm w wr) (hI : IsIter wr r B kZ vN m left) (hg : wr.grownBy w' (some r)) (hr : w.heap.size ≤ r) (hr0 : K.w0.heap.size ≤ r) : OfG K S' O g0 mm w w' :=
  have hT := Touch.of_grown hg
  ⟨h.s.far hT (fun e => hI.notBlk h.s.d e.symm) (fun e => hI.notBlk h.s.s e.symm) (fun e => hI.notBlk h.s.o e.symm) (fun e => hI.notMap h.s.m e.symm) (fun i g m hi hs e => hI.notMap (h.s.sets i g m hi hs).1 e.symm) (fun k hk => by rw [hk]; exact hr0), hT.isMap h.m (fun e => hI.notMap h.m e.symm), h.t.trans hT (fun k hk => .inr (by rw [hk]; exact hr)), h.own, h.map, h.lo⟩
/-- What an asking of step i leaves. -/
def OfR (K : OfK) (S : Sets) (O : Nat → Bool) (i : Nat) (w : World) (e : Ending) (w' : World) : Prop :=
  Touch (SD K) w w' ∧ (((∃ j, Rch (grf K.l) j j) ∧ e = .returned (.tuple #[.map none, .bool false])) ∨
    ∃ (g : Nat) (mm : ZMap) (S' : Sets), e = .returned (.tuple #[.map (some g), .bool true]) ∧ OfS K S' O w' ∧ S' i = some (g, mm) ∧ (∀ j q, S j = some q → S' j = some q) ∧ ∀ j g mm, j < K.l.length → S' j = some (g, mm) → S j = some (g, mm) ∨ w.heap.size ≤ g)

theorem neqMap12 (r : Option Nat) (w : World) : (binOp .neq 180 (.map r) (.map none)).run Tryz.prog w = .ok (.bool (!r.isNone)) w := run_neq_map_nil w _ _ _ r Tryz.underlying180

set_option maxRecDepth 100000 in
set_option maxHeartbeats 32000000 in
theorem of_step (K : OfK) (hR : Rd K.w0 K.A (K.l.flatMap enSt)) (hok : ∀ s ∈ K.l, OkSt K.w0 s) (hN : NamesOk K.l) (hl : K.l.length ≤ 1000) (f : Nat)
    (ih : ∀ (i : Nat) (w : World) (S : Sets) (O : Nat → Bool), f ≠ 0 → i < K.l.length → OfS K S O w → (∀ j, j < K.l.length → O j = true → Rch (grf K.l) j i) → shutN K.l.length O + 1 ≤ f →
      Calls Tryz.prog 90 #[.pointer (some ⟨K.D, 0, none⟩), .int .i64 (i : Int)] w (OfR K S O i w))
    (i : Nat) (w : World) (S : Sets) (O : Nat → Bool) (hi : i < K.l.length) (hS : OfS K S O w) (hO : ∀ j, j < K.l.length → O j = true → Rch (grf K.l) j i) (hf : shutN K.l.length O ≤ f) :
    Calls Tryz.prog 90 #[.pointer (some ⟨K.D, 0, none⟩), .int .i64 (i : Int)] w (OfR K S O i w) := by
  have HOK := hid hok
  have HN := hid hN
  have HR := hid hR
  have HIH := hid ih
  have HS := hid hS
  have HO := hid hO
  have HF := hid hf
  clear hok hN hR ih hS hO hf
  have hd3 : w.cell? ⟨K.D, 3, none⟩ = some (.slice (some ⟨K.Ds, 0, none⟩) K.l.length K.l.length) := HS.out.d.cell 3
  have hd4 : w.cell? ⟨K.D, 4, none⟩ = some (.slice (some ⟨K.Do, 0, none⟩) K.l.length K.l.length) := HS.out.d.cell 4
  have lD := HS.out.d.lt
  have cs : w.cell? ⟨K.Ds, i, none⟩ = some (setV (S i)) := by rw [HS.out.s.cell]; exact rngC_at _ hi
  have lDs := HS.out.s.lt
  have co : w.cell? ⟨K.Do, i, none⟩ = some (.bool (O i)) := by rw [HS.out.o.cell]; exact rngC_at _ hi
  have lDo := HS.out.o.lt
  cases hsi : S i with
  | some q =>
    obtain ⟨g, mm⟩ := q
    rw [hsi] at cs
    simp only [setV] at cs
    have hq := neqMap12 (some g)
    simp only [Option.isNone_some, Bool.not_false] at hq
    have HSI := hid hsi
    clear hsi
    go_enter Tryz.func90, Tryz.ntmps90
    go_wp2_with fail
    go_ret2
    exact ⟨Touch.refl _ _, .inr ⟨g, mm, S, rfl, HS.out, HSI.out, fun _ _ h => h, fun _ _ _ _ h => .inl h⟩⟩
  | none =>
    rw [hsi] at cs
    simp only [setV] at cs
    have hq := neqMap12 none
    simp only [Option.isNone_none, Bool.not_true] at hq
    have HSI := hid hsi
    clear hsi
    cases hoi : O i with
    | true =>
      rw [hoi] at co
      have HCY := hid (HO.out i hi hoi)
      clear hoi
      go_enter Tryz.func90, Tryz.ntmps90
      go_wp2_with fail
      go_ret2
      exact ⟨Touch.refl _ _, .inl ⟨⟨i, HCY.out⟩, rfl⟩⟩
    | false =>
      rw [hoi] at co
      have HOI := hid hoi
      have fo := HS.out.o.free i
      have hOp := HS.out.flip (O' := opn O i) hi true (fun _ => rfl)
      have hT1 := (Touch.setCell w K.Do i (.bool true)).mono (fun k hk => (.inr hk : SD K k))
      obtain ⟨W1, hW1⟩ : ∃ W1, W1 = w.setCell ⟨K.Do, i, none⟩ (.bool true) := ⟨_, rfl⟩
      have hsz : W1.heap.size = w.heap.size := by rw [hW1]; simp [World.setCell]
      rw [← hW1] at hOp hT1
      have hbA : Below W1.heap.size W1 (W1.alloc (.map #[] 0)) := (Below.refl _ _).alloc (Nat.le_refl _) _
      have hM0 := IsMap.made W1 kZ vN
      rw [hsz] at hM0
      have hmm := @run_makeMap Tryz.prog
      obtain ⟨s, hs⟩ : ∃ s, K.l[i]? = some s := ⟨K.l[i], List.getElem?_eq_getElem hi⟩
      have HSK := hid hs
      have HSL := hid (show ∀ w' : World, Below K.w0.heap.size K.w0 w' → ∃ (b o : Nat), K.A = some ⟨b, o, none⟩ ∧ (w'.cell? ⟨b, o + i * 9 + 8, none⟩ = some (.slice s.A s.after.length s.cap)) from fun w' hb => by
        obtain ⟨b, o, hA, _, hc⟩ := (HR.out.below hb).at_ 9 enSt_len (by omega) hs
        exact ⟨b, o, hA, hc 8 _ rfl⟩)
      have hlen := (HOK.out s (List.mem_of_getElem? hs)).len
      have HROW := hid (HOK.out s (List.mem_of_getElem? hs)).row
      have HADJ := hid (grf_adj hs)
      have HAF := hid (fun a (ha : a ∈ s.after) => HN.out.2 s (List.mem_of_getElem? hs) a ha)
      clear hs
      have HW := hid (And.intro (hOp.next hbA) (And.intro hM0 (hT1.then (Touch.of_below hbA))))
      obtain ⟨W, hWd⟩ : ∃ W, W = W1.alloc (.map #[] 0) := ⟨_, rfl⟩
      rw [← hWd] at HW
      have x1 : W.cell? ⟨K.D, 1, none⟩ = some (.slice K.A K.l.length K.cp) := HW.out.1.d.cell 1
      have lD' := HW.out.1.d.lt
      obtain ⟨b, o, hAA, q8⟩ := HSL.out _ HW.out.1.bel
      have HSZ := hid hsz
      obtain ⟨g0, hg0⟩ : ∃ g0, g0 = w.heap.size := ⟨_, rfl⟩
      rw [← hg0] at HW
      have HG0 := hid hg0
      clear hOp hT1 hbA hM0 hoi
      rw [hAA] at x1
      rw [hWd, hW1] at x1 lD' q8
      go_enter Tryz.func90, Tryz.ntmps90
      go_wp2_with fail
      clear x1 lD' q8 hd3 hd4 lD cs lDs co lDo fo hq hmm
      rw [← hW1, ← hWd]
      rw [← hg0]
      clear hWd hW1 hg0 HSZ hsz HSL
      try clear W1
      have H0 : Hid (SetIn (grf K.l) ((adj (grf K.l) i).take 0) 0 []) := hid (by rw [List.take_zero]; exact SetIn.nil _)
      have hn1 : (K.l.length : Int) ≤ 1000 := by omega
      go_loopw [52] (fun v wr => ∃ (j c : Nat) (S' : Sets) (mm : ZMap), j ≤ s.after.length ∧ v = .int .i64 j ∧ c ≤ j * 1001 ∧ Hid (SetIn (grf K.l) ((adj (grf K.l) i).take j) c mm ∧ ∀ x ∈ (adj (grf K.l) i).take j, Clean (grf K.l) x) ∧ Hid (OfG K S' (opn O i) g0 mm w wr) ∧ Hid ((∀ j q, S j = some q → S' j = some q) ∧ ∀ j g mm, j < K.l.length → S' j = some (g, mm) → S j = some (g, mm) ∨ w.heap.size ≤ g)) (fun v _ => s.after.length - nOf v)
      case atStart => exact ⟨0, 0, S, [], Nat.zero_le _, rfl, by omega, hid ⟨H0.out, fun x hx => by simp at hx⟩, hid ⟨HW.out.1, HW.out.2.1, HW.out.2.2, fun j g m hj hs e => by have := (HS.out.sets j g m hj hs).1.lt; have := HG0.out; omega, fun e => by have := HS.out.m.lt; have := HG0.out; omega, by have := HS.out.bel.size; have := HG0.out; omega⟩, hid ⟨fun _ _ h => h, fun _ _ _ _ h => .inl h⟩⟩
      case round =>
        clear HW H0
        obtain ⟨j, c, S', mm, hj, rfl, hc, HI, HW, HE⟩ := hrel
        by_cases hjl : j < s.after.length
        · obtain ⟨a, ha⟩ : ∃ a, s.after[j]? = some a := ⟨s.after[j], List.getElem?_eq_getElem hjl⟩
          obtain ⟨k, hk⟩ : ∃ k, k = K.l.findIdx (isNm a) := ⟨_, rfl⟩
          have hin := HAF.out a (List.mem_of_getElem? ha)
          have hkl : k < K.l.length := by
            obtain ⟨_, _, _, h⟩ := HN.out.idx hin
            rw [hk]; exact h
          have hka : (adj (grf K.l) i)[j]? = some k := by rw [HADJ.out, List.getElem?_map, ha, hk]; rfl
          have HTK := hid (take_succ_of hka)
          have HKM := hid (List.mem_of_getElem? hka)
          obtain ⟨b2, o2, hA2, _, hc2⟩ := (HROW.out.below HW.out.s.bel).at_ 1 enB_len (by omega) ha
          have q0 : wr.cell? ⟨b2, o2 + j * 1, none⟩ = some (.string a) := hc2 0 _ rfl
          rw [Nat.mul_one] at q0
          have d2 : wr.cell? ⟨K.D, 2, none⟩ = some (.map (some K.M)) := HW.out.s.d.cell 2
          have lD := HW.out.s.d.lt
          have lk : (Instr.lookup 147 (.map (some K.M)) (.string a) false).run Tryz.prog wr = .ok (.int .i64 (k : Int)) wr := by
            have := HW.out.s.m.look keyStr12 Tryz.underlying147 (zeroN _) a
            unfold looked at this
            rw [mkN_idx HN.out hin, ← hk] at this
            exact this
          have hv := getD_bd (a := (k : Int)) HI.out.1.bd (Int.le_refl _) (by omega) (by omega)
          obtain ⟨v0, hv0⟩ : ∃ v0, v0 = (mget mm (k : Int)).getD 0 := ⟨_, rfl⟩
          rw [← hv0] at hv
          have HV0 := hid hv0
          have lk2 : (Instr.lookup 180 (.map (some g0)) (.int .i64 (k : Int)) false).run Tryz.prog wr = .ok (.int .i64 v0) wr := by
            have := HW.out.m.look keyZ12 Tryz.underlying180 (zeroN _) (k : Int)
            rw [looked_kZ, ← hv0] at this
            exact this
          clear hc2 ha hk hin hka hv0
          generalize s.A = sA at HROW hA2
          subst hA2
          go_wp2_with (first
            | (at_mapUpdate; refine wpList_store _ rfl _ _ _ 180 3 rfl keyZ12 Tryz.underlying180 g0 mm rfl HW.out.m (k : Int) (v0 + 1) rfl rfl ?_; intro w5 hM5 hg5 hs5))
          have HP5 := hid (HW.out.put_ (Touch.of_grown hg5) hM5 (by rw [HG0.out]; exact Nat.le_refl _))
          have hA0 := HI.out.1.start (by omega) k
          rw [← HV0.out] at hA0
          have HAD := hid hA0
          have hfl := shutN_lt hi HOI.out
          have hf0 := HF.out
          have KC := hid (HIH.out k w5 S' (opn O i) (by omega) hkl HP5.out.s (fun x hx ho => by
            unfold opn at ho
            split at ho
            · rename_i e; subst e; exact .one HKM.out
            · exact (HO.out x hx ho).trans (.one HKM.out)) (by omega))
          clear q0 d2 lD lk lk2 hM5 hg5 hs5 hA0 hfl hf0 hv
          refine KC.out.mono ?_
          rintro e w6 ⟨hT6, h6⟩
          rcases h6 with ⟨hcy, rfl⟩ | ⟨g, mk, S2, rfl, hS2, hk2, hx2, hn2⟩
          · have HR6 := hid (And.intro (HP5.out.t.then hT6) hcy)
            clear hT6 hcy KC
            go_wp2_with fail
            go_ret2
            exact ⟨HR6.out.1, .inl ⟨HR6.out.2, rfl⟩⟩
          · have HG6 := hid (HP5.out.asked hT6 hS2 hn2)
            have HK6 := hid (hS2.sets k g mk hkl hk2)
            have HGK := hid (show g ≠ g0 from HG6.out.own k g mk hkl hk2)
            have HE6 := hid (show (∀ j q, S j = some q → S2 j = some q) ∧ ∀ j g mm, j < K.l.length → S2 j = some (g, mm) → S j = some (g, mm) ∨ w.heap.size ≤ g from
              ⟨fun x q hq => hx2 x q (HE.out.1 x q hq), fun x g' m' hx hs => (hn2 x g' m' hx hs).elim (HE.out.2 x g' m' hx) (fun h => .inr (by have := HP5.out.t.size; omega))⟩)
            have hmk := HK6.out.1
            have hml : (mk.length : Int) ≤ 1000 := by
              have := HK6.out.2.1.len (grf_shut HN.out) hmk.nodup
              rw [grf_len] at this
              omega
            clear hT6 hS2 hk2 hx2 hn2 KC HP5
            go_wp2_with (at_range; refine wpList_range _ rfl _ 180 3 3 rfl Tryz.underlying180 g mk rfl hmk ?_; intro w7 hI7 hb7 hz7)
            obtain ⟨r, hr⟩ : ∃ r, r = w6.heap.size := ⟨_, rfl⟩
            rw [← hr] at hI7 ⊢
            have hrg : r ≠ g0 := fun e => by have := HG6.out.m.lt; omega
            have HRG := hid hrg
            have HRL := hid (show w.heap.size ≤ r ∧ K.w0.heap.size ≤ r from ⟨by have := HG6.out.t.size; omega, by have := HG6.out.s.bel.size; omega⟩)
            have HG7 := hid (HG6.out.next hb7)
            obtain ⟨wu, hwu⟩ : ∃ wu, wu = w7 := ⟨_, rfl⟩
            rw [← hwu] at hI7 HG7 ⊢
            clear hr hb7 hz7 hwu hmk hrg HG6
            go_frame
            go_loopw [] (fun wq => ∃ lft dn mq : ZMap, IsIter wq r g kZ vN mk lft ∧ Hid ((dn ++ lft).Perm mk) ∧ Hid (SetAdd (grf K.l) ((adj (grf K.l) i).take j) k dn c mq) ∧ Hid (OfG K S2 (opn O i) g0 mq w wq)) (fun wq => wq.rangeLeft g r)
            case atStart => exact ⟨mk, [], _, hI7, hid (List.Perm.refl _), HAD, HG7⟩
            case round =>
              clear hI7 HG7 HAD
              obtain ⟨lft, dn, mq, hI, HPM, HAD, HG7⟩ := hrel
              have HLL := hid hI.left_len
              go_wp2_with (first
                | (at_next; refine wpList_next _ rfl _ rfl r g mk lft rfl hI ?_ ?_))
              · intro hl0
                subst hl0
                have HI2 := hid (show SetIn (grf K.l) ((adj (grf K.l) i).take (j + 1)) (c + 1 + 1000) mq from by
                  rw [HTK.out]
                  exact HAD.out.done (by have := HPM.out; rwa [List.append_nil] at this) HK6.out.2.1 hml)
                have HC2 := hid (show ∀ x ∈ (adj (grf K.l) i).take (j + 1), Clean (grf K.l) x from fun x hx => by
                  rw [HTK.out] at hx
                  rcases List.mem_append.1 hx with hx | hx
                  · exact HI.out.2 x hx
                  · simp at hx; subst hx; exact HK6.out.2.1.clean)
                clear hI HPM HAD HLL HI HK6
                go_wp2_with fail
                go_roundw
                case rel => exact ⟨j + 1, c + 1 + 1000, S2, mq, by omega, by go_num, by omega, hid ⟨HI2.out, HC2.out⟩, HG7, HE6⟩
                case measure => simp [nOf]; omega
              · intro z n left' w8 hp hI2 hg2 hs2 hen
                simp only [kZ, vN] at hen
                have HPM2 := hid (show ((dn ++ [(z, n)]) ++ left').Perm mk from by
                  refine List.Perm.trans ?_ HPM.out
                  rw [List.append_assoc]
                  exact List.Perm.append_left dn hp.symm)
                have HLT := hid (show left'.length < lft.length from by have := hp.length_eq; simp at this; omega)
                have hdl : (dn.length : Int) ≤ 1000 := by
                  have := HPM.out.length_eq
                  rw [List.length_append] at this
                  omega
                have HG8 := hid (HG7.out.iter hI hg2 HRL.out.1 HRL.out.2)
                have hv := getD_bd (a := z) HAD.out.bd (Int.le_refl _) (by omega) (by omega)
                obtain ⟨v1, hv1⟩ : ∃ v1, v1 = (mget mq z).getD 0 := ⟨_, rfl⟩
                rw [← hv1] at hv
                have hA2 := HAD.out.next (by omega) z n
                rw [← hv1] at hA2
                have HA2 := hid hA2
                have lk2 : (Instr.lookup 180 (.map (some g0)) (.int .i64 z) false).run Tryz.prog w8 = .ok (.int .i64 v1) w8 := by
                  have := HG8.out.m.look keyZ12 Tryz.underlying180 (zeroN _) z
                  rw [looked_kZ, ← hv1] at this
                  exact this
                have HI2 := hid hI2
                clear hI hp hg2 hs2 hv1 hA2 hI2 HPM HAD HG7
                go_wp2_with (first
                  | (at_mapUpdate; refine wpList_store _ rfl _ _ _ 180 3 rfl keyZ12 Tryz.underlying180 g0 mq rfl HG8.out.m z (v1 + 1) rfl rfl ?_; intro w9 hM9 hg9 hs9))
                have HG9 := hid (HG8.out.put_ (Touch.of_grown hg9) hM9 (by rw [HG0.out]; exact Nat.le_refl _))
                have HI9 := hid (HI2.out.grown hg9 (fun e => HGK.out (by injection e)) (fun e => HRG.out (by injection e)))
                clear lk2 hM9 hg9 hs9 hen hv
                go_roundw
                case rel => exact ⟨_, _, _, _, _, _, _, _, _, ⟨left', _, _, HI9.out, HPM2, HA2, HG9⟩, rfl⟩
                case measure => rw [HI9.out.left_len, HLL.out]; exact HLT.out
        · have hjn : j = s.after.length := by omega
          have hall : (adj (grf K.l) i).take j = adj (grf K.l) i := List.take_of_length_le (by rw [HADJ.out, List.length_map]; omega)
          rw [hall] at HI
          have HSO := hid (HI.out.1.all HI.out.2)
          have HFO := hid (show ∀ x, O x = if x = i then false else opn O i x from fun x => by
            unfold opn
            by_cases e : x = i
            · rw [if_pos e, e]; exact HOI.out
            · rw [if_neg e, if_neg e])
          have HEND : Hid (∀ w', OfG K S' O g0 mm w w' → OfR K S O i w (.returned (.tuple #[.map (some g0), .bool true])) (w'.setCell ⟨K.Ds, i, none⟩ (.map (some g0)))) := hid (fun w' h =>
            ⟨h.t.then ((Touch.setCell w' K.Ds i _).mono (fun k hk => (.inl hk : SD K k))), .inr ⟨g0, mm, putS S' i g0 mm, rfl, h.s.put hi h.m HSO.out h.lo, putS_at _ _ _ _, fun x q hq => by
              unfold putS
              split
              · rename_i e; subst e; rw [HSI.out] at hq; cases hq
              · exact HE.out.1 x q hq, fun x g m hx hs => by
              unfold putS at hs
              split at hs
              · simp only [Option.some.injEq, Prod.mk.injEq] at hs
                right; rw [← hs.1, HG0.out]; exact Nat.le_refl _
              · exact HE.out.2 x g m hx hs⟩⟩)
          have hWn := HW.out.next (w' := wr.drew) (Below.refl _ _).drew
          clear hall HI hjn HE HSO
          go_upto_region 20 with fail
          obtain ⟨CB, hC0, hC1⟩ : ∃ CB : Bool → World → Prop, (∀ w', CB false w' ↔ OfG K S' (opn O i) g0 mm w w') ∧ (∀ w', CB true w' ↔ OfG K S' O g0 mm w w') :=
            ⟨fun b w' => match b with | false => OfG K S' (opn O i) g0 mm w w' | true => OfG K S' O g0 mm w w', fun _ => Iff.rfl, fun _ => Iff.rfl⟩
          obtain ⟨C, hCd⟩ : ∃ C : World → Prop, ∀ w', C w' ↔ ∃ b, CB b w' := ⟨_, fun _ => Iff.rfl⟩
          have HCC := hid (fun b w' (h : CB b w') => (hCd w').2 ⟨b, h⟩)
          have hC : CB false wr.drew := (hC0 _).2 hWn
          have hne : Nonempty (In C) := ⟨⟨wr.drew, HCC.out _ _ hC⟩⟩
          have hall : ∀ p : In C, ∃ O', OfG K S' O' g0 mm w p.w := fun p => by
            obtain ⟨b, hb⟩ := (hCd _).1 p.h
            cases b with
            | false => exact ⟨_, (hC0 _).1 hb⟩
            | true => exact ⟨_, (hC1 _).1 hb⟩
          have d3 : ∀ p : In C, p.w.cell? ⟨K.D, 3, none⟩ = some (.slice (some ⟨K.Ds, 0, none⟩) K.l.length K.l.length) := fun p => by obtain ⟨_, h⟩ := hall p; exact h.s.d.cell 3
          have d4 : ∀ p : In C, p.w.cell? ⟨K.D, 4, none⟩ = some (.slice (some ⟨K.Do, 0, none⟩) K.l.length K.l.length) := fun p => by obtain ⟨_, h⟩ := hall p; exact h.s.d.cell 4
          have ld : ∀ p : In C, K.D < p.w.heap.size := fun p => by obtain ⟨_, h⟩ := hall p; exact h.s.d.lt
          have HC0 := hid hC0
          have HC1 := hid hC1
          clear hC0 hC1 hCd hall hWn HW
          refine wp_region_turn CB 12 14 (by omega) (by kernel_rfl) (by kernel_rfl) hC ?_
          simp only [List.take_succ_cons, List.take_zero, List.drop_succ_cons, List.drop_zero]
          refine wpT_part C HCC.out 1 1 (by kernel_rfl) (by kernel_rfl) (by decide) ?_
          simp only [List.take_succ_cons, List.take_zero, List.drop_succ_cons, List.drop_zero]
          repeat (first | go_big_quiet_step (fail) | quiet_step (fail))
          refine wpQuiet_nil ?_
          refine wpT_call (by decide) (.pointer (some ⟨K.D, 0, none⟩)) (by kernel_rfl) (fun b' w' hb' => by go_simp; exact ⟨hb', rfl⟩) ?_
          refine wpT_part C HCC.out 4 6 (by kernel_rfl) (by kernel_rfl) (by decide) ?_
          simp only [List.take_succ_cons, List.take_zero, List.drop_succ_cons, List.drop_zero]
          repeat (first | go_big_quiet_step (fail) | quiet_step (fail))
          refine wpQuiet_nil ?_
          refine wpT_call (by decide) (.pointer (some ⟨K.D, 0, none⟩)) (by kernel_rfl) (fun b' w' hb' => by go_simp; exact ⟨hb', rfl⟩) ?_
          refine wpT_part C HCC.out 5 12 (by kernel_rfl) (by kernel_rfl) (by decide) ?_
          simp only [List.take_succ_cons, List.take_zero, List.drop_succ_cons, List.drop_zero]
          repeat (first | go_big_quiet_step (fail) | quiet_step (fail))
          refine wpQuiet_nil ?_
          refine wpT_turn undef (by kernel_rfl) (fun wp hwp => ?_) ?_
          · have hG := (HC0.out _).1 hwp
            have x1 : wp.cell? ⟨K.Do, i, none⟩ = some (.bool (opn O i i)) := by rw [hG.s.o.cell]; exact rngC_at _ hi
            have f1 := hG.s.o.free i
            have lg := hG.s.o.lt
            have K1 : CB true (wp.setCell ⟨K.Do, i, none⟩ (.bool false)) := (HC1.out _).2 ⟨hG.s.flip hi false HFO.out, (Touch.setCell wp K.Do i (.bool false)).isMap hG.m (fun e => hG.m.notBlk hG.s.o e), hG.t.then ((Touch.setCell wp K.Do i _).mono (fun k hk => (.inr hk : SD K k))), hG.own, hG.map, hG.lo⟩
            clear hG hwp
            go_simp
            exact ⟨K1, rfl⟩
          refine wpT_part C HCC.out 1 14 (by kernel_rfl) (by kernel_rfl) (by decide) ?_
          simp only [List.take_succ_cons, List.take_zero, List.drop_succ_cons, List.drop_zero]
          repeat (first | go_big_quiet_step (fail) | quiet_step (fail))
          refine wpQuiet_nil ?_
          refine wpT_nil ?_
          intro wq hq
          have hG := (HC1.out _).1 hq
          have x2 : wq.cell? ⟨K.Ds, i, none⟩ = some (setV (S' i)) := by rw [hG.s.s.cell]; exact rngC_at _ hi
          have f2 := hG.s.s.free i
          have lg := hG.s.s.lt
          have HZ := hid (HEND.out wq hG)
          clear hG hq d3 d4 ld hne HEND
          go_wp2_with fail
          go_ret2
          exact HZ.out

set_option maxRecDepth 100000 in
set_option maxHeartbeats 32000000 in
theorem of_any (K : OfK) (hR : Rd K.w0 K.A (K.l.flatMap enSt)) (hok : ∀ s ∈ K.l, OkSt K.w0 s) (hN : NamesOk K.l) (hl : K.l.length ≤ 1000) : ∀ (f i : Nat) (w : World) (S : Sets) (O : Nat → Bool), i < K.l.length → OfS K S O w → (∀ j, j < K.l.length → O j = true → Rch (grf K.l) j i) → shutN K.l.length O ≤ f →
    Calls Tryz.prog 90 #[.pointer (some ⟨K.D, 0, none⟩), .int .i64 (i : Int)] w (OfR K S O i w) := by
  have HOK := hid hok
  have HN := hid hN
  have HR := hid hR
  clear hok hN hR
  intro f
  induction f with
  | zero =>
    intro i w S O hi hS hO hf
    exact of_step K HR.out HOK.out HN.out hl 0 (fun _ _ _ _ h _ => absurd h (by simp)) i w S O hi hS hO hf
  | succ f ih =>
    intro i w S O hi hS hO hf
    exact of_step K HR.out HOK.out HN.out hl (f + 1) (fun i w S O _ hi hS hO hf => ih i w S O hi hS hO (by omega)) i w S O hi hS hO hf

end Go.Proofs.YtoemmakhbiiknaaGreat

namespace Go.Proofs.YtoemmakhbiiknaaGreat
open Go.RowKit Go.WideShapes Go.ChangeShapes Go.ChangeAt Go.Deep
set_option linter.unusedVariables false

theorem has_plcS {α : Type} (p : α → Bool) (l : List α) : l.any p = decide (0 ≤ plc p l) := by
  rcases plc_cases p l with ⟨k, y, hk, hy, hp, he⟩ | ⟨hn, he⟩
  · rw [he, List.any_eq_true.2 ⟨y, List.mem_of_getElem? hy, hp⟩]
    simp
  · rw [he]
    cases h : l.any p with
    | false => rfl
    | true =>
      obtain ⟨y, hy, hp⟩ := List.any_eq_true.1 h
      rw [hn y hy] at hp
      cases hp

/-- What a test tells of each, at every world from w on. -/
def TestsS1 (N : FuncId) (v0 : Value) (p : Stp → Bool) (l : List Stp) (w : World) : Prop := ∀ x ∈ l, ∀ w', Below w.heap.size w w' → Calls Tryz.prog N #[.agg (enSt x).toArray, v0] w' fun e w'' => e = .returned (.bool (p x)) ∧ Below w'.heap.size w' w''

set_option maxRecDepth 100000 in
set_option maxHeartbeats 8000000 in
theorem indexS1_any (l : List Stp) (A : Option Addr) (cap : Nat) (N : FuncId) (v0 : Value) (p : Stp → Bool) (w : World) (hR : Rd w A (l.flatMap enSt)) (hl : l.length ≤ 140737488355328) (hN : ∀ (args : Array Value) (w : World), (callFunc N args).run Tryz.prog w = .ok (.enter N args) w) (hT : TestsS1 N v0 p l w) :
    Calls Tryz.prog 62 #[.slice A l.length cap, .func (.func N) #[] #[v0]] w fun e w' => e = .returned (.int .i64 (plc p l)) ∧ Below w.heap.size w w' := by
  have HT := hid hT
  clear hT
  go_enter Tryz.func62, Tryz.ntmps62
  go_wp2_with fail
  go_loopw [8] (fun i wr => ∃ k : Nat, k ≤ l.length ∧ i = .int .i64 k ∧ Hid (∀ j y, j < k → l[j]? = some y → p y = false) ∧ Below w.heap.size w wr) (fun i _ => l.length - nOf i)
  case atStart => exact ⟨0, Nat.zero_le _, rfl, hid (fun j y hj => by omega), Below.refl _ _⟩
  case round =>
    obtain ⟨k, hk, rfl, hP, hb⟩ := hrel
    by_cases hlt : k < l.length
    · obtain ⟨y, hy⟩ : ∃ y, l[k]? = some y := ⟨l[k], List.getElem?_eq_getElem hlt⟩
      obtain ⟨b, off, rfl, hbs, hcc⟩ := (hR.below hb).at_ 9 enSt_len (by omega) hy
      have K := hid (HT.out y (List.mem_of_getElem? hy) wr hb)
      have HY := hid hy
      have HPY := hid (show ∀ b, p y = b → p y = b from fun _ h => h)
      generalize hpy : p y = py at K
      have HPP := hid hpy
      clear hpy HPY
      obtain ⟨xn, xv, xu, xe, xf, xr, xy, xw, xA, xc, xl⟩ := y
      have q0 : wr.cell? ⟨b, off + k * 9, none⟩ = some (.string xn) := hcc 0 _ rfl
      have q1 : wr.cell? ⟨b, off + k * 9 + 1, none⟩ = some (.string xv) := hcc 1 _ rfl
      have q2 : wr.cell? ⟨b, off + k * 9 + 2, none⟩ = some (.string xu) := hcc 2 _ rfl
      have q3 : wr.cell? ⟨b, off + k * 9 + 3, none⟩ = some (.string xe) := hcc 3 _ rfl
      have q4 : wr.cell? ⟨b, off + k * 9 + 4, none⟩ = some (.bool xf) := hcc 4 _ rfl
      have q5 : wr.cell? ⟨b, off + k * 9 + 5, none⟩ = some (.int .i64 xr) := hcc 5 _ rfl
      have q6 : wr.cell? ⟨b, off + k * 9 + 6, none⟩ = some (.int .i64 xy) := hcc 6 _ rfl
      have q7 : wr.cell? ⟨b, off + k * 9 + 7, none⟩ = some (.int .i64 xw) := hcc 7 _ rfl
      have q8 : wr.cell? ⟨b, off + k * 9 + 8, none⟩ = some (.slice xA xl.length xc) := hcc 8 _ rfl
      have K2 : Hid (Calls Tryz.prog N #[.agg #[.string xn, .string xv, .string xu, .string xe, .bool xf, .int .i64 xr, .int .i64 xy, .int .i64 xw, .slice xA xl.length xc], v0] wr fun e w'' => e = .returned (.bool py) ∧ Below wr.heap.size wr w'') := K
      clear K
      clear hcc hy
      cases py with
      | true =>
        have HV := hid (plc_some (p := p) HY.out HPP.out hP.out)
        go_wp2_with fail
        refine K2.out.mono ?_
        rintro e w5 ⟨rfl, hb5⟩
        go_wp2_with fail
        go_ret
        rw [HV.out]
        exact ⟨rfl, bthen hb hb5⟩
      | false =>
        go_wp2_with fail
        refine K2.out.mono ?_
        rintro e w5 ⟨rfl, hb5⟩
        go_wp2_with fail
        go_roundw
        case rel => exact ⟨k + 1, by omega, by go_num, hid (fun j z hj hz => by
          by_cases e : j = k
          · subst e; rw [HY.out] at hz; injection hz with hz; subst hz; exact HPP.out
          · exact hP.out j z (by omega) hz), bthen hb hb5⟩
        case measure => simp [nOf]; omega
    · have HV := hid (plc_none (p := p) (l := l) (fun y hy => by
        obtain ⟨j, hj⟩ := List.mem_iff_getElem?.1 hy
        exact hP.out j y (by have := (List.getElem?_eq_some_iff.1 hj).1; omega) hj))
      clear hP hk
      go_wp2_with fail
      go_ret
      rw [HV.out]
      exact ⟨rfl, hb⟩

/-- What a test tells of each, at every world from w on. -/
def TestsS3 (N : FuncId) (v0 v1 v2 : Value) (p : Stp → Bool) (l : List Stp) (w : World) : Prop := ∀ x ∈ l, ∀ w', Below w.heap.size w w' → Calls Tryz.prog N #[.agg (enSt x).toArray, v0, v1, v2] w' fun e w'' => e = .returned (.bool (p x)) ∧ Below w'.heap.size w' w''

set_option maxRecDepth 100000 in
set_option maxHeartbeats 8000000 in
theorem indexS3_any (l : List Stp) (A : Option Addr) (cap : Nat) (N : FuncId) (v0 v1 v2 : Value) (p : Stp → Bool) (w : World) (hR : Rd w A (l.flatMap enSt)) (hl : l.length ≤ 140737488355328) (hN : ∀ (args : Array Value) (w : World), (callFunc N args).run Tryz.prog w = .ok (.enter N args) w) (hT : TestsS3 N v0 v1 v2 p l w) :
    Calls Tryz.prog 62 #[.slice A l.length cap, .func (.func N) #[] #[v0, v1, v2]] w fun e w' => e = .returned (.int .i64 (plc p l)) ∧ Below w.heap.size w w' := by
  have HT := hid hT
  clear hT
  go_enter Tryz.func62, Tryz.ntmps62
  go_wp2_with fail
  go_loopw [8] (fun i wr => ∃ k : Nat, k ≤ l.length ∧ i = .int .i64 k ∧ Hid (∀ j y, j < k → l[j]? = some y → p y = false) ∧ Below w.heap.size w wr) (fun i _ => l.length - nOf i)
  case atStart => exact ⟨0, Nat.zero_le _, rfl, hid (fun j y hj => by omega), Below.refl _ _⟩
  case round =>
    obtain ⟨k, hk, rfl, hP, hb⟩ := hrel
    by_cases hlt : k < l.length
    · obtain ⟨y, hy⟩ : ∃ y, l[k]? = some y := ⟨l[k], List.getElem?_eq_getElem hlt⟩
      obtain ⟨b, off, rfl, hbs, hcc⟩ := (hR.below hb).at_ 9 enSt_len (by omega) hy
      have K := hid (HT.out y (List.mem_of_getElem? hy) wr hb)
      have HY := hid hy
      have HPY := hid (show ∀ b, p y = b → p y = b from fun _ h => h)
      generalize hpy : p y = py at K
      have HPP := hid hpy
      clear hpy HPY
      obtain ⟨xn, xv, xu, xe, xf, xr, xy, xw, xA, xc, xl⟩ := y
      have q0 : wr.cell? ⟨b, off + k * 9, none⟩ = some (.string xn) := hcc 0 _ rfl
      have q1 : wr.cell? ⟨b, off + k * 9 + 1, none⟩ = some (.string xv) := hcc 1 _ rfl
      have q2 : wr.cell? ⟨b, off + k * 9 + 2, none⟩ = some (.string xu) := hcc 2 _ rfl
      have q3 : wr.cell? ⟨b, off + k * 9 + 3, none⟩ = some (.string xe) := hcc 3 _ rfl
      have q4 : wr.cell? ⟨b, off + k * 9 + 4, none⟩ = some (.bool xf) := hcc 4 _ rfl
      have q5 : wr.cell? ⟨b, off + k * 9 + 5, none⟩ = some (.int .i64 xr) := hcc 5 _ rfl
      have q6 : wr.cell? ⟨b, off + k * 9 + 6, none⟩ = some (.int .i64 xy) := hcc 6 _ rfl
      have q7 : wr.cell? ⟨b, off + k * 9 + 7, none⟩ = some (.int .i64 xw) := hcc 7 _ rfl
      have q8 : wr.cell? ⟨b, off + k * 9 + 8, none⟩ = some (.slice xA xl.length xc) := hcc 8 _ rfl
      have K2 : Hid (Calls Tryz.prog N #[.agg #[.string xn, .string xv, .string xu, .string xe, .bool xf, .int .i64 xr, .int .i64 xy, .int .i64 xw, .slice xA xl.length xc], v0, v1, v2] wr fun e w'' => e = .returned (.bool py) ∧ Below wr.heap.size wr w'') := K
      clear K
      clear hcc hy
      cases py with
      | true =>
        have HV := hid (plc_some (p := p) HY.out HPP.out hP.out)
        go_wp2_with fail
        refine K2.out.mono ?_
        rintro e w5 ⟨rfl, hb5⟩
        go_wp2_with fail
        go_ret
        rw [HV.out]
        exact ⟨rfl, bthen hb hb5⟩
      | false =>
        go_wp2_with fail
        refine K2.out.mono ?_
        rintro e w5 ⟨rfl, hb5⟩
        go_wp2_with fail
        go_roundw
        case rel => exact ⟨k + 1, by omega, by go_num, hid (fun j z hj hz => by
          by_cases e : j = k
          · subst e; rw [HY.out] at hz; injection hz with hz; subst hz; exact HPP.out
          · exact hP.out j z (by omega) hz), bthen hb hb5⟩
        case measure => simp [nOf]; omega
    · have HV := hid (plc_none (p := p) (l := l) (fun y hy => by
        obtain ⟨j, hj⟩ := List.mem_iff_getElem?.1 hy
        exact hP.out j y (by have := (List.getElem?_eq_some_iff.1 hj).1; omega) hj))
      clear hP hk
      go_wp2_with fail
      go_ret
      rw [HV.out]
      exact ⟨rfl, hb⟩

set_option maxRecDepth 100000 in
set_option maxHeartbeats 4000000 in
theorem containsS3_any (l : List Stp) (A : Option Addr) (cap : Nat) (N : FuncId) (v0 v1 v2 : Value) (p : Stp → Bool) (w : World) (hR : Rd w A (l.flatMap enSt)) (hl : l.length ≤ 140737488355328) (hN : ∀ (args : Array Value) (w : World), (callFunc N args).run Tryz.prog w = .ok (.enter N args) w) (hT : TestsS3 N v0 v1 v2 p l w) :
    Calls Tryz.prog 91 #[.slice A l.length cap, .func (.func N) #[] #[v0, v1, v2]] w fun e w' => e = .returned (.bool (l.any p)) ∧ Below w.heap.size w w' := by
  have K := hid (indexS3_any l A cap N v0 v1 v2 p w hR hl hN hT)
  have HH := hid (has_plcS p l)
  clear hT
  go_enter Tryz.func91, Tryz.ntmps91
  go_wp2_with fail
  refine K.out.mono ?_
  rintro e w5 ⟨rfl, hb5⟩
  go_wp2_with fail
  go_ret
  rw [HH.out]
  exact ⟨rfl, hb5⟩

/-- What a test tells of each, at every world from w on. -/
def TestsB1 (N : FuncId) (v0 : Value) (p : ByteArray → Bool) (l : List ByteArray) (w : World) : Prop := ∀ x ∈ l, ∀ w', Below w.heap.size w w' → Calls Tryz.prog N #[.string x, v0] w' fun e w'' => e = .returned (.bool (p x)) ∧ Below w'.heap.size w' w''

set_option maxRecDepth 100000 in
set_option maxHeartbeats 8000000 in
theorem indexB1_any (l : List ByteArray) (A : Option Addr) (cap : Nat) (N : FuncId) (v0 : Value) (p : ByteArray → Bool) (w : World) (hR : Rd w A (l.flatMap enB)) (hl : l.length ≤ 140737488355328) (hN : ∀ (args : Array Value) (w : World), (callFunc N args).run Tryz.prog w = .ok (.enter N args) w) (hT : TestsB1 N v0 p l w) :
    Calls Tryz.prog 93 #[.slice A l.length cap, .func (.func N) #[] #[v0]] w fun e w' => e = .returned (.int .i64 (plc p l)) ∧ Below w.heap.size w w' := by
  have HT := hid hT
  clear hT
  go_enter Tryz.func93, Tryz.ntmps93
  go_wp2_with fail
  go_loopw [8] (fun i wr => ∃ k : Nat, k ≤ l.length ∧ i = .int .i64 k ∧ Hid (∀ j y, j < k → l[j]? = some y → p y = false) ∧ Below w.heap.size w wr) (fun i _ => l.length - nOf i)
  case atStart => exact ⟨0, Nat.zero_le _, rfl, hid (fun j y hj => by omega), Below.refl _ _⟩
  case round =>
    obtain ⟨k, hk, rfl, hP, hb⟩ := hrel
    by_cases hlt : k < l.length
    · obtain ⟨y, hy⟩ : ∃ y, l[k]? = some y := ⟨l[k], List.getElem?_eq_getElem hlt⟩
      obtain ⟨b, off, rfl, hbs, hcc⟩ := (hR.below hb).at_ 1 enB_len (by omega) hy
      have q0 : wr.cell? ⟨b, off + k * 1, none⟩ = some (.string y) := hcc 0 _ rfl
      rw [Nat.mul_one] at q0
      have K2 := hid (HT.out y (List.mem_of_getElem? hy) wr hb)
      have HY := hid hy
      generalize hpy : p y = py at K2
      have HPP := hid hpy
      clear hpy
      clear hcc hy
      cases py with
      | true =>
        have HV := hid (plc_some (p := p) HY.out HPP.out hP.out)
        go_wp2_with fail
        refine K2.out.mono ?_
        rintro e w5 ⟨rfl, hb5⟩
        go_wp2_with fail
        go_ret
        rw [HV.out]
        exact ⟨rfl, bthen hb hb5⟩
      | false =>
        go_wp2_with fail
        refine K2.out.mono ?_
        rintro e w5 ⟨rfl, hb5⟩
        go_wp2_with fail
        go_roundw
        case rel => exact ⟨k + 1, by omega, by go_num, hid (fun j z hj hz => by
          by_cases e : j = k
          · subst e; rw [HY.out] at hz; injection hz with hz; subst hz; exact HPP.out
          · exact hP.out j z (by omega) hz), bthen hb hb5⟩
        case measure => simp [nOf]; omega
    · have HV := hid (plc_none (p := p) (l := l) (fun y hy => by
        obtain ⟨j, hj⟩ := List.mem_iff_getElem?.1 hy
        exact hP.out j y (by have := (List.getElem?_eq_some_iff.1 hj).1; omega) hj))
      clear hP hk
      go_wp2_with fail
      go_ret
      rw [HV.out]
      exact ⟨rfl, hb⟩

set_option maxRecDepth 100000 in
set_option maxHeartbeats 4000000 in
theorem containsB1_any (l : List ByteArray) (A : Option Addr) (cap : Nat) (N : FuncId) (v0 : Value) (p : ByteArray → Bool) (w : World) (hR : Rd w A (l.flatMap enB)) (hl : l.length ≤ 140737488355328) (hN : ∀ (args : Array Value) (w : World), (callFunc N args).run Tryz.prog w = .ok (.enter N args) w) (hT : TestsB1 N v0 p l w) :
    Calls Tryz.prog 64 #[.slice A l.length cap, .func (.func N) #[] #[v0]] w fun e w' => e = .returned (.bool (l.any p)) ∧ Below w.heap.size w w' := by
  have K := hid (indexB1_any l A cap N v0 p w hR hl hN hT)
  have HH := hid (has_plcS p l)
  clear hT
  go_enter Tryz.func64, Tryz.ntmps64
  go_wp2_with fail
  refine K.out.mono ?_
  rintro e w5 ⟨rfl, hb5⟩
  go_wp2_with fail
  go_ret
  rw [HH.out]
  exact ⟨rfl, hb5⟩

end Go.Proofs.YtoemmakhbiiknaaGreat

namespace Go.Proofs.YtoemmakhbiiknaaGreat
open Go.RowKit Go.WideShapes Go.ChangeShapes Go.ChangeAt Go.Deep
set_option linter.unusedVariables false

/-- The first fault of a step by itself. -/
def fstN : List Stp → Int
  | [] => 0
  | s :: l => if oneN s = 0 then fstN l else oneN s
theorem fstN_some : ∀ {l : List Stp} {k : Nat} {s : Stp}, l[k]? = some s → oneN s ≠ 0 → (∀ j y, j < k → l[j]? = some y → oneN y = 0) → fstN l = oneN s
  | [], k, s, h, _, _ => by simp at h
  | y :: l, 0, s, h, hs, _ => by
    simp at h
    subst h
    simp [fstN, hs]
  | y :: l, k + 1, s, h, hs, hb => by
    have h0 := hb 0 y (by omega) (by simp)
    simp only [fstN, h0, if_true]
    exact fstN_some (k := k) (by simpa using h) hs (fun j z hj hz => hb (j + 1) z (by omega) (by simpa using hz))
theorem fstN_none : ∀ {l : List Stp}, (∀ y ∈ l, oneN y = 0) → fstN l = 0
  | [], _ => rfl
  | y :: l, h => by
    simp only [fstN, h y (by simp), if_true]
    exact fstN_none (fun z hz => h z (by simp [hz]))
theorem fstN_zero : ∀ {l : List Stp}, fstN l = 0 → ∀ y ∈ l, oneN y = 0
  | [], _, y, h => by cases h
  | z :: l, h, y, hy => by
    by_cases e : oneN z = 0
    · simp only [fstN, e, if_true] at h
      rcases List.mem_cons.1 hy with rfl | hy
      · exact e
      · exact fstN_zero h y hy
    · simp only [fstN, e, if_false] at h
/-- Is it a final call? -/
def isFin (s : Stp) : Bool := s.event.toList.isEmpty && s.fin
/-- Some final step does not come behind some step that is none. -/
def FinBad (l : List Stp) : Prop := ∃ (i : Nat) (s : Stp), l[i]? = some s ∧ isFin s = true ∧ ∃ x ∈ l, isFin x = false ∧ ¬ Rch (grf l) i (l.findIdx (isNm x.name))
open Classical in
noncomputable def checkN (l : List Stp) : Int := if NamesOk l then (if fstN l = 0 then (if Acy (grf l) then (if FinBad l then 114 else 0) else 113) else fstN l) else 110
theorem checkN_name {l : List Stp} (h : ¬ NamesOk l) : checkN l = 110 := by unfold checkN; rw [if_neg h]
theorem checkN_one {l : List Stp} (h : NamesOk l) (h1 : fstN l ≠ 0) : checkN l = fstN l := by unfold checkN; rw [if_pos h, if_neg h1]
theorem checkN_cyc {l : List Stp} (h : NamesOk l) (h1 : fstN l = 0) (h2 : ¬ Acy (grf l)) : checkN l = 113 := by unfold checkN; rw [if_pos h, if_pos h1, if_neg h2]
theorem checkN_fin {l : List Stp} (h : NamesOk l) (h1 : fstN l = 0) (h2 : Acy (grf l)) (h3 : FinBad l) : checkN l = 114 := by unfold checkN; rw [if_pos h, if_pos h1, if_pos h2, if_pos h3]
theorem checkN_ok {l : List Stp} (h : NamesOk l) (h1 : fstN l = 0) (h2 : Acy (grf l)) (h3 : ¬ FinBad l) : checkN l = 0 := by unfold checkN; rw [if_pos h, if_pos h1, if_pos h2, if_neg h3]
theorem oneN_cases (s : Stp) : oneN s = 0 ∨ oneN s = 111 ∨ oneN s = 112 := by
  unfold oneN
  repeat' split
  all_goals simp
theorem fstN_cases : ∀ l : List Stp, fstN l = 0 ∨ fstN l = 111 ∨ fstN l = 112
  | [] => .inl rfl
  | s :: l => by
    unfold fstN
    split
    · exact fstN_cases l
    · exact oneN_cases s
theorem checkN_zero {l : List Stp} (h : checkN l = 0) : NamesOk l ∧ Acy (grf l) ∧ ¬ FinBad l ∧ ∀ s ∈ l, oneN s = 0 := by
  unfold checkN at h
  split at h
  · rename_i hN
    split at h
    · rename_i h1
      split at h
      · rename_i hA
        split at h
        · omega
        · rename_i hF
          exact ⟨hN, hA, hF, fstN_zero h1⟩
      · omega
    · rename_i h1
      exact absurd h h1
  · omega
theorem checkN_zero_iff {l : List Stp} : checkN l = 0 ↔ NamesOk l ∧ Acy (grf l) ∧ ¬ FinBad l ∧ ∀ s ∈ l, oneN s = 0 :=
  ⟨checkN_zero, fun ⟨h1, h2, h3, h4⟩ => checkN_ok h1 (fstN_none h4) h2 h3⟩
theorem checkN_bd (l : List Stp) : 0 ≤ checkN l ∧ checkN l ≤ 114 := by
  have := fstN_cases l
  unfold checkN
  repeat' split
  all_goals omega
/-- Is x no final one, and not in the set? -/
def finP (l : List Stp) (mm : ZMap) (x : Stp) : Bool := (!x.event.toList.isEmpty || !x.fin) && ((mget mm ((l.findIdx (isNm x.name) : Nat) : Int)).getD 0 == 0)
theorem SetOk.zero {G : List (List Nat)} {i : Nat} {mm : ZMap} (h : SetOk G i mm) (k : Nat) : (mget mm (k : Int)).getD 0 = 0 ↔ ¬ Rch G i k := by
  cases e : mget mm (k : Int) with
  | none =>
    simp only [Option.getD_none, true_iff]
    intro hr
    have h1 : (k : Int) ∈ mm.map (·.1) := (h.key _).2 ⟨k, rfl, hr⟩
    obtain ⟨b, hb⟩ := mget_key h1
    rw [e] at hb
    cases hb
  | some b =>
    have hm := mget_mem e
    have h1 := h.pos _ hm
    simp only [Option.getD_some]
    simp only at h1
    obtain ⟨k', e', hr⟩ := (h.key _).1 (List.mem_map.2 ⟨_, hm, rfl⟩)
    have : k' = k := by simp only at e'; omega
    subst this
    exact ⟨fun e => by omega, fun hn => absurd hr hn⟩
theorem finP_any {l : List Stp} {i : Nat} {mm : ZMap} (h : SetOk (grf l) i mm) : l.any (finP l mm) = true ↔ ∃ x ∈ l, isFin x = false ∧ ¬ Rch (grf l) i (l.findIdx (isNm x.name)) := by
  rw [List.any_eq_true]
  have key : ∀ x, finP l mm x = true ↔ isFin x = false ∧ ¬ Rch (grf l) i (l.findIdx (isNm x.name)) := fun x => by
    rw [← h.zero]
    unfold finP isFin
    cases x.event.toList.isEmpty <;> cases x.fin <;> simp
  constructor
  · rintro ⟨x, hx, hp⟩; exact ⟨x, hx, (key x).1 hp⟩
  · rintro ⟨x, hx, hp⟩; exact ⟨x, hx, (key x).2 hp⟩

set_option maxRecDepth 100000 in
set_option maxHeartbeats 16000000 in
theorem chk1_any (K : OfK) (S : Sets) (O : Nat → Bool) (i g V8 V12 V3 : Nat) (mm : ZMap) (w : World) (hi : i < K.l.length) (hS : OfS K S O w) (hsi : S i = some (g, mm)) (hN : NamesOk K.l) (x : Stp) (hx : x ∈ K.l)
    (hb8 : Blk w V8 176 #[.pointer (some ⟨K.D, 0, none⟩)]) (hb12 : Blk w V12 3 #[.int .i64 (i : Int)]) (hb3 : Blk w V3 147 #[.map (some K.M)]) :
    Calls Tryz.prog 92 #[.agg (enSt x).toArray, .pointer (some ⟨V8, 0, none⟩), .pointer (some ⟨V12, 0, none⟩), .pointer (some ⟨V3, 0, none⟩)] w fun e w' => e = .returned (.bool (finP K.l mm x)) ∧ Below w.heap.size w w' := by
  have hxn : x.name ∈ K.l.map Stp.name := List.mem_map_of_mem hx
  obtain ⟨k, hk⟩ : ∃ k, k = K.l.findIdx (isNm x.name) := ⟨_, rfl⟩
  have hmn := mkN_idx hN hxn
  rw [← hk] at hmn
  obtain ⟨v, hv⟩ : ∃ v, v = (mget mm (k : Int)).getD 0 := ⟨_, rfl⟩
  have HF := hid (show finP K.l mm x = ((!x.event.toList.isEmpty || !x.fin) && (v == 0)) from by unfold finP; rw [← hk, ← hv])
  obtain ⟨xn, xv, xu, xe, xf, xr, xy, xw, xA, xc, xl⟩ := x
  simp only at hmn hxn
  have earr : (enSt ⟨xn, xv, xu, xe, xf, xr, xy, xw, xA, xc, xl⟩).toArray = #[.string xn, .string xv, .string xu, .string xe, .bool xf, .int .i64 xr, .int .i64 xy, .int .i64 xw, .slice xA xl.length xc] := rfl
  rw [earr]
  clear earr
  simp only at HF
  rw [HF.out]
  clear HF hk hx hxn
  have hwa : Below w.heap.size w (w.alloc (.cells #[.string xn, .string xv, .string xu, .string xe, .bool xf, .int .i64 xr, .int .i64 xy, .int .i64 xw, .slice xA xl.length xc] 69)) := (Below.refl _ _).alloc (Nat.le_refl _) _
  have hB := Blk.new w 69 #[.string xn, .string xv, .string xu, .string xe, .bool xf, .int .i64 xr, .int .i64 xy, .int .i64 xw, .slice xA xl.length xc]
  obtain ⟨W, hW⟩ : ∃ W, W = w.alloc (.cells #[.string xn, .string xv, .string xu, .string xe, .bool xf, .int .i64 xr, .int .i64 xy, .int .i64 xw, .slice xA xl.length xc] 69) := ⟨_, rfl⟩
  obtain ⟨G, hG⟩ : ∃ G, G = w.heap.size := ⟨_, rfl⟩
  rw [← hW] at hwa hB
  rw [← hG] at hB
  have hS2 := hS.next hwa
  have h8 := hb8.next hwa
  have h12 := hb12.next hwa
  have h3 := hb3.next hwa
  have HWG := hid (And.intro hW hG)
  clear hS hb8 hb12 hb3 hW hG
  have g0 : W.cell? ⟨G, 0, none⟩ = some (.string xn) := hB.cell 0
  have g3 : W.cell? ⟨G, 3, none⟩ = some (.string xe) := hB.cell 3
  have g4 : W.cell? ⟨G, 4, none⟩ = some (.bool xf) := hB.cell 4
  have lG := hB.lt
  have c8 : W.cell? ⟨V8, 0, none⟩ = some (.pointer (some ⟨K.D, 0, none⟩)) := h8.cell 0
  have c12 : W.cell? ⟨V12, 0, none⟩ = some (.int .i64 (i : Int)) := h12.cell 0
  have c3 : W.cell? ⟨V3, 0, none⟩ = some (.map (some K.M)) := h3.cell 0
  have l8 := h8.lt
  have l12 := h12.lt
  have l3 := h3.lt
  have d3 : W.cell? ⟨K.D, 3, none⟩ = some (.slice (some ⟨K.Ds, 0, none⟩) K.l.length K.l.length) := hS2.d.cell 3
  have lD := hS2.d.lt
  have cs : W.cell? ⟨K.Ds, i, none⟩ = some (.map (some g)) := by rw [hS2.s.cell, rngC_at _ hi, hsi]; rfl
  have lDs := hS2.s.lt
  have lk : ∀ n, (Instr.lookup 147 (.map (some K.M)) (.string xn) false).run Tryz.prog (W.drewN n) = .ok (.int .i64 (k : Int)) (W.drewN n) := fun n => by
    have := (hS2.m.keep (w' := W.drewN n) rfl).look keyStr12 Tryz.underlying147 (zeroN _) xn
    unfold looked at this
    rw [hmn] at this
    exact this
  have lk2 : ∀ n, (Instr.lookup 180 (.map (some g)) (.int .i64 (k : Int)) false).run Tryz.prog (W.drewN n) = .ok (.int .i64 v) (W.drewN n) := fun n => by
    have := ((hS2.sets i g mm hi hsi).1.keep (w' := W.drewN n) rfl).look keyZ12 Tryz.underlying180 (zeroN _) (k : Int)
    rw [looked_kZ, ← hv] at this
    exact this
  have HB := hid hwa
  clear hmn hS2 hv hB h8 h12 h3 hsi hwa
  go_enter Tryz.func92, Tryz.ntmps92
  go_upto_region 1 with fail
  rw [← HWG.out.1, ← HWG.out.2]
  cases he : xe.toList.isEmpty with
  | false =>
    go_quiet (fail)
    go_wp2_with fail
    go_ret
    exact ⟨by simp [he], below_drewN HB.out _⟩
  | true =>
    cases xf with
    | false =>
      go_quiet (fail)
      go_wp2_with fail
      go_ret
      exact ⟨by simp [he], below_drewN HB.out _⟩
    | true =>
      go_quiet (fail)
      go_wp2_with fail
      go_ret
      exact ⟨by simp [he], below_drewN HB.out _⟩

end Go.Proofs.YtoemmakhbiiknaaGreat

namespace Go.Proofs
open Go.Shelf
def Tryz.sortI_ren : Go.Shelf.Ren := ⟨fun | 5 => 66 | 8 => 95 | 7 => 94 | 19 => 121 | 20 => 122 | 10 => 112 | 11 => 113 | 12 => 114 | 13 => 115 | 14 => 116 | 15 => 117 | 16 => 118 | 17 => 119 | 18 => 120 | 30 => 130 | 31 => 131 | 32 => 132 | 33 => 133 | 34 => 134 | 35 => 135 | 40 => 144 | n => n, fun | 23 => 38 | 25 => 3 | 3 => 3 | 32 => 187 | 22 => 38 | 0 => 0 | 44 => 113 | 46 => 212 | 4 => 4 | 36 => 204 | 35 => 203 | 41 => 149 | 5 => 5 | 9 => 9 | 53 => 218 | 57 => 222 | 63 => 231 | 64 => 232 | n => n, fun | n => n⟩
theorem Tryz.sortI : SlLaysM.n5 Tryz.prog Tryz.sortI_ren := {
  mixed := by kernel_rfl
  f5 := ⟨Tryz.f66.name, by decide, Tryz.func66.trans (congrArg some (by kernel_rfl))⟩
  f7 := ⟨Tryz.f94.name, by decide, Tryz.func94.trans (congrArg some (by kernel_rfl))⟩
  f8 := Tryz.func95.trans (congrArg some (by kernel_rfl))
  f10 := ⟨Tryz.f112.name, by decide, Tryz.func112.trans (congrArg some (by kernel_rfl))⟩
  f11 := ⟨Tryz.f113.name, by decide, Tryz.func113.trans (congrArg some (by kernel_rfl))⟩
  f12 := ⟨Tryz.f114.name, by decide, Tryz.func114.trans (congrArg some (by kernel_rfl))⟩
  f13 := ⟨Tryz.f115.name, by decide, Tryz.func115.trans (congrArg some (by kernel_rfl))⟩
  f14 := ⟨Tryz.f116.name, by decide, Tryz.func116.trans (congrArg some (by kernel_rfl))⟩
  f15 := ⟨Tryz.f117.name, by decide, Tryz.func117.trans (congrArg some (by kernel_rfl))⟩
  f16 := ⟨Tryz.f118.name, by decide, Tryz.func118.trans (congrArg some (by kernel_rfl))⟩
  f17 := ⟨Tryz.f119.name, by decide, Tryz.func119.trans (congrArg some (by kernel_rfl))⟩
  f18 := ⟨Tryz.f120.name, by decide, Tryz.func120.trans (congrArg some (by kernel_rfl))⟩
  f19 := Tryz.func121.trans (congrArg some (by kernel_rfl))
  f20 := Tryz.func122.trans (congrArg some (by kernel_rfl))
  f30 := ⟨Tryz.f130.name, by decide, Tryz.func130.trans (congrArg some (by kernel_rfl))⟩
  f31 := Tryz.func131.trans (congrArg some (by kernel_rfl))
  f32 := Tryz.func132.trans (congrArg some (by kernel_rfl))
  f33 := ⟨Tryz.f133.name, by decide, Tryz.func133.trans (congrArg some (by kernel_rfl))⟩
  f34 := ⟨Tryz.f134.name, by decide, Tryz.func134.trans (congrArg some (by kernel_rfl))⟩
  f35 := ⟨Tryz.f135.name, by decide, Tryz.func135.trans (congrArg some (by kernel_rfl))⟩
  f40 := ⟨Tryz.f144.name, by decide, Tryz.func144.trans (congrArg some (by kernel_rfl))⟩
  t0 := Tryz.underlying0
  a0 := Tryz.isAgg0
  z0 := Tryz.sizeOf0
  v0 := Tryz.zeroValue0
  t3 := Tryz.underlying3
  a3 := Tryz.isAgg3
  z3 := Tryz.sizeOf3
  v3 := Tryz.zeroValue3
  t4 := Tryz.underlying4
  a4 := Tryz.isAgg4
  z4 := Tryz.sizeOf4
  v4 := Tryz.zeroValue4
  t5 := Tryz.underlying5
  a5 := Tryz.isAgg5
  z5 := Tryz.sizeOf5
  v5 := Tryz.zeroValue5
  t9 := Tryz.underlying9
  a9 := Tryz.isAgg9
  z9 := Tryz.sizeOf9
  v9 := Tryz.zeroValue9
  t22 := Tryz.underlying38
  a22 := Tryz.isAgg38
  z22 := Tryz.sizeOf38
  v22 := Tryz.zeroValue38
  t23 := Tryz.underlying38
  a23 := Tryz.isAgg38
  z23 := Tryz.sizeOf38
  v23 := Tryz.zeroValue38
  t25 := Tryz.underlying3
  a25 := Tryz.isAgg3
  z25 := Tryz.sizeOf3
  v25 := Tryz.zeroValue3
  t32 := Tryz.underlying187
  a32 := Tryz.isAgg187
  z32 := Tryz.sizeOf187
  v32 := Tryz.zeroValue187
  t35 := Tryz.underlying203
  a35 := Tryz.isAgg203
  z35 := Tryz.sizeOf203
  v35 := Tryz.zeroValue203
  t36 := Tryz.underlying204
  a36 := Tryz.isAgg204
  z36 := Tryz.sizeOf204
  v36 := Tryz.zeroValue204
  t41 := Tryz.underlying149
  a41 := Tryz.isAgg149
  z41 := Tryz.sizeOf149
  v41 := Tryz.zeroValue149
  t44 := Tryz.underlying113
  a44 := Tryz.isAgg113
  z44 := Tryz.sizeOf113
  v44 := Tryz.zeroValue113
  t46 := Tryz.underlying212
  a46 := Tryz.isAgg212
  z46 := Tryz.sizeOf212
  v46 := Tryz.zeroValue212
  t53 := Tryz.underlying218
  a53 := Tryz.isAgg218
  z53 := Tryz.sizeOf218
  v53 := Tryz.zeroValue218
  t57 := Tryz.underlying222
  a57 := Tryz.isAgg222
  z57 := Tryz.sizeOf222
  v57 := Tryz.zeroValue222
  t63 := Tryz.underlying231
  a63 := Tryz.isAgg231
  z63 := Tryz.sizeOf231
  v63 := Tryz.zeroValue231
  t64 := Tryz.underlying232
  a64 := Tryz.isAgg232
  z64 := Tryz.sizeOf232
  v64 := Tryz.zeroValue232
}
end Go.Proofs

namespace Go.Proofs
open Go.Shelf
def Tryz.compI_ren : Go.Shelf.Ren := ⟨fun | 20 => 67 | n => n, fun | 22 => 38 | 3 => 3 | 4 => 4 | 0 => 0 | n => n, fun | n => n⟩
theorem Tryz.compI : Lays2.n20 Tryz.prog Tryz.compI_ren := {
  mixed := by kernel_rfl
  f20 := Tryz.func67.trans (congrArg some (by kernel_rfl))
  t0 := Tryz.underlying0
  a0 := Tryz.isAgg0
  z0 := Tryz.sizeOf0
  v0 := Tryz.zeroValue0
  t3 := Tryz.underlying3
  a3 := Tryz.isAgg3
  z3 := Tryz.sizeOf3
  v3 := Tryz.zeroValue3
  t4 := Tryz.underlying4
  a4 := Tryz.isAgg4
  z4 := Tryz.sizeOf4
  v4 := Tryz.zeroValue4
  t22 := Tryz.underlying38
  a22 := Tryz.isAgg38
  z22 := Tryz.sizeOf38
  v22 := Tryz.zeroValue38
  i3 := by kernel_rfl
}
end Go.Proofs

namespace Go.Proofs.YtoemmakhbiiknaaGreat
open Go.RowKit Go.WideShapes Go.ChangeShapes Go.ChangeAt Go.Deep
set_option linter.unusedVariables false

/-! ### Rising lists -/
theorem rise_ext : ∀ {a b : List Int}, a.Pairwise (· < ·) → b.Pairwise (· < ·) → (∀ x, x ∈ a ↔ x ∈ b) → a = b
  | [], [], _, _, _ => rfl
  | [], y :: b, _, _, h => by have := (h y).2 (by simp); cases this
  | x :: a, [], _, _, h => by have := (h x).1 (by simp); cases this
  | x :: a, y :: b, ha, hb, h => by
    have ha' := List.pairwise_cons.1 ha
    have hb' := List.pairwise_cons.1 hb
    have hxy : x = y := by
      rcases List.mem_cons.1 ((h x).1 (by simp)) with e | hx
      · exact e
      · rcases List.mem_cons.1 ((h y).2 (by simp)) with e | hy
        · exact e.symm
        · have := ha'.1 y hy; have := hb'.1 x hx; omega
    subst hxy
    congr 1
    refine rise_ext ha'.2 hb'.2 (fun z => ?_)
    constructor
    · intro hz
      rcases List.mem_cons.1 ((h z).1 (by simp [hz])) with e | hz'
      · have := ha'.1 z hz; omega
      · exact hz'
    · intro hz
      rcases List.mem_cons.1 ((h z).2 (by simp [hz])) with e | hz'
      · have := hb'.1 z hz; omega
      · exact hz'
theorem compact_rise {zs : List Int} (hs : zs.Pairwise (· ≤ ·)) : (Lib.compact zs).Pairwise (· < ·) ∧ ∀ x, x ∈ Lib.compact zs ↔ x ∈ zs := by
  have key : ∀ m, m ≤ zs.length → (Lib.compactUpTo zs.toArray m).Pairwise (· < ·) ∧ ∀ x, x ∈ Lib.compactUpTo zs.toArray m ↔ x ∈ zs.take m := by
    intro m
    induction m with
    | zero => intro _; exact ⟨by simp [Lib.compactUpTo], fun x => by simp [Lib.compactUpTo]⟩
    | succ m ih =>
      intro hm
      obtain ⟨h1, h2⟩ := ih (by omega)
      have hmg : zs[m]? = some (zs.toArray[m]!) := by rw [List.getElem?_eq_getElem (by omega), getElem!_pos zs.toArray m (by simp; omega)]; simp
      have htk := take_succ_of hmg
      rw [Lib.compactUpTo_succ, htk]
      have hle : ∀ x ∈ zs.take m, x ≤ zs.toArray[m]! := fun x hx => by
        have h3 : (zs.take (m + 1)).Pairwise (· ≤ ·) := hs.sublist (List.take_sublist _ _)
        rw [htk] at h3
        exact (List.pairwise_append.1 h3).2.2 x hx _ (by simp)
      cases hk : Lib.keeps zs.toArray m with
      | false =>
        have hk' := hk
        simp only [Lib.keeps, decide_eq_false_iff_not, not_or, ne_eq, Decidable.not_not] at hk'
        simp only [Bool.false_eq_true, if_false, List.append_nil]
        refine ⟨h1, fun x => ?_⟩
        rw [h2, List.mem_append]
        refine ⟨.inl, fun h => h.elim id (fun h => ?_)⟩
        rw [List.mem_singleton] at h
        have hm1 : zs[m - 1]? = some (zs.toArray[m - 1]!) := by rw [List.getElem?_eq_getElem (by omega), getElem!_pos zs.toArray (m - 1) (by simp; omega)]; simp
        have e1 : x = zs.toArray[m - 1]! := by rw [← hk'.2, h]
        have : (zs.take m)[m - 1]? = some x := by rw [List.getElem?_take_of_lt (by omega), hm1, e1]
        exact List.mem_of_getElem? this
      | true =>
        simp only [if_true]
        refine ⟨List.pairwise_append.2 ⟨h1, by simp, fun a ha b hb => ?_⟩, fun x => by rw [List.mem_append, List.mem_append, h2]⟩
        simp only [List.mem_singleton] at hb
        subst hb
        rw [h2] at ha
        have hlea := hle a ha
        simp only [Lib.keeps, decide_eq_true_eq] at hk
        rcases hk with rfl | hk
        · simp at ha
        · have hm0 : 0 < m := by
            rcases Nat.eq_zero_or_pos m with e | e
            · subst e; simp at ha
            · exact e
          have hm1 : zs[m - 1]? = some (zs.toArray[m - 1]!) := by rw [List.getElem?_eq_getElem (by omega), getElem!_pos zs.toArray (m - 1) (by simp; omega)]; simp
          have e2 : zs.take m = zs.take (m - 1) ++ [zs.toArray[m - 1]!] := by
            have := take_succ_of hm1
            rwa [show m - 1 + 1 = m from by omega] at this
          have h4 : (zs.take m).Pairwise (· ≤ ·) := hs.sublist (List.take_sublist _ _)
          rw [e2] at h4 ha
          have h5 : zs.toArray[m - 1]! ≤ zs.toArray[m]! := hle _ (by rw [e2]; simp)
          rcases List.mem_append.1 ha with ha | ha
          · have := (List.pairwise_append.1 h4).2.2 a ha (zs.toArray[m - 1]!) (List.mem_singleton_self _); omega
          · rw [List.mem_singleton] at ha
            rw [ha]
            omega
  have := key zs.length (Nat.le_refl _)
  rw [List.take_length] at this
  exact this

/-! ### Rows of numbers, and of names -/
theorem en1_one (l : List Int) : ∀ v ∈ l.flatMap en1, v.oneCell' = true := fun v hv => by
  obtain ⟨x, _, hx⟩ := List.mem_flatMap.1 hv
  simp [en1] at hx
  subst hx
  rfl
theorem enB_one (l : List ByteArray) : ∀ v ∈ l.flatMap enB, v.oneCell' = true := fun v hv => by
  obtain ⟨x, _, hx⟩ := List.mem_flatMap.1 hv
  simp [enB] at hx
  subst hx
  rfl
theorem info_int12 : (Tryz.prog.info? 3).map (fun i => (i.zero, i.size, i.bytes)) = some (some (.int .i64 0), 1, 8) := by kernel_rfl
theorem info_str12 : (Tryz.prog.info? 9).map (fun i => (i.zero, i.size, i.bytes)) = some (some (.string ⟨#[]⟩), 1, 16) := by kernel_rfl

theorem flat_en1 (zs : List Int) : zs.flatMap en1 = zs.map (Value.int .i64) := by
  induction zs with
  | nil => rfl
  | cons z zs ih => rw [List.flatMap_cons, ih]; rfl

/-- A row of numbers of the call's own, rewritten in place by a function that tells it by 'Holds' and 'putRow'. -/
theorem own_putRow {w : World} {base g cap n : Nat} {zs ys : List Int} (ho : w.ownsRow base 3 1 (.slice (some ⟨g, 0, none⟩) n cap) n (zs.flatMap en1)) (hy : ys.length = n) (m : Nat) (hm : m ≤ n) (q : Nat) (os : Array Obj) :
    (Sort.grow (Sort.putRow (Value.int .i64) (Sort.ahead w q) g 0 ys.toArray) os).ownsRow base 3 1 (.slice (some ⟨g, 0, none⟩) m cap) m ((ys.take m).flatMap en1) ∧ w.grownBy (Sort.grow (Sort.putRow (Value.int .i64) (Sort.ahead w q) g 0 ys.toArray) os) (some g) := by
  rcases ho.2 with ⟨h, _⟩ | ⟨g', cap', cur, h, hb, hg, hnc, hcm, hcs, htk⟩
  · cases h
  · simp only [Value.slice.injEq, Option.some.injEq, Addr.mk.injEq, and_true, true_and] at h
    obtain ⟨rfl, rfl⟩ := h
    have hlt : g < w.heap.size := (Array.getElem?_eq_some_iff.1 hg).1
    have hgw : (Sort.grow (Sort.putRow (Value.int .i64) (Sort.ahead w q) g 0 ys.toArray) os).heap[g]? = some (.cells (Sort.putCells (Value.int .i64) 0 ys.toArray cur) 3 (0, 0)) := by
      rw [Sort.heap_grow_old _ _ (by simpa [Sort.putRow, Sort.mapBlock, Sort.ahead] using hlt)]
      simp [Sort.putRow, Sort.mapBlock, Sort.ahead, Array.getElem?_modify, hg, Sort.onCells]
    refine ⟨⟨?_, .inr ⟨g, cap, _, rfl, hb, hgw, by omega, hcm, by simp [Sort.putCells, hcs], ?_⟩⟩, ?_⟩
    · rw [length_flatMap_const en1 1 en1_len, List.length_take]; omega
    · rw [flat_en1]
      apply List.ext_getElem?
      intro j
      by_cases hj : j < m
      · have hjs : j < cur.size := by omega
        have hjy : j < ys.length := by omega
        rw [Nat.mul_one, List.getElem?_take_of_lt hj, List.getElem?_map, List.getElem?_take_of_lt hj, List.getElem?_eq_getElem hjy, Array.getElem?_toList]
        simp [Sort.putCells, hjs, hjy]
      · rw [Nat.mul_one, List.getElem?_take_eq_none (by omega), List.getElem?_map, List.getElem?_take_eq_none (by omega)]
        rfl
    · refine ⟨rfl, rfl, rfl, by simp [Sort.grow, Sort.putRow, Sort.mapBlock, Sort.ahead], fun i hi hne => ?_⟩
      rw [Sort.heap_grow_old _ _ (by simpa [Sort.putRow, Sort.mapBlock, Sort.ahead] using hi)]
      have : g ≠ i := fun e => hne (by rw [e])
      simp [Sort.putRow, Sort.mapBlock, Sort.ahead, Array.getElem?_modify, this]
theorem own_holds {w : World} {base g cap n : Nat} {zs : List Int} (hn : zs.length = n) (ho : w.ownsRow base 3 1 (.slice (some ⟨g, 0, none⟩) n cap) n (zs.flatMap en1)) : Sort.Holds (Value.int .i64) w g 0 zs.toArray ∧ g < w.heap.size ∧ n ≤ cap ∧ cap ≤ maxLen := by
  rcases ho.2 with ⟨h, _⟩ | ⟨g', cap', cur, h, hb, hg, hnc, hcm, hcs, htk⟩
  · cases h
  · simp only [Value.slice.injEq, Option.some.injEq, Addr.mk.injEq, and_true, true_and] at h
    obtain ⟨rfl, rfl⟩ := h
    refine ⟨fun j hj => ?_, (Array.getElem?_eq_some_iff.1 hg).1, hnc, hcm⟩
    have hj' : j < zs.length := by simpa using hj
    rw [Nat.zero_add]
    refine ⟨?_, frozen_of_row w g j cur _ hg⟩
    rw [cell_of_row w g j cur _ (0, 0) hg]
    have e1 : (zs.flatMap en1)[j]? = cur[j]? := by rw [← htk, List.getElem?_take, if_pos (by omega), Array.getElem?_toList]
    rw [← e1, flat_en1, List.getElem?_map, List.getElem?_eq_getElem hj', getElem!_pos zs.toArray j hj]
    simp
def srtI (zs : List Int) : List Int := zs.mergeSort fun x y => decide (x ≤ y)
theorem srtI_len (zs : List Int) : (srtI zs).length = zs.length := (List.mergeSort_perm _ _).length_eq
theorem srtI_mem (zs : List Int) (x : Int) : x ∈ srtI zs ↔ x ∈ zs := (List.mergeSort_perm _ _).mem_iff
theorem srtI_sorted (zs : List Int) : (srtI zs).Pairwise (· ≤ ·) := by
  have := List.pairwise_mergeSort (le := fun x y : Int => decide (x ≤ y)) (fun a b c h g => by simp only [decide_eq_true_eq] at *; omega) (fun a b => by simp only [Bool.or_eq_true, decide_eq_true_eq]; omega) zs
  exact this.imp (fun h => by simpa using h)
/-- slices.Sort at numbers, at a row of the call's own. -/
theorem sortI_owned {w : World} {base n : Nat} {v : Value} {zs : List Int} (hn : zs.length = n) (ho : w.ownsRow base 3 1 v n (zs.flatMap en1)) (hl : n ≤ 140737488355328) :
    Calls Tryz.prog 66 #[v] w fun e w' => e = .returned (.tuple #[]) ∧ w'.ownsRow base 3 1 v n ((srtI zs).flatMap en1) ∧ w.grownBy w' v.ownBlock := by
  rcases ho.2 with ⟨rfl, h0⟩ | ⟨g, cap, cur, rfl, _⟩
  · refine (AnyM.slices_Sort_int_none Tryz.sortI none 0 w).mono ?_
    rintro e w' ⟨rfl, rfl⟩
    have : zs = [] := List.eq_nil_of_length_eq_zero (by omega)
    subst this
    exact ⟨rfl, by simpa [srtI] using ho, ⟨rfl, rfl, rfl, Nat.le_refl _, fun _ _ _ => rfl⟩⟩
  · obtain ⟨hH, hlt, _, _⟩ := own_holds hn ho
    have := AnyM.slices_Sort_int Tryz.sortI g 0 cap zs w hH hlt (by omega)
    rw [hn] at this
    refine this.mono ?_
    rintro e w' ⟨rfl, q, os, rfl⟩
    have h2 := own_putRow ho (ys := srtI zs) (by rw [srtI_len, hn]) n (Nat.le_refl _) q os
    rw [List.take_of_length_le (by rw [srtI_len, hn]; exact Nat.le_refl _)] at h2
    exact ⟨rfl, h2.1, h2.2⟩
theorem compact_le (zs : List Int) : (Lib.compact zs).length ≤ zs.length := by
  unfold Lib.compact Lib.compactUpTo
  rw [List.length_map]
  exact Nat.le_trans (List.length_filter_le _ _) (by simp)
/-- slices.Compact at numbers, at a row of the call's own. -/
theorem compI_owned {w : World} {base n : Nat} {v : Value} {zs : List Int} (hn : zs.length = n) (ho : w.ownsRow base 3 1 v n (zs.flatMap en1)) (hl : n ≤ 140737488355328) :
    Calls Tryz.prog 67 #[v] w fun e w' => ∃ A cap, e = .returned (.slice A (Lib.compact zs).length cap) ∧ w'.ownsRow base 3 1 (.slice A (Lib.compact zs).length cap) (Lib.compact zs).length ((Lib.compact zs).flatMap en1) ∧ w.grownBy w' v.ownBlock := by
  rcases ho.2 with ⟨rfl, h0⟩ | ⟨g, cap, cur, rfl, _⟩
  · have : zs = [] := List.eq_nil_of_length_eq_zero (by omega)
    subst this
    simp only [List.length_nil] at hn
    subst hn
    refine (Any.slices_Compact_int_empty Tryz.compI none 0 w).mono ?_
    rintro e w' ⟨rfl, rfl⟩
    exact ⟨none, 0, rfl, ho, ⟨rfl, rfl, rfl, Nat.le_refl _, fun _ _ _ => rfl⟩⟩
  · obtain ⟨hH, hlt, hc, _⟩ := own_holds hn ho
    have := Any.slices_Compact_int Tryz.compI g 0 cap zs w hH (by omega) (by omega)
    rw [hn] at this
    refine this.mono ?_
    rintro e w' ⟨rfl, q, rfl⟩
    have hle := compact_le zs
    have h2 := own_putRow ho (ys := Lib.compact zs ++ List.replicate (n - (Lib.compact zs).length) 0) (by simp; omega) (Lib.compact zs).length (by omega) q #[]
    rw [List.take_left', Sort.grow_empty] at h2
    · exact ⟨_, _, rfl, h2.1, h2.2⟩
    · rfl

set_option maxRecDepth 100000 in
set_option maxHeartbeats 2000000 in
theorem cloneB_any (l : List ByteArray) (A : Option Addr) (cap : Nat) (w : World) (hR : Rd w A (l.flatMap enB)) (hl : l.length * 16 ≤ 140737488355328) :
    Calls Tryz.prog 81 #[.slice A l.length cap] w (NewRowOf enB 9 1 l w) := by
  obtain ⟨i0, hi, hz0, hz1, hz2⟩ := info_parts info_str12
  cases A with
  | none =>
    have hl0 : l = [] := by
      rcases hR with h | ⟨_, _, h, _⟩
      · cases l with
        | nil => rfl
        | cons x l => simp [enB] at h
      · cases h
    subst hl0
    have hnil : ∀ W, (binOp .eql 67 (.slice none 0 cap) (.slice none 0 0)).run Tryz.prog W = .ok (.bool true) W := fun W => Lib.run_eql_slice_nil_nil W _ _ Tryz.underlying67
    go_enter Tryz.func81, Tryz.ntmps81
    go_wp2_with fail
    go_ret
    exact ⟨none, 0, rfl, World.ownsRow_nil _ _ _ _, Below.refl _ _⟩
  | some a =>
    have ha : l = [] ∨ a.spot = none := by
      rcases hR with h | ⟨b, off, h, _⟩
      · left
        cases l with
        | nil => rfl
        | cons x l => simp [enB] at h
      · right; injection h with h; rw [h]
    have hR1 := hid (hR.below ((Below.refl w.heap.size w).alloc (Nat.le_refl _) (.cells #[] 9)))
    have hO := hid (show (w.alloc (.cells #[] 9)).ownsRow w.heap.size 9 1 (.slice (some ⟨w.heap.size, 0, none⟩) 0 0) 0 [] from ⟨rfl, .inr ⟨w.heap.size, 0, #[], rfl, Nat.le_refl _, heap_alloc_new w _, Nat.le_refl _, Nat.zero_le _, rfl, rfl⟩⟩)
    have hnil : ∀ W, (binOp .eql 67 (.slice (some a) l.length cap) (.slice none 0 0)).run Tryz.prog W = .ok (.bool false) W := fun W => Lib.run_eql_slice_some_nil W _ _ _ Tryz.underlying67
    clear hR
    go_enter Tryz.func81, Tryz.ntmps81
    go_wp2_with (first
      | (at_builtin; refine wpList_append_own _ rfl _ _ 67 rfl w.heap.size 9 i0 _ 1 16 Tryz.underlying67 hi hz0 hz1 hz2 rfl (by decide) _ 0 [] (by rfl) hO.out a l.length cap (l.flatMap enB) (by rfl) (length_flatMap_const enB 1 enB_len l) ?_ (enB_one l) (by unfold maxLen; omega) (by omega) (by simp) ?_))
    · intro j u hu
      rcases hR1.out with h0 | ⟨b', off', hA, hlt, hc⟩
      · rw [h0] at hu; simp at hu
      · simp only [Option.some.injEq] at hA
        subst hA
        rw [add_plain]
        exact hc j u hu
    · intro v' w' h2 h3 _
      obtain ⟨A', cap', rfl, _⟩ := own_slice h2
      have hbb := hid (((Below.refl w.heap.size w).alloc (Nat.le_refl _) (.cells #[] 9)).grown h3 (by simp) (fun k hk => by simp [Value.ownBlock] at hk; omega))
      go_wp2_with fail
      go_ret
      exact ⟨A', cap', rfl, h2, hbb.out⟩

set_option maxRecDepth 100000 in
set_option maxHeartbeats 2000000 in
theorem cloneI_any (l : List Int) (A : Option Addr) (cap : Nat) (w : World) (hR : Rd w A (l.flatMap en1)) (hl : l.length * 8 ≤ 140737488355328) :
    Calls Tryz.prog 48 #[.slice A l.length cap] w (NewRowOf en1 3 1 l w) := by
  obtain ⟨i0, hi, hz0, hz1, hz2⟩ := info_parts info_int12
  cases A with
  | none =>
    have hl0 : l = [] := by
      rcases hR with h | ⟨_, _, h, _⟩
      · cases l with
        | nil => rfl
        | cons x l => simp [en1] at h
      · cases h
    subst hl0
    have hnil : ∀ W, (binOp .eql 38 (.slice none 0 cap) (.slice none 0 0)).run Tryz.prog W = .ok (.bool true) W := fun W => Lib.run_eql_slice_nil_nil W _ _ Tryz.underlying38
    go_enter Tryz.func48, Tryz.ntmps48
    go_wp2_with fail
    go_ret
    exact ⟨none, 0, rfl, World.ownsRow_nil _ _ _ _, Below.refl _ _⟩
  | some a =>
    have hR1 := hid (hR.below ((Below.refl w.heap.size w).alloc (Nat.le_refl _) (.cells #[] 3)))
    have hO := hid (show (w.alloc (.cells #[] 3)).ownsRow w.heap.size 3 1 (.slice (some ⟨w.heap.size, 0, none⟩) 0 0) 0 [] from ⟨rfl, .inr ⟨w.heap.size, 0, #[], rfl, Nat.le_refl _, heap_alloc_new w _, Nat.le_refl _, Nat.zero_le _, rfl, rfl⟩⟩)
    have hnil : ∀ W, (binOp .eql 38 (.slice (some a) l.length cap) (.slice none 0 0)).run Tryz.prog W = .ok (.bool false) W := fun W => Lib.run_eql_slice_some_nil W _ _ _ Tryz.underlying38
    clear hR
    go_enter Tryz.func48, Tryz.ntmps48
    go_wp2_with (first
      | (at_builtin; refine wpList_append_own _ rfl _ _ 38 rfl w.heap.size 3 i0 _ 1 8 Tryz.underlying38 hi hz0 hz1 hz2 rfl (by decide) _ 0 [] (by rfl) hO.out a l.length cap (l.flatMap en1) (by rfl) (length_flatMap_const en1 1 en1_len l) ?_ (en1_one l) (by unfold maxLen; omega) (by omega) (by simp) ?_))
    · intro j u hu
      rcases hR1.out with h0 | ⟨b', off', hA, hlt, hc⟩
      · rw [h0] at hu; simp at hu
      · simp only [Option.some.injEq] at hA
        subst hA
        rw [add_plain]
        exact hc j u hu
    · intro v' w' h2 h3 _
      obtain ⟨A', cap', rfl, _⟩ := own_slice h2
      have hbb := hid (((Below.refl w.heap.size w).alloc (Nat.le_refl _) (.cells #[] 3)).grown h3 (by simp) (fun k hk => by simp [Value.ownBlock] at hk; omega))
      go_wp2_with fail
      go_ret
      exact ⟨A', cap', rfl, h2, hbb.out⟩

end Go.Proofs.YtoemmakhbiiknaaGreat
