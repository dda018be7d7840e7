/-
  Definitions of flows, the document's: which step comes behind which.
  May a definition run: the document's Check.
-/
import Derived.Test.YtoemmakhbiiknaaGreatQe8
import Derived.Laws.MakeOwn
namespace Go.Proofs.YtoemmakhbiiknaaGreat
open Go.RowKit Go.WideShapes Go.ChangeShapes Go.ChangeAt Go.Deep
set_option linter.unusedVariables false

theorem wrN_of {p : Nat} (h : p ≤ 1000000) : wrap64 (p : Int) = (p : Int) ∧ IntKind.i64.wrap (p : Int) = (p : Int) := ⟨by unfold wrap64; omega, IntWalk.i64_in _ ⟨by omega, by omega⟩⟩
/-- Between the rounds. -/
structure BhS (w0 : World) (D : Nat) (nm : ByteArray) (A : Option Addr) (cp n B : Nat) (T : Nat → Nat → Bool) (w : World) : Prop where
  d : Blk w D 86 #[.string nm, .slice A n cp]
  b : Blk w B 4 (tabC n T)
  bel : Below w0.heap.size w0 w
  lo : w0.heap.size ≤ B
  ne : D ≠ B
theorem BhS.next {w0 w w' : World} {D cp n B : Nat} {nm : ByteArray} {A : Option Addr} {T : Nat → Nat → Bool} (h : BhS w0 D nm A cp n B T w) (hb : Below w.heap.size w w') : BhS w0 D nm A cp n B T w' := ⟨h.d.next hb, h.b.next hb, bthen h.bel hb, h.lo, h.ne⟩
theorem BhS.put {w0 w : World} {D cp n B : Nat} {nm : ByteArray} {A : Option Addr} {T : Nat → Nat → Bool} (h : BhS w0 D nm A cp n B T w) {i k : Nat} (hi : i < n) (hk : k < n) : BhS w0 D nm A cp n B (putT T i k) (w.setCell ⟨B, i * n + k, none⟩ (.bool true)) := by
  refine ⟨h.d.far h.ne _, ?_, h.bel.trans ((Touch.setCell w B _ _).below h.bel.size (fun k hk => by rw [hk]; exact h.lo)), h.lo, h.ne⟩
  rw [← tabC_set T hi hk]
  exact h.b.set_ _ _
/-- The first loop: what is waited for, as far as row i and place j. -/
structure TabZ (l : List Stp) (i j : Nat) (T : Nat → Nat → Bool) : Prop where
  sound : ∀ a b, T a b = true → b ∈ adj (grf l) a
  all : ∀ a b, a < i → b ∈ adj (grf l) a → T a b = true
  row : ∀ b, b ∈ (adj (grf l) i).take j → T i b = true
theorem TabZ.start (l : List Stp) : TabZ l 0 0 (fun _ _ => false) := ⟨fun a b h => (by cases h), fun a b h => (by omega), fun b h => (by simp at h)⟩
theorem TabZ.cell {l : List Stp} {i j k : Nat} {T : Nat → Nat → Bool} (h : TabZ l i j T) (hk : (adj (grf l) i)[j]? = some k) : TabZ l i (j + 1) (putT T i k) := by
  have hm : ∀ a b, T a b = true → putT T i k a b = true := fun a b e => by unfold putT; split <;> first | rfl | exact e
  refine ⟨fun a b e => ?_, fun a b ha hb => hm a b (h.all a b ha hb), fun b hb => ?_⟩
  · unfold putT at e
    split at e
    · rename_i hab
      rw [hab.1, hab.2]
      exact List.mem_of_getElem? hk
    · exact h.sound a b e
  · rw [take_succ_of hk] at hb
    rcases List.mem_append.1 hb with hb | hb
    · exact hm i b (h.row b hb)
    · simp at hb
      subst hb
      simp [putT]
theorem TabZ.next {l : List Stp} {i j : Nat} {T : Nat → Nat → Bool} (h : TabZ l i j T) (hj : (adj (grf l) i).length ≤ j) : TabZ l (i + 1) 0 T := by
  refine ⟨h.sound, fun a b ha hb => ?_, fun b hb => (by simp at hb)⟩
  by_cases e : a = i
  · subst e
    exact h.row b (by rw [List.take_of_length_le hj]; exact hb)
  · exact h.all a b (by omega) hb
theorem TabZ.tab {l : List Stp} {T : Nat → Nat → Bool} (h : TabZ l l.length 0 T) : Tab (grf l) 0 T :=
  ⟨fun a b _ _ e => .one (h.sound a b e), fun a b ha _ e => h.all a b (by rw [grf_len] at ha; exact ha) (pth_zero.1 e)⟩

set_option maxRecDepth 100000 in
set_option maxHeartbeats 32000000 in
theorem rbehind12 (nm : ByteArray) (l : List Stp) (A : Option Addr) (cp : Nat) (w : World) (hR : Rd w A (l.flatMap enSt)) (hok : ∀ s ∈ l, OkSt w s) (hl : l.length ≤ 1000) (hN : NamesOk l) :
    Calls Tryz.prog 98 #[.agg #[.string nm, .slice A l.length cp]] w fun e w' => ∃ (B : Nat) (T : Nat → Nat → Bool), e = .returned (.slice (some ⟨B, 0, none⟩) (l.length * l.length) (l.length * l.length)) ∧ Blk w' B 4 (tabC l.length T) ∧ Tab (grf l) l.length T ∧ Below w.heap.size w w' ∧ w.heap.size ≤ B := by
  have HOK := hid hok
  have HN := hid hN
  clear hok hN
  have HTZ := hid (TabZ.start l)
  have HLE := hid hl
  obtain ⟨n, hn⟩ : ∃ n, n = l.length := ⟨_, rfl⟩
  rw [← hn] at hl ⊢
  have HNE := hid hn
  clear hn
  obtain ⟨N, hNN⟩ : ∃ N, N = n * n := ⟨_, rfl⟩
  have hNb : N ≤ 1000000 := by rw [hNN]; exact Nat.mul_le_mul hl hl
  have ixN : (n : Int) * (n : Int) = (N : Int) := by rw [hNN]; push_cast; rfl
  have wrN : IntKind.i64.wrap ((n : Int) * (n : Int)) = (N : Int) := by rw [ixN]; exact IntWalk.i64_in _ ⟨by omega, by omega⟩
  have wrM : wrap64 ((n : Int) * (n : Int)) = (N : Int) := by rw [ixN]; unfold wrap64; omega
  obtain ⟨i0, hi, hz0, hz1, hz2⟩ := info_parts info_bool
  have hmk : ∀ w : World, (Instr.makeSlice 64 (.int .i64 (N : Int)) (.int .i64 (N : Int))).run Tryz.prog w = .ok (.slice (some ⟨w.heap.size, 0, none⟩) N N) (w.alloc (.cells ((Array.range N).map fun _ => Value.bool false) 4)) := fun w => by
    have := run_makeSlice (P := Tryz.prog) (w := w) 64 4 i0 (.bool false) Tryz.underlying64 hi hz0 .i64 .i64 (N : Int) (N : Int) (by omega) (Int.le_refl _) (by rw [hz1]; simp; omega) (by rw [hz2]; omega) (by omega)
    rw [hz1] at this
    simp only [Int.toNat_natCast, Nat.mul_one] at this
    rw [made_false] at this
    exact this
  clear hi hz0 hz1 hz2
  have HR := hid (show Rd w A (l.flatMap enSt) from hR)
  rw [← hNN]
  have HNN := hid hNN
  have htab : tabC n (fun _ _ => false) = (Array.range N).map fun _ => Value.bool false := by unfold tabC; rw [hNN]
  have hB0 := (Blk.new w 86 #[.string nm, .slice A n cp])
  have hwa : Below w.heap.size w (w.alloc (.cells #[.string nm, .slice A n cp] 86)) := (Below.refl _ _).alloc (Nat.le_refl _) _
  have hwb := hwa.alloc hwa.size (.cells ((Array.range N).map fun _ => Value.bool false) 4)
  have hBT := Blk.new (w.alloc (.cells #[.string nm, .slice A n cp] 86)) 4 ((Array.range N).map fun _ => Value.bool false)
  rw [← htab, World.size_alloc] at hBT
  rw [← htab] at hwb
  have hS : BhS w w.heap.size nm A cp n (w.heap.size + 1) (fun _ _ => false) ((w.alloc (.cells #[.string nm, .slice A n cp] 86)).alloc (.cells (tabC n (fun _ _ => false)) 4)) := ⟨hB0.alloc _, hBT, hwb, by omega, by omega⟩
  have HS := hid hS
  rw [← htab] at hmk
  clear hB0 hwa hwb hBT hS hNN htab
  go_enter Tryz.func98, Tryz.ntmps98
  go_upto_region 3 with fail
  obtain ⟨W, hW⟩ : ∃ W, W = (w.alloc (.cells #[.string nm, .slice A n cp] 86)).alloc (.cells (tabC n (fun _ _ => false)) 4) := ⟨_, rfl⟩
  obtain ⟨D, hD⟩ : ∃ D, D = w.heap.size := ⟨_, rfl⟩
  rw [← hW, ← hD] at HS
  rw [← hW, ← hD]
  clear hW hmk
  have HDE := hid hD
  clear hD
  go_wp2_with fail
  go_loopw [5] (fun i wr => ∃ (k : Nat) (T : Nat → Nat → Bool), k ≤ n ∧ i = .int .i64 k ∧ Hid (TabZ l k 0 T) ∧ Hid (BhS w D nm A cp n (D + 1) T wr)) (fun i _ => n - nOf i)
  case atStart => exact ⟨0, _, Nat.zero_le _, rfl, HTZ, HS⟩
  case round =>
    clear HS HTZ
    obtain ⟨k, T, hk, rfl, HZ, HS⟩ := hrel
    by_cases hlt : k < n
    · obtain ⟨s, hs⟩ : ∃ s, l[k]? = some s := ⟨l[k]'(by rw [← HNE.out]; exact hlt), List.getElem?_eq_getElem _⟩
      have HSK := hid hs
      have HSL := hid (show ∀ w' : World, Below w.heap.size w w' → ∃ (b o : Nat), A = some ⟨b, o, none⟩ ∧ (w'.cell? ⟨b, o + k * 9 + 8, none⟩ = some (.slice s.A s.after.length s.cap)) from fun w' hb => by
        obtain ⟨b, o, hA, _, hc⟩ := (HR.out.below hb).at_ 9 enSt_len (by omega) hs
        exact ⟨b, o, hA, hc 8 _ rfl⟩)
      have hlen := (HOK.out s (List.mem_of_getElem? hs)).len
      have HROW := hid (HOK.out s (List.mem_of_getElem? hs)).row
      have HADJ := hid (grf_adj hs)
      have HAF := hid (fun a (ha : a ∈ s.after) => HN.out.2 s (List.mem_of_getElem? hs) a ha)
      obtain ⟨b, o, hAA, _⟩ := HSL.out _ HS.out.bel
      subst hAA
      clear hs
      go_wp2_with fail
      have HS0 := HS
      go_loopw [6] (fun i wr => ∃ (j : Nat) (T : Nat → Nat → Bool), j ≤ s.after.length ∧ i = .int .i64 j ∧ Hid (TabZ l k j T) ∧ Hid (BhS w D nm (some ⟨b, o, none⟩) cp n (D + 1) T wr)) (fun i _ => s.after.length - nOf i)
      case atStart => exact ⟨0, _, Nat.zero_le _, rfl, HZ, HS⟩
      case round =>
        clear HZ HS HS0
        obtain ⟨j, T, hj, rfl, HZ, HS⟩ := hrel
        have d1 : wr.cell? ⟨D, 1, none⟩ = some (.slice (some ⟨b, o, none⟩) n cp) := HS.out.d.cell 1
        have lD := HS.out.d.lt
        have q8 : wr.cell? ⟨b, o + k * 9 + 8, none⟩ = some (.slice s.A s.after.length s.cap) := by
          obtain ⟨b', o', e, hq⟩ := HSL.out _ HS.out.bel
          simp only [Option.some.injEq, Addr.mk.injEq, and_true] at e
          obtain ⟨rfl, rfl⟩ := e
          exact hq
        by_cases hjl : j < s.after.length
        · obtain ⟨a, ha⟩ : ∃ a, s.after[j]? = some a := ⟨s.after[j], List.getElem?_eq_getElem hjl⟩
          obtain ⟨b2, o2, hA2, _, _⟩ := (HROW.out.below HS.out.bel).at_ 1 enB_len (by omega) ha
          have HSA := hid hA2
          obtain ⟨kk, hkk⟩ : ∃ kk, kk = l.findIdx (isNm a) := ⟨_, rfl⟩
          have hin := HAF.out a (List.mem_of_getElem? ha)
          have hkl : kk < n := by
            obtain ⟨_, _, _, h⟩ := HN.out.idx hin
            rw [hkk, HNE.out]; exact h
          have HT2 := hid (HZ.out.cell (k := kk) (by rw [HADJ.out, List.getElem?_map, ha, hkk]; rfl))
          have HPL := hid (show plc (isNm a) l = (kk : Int) from by
            unfold plc
            rw [← hkk, if_pos (by rw [← HNE.out]; exact hkl)])
          have HAJ := hid ha
          go_upto_region 9 with fail
          obtain ⟨C, hCd⟩ : ∃ C : World → Prop, ∀ w', C w' ↔ Below wr.heap.size wr w' := ⟨_, fun _ => Iff.rfl⟩
          have hC : C wr.drew := (hCd _).2 (Below.refl _ _).drew
          have d0 : ∀ p : In C, p.w.cell? ⟨D, 0, none⟩ = some (.string nm) := fun p => (HS.out.d.next ((hCd _).1 p.h)).cell 0
          have d1' : ∀ p : In C, p.w.cell? ⟨D, 1, none⟩ = some (.slice (some ⟨b, o, none⟩) n cp) := fun p => (HS.out.d.next ((hCd _).1 p.h)).cell 1
          have ld : ∀ p : In C, D < p.w.heap.size := fun p => (HS.out.d.next ((hCd _).1 p.h)).lt
          have p8 : ∀ p : In C, p.w.cell? ⟨b, o + k * 9 + 8, none⟩ = some (.slice s.A s.after.length s.cap) := fun p => by
            obtain ⟨b', o', e, hq⟩ := HSL.out _ (bthen HS.out.bel ((hCd _).1 p.h))
            simp only [Option.some.injEq, Addr.mk.injEq, and_true] at e
            obtain ⟨rfl, rfl⟩ := e
            exact hq
          have hst : ∀ p : In C, s.A = some ⟨b2, o2, none⟩ ∧ p.w.cell? ⟨b2, o2 + j, none⟩ = some (.string a) := fun p => by
            obtain ⟨b', o', e, _, hc⟩ := (HROW.out.below (bthen HS.out.bel ((hCd _).1 p.h))).at_ 1 enB_len (by omega) HAJ.out
            have e2 := HSA.out
            rw [e2] at e
            simp only [Option.some.injEq, Addr.mk.injEq, and_true] at e
            obtain ⟨rfl, rfl⟩ := e
            have := hc 0 _ rfl
            rw [Nat.mul_one] at this
            exact ⟨e2, this⟩
          have q0 : ∀ p : In C, p.w.cell? ⟨b2, o2 + j, none⟩ = some (.string a) := fun p => (hst p).2
          have hA2' := HSA.out
          have O : Hid (∀ p : In C, Calls Tryz.prog 96 #[.agg #[.string nm, .slice (some ⟨b, o, none⟩) n cp], .string a] p.w fun e w' => e = .returned (.int .i64 (kk : Int)) ∧ C w') := hid (fun p => by
            have h1 := rfind12 nm a l (some ⟨b, o, none⟩) cp p.w (HR.out.below (bthen HS.out.bel ((hCd _).1 p.h))) (by rw [← HNE.out]; omega)
            rw [HPL.out, ← HNE.out] at h1
            exact h1.mono fun _ _ ⟨e1, e2⟩ => ⟨e1, (hCd _).2 (bthen ((hCd _).1 p.h) e2)⟩)
          have HCd := hid hCd
          clear hCd d1 lD q8 hst
          generalize s.A = sA at p8 hA2'
          subst hA2'
          refine wp_region_in C (by kernel_rfl) (by kernel_rfl) hC ?_
          intro hne
          clear hC
          repeat (first | go_big_quiet_step ((go_at_call 96; exact Calls.in_of (O.out _))) | quiet_step ((go_at_call 96; exact Calls.in_of (O.out _))))
          refine wpQuiet_nil ?_
          intro wq hq
          have hS2 := HS.out.next ((HCd.out _).1 hq)
          clear d0 d1' ld p8 q0 O hne hq HCd
          have hkn : k * n + kk < N := by
            have h1 := tab_lt hlt hkl
            have h2 : (N : Int) = (n : Int) * (n : Int) := ixN.symm
            have h3 : N = n * n := by exact_mod_cast h2
            rw [h3]; exact h1
          obtain ⟨q, hq⟩ : ∃ q, q = k * n := ⟨_, rfl⟩
          have hpN : q + kk < N := by rw [hq]; exact hkn
          have hqN : q ≤ N := by omega
          have ixq : (k : Int) * (n : Int) = (q : Int) := by rw [hq]; push_cast; rfl
          have wq2 : IntKind.i64.wrap ((k : Int) * (n : Int)) = (q : Int) := by rw [ixq]; exact (wrN_of (Nat.le_trans hqN hNb)).2
          have c0 : wq.cell? ⟨D + 1, q + kk, none⟩ = some (.bool (T k kk)) := by
            rw [hS2.b.cell, hq]; exact tabC_at T hlt hkl
          have f0 : wq.frozen? ⟨D + 1, q + kk, none⟩ = false := hS2.b.free (q + kk)
          have lB := hS2.b.lt
          have hput := hS2.put hlt hkl
          rw [← hq] at hput
          have HPUT := hid hput
          clear hput hS2 hkn hq hkk ixq ixN wrN wrM
          go_wp2_with fail
          go_roundw
          case rel => exact ⟨j + 1, _, by omega, by go_num, HT2, HPUT⟩
          case measure => simp [nOf]; omega
        · have hj' : (adj (grf l) k).length ≤ j := by rw [HADJ.out, List.length_map]; omega
          have HZ2 := hid (HZ.out.next hj')
          clear hj'
          go_wp2_with fail
          go_roundw
          case rel => exact ⟨k + 1, _, by omega, by go_num, HZ2, HS⟩
          case measure => simp [nOf]; omega
    · have hk' : k = n := by omega
      have HTA := hid (show Tab (grf l) 0 T from by
        have h1 := HZ.out
        rw [hk', HNE.out] at h1
        exact h1.tab)
      have HS2 := HS
      obtain ⟨wv, hwv⟩ : ∃ wv, wv = wr := ⟨_, rfl⟩
      rw [← hwv] at HS HS2 ⊢
      clear hwv HS
      have HNb := hid (And.intro hNb (show (N : Int) = (n : Int) * (n : Int) from ixN.symm))
      clear HZ wrN wrM ixN hNb
      go_wp2_with fail
      clear hk' hlt hk
      go_loopw [8] (fun i wr => ∃ (m : Nat) (T : Nat → Nat → Bool), m ≤ n ∧ i = .int .i64 m ∧ Hid (Tab (grf l) m T) ∧ Hid (BhS w D nm A cp n (D + 1) T wr)) (fun i _ => n - nOf i)
      case atStart => exact ⟨0, T, Nat.zero_le _, rfl, HTA, HS2⟩
      case round =>
        clear HTA HS2
        obtain ⟨m, T, hm, rfl, HTA, HS⟩ := hrel
        by_cases hml : m < n
        · go_wp2_with fail
          go_loopw [9] (fun i wr => ∃ (i' : Nat) (T : Nat → Nat → Bool), i' ≤ n ∧ i = .int .i64 i' ∧ Hid (TabIn (grf l) m i' 0 T) ∧ Hid (BhS w D nm A cp n (D + 1) T wr)) (fun i _ => n - nOf i)
          case atStart => exact ⟨0, T, Nat.zero_le _, rfl, hid (TabIn.start HTA.out), HS⟩
          case round =>
            clear HTA HS
            obtain ⟨i, T, hi, rfl, HTI, HS⟩ := hrel
            by_cases hil : i < n
            · go_wp2_with fail
              go_loopw [10] (fun j wr => ∃ (k' : Nat) (T : Nat → Nat → Bool), k' ≤ n ∧ j = .int .i64 k' ∧ Hid (TabIn (grf l) m i k' T) ∧ Hid (BhS w D nm A cp n (D + 1) T wr)) (fun j _ => n - nOf j)
              case atStart => exact ⟨0, T, Nat.zero_le _, rfl, HTI, HS⟩
              case round =>
                clear HTI HS
                obtain ⟨k, T, hk, rfl, HTI, HS⟩ := hrel
                by_cases hkl : k < n
                · have HCELL := hid (HTI.out.cell (by rw [grf_len, ← HNE.out]; exact hml) (by rw [grf_len, ← HNE.out]; exact hil) (by rw [grf_len, ← HNE.out]; exact hkl))
                  obtain ⟨q, hq⟩ : ∃ q, q = i * n := ⟨_, rfl⟩
                  obtain ⟨r, hr⟩ : ∃ r, r = m * n := ⟨_, rfl⟩
                  have hN2 : N = n * n := by have := HNb.out.2; exact_mod_cast this
                  have hqm : q + m < N := by rw [hq, hN2]; exact tab_lt hil hml
                  have hrk : r + k < N := by rw [hr, hN2]; exact tab_lt hml hkl
                  have hqk : q + k < N := by rw [hq, hN2]; exact tab_lt hil hkl
                  have hNl := HNb.out.1
                  have c1 : wr.cell? ⟨D + 1, q + m, none⟩ = some (.bool (T i m)) := by
                    rw [HS.out.b.cell, hq]; exact tabC_at T hil hml
                  have c2 : wr.cell? ⟨D + 1, r + k, none⟩ = some (.bool (T m k)) := by
                    rw [HS.out.b.cell, hr]; exact tabC_at T hml hkl
                  have c3 : wr.cell? ⟨D + 1, q + k, none⟩ = some (.bool (T i k)) := by
                    rw [HS.out.b.cell, hq]; exact tabC_at T hil hkl
                  have f3 : wr.frozen? ⟨D + 1, q + k, none⟩ = false := HS.out.b.free (q + k)
                  have lB := HS.out.b.lt
                  have HPUT := hid (show BhS w D nm A cp n (D + 1) (putT T i k) (wr.setCell ⟨D + 1, q + k, none⟩ (.bool true)) from by have := HS.out.put hil hkl; rw [← hq] at this; exact this)
                  have wq : IntKind.i64.wrap ((i : Int) * (n : Int)) = (q : Int) := by
                    rw [show (i : Int) * (n : Int) = (q : Int) from by rw [hq]; push_cast; rfl]; exact (wrN_of (by omega)).2
                  have wr2 : IntKind.i64.wrap ((m : Int) * (n : Int)) = (r : Int) := by
                    rw [show (m : Int) * (n : Int) = (r : Int) from by rw [hr]; push_cast; rfl]; exact (wrN_of (by omega)).2
                  clear hq hr hN2
                  obtain ⟨t1, ht1⟩ : ∃ t, t = T i m := ⟨_, rfl⟩
                  obtain ⟨t2, ht2⟩ : ∃ t, t = T m k := ⟨_, rfl⟩
                  rw [← ht1] at c1
                  rw [← ht2] at c2
                  rw [← ht1, ← ht2] at HCELL
                  clear ht1 ht2
                  go_upto_region 20 with fail
                  go_cut [84] (fun v wx => v = .bool (t1 && t2) ∧ wx = wr)
                  case first =>
                    clear c3 f3 HPUT HCELL hqk
                    cases t1 with
                    | false =>
                      clear c2 wr2 hrk
                      go_wp2_with fail
                      go_meet
                      exact ⟨rfl, rfl⟩
                    | true =>
                      go_wp2_with fail
                      go_meet
                      exact ⟨rfl, rfl⟩
                  case rest =>
                    obtain ⟨rfl, hwx⟩ := hcut
                    rw [hwx]
                    clear hwx c1 c2 wr2 hqm hrk
                    obtain ⟨tb, htb⟩ : ∃ tb, tb = (t1 && t2) := ⟨_, rfl⟩
                    rw [← htb] at HCELL ⊢
                    clear htb
                    cases tb with
                    | false =>
                      have HC2 := hid HCELL.out
                      simp only [Bool.false_eq_true, if_false] at HC2
                      clear c3 f3 wq HCELL hqk
                      go_wp2_with fail
                      go_roundw
                      case rel => exact ⟨k + 1, T, by omega, by go_num, HC2, HS⟩
                      case measure => simp [nOf]; omega
                    | true =>
                      have HC2 := hid HCELL.out
                      simp only [if_true] at HC2
                      clear HCELL
                      go_wp2_with fail
                      go_roundw
                      case rel => exact ⟨k + 1, _, by omega, by go_num, HC2, HPUT⟩
                      case measure => simp [nOf]; omega
                · have hk' : k = n := by omega
                  have HT2 := hid (show TabIn (grf l) m (i + 1) 0 T from by
                    have h1 := HTI.out
                    rw [hk', HNE.out, ← grf_len] at h1
                    exact h1.row)
                  clear HTI
                  go_wp2_with fail
                  go_roundw
                  case rel => exact ⟨i + 1, T, by omega, by go_num, HT2, HS⟩
                  case measure => simp [nOf]; omega
            · have hi' : i = n := by omega
              have HT2 := hid (show Tab (grf l) (m + 1) T from by
                have h1 := HTI.out
                rw [hi', HNE.out, ← grf_len] at h1
                exact h1.round)
              clear HTI
              go_wp2_with fail
              go_roundw
              case rel => exact ⟨m + 1, T, by omega, by go_num, HT2, HS⟩
              case measure => simp [nOf]; omega
        · have hm' : m = n := by omega
          have HT2 := hid (show Tab (grf l) n T from by
            have h1 := HTA.out
            rw [hm'] at h1
            exact h1)
          clear HTA
          go_wp2_with fail
          go_ret
          have h2 := HT2.out
          exact ⟨D + 1, T, rfl, HS.out.b, h2, HS.out.bel, HS.out.lo⟩

end Go.Proofs.YtoemmakhbiiknaaGreat

namespace Go.Proofs.YtoemmakhbiiknaaGreat
open Go.RowKit Go.WideShapes Go.ChangeShapes Go.ChangeAt Go.Deep
set_option linter.unusedVariables false

set_option maxRecDepth 100000 in
set_option maxHeartbeats 8000000 in
theorem rfin_any (s : Stp) (w : World) : Calls Tryz.prog 99 #[.agg (enSt s).toArray] w fun e w' => e = .returned (.bool (isFin s)) ∧ Below w.heap.size w w' := by
  obtain ⟨xn, xv, xu, xe, xf, xr, xy, xw, xA, xc, xl⟩ := s
  rw [show (enSt ⟨xn, xv, xu, xe, xf, xr, xy, xw, xA, xc, xl⟩).toArray = #[.string xn, .string xv, .string xu, .string xe, .bool xf, .int .i64 xr, .int .i64 xy, .int .i64 xw, .slice xA xl.length xc] from rfl]
  have HB : Hid (Below w.heap.size w (w.alloc (.cells #[.string xn, .string xv, .string xu, .string xe, .bool xf, .int .i64 xr, .int .i64 xy, .int .i64 xw, .slice xA xl.length xc] 156))) := hid ((Below.refl _ _).alloc (Nat.le_refl _) _)
  have HV := hid (show isFin ⟨xn, xv, xu, xe, xf, xr, xy, xw, xA, xc, xl⟩ = (xe.toList.isEmpty && xf) from rfl)
  cases he : xe.toList.isEmpty with
  | false =>
    go_enter Tryz.func99, Tryz.ntmps99
    go_wp2_with fail
    go_ret
    exact ⟨by rw [HV.out, he]; rfl, HB.out⟩
  | true =>
    go_enter Tryz.func99, Tryz.ntmps99
    go_wp2_with fail
    go_ret
    exact ⟨by rw [HV.out, he]; rfl, HB.out⟩
theorem plc_nm {l : List Stp} {a : ByteArray} (h : a ∈ l.map Stp.name) : ∃ k : Nat, k < l.length ∧ plc (isNm a) l = (k : Int) ∧ l.findIdx (isNm a) = k := by
  obtain ⟨s, hs, e⟩ := List.mem_map.1 h
  have hlt : l.findIdx (isNm a) < l.length := List.findIdx_lt_length_of_exists ⟨s, hs, (isNm_iff a s).2 e⟩
  refine ⟨_, hlt, ?_, rfl⟩
  unfold plc
  rw [if_pos hlt]
theorem plc_no {l : List Stp} {a : ByteArray} (h : a ∉ l.map Stp.name) : plc (isNm a) l = -1 := by
  unfold plc
  rw [if_neg]
  intro hlt
  have h1 := List.findIdx_getElem (w := hlt)
  exact h (List.mem_map.2 ⟨_, List.getElem_mem hlt, (isNm_iff a _).1 h1⟩)
/-- Each of the first k steps is the first with its name. -/
def FstOk (l : List Stp) (k : Nat) : Prop := ∀ (j : Nat) (s : Stp), j < k → l[j]? = some s → plc (isNm s.name) l = (j : Int)
theorem fst_nodup {l : List Stp} (h : FstOk l l.length) : (l.map Stp.name).Nodup := by
  refine List.pairwise_iff_getElem.2 fun i j hi hj hij e => ?_
  rw [List.length_map] at hi hj
  rw [List.getElem_map, List.getElem_map] at e
  have h1 := h i _ hi (List.getElem?_eq_getElem hi)
  have h2 := h j _ hj (List.getElem?_eq_getElem hj)
  rw [e] at h1
  rw [h1] at h2
  omega
theorem nm_find {l : List Stp} (h : NamesOk l) {i : Nat} {s : Stp} (hs : l[i]? = some s) : l.findIdx (isNm s.name) = i := by
  obtain ⟨s', h1, h2, h3⟩ := h.idx (List.mem_map_of_mem (List.mem_of_getElem? hs))
  have hi : i < l.length := (List.getElem?_eq_some_iff.1 hs).1
  have hlen : l.findIdx (isNm s.name) < (l.map Stp.name).length := by rw [List.length_map]; exact h3
  refine (List.getElem?_inj hlen h.1).1 ?_
  rw [List.getElem?_map, List.getElem?_map, h1, hs]
  simp [h2]
/-- A step that is not the first with its name. -/
theorem not_names {l : List Stp} {k : Nat} {s : Stp} (hs : l[k]? = some s) (h : plc (isNm s.name) l ≠ (k : Int)) : ¬ NamesOk l := fun hN => by
  have h1 := nm_find hN hs
  have hk : k < l.length := (List.getElem?_eq_some_iff.1 hs).1
  apply h
  unfold plc
  rw [h1, if_pos hk]
structure CkS2 (w0 : World) (D : Nat) (nm : ByteArray) (A : Option Addr) (n cp : Nat) (w : World) : Prop where
  d : Blk w D 86 #[.string nm, .slice A n cp]
  bel : Below w0.heap.size w0 w
theorem CkS2.next {w0 w w' : World} {D n cp : Nat} {nm : ByteArray} {A : Option Addr} (h : CkS2 w0 D nm A n cp w) (hb : Below w.heap.size w w') : CkS2 w0 D nm A n cp w' := ⟨h.d.next hb, bthen h.bel hb⟩

set_option maxRecDepth 100000 in
set_option maxHeartbeats 32000000 in
theorem rcheck_any (nm : ByteArray) (l : List Stp) (A : Option Addr) (cp : Nat) (w : World) (hR : Rd w A (l.flatMap enSt)) (hok : ∀ s ∈ l, OkSt w s) (hl : l.length ≤ 1000) :
    Calls Tryz.prog 68 #[.agg #[.string nm, .slice A l.length cp]] w fun e w' => e = .returned (.int .i64 (checkN l)) ∧ Below w.heap.size w w' := by
  have HOK := hid hok
  have HR := hid hR
  clear hok hR
  have hD0 := Blk.new w 86 #[.string nm, .slice A l.length cp]
  have b0 : Below w.heap.size w (w.alloc (.cells #[.string nm, .slice A l.length cp] 86)) := (Below.refl _ _).alloc (Nat.le_refl _) _
  obtain ⟨W, e1⟩ : ∃ W, W = w.alloc (.cells #[.string nm, .slice A l.length cp] 86) := ⟨_, rfl⟩
  obtain ⟨D, g1⟩ : ∃ D, D = w.heap.size := ⟨_, rfl⟩
  rw [← e1] at hD0 b0
  rw [← g1] at hD0
  have HE := hid (And.intro e1 g1)
  have HS := hid (show CkS2 w D nm A l.length cp W from ⟨hD0, b0⟩)
  have d1 : W.cell? ⟨D, 1, none⟩ = some (.slice A l.length cp) := hD0.cell 1
  have lD := hD0.lt
  clear hD0 b0 e1 g1
  obtain ⟨n, hn⟩ : ∃ n, n = l.length := ⟨_, rfl⟩
  have HN := hid hn
  rw [← hn] at hl d1 HS HE ⊢
  clear hn
  go_enter Tryz.func68, Tryz.ntmps68
  go_upto_region 1 with fail
  rw [← HE.out.1, ← HE.out.2]
  clear HE
  go_wp2_with fail
  clear d1 lD
  go_loopw [4] (fun i wr => ∃ k : Nat, k ≤ n ∧ i = .int .i64 k ∧ Hid (FstOk l k ∧ ∀ s ∈ l.take k, ∀ a ∈ s.after, a ∈ l.map Stp.name) ∧ Hid (CkS2 w D nm A n cp wr)) (fun i _ => n - nOf i)
  case atStart => exact ⟨0, Nat.zero_le _, rfl, hid ⟨fun j s hj => by omega, fun s hs => by simp at hs⟩, HS⟩
  case round =>
    clear HS
    obtain ⟨k, hk, rfl, HI, HS⟩ := hrel
    by_cases hlt : k < n
    · obtain ⟨s, hs⟩ : ∃ s, l[k]? = some s := ⟨l[k]'(by rw [← HN.out]; exact hlt), List.getElem?_eq_getElem _⟩
      have HSK := hid hs
      have HSL := hid (show ∀ w' : World, Below w.heap.size w w' → ∃ (b o : Nat), A = some ⟨b, o, none⟩ ∧ w'.cell? ⟨b, o + k * 9, none⟩ = some (.string s.name) ∧ (w'.cell? ⟨b, o + k * 9 + 8, none⟩ = some (.slice s.A s.after.length s.cap)) from fun w' hb => by
        obtain ⟨b, o, hA, _, hc⟩ := (HR.out.below hb).at_ 9 enSt_len (by omega) hs
        exact ⟨b, o, hA, hc 0 _ rfl, hc 8 _ rfl⟩)
      have hlen := (HOK.out s (List.mem_of_getElem? hs)).len
      have HROW := hid (HOK.out s (List.mem_of_getElem? hs)).row
      have HTK := hid (take_succ_of hs)
      obtain ⟨b, o, hAA, _⟩ := HSL.out _ HS.out.bel
      subst hAA
      obtain ⟨pk, hpk⟩ : ∃ pk, pk = plc (isNm s.name) l := ⟨_, rfl⟩
      have HPK := hid hpk
      obtain ⟨xn, hxn⟩ : ∃ xn, xn = s.name := ⟨_, rfl⟩
      have HXN := hid hxn
      clear hs hpk hxn
      go_upto_region 5 with fail
      obtain ⟨C, hCd⟩ : ∃ C : World → Prop, ∀ w', C w' ↔ Below wr.heap.size wr w' := ⟨_, fun _ => Iff.rfl⟩
      have hC : C wr.drew := (hCd _).2 (Below.refl _ _).drew
      have d0 : ∀ p : In C, p.w.cell? ⟨D, 0, none⟩ = some (.string nm) := fun p => (HS.out.d.next ((hCd _).1 p.h)).cell 0
      have d1 : ∀ p : In C, p.w.cell? ⟨D, 1, none⟩ = some (.slice (some ⟨b, o, none⟩) n cp) := fun p => (HS.out.d.next ((hCd _).1 p.h)).cell 1
      have ld : ∀ p : In C, D < p.w.heap.size := fun p => (HS.out.d.next ((hCd _).1 p.h)).lt
      have p0 : ∀ p : In C, p.w.cell? ⟨b, o + k * 9, none⟩ = some (.string xn) := fun p => by
        obtain ⟨b', o', e, hq, _⟩ := HSL.out _ (bthen HS.out.bel ((hCd _).1 p.h))
        simp only [Option.some.injEq, Addr.mk.injEq, and_true] at e
        obtain ⟨rfl, rfl⟩ := e
        rw [HXN.out]
        exact hq
      have O : Hid (∀ p : In C, Calls Tryz.prog 96 #[.agg #[.string nm, .slice (some ⟨b, o, none⟩) n cp], .string xn] p.w fun e w' => e = .returned (.int .i64 pk) ∧ C w') := hid (fun p => by
        have h1 := rfind12 nm xn l (some ⟨b, o, none⟩) cp p.w (HR.out.below (bthen HS.out.bel ((hCd _).1 p.h))) (by rw [← HN.out]; omega)
        rw [HXN.out, ← HPK.out, ← HN.out, ← HXN.out] at h1
        exact h1.mono fun _ _ ⟨e1, e2⟩ => ⟨e1, (hCd _).2 (bthen ((hCd _).1 p.h) e2)⟩)
      have HCd := hid hCd
      clear hCd
      refine wp_region_in C (by kernel_rfl) (by kernel_rfl) hC ?_
      intro hne
      clear hC
      repeat (first | go_big_quiet_step ((go_at_call 96; exact Calls.in_of (O.out _))) | quiet_step ((go_at_call 96; exact Calls.in_of (O.out _))))
      refine wpQuiet_nil ?_
      intro wq hq
      have HS2 := hid (HS.out.next ((HCd.out _).1 hq))
      clear d0 d1 ld p0 O hne hq HCd HS
      by_cases hpe : pk = (k : Int)
      · have HPE := hid hpe
        have te : (pk != (k : Int)) = false := by simp [hpe]
        clear hpe
        go_wp2_with fail
        clear te
        have HSx := HS2
        go_loopw [6] (fun i wr => ∃ j : Nat, j ≤ s.after.length ∧ i = .int .i64 j ∧ Hid (∀ a ∈ s.after.take j, a ∈ l.map Stp.name) ∧ Hid (CkS2 w D nm (some ⟨b, o, none⟩) n cp wr)) (fun i _ => s.after.length - nOf i)
        case atStart => exact ⟨0, Nat.zero_le _, rfl, hid (fun a ha => by simp at ha), HSx⟩
        case round =>
          clear HSx HS2
          obtain ⟨j, hj, rfl, HJ, HS⟩ := hrel
          have d1 : wr.cell? ⟨D, 1, none⟩ = some (.slice (some ⟨b, o, none⟩) n cp) := HS.out.d.cell 1
          have lD := HS.out.d.lt
          have q8 : wr.cell? ⟨b, o + k * 9 + 8, none⟩ = some (.slice s.A s.after.length s.cap) := by
            obtain ⟨b', o', e, _, hq⟩ := HSL.out _ HS.out.bel
            simp only [Option.some.injEq, Addr.mk.injEq, and_true] at e
            obtain ⟨rfl, rfl⟩ := e
            exact hq
          by_cases hjl : j < s.after.length
          · obtain ⟨a, ha⟩ : ∃ a, s.after[j]? = some a := ⟨s.after[j], List.getElem?_eq_getElem hjl⟩
            obtain ⟨b2, o2, hA2, _, _⟩ := (HROW.out.below HS.out.bel).at_ 1 enB_len (by omega) ha
            have HSA := hid hA2
            obtain ⟨pa, hpa⟩ : ∃ pa, pa = plc (isNm a) l := ⟨_, rfl⟩
            have HPA := hid hpa
            have HAJ := hid ha
            clear hpa ha hA2
            go_upto_region 11 with fail
            obtain ⟨C, hCd⟩ : ∃ C : World → Prop, ∀ w', C w' ↔ Below wr.heap.size wr w' := ⟨_, fun _ => Iff.rfl⟩
            have hC : C wr.drew := (hCd _).2 (Below.refl _ _).drew
            have d0 : ∀ p : In C, p.w.cell? ⟨D, 0, none⟩ = some (.string nm) := fun p => (HS.out.d.next ((hCd _).1 p.h)).cell 0
            have d1' : ∀ p : In C, p.w.cell? ⟨D, 1, none⟩ = some (.slice (some ⟨b, o, none⟩) n cp) := fun p => (HS.out.d.next ((hCd _).1 p.h)).cell 1
            have ld : ∀ p : In C, D < p.w.heap.size := fun p => (HS.out.d.next ((hCd _).1 p.h)).lt
            have p8 : ∀ p : In C, p.w.cell? ⟨b, o + k * 9 + 8, none⟩ = some (.slice s.A s.after.length s.cap) := fun p => by
              obtain ⟨b', o', e, _, hq⟩ := HSL.out _ (bthen HS.out.bel ((hCd _).1 p.h))
              simp only [Option.some.injEq, Addr.mk.injEq, and_true] at e
              obtain ⟨rfl, rfl⟩ := e
              exact hq
            have q0 : ∀ p : In C, p.w.cell? ⟨b2, o2 + j, none⟩ = some (.string a) := fun p => by
              obtain ⟨b', o', e, _, hc⟩ := (HROW.out.below (bthen HS.out.bel ((hCd _).1 p.h))).at_ 1 enB_len (by omega) HAJ.out
              rw [HSA.out] at e
              simp only [Option.some.injEq, Addr.mk.injEq, and_true] at e
              obtain ⟨rfl, rfl⟩ := e
              have := hc 0 _ rfl
              rw [Nat.mul_one] at this
              exact this
            have O : Hid (∀ p : In C, Calls Tryz.prog 96 #[.agg #[.string nm, .slice (some ⟨b, o, none⟩) n cp], .string a] p.w fun e w' => e = .returned (.int .i64 pa) ∧ C w') := hid (fun p => by
              have h1 := rfind12 nm a l (some ⟨b, o, none⟩) cp p.w (HR.out.below (bthen HS.out.bel ((hCd _).1 p.h))) (by rw [← HN.out]; omega)
              rw [← HPA.out, ← HN.out] at h1
              exact h1.mono fun _ _ ⟨e1, e2⟩ => ⟨e1, (hCd _).2 (bthen ((hCd _).1 p.h) e2)⟩)
            have HCd := hid hCd
            have hA2' := HSA.out
            clear hCd d1 lD q8
            generalize s.A = sA at p8 hA2'
            subst hA2'
            refine wp_region_in C (by kernel_rfl) (by kernel_rfl) hC ?_
            intro hne
            clear hC
            repeat (first | go_big_quiet_step ((go_at_call 96; exact Calls.in_of (O.out _))) | quiet_step ((go_at_call 96; exact Calls.in_of (O.out _))))
            refine wpQuiet_nil ?_
            intro wq hq
            have HS2 := hid (HS.out.next ((HCd.out _).1 hq))
            clear d0 d1' ld p8 q0 O hne hq HCd HS
            by_cases hin : a ∈ l.map Stp.name
            · obtain ⟨kk, hkk, h1, _⟩ := plc_nm hin
              rw [h1] at HPA
              have hpe := HPA.out
              subst hpe
              have HIN := hid hin
              clear h1 hin
              go_wp2_with fail
              go_roundw
              case rel => exact ⟨j + 1, by omega, by go_num, hid (fun x hx => by
                rw [take_succ_of HAJ.out] at hx
                rcases List.mem_append.1 hx with hx | hx
                · exact HJ.out x hx
                · simp at hx; subst hx; exact HIN.out), HS2⟩
              case measure => simp [nOf]; omega
            · have h1 := plc_no hin
              rw [h1] at HPA
              have hpe := HPA.out
              subst hpe
              have HV := hid (checkN_name (l := l) (fun hN => hin (hN.2 s (List.mem_of_getElem? HSK.out) a (List.mem_of_getElem? HAJ.out))))
              clear h1 hin
              go_wp2_with fail
              go_ret
              exact ⟨by rw [HV.out]; rfl, HS2.out.bel⟩
          · have hj' : j = s.after.length := by omega
            have HJ2 := hid (show FstOk l (k + 1) ∧ ∀ x ∈ l.take (k + 1), ∀ a ∈ x.after, a ∈ l.map Stp.name from by
              have h1 := HJ.out
              rw [hj', List.take_length] at h1
              refine ⟨fun i x hi hx => ?_, fun x hx => ?_⟩
              · by_cases e : i = k
                · subst e
                  rw [HSK.out] at hx
                  injection hx with hx
                  subst hx
                  rw [← HPK.out, HPE.out]
                · exact HI.out.1 i x (by omega) hx
              · rw [HTK.out] at hx
                rcases List.mem_append.1 hx with hx | hx
                · exact HI.out.2 x hx
                · simp at hx; subst hx; exact h1)
            go_wp2_with fail
            go_roundw
            case rel => exact ⟨k + 1, by omega, by go_num, HJ2, HS⟩
            case measure => simp [nOf]; omega
      · have te : (pk != (k : Int)) = true := by simp [hpe]
        have HV := hid (checkN_name (not_names HSK.out (by rw [← HPK.out]; exact hpe)))
        clear hpe
        go_wp2_with fail
        go_ret
        exact ⟨by rw [HV.out]; rfl, HS2.out.bel⟩
    · have hk' : k = n := by omega
      have HNM := hid (show NamesOk l from by
        have h1 := HI.out
        rw [hk', HN.out] at h1
        refine ⟨fst_nodup h1.1, fun s hs a ha => h1.2 s (by rw [List.take_length]; exact hs) a ha⟩)
      clear HI hk' hk
      go_wp2_with fail
      clear hlt
      obtain ⟨wv, hwv⟩ : ∃ wv, wv = wr := ⟨_, rfl⟩
      rw [← hwv] at HS ⊢
      clear hwv
      have HS2 := HS
      go_loopw [8] (fun i wr => ∃ k : Nat, k ≤ n ∧ i = .int .i64 k ∧ Hid (∀ (j : Nat) (y : Stp), j < k → l[j]? = some y → oneN y = 0) ∧ Hid (CkS2 w D nm A n cp wr)) (fun i _ => n - nOf i)
      case atStart => exact ⟨0, Nat.zero_le _, rfl, hid (fun j y hj => by omega), HS2⟩
      case round =>
        clear HS2 HS
        obtain ⟨k, hk, rfl, HI, HS⟩ := hrel
        by_cases hlt : k < n
        · obtain ⟨s, hs⟩ : ∃ s, l[k]? = some s := ⟨l[k]'(by rw [← HN.out]; exact hlt), List.getElem?_eq_getElem _⟩
          have HSK := hid hs
          obtain ⟨b, o, hAA, _, hcc⟩ := (HR.out.below HS.out.bel).at_ 9 enSt_len (by omega) hs
          have d1 : wr.cell? ⟨D, 1, none⟩ = some (.slice A n cp) := HS.out.d.cell 1
          have lD := HS.out.d.lt
          have KO := hid (rstep_one s wr)
          obtain ⟨c, hc⟩ : ∃ c, c = oneN s := ⟨_, rfl⟩
          rw [← hc] at KO
          have HC := hid hc
          obtain ⟨xn, xv, xu, xe, xf, xr, xy, xw, xA, xc, xl⟩ := s
          rw [show (enSt (⟨xn, xv, xu, xe, xf, xr, xy, xw, xA, xc, xl⟩ : Stp)).toArray = #[.string xn, .string xv, .string xu, .string xe, .bool xf, .int .i64 xr, .int .i64 xy, .int .i64 xw, .slice xA xl.length xc] from rfl] at KO
          subst hAA
          have q0 : wr.cell? ⟨b, o + k * 9, none⟩ = some (.string xn) := hcc 0 _ rfl
          have q1 : wr.cell? ⟨b, o + k * 9 + 1, none⟩ = some (.string xv) := hcc 1 _ rfl
          have q2 : wr.cell? ⟨b, o + k * 9 + 2, none⟩ = some (.string xu) := hcc 2 _ rfl
          have q3 : wr.cell? ⟨b, o + k * 9 + 3, none⟩ = some (.string xe) := hcc 3 _ rfl
          have q4 : wr.cell? ⟨b, o + k * 9 + 4, none⟩ = some (.bool xf) := hcc 4 _ rfl
          have q5 : wr.cell? ⟨b, o + k * 9 + 5, none⟩ = some (.int .i64 xr) := hcc 5 _ rfl
          have q6 : wr.cell? ⟨b, o + k * 9 + 6, none⟩ = some (.int .i64 xy) := hcc 6 _ rfl
          have q7 : wr.cell? ⟨b, o + k * 9 + 7, none⟩ = some (.int .i64 xw) := hcc 7 _ rfl
          have q8 : wr.cell? ⟨b, o + k * 9 + 8, none⟩ = some (.slice xA xl.length xc) := hcc 8 _ rfl
          clear hcc hs hc
          go_wp2_with fail
          refine KO.out.mono ?_
          rintro e w2 ⟨rfl, hb2⟩
          have HS2 := hid (HS.out.next hb2)
          clear q0 q1 q2 q3 q4 q5 q6 q7 q8 d1 lD KO hb2 HS
          by_cases hz : c = 0
          · have tz : (c != 0) = false := by simp [hz]
            have HZ := hid hz
            clear hz
            go_wp2_with fail
            go_roundw
            case rel => exact ⟨k + 1, by omega, by go_num, hid (fun j y hj hy => by
              by_cases e : j = k
              · subst e; rw [HSK.out] at hy; injection hy with hy; subst hy; rw [← HC.out, HZ.out]
              · exact HI.out j y (by omega) hy), HS2⟩
            case measure => simp [nOf]; omega
          · have tz : (c != 0) = true := by simp [hz]
            have h1 := fstN_some HSK.out (by rw [← HC.out]; exact hz) HI.out
            have HV := hid (checkN_one HNM.out (by rw [h1, ← HC.out]; exact hz))
            rw [h1, ← HC.out] at HV
            clear hz h1
            go_wp2_with fail
            go_ret
            exact ⟨by rw [HV.out]; rfl, HS2.out.bel⟩
        · have hk' : k = n := by omega
          have HF := hid (show fstN l = 0 from fstN_none (fun y hy => by
            obtain ⟨j, hj⟩ := List.mem_iff_getElem?.1 hy
            exact HI.out j y (by rw [hk', HN.out]; exact (List.getElem?_eq_some_iff.1 hj).1) hj))
          have d0 : wr.cell? ⟨D, 0, none⟩ = some (.string nm) := HS.out.d.cell 0
          have d1 : wr.cell? ⟨D, 1, none⟩ = some (.slice A n cp) := HS.out.d.cell 1
          have lD := HS.out.d.lt
          have KB := hid (rbehind12 nm l A cp wr (HR.out.below HS.out.bel) (fun s hs => (HOK.out s hs).next HS.out.bel) (by rw [← HN.out]; exact hl) HNM.out)
          rw [← HN.out] at KB
          clear HI hk' hk
          go_wp2_with fail
          clear hlt
          refine KB.out.mono ?_
          rintro e w2 ⟨B, T, rfl, hBB, hTT, hb2, _⟩
          obtain ⟨N, hNN⟩ : ∃ N, N = n * n := ⟨_, rfl⟩
          have hnn : N ≤ 1000000 := by rw [hNN]; exact Nat.mul_le_mul hl hl
          rw [← hNN]
          have HNN := hid hNN
          clear hNN
          have HS2 := hid (And.intro (HS.out.next hb2) hBB)
          have HTT := hid (fun (i k : Nat) (hi : i < n) (hk : k < n) => show T i k = true ↔ Rch (grf l) i k from by
            have h1 := hTT
            rw [HN.out, ← grf_len] at h1
            exact h1.done (grf_shut HNM.out) (by rw [grf_len, ← HN.out]; exact hi) (by rw [grf_len, ← HN.out]; exact hk))
          clear hBB hTT hb2 d0 d1 lD KB HS
          go_wp2_with fail
          go_loopw [11] (fun i wr => ∃ k : Nat, k ≤ n ∧ i = .int .i64 k ∧ wr = w2 ∧ Hid (∀ j : Nat, j < k → ¬ Rch (grf l) j j)) (fun i _ => n - nOf i)
          case atStart => exact ⟨0, Nat.zero_le _, rfl, rfl, hid (fun j hj => by omega)⟩
          case round =>
            obtain ⟨k, hk, rfl, rfl, HI⟩ := hrel
            by_cases hlt : k < n
            · obtain ⟨q, hq⟩ : ∃ q, q = k * n := ⟨_, rfl⟩
              have hqb : q + k < N := by rw [hq, HNN.out]; exact tab_lt hlt hlt
              have hqB : q ≤ 1000000 := by omega
              have c0 : wr.cell? ⟨B, q + k, none⟩ = some (.bool (T k k)) := by
                rw [HS2.out.2.cell, hq]; exact tabC_at T hlt hlt
              have lB := HS2.out.2.lt
              have wq : IntKind.i64.wrap ((k : Int) * (n : Int)) = (q : Int) := by
                rw [show (k : Int) * (n : Int) = (q : Int) from by rw [hq]; push_cast; rfl]; exact (wrN_of hqB).2
              have HTK := hid (HTT.out k k hlt hlt)
              obtain ⟨t, ht⟩ : ∃ t, t = T k k := ⟨_, rfl⟩
              rw [← ht] at c0 HTK
              clear ht hq
              cases t with
              | true =>
                have HV := hid (checkN_cyc HNM.out HF.out (fun hA => hA k (HTK.out.1 rfl)))
                go_wp2_with fail
                go_ret
                exact ⟨by rw [HV.out]; rfl, HS2.out.1.bel⟩
              | false =>
                go_wp2_with fail
                go_roundw
                case rel => exact ⟨k + 1, by omega, by go_num, (by first | rfl | trivial), hid (fun j hj hr => by
                  by_cases e : j = k
                  · subst e; have := HTK.out.2 hr; cases this
                  · exact HI.out j (by omega) hr)⟩
                case measure => simp [nOf]; omega
            · have hk' : k = n := by omega
              have HA := hid (show Acy (grf l) from fun i hr => by
                have h1 := (hr.lt (grf_shut HNM.out)).1
                rw [grf_len, ← HN.out] at h1
                exact HI.out i (by omega) hr)
              clear HI hk' hk
              go_wp2_with fail
              clear hlt
              obtain ⟨wz, hwz⟩ : ∃ wz, wz = wr := ⟨_, rfl⟩
              rw [← hwz] at HS2 ⊢
              clear hwz
              have HS3 := HS2
              go_loopw [12] (fun i wr => ∃ k : Nat, k ≤ n ∧ i = .int .i64 k ∧ Hid (CkS2 w D nm A n cp wr ∧ Blk wr B 4 (tabC n T)) ∧ Hid (∀ (i : Nat) (s : Stp), i < k → l[i]? = some s → isFin s = true → ∀ x ∈ l, isFin x = false → Rch (grf l) i (l.findIdx (isNm x.name)))) (fun i _ => n - nOf i)
              case atStart => exact ⟨0, Nat.zero_le _, rfl, HS3, hid (fun i s hi => by omega)⟩
              case round =>
                clear HS3 HS2
                obtain ⟨k, hk, rfl, HS, HI⟩ := hrel
                by_cases hlt : k < n
                · obtain ⟨s, hs⟩ : ∃ s, l[k]? = some s := ⟨l[k]'(by rw [← HN.out]; exact hlt), List.getElem?_eq_getElem _⟩
                  have HSK := hid hs
                  obtain ⟨b, o, hAA, _, hcc⟩ := (HR.out.below HS.out.1.bel).at_ 9 enSt_len (by omega) hs
                  have d1 : wr.cell? ⟨D, 1, none⟩ = some (.slice A n cp) := HS.out.1.d.cell 1
                  have lD := HS.out.1.d.lt
                  have KO := hid (rfin_any s wr)
                  obtain ⟨fs, hfs⟩ : ∃ c, c = isFin s := ⟨_, rfl⟩
                  rw [← hfs] at KO
                  have HFS := hid hfs
                  obtain ⟨xn, xv, xu, xe, xf, xr, xy, xw, xA, xc, xl⟩ := s
                  rw [show (enSt (⟨xn, xv, xu, xe, xf, xr, xy, xw, xA, xc, xl⟩ : Stp)).toArray = #[.string xn, .string xv, .string xu, .string xe, .bool xf, .int .i64 xr, .int .i64 xy, .int .i64 xw, .slice xA xl.length xc] from rfl] at KO
                  subst hAA
                  have q0 : wr.cell? ⟨b, o + k * 9, none⟩ = some (.string xn) := hcc 0 _ rfl
                  have q1 : wr.cell? ⟨b, o + k * 9 + 1, none⟩ = some (.string xv) := hcc 1 _ rfl
                  have q2 : wr.cell? ⟨b, o + k * 9 + 2, none⟩ = some (.string xu) := hcc 2 _ rfl
                  have q3 : wr.cell? ⟨b, o + k * 9 + 3, none⟩ = some (.string xe) := hcc 3 _ rfl
                  have q4 : wr.cell? ⟨b, o + k * 9 + 4, none⟩ = some (.bool xf) := hcc 4 _ rfl
                  have q5 : wr.cell? ⟨b, o + k * 9 + 5, none⟩ = some (.int .i64 xr) := hcc 5 _ rfl
                  have q6 : wr.cell? ⟨b, o + k * 9 + 6, none⟩ = some (.int .i64 xy) := hcc 6 _ rfl
                  have q7 : wr.cell? ⟨b, o + k * 9 + 7, none⟩ = some (.int .i64 xw) := hcc 7 _ rfl
                  have q8 : wr.cell? ⟨b, o + k * 9 + 8, none⟩ = some (.slice xA xl.length xc) := hcc 8 _ rfl
                  clear hcc hs hfs
                  go_wp2_with fail
                  refine KO.out.mono ?_
                  rintro e w3 ⟨rfl, hb3⟩
                  have HS2 := hid (And.intro (HS.out.1.next hb3) (HS.out.2.next hb3))
                  clear q0 q1 q2 q3 q4 q5 q6 q7 q8 d1 lD KO hb3 HS
                  go_wp2_with fail
                  go_loopw [14] (fun i wr => ∃ j : Nat, j ≤ n ∧ i = .int .i64 j ∧ Hid (CkS2 w D nm (some ⟨b, o, none⟩) n cp wr ∧ Blk wr B 4 (tabC n T)) ∧ Hid (fs = true → ∀ (q : Nat) (x : Stp), q < j → l[q]? = some x → isFin x = false → Rch (grf l) k q)) (fun i _ => n - nOf i)
                  case atStart => exact ⟨0, Nat.zero_le _, rfl, HS2, hid (fun _ q x hq => by omega)⟩
                  case round =>
                    clear HS2
                    obtain ⟨j, hj, rfl, HS, HJ⟩ := hrel
                    have HEX := hid (fun (hd : fs = false ∨ n ≤ j) => show ∀ (i : Nat) (s : Stp), i < k + 1 → l[i]? = some s → isFin s = true → ∀ x ∈ l, isFin x = false → Rch (grf l) i (l.findIdx (isNm x.name)) from by
                      intro i s hi hs hf x hx hxf
                      by_cases e : i = k
                      · subst e
                        rw [HSK.out] at hs
                        injection hs with hs
                        subst hs
                        rw [← HFS.out] at hf
                        rcases hd with hd | hd
                        · rw [hd] at hf; cases hf
                        · obtain ⟨q, hq⟩ := List.mem_iff_getElem?.1 hx
                          rw [nm_find HNM.out hq]
                          exact HJ.out hf q x (by have := (List.getElem?_eq_some_iff.1 hq).1; rw [← HN.out] at this; omega) hq hxf
                      · exact HI.out i s (by omega) hs hf x hx hxf)
                    cases fs with
                    | false =>
                      have HX := hid (HEX.out (.inl rfl))
                      by_cases hjl : j < n
                      · go_wp2_with fail
                        go_roundw
                        case rel => exact ⟨k + 1, by omega, by go_num, HS, HX⟩
                        case measure => simp [nOf]; omega
                      · go_wp2_with fail
                        go_roundw
                        case rel => exact ⟨k + 1, by omega, by go_num, HS, HX⟩
                        case measure => simp [nOf]; omega
                    | true =>
                      by_cases hjl : j < n
                      · obtain ⟨s2, hs2⟩ : ∃ s, l[j]? = some s := ⟨l[j]'(by rw [← HN.out]; exact hjl), List.getElem?_eq_getElem _⟩
                        have HSJ := hid hs2
                        obtain ⟨b', o', hAA, _, hcc⟩ := (HR.out.below HS.out.1.bel).at_ 9 enSt_len (by omega) hs2
                        simp only [Option.some.injEq, Addr.mk.injEq, and_true] at hAA
                        obtain ⟨rfl, rfl⟩ := hAA
                        have d1 : wr.cell? ⟨D, 1, none⟩ = some (.slice (some ⟨b, o, none⟩) n cp) := HS.out.1.d.cell 1
                        have lD := HS.out.1.d.lt
                        have KO := hid (rfin_any s2 wr)
                        obtain ⟨fx, hfx⟩ : ∃ c, c = isFin s2 := ⟨_, rfl⟩
                        rw [← hfx] at KO
                        have HFX := hid hfx
                        have HTK := hid (HTT.out k j hlt hjl)
                        obtain ⟨xn, xv, xu, xe, xf, xr, xy, xw, xA, xc, xl⟩ := s2
                        rw [show (enSt (⟨xn, xv, xu, xe, xf, xr, xy, xw, xA, xc, xl⟩ : Stp)).toArray = #[.string xn, .string xv, .string xu, .string xe, .bool xf, .int .i64 xr, .int .i64 xy, .int .i64 xw, .slice xA xl.length xc] from rfl] at KO
                        have q0 : wr.cell? ⟨b, o + j * 9, none⟩ = some (.string xn) := hcc 0 _ rfl
                        have q1 : wr.cell? ⟨b, o + j * 9 + 1, none⟩ = some (.string xv) := hcc 1 _ rfl
                        have q2 : wr.cell? ⟨b, o + j * 9 + 2, none⟩ = some (.string xu) := hcc 2 _ rfl
                        have q3 : wr.cell? ⟨b, o + j * 9 + 3, none⟩ = some (.string xe) := hcc 3 _ rfl
                        have q4 : wr.cell? ⟨b, o + j * 9 + 4, none⟩ = some (.bool xf) := hcc 4 _ rfl
                        have q5 : wr.cell? ⟨b, o + j * 9 + 5, none⟩ = some (.int .i64 xr) := hcc 5 _ rfl
                        have q6 : wr.cell? ⟨b, o + j * 9 + 6, none⟩ = some (.int .i64 xy) := hcc 6 _ rfl
                        have q7 : wr.cell? ⟨b, o + j * 9 + 7, none⟩ = some (.int .i64 xw) := hcc 7 _ rfl
                        have q8 : wr.cell? ⟨b, o + j * 9 + 8, none⟩ = some (.slice xA xl.length xc) := hcc 8 _ rfl
                        clear hcc hs2 hfx
                        go_wp2_with fail
                        refine KO.out.mono ?_
                        rintro e w4 ⟨rfl, hb4⟩
                        have HS2 := hid (And.intro (HS.out.1.next hb4) (HS.out.2.next hb4))
                        clear q0 q1 q2 q3 q4 q5 q6 q7 q8 d1 lD KO hb4 HS
                        cases fx with
                        | true =>
                          go_wp2_with fail
                          go_roundw
                          case rel => exact ⟨j + 1, by omega, by go_num, HS2, hid (fun hf q x hq hx hxf => by
                            by_cases e : q = j
                            · subst e; rw [HSJ.out] at hx; injection hx with hx; subst hx; rw [← HFX.out] at hxf; cases hxf
                            · exact HJ.out hf q x (by omega) hx hxf)⟩
                          case measure => simp [nOf]; omega
                        | false =>
                          obtain ⟨q, hq⟩ : ∃ q, q = k * n := ⟨_, rfl⟩
                          have hqb : q + j < N := by rw [hq, HNN.out]; exact tab_lt hlt hjl
                          have hqB : q ≤ 1000000 := by omega
                          have c0 : w4.cell? ⟨B, q + j, none⟩ = some (.bool (T k j)) := by
                            rw [HS2.out.2.cell, hq]; exact tabC_at T hlt hjl
                          have lB := HS2.out.2.lt
                          have wq : IntKind.i64.wrap ((k : Int) * (n : Int)) = (q : Int) := by
                            rw [show (k : Int) * (n : Int) = (q : Int) from by rw [hq]; push_cast; rfl]; exact (wrN_of hqB).2
                          obtain ⟨t, ht⟩ : ∃ t, t = T k j := ⟨_, rfl⟩
                          rw [← ht] at c0 HTK
                          clear ht hq
                          cases t with
                          | true =>
                            go_wp2_with fail
                            go_roundw
                            case rel => exact ⟨j + 1, by omega, by go_num, HS2, hid (fun hf q x hq hx hxf => by
                              by_cases e : q = j
                              · subst e; exact HTK.out.1 (by first | rfl | trivial)
                              · exact HJ.out hf q x (by omega) hx hxf)⟩
                            case measure => simp [nOf]; omega
                          | false =>
                            have HV := hid (checkN_fin HNM.out HF.out HA.out ⟨k, _, HSK.out, HFS.out.symm, _, List.mem_of_getElem? HSJ.out, HFX.out.symm, fun hr => by
                              rw [nm_find HNM.out HSJ.out] at hr
                              have := HTK.out.2 hr
                              cases this⟩)
                            go_wp2_with fail
                            go_ret
                            exact ⟨by rw [HV.out]; rfl, HS2.out.1.bel⟩
                      · have HX := hid (HEX.out (.inr (by omega)))
                        go_wp2_with fail
                        go_roundw
                        case rel => exact ⟨k + 1, by omega, by go_num, HS, HX⟩
                        case measure => simp [nOf]; omega
                · have hk' : k = n := by omega
                  have HV := hid (checkN_ok HNM.out HF.out HA.out (fun ⟨i, s, hs, hf, x, hx, hxf, hn⟩ => hn (HI.out i s (by rw [hk', HN.out]; exact (List.getElem?_eq_some_iff.1 hs).1) hs hf x hx hxf)))
                  clear HI hk'
                  go_wp2_with fail
                  go_ret
                  exact ⟨by rw [HV.out]; rfl, HS.out.1.bel⟩

end Go.Proofs.YtoemmakhbiiknaaGreat
