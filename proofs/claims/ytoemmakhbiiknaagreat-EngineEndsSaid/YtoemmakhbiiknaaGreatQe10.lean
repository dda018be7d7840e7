/-
  The document's plan: Place, ready, Compile.
  The document's plan: Compile.
  The document's plan: Waits, Before, Behind.
  (*Plan).Behind, told with the blocks that the plan uses.
  The program's plan and the document's, of one definition copied twice: plainly.
  Rows that a law writes over; a plan of the program and one of the document, held while it does.
-/
import Derived.Test.YtoemmakhbiiknaaGreatQe9
import Derived.Deep.AppendLies
namespace Go.Proofs.YtoemmakhbiiknaaGreat
open Go.RowKit Go.WideShapes Go.ChangeShapes Go.ChangeAt Go.Deep
set_option linter.unusedVariables false

/-- The document's plan, where it lies. -/
structure RpS (base : Nat) (R : Nat) (nm : ByteArray) (SA : Option Addr) (sc : Nat) (Ls : List Stp) (w : World) : Prop where
  p : Blk w R 141 #[.string nm, .slice SA Ls.length sc]
  os : w.ownsRow base 156 9 (.slice SA Ls.length sc) Ls.length (Ls.flatMap enSt)
  ok : ∀ s ∈ Ls, OkSt w s
  n : Ls.length ≤ 1000
theorem rp_next {w w' : World} {base : Nat} {e : TypeId} {size : Nat} {v : Value} {n : Nat} {xs : List Value} (h : w.ownsRow base e size v n xs) (hb : Below w.heap.size w w') : w'.ownsRow base e size v n xs := own_touch h (Touch.of_below (S := fun _ => False) hb) (fun g _ hf => hf)
section
variable {base R : Nat} {nm : ByteArray} {SA : Option Addr} {sc : Nat} {Ls : List Stp} {w w' : World}
theorem RpS.next (h : RpS base R nm SA sc Ls w) (hb : Below w.heap.size w w') : RpS base R nm SA sc Ls w' := ⟨h.p.next hb, rp_next h.os hb, fun s hs => (h.ok s hs).next hb, h.n⟩
set_option maxRecDepth 100000 in
set_option maxHeartbeats 8000000 in
theorem rplace_any (h : RpS base R nm SA sc Ls w) (a : ByteArray) : Calls Tryz.prog 100 #[.pointer (some ⟨R, 0, none⟩), .string a] w fun e w' => e = .returned (.int .i64 (plc (isNm a) Ls)) ∧ w' = w := by
  have HRd := hid (own_rd h.os)
  have hn := h.n
  have r1 : w.cell? ⟨R, 1, none⟩ = some (.slice SA Ls.length sc) := h.p.cell 1
  have lR := h.p.lt
  clear h
  go_enter Tryz.func100, Tryz.ntmps100
  go_wp2_with fail
  go_loop [5] (fun i => ∃ k : Nat, k ≤ Ls.length ∧ i = .int .i64 k ∧ Hid (∀ j y, j < k → Ls[j]? = some y → isNm a y = false)) (fun i => Ls.length - nOf i)
  case atStart => exact ⟨0, Nat.zero_le _, rfl, hid (fun j y hj => by omega)⟩
  case round =>
    obtain ⟨k, hk, rfl, hP⟩ := hrel
    by_cases hlt : k < Ls.length
    · obtain ⟨y, hy⟩ : ∃ y, Ls[k]? = some y := ⟨Ls[k], List.getElem?_eq_getElem hlt⟩
      obtain ⟨b, o, hAA, _, hcc⟩ := HRd.out.at_ 9 enSt_len (by omega) hy
      subst hAA
      have q0 : w.cell? ⟨b, o + k * 9, none⟩ = some (.string y.name) := hcc 0 _ rfl
      have HY := hid hy
      clear hcc hy
      cases hs : isNm a y with
      | true =>
        have HV := hid (plc_some (p := isNm a) HY.out hs hP.out)
        have ts : (y.name.toList == a.toList) = true := hs
        clear hs hP HY
        go_wp2_with fail
        go_ret
        exact ⟨by rw [HV.out]; rfl, rfl⟩
      | false =>
        have ts : (y.name.toList == a.toList) = false := hs
        have HS := hid hs
        clear hs
        go_wp2_with fail
        go_round
        case rel => exact ⟨k + 1, by omega, by go_num, hid (fun j z hj hz => by
          by_cases e : j = k
          · subst e; rw [HY.out] at hz; injection hz with hz; subst hz; exact HS.out
          · exact hP.out j z (by omega) hz)⟩
        case measure => simp [nOf]; omega
    · have HV := hid (plc_none (p := isNm a) (l := Ls) (fun y hy => by
        obtain ⟨j, hj⟩ := List.mem_iff_getElem?.1 hy
        exact hP.out j y (by have := (List.getElem?_eq_some_iff.1 hj).1; omega) hj))
      go_wp2_with fail
      go_ret
      exact ⟨by rw [HV.out]; rfl, rfl⟩
/-- Is the step not in the order yet, and are all that it waits for? -/
def rdyL (Ls : List Stp) (s : Stp) : Bool := !(Ls.any (isNm s.name)) && s.after.all fun a => Ls.any (isNm a)
theorem plc_any (p : Stp → Bool) (l : List Stp) : (l.any p = true → ∃ k : Nat, plc p l = (k : Int) ∧ k < l.length) ∧ (l.any p = false → plc p l = -1) := by
  rcases plc_cases p l with ⟨k, y, hk, hy, hp, e⟩ | ⟨hn, e⟩
  · refine ⟨fun _ => ⟨k, e, hk⟩, fun h => ?_⟩
    have := List.any_eq_false.1 h y (List.mem_of_getElem? hy)
    rw [hp] at this
    exact absurd rfl this
  · refine ⟨fun h => ?_, fun _ => e⟩
    obtain ⟨x, hx, hpx⟩ := List.any_eq_true.1 h
    rw [hn x hx] at hpx
    cases hpx
set_option maxRecDepth 100000 in
set_option maxHeartbeats 8000000 in
theorem rready_any (h : RpS base R nm SA sc Ls w) (s : Stp) (hok : OkSt w s) : Calls Tryz.prog 69 #[.pointer (some ⟨R, 0, none⟩), .agg (enSt s).toArray] w fun e w' => e = .returned (.bool (rdyL Ls s)) ∧ Below w.heap.size w w' := by
  have HV := hid (show rdyL Ls s = (!(Ls.any (isNm s.name)) && s.after.all fun a => Ls.any (isNm a)) from rfl)
  obtain ⟨xn, xv, xu, xe, xf, xr, xy, xw, xA, xc, xl⟩ := s
  rw [show (enSt ⟨xn, xv, xu, xe, xf, xr, xy, xw, xA, xc, xl⟩).toArray = #[.string xn, .string xv, .string xu, .string xe, .bool xf, .int .i64 xr, .int .i64 xy, .int .i64 xw, .slice xA xl.length xc] from rfl]
  simp only at HV
  have hb1 : Below w.heap.size w (w.alloc (.cells #[.string xn, .string xv, .string xu, .string xe, .bool xf, .int .i64 xr, .int .i64 xy, .int .i64 xw, .slice xA xl.length xc] 156)) := (Below.refl _ _).alloc (Nat.le_refl _) _
  have hB := Blk.new w 156 #[.string xn, .string xv, .string xu, .string xe, .bool xf, .int .i64 xr, .int .i64 xy, .int .i64 xw, .slice xA xl.length xc]
  have h2 := h.next hb1
  have hok2 := hok.next hb1
  obtain ⟨W, e1⟩ : ∃ W, W = w.alloc (.cells #[.string xn, .string xv, .string xu, .string xe, .bool xf, .int .i64 xr, .int .i64 xy, .int .i64 xw, .slice xA xl.length xc] 156) := ⟨_, rfl⟩
  obtain ⟨G, g1⟩ : ∃ G, G = w.heap.size := ⟨_, rfl⟩
  rw [← e1] at hb1 hB h2 hok2
  rw [← g1] at hB
  have HE := hid (And.intro e1 g1)
  have HBW := hid hb1
  have HROW := hid hok2.row
  have hlen := hok2.len
  have KP := hid (fun a => rplace_any h2 a)
  have g0 : W.cell? ⟨G, 0, none⟩ = some (.string xn) := hB.cell 0
  have g8 : W.cell? ⟨G, 8, none⟩ = some (.slice xA xl.length xc) := hB.cell 8
  have lG := hB.lt
  simp only at hlen
  clear e1 g1 hb1 hB h2 hok2 h hok
  go_enter Tryz.func69, Tryz.ntmps69
  go_upto_region 1 with fail
  rw [← HE.out.1, ← HE.out.2]
  obtain ⟨pk, hpk⟩ : ∃ pk, pk = plc (isNm xn) Ls := ⟨_, rfl⟩
  have KQ := hid (KP.out xn)
  rw [← hpk] at KQ
  cases hany : Ls.any (isNm xn) with
  | true =>
    obtain ⟨k, hk, hkl⟩ := (plc_any _ _).1 hany
    rw [← hpk] at hk
    rw [hany] at HV
    have HKK := hid hk
    clear hany hpk
    subst hk
    go_wp2_with fail
    refine KQ.out.mono ?_
    rintro e w2 ⟨rfl, rfl⟩
    go_wp2_with fail
    go_ret
    exact ⟨by rw [HV.out]; rfl, HBW.out⟩
  | false =>
    have hk := (plc_any _ _).2 hany
    rw [← hpk] at hk
    rw [hany] at HV
    clear hany hpk
    subst hk
    go_wp2_with fail
    refine KQ.out.mono ?_
    rintro e w2 ⟨rfl, rfl⟩
    clear KQ
    go_wp2_with fail
    go_loopw [6] (fun i wr => ∃ j : Nat, j ≤ xl.length ∧ i = .int .i64 j ∧ wr = w2 ∧ Hid (∀ a ∈ xl.take j, Ls.any (isNm a) = true)) (fun i _ => xl.length - nOf i)
    case atStart => exact ⟨0, Nat.zero_le _, rfl, rfl, hid (fun a ha => by simp at ha)⟩
    case round =>
      obtain ⟨j, hj, rfl, rfl, HJ⟩ := hrel
      by_cases hjl : j < xl.length
      · obtain ⟨a, ha⟩ : ∃ a, xl[j]? = some a := ⟨xl[j], List.getElem?_eq_getElem hjl⟩
        obtain ⟨b, o, hAA, _, hcc⟩ := HROW.out.at_ 1 enB_len (by omega) ha
        have q0 : wr.cell? ⟨b, o + j, none⟩ = some (.string a) := by have := hcc 0 _ rfl; rw [Nat.mul_one] at this; exact this
        have HTK := hid (take_succ_of ha)
        have HA := hid (List.mem_of_getElem? ha)
        obtain ⟨pa, hpa⟩ : ∃ pa, pa = plc (isNm a) Ls := ⟨_, rfl⟩
        have KQ := hid (KP.out a)
        rw [← hpa] at KQ
        clear hcc ha g0
        subst hAA
        cases hany : Ls.any (isNm a) with
        | true =>
          obtain ⟨k, hk, hkl⟩ := (plc_any _ _).1 hany
          rw [← hpa] at hk
          have HAN := hid hany
          clear hany hpa
          subst hk
          go_wp2_with fail
          refine KQ.out.mono ?_
          rintro e w3 ⟨rfl, rfl⟩
          go_wp2_with fail
          go_roundw
          case rel => exact ⟨j + 1, by omega, by go_num, (by first | rfl | trivial), hid (fun x hx => by
            rw [HTK.out] at hx
            rcases List.mem_append.1 hx with hx | hx
            · exact HJ.out x hx
            · simp at hx; subst hx; exact HAN.out)⟩
          case measure => simp [nOf]; omega
        | false =>
          have hk := (plc_any _ _).2 hany
          rw [← hpa] at hk
          have HW := hid (show (xl.all fun a => Ls.any (isNm a)) = false from by
            rw [List.all_eq_false]
            exact ⟨a, HA.out, by rw [hany]; simp⟩)
          clear hany hpa
          subst hk
          go_wp2_with fail
          refine KQ.out.mono ?_
          rintro e w3 ⟨rfl, rfl⟩
          go_wp2_with fail
          go_ret
          exact ⟨by rw [HV.out, HW.out]; rfl, HBW.out⟩
      · have hj' : j = xl.length := by omega
        have HW := hid (show (xl.all fun a => Ls.any (isNm a)) = true from by
          rw [List.all_eq_true]
          have h1 := HJ.out
          rw [hj', List.take_length] at h1
          exact h1)
        go_wp2_with fail
        go_ret
        exact ⟨by rw [HV.out, HW.out]; rfl, HBW.out⟩
end

end Go.Proofs.YtoemmakhbiiknaaGreat

namespace Go.Proofs.YtoemmakhbiiknaaGreat
open Go.RowKit Go.WideShapes Go.ChangeShapes Go.ChangeAt Go.Deep
set_option linter.unusedVariables false

theorem nextN_of {G : List (List Nat)} {ds : List Nat} {i : Nat} (hi : i < G.length) (hr : readyN G ds i = true) (hb : ∀ j, j < i → readyN G ds j = false) : nextN G ds = some i := by
  cases h : nextN G ds with
  | none =>
    have := nextN_none h i hi
    rw [hr] at this
    cases this
  | some j =>
    obtain ⟨h1, h2, h3, h4⟩ := nextN_some h
    have hrj : readyN G ds j = true := readyN_iff.2 ⟨h2, h3⟩
    congr 1
    rcases Nat.lt_trichotomy i j with e | e | e
    · rw [h4 i e] at hr; cases hr
    · exact e.symm
    · rw [hb j e] at hrj; cases hrj
theorem ordN_succ {G : List (List Nat)} {k i : Nat} (h : nextN G (ordN G k) = some i) : ordN G (k + 1) = ordN G k ++ [i] := by
  show (match nextN G (ordN G k) with | some i => ordN G k ++ [i] | none => ordN G k) = _
  rw [h]
/-- The steps in their order. -/
structure OrdL (l : List Stp) (ds : List Nat) (Ls : List Stp) : Prop where
  len : Ls.length = ds.length
  at_ : ∀ (p i : Nat), ds[p]? = some i → Ls[p]? = l[i]?
theorem OrdL.snoc {l : List Stp} {ds : List Nat} {Ls : List Stp} (h : OrdL l ds Ls) {i : Nat} {s : Stp} (hs : l[i]? = some s) : OrdL l (ds ++ [i]) (Ls ++ [s]) := by
  refine ⟨by simp [h.len], fun p j hp => ?_⟩
  by_cases hpl : p < ds.length
  · rw [List.getElem?_append_left hpl] at hp
    rw [List.getElem?_append_left (by rw [h.len]; exact hpl)]
    exact h.at_ p j hp
  · have hpe : p = ds.length := by have := (List.getElem?_eq_some_iff.1 hp).1; simp at this; omega
    subst hpe
    rw [List.getElem?_append_right (Nat.le_refl _)] at hp
    simp at hp
    subst hp
    rw [List.getElem?_append_right (by rw [h.len]; exact Nat.le_refl _), h.len, hs]
    simp
theorem OrdL.mem {l : List Stp} {ds : List Nat} {Ls : List Stp} (h : OrdL l ds Ls) (hlt : ∀ i ∈ ds, i < l.length) {s : Stp} (hs : s ∈ Ls) : ∃ i, i ∈ ds ∧ l[i]? = some s := by
  obtain ⟨p, hp⟩ := List.mem_iff_getElem?.1 hs
  have hpl : p < ds.length := by rw [← h.len]; exact (List.getElem?_eq_some_iff.1 hp).1
  have h1 := h.at_ p _ (List.getElem?_eq_getElem hpl)
  rw [hp] at h1
  exact ⟨_, List.getElem_mem hpl, h1.symm⟩
theorem OrdL.any {l : List Stp} {ds : List Nat} {Ls : List Stp} (h : OrdL l ds Ls) (hN : NamesOk l) (hlt : ∀ i ∈ ds, i < l.length) {a : ByteArray} (ha : a ∈ l.map Stp.name) : Ls.any (isNm a) = ds.contains (l.findIdx (isNm a)) := by
  obtain ⟨t, ht, htn, htl⟩ := hN.idx ha
  rw [Bool.eq_iff_iff, List.any_eq_true, List.contains_iff_mem]
  constructor
  · rintro ⟨s, hs, hp⟩
    obtain ⟨i, hi, hsi⟩ := h.mem hlt hs
    have e := (isNm_iff a s).1 hp
    rw [← e, nm_find hN hsi]
    exact hi
  · intro hm
    obtain ⟨p, hp⟩ := List.mem_iff_getElem?.1 hm
    have h1 := h.at_ p _ hp
    rw [ht] at h1
    exact ⟨t, List.mem_of_getElem? h1, (isNm_iff a t).2 htn⟩
theorem rdy_iff {l : List Stp} {ds : List Nat} {Ls : List Stp} (h : OrdL l ds Ls) (hN : NamesOk l) (hlt : ∀ i ∈ ds, i < l.length) {i : Nat} {s : Stp} (hs : l[i]? = some s) : rdyL Ls s = readyN (grf l) ds i := by
  unfold rdyL readyN
  rw [h.any hN hlt (List.mem_map_of_mem (List.mem_of_getElem? hs)), nm_find hN hs, grf_adj hs, List.all_map]
  congr 1
  rw [Bool.eq_iff_iff, List.all_eq_true, List.all_eq_true]
  constructor
  · intro hh a ha
    have := hh a ha
    rw [h.any hN hlt (hN.2 s (List.mem_of_getElem? hs) a ha)] at this
    exact this
  · intro hh a ha
    rw [h.any hN hlt (hN.2 s (List.mem_of_getElem? hs) a ha)]
    exact hh a ha
/-- While the document's Compile runs. -/
structure RcS (w0 : World) (D : Nat) (nm : ByteArray) (A : Option Addr) (n cp : Nat) (R : Nat) (SA : Option Addr) (sc : Nat) (Ls : List Stp) (w : World) : Prop where
  d : Blk w D 86 #[.string nm, .slice A n cp]
  r : RpS w0.heap.size R nm SA sc Ls w
  bel : Below w0.heap.size w0 w
  lo : w0.heap.size ≤ R
theorem RcS.next {w0 w w' : World} {D n cp R sc : Nat} {nm : ByteArray} {A SA : Option Addr} {Ls : List Stp} (h : RcS w0 D nm A n cp R SA sc Ls w) (hb : Below w.heap.size w w') : RcS w0 D nm A n cp R SA sc Ls w' := ⟨h.d.next hb, h.r.next hb, bthen h.bel hb, h.lo⟩
theorem RcS.grewT {w0 w w' : World} {D n cp R sc : Nat} {nm : ByteArray} {A SA : Option Addr} {Ls : List Stp} (h : RcS w0 D nm A n cp R SA sc Ls w) (hT : Touch (fun b => (Value.slice SA Ls.length sc).ownBlock = some b) w w') (t : Stp) {u : Value} (ho : w'.ownsRow w0.heap.size 156 9 u (Ls.length + 1) (Ls.flatMap enSt ++ enSt t))
    (hok : ∀ s ∈ Ls ++ [t], OkSt w0 s) (hl : Ls.length < 1000) (SA' : Option Addr) (sc' : Nat) (hu : u = .slice SA' (Ls.length + 1) sc') :
    RcS w0 D nm A n cp R SA' sc' (Ls ++ [t]) (w'.setCell ⟨R, 1, none⟩ u) := by
  have hd := hT.blk h.d (fun e => own_notBlk h.r.os h.d (by decide) e)
  have hp := hT.blk h.r.p (fun e => own_notBlk h.r.os h.r.p (by decide) e)
  have hT2 := Touch.setCell w' R 1 u
  have hb := h.bel.trans (hT.below h.bel.size (fun k hk => (h.r.os.lt k hk).1))
  have hb2 := hb.trans (hT2.below hb.size (fun k hk => by rw [hk]; exact h.lo))
  have hl2 : (Ls ++ [t]).length = Ls.length + 1 := by simp
  refine ⟨hT2.blk hd (fun e => hd.ne_ hp (by decide) e), ⟨?_, ?_, fun s hs => (hok s hs).next hb2, by omega⟩, hb2, h.lo⟩
  · rw [hl2, ← hu]; exact hp.set_ 1 _
  · have := own_touch ho hT2 (fun g hg e => own_notBlk ho hp (by decide) (by rw [hg, e]))
    rw [List.flatMap_append, hl2, ← hu]
    simpa using this
theorem belowN2 (w : World) (n : Nat) : Below w.heap.size w (w.drewN n) := ⟨rfl, rfl, rfl, Nat.le_refl _, fun _ _ => rfl⟩
theorem blk_news2 {w : World} {g : Nat} {t : TypeId} {cs : Array Value} (h : Blk w g t cs) : ∀ j u, cs.toList[j]? = some u → w.cell? ((⟨g, 0, none⟩ : Addr).add j) = some u := fun j u hu => by
  have hadd : (⟨g, 0, none⟩ : Addr).add j = ⟨g, j, none⟩ := by unfold Addr.add; split <;> simp_all
  rw [hadd, h.cell]
  simpa using hu
def lenR (w : World) (P i : Nat) : Nat := match w.cell? ⟨P, i, none⟩ with | some (.slice _ n _) => n | _ => 0
theorem lenR_of {w : World} {P i n c : Nat} {A : Option Addr} (h : w.cell? ⟨P, i, none⟩ = some (.slice A n c)) : lenR w P i = n := by unfold lenR; rw [h]
theorem info_rst12 : (Tryz.prog.info? 156).map (fun i => (i.zero, i.size, i.bytes)) = some (some (.agg #[.string ⟨#[]⟩, .string ⟨#[]⟩, .string ⟨#[]⟩, .string ⟨#[]⟩, .bool false, .int .i64 0, .int .i64 0, .int .i64 0, .slice none 0 0]), 9, 120) := by kernel_rfl
theorem enSt_cells (s : Stp) : ∀ u ∈ enSt s, u.oneCell' = true := by
  intro u hu
  simp only [enSt, List.mem_cons, List.not_mem_nil, or_false] at hu
  rcases hu with rfl | rfl | rfl | rfl | rfl | rfl | rfl | rfl | rfl <;> rfl
/-- What the document's Compile answers. -/
def RcmR (nm : ByteArray) (l : List Stp) (w : World) (e : Ending) (w' : World) : Prop :=
  Below w.heap.size w w' ∧ ((checkN l ≠ 0 ∧ e = .returned (.tuple #[.pointer none, .int .i64 (checkN l)])) ∨ (checkN l = 0 ∧ ∃ R SA sc Ls, e = .returned (.tuple #[.pointer (some ⟨R, 0, none⟩), .int .i64 0]) ∧ RpS w.heap.size R nm SA sc Ls w' ∧ OrdL l (ordN (grf l) l.length) Ls ∧ w.heap.size ≤ R))

set_option maxRecDepth 100000 in
set_option maxHeartbeats 32000000 in
theorem rcompile_any (nm : ByteArray) (l : List Stp) (A : Option Addr) (cp : Nat) (w : World) (hR : Rd w A (l.flatMap enSt)) (hok : ∀ s ∈ l, OkSt w s) (hl : l.length ≤ 1000) :
    Calls Tryz.prog 26 #[.agg #[.string nm, .slice A l.length cp]] w (RcmR nm l w) := by
  have HOK := hid hok
  have HR := hid hR
  clear hok hR
  have hD0 := Blk.new w 86 #[.string nm, .slice A l.length cp]
  have b0 : Below w.heap.size w (w.alloc (.cells #[.string nm, .slice A l.length cp] 86)) := (Below.refl _ _).alloc (Nat.le_refl _) _
  obtain ⟨W, e1⟩ : ∃ W, W = w.alloc (.cells #[.string nm, .slice A l.length cp] 86) := ⟨_, rfl⟩
  obtain ⟨D, g1⟩ : ∃ D, D = w.heap.size := ⟨_, rfl⟩
  rw [← e1] at hD0 b0
  rw [← g1] at hD0
  have HE := hid (And.intro e1 g1)
  have HB0 := hid (And.intro hD0 b0)
  have KN := hid (rcheck_any nm l A cp W (HR.out.below b0) (fun s hs => (HOK.out s hs).next b0) hl)
  obtain ⟨n, hn⟩ : ∃ n, n = l.length := ⟨_, rfl⟩
  have HN := hid hn
  rw [← hn] at hl hD0 HB0 HE KN ⊢
  have d0 : W.cell? ⟨D, 0, none⟩ = some (.string nm) := hD0.cell 0
  have d1 : W.cell? ⟨D, 1, none⟩ = some (.slice A n cp) := hD0.cell 1
  have lD := hD0.lt
  clear hD0 b0 e1 g1 hn
  obtain ⟨c, hc⟩ : ∃ c, c = checkN l := ⟨_, rfl⟩
  rw [← hc] at KN
  have HC := hid hc
  clear hc
  go_enter Tryz.func26, Tryz.ntmps26
  go_upto_region 1 with fail
  rw [← HE.out.1, ← HE.out.2]
  go_wp2_with fail
  refine KN.out.mono ?_
  rintro e w1 ⟨rfl, hb1⟩
  have HB1 := hid (And.intro (HB0.out.1.next hb1) (bthen HB0.out.2 hb1))
  clear d0 d1 lD KN hb1
  have d0 : w1.cell? ⟨D, 0, none⟩ = some (.string nm) := HB1.out.1.cell 0
  have lD := HB1.out.1.lt
  by_cases hz : c = 0
  · have tz : (c != 0) = false := by simp [hz]
    have HZ := hid (checkN_zero (l := l) (by rw [← HC.out]; exact hz))
    have HZ0 := hid hz
    have hR0 := Blk.new w1 141 #[.string nm, .slice none 0 0]
    have b2 : Below w1.heap.size w1 (w1.alloc (.cells #[.string nm, .slice none 0 0] 141)) := (Below.refl _ _).alloc (Nat.le_refl _) _
    obtain ⟨w2, e2⟩ : ∃ w2, w2 = w1.alloc (.cells #[.string nm, .slice none 0 0] 141) := ⟨_, rfl⟩
    obtain ⟨R, g2⟩ : ∃ R, R = w1.heap.size := ⟨_, rfl⟩
    rw [← e2] at hR0 b2
    rw [← g2] at hR0
    have HS := hid (show RcS w D nm A n cp R none 0 [] w2 from ⟨HB1.out.1.next b2, ⟨hR0, World.ownsRow_nil _ _ _ _, (fun s hs => by cases hs), by simp⟩, bthen HB1.out.2 b2, by rw [g2]; exact HB1.out.2.size⟩)
    have HE2 := hid (And.intro e2 g2)
    have HO0 := hid (show OrdL l (ordN (grf l) 0) [] from ⟨rfl, fun p i h => by simp [ordN] at h⟩)
    clear hR0 b2 e2 g2 hz
    go_upto_region 5 with fail
    rw [← HE2.out.1, ← HE2.out.2]
    clear HE2 d0 lD
    obtain ⟨i2, hj, hy0, hy1, hy2⟩ := info_parts info_rst12
    go_loopw [] (fun wr => ∃ (k : Nat) (SA : Option Addr) (sc : Nat) (Ls : List Stp), k ≤ n ∧ Hid (RcS w D nm A n cp R SA sc Ls wr) ∧ Hid (OrdL l (ordN (grf l) k) Ls) ∧ Ls.length = k) (fun wr => n - lenR wr R 1)
    case atStart => exact ⟨0, none, 0, [], Nat.zero_le _, HS, HO0, rfl⟩
    case round =>
      clear HS HO0
      obtain ⟨k, SA, sc, Ls, hk, HS, HO, hLk⟩ := hrel
      have r1 : wr.cell? ⟨R, 1, none⟩ = some (.slice SA k sc) := by have := HS.out.r.p.cell 1; rw [hLk] at this; exact this
      have d1 : wr.cell? ⟨D, 1, none⟩ = some (.slice A n cp) := HS.out.d.cell 1
      have lR := HS.out.r.p.lt
      have lD := HS.out.d.lt
      have HLK := hid hLk
      have HME := hid (lenR_of r1)
      clear hLk
      by_cases hlt : k < n
      · go_wp2_with fail
        go_quiet (fail)
        go_wp2_with fail
        have HSx := HS
        clear r1 d1 lR lD HS
        go_loopw [6] (fun i wq => ∃ j : Nat, j ≤ n ∧ i = .int .i64 j ∧ Hid (RcS w D nm A n cp R SA sc Ls wq) ∧ Hid (∀ q : Nat, q < j → readyN (grf l) (ordN (grf l) k) q = false)) (fun i _ => n - nOf i)
        case atStart => exact ⟨0, Nat.zero_le _, rfl, hid (HSx.out.next (belowN2 _ _)), hid (fun q hq => by omega)⟩
        case round =>
          clear HSx
          obtain ⟨j, hj', rfl, HS, HJ⟩ := hrel
          have r1 : wr.cell? ⟨R, 1, none⟩ = some (.slice SA k sc) := by have := HS.out.r.p.cell 1; rw [HLK.out] at this; exact this
          have d1 : wr.cell? ⟨D, 1, none⟩ = some (.slice A n cp) := HS.out.d.cell 1
          have lR := HS.out.r.p.lt
          have lD := HS.out.d.lt
          by_cases hjl : j < n
          · obtain ⟨s, hs⟩ : ∃ s, l[j]? = some s := ⟨l[j]'(by rw [← HN.out]; exact hjl), List.getElem?_eq_getElem _⟩
            have HSJ := hid hs
            have HROW := hid (fun w' (hb' : Below w.heap.size w w') => (HR.out.below hb').at_ 9 enSt_len (by omega) hs)
            obtain ⟨b, o, hAA, _, hcc⟩ := HROW.out wr HS.out.bel
            have HOS := hid (HOK.out s (List.mem_of_getElem? hs))
            have HRI := hid (rdy_iff HO.out HZ.out.1 (fun i hi => by have := (ordN_ok (grf l) k).lt i hi; rwa [grf_len] at this) hs)
            have KR := hid (rready_any HS.out.r s (HOS.out.next HS.out.bel))
            rw [HRI.out] at KR
            obtain ⟨xn, xv, xu, xe, xf, xr, xy, xw, xA, xc, xl⟩ := s
            rw [show (enSt (⟨xn, xv, xu, xe, xf, xr, xy, xw, xA, xc, xl⟩ : Stp)).toArray = #[.string xn, .string xv, .string xu, .string xe, .bool xf, .int .i64 xr, .int .i64 xy, .int .i64 xw, .slice xA xl.length xc] from rfl] at KR
            subst hAA
            have q0 : wr.cell? ⟨b, o + j * 9, none⟩ = some (.string xn) := hcc 0 _ rfl
            have q1 : wr.cell? ⟨b, o + j * 9 + 1, none⟩ = some (.string xv) := hcc 1 _ rfl
            have q2 : wr.cell? ⟨b, o + j * 9 + 2, none⟩ = some (.string xu) := hcc 2 _ rfl
            have q3 : wr.cell? ⟨b, o + j * 9 + 3, none⟩ = some (.string xe) := hcc 3 _ rfl
            have q4 : wr.cell? ⟨b, o + j * 9 + 4, none⟩ = some (.bool xf) := hcc 4 _ rfl
            have q5 : wr.cell? ⟨b, o + j * 9 + 5, none⟩ = some (.int .i64 xr) := hcc 5 _ rfl
            have q6 : wr.cell? ⟨b, o + j * 9 + 6, none⟩ = some (.int .i64 xy) := hcc 6 _ rfl
            have q7 : wr.cell? ⟨b, o + j * 9 + 7, none⟩ = some (.int .i64 xw) := hcc 7 _ rfl
            have q8 : wr.cell? ⟨b, o + j * 9 + 8, none⟩ = some (.slice xA xl.length xc) := hcc 8 _ rfl
            obtain ⟨rb, hrb⟩ : ∃ rb, rb = readyN (grf l) (ordN (grf l) k) j := ⟨_, rfl⟩
            rw [← hrb] at KR
            have HRB := hid hrb
            clear hs hcc hrb
            go_wp2_with fail
            refine KR.out.mono ?_
            rintro e w3 ⟨rfl, hb3⟩
            have HS3 := hid (HS.out.next hb3)
            clear hb3 KR r1 d1 lR lD HS q0 q1 q2 q3 q4 q5 q6 q7 q8
            cases rb with
            | false =>
              go_wp2_with fail
              go_roundw
              case rel => exact ⟨j + 1, by omega, by go_num, HS3, hid (fun q hq => by
                by_cases e : q = j
                · subst e; exact HRB.out.symm
                · exact HJ.out q (by omega))⟩
              case measure => simp [nOf]; omega
            | true =>
              have HNX := hid (nextN_of (by rw [grf_len, ← HN.out]; exact hjl) HRB.out.symm HJ.out)
              go_upto_region 11 with fail
              have hOS0 := HS3.out.r.os
              rw [HLK.out] at hOS0
              have HOS0 := hid hOS0
              have HVB := hid (show ∀ q, (Value.slice SA k sc).ownBlock = some q → q < w3.heap.size ∧ w.heap.size ≤ q from fun q hq => ⟨(hOS0.lt q hq).2, (hOS0.lt q hq).1⟩)
              obtain ⟨E, hE⟩ : ∃ E : World → World → Prop, ∀ w w', E w w' ↔ Touch (fun b => (Value.slice SA k sc).ownBlock = some b) w w' := ⟨_, fun _ _ => Iff.rfl⟩
              obtain ⟨CB, hCF, hCT⟩ : ∃ CB : Bool → Bool → World → Prop, (∀ b' w', CB false b' w' ↔ Below w3.heap.size w3 w') ∧ (∀ b' w', CB true b' w' ↔ E w3 w') := ⟨fun b _ w' => match b with | false => Below w3.heap.size w3 w' | true => E w3 w', fun _ _ => Iff.rfl, fun _ _ => Iff.rfl⟩
              have hEB : ∀ w w', Below w.heap.size w w' → E w w' := fun w w' hb => (hE _ _).2 (Touch.of_below hb)
              obtain ⟨C, hCd⟩ : ∃ C : World → Prop, ∀ w', C w' ↔ E w3 w' := ⟨_, fun _ => Iff.rfl⟩
              have HCC := hid (show ∀ b b' w', CB b b' w' → C w' from fun b b' w' h => (hCd _).2 (by
                cases b with
                | false => exact hEB _ _ ((hCF _ _).1 h)
                | true => exact (hCT _ _).1 h))
              have HCF := hid (show ∀ b', CB false b' w3.drew from fun b' => (hCF _ _).2 (Below.refl _ _).drew)
              have hall : ∀ p : In C, Blk p.w R 141 #[.string nm, .slice SA k sc] ∧ Blk p.w D 86 #[.string nm, .slice (some ⟨b, o, none⟩) n cp] ∧ Below w.heap.size w p.w := fun p => by
                have hT := (hE _ _).1 ((hCd _).1 p.h)
                have hp := HS3.out.r.p
                rw [HLK.out] at hp
                exact ⟨hT.blk hp (fun e => own_notBlk HOS0.out hp (by decide) e), hT.blk HS3.out.d (fun e => own_notBlk HOS0.out HS3.out.d (by decide) e), HS3.out.bel.trans (hT.below HS3.out.bel.size (fun q hq => (HVB.out q hq).2))⟩
              have hne : Nonempty (In C) := ⟨⟨_, HCC.out _ _ _ (HCF.out false)⟩⟩
              have hV : ∀ p : In C, ∀ q u, (enSt (⟨xn, xv, xu, xe, xf, xr, xy, xw, xA, xc, xl⟩ : Stp))[q]? = some u → p.w.cell? ⟨b, o + j * 9 + q, none⟩ = some u := fun p => by
                obtain ⟨b', o', e, _, hc⟩ := HROW.out p.w (hall p).2.2
                simp only [Option.some.injEq, Addr.mk.injEq, and_true] at e
                obtain ⟨rfl, rfl⟩ := e
                exact hc
              have v0 : ∀ p : In C, p.w.cell? ⟨b, o + j * 9, none⟩ = some (.string xn) := fun p => hV p 0 _ rfl
              have v1 : ∀ p : In C, p.w.cell? ⟨b, o + j * 9 + 1, none⟩ = some (.string xv) := fun p => hV p 1 _ rfl
              have v2 : ∀ p : In C, p.w.cell? ⟨b, o + j * 9 + 2, none⟩ = some (.string xu) := fun p => hV p 2 _ rfl
              have v3 : ∀ p : In C, p.w.cell? ⟨b, o + j * 9 + 3, none⟩ = some (.string xe) := fun p => hV p 3 _ rfl
              have v4 : ∀ p : In C, p.w.cell? ⟨b, o + j * 9 + 4, none⟩ = some (.bool xf) := fun p => hV p 4 _ rfl
              have v5 : ∀ p : In C, p.w.cell? ⟨b, o + j * 9 + 5, none⟩ = some (.int .i64 xr) := fun p => hV p 5 _ rfl
              have v6 : ∀ p : In C, p.w.cell? ⟨b, o + j * 9 + 6, none⟩ = some (.int .i64 xy) := fun p => hV p 6 _ rfl
              have v7 : ∀ p : In C, p.w.cell? ⟨b, o + j * 9 + 7, none⟩ = some (.int .i64 xw) := fun p => hV p 7 _ rfl
              have v8 : ∀ p : In C, p.w.cell? ⟨b, o + j * 9 + 8, none⟩ = some (.slice xA xl.length xc) := fun p => hV p 8 _ rfl
              have g1 : ∀ p : In C, p.w.cell? ⟨D, 1, none⟩ = some (.slice (some ⟨b, o, none⟩) n cp) := fun p => (hall p).2.1.cell 1
              have lG : ∀ p : In C, D < p.w.heap.size := fun p => (hall p).2.1.lt
              have t1 : ∀ p : In C, p.w.cell? ⟨R, 1, none⟩ = some (.slice SA k sc) := fun p => (hall p).1.cell 1
              have lT : ∀ p : In C, R < p.w.heap.size := fun p => (hall p).1.lt
              have HE := hid hE
              have HEB := hid hEB
              have HFF := hid hCF
              have HFT := hid hCT
              obtain ⟨KM, hKM⟩ : ∃ KM : Value → World → Prop, ∀ u w', KM u w' ↔ ∃ g, u = .slice (some ⟨g, 0, none⟩) 1 1 ∧ Blk w' g 156 #[.string xn, .string xv, .string xu, .string xe, .bool xf, .int .i64 xr, .int .i64 xy, .int .i64 xw, .slice xA xl.length xc] ∧ w3.heap.size ≤ g := ⟨_, fun _ _ => Iff.rfl⟩
              have GR : Grow E E 99 (fun _ => none) KM := by
                refine ⟨fun u w w' hk he => ?_, hEB, fun _ _ h => h, fun w w' w'' h1 h2 => (hE _ _).2 (((hE _ _).1 h1).then ((hE _ _).1 h2)), fun i R hi => by simp at hi, fun R hi => by simp at hi⟩
                obtain ⟨g, h1, h2, h3⟩ := (hKM _ _).1 hk
                exact (hKM _ _).2 ⟨g, h1, ((hE _ _).1 he).blk h2 (fun e => by have := (HVB.out g e).1; omega), h3⟩
              have HKM := hid hKM
              have HN5 := hid (show (enSt (⟨xn, xv, xu, xe, xf, xr, xy, xw, xA, xc, xl⟩ : Stp) = [.string xn, .string xv, .string xu, .string xe, .bool xf, .int .i64 xr, .int .i64 xy, .int .i64 xw, .slice xA xl.length xc]) from rfl)
              have HZK := hid (show ∀ s ∈ Ls ++ [(⟨xn, xv, xu, xe, xf, xr, xy, xw, xA, xc, xl⟩ : Stp)], OkSt w s from fun s hs => by
                rcases List.mem_append.1 hs with hs | hs
                · obtain ⟨i, _, hi⟩ := HO.out.mem (fun i hi => by have := (ordN_ok (grf l) k).lt i hi; rwa [grf_len] at this) hs
                  exact HOK.out s (List.mem_of_getElem? hi)
                · simp at hs; subst hs; exact HOS.out)
              clear hCd hall hE hEB hCF hCT hKM hV hOS0 HROW
              refine wp_region_grow CB E E (fun _ => none) KM 11 99 12 10 51 (by decide) GR (by kernel_rfl) (by simp) (by kernel_rfl) (by kernel_rfl) (HCF.out false) ⟨_, HCF.out true⟩ ?_
              simp only [List.take_succ_cons, List.take_zero, List.drop_succ_cons, List.drop_zero]
              refine wpG_part (fun a D D' hd h w' hC hD' => h w' hC (hd w' hD')) C HCC.out ⟨_, HCF.out false⟩ 2 2 (by kernel_rfl) (by kernel_rfl) (by kernel_rfl) ?_
              simp only [List.take_succ_cons, List.take_zero, List.drop_succ_cons, List.drop_zero]
              repeat (first | go_big_quiet_step (fail) | quiet_step (fail))
              refine wpQuiet_nil ?_
              refine wpG_one (fun a D D' hd h w' hC hD' => h w' hC (hd w' hD')) (by kernel_rfl) (by kernel_rfl) (by kernel_rfl) (.pointer (some ⟨R, 0, none⟩)) (fun b1 b2 w' _ hb' => by go_simp) ?_
              refine wpG_part (fun a D D' hd h w' hC hD' => h w' hC (hd w' hD')) C HCC.out ⟨_, HCF.out false⟩ 7 10 (by kernel_rfl) (by kernel_rfl) (by kernel_rfl) ?_
              simp only [List.take_succ_cons, List.take_zero, List.drop_succ_cons, List.drop_zero]
              repeat (first | go_big_quiet_step (fail) | quiet_step (fail))
              refine wpQuiet_nil ?_
              clear v0 v1 v2 v3 v4 v5 v6 v7 v8 lG g1 t1 lT hne
              refine wpG_key (fun a D D' hd h w' hC hD' => h w' hC (hd w' hD')) (by kernel_rfl) (by kernel_rfl) (by kernel_rfl) (by kernel_rfl) (by kernel_rfl) (fun u w' => ∃ g, u = .slice (some ⟨g, 0, none⟩) 1 1 ∧ Blk w' g 156 #[.string xn, .string xv, .string xu, .string xe, .bool xf, .int .i64 xr, .int .i64 xy, .int .i64 xw, .slice xA xl.length xc] ∧ w3.heap.size ≤ g) (fun u w' w'' ⟨g, h1, h2, h3⟩ he => ⟨g, h1, ((HE.out _ _).1 he).blk h2 (fun e => by have := (HVB.out g e).1; omega), h3⟩) (fun w' hw' => ⟨.slice (some ⟨w'.heap.size, 0, none⟩) 1 1, w'.alloc (.cells #[.string xn, .string xv, .string xu, .string xe, .bool xf, .int .i64 xr, .int .i64 xy, .int .i64 xw, .slice xA xl.length xc] 156), by go_simp, (HFF.out _ _).2 (((HFF.out _ _).1 hw').alloc ((HFF.out _ _).1 hw').size _), (Below.refl _ _).alloc (Nat.le_refl _) _, (HKM.out _ _).2 ⟨w'.heap.size, rfl, Blk.new _ _ _, ((HFF.out _ _).1 hw').size⟩, ⟨w'.heap.size, rfl, Blk.new _ _ _, ((HFF.out _ _).1 hw').size⟩⟩) (fun w' h _ => (HFF.out _ _).2 ((HFF.out _ _).1 h)) (fun w' h _ => (HFF.out _ _).2 ((HFF.out _ _).1 h)) ?_
              rintro u ⟨wu, hu1, hu2, g, rfl, hu3, hu4⟩
              refine wpG_turn (fun a D D' hd h w' hC hD' => h w' hC (hd w' hD')) (v0 := .slice (some ⟨g, 0, none⟩) 1 1) (by rfl) ⟨wu, hu1, hu2⟩ (by kernel_rfl) (fun u w' => w'.ownsRow w.heap.size 156 9 u (k + 1) (Ls.flatMap enSt ++ enSt (⟨xn, xv, xu, xe, xf, xr, xy, xw, xA, xc, xl⟩ : Stp))) (fun u w' w'' h1 hb => rp_next h1 hb) (fun w' hw' hk' => ?_) ?_
              · obtain ⟨g', e1, h2, h3⟩ := (HKM.out _ _).1 hk'
                simp only [Value.slice.injEq, Option.some.injEq, Addr.mk.injEq, and_true] at e1
                subst e1
                have hbw := (HFF.out _ _).1 hw'
                have hO' := rp_next HOS0.out hbw
                refine exec_append_then (Operand.tmp 45) (Operand.tmp 51) 84 (by rfl) w.heap.size 156 i2 _ 9 120 Tryz.underlying84 hj hy0 hy1 hy2 rfl (by decide) _ k (Ls.flatMap enSt) (by rfl) hO' ⟨g, 0, none⟩ 1 1 (enSt (⟨xn, xv, xu, xe, xf, xr, xy, xw, xA, xc, xl⟩ : Stp)) (by rfl) (by rw [enSt_len]) (blk_news2 h2) (enSt_cells _) (by unfold maxLen; omega) (by omega) (HS3.out.next hbw).bel.size ?_
                intro u w'' hO hgr
                have hTo : Touch (fun b => (Value.slice SA k sc).ownBlock = some b) w' w'' := ⟨hgr.os, hgr.tape, hgr.output, hgr.size, fun k hk hn => hgr.block k hk (fun e => hn e.symm)⟩
                exact ⟨(HFT.out _ _).2 ((HE.out _ _).2 ((Touch.of_below hbw).then hTo)), (HE.out _ _).2 hTo, hO⟩
              rintro u ⟨wu2, hu5⟩
              clear hu5 hu1 hu2 hu3 hu4
              refine wpG_nil ?_
              intro wf hCf hDf
              obtain ⟨_, hD8⟩ := hDf
              have hTf := (HE.out _ _).1 ((HFT.out _ _).1 hCf)
              have hfin := HS3.out.grewT (w' := wf) (by rw [HLK.out]; exact hTf) (⟨xn, xv, xu, xe, xf, xr, xy, xw, xA, xc, xl⟩ : Stp) (u := u) (by rw [HLK.out]; exact hD8) HZK.out (by have := HLK.out; omega)
              obtain ⟨SA', sc', e8, _⟩ := own_slice hD8
              subst e8
              have hpf := HS3.out.r.p
              rw [HLK.out] at hpf
              have hP7 := hTf.blk hpf (fun e => own_notBlk HOS0.out hpf (by decide) e)
              have p1 : wf.cell? ⟨R, 1, none⟩ = some (.slice SA k sc) := hP7.cell 1
              have f1 := hP7.free 1
              have lP := hP7.lt
              have hfin := hfin SA' sc' (by rw [HLK.out])
              have hm9 : lenR (wf.setCell ⟨R, 1, none⟩ (.slice SA' (k + 1) sc')) R 1 = k + 1 := by
                have := hfin.r.p.cell 1
                rw [show (Ls ++ [(⟨xn, xv, xu, xe, xf, xr, xy, xw, xA, xc, xl⟩ : Stp)]).length = k + 1 from by simp [HLK.out]] at this
                exact lenR_of this
              have hO9 := HO.out.snoc HSJ.out
              rw [← ordN_succ HNX.out] at hO9
              have HFIN := hid (And.intro hfin (And.intro hm9 hO9))
              clear hfin hm9 hO9 hpf hP7 hTf hD8 hCf HE HEB HFF HFT HVB HKM HCC HCF GR HOS0 HZK
              go_wp2_with fail
              go_roundw
              case rel => exact ⟨k + 1, _, _, _, by omega, hid HFIN.out.1, hid HFIN.out.2.2, by simp [HLK.out]⟩
              case measure => rw [HFIN.out.2.1, HME.out]; omega
          · exfalso
            obtain ⟨i, hi⟩ : ∃ i, i < n ∧ i ∉ ordN (grf l) k := by
              by_cases e : ∃ i, i < n ∧ i ∉ ordN (grf l) k
              · exact e
              · exfalso
                have h2 := sub_len (a := List.range n) (b := ordN (grf l) k) List.nodup_range (fun i hi => by
                  by_cases hm : i ∈ ordN (grf l) k
                  · exact hm
                  · exact absurd ⟨i, List.mem_range.1 hi, hm⟩ e)
                have h3 := HO.out.len
                rw [HLK.out] at h3
                rw [List.length_range, ← h3] at h2
                omega
            obtain ⟨q, hq, hr⟩ := ready_some HZ.out.2.1 (grf_shut HZ.out.1) (by rw [grf_len, ← HN.out]; exact hi.1) hi.2
            rw [grf_len, ← HN.out] at hq
            rw [HJ.out q (by omega)] at hr
            cases hr
      · have hk' : k = n := by omega
        have HO2 := hid (show OrdL l (ordN (grf l) l.length) Ls from by have := HO.out; rw [hk', HN.out] at this; exact this)
        clear HO
        go_wp2_with fail
        go_quiet (fail)
        go_wp2_with fail
        go_ret2
        have hS := HS.out.next (belowN2 wr nq)
        exact ⟨hS.bel, .inr ⟨by rw [← HC.out]; exact HZ0.out, R, SA, sc, Ls, rfl, hS.r, HO2.out, hS.lo⟩⟩
  · have tz : (c != 0) = true := by simp [hz]
    have HF := hid hz
    clear hz
    go_wp2_with fail
    go_ret2
    exact ⟨HB1.out.2, .inl ⟨by rw [← HC.out]; exact HF.out, by rw [HC.out]; rfl⟩⟩

end Go.Proofs.YtoemmakhbiiknaaGreat

namespace Go.Proofs.YtoemmakhbiiknaaGreat
open Go.RowKit Go.WideShapes Go.ChangeShapes Go.ChangeAt Go.Deep
set_option linter.unusedVariables false

/-- Does the first step wait for the second? -/
def waitB (s t : Stp) : Bool := s.after.any fun a => a.toList == t.name.toList
section
variable {base R : Nat} {nm : ByteArray} {SA : Option Addr} {sc : Nat} {Ls : List Stp} {w w' : World}
set_option maxRecDepth 100000 in
set_option maxHeartbeats 8000000 in
theorem rwaits_any (h : RpS base R nm SA sc Ls w) {i k : Nat} {s t : Stp} (hi : Ls[i]? = some s) (hk : Ls[k]? = some t) :
    Calls Tryz.prog 129 #[.pointer (some ⟨R, 0, none⟩), .int .i64 (i : Int), .int .i64 (k : Int)] w fun e w' => e = .returned (.bool (waitB s t)) ∧ Below w.heap.size w w' := by
  have hil : i < Ls.length := (List.getElem?_eq_some_iff.1 hi).1
  have hkl : k < Ls.length := (List.getElem?_eq_some_iff.1 hk).1
  have HS := hid (fun w' (hb : Below w.heap.size w w') => h.next hb)
  have HRi := hid (fun w' (hb : Below w.heap.size w w') => (own_rd (h.next hb).os).at_ 9 enSt_len (by omega) hi)
  have HRk := hid (fun w' (hb : Below w.heap.size w w') => (own_rd (h.next hb).os).at_ 9 enSt_len (by omega) hk)
  have HROW := hid (fun w' (hb : Below w.heap.size w w') => ((h.ok s (List.mem_of_getElem? hi)).next hb).row)
  have hlen := (h.ok s (List.mem_of_getElem? hi)).len
  have hn := h.n
  obtain ⟨b, o, hAA, _, _⟩ := HRi.out w (Below.refl _ _)
  subst hAA
  have HV := hid (show waitB s t = s.after.any fun a => a.toList == t.name.toList from rfl)
  clear h hi hk
  go_enter Tryz.func129, Tryz.ntmps129
  go_wp2_with fail
  go_loopw [7] (fun x wr => ∃ j : Nat, j ≤ s.after.length ∧ x = .int .i64 j ∧ Hid (∀ a ∈ s.after.take j, (a.toList == t.name.toList) = false) ∧ Hid (Below w.heap.size w wr)) (fun x _ => s.after.length - nOf x)
  case atStart => exact ⟨0, Nat.zero_le _, rfl, hid (fun a ha => by simp at ha), hid (Below.refl _ _)⟩
  case round =>
    obtain ⟨j, hj, rfl, HJ, HB⟩ := hrel
    have r1 : wr.cell? ⟨R, 1, none⟩ = some (.slice (some ⟨b, o, none⟩) Ls.length sc) := (HS.out wr HB.out).p.cell 1
    have lR := (HS.out wr HB.out).p.lt
    obtain ⟨b', o', e, _, hc⟩ := HRi.out wr HB.out
    simp only [Option.some.injEq, Addr.mk.injEq, and_true] at e
    obtain ⟨rfl, rfl⟩ := e
    have q8 : wr.cell? ⟨b, o + i * 9 + 8, none⟩ = some (.slice s.A s.after.length s.cap) := hc 8 _ rfl
    obtain ⟨b', o', e, _, hc2⟩ := HRk.out wr HB.out
    simp only [Option.some.injEq, Addr.mk.injEq, and_true] at e
    obtain ⟨rfl, rfl⟩ := e
    have p0 : wr.cell? ⟨b, o + k * 9, none⟩ = some (.string t.name) := hc2 0 _ rfl
    clear hc hc2
    by_cases hjl : j < s.after.length
    · obtain ⟨a, ha⟩ : ∃ a, s.after[j]? = some a := ⟨s.after[j], List.getElem?_eq_getElem hjl⟩
      obtain ⟨b2, o2, hA2, _, hcc⟩ := (HROW.out wr HB.out).at_ 1 enB_len (by omega) ha
      have q0 : wr.cell? ⟨b2, o2 + j, none⟩ = some (.string a) := by have := hcc 0 _ rfl; rw [Nat.mul_one] at this; exact this
      have HTK := hid (take_succ_of ha)
      have HA := hid (List.mem_of_getElem? ha)
      obtain ⟨tb, htb0⟩ : ∃ tb, tb = (a.toList == t.name.toList) := ⟨_, rfl⟩
      have HTB := hid htb0
      have htb := htb0.symm
      clear htb0
      generalize s.A = sA at q8 hA2
      subst hA2
      clear hcc ha
      cases tb with
      | true =>
        have HW := hid (show waitB s t = true from by rw [HV.out, List.any_eq_true]; exact ⟨a, HA.out, HTB.out.symm⟩)
        go_wp2_with fail
        go_quiet (fail)
        go_wp2_with fail
        go_ret
        exact ⟨by rw [HW.out]; rfl, bthen HB.out (belowN2 wr _)⟩
      | false =>
        go_wp2_with fail
        go_quiet (fail)
        go_wp2_with fail
        go_roundw
        case rel => exact ⟨j + 1, by omega, by go_num, hid (fun x hx => by
          rw [HTK.out] at hx
          rcases List.mem_append.1 hx with hx | hx
          · exact HJ.out x hx
          · simp at hx; subst hx; exact HTB.out.symm), hid (bthen HB.out (belowN2 wr _))⟩
        case measure => simp [nOf]; omega
    · have HW := hid (show waitB s t = false from by
        rw [HV.out, List.any_eq_false]
        intro a ha
        have h1 := HJ.out a (by rw [List.take_of_length_le (by omega)]; exact ha)
        rw [h1]; simp)
      go_wp2_with fail
      go_ret
      exact ⟨by rw [HW.out]; rfl, HB.out⟩
/-- The places of those that fit, as far as k. -/
def pickL (p : Stp → Bool) (Ls : List Stp) : Nat → List Int
  | 0 => []
  | k + 1 => pickL p Ls k ++ (match Ls[k]? with | some t => if p t then [(k : Int)] else [] | none => [])
theorem pickL_len (p : Stp → Bool) (Ls : List Stp) : ∀ k, (pickL p Ls k).length ≤ k
  | 0 => Nat.le_refl _
  | k + 1 => by
    have := pickL_len p Ls k
    show (pickL p Ls k ++ _).length ≤ _
    rw [List.length_append]
    split
    · split <;> simp <;> omega
    · simp; omega
theorem info_intR : (Tryz.prog.info? 3).map (fun i => (i.zero, i.size, i.bytes)) = some (some (.int .i64 0), 1, 8) := by kernel_rfl
set_option maxRecDepth 100000 in
set_option maxHeartbeats 8000000 in
theorem rbefore_any (h : RpS base R nm SA sc Ls w) {q : Nat} {s : Stp} (hq : Ls[q]? = some s) :
    Calls Tryz.prog 109 #[.pointer (some ⟨R, 0, none⟩), .int .i64 (q : Int)] w (NewRowOf en1 3 1 (pickL (fun t => waitB s t) Ls Ls.length) w) := by
  have hql : q < Ls.length := (List.getElem?_eq_some_iff.1 hq).1
  have HS := hid (fun w' (hb : Below w.heap.size w w') => h.next hb)
  have hn := h.n
  have HQ := hid hq
  obtain ⟨p, hp⟩ : ∃ p : Stp → Bool, p = fun t => waitB s t := ⟨_, rfl⟩
  have HP := hid hp
  rw [← hp]
  obtain ⟨n, hnn⟩ : ∃ n, n = Ls.length := ⟨_, rfl⟩
  have HN := hid hnn
  rw [← hnn] at hn hql ⊢
  obtain ⟨ii, hii, hz0, hz1, hz2⟩ := info_parts info_intR
  clear h hq hp hnn
  go_enter Tryz.func109, Tryz.ntmps109
  go_wp2_with fail
  go_loopw [5, 6] (fun u x wr => ∃ k : Nat, k ≤ n ∧ x = .int .i64 k ∧ wr.ownsRow w.heap.size 3 1 u (pickL p Ls k).length ((pickL p Ls k).flatMap en1) ∧ Hid (Below w.heap.size w wr)) (fun _ x _ => n - nOf x)
  case atStart => exact ⟨0, Nat.zero_le _, rfl, World.ownsRow_nil _ _ _ _, hid (Below.refl _ _)⟩
  case round =>
    obtain ⟨k, hk, rfl, hO, HB⟩ := hrel
    have r1 : wr.cell? ⟨R, 1, none⟩ = some (.slice SA n sc) := by have := (HS.out wr HB.out).p.cell 1; rw [← HN.out] at this; exact this
    have lR := (HS.out wr HB.out).p.lt
    have HOU := hid hO
    clear hO
    by_cases hlt : k < n
    · obtain ⟨t, ht⟩ : ∃ t, Ls[k]? = some t := ⟨Ls[k]'(by rw [← HN.out]; exact hlt), List.getElem?_eq_getElem _⟩
      have KW := hid (rwaits_any (HS.out wr HB.out) HQ.out ht)
      have HPK := hid (show pickL p Ls (k + 1) = pickL p Ls k ++ (if p t then [(k : Int)] else []) from by
        show pickL p Ls k ++ (match Ls[k]? with | some t => if p t then [(k : Int)] else [] | none => []) = _
        rw [ht])
      have hpl := pickL_len p Ls k
      obtain ⟨tb, htb⟩ : ∃ tb, tb = waitB s t := ⟨_, rfl⟩
      rw [← htb] at KW
      rw [show p t = tb from by rw [HP.out]; exact htb.symm] at HPK
      obtain ⟨xs, hxs⟩ : ∃ xs, xs = pickL p Ls k := ⟨_, rfl⟩
      rw [← hxs] at HOU HPK hpl
      clear htb ht hxs
      go_wp2_with fail
      refine KW.out.mono ?_
      rintro e w2 ⟨rfl, hb2⟩
      have HB2 := hid (bthen HB.out hb2)
      have HO2 := hid (rp_next HOU.out hb2)
      clear r1 lR KW hb2 HOU
      cases tb with
      | true =>
        have hO6 := HO2.out
        have HO6 := hid hO6
        have hO9 := hid (hO6.alloc (.cells #[.int .i64 (k : Int)] 3))
        have hb9 := hid (HB2.out.alloc HB2.out.size (.cells #[.int .i64 (k : Int)] 3))
        have hws := HB2.out.size
        clear hO6
        go_wp2_with (first
          | (at_builtin; refine wpList_push _ rfl _ _ 38 rfl w.heap.size 3 ii _ 1 8 Tryz.underlying38 hii hz0 hz1 hz2 rfl (by decide) _ _ _ (by rfl) HO6.out #[.int .i64 (k : Int)] w2.heap.size (by simp) (by rfl) (by rfl) (by rfl) (by unfold maxLen; omega) (by omega) (by omega) ?_; intro v' w5 hO4 hg4))
        have hb4 := hb9.out.grown hg4 (by simp; omega) (fun k hk => (hO9.out.lt k hk).1)
        have HO5 := hid (show w5.ownsRow w.heap.size 3 1 v' (pickL p Ls (k + 1)).length ((pickL p Ls (k + 1)).flatMap en1) from by
          rw [HPK.out]
          simp only [if_true, List.flatMap_append, List.length_append, List.length_singleton]
          simpa [en1] using hO4)
        clear hO4 hg4 hO9 hb9 HO6
        go_roundw
        case rel => exact ⟨k + 1, by omega, by go_num, HO5.out, hid hb4⟩
        case measure => simp [nOf]; omega
      | false =>
        have HO5 := hid (show w2.ownsRow w.heap.size 3 1 u5 (pickL p Ls (k + 1)).length ((pickL p Ls (k + 1)).flatMap en1) from by
          rw [HPK.out]
          simpa using HO2.out)
        go_wp2_with fail
        go_roundw
        case rel => exact ⟨k + 1, by omega, by go_num, HO5.out, HB2⟩
        case measure => simp [nOf]; omega
    · have hk' : k = n := by omega
      rw [hk'] at HOU
      obtain ⟨A, cap, hv, _⟩ := own_slice HOU.out
      subst hv
      clear hk'
      go_wp2_with fail
      go_ret
      exact ⟨A, cap, rfl, HOU.out, HB.out⟩
set_option maxRecDepth 100000 in
set_option maxHeartbeats 8000000 in
theorem rbehind_any (h : RpS base R nm SA sc Ls w) {q : Nat} {s : Stp} (hq : Ls[q]? = some s) :
    Calls Tryz.prog 110 #[.pointer (some ⟨R, 0, none⟩), .int .i64 (q : Int)] w (NewRowOf en1 3 1 (pickL (fun t => waitB t s) Ls Ls.length) w) := by
  have hql : q < Ls.length := (List.getElem?_eq_some_iff.1 hq).1
  have HS := hid (fun w' (hb : Below w.heap.size w w') => h.next hb)
  have hn := h.n
  have HQ := hid hq
  obtain ⟨p, hp⟩ : ∃ p : Stp → Bool, p = fun t => waitB t s := ⟨_, rfl⟩
  have HP := hid hp
  rw [← hp]
  obtain ⟨n, hnn⟩ : ∃ n, n = Ls.length := ⟨_, rfl⟩
  have HN := hid hnn
  rw [← hnn] at hn hql ⊢
  obtain ⟨ii, hii, hz0, hz1, hz2⟩ := info_parts info_intR
  clear h hq hp hnn
  go_enter Tryz.func110, Tryz.ntmps110
  go_wp2_with fail
  go_loopw [5, 6] (fun u x wr => ∃ k : Nat, k ≤ n ∧ x = .int .i64 k ∧ wr.ownsRow w.heap.size 3 1 u (pickL p Ls k).length ((pickL p Ls k).flatMap en1) ∧ Hid (Below w.heap.size w wr)) (fun _ x _ => n - nOf x)
  case atStart => exact ⟨0, Nat.zero_le _, rfl, World.ownsRow_nil _ _ _ _, hid (Below.refl _ _)⟩
  case round =>
    obtain ⟨k, hk, rfl, hO, HB⟩ := hrel
    have r1 : wr.cell? ⟨R, 1, none⟩ = some (.slice SA n sc) := by have := (HS.out wr HB.out).p.cell 1; rw [← HN.out] at this; exact this
    have lR := (HS.out wr HB.out).p.lt
    have HOU := hid hO
    clear hO
    by_cases hlt : k < n
    · obtain ⟨t, ht⟩ : ∃ t, Ls[k]? = some t := ⟨Ls[k]'(by rw [← HN.out]; exact hlt), List.getElem?_eq_getElem _⟩
      have KW := hid (rwaits_any (HS.out wr HB.out) ht HQ.out)
      have HPK := hid (show pickL p Ls (k + 1) = pickL p Ls k ++ (if p t then [(k : Int)] else []) from by
        show pickL p Ls k ++ (match Ls[k]? with | some t => if p t then [(k : Int)] else [] | none => []) = _
        rw [ht])
      have hpl := pickL_len p Ls k
      obtain ⟨tb, htb⟩ : ∃ tb, tb = waitB t s := ⟨_, rfl⟩
      rw [← htb] at KW
      rw [show p t = tb from by rw [HP.out]; exact htb.symm] at HPK
      obtain ⟨xs, hxs⟩ : ∃ xs, xs = pickL p Ls k := ⟨_, rfl⟩
      rw [← hxs] at HOU HPK hpl
      clear htb ht hxs
      go_wp2_with fail
      refine KW.out.mono ?_
      rintro e w2 ⟨rfl, hb2⟩
      have HB2 := hid (bthen HB.out hb2)
      have HO2 := hid (rp_next HOU.out hb2)
      clear r1 lR KW hb2 HOU
      cases tb with
      | true =>
        have hO6 := HO2.out
        have HO6 := hid hO6
        have hO9 := hid (hO6.alloc (.cells #[.int .i64 (k : Int)] 3))
        have hb9 := hid (HB2.out.alloc HB2.out.size (.cells #[.int .i64 (k : Int)] 3))
        have hws := HB2.out.size
        clear hO6
        go_wp2_with (first
          | (at_builtin; refine wpList_push _ rfl _ _ 38 rfl w.heap.size 3 ii _ 1 8 Tryz.underlying38 hii hz0 hz1 hz2 rfl (by decide) _ _ _ (by rfl) HO6.out #[.int .i64 (k : Int)] w2.heap.size (by simp) (by rfl) (by rfl) (by rfl) (by unfold maxLen; omega) (by omega) (by omega) ?_; intro v' w5 hO4 hg4))
        have hb4 := hb9.out.grown hg4 (by simp; omega) (fun k hk => (hO9.out.lt k hk).1)
        have HO5 := hid (show w5.ownsRow w.heap.size 3 1 v' (pickL p Ls (k + 1)).length ((pickL p Ls (k + 1)).flatMap en1) from by
          rw [HPK.out]
          simp only [if_true, List.flatMap_append, List.length_append, List.length_singleton]
          simpa [en1] using hO4)
        clear hO4 hg4 hO9 hb9 HO6
        go_roundw
        case rel => exact ⟨k + 1, by omega, by go_num, HO5.out, hid hb4⟩
        case measure => simp [nOf]; omega
      | false =>
        have HO5 := hid (show w2.ownsRow w.heap.size 3 1 u5 (pickL p Ls (k + 1)).length ((pickL p Ls (k + 1)).flatMap en1) from by
          rw [HPK.out]
          simpa using HO2.out)
        go_wp2_with fail
        go_roundw
        case rel => exact ⟨k + 1, by omega, by go_num, HO5.out, HB2⟩
        case measure => simp [nOf]; omega
    · have hk' : k = n := by omega
      rw [hk'] at HOU
      obtain ⟨A, cap, hv, _⟩ := own_slice HOU.out
      subst hv
      clear hk'
      go_wp2_with fail
      go_ret
      exact ⟨A, cap, rfl, HOU.out, HB.out⟩
end

end Go.Proofs.YtoemmakhbiiknaaGreat

namespace Go.Proofs.YtoemmakhbiiknaaGreat
open Go.RowKit Go.WideShapes Go.ChangeShapes Go.ChangeAt Go.Deep
set_option linter.unusedVariables false

/-- The blocks of what was gathered. -/
def HsU (vH : Value) (Hs : List IRow) (g : Nat) : Prop := vH.ownBlock = some g ∨ ∃ b ∈ Hs, (Value.slice b.A b.xs.length b.cap).ownBlock = some g
/-- What was gathered lies where it lay, or is new. -/
def NewU (vH' : Value) (Hs' : List IRow) (vH : Value) (Hs : List IRow) (dn : Bool) (w : World) : Prop := ∀ g, HsU vH' Hs' g → (dn = true ∧ HsU vH Hs g) ∨ w.heap.size ≤ g
theorem NewU.same {vH' vH : Value} {Hs' Hs : List IRow} {dn : Bool} {w w' : World} (h : NewU vH' Hs' vH Hs dn w) (e : w'.heap.size = w.heap.size) : NewU vH' Hs' vH Hs dn w' := fun g hg => by
  have := h g hg
  rw [e]
  exact this
/-- What Behind leaves. -/
def BehU (xs : List Int) (base : Nat) (nm : ByteArray) (P : Nat) (vS vB : Value) (Ls : List Stp) (Bs : List IRow) (vH : Value) (Hs : List IRow) (dn : Bool) (ask : Int) (w : World) (e : Ending) (w' : World) : Prop := ∃ w3 A cap vH' Hs', e = .returned (.slice A xs.length cap) ∧ w'.ownsRow w3.heap.size 3 1 (.slice A xs.length cap) xs.length (xs.flatMap en1) ∧ PlW base nm P vS vB vH' Ls Bs Hs' true (ask + 1) w3 ∧ HsOk Bs Hs' Ls.length ∧ Touch (· = P) w w3 ∧ Below w3.heap.size w3 w' ∧ NewU vH' Hs' vH Hs dn w
section
variable {base : Nat} {nm : ByteArray} {P : Nat} {vS vB vH : Value} {Ls : List Stp} {Bs Hs : List IRow} {dn : Bool} {ask : Int} {w w' : World}
/-- once.Do(p.gather). -/
theorem do_any3 (h : PlW base nm P vS vB vH Ls Bs Hs dn ask w) (hr : RowsOk Ls Bs) (hok : dn = true → HsOk Bs Hs Ls.length) (hnil : dn = false → vH = .slice none 0 0) :
    Calls Tryz.prog 45 #[.pointer (some ⟨P, 3, none⟩), .func (.func 46) #[.pointer (some ⟨P, 0, none⟩)] #[]] w fun e w' => e = .returned (.tuple #[]) ∧ ∃ vH' Hs', PlW base nm P vS vB vH' Ls Bs Hs' true ask w' ∧ HsOk Bs Hs' Ls.length ∧ Touch (· = P) w w' ∧ NewU vH' Hs' vH Hs dn w := by
  cases dn with
  | true =>
    refine (do_done12 P _ w (by have := h.p.cell 3; simpa [onceV] using this)).mono ?_
    rintro e w' ⟨rfl, rfl⟩
    exact ⟨rfl, vH, Hs, h, hok rfl, Touch.refl _ _, fun g hg => .inl ⟨rfl, hg⟩⟩
  | false =>
    obtain ⟨SA, sc, hvS, _⟩ := own_slice h.os
    have hP0 : Blk w P 126 #[.string nm, vS, vB, .int .u32 0, .int .i32 0, .int .u32 0, vH, .int .i64 ask] := by simpa [onceV] using h.p
    have hvH := hnil rfl
    subst hvH
    have hp4 := hP0.set_ 4 (.int .i32 1)
    have hT4 := Touch.setCell w P 4 (.int .i32 1)
    obtain ⟨w2, hw2⟩ : ∃ w2, w2 = w.setCell ⟨P, 4, none⟩ (.int .i32 1) := ⟨_, rfl⟩
    have no : ∀ {b0 : Nat} {e : TypeId} {size : Nat} {v : Value} {n : Nat} {xs : List Value}, e ≠ 126 → w.ownsRow b0 e size v n xs → w2.ownsRow b0 e size v n xs := fun hne ho => by rw [hw2]; exact own_touch ho hT4 (fun g hg e => own_notBlk ho h.p hne (by rw [hg, e]))
    have hob2 := no (by decide) h.ob
    have hos2 := no (by decide) h.os
    have hst2 : ∀ s ∈ Ls, OwnSt base w2 s := fun s hs => no (by decide) (h.st s hs)
    have hrw2 : ∀ b ∈ Bs, OwnR base w2 b := fun b hb => no (by decide) (h.rw b hb)
    have hp2 : Blk w2 P 126 (planD nm (.slice SA Ls.length sc) vB (.slice none 0 0) ask) := by rw [hw2, ← hvS]; exact hp4
    have hG := gather_any base nm P SA sc vB Ls.length Bs ask w2 hp2 hob2 hrw2 hr.n (by rw [hr.len]; exact hr.n) hr.up hr.lt (fun b hb => Nat.le_trans (rise_len (hr.up b hb) (hr.lt b hb)) hr.n)
    refine do_first12 P _ w (fun w' => ∃ vH' Hs', PlW base nm P vS vB vH' Ls Bs Hs' true ask w' ∧ HsOk Bs Hs' Ls.length ∧ Touch (· = P) w w' ∧ NewU vH' Hs' (.slice none 0 0) Hs false w) (by rw [hP0.cell]; rfl) ?_
    refine (slow12 P 46 (.pointer (some ⟨P, 0, none⟩)) w _ hP0 rfl rfl (fun w' => ∃ H f, GaP w2 nm P (.slice SA Ls.length sc) vB Ls.length Bs ask H f w') ?_ ?_ ?_).mono ?_
    · rintro w' ⟨H, f, g⟩
      exact ⟨_, g.s.p, rfl, rfl⟩
    · intro w
      exact gather_enter _ w
    · rw [← hw2]; exact hG
    · rintro e w' ⟨rfl, w1, ⟨H, f, g⟩, rfl⟩
      refine ⟨rfl, .slice (some ⟨H, 0, none⟩) Ls.length Ls.length, (List.range Ls.length).map f, ?_⟩
      rw [← and_assoc, and_comm (b := HsOk _ _ _), and_assoc]
      refine ⟨⟨by simp, fun k b hb => ?_⟩, ?_⟩
      · rw [List.getElem?_map] at hb
        by_cases hk : k < Ls.length
        · rw [List.getElem?_range hk] at hb
          simp only [Option.map_some, Option.some.injEq] at hb
          rw [← hb]
          exact g.x k hk
        · rw [List.getElem?_eq_none (by simp; omega)] at hb
          simp at hb
      · have hsz1 : w.heap.size ≤ w1.heap.size := by have := g.s.t.size; rw [hw2] at this; simpa [World.setCell] using this
        have hbs : base ≤ w2.heap.size := by have := h.p.lt; have := h.lo; rw [hw2]; simp [World.setCell]; omega
        have hd : Touch (· = P) w1 w1.drew := (Touch.refl _ _).drew
        have hT := (hd.then (Touch.setCell w1.drew P 3 (.int .u32 1))).then (Touch.setCell (w1.drew.setCell ⟨P, 3, none⟩ (.int .u32 1)) P 4 (.int .i32 0))
        have hT0 := ((hT4.then (by rw [hw2] at g; exact g.s.t)).then hT)
        have hpd : Blk w1.drew P 126 _ := g.s.p
        have hp5 := (hpd.set_ 3 (.int .u32 1)).set_ 4 (.int .i32 0)
        have no5 : ∀ {b0 : Nat} {e : TypeId} {size : Nat} {v : Value} {n : Nat} {xs : List Value}, e ≠ 126 → w1.ownsRow b0 e size v n xs → ((w1.drew.setCell ⟨P, 3, none⟩ (.int .u32 1)).setCell ⟨P, 4, none⟩ (.int .i32 0)).ownsRow b0 e size v n xs := fun hne ho => own_touch ho hT (fun g' hg' e => own_notBlk ho g.s.p hne (by rw [hg', e]))
        refine ⟨h.touchP hT0 (by rw [hvS]; exact hp5) (fun _ => ⟨H, rfl, ?_, ?_, ?_⟩) (fun _ => by simp), hT0, ?_⟩
        · rw [rowsC_map]
          exact hT.blk g.s.h (fun e => g.s.h.ne_ g.s.p (by decide) e)
        · exact Nat.le_trans hbs g.s.lo
        · intro b hb
          obtain ⟨k, hk, rfl⟩ := List.mem_map.1 hb
          exact no5 (by decide) (own_base (g.s.r k (List.mem_range.1 hk)) hbs)
        · have hsz2 : w.heap.size ≤ w2.heap.size := by rw [hw2]; simp [World.setCell]
          intro g' hg'
          right
          rcases hg' with e | ⟨b, hb, e⟩
          · have e2 : H = g' := by simpa [Value.ownBlock] using e
            rw [← e2]
            exact Nat.le_trans hsz2 g.s.lo
          · obtain ⟨k, hk, rfl⟩ := List.mem_map.1 hb
            exact Nat.le_trans hsz2 ((g.s.r k (List.mem_range.1 hk)).lt g' e).1

set_option maxRecDepth 100000 in
set_option maxHeartbeats 8000000 in
theorem behind_any3 (h : PlW base nm P vS vB vH Ls Bs Hs dn ask w) (hr : RowsOk Ls Bs) (hok : dn = true → HsOk Bs Hs Ls.length) (hnil : dn = false → vH = .slice none 0 0) (i : Int) (ha : 0 ≤ ask ∧ ask ≤ 4611686018427387904) :
    Calls Tryz.prog 18 #[.pointer (some ⟨P, 0, none⟩), .int .i64 i] w (BehU (behL Bs Ls.length i) base nm P vS vB Ls Bs vH Hs dn ask w) := by
  have hT1 := Touch.setCell w P 7 (.int .i64 (ask + 1))
  have h1 := h.touchP (ask' := ask + 1) (vH' := vH) (Hs' := Hs) (dn' := dn) hT1 (h.p.set_ 7 (.int .i64 (ask + 1))) (fun e => by
    obtain ⟨H, a, b, c, d⟩ := h.hs e
    exact ⟨H, a, hT1.blk b (fun e => b.ne_ h.p (by decide) e), c, fun x hx => own_touch (d x hx) hT1 (fun g hg e => own_notBlk (d x hx) h.p (by decide) (by rw [hg, e]))⟩) h.hl
  have KA := hid (add12 P ask w (h.p.cell 7) (h.p.free 7) (by omega))
  obtain ⟨w1, hw1⟩ : ∃ w1, w1 = w.setCell ⟨P, 7, none⟩ (.int .i64 (ask + 1)) := ⟨_, rfl⟩
  rw [← hw1] at h1 KA hT1
  have KD := hid (do_any3 h1 hr hok hnil)
  have lP1 := h1.p.lt
  have HT1 := hid hT1
  have HSZ := hid (show w1.heap.size = w.heap.size from by rw [hw1]; simp [World.setCell])
  have lP := h.p.lt
  clear hw1 h1 h hT1 hok hnil
  go_enter Tryz.func18, Tryz.ntmps18
  go_wp2_with fail
  refine KA.out.mono ?_
  rintro e w2 ⟨rfl, rfl⟩
  go_wp2_with fail
  refine KD.out.mono ?_
  rintro e w3 ⟨rfl, vH3, Hs3, h3, o3, t3, n3⟩
  have HN3 := hid (n3.same (w' := w) (by rw [HSZ.out]))
  clear n3
  have hT := HT1.out.then t3
  have KH := hid (has_any (.pointer (some ⟨P, 0, none⟩)) Ls.length i w3 (len_some h3))
  by_cases hi : hasN Ls.length i = true
  · obtain ⟨q, rfl, hq⟩ := hasN_in hi
    rw [hi] at KH
    obtain ⟨H, hvH, bH, hlo, hro⟩ := h3.hs rfl
    have hbq : q < Hs3.length := by rw [o3.1]; exact hq
    have hcell : w3.cell? ⟨H, q, none⟩ = some (.slice Hs3[q].A Hs3[q].xs.length Hs3[q].cap) := by
      rw [bH.cell]
      exact rowsC_at (List.getElem?_eq_getElem hbq)
    have hx := o3.2 q Hs3[q] (List.getElem?_eq_getElem hbq)
    have KC := hid (cloneI_any Hs3[q].xs Hs3[q].A Hs3[q].cap w3 (own_rd (hro _ (List.getElem_mem hbq))) (by rw [hx]; have := hitsB_len hr.up q Bs.length; have := hr.len; have := hr.n; omega))
    have p6 : w3.cell? ⟨P, 6, none⟩ = some (.slice (some ⟨H, 0, none⟩) Ls.length Ls.length) := by rw [h3.p.cell, ← hvH]; rfl
    have lP3 := h3.p.lt
    have lH := bH.lt
    have HF := hid (And.intro h3 (And.intro o3 (And.intro hT hx)))
    have hE : behL Bs Ls.length (q : Int) = Hs3[q].xs := by rw [hx]; simp [behL, hi]
    have HE := hid hE
    clear hE
    obtain ⟨bq, hbq'⟩ : ∃ bq, bq = Hs3[q] := ⟨_, rfl⟩
    rw [← hbq'] at hcell KC HF HE
    clear hbq' hx bH hro h3 o3 hT t3 hlo hvH
    go_wp2_with fail
    refine KH.out.mono ?_
    rintro e w4 ⟨rfl, rfl⟩
    go_wp2_with fail
    refine KC.out.mono ?_
    rintro e w5 ⟨A5, c5, rfl, hO5, hb5⟩
    have HF5 := hid (And.intro hO5 hb5)
    clear hO5 hb5 KC KH p6 lP3 lH hcell
    go_wp2_with fail
    go_ret
    unfold BehU
    rw [HE.out]
    exact ⟨w4, A5, c5, vH3, Hs3, rfl, HF5.out.1, HF.out.1, HF.out.2.1, HF.out.2.2.1, HF5.out.2, HN3.out⟩
  · have hi : hasN Ls.length i = false := by simpa using hi
    rw [hi] at KH
    have hE : behL Bs Ls.length i = [] := by simp [behL, hi]
    have HE := hid hE
    clear hE
    have HF := hid (And.intro h3 (And.intro o3 hT))
    have lP3 := h3.p.lt
    clear h3 o3 hT t3 hi
    go_wp2_with fail
    refine KH.out.mono ?_
    rintro e w4 ⟨rfl, rfl⟩
    go_wp2_with fail
    go_ret
    unfold BehU
    rw [HE.out]
    exact ⟨w4, none, 0, vH3, Hs3, rfl, World.ownsRow_nil _ _ _ _, HF.out.1, HF.out.2.1, HF.out.2.2, Below.refl _ _, HN3.out⟩
/-- The blocks that a plan uses. -/
def PlU (P : Nat) (vS vB vH : Value) (Ls : List Stp) (Bs Hs : List IRow) (dn : Bool) (g : Nat) : Prop :=
  g = P ∨ vS.ownBlock = some g ∨ vB.ownBlock = some g ∨ (∃ s ∈ Ls, (Value.slice s.A s.after.length s.cap).ownBlock = some g) ∨ (∃ b ∈ Bs, (Value.slice b.A b.xs.length b.cap).ownBlock = some g) ∨ (dn = true ∧ HsU vH Hs g)
theorem PlW.use (h : PlW base nm P vS vB vH Ls Bs Hs dn ask w) {g : Nat} (hu : PlU P vS vB vH Ls Bs Hs dn g) : base ≤ g ∧ g < w.heap.size := by
  rcases hu with rfl | e | e | ⟨s, hs, e⟩ | ⟨b, hb, e⟩ | ⟨hd, e⟩
  · exact ⟨h.lo, h.p.lt⟩
  · exact h.os.lt g e
  · exact h.ob.lt g e
  · exact (h.st s hs).lt g e
  · exact (h.rw b hb).lt g e
  · obtain ⟨H, h1, h2, h3, h4⟩ := h.hs hd
    rcases e with e | ⟨b, hb, e⟩
    · rw [h1] at e
      have e2 : H = g := by simpa [Value.ownBlock] using e
      subst e2
      exact ⟨h3, h2.lt⟩
    · exact (h4 b hb).lt g e
theorem PlW.touchS {S : Nat → Prop} (h : PlW base nm P vS vB vH Ls Bs Hs dn ask w) (hT : Touch S w w') (hS : ∀ g, S g → ¬ PlU P vS vB vH Ls Bs Hs dn g) : PlW base nm P vS vB vH Ls Bs Hs dn ask w' := by
  refine ⟨hT.blk h.p (fun e => hS P e (.inl rfl)), own_touch h.os hT (fun g hg e => hS g e (.inr (.inl hg))), own_touch h.ob hT (fun g hg e => hS g e (.inr (.inr (.inl hg)))), fun s hs => own_touch (h.st s hs) hT (fun g hg e => hS g e (.inr (.inr (.inr (.inl ⟨s, hs, hg⟩))))), fun b hb => own_touch (h.rw b hb) hT (fun g hg e => hS g e (.inr (.inr (.inr (.inr (.inl ⟨b, hb, hg⟩)))))), fun e => ?_, h.hl, h.lo⟩
  obtain ⟨H, h1, h2, h3, h4⟩ := h.hs e
  exact ⟨H, h1, hT.blk h2 (fun e2 => hS H e2 (.inr (.inr (.inr (.inr (.inr ⟨e, .inl (by rw [h1]; rfl)⟩)))))), h3, fun b hb => own_touch (h4 b hb) hT (fun g hg e2 => hS g e2 (.inr (.inr (.inr (.inr (.inr ⟨e, .inr ⟨b, hb, hg⟩⟩))))))⟩
end

end Go.Proofs.YtoemmakhbiiknaaGreat

namespace Go.Proofs.YtoemmakhbiiknaaGreat
open Go.RowKit Go.WideShapes Go.ChangeShapes Go.ChangeAt Go.Deep
set_option linter.unusedVariables false

/-- A step, wherever its names lie. -/
def strip (s : Stp) : Stp := twn s none 0
theorem strip_twn (s : Stp) (A : Option Addr) (c : Nat) : strip (twn s A c) = strip s := rfl
theorem Twins.strip {l l' : List Stp} (h : Twins l l') : l'.map strip = l.map strip := by
  apply List.ext_getElem?
  intro i
  rw [List.getElem?_map, List.getElem?_map]
  by_cases hi : i < l.length
  · obtain ⟨A, c, h1⟩ := h.at_ i _ (List.getElem?_eq_getElem hi)
    rw [h1, List.getElem?_eq_getElem hi]
    rfl
  · rw [List.getElem?_eq_none (by rw [h.len]; omega), List.getElem?_eq_none (by omega)]
theorem grf_strip (l : List Stp) : grf (l.map strip) = grf l := by
  unfold grf
  rw [List.map_map]
  refine List.map_congr_left fun s _ => ?_
  show s.after.map _ = s.after.map _
  refine List.map_congr_left fun a _ => ?_
  rw [List.findIdx_map]
  rfl
theorem names_strip (l : List Stp) : NamesOk (l.map strip) ↔ NamesOk l := by
  have e : (l.map strip).map Stp.name = l.map Stp.name := by rw [List.map_map]; rfl
  unfold NamesOk
  rw [e]
  constructor
  · rintro ⟨h1, h2⟩
    exact ⟨h1, fun s hs a ha => h2 (strip s) (List.mem_map_of_mem hs) a ha⟩
  · rintro ⟨h1, h2⟩
    refine ⟨h1, fun s hs a ha => ?_⟩
    obtain ⟨t, ht, rfl⟩ := List.mem_map.1 hs
    exact h2 t ht a ha
theorem fst_strip : ∀ l : List Stp, fstN (l.map strip) = fstN l
  | [] => rfl
  | s :: l => by
    show (if oneN s = 0 then fstN (l.map strip) else oneN s) = _
    rw [fst_strip l]
    rfl
theorem fin_strip (l : List Stp) : FinBad (l.map strip) ↔ FinBad l := by
  unfold FinBad
  rw [grf_strip]
  have ef : ∀ a, (l.map strip).findIdx (isNm a) = l.findIdx (isNm a) := fun a => by rw [List.findIdx_map]; rfl
  constructor
  · rintro ⟨i, s, hs, hf, x, hx, hxf, hn⟩
    rw [List.getElem?_map] at hs
    obtain ⟨t, ht, rfl⟩ := Option.map_eq_some_iff.1 hs
    obtain ⟨y, hy, rfl⟩ := List.mem_map.1 hx
    rw [ef] at hn
    exact ⟨i, t, ht, hf, y, hy, hxf, hn⟩
  · rintro ⟨i, s, hs, hf, x, hx, hxf, hn⟩
    refine ⟨i, strip s, by rw [List.getElem?_map, hs]; rfl, hf, strip x, List.mem_map_of_mem hx, hxf, ?_⟩
    rw [ef]
    exact hn
theorem check_strip (l : List Stp) : checkN (l.map strip) = checkN l := by
  unfold checkN
  rw [grf_strip, fst_strip]
  by_cases h1 : NamesOk l
  · rw [if_pos ((names_strip l).2 h1), if_pos h1]
    by_cases h2 : FinBad l
    · rw [if_pos ((fin_strip l).2 h2), if_pos h2]
    · rw [if_neg (fun h => h2 ((fin_strip l).1 h)), if_neg h2]
  · rw [if_neg (fun h => h1 ((names_strip l).1 h)), if_neg h1]
theorem check_twins {l l' : List Stp} (h : Twins l l') : checkN l' = checkN l := by rw [← check_strip l', h.strip, check_strip]
theorem grf_twins {l l' : List Stp} (h : Twins l l') : grf l' = grf l := by rw [← grf_strip l', h.strip, grf_strip]

theorem pickL_mem {p : Stp → Bool} {Ls : List Stp} {x : Int} : ∀ {k : Nat}, x ∈ pickL p Ls k ↔ ∃ (q : Nat) (t : Stp), q < k ∧ x = (q : Int) ∧ Ls[q]? = some t ∧ p t = true
  | 0 => ⟨fun h => (by cases h), fun ⟨q, _, h, _⟩ => (by omega)⟩
  | k + 1 => by
    show x ∈ pickL p Ls k ++ _ ↔ _
    rw [List.mem_append, pickL_mem (k := k)]
    constructor
    · rintro (⟨q, t, h1, h2, h3, h4⟩ | h)
      · exact ⟨q, t, by omega, h2, h3, h4⟩
      · split at h
        · rename_i t ht
          split at h
          · rename_i hp
            simp at h
            exact ⟨k, t, by omega, h, ht, hp⟩
          · cases h
        · cases h
    · rintro ⟨q, t, h1, h2, h3, h4⟩
      by_cases e : q = k
      · subst e
        right
        rw [h3]
        simp [h4, h2]
      · left
        exact ⟨q, t, by omega, h2, h3, h4⟩
theorem pickL_rise (p : Stp → Bool) (Ls : List Stp) : ∀ k, (pickL p Ls k).Pairwise (· < ·)
  | 0 => List.Pairwise.nil
  | k + 1 => by
    show (pickL p Ls k ++ _).Pairwise (· < ·)
    refine List.pairwise_append.2 ⟨pickL_rise p Ls k, ?_, fun x hx y hy => ?_⟩
    · split
      · split
        · exact List.pairwise_singleton _ _
        · exact List.Pairwise.nil
      · exact List.Pairwise.nil
    · obtain ⟨q, _, h1, h2, _⟩ := pickL_mem.1 hx
      split at hy
      · split at hy
        · simp at hy; omega
        · cases hy
      · cases hy
theorem waitB_iff (s t : Stp) : waitB s t = true ↔ t.name ∈ s.after := by
  unfold waitB
  rw [List.any_eq_true]
  constructor
  · rintro ⟨a, ha, h⟩
    rw [← bytes_eq_of h]
    exact ha
  · intro h
    exact ⟨_, h, by simp⟩
section
variable {l lg lr : List Stp} {ds : List Nat} {Ls : List Stp} {Bs : List IRow} {Lr : List Stp}
theorem two_steps (hg : PlG lg ds Ls Bs) (hr : OrdL lr ds Lr) (hlg : Twins l lg) (hlr : Twins l lr) {i : Nat} (hi : i < Ls.length) :
    ∃ (s : Stp) (A1 : Option Addr) (c1 : Nat) (A2 : Option Addr) (c2 : Nat), s ∈ l ∧ stepAt Ls (i : Int) = twn s A1 c1 ∧ Lr[i]? = some (twn s A2 c2) ∧ ∃ k, ds[i]? = some k ∧ l[k]? = some s := by
  have hd : ds[i]? = some (ds[i]'(by rw [← hg.ls]; exact hi)) := List.getElem?_eq_getElem _
  obtain ⟨s1, A1, c1, u1, v1⟩ := hg.step _ _ hd
  have hk : ds[i]'(by rw [← hg.ls]; exact hi) < l.length := by rw [← hlg.len]; exact (List.getElem?_eq_some_iff.1 u1).1
  have hs := List.getElem?_eq_getElem hk
  obtain ⟨A3, c3, h3⟩ := hlg.at_ _ _ hs
  obtain ⟨A4, c4, h4⟩ := hlr.at_ _ _ hs
  have h5 := hr.at_ _ _ hd
  rw [u1] at h3
  injection h3 with h3
  rw [h4] at h5
  exact ⟨_, A1, c1, A4, c4, List.getElem_mem hk, by rw [stepAt_in v1, h3]; rfl, h5, _, hd, hs⟩
theorem same_before (hN : NamesOk l) (ho : OrdOk (grf l) ds) (hg : PlG lg ds Ls Bs) (hr : OrdL lr ds Lr) (hlg : Twins l lg) (hlr : Twins l lr) {i : Nat} {s : Stp} (hi : i < Ls.length) (hs : Lr[i]? = some s) :
    rowAt Bs (i : Int) = pickL (fun t => waitB s t) Lr Lr.length := by
  have hd : ds[i]? = some (ds[i]'(by rw [← hg.ls]; exact hi)) := List.getElem?_eq_getElem _
  obtain ⟨b, q1, r1⟩ := hg.row _ _ hd
  rw [grf_twins hlg] at r1
  rw [rowAt_in q1]
  refine rise_ext r1.1 (pickL_rise _ _ _) fun x => ?_
  rw [r1.2, pickL_mem]
  obtain ⟨s', A1, c1, A2, c2, hsl, _, hsr, k0, hk0, hl0⟩ := two_steps hg hr hlg hlr hi
  rw [hs] at hsr
  injection hsr with hsr
  rw [hd] at hk0
  injection hk0 with hk0
  rw [hk0, grf_adj hl0]
  have haf : s.after = s'.after := by rw [hsr]; rfl
  constructor
  · rintro ⟨k, hk, rfl⟩
    obtain ⟨a, ha, rfl⟩ := List.mem_map.1 hk
    obtain ⟨t, ht, htn, _⟩ := hN.idx (hN.2 _ hsl a ha)
    have hkd : l.findIdx (isNm a) ∈ ds := List.mem_of_mem_take (ho.before i _ (by rw [hd, hk0]) _ (by rw [grf_adj hl0]; exact hk))
    have hlt := List.idxOf_lt_length_of_mem hkd
    have hix : ds[ds.idxOf (l.findIdx (isNm a))]? = some (l.findIdx (isNm a)) := by rw [List.getElem?_eq_getElem hlt, List.getElem_idxOf hlt]
    obtain ⟨A4, c4, h4⟩ := hlr.at_ _ _ ht
    have h5 := hr.at_ _ _ hix
    rw [h4] at h5
    refine ⟨_, _, by rw [hr.len]; exact hlt, rfl, h5, ?_⟩
    rw [waitB_iff, haf]
    show t.name ∈ _
    rw [htn]; exact ha
  · rintro ⟨q, t, hq, rfl, ht, hw⟩
    rw [waitB_iff, haf] at hw
    have hdq : ds[q]? = some (ds[q]'(by rw [← hr.len]; exact hq)) := List.getElem?_eq_getElem _
    have h5 := hr.at_ _ _ hdq
    rw [ht] at h5
    have hkl : ds[q]'(by rw [← hr.len]; exact hq) < l.length := by rw [← hlr.len]; exact (List.getElem?_eq_some_iff.1 h5.symm).1
    obtain ⟨A4, c4, h4⟩ := hlr.at_ _ _ (List.getElem?_eq_getElem hkl)
    rw [h4] at h5
    injection h5 with h5
    have hfi := nm_find hN (List.getElem?_eq_getElem hkl)
    have htn : t.name = (l[ds[q]'(by rw [← hr.len]; exact hq)]).name := by rw [h5]; rfl
    refine ⟨ds[q]'(by rw [← hr.len]; exact hq), List.mem_map.2 ⟨t.name, hw, by rw [htn]; exact hfi⟩, ?_⟩
    have hql : q < ds.length := by rw [← hr.len]; exact hq
    have hm : ds[q] ∈ ds := List.getElem_mem hql
    have hlt := List.idxOf_lt_length_of_mem hm
    have h9 : ds[ds.idxOf ds[q]]? = some ds[q] := by rw [List.getElem?_eq_getElem hlt, List.getElem_idxOf hlt]
    have := (List.getElem?_inj (j := q) hlt ho.nodup).1 (h9.trans hdq.symm)
    exact congrArg (fun z : Nat => (z : Int)) this.symm
theorem hitsB_rise {Bs : List IRow} (h : ∀ b ∈ Bs, b.xs.Pairwise (· < ·)) (k : Nat) : ∀ m, (hitsB Bs k m).Pairwise (· < ·) ∧ ∀ x ∈ hitsB Bs k m, x < (m : Int)
  | 0 => ⟨List.Pairwise.nil, fun x hx => by cases hx⟩
  | m + 1 => by
    obtain ⟨h1, h2⟩ := hitsB_rise h k m
    have hm : ∀ y ∈ hitsR k m (((Bs[m]?).map IRow.xs).getD []), y = (m : Int) := fun y hy => by
      unfold hitsR at hy
      obtain ⟨z, _, rfl⟩ := List.mem_map.1 hy
      rfl
    have hl : (hitsR k m (((Bs[m]?).map IRow.xs).getD [])).length ≤ 1 := by
      cases hb : Bs[m]? with
      | none => simp [hitsR]
      | some b => exact hitsR_rise (h b (List.mem_of_getElem? hb))
    show (hitsB Bs k m ++ hitsR k m _).Pairwise (· < ·) ∧ ∀ x ∈ hitsB Bs k m ++ hitsR k m _, x < ((m + 1 : Nat) : Int)
    refine ⟨List.pairwise_append.2 ⟨h1, ?_, fun x hx y hy => by rw [hm y hy]; exact h2 x hx⟩, fun x hx => ?_⟩
    · generalize hitsR k m (((Bs[m]?).map IRow.xs).getD []) = xs at hl
      match xs, hl with
      | [], _ => exact List.Pairwise.nil
      | [x], _ => exact List.pairwise_singleton _ _
      | x :: y :: r, hl => simp at hl
    · rcases List.mem_append.1 hx with hx | hx
      · have := h2 x hx; push_cast; omega
      · have := hm x hx; push_cast; omega
theorem hitsB_mem {Bs : List IRow} {k : Nat} {x : Int} : ∀ {m : Nat}, x ∈ hitsB Bs k m ↔ ∃ i : Nat, i < m ∧ x = (i : Int) ∧ (k : Int) ∈ rowAt Bs (i : Int)
  | 0 => ⟨fun h => (by cases h), fun ⟨i, h, _⟩ => (by omega)⟩
  | m + 1 => by
    have hrow : ∀ i : Nat, rowAt Bs (i : Int) = ((Bs[i]?).map IRow.xs).getD [] := fun i => by
      unfold rowAt
      rw [if_pos (by omega)]
      simp
    show x ∈ hitsB Bs k m ++ hitsR k m _ ↔ _
    rw [List.mem_append, hitsB_mem (m := m)]
    constructor
    · rintro (⟨i, h1, h2, h3⟩ | h)
      · exact ⟨i, by omega, h2, h3⟩
      · unfold hitsR at h
        obtain ⟨y, hy, rfl⟩ := List.mem_map.1 h
        obtain ⟨hy1, hy2⟩ := List.mem_filter.1 hy
        have : y = (k : Int) := by simpa using hy2
        subst this
        exact ⟨m, by omega, rfl, by rw [hrow]; exact hy1⟩
    · rintro ⟨i, h1, h2, h3⟩
      by_cases e : i = m
      · subst e
        right
        unfold hitsR
        rw [hrow] at h3
        exact List.mem_map.2 ⟨(k : Int), List.mem_filter.2 ⟨h3, by simp⟩, h2.symm⟩
      · left
        exact ⟨i, by omega, h2, h3⟩
theorem same_behind (hN : NamesOk l) (ho : OrdOk (grf l) ds) (hrow : RowsOk Ls Bs) (hg : PlG lg ds Ls Bs) (hr : OrdL lr ds Lr) (hlg : Twins l lg) (hlr : Twins l lr) {i : Nat} {s : Stp} (hi : i < Ls.length) (hs : Lr[i]? = some s) :
    behL Bs Ls.length (i : Int) = pickL (fun t => waitB t s) Lr Lr.length := by
  have h1 : behL Bs Ls.length (i : Int) = hitsB Bs i Bs.length := by
    have h2 : hasN Ls.length (i : Int) = true := by simp [hasN]; exact hi
    unfold behL
    rw [if_pos h2]
    simp
  have hLL : Ls.length = Lr.length := by rw [hg.ls, hr.len]
  rw [h1, hrow.len]
  refine rise_ext (hitsB_rise hrow.up i _).1 (pickL_rise _ _ _) fun x => ?_
  rw [hitsB_mem, pickL_mem]
  constructor
  · rintro ⟨p, hp, rfl, hm⟩
    obtain ⟨t, ht⟩ : ∃ t, Lr[p]? = some t := ⟨Lr[p]'(by rw [← hLL]; exact hp), List.getElem?_eq_getElem _⟩
    rw [same_before hN ho hg hr hlg hlr hp ht] at hm
    obtain ⟨q, t', hq, e, ht', hw⟩ := pickL_mem.1 hm
    have : q = i := by omega
    subst this
    rw [hs] at ht'
    injection ht' with ht'
    subst ht'
    exact ⟨p, t, by omega, rfl, ht, hw⟩
  · rintro ⟨p, t, hp, rfl, ht, hw⟩
    refine ⟨p, by omega, rfl, ?_⟩
    rw [same_before hN ho hg hr hlg hlr (by omega) ht]
    exact pickL_mem.2 ⟨i, s, by omega, rfl, hs, hw⟩
end

end Go.Proofs.YtoemmakhbiiknaaGreat

namespace Go.Proofs.YtoemmakhbiiknaaGreat
open Go.RowKit Go.WideShapes Go.ChangeShapes Go.ChangeAt Go.Deep
set_option linter.unusedVariables false

/-- A row of texts of the call's own, whatever stands in it. -/
def StrR (base : Nat) (w : World) (A : Option Addr) (n cap : Nat) : Prop := ∃ xs : List ByteArray, xs.length = n ∧ w.ownsRow base 9 1 (.slice A n cap) n (xs.flatMap enB)
def IntR (base : Nat) (w : World) (A : Option Addr) (n cap : Nat) : Prop := ∃ xs : List Int, xs.length = n ∧ w.ownsRow base 3 1 (.slice A n cap) n (xs.flatMap en1)
section
variable {base n cap : Nat} {w w' : World} {A : Option Addr}
theorem StrR.touch {S : Nat → Prop} (h : StrR base w A n cap) (hT : Touch S w w') (hS : ∀ g, (Value.slice A n cap).ownBlock = some g → ¬ S g) : StrR base w' A n cap := by
  obtain ⟨xs, h1, h2⟩ := h
  exact ⟨xs, h1, own_touch h2 hT hS⟩
theorem IntR.touch {S : Nat → Prop} (h : IntR base w A n cap) (hT : Touch S w w') (hS : ∀ g, (Value.slice A n cap).ownBlock = some g → ¬ S g) : IntR base w' A n cap := by
  obtain ⟨xs, h1, h2⟩ := h
  exact ⟨xs, h1, own_touch h2 hT hS⟩
theorem own_formR {e : TypeId} {size : Nat} {xs : List Value} (h : w.ownsRow base e size (.slice A n cap) n xs) {j : Nat} (hj : j < n) : ∃ g, A = some ⟨g, 0, none⟩ := by
  rcases h.2 with ⟨e, h0⟩ | ⟨g, c', cur, e, _⟩
  · omega
  · simp only [Value.slice.injEq] at e
    exact ⟨g, e.1⟩
theorem StrR.at_ (h : StrR base w A n cap) {j : Nat} (hj : j < n) : ∃ g a, A = some ⟨g, 0, none⟩ ∧ base ≤ g ∧ g < w.heap.size ∧ w.cell? ⟨g, j, none⟩ = some (.string a) ∧ w.frozen? ⟨g, j, none⟩ = false := by
  obtain ⟨xs, h1, h2⟩ := h
  obtain ⟨g, rfl⟩ := own_formR h2 hj
  have hl := h2.lt g rfl
  have hx : xs[j]? = some xs[j] := List.getElem?_eq_getElem (by omega)
  refine ⟨g, xs[j], rfl, hl.1, hl.2, ?_, h2.frozenAt j⟩
  rw [h2.cellAt j (by omega)]
  have := getElem?_flatMap enB 1 enB_len xs j xs[j] hx 0 (by omega)
  simpa [enB] using this
theorem IntR.at_ (h : IntR base w A n cap) {j : Nat} (hj : j < n) : ∃ g a, A = some ⟨g, 0, none⟩ ∧ base ≤ g ∧ g < w.heap.size ∧ w.cell? ⟨g, j, none⟩ = some (.int .i64 a) ∧ w.frozen? ⟨g, j, none⟩ = false := by
  obtain ⟨xs, h1, h2⟩ := h
  obtain ⟨g, rfl⟩ := own_formR h2 hj
  have hl := h2.lt g rfl
  have hx : xs[j]? = some xs[j] := List.getElem?_eq_getElem (by omega)
  refine ⟨g, xs[j], rfl, hl.1, hl.2, ?_, h2.frozenAt j⟩
  rw [h2.cellAt j (by omega)]
  have := getElem?_flatMap en1 1 (fun _ => rfl) xs j xs[j] hx 0 (by omega)
  simpa [en1] using this
theorem StrR.put (h : StrR base w A n cap) (g o : Nat) (b : ByteArray) : StrR base (w.setCell ⟨g, o, none⟩ (.string b)) A n cap := by
  obtain ⟨xs, h1, h2⟩ := h
  by_cases hg : (Value.slice A n cap).ownBlock = some g
  · obtain ⟨g', e⟩ : ∃ g', A = some ⟨g', 0, none⟩ := by
      rcases h2.2 with ⟨e, h0⟩ | ⟨g', c', cur, e, _⟩
      · rw [e] at hg; cases hg
      · simp only [Value.slice.injEq] at e
        exact ⟨g', e.1⟩
    subst e
    have e2 : g' = g := by simpa [Value.ownBlock] using hg
    subst e2
    obtain ⟨h3, _⟩ := h2.stored o (.string b)
    by_cases ho : o < xs.length
    · refine ⟨xs.set o b, by rw [List.length_set]; exact h1, ?_⟩
      have := set_flat enB 1 enB_len xs o 0 xs[o] (.string b) (List.getElem?_eq_getElem ho) (by omega) b rfl
      rw [Nat.mul_one, Nat.add_zero] at this
      rw [← this]
      exact h3
    · refine ⟨xs, h1, ?_⟩
      have e3 : (xs.flatMap enB).set o (.string b) = xs.flatMap enB := List.set_eq_of_length_le (by rw [show (xs.flatMap enB).length = xs.length from by rw [flat_enB_len]; omega]; omega)
      rw [e3] at h3
      exact h3
  · exact ⟨xs, h1, own_touch h2 (Touch.setCell w g o _) (fun g' hg' e => hg (by rw [hg', e]))⟩
theorem IntR.put (h : IntR base w A n cap) (g o : Nat) (b : Int) : IntR base (w.setCell ⟨g, o, none⟩ (.int .i64 b)) A n cap := by
  obtain ⟨xs, h1, h2⟩ := h
  by_cases hg : (Value.slice A n cap).ownBlock = some g
  · obtain ⟨g', e⟩ : ∃ g', A = some ⟨g', 0, none⟩ := by
      rcases h2.2 with ⟨e, h0⟩ | ⟨g', c', cur, e, _⟩
      · rw [e] at hg; cases hg
      · simp only [Value.slice.injEq] at e
        exact ⟨g', e.1⟩
    subst e
    have e2 : g' = g := by simpa [Value.ownBlock] using hg
    subst e2
    obtain ⟨h3, _⟩ := h2.stored o (.int .i64 b)
    by_cases ho : o < xs.length
    · refine ⟨xs.set o b, by rw [List.length_set]; exact h1, ?_⟩
      have := set_flat en1 1 (fun _ => rfl) xs o 0 xs[o] (.int .i64 b) (List.getElem?_eq_getElem ho) (by omega) b rfl
      rw [Nat.mul_one, Nat.add_zero] at this
      rw [← this]
      exact h3
    · refine ⟨xs, h1, ?_⟩
      have e4 : (xs.flatMap en1).length = xs.length := by rw [flat_en1, List.length_map]
      have e3 : (xs.flatMap en1).set o (.int .i64 b) = xs.flatMap en1 := List.set_eq_of_length_le (by omega)
      rw [e3] at h3
      exact h3
  · exact ⟨xs, h1, own_touch h2 (Touch.setCell w g o _) (fun g' hg' e => hg (by rw [hg', e]))⟩
end
/-- Both plans, held. -/
structure PcS (w0 : World) (bG base : Nat) (nm : ByteArray) (P : Nat) (vS vB : Value) (Ls : List Stp) (Bs : List IRow) (base2 R : Nat) (SA : Option Addr) (sc : Nat) (Lr : List Stp) (vH : Value) (Hs : List IRow) (dn : Bool) (ask : Int) (w : World) : Prop where
  p : PlW base nm P vS vB vH Ls Bs Hs dn ask w
  hok : dn = true → HsOk Bs Hs Ls.length
  hnil : dn = false → vH = .slice none 0 0
  rows : RowsOk Ls Bs
  aft : ∀ s ∈ Ls, s.after.length * 16 ≤ 140737488355328
  r : RpS base2 R nm SA sc Lr w
  af : ∀ s ∈ Lr, ∀ b, s.A.map (·.block) = some b → b < bG
  bel : Below w0.heap.size w0 w
  lo : w0.heap.size ≤ bG
  lp : bG ≤ base
  lr : bG ≤ base2 ∧ base2 ≤ R
section
variable {w0 w w' : World} {bG base : Nat} {nm : ByteArray} {P : Nat} {vS vB : Value} {Ls : List Stp} {Bs : List IRow} {base2 R : Nat} {SA : Option Addr} {sc : Nat} {Lr : List Stp} {vH : Value} {Hs : List IRow} {dn : Bool} {ask : Int}
theorem PcS.as (h : PcS w0 bG base nm P vS vB Ls Bs base2 R SA sc Lr vH Hs dn ask w) : AsS w0 base nm P vS vB Ls Bs ask w := ⟨⟨vH, Hs, dn, h.p, h.hok, h.hnil⟩, h.rows, h.aft, h.bel, Nat.le_trans h.lo h.lp⟩
theorem PcS.next (h : PcS w0 bG base nm P vS vB Ls Bs base2 R SA sc Lr vH Hs dn ask w) (hb : Below w.heap.size w w') : PcS w0 bG base nm P vS vB Ls Bs base2 R SA sc Lr vH Hs dn ask w' := ⟨h.p.next hb, h.hok, h.hnil, h.rows, h.aft, h.r.next hb, h.af, bthen h.bel hb, h.lo, h.lp, h.lr⟩
/-- The document's plan, when other blocks are written. -/
theorem RpS.touch {S : Nat → Prop} (h : RpS base2 R nm SA sc Lr w) (haf : ∀ s ∈ Lr, ∀ b, s.A.map (·.block) = some b → b < bG) (hT : Touch S w w') (hS : ∀ g, S g → bG ≤ g ∧ g ≠ R ∧ (Value.slice SA Lr.length sc).ownBlock ≠ some g) : RpS base2 R nm SA sc Lr w' :=
  ⟨hT.blk h.p (fun e => (hS R e).2.1 rfl), own_touch h.os hT (fun g hg e => (hS g e).2.2 hg), fun s hs => ⟨hT.rd (h.ok s hs).row (fun b hb e => by have := haf s hs b hb; have := (hS b e).1; omega), (h.ok s hs).len⟩, h.n⟩
theorem PcS.touch {S : Nat → Prop} (h : PcS w0 bG base nm P vS vB Ls Bs base2 R SA sc Lr vH Hs dn ask w) (hT : Touch S w w') (hS : ∀ g, S g → bG ≤ g ∧ ¬ PlU P vS vB vH Ls Bs Hs dn g ∧ g ≠ R ∧ (Value.slice SA Lr.length sc).ownBlock ≠ some g) : PcS w0 bG base nm P vS vB Ls Bs base2 R SA sc Lr vH Hs dn ask w' :=
  ⟨h.p.touchS hT (fun g hg => (hS g hg).2.1), h.hok, h.hnil, h.rows, h.aft, h.r.touch h.af hT (fun g hg => ⟨(hS g hg).1, (hS g hg).2.2⟩), h.af, h.bel.trans (hT.below h.bel.size (fun k hk => Nat.le_trans h.lo (hS k hk).1)), h.lo, h.lp, h.lr⟩
/-- The blocks of the copied definition may be written. -/
theorem PcS.touchG {bP : Nat} (h : PcS w0 bG base nm P vS vB Ls Bs base2 R SA sc Lr vH Hs dn ask w) (hT : Touch (fun g => bG ≤ g ∧ g < bP) w w') (h1 : bP ≤ base) (h2 : bP ≤ base2) : PcS w0 bG base nm P vS vB Ls Bs base2 R SA sc Lr vH Hs dn ask w' :=
  h.touch hT (fun g hg => ⟨hg.1, fun hu => by have := (h.p.use hu).1; omega, fun e => by have := h.lr.2; omega, fun e => by have := (h.r.os.lt g e).1; omega⟩)
/-- While what was answered is written over. -/
structure PcM (n0 n1 n2 : Nat) (P : Nat) (vS vB : Value) (Ls : List Stp) (Bs : List IRow) (R : Nat) (SA : Option Addr) (sc : Nat) (Lr : List Stp) (vH : Value) (Hs : List IRow) (bG : Nat) : Prop where
  u : ∀ g, PlU P vS vB vH Ls Bs Hs true g → g < n0 ∨ (n1 ≤ g ∧ g < n2)
  r : R < n0
  ro : ∀ g, (Value.slice SA Lr.length sc).ownBlock = some g → g < n0
  b : bG ≤ n0
  le : n0 ≤ n1 ∧ n1 ≤ n2
theorem PcS.mark {n0 n1 n2 : Nat} {S : Nat → Prop} (h : PcS w0 bG base nm P vS vB Ls Bs base2 R SA sc Lr vH Hs true ask w) (hm : PcM n0 n1 n2 P vS vB Ls Bs R SA sc Lr vH Hs bG) (hT : Touch S w w') (hS : ∀ g, S g → (n0 ≤ g ∧ g < n1) ∨ n2 ≤ g) : PcS w0 bG base nm P vS vB Ls Bs base2 R SA sc Lr vH Hs true ask w' :=
  h.touch hT (fun g hg => by
    have h1 := hS g hg
    have h2 := hm.b
    have h3 := hm.le
    refine ⟨by omega, fun hu => ?_, fun e => ?_, fun e => ?_⟩
    · have := hm.u g hu; omega
    · have := hm.r; omega
    · have := hm.ro g e; omega)
theorem PcS.behind (h : PcS w0 bG base nm P vS vB Ls Bs base2 R SA sc Lr vH Hs dn ask w) (i : Int) (ha : 0 ≤ ask ∧ ask ≤ 4611686018427387904) (n0 : Nat) (hu : ∀ g, PlU P vS vB vH Ls Bs Hs dn g → g < n0) (hr : R < n0) (hro : ∀ g, (Value.slice SA Lr.length sc).ownBlock = some g → g < n0) (hb : bG ≤ n0) (hn : n0 ≤ w.heap.size) :
    Calls Tryz.prog 18 #[.pointer (some ⟨P, 0, none⟩), .int .i64 i] w fun e w' => ∃ (n2 : Nat) (A : Option Addr) (cap : Nat) (vH' : Value) (Hs' : List IRow), e = .returned (.slice A (behL Bs Ls.length i).length cap) ∧ w'.ownsRow n2 3 1 (.slice A (behL Bs Ls.length i).length cap) (behL Bs Ls.length i).length ((behL Bs Ls.length i).flatMap en1) ∧
      PcS w0 bG base nm P vS vB Ls Bs base2 R SA sc Lr vH' Hs' true (ask + 1) w' ∧ PcM n0 w.heap.size n2 P vS vB Ls Bs R SA sc Lr vH' Hs' bG ∧ Touch (· = P) w w' := by
  refine (behind_any3 h.p h.rows h.hok h.hnil i ha).mono ?_
  rintro e w' ⟨w3, A, cap, vH', Hs', rfl, hO, hP, hH, hT, hb3, hN⟩
  have hPle := h.p.lo
  have hr3 := h.r.touch h.af hT (fun g hg => ⟨by rw [hg]; exact Nat.le_trans h.lp hPle, fun e => by
    have e2 : P = R := by rw [← hg, e]
    exact (h.p.p.ne_ h.r.p (by decide)) e2, fun e => own_notBlk h.r.os h.p.p (by decide) (by rw [e, hg])⟩)
  have hbel3 := h.bel.trans (hT.below h.bel.size (fun k hk => by rw [hk]; exact Nat.le_trans h.lo (Nat.le_trans h.lp hPle)))
  refine ⟨w3.heap.size, A, cap, vH', Hs', rfl, hO, ⟨hP.next hb3, (fun _ => hH), (fun e => by cases e), h.rows, h.aft, hr3.next hb3, h.af, bthen hbel3 hb3, h.lo, h.lp, h.lr⟩, ⟨fun g hg => ?_, hr, hro, hb, hn, hT.size⟩, hT.then (Touch.of_below hb3)⟩
  have h2 := (hP.use hg).2
  rcases hg with e | e | e | e | e | ⟨_, e⟩
  · exact .inl (hu g (.inl e))
  · exact .inl (hu g (.inr (.inl e)))
  · exact .inl (hu g (.inr (.inr (.inl e))))
  · exact .inl (hu g (.inr (.inr (.inr (.inl e)))))
  · exact .inl (hu g (.inr (.inr (.inr (.inr (.inl e))))))
  · rcases hN g e with ⟨hd, h3⟩ | h3
    · exact .inl (hu g (.inr (.inr (.inr (.inr (.inr ⟨hd, h3⟩))))))
    · exact .inr ⟨h3, h2⟩
end

end Go.Proofs.YtoemmakhbiiknaaGreat
