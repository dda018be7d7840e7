/-
  The document's credit book: Restore.
-/
import Derived.Test.YtpofhadeepgmbaaRst14
import Derived.Test.YtpofhadeepgmbaaPlay14
namespace Go.Proofs.Ytpofhadeepgmbaa
open Go.RowKit Go.WideShapes Go.ChangeShapes Go.ChangeAt Go.Deep
set_option linter.unusedVariables false

def RRestPost (pl : List Pa) (hl : List Hd) (w : World) (e : Ending) (w' : World) : Prop :=
  (Good pl hl → ∃ R A1 c1 A2 c2, e = .returned (.tuple #[.pointer (some ⟨R, 0, none⟩), .int .i64 0]) ∧ w.heap.size ≤ R ∧ IsRef (w.heap.size + 1) w' R A1 c1 (psF pl) A2 c2 (hrF hl)) ∧ (¬ Good pl hl → e = .returned (.tuple #[.pointer none, .int .i64 2]))

/-- The document's lists behind k parties. -/
structure Ps (pl : List Pa) (k : Nat) : Prop where
  good : ∀ j, j < k → GoodP pl j
  srt : SortedK Pa.i ltI (psF (pl.take k))
theorem Ps.mem {pl : List Pa} {k : Nat} (id : Int) : id ∈ (psF (pl.take k)).map Pa.i ↔ id ∈ (pl.take k).map Pa.i := ((insF_perm (key := Pa.i) (lt := ltI) (pl.take k)).map Pa.i).mem_iff
theorem Ps.step {pl : List Pa} {k : Nat} (h : Ps pl k) {p : Pa} (hp : pl[k]? = some p) (hg : GoodP pl k) : Ps pl (k + 1) := by
  refine ⟨fun j hj => (Nat.lt_succ_iff_lt_or_eq.1 hj).elim (h.good j) (fun e => by subst e; exact hg), ?_⟩
  unfold psF
  rw [insF_take hp]
  exact insK_sorted linI h.srt (fun hin => (hg p hp).2 ((Ps.mem p.i).1 hin))
structure Hs (pl : List Pa) (hl : List Hd) (k : Nat) : Prop where
  good : ∀ j, j < k → GoodD pl hl j
  srt : SortedK Hd.o ltI (hrF (hl.take k))
  amt : ∀ d ∈ hl.take k, 0 ≤ d.a
  sum : ∀ c, sumC (hl.take k) c ≤ 1125899906842624
theorem Hs.mem {hl : List Hd} {k : Nat} (o : Int) : o ∈ (hrF (hl.take k)).map Hd.o ↔ o ∈ (hl.take k).map Hd.o := ((insF_perm (key := Hd.o) (lt := ltI) (hl.take k)).map Hd.o).mem_iff
theorem Hs.sumF {hl : List Hd} {k : Nat} (c : Int) : sumC (hrF (hl.take k)) c = sumC (hl.take k) c := sumC_perm (insF_perm (key := Hd.o) (lt := ltI) (hl.take k)) c
theorem Hs.amtF {pl : List Pa} {hl : List Hd} {k : Nat} (h : Hs pl hl k) : ∀ d ∈ hrF (hl.take k), 0 ≤ d.a := fun d hd => h.amt d ((insF_perm (key := Hd.o) (lt := ltI) (hl.take k)).mem_iff.1 hd)
theorem Hs.step {pl : List Pa} {hl : List Hd} {k : Nat} (h : Hs pl hl k) {d : Hd} (hd : hl[k]? = some d) (hg : GoodD pl hl k) : Hs pl hl (k + 1) := by
  obtain ⟨b1, b2, b3, b4, b5, b6⟩ := hg d hd
  refine ⟨fun j hj => (Nat.lt_succ_iff_lt_or_eq.1 hj).elim (h.good j) (fun e => by subst e; exact hg), ?_, ?_, ?_⟩
  · unfold hrF
    rw [insF_take hd]
    exact insK_sorted linI h.srt (fun hin => b2 ((Hs.mem d.o).1 hin))
  · intro x hx
    rw [List.take_add_one, hd] at hx
    rcases List.mem_append.1 hx with hx | hx
    · exact h.amt x hx
    · simp at hx; subst hx; exact b4
  · intro c
    rw [sumC_snoc hd]
    by_cases e : d.c = c
    · subst e; rw [if_pos rfl]; exact b6
    · rw [if_neg e, Int.add_zero]; exact h.sum c
theorem plc_mem {ps : List Pa} (id : Int) : (id ∈ ps.map Pa.i ∧ ∃ k : Nat, plc (isP id) ps = k) ∨ (id ∉ ps.map Pa.i ∧ plc (isP id) ps = -1) := by
  rcases plc_cases (isP id) ps with ⟨k, y, hk, hy, hp, he⟩ | ⟨hn, he⟩
  · exact .inl ⟨List.mem_map.2 ⟨y, List.mem_of_getElem? hy, by simpa [isP] using hp⟩, k, he⟩
  · refine .inr ⟨fun hin => ?_, he⟩
    obtain ⟨y, hy, e⟩ := List.mem_map.1 hin
    have := hn y hy
    simp [isP, e] at this
theorem plo_mem {hr : List Hd} (o : Int) : (o ∈ hr.map Hd.o ∧ ∃ k : Nat, plc (isO o) hr = k) ∨ (o ∉ hr.map Hd.o ∧ plc (isO o) hr = -1) := by
  rcases plc_cases (isO o) hr with ⟨k, y, hk, hy, hp, he⟩ | ⟨hn, he⟩
  · exact .inl ⟨List.mem_map.2 ⟨y, List.mem_of_getElem? hy, by simpa [isO] using hp⟩, k, he⟩
  · refine .inr ⟨fun hin => ?_, he⟩
    obtain ⟨y, hy, e⟩ := List.mem_map.1 hin
    have := hn y hy
    simp [isO, e] at this

/-- The document's book under way. -/
structure RP (w : World) (R : Nat) (A1 : Option Addr) (c1 : Nat) (ps : List Pa) (A2 : Option Addr) (c2 : Nat) (hr : List Hd) (wr : World) : Prop where
  ref : IsRef (w.heap.size + 1) wr R A1 c1 ps A2 c2 hr
  bel : Below w.heap.size w wr
  bw : w.heap.size + 1 ≤ wr.heap.size
section
variable {w wr w' : World} {R c1 c2 c1' c2' : Nat} {A1 A2 A1' A2' : Option Addr} {ps ps' : List Pa} {hr hr' : List Hd}
theorem RP.next (h : RP w R A1 c1 ps A2 c2 hr wr) (hb : Below wr.heap.size wr w') : RP w R A1 c1 ps A2 c2 hr w' := ⟨h.ref.next hb, bthen h.bel hb, Nat.le_trans h.bw hb.size⟩
theorem RP.step1 (h : RP w R A1 c1 ps A2 c2 hr wr) (hR : w.heap.size ≤ R) (hF : IsRef (w.heap.size + 1) w' R A1' c1' ps' A2 c2 hr) (hT : Touch (RT wr.heap.size R A1) wr w') : RP w R A1' c1' ps' A2 c2 hr w' :=
  ⟨hF, h.bel.trans (hT.below h.bel.size (rt_low h.ref.own1 h.bel hR h.ref.lt)), Nat.le_trans h.bw hT.size⟩
theorem RP.step2 (h : RP w R A1 c1 ps A2 c2 hr wr) (hR : w.heap.size ≤ R) (hF : IsRef (w.heap.size + 1) w' R A1 c1 ps A2' c2' hr') (hT : Touch (RT wr.heap.size R A2) wr w') : RP w R A1 c1 ps A2' c2' hr' w' :=
  ⟨hF, h.bel.trans (hT.below h.bel.size (rt_low h.ref.own2 h.bel hR h.ref.lt)), Nat.le_trans h.bw hT.size⟩
end

set_option maxRecDepth 100000 in
set_option maxHeartbeats 16000000 in
theorem rrestore_any (pl : List Pa) (A1 : Option Addr) (cp1 : Nat) (hl : List Hd) (A2 : Option Addr) (cp2 : Nat) (w : World) (hR1 : Rd w A1 (pl.flatMap enP)) (hR2 : Rd w A2 (hl.flatMap enH3)) (hb1 : pl.length * 16 ≤ 140737488351232) (hb2 : hl.length * 24 ≤ 140737488351232) :
    Calls Try.prog 20 #[.slice A1 pl.length cp1, .slice A2 hl.length cp2] w fun e w' => RRestPost pl hl w e w' ∧ Below w.heap.size w w' := by
  have hP0 : RP w w.heap.size none 0 [] none 0 [] (w.alloc (.cells #[.slice none 0 0, .slice none 0 0] 50)) :=
    ⟨⟨Blk.new _ _ _, World.ownsRow_nil _ _ _ _, World.ownsRow_nil _ _ _ _, Nat.lt_succ_self _⟩, (Below.refl _ _).alloc (Nat.le_refl _) _, by simp⟩
  obtain ⟨R, hR⟩ : ∃ R, R = w.heap.size := ⟨_, rfl⟩
  have hRw : w.heap.size ≤ R := by omega
  have HR := hid hR
  rw [← hR] at hP0
  replace hP0 := hid hP0
  clear hR
  go_enter Try.func20, Try.ntmps20
  go_wp2_with fail
  rw [← HR.out]
  go_loopw [7] (fun i wr => ∃ (k : Nat) (A1' : Option Addr) (c1' : Nat), k ≤ pl.length ∧ i = .int .i64 k ∧ Hid (Ps pl k) ∧ RP w R A1' c1' (psF (pl.take k)) none 0 [] wr) (fun i _ => pl.length - nOf i)
  case atStart => exact ⟨0, none, 0, Nat.zero_le _, rfl, hid ⟨fun j hj => by omega, List.Pairwise.nil⟩, hP0.out⟩
  case round =>
    clear hP0
    obtain ⟨k, A1', c1', hk, rfl, hG, hP⟩ := hrel
    by_cases hlt : k < pl.length
    · obtain ⟨p, hp⟩ : ∃ p, pl[k]? = some p := ⟨pl[k], List.getElem?_eq_getElem hlt⟩
      obtain ⟨b, off, hAA, hbs, hcc⟩ := (hR1.below hP.bel).at_ 2 enP_len (by omega) hp
      have hHP := hid hp
      obtain ⟨pi, pl'⟩ := p
      have q0 : wr.cell? ⟨b, off + k * 2, none⟩ = some (.int .i64 pi) := hcc 0 _ rfl
      have q1 : wr.cell? ⟨b, off + k * 2 + 1, none⟩ = some (.int .i64 pl') := hcc 1 _ rfl
      have hlen : (psF (pl.take k)).length = k := by
        show (insF Pa.i ltI (pl.take k)).length = k
        rw [(insF_perm (pl.take k)).length_eq]; simp; omega
      have F := hid (fun w' h => rfind_any (w := w') (base := w.heap.size + 1) (R := R) (A1 := A1') (c1 := c1') (ps := psF (pl.take k)) (A2 := none) (c2 := 0) (hr := []) h pi (by omega))
      clear hcc hp
      subst hAA
      by_cases hok : custOk pi pl'
      · have K := hid (fun w' (h : RP w R A1' c1' (psF (pl.take k)) none 0 [] w') => rcust_yes h.ref hG.out.srt pi pl' hok (by omega) h.bw)
        unfold CustPost at K
        rcases plc_mem (ps := psF (pl.take k)) pi with ⟨hin, j, he⟩ | ⟨hin, he⟩
        · rw [he] at F
          have HBAD := hid (show ¬ Good pl hl from fun hh => (hh.1 k _ hHP.out).2 ((Ps.mem pi).1 hin))
          clear hlen hin he hok
          go_wp2_with fail
          refine (F.out _ hP.ref).mono ?_
          rintro e w5 ⟨rfl, rfl⟩
          go_wp2_with fail
          have hD := hP.next (below_drewN (Below.refl _ _) 1)
          refine wp_tail 11 (by kernel_rfl) (by kernel_rfl) ?_
          simp only [List.take_succ_cons, List.take_zero, List.drop_succ_cons, List.drop_zero]
          repeat still_step
          refine wpStill_nil ?_
          go_wp2_with fail
          refine (K.out _ hD).mono ?_
          rintro e w6 ⟨A6, c6, rfl, h6, hT6⟩
          replace hD := hid (hD.step1 hRw h6 hT6)
          clear h6 hT6 hP F K q0 q1
          go_wp2_with fail
          go_ret2
          exact ⟨⟨fun hh => absurd hh HBAD.out, fun _ => rfl⟩, hD.out.bel⟩
        · rw [he] at F
          have HGOOD := hid (show GoodP pl k from fun p hp => by
            rw [hHP.out] at hp; injection hp with hp; subst hp
            exact ⟨hok, fun h => hin ((Ps.mem pi).2 h)⟩)
          have HC : Hid (psC (psF (pl.take k)) pi pl' = psF (pl.take (k + 1))) := hid (by
            unfold psC; rw [he, if_neg (by omega)]
            unfold psF; rw [insF_take hHP.out])
          clear hlen hin he hok
          go_wp2_with fail
          refine (F.out _ hP.ref).mono ?_
          rintro e w5 ⟨rfl, rfl⟩
          go_wp2_with fail
          have hD := hP.next (below_drewN (Below.refl _ _) 1)
          refine wp_tail 11 (by kernel_rfl) (by kernel_rfl) ?_
          simp only [List.take_succ_cons, List.take_zero, List.drop_succ_cons, List.drop_zero]
          repeat still_step
          refine wpStill_nil ?_
          go_wp2_with fail
          refine (K.out _ hD).mono ?_
          rintro e w6 ⟨A6, c6, rfl, h6, hT6⟩
          rw [HC.out] at h6
          replace hD := hid (hD.step1 hRw h6 hT6)
          clear h6 hT6 hP F K q0 q1
          go_wp2_with fail
          go_roundw
          case rel => exact ⟨k + 1, _, _, by omega, by go_num, hid (hG.out.step hHP.out HGOOD.out), hD.out⟩
          case measure => simp [nOf]; omega
      · have K := hid (fun w' => rcust_no (w := w') pi pl' hok (.pointer (some ⟨R, 0, none⟩)))
        have HBAD := hid (show ¬ Good pl hl from fun hh => hok (hh.1 k _ hHP.out).1)
        rcases plc_mem (ps := psF (pl.take k)) pi with ⟨hin, j, he⟩ | ⟨hin, he⟩
        all_goals
          rw [he] at F
          clear hlen hin he hok
          go_wp2_with fail
          refine (F.out _ hP.ref).mono ?_
          rintro e w5 ⟨rfl, rfl⟩
          go_wp2_with fail
          have hD := hid (hP.next (below_drewN (Below.refl _ _) 1))
          refine wp_tail 11 (by kernel_rfl) (by kernel_rfl) ?_
          simp only [List.take_succ_cons, List.take_zero, List.drop_succ_cons, List.drop_zero]
          repeat still_step
          refine wpStill_nil ?_
          go_wp2_with fail
          refine (K.out _).mono ?_
          rintro e w6 ⟨rfl, rfl⟩
          clear hP F K q0 q1
          go_wp2_with fail
          go_ret2
          exact ⟨⟨fun hh => absurd hh HBAD.out, fun _ => rfl⟩, hD.out.bel⟩
    · have hk' : k = pl.length := by omega
      subst hk'
      have hGP : Hid (∀ j, GoodP pl j) := hid (fun j => by
        by_cases hj : j < pl.length
        · exact hG.out.good j hj
        · intro p hp
          rw [List.getElem?_eq_none (by omega)] at hp
          cases hp)
      rw [List.take_length] at hP
      clear hG hk hlt
      go_wp2_with fail
      go_loopw [10] (fun i wr => ∃ (k : Nat) (A2' : Option Addr) (c2' : Nat), k ≤ hl.length ∧ i = .int .i64 k ∧ Hid (Hs pl hl k) ∧ RP w R A1' c1' (psF pl) A2' c2' (hrF (hl.take k)) wr) (fun i _ => hl.length - nOf i)
      case atStart => exact ⟨0, none, 0, Nat.zero_le _, rfl, hid ⟨fun j hj => by omega, List.Pairwise.nil, (fun d hd => by simp at hd), fun c => by simp [sumC]⟩, hP⟩
      case round =>
        clear hP
        obtain ⟨k, A2', c2', hk, rfl, hG, hP⟩ := hrel
        by_cases hlt : k < hl.length
        · obtain ⟨d, hd⟩ : ∃ d, hl[k]? = some d := ⟨hl[k], List.getElem?_eq_getElem hlt⟩
          obtain ⟨b, off, hAA, hbs, hcc⟩ := (hR2.below hP.bel).at_ 3 enH3_len (by omega) hd
          have hHD := hid hd
          obtain ⟨do', dc, da⟩ := d
          have q0 : wr.cell? ⟨b, off + k * 3, none⟩ = some (.int .i64 do') := hcc 0 _ rfl
          have q1 : wr.cell? ⟨b, off + k * 3 + 1, none⟩ = some (.int .i64 dc) := hcc 1 _ rfl
          have q2 : wr.cell? ⟨b, off + k * 3 + 2, none⟩ = some (.int .i64 da) := hcc 2 _ rfl
          have hwb : Below wr.heap.size wr (wr.alloc (.cells #[.int .i64 do', .int .i64 dc, .int .i64 da] 59)) := (Below.refl _ _).alloc (Nat.le_refl _) _
          have hG0 : Blk (wr.alloc (.cells #[.int .i64 do', .int .i64 dc, .int .i64 da] 59)) wr.heap.size 59 #[.int .i64 do', .int .i64 dc, .int .i64 da] := Blk.new _ _ _
          obtain ⟨wz, hwz⟩ : ∃ wz, wz = wr.alloc (.cells #[.int .i64 do', .int .i64 dc, .int .i64 da] 59) := ⟨_, rfl⟩
          obtain ⟨G, hGG⟩ : ∃ G, G = wr.heap.size := ⟨_, rfl⟩
          have HW := hid hwz
          have HGG := hid hGG
          have hD := hP.next hwb
          rw [← hwz, ← hGG] at hG0
          rw [← hwz] at hD
          clear hcc hd hwb hwz hGG hP
          have g0 : wz.cell? ⟨G, 0, none⟩ = some (.int .i64 do') := hG0.cell 0
          have g1 : wz.cell? ⟨G, 1, none⟩ = some (.int .i64 dc) := hG0.cell 1
          have g2 : wz.cell? ⟨G, 2, none⟩ = some (.int .i64 da) := hG0.cell 2
          have lG : G < wz.heap.size := hG0.lt
          have hlen : (psF pl).length = pl.length := (insF_perm (key := Pa.i) (lt := ltI) pl).length_eq
          have hlen2 : (hrF (hl.take k)).length = k := by
            show (insF Hd.o ltI (hl.take k)).length = k
            rw [(insF_perm (hl.take k)).length_eq]; simp; omega
          have F := rfind_any hD.ref dc (by omega)
          have F2 := rheldFor_any hD.ref do' (by omega)
          have HGD : Hid (GoodD pl hl k → dc ∈ (psF pl).map Pa.i ∧ do' ∉ (hrF (hl.take k)).map Hd.o ∧ 1 ≤ do' ∧ 0 ≤ da ∧ da ≤ 1125899906842624 ∧ sumC (hrF (hl.take k)) dc + da ≤ 1125899906842624) := hid (fun hh => by
            obtain ⟨b1, b2, b3, b4, b5, b6⟩ := hh _ hHD.out
            exact ⟨((insF_perm (key := Pa.i) (lt := ltI) pl).map Pa.i).mem_iff.2 b1, fun h => b2 ((Hs.mem do').1 h), b3, b4, b5, by rw [Hs.sumF]; exact b6⟩)
          have HMK : Hid (dc ∈ (psF pl).map Pa.i → do' ∉ (hrF (hl.take k)).map Hd.o → 1 ≤ do' → 0 ≤ da → da ≤ 1125899906842624 → sumC (hrF (hl.take k)) dc + da ≤ 1125899906842624 → GoodD pl hl k) := hid (fun b1 b2 b3 b4 b5 b6 d hd => by
            rw [hHD.out] at hd; injection hd with hd; subst hd
            exact ⟨((insF_perm (key := Pa.i) (lt := ltI) pl).map Pa.i).mem_iff.1 b1, fun h => b2 ((Hs.mem do').2 h), b3, b4, b5, by rw [← Hs.sumF]; exact b6⟩)
          have hs0 := sumC_nonneg hG.out.amtF dc
          have hs1 : sumC (hrF (hl.take k)) dc ≤ 1125899906842624 := by rw [Hs.sumF]; exact hG.out.sum dc
          have E := rexposure_any hD.ref dc (by omega) hG.out.amtF hs1
          have P := hid (fun hin => rput_any hD.ref hG.out.srt do' dc da hin (by omega) hD.bw)
          generalize sumC (hrF (hl.take k)) dc = sm at HGD HMK hs0 hs1 E
          subst hAA
          replace E := hid E
          rcases plc_mem (ps := psF pl) dc with ⟨hin, j, he⟩ | ⟨hin, he⟩
          · rw [he] at F
            replace F := hid F
            clear he
            rcases plo_mem (hr := hrF (hl.take k)) do' with ⟨hin2, j2, he2⟩ | ⟨hin2, he2⟩
            · rw [he2] at F2
              replace F2 := hid F2
              clear he2
              have HBAD := hid (show ¬ Good pl hl from fun hh => (HGD.out (hh.2 k)).2.1 hin2)
              clear hin hin2
              replace hD := hid hD
              clear hlen hlen2 hbs
              go_wp2_with fail
              rw [← HW.out, ← HGG.out]
              refine (F.out).mono ?_
              rintro e w5 ⟨rfl, rfl⟩
              go_wp2_with fail
              refine (F2.out).mono ?_
              rintro e w6 ⟨rfl, rfl⟩
              go_wp2_with fail
              go_ret2
              exact ⟨⟨fun hh => absurd hh HBAD.out, fun _ => rfl⟩, hD.out.bel⟩
            · rw [he2] at F2
              replace F2 := hid F2
              clear he2
              by_cases ho : 1 ≤ do'
              · have b1 : decide (do' < 1) = false := decide_eq_false (by omega)
                by_cases hd0 : 0 ≤ da
                · by_cases hd1 : da ≤ 1125899906842624
                  · by_cases hs2 : sm + da ≤ 1125899906842624
                    · have HGOOD := hid (HMK.out hin hin2 ho hd0 hd1 hs2)
                      have HPP := hid (P.out hin2)
                      unfold PutPost at HPP
                      have hb7 : 0 ≤ sm + da := by omega
                      have hb8 : sm + da ≤ 2251799813685248 := by omega
                      have hd9 : decide (1125899906842624 < sm + da) = false := decide_eq_false (by omega)
                      clear hin hin2 HMK HGD P
                      clear hlen hlen2 hbs
                      go_wp2_with fail
                      rw [← HW.out, ← HGG.out]
                      refine (F.out).mono ?_
                      rintro e w5 ⟨rfl, rfl⟩
                      go_wp2_with fail
                      refine (F2.out).mono ?_
                      rintro e w6 ⟨rfl, rfl⟩
                      go_wp2_with fail
                      refine E.out.mono ?_
                      rintro e w7 ⟨rfl, rfl⟩
                      go_wp2_with fail
                      refine HPP.out.mono ?_
                      rintro e w8 ⟨A8, c8, rfl, h8, hT8⟩
                      have hN := hid (hD.step2 hRw h8 hT8)
                      clear h8 hT8 hD HPP E F F2 g0 g1 g2 lG hb7 hb8 hd9 hs0 hs1 hs2 hG0
                      go_wp2_with fail
                      go_roundw
                      case rel => exact ⟨k + 1, _, _, by omega, by go_num, hid (hG.out.step hHD.out HGOOD.out), by
                        have := hN.out
                        unfold hrF at this ⊢
                        rw [insF_take hHD.out]
                        exact this⟩
                      case measure => simp [nOf]; omega
                    · have hb7 : 0 ≤ sm + da := by omega
                      have hb8 : sm + da ≤ 2251799813685248 := by omega
                      have hd9 : decide (1125899906842624 < sm + da) = true := decide_eq_true (by omega)
                      have HBAD := hid (show ¬ Good pl hl from fun hh => hs2 (HGD.out (hh.2 k)).2.2.2.2.2)
                      replace hD := hid hD
                      clear hin hin2 hlen hlen2 hbs hs2
                      go_wp2_with fail
                      rw [← HW.out, ← HGG.out]
                      refine (F.out).mono ?_
                      rintro e w5 ⟨rfl, rfl⟩
                      go_wp2_with fail
                      refine (F2.out).mono ?_
                      rintro e w6 ⟨rfl, rfl⟩
                      go_wp2_with fail
                      refine E.out.mono ?_
                      rintro e w7 ⟨rfl, rfl⟩
                      go_wp2_with fail
                      go_ret2
                      exact ⟨⟨fun hh => absurd hh HBAD.out, fun _ => rfl⟩, hD.out.bel⟩
                  · have HBAD := hid (show ¬ Good pl hl from fun hh => hd1 (HGD.out (hh.2 k)).2.2.2.2.1)
                    have b3 : decide (1125899906842624 < da) = true := decide_eq_true (by omega)
                    clear hin hin2 hd1
                    replace hD := hid hD
                    clear hlen hlen2 hbs
                    go_wp2_with fail
                    rw [← HW.out, ← HGG.out]
                    refine (F.out).mono ?_
                    rintro e w5 ⟨rfl, rfl⟩
                    go_wp2_with fail
                    refine (F2.out).mono ?_
                    rintro e w6 ⟨rfl, rfl⟩
                    go_wp2_with fail
                    go_ret2
                    exact ⟨⟨fun hh => absurd hh HBAD.out, fun _ => rfl⟩, hD.out.bel⟩
                · have HBAD := hid (show ¬ Good pl hl from fun hh => hd0 (HGD.out (hh.2 k)).2.2.2.1)
                  have b3 : decide (da < 0) = true := decide_eq_true (by omega)
                  clear hin hin2 hd0
                  replace hD := hid hD
                  clear hlen hlen2 hbs
                  go_wp2_with fail
                  rw [← HW.out, ← HGG.out]
                  refine (F.out).mono ?_
                  rintro e w5 ⟨rfl, rfl⟩
                  go_wp2_with fail
                  refine (F2.out).mono ?_
                  rintro e w6 ⟨rfl, rfl⟩
                  go_wp2_with fail
                  go_ret2
                  exact ⟨⟨fun hh => absurd hh HBAD.out, fun _ => rfl⟩, hD.out.bel⟩
              · have HBAD := hid (show ¬ Good pl hl from fun hh => ho (HGD.out (hh.2 k)).2.2.1)
                have b3 : decide (do' < 1) = true := decide_eq_true (by omega)
                clear hin hin2 ho
                replace hD := hid hD
                clear hlen hlen2 hbs
                go_wp2_with fail
                rw [← HW.out, ← HGG.out]
                refine (F.out).mono ?_
                rintro e w5 ⟨rfl, rfl⟩
                go_wp2_with fail
                refine (F2.out).mono ?_
                rintro e w6 ⟨rfl, rfl⟩
                go_wp2_with fail
                go_ret2
                exact ⟨⟨fun hh => absurd hh HBAD.out, fun _ => rfl⟩, hD.out.bel⟩
          · rw [he] at F
            replace F := hid F
            clear he
            rcases plo_mem (hr := hrF (hl.take k)) do' with ⟨hin2, j2, he2⟩ | ⟨hin2, he2⟩
            all_goals
              rw [he2] at F2
              replace F2 := hid F2
              clear he2
              have HBAD := hid (show ¬ Good pl hl from fun hh => hin (HGD.out (hh.2 k)).1)
              clear hin hin2
              replace hD := hid hD
              clear hlen hlen2 hbs
              go_wp2_with fail
              rw [← HW.out, ← HGG.out]
              refine (F.out).mono ?_
              rintro e w5 ⟨rfl, rfl⟩
              go_wp2_with fail
              refine (F2.out).mono ?_
              rintro e w6 ⟨rfl, rfl⟩
              go_wp2_with fail
              go_ret2
              exact ⟨⟨fun hh => absurd hh HBAD.out, fun _ => rfl⟩, hD.out.bel⟩
        · have hk' : k = hl.length := by omega
          subst hk'
          have hG3 : Hid (Good pl hl) := hid ⟨hGP.out, fun j => by
            by_cases hj : j < hl.length
            · exact hG.out.good j hj
            · intro p hp
              rw [List.getElem?_eq_none (by omega)] at hp
              cases hp⟩
          rw [List.take_length] at hP
          replace hP := hid hP
          clear hG hk hlt
          go_wp2_with fail
          go_ret2
          exact ⟨⟨fun _ => ⟨R, _, _, _, _, rfl, hRw, hP.out.ref⟩, fun hn => absurd hG3.out hn⟩, hP.out.bel⟩

end Go.Proofs.Ytpofhadeepgmbaa
