/-
  Layer 19: the document's Restore (printed by gen_rstR19.py).
-/
import Derived.Test.YtdgoifnhlpjnpaaRstP19
import Derived.Test.YtdgoifnhlpjnpaaInTail
import Derived.StillTailTactics
namespace Go.Proofs.Ytdgoifnhlpjnpaa
open Go.RowKit Go.WideShapes Go.ChangeShapes Go.ChangeAt Go.Deep
set_option linter.unusedVariables false

section
variable {base R c1 c2 : Nat} {A1 : Option Addr} {is il : List (Int × Int)} {rs : List Od} {w w' : World} {ol : List OrdA}
theorem IsRef.fld {g k j : Nat} {x x' : Od} {v : Value} (h : IsRef base w R A1 c1 is (some ⟨g, 0, none⟩) c2 rs) (hk : rs[k]? = some x) (hj : j < 6) (hx : enO6 x' = (enO6 x).set j v) (hb : x'.b = x.b) (hls : x'.ls = x.ls) :
    IsRef base (w.setCell ⟨g, k * 6 + j, none⟩ v) R A1 c1 is (some ⟨g, 0, none⟩) c2 (rs.set k x') ∧ Touch (· = g) w (w.setCell ⟨g, k * 6 + j, none⟩ v) := by
  obtain ⟨a1, a2⟩ := own_field enO6_len h.own2 hk hj v x' hx
  have hT := Touch.of_grown a2
  obtain ⟨cs, hg⟩ := rowBlk h.own2 (b := g) rfl
  refine ⟨⟨?_, own_touch h.own1 hT (fun b hb e => ?_), a1, fun o ho => ?_, h.lt⟩, hT⟩
  · rw [List.length_set]
    exact hT.blk h.blk (h.blk.ne_ hg (by decide))
  · obtain ⟨cs2, hb2⟩ := rowBlk h.own1 (b := b) (by cases A1 with | none => simp [Value.ownBlock] at hb | some a => simpa [Value.ownBlock] using hb)
    exact hb2.ne_ hg (by decide) e
  · have hl : LnsAt base w o := by
      rcases List.mem_or_eq_of_mem_set ho with ho | rfl
      · exact h.lns o ho
      · have := h.lns x (List.mem_of_getElem? hk)
        unfold LnsAt at this ⊢
        rw [hb, hls]
        exact this
    obtain ⟨cs3, hb3⟩ := hl.2.2
    exact hl.touch hT (hb3.ne_ hg (by decide))
theorem refBelow {k : Nat} (h : rs.map bare = (ol.take k).map bareA) {id : Int} (hb : ∀ y ∈ ol.take k, y.i < id) : ∀ y ∈ rs, y.i < id := fun y hy => by
  have : bare y ∈ (ol.take k).map bareA := by rw [← h]; exact List.mem_map_of_mem hy
  obtain ⟨o, ho, e⟩ := List.mem_map.1 this
  have h1 := hb o ho
  have h2 : o.i = y.i := by
    have := congrArg Od.i e
    exact this
  omega
/-- A row that lies where a lone order lies. -/
theorem sep_local {G n c cap : Nat} {a0 a1 a2 a4 a5 : Value} {oA : Option Addr} {l : List Od} (hB : Blk w G 67 #[a0, a1, a2, .slice oA n c, a4, a5]) (hO : w.ownsRow base 67 6 (.slice (some ⟨G, 0, none⟩) l.length cap) l.length (l.flatMap enO6)) (hl : 0 < l.length) : ∃ o, l = [o] ∧ oA = some ⟨o.b, 0, none⟩ := by
  rcases hO.2 with ⟨h1, _⟩ | ⟨g', cap', cur, e, _, hh, hn, _, hsz, htk⟩
  · simp at h1
  · injection e with e1 e2 e3
    injection e1 with e1
    injection e1 with e1
    subst e1 e3
    unfold Blk at hB
    rw [hB] at hh
    injection hh with hh
    injection hh with hh _
    subst hh
    have h6 : 6 = cap * 6 := by simpa using hsz
    have h1 : l.length = 1 := by omega
    obtain ⟨o, rfl⟩ := List.length_eq_one_iff.1 h1
    refine ⟨o, rfl, ?_⟩
    simp [enO6] at htk
    exact htk.2.2.2.1.1
theorem ref_fresh (w : World) : IsRef (w.heap.size + 1) (w.alloc (.cells #[.slice none 0 0, .slice none 0 0] 58)) w.heap.size none 0 [] none 0 [] :=
  ⟨Blk.new _ _ _, World.ownsRow_nil _ _ _ _, World.ownsRow_nil _ _ _ _, (fun o ho => by cases ho), Nat.lt_succ_self _⟩
theorem riseK {m : List (Int × Int)} (h : m.Pairwise (fun a b => a.1 < b.1)) : SortedK Prod.fst ltI m := h.imp (fun h => by simp only [ltI, decide_eq_true_eq]; exact h)
end

def RestR (il : List (Int × Int)) (ol : List OrdA) (w : World) (e : Ending) (w' : World) : Prop :=
  (GoodR il ol → ∃ R base A1 c1 A2 c2 rs, e = .returned (.tuple #[.pointer (some ⟨R, 0, none⟩), .int .i64 0]) ∧ IsRef base w' R A1 c1 il A2 c2 rs ∧ rs.map bare = ol.map bareA ∧ w.heap.size ≤ R ∧ base ≤ w'.heap.size) ∧ (¬ GoodR il ol → e = .returned (.tuple #[.pointer none, .int .i64 2]))
theorem RestR.bad {il : List (Int × Int)} {ol : List OrdA} {w w' : World} (h : ¬ GoodR il ol) : RestR il ol w (.returned (.tuple #[.pointer none, .int .i64 2])) w' := ⟨fun hh => absurd hh h, fun _ => rfl⟩

set_option maxRecDepth 100000 in
set_option maxHeartbeats 16000000 in
theorem rrestore_any (il : List (Int × Int)) (A1 : Option Addr) (cp1 : Nat) (ol : List OrdA) (A2 : Option Addr) (cp2 : Nat) (w : World) (hR1 : Rd w A1 (il.flatMap en2)) (hR2 : Rd w A2 (ol.flatMap enA)) (hok : ∀ o ∈ ol, OkA w o) (hb1 : il.length ≤ 140737488351232) (hb2 : ol.length ≤ 140737488351232) :
    Calls Try.prog 22 #[.slice A1 il.length cp1, .slice A2 ol.length cp2] w fun e w' => RestR il ol w e w' ∧ Below w.heap.size w w' := by
  have HOK := hid hok
  clear hok
  have HI0 := hid (ref_fresh w)
  have hb0 : Below w.heap.size w (w.alloc (.cells #[.slice none 0 0, .slice none 0 0] 58)) := (Below.refl _ _).alloc (Nat.le_refl _) _
  have HB0 := hid hb0
  clear hb0
  obtain ⟨R, hR⟩ : ∃ R, R = w.heap.size := ⟨_, rfl⟩
  obtain ⟨base, hbase⟩ : ∃ base, base = w.heap.size + 1 := ⟨_, rfl⟩
  rw [← hbase, ← hR] at HI0
  have HRR := hid hR
  have HBS := hid (show base = R + 1 ∧ w.heap.size ≤ R from ⟨by omega, by omega⟩)
  clear hR hbase
  go_enter Try.func22, Try.ntmps22
  go_wp2_with fail
  rw [← HRR.out]
  go_loopw [7] (fun i wr => ∃ (k : Nat) (A1' : Option Addr) (c1' : Nat), k ≤ il.length ∧ i = .int .i64 k ∧ Hid (∀ j, j < k → GoodI il j) ∧ IsRef base wr R A1' c1' (il.take k) none 0 [] ∧ Below w.heap.size w wr) (fun i _ => il.length - nOf i)
  case atStart => exact ⟨0, none, 0, Nat.zero_le _, rfl, hid (fun j hj => by omega), HI0.out, HB0.out⟩
  case round =>
    clear HI0 HB0 HRR
    obtain ⟨k, A1', c1', hk, rfl, hG, h, hb⟩ := hrel
    by_cases hlt : k < il.length
    · obtain ⟨q, hq⟩ : ∃ q, il[k]? = some q := ⟨il[k], List.getElem?_eq_getElem hlt⟩
      obtain ⟨b, off, hAA, hbs, hcc⟩ := (hR1.below hb).at_ 2 en2_len (by omega) hq
      have HQ := hid hq
      obtain ⟨qi, qp⟩ := q
      have q0 : wr.cell? ⟨b, off + k * 2, none⟩ = some (.int .i64 qi) := hcc 0 _ rfl
      have q1 : wr.cell? ⟨b, off + k * 2 + 1, none⟩ = some (.int .i64 qp) := hcc 1 _ rfl
      have HPV := hid (fun (kk : Nat) (p : Int × Int) (hp : il[kk]? = some p) (w' : World) (hb' : Below w.heap.size w w') => (show w'.cell? ⟨b, off + kk * 2, none⟩ = some (.int .i64 p.1) from by
        obtain ⟨b', off', e, _, hc⟩ := (hR1.below hb').at_ 2 en2_len (by have := (List.getElem?_eq_some_iff.1 hp).1; omega) hp
        rw [hAA] at e
        simp only [Option.some.injEq, Addr.mk.injEq, and_true] at e
        obtain ⟨rfl, rfl⟩ := e
        exact hc 0 _ rfl))
      have hfew := few_good hG.out
      have hI0 : IsRef base wr.drew R A1' c1' (il.take k) none 0 [] := h.next (below_drewN (Below.refl _ _) 1)
      have hB0 := hid hb.drew
      have HH := hid hI0
      have hbw : base ≤ wr.drew.heap.size := by have := hI0.blk.lt; have := HBS.out.1; omega
      have HS := hid (riseK (goodI_rise hG.out))
      clear hcc hq hbs h hb hI0
      subst hAA
      by_cases hok : itemOk qi qp
      · have K := hid (rset_yes HH.out HS.out qi qp hok (by omega) hbw)
        have HOKI := hid hok
        unfold SetPost at K
        clear hok
        go_wp2_with fail
        refine wp_tail 11 (by kernel_rfl) (by kernel_rfl) ?_
        simp only [List.take_succ_cons, List.take_zero, List.drop_succ_cons, List.drop_zero]
        repeat still_step
        refine wpStill_nil ?_
        go_wp2_with fail
        refine K.out.mono ?_
        rintro e w6 ⟨A6, c6, rfl, h6, hT6⟩
        have hb6 : Below w.heap.size w w6 := hB0.out.trans (hT6.below hB0.out.size (rt_low HH.out.own1 hB0.out HBS.out.2 HH.out.lt))
        clear K hT6 q0 q1
        by_cases hk0 : 0 < k
        · obtain ⟨p, hp⟩ : ∃ p, il[k - 1]? = some p := ⟨il[k - 1], List.getElem?_eq_getElem (by omega)⟩
          have HP := hid hp
          obtain ⟨pi, pp⟩ := p
          have b0 : decide ((0 : Int) < (k : Int)) = true := decide_eq_true (by omega)
          have hkw : IntKind.i64.wrap ((k : Int) - 1) = ((k - 1 : Nat) : Int) := by rw [IntWalk.i64_in _ ⟨by omega, by omega⟩]; omega
          have hkl : k - 1 < il.length := by omega
          clear hp
          by_cases hri : pi < qi
          · have t5 : decide (qi ≤ pi) = false := decide_eq_false (by omega)
            have HRI := hid (show ∀ p : Int × Int, 0 < k → il[k - 1]? = some p → p.1 < qi from fun p _ hp => by rw [HP.out] at hp; injection hp with hp; subst hp; exact hri)
            clear hri
            rw [isC_items hG.out HQ.out (HRI.out)] at h6
            have HI6 := hid h6
            clear h6
            have HGOOD := hid (show GoodI il k from fun q hq => by
              rw [HQ.out] at hq; injection hq with hq; subst hq
              exact ⟨HOKI.out, HRI.out⟩)
            obtain ⟨C, hCd⟩ : ∃ C : World → Prop, ∀ w', C w' ↔ Below w6.heap.size w6 w' := ⟨_, fun _ => Iff.rfl⟩
            have hC : C w6.drew := (hCd _).2 ((Below.refl _ _).drew)
            have g0 : ∀ p : In C, p.w.cell? ⟨b, off + k * 2, none⟩ = some (.int .i64 qi) := fun p => HPV.out k _ HQ.out _ (bthen hb6 ((hCd _).1 p.h))
            have r0 : ∀ p : In C, p.w.cell? ⟨b, off + (k - 1) * 2, none⟩ = some (.int .i64 pi) := fun p => HPV.out (k - 1) _ HP.out _ (bthen hb6 ((hCd _).1 p.h))
            have HCd := hid hCd
            have HB6 := hid hb6
            clear hCd hb6
            go_wp2_with fail
            refine wp_region_in C (by kernel_rfl) (by kernel_rfl) hC ?_
            intro hne
            clear hC
            repeat (first | go_big_quiet_step (fail) | quiet_step (fail))
            refine wpQuiet_nil ?_
            intro wq hq
            have hbq := (HCd.out _).1 hq
            clear g0 r0 hne hq HCd
            have hI8 := HI6.out.next hbq
            have hb8 := bthen HB6.out hbq
            clear hbq HI6
            go_wp2_with fail
            go_roundw
            case rel => exact ⟨k + 1, _, _, by omega, by go_num, hid (good_next hG.out HGOOD.out), hI8, hb8⟩
            case measure => simp [nOf]; omega
          · have t5 : decide (qi ≤ pi) = true := decide_eq_true (by omega)
            have HBAD := hid (show ¬ GoodR il ol from fun hh => hri ((hh.1 k _ HQ.out).2 _ hk0 HP.out))
            clear hri h6
            obtain ⟨C, hCd⟩ : ∃ C : World → Prop, ∀ w', C w' ↔ Below w6.heap.size w6 w' := ⟨_, fun _ => Iff.rfl⟩
            have hC : C w6.drew := (hCd _).2 ((Below.refl _ _).drew)
            have g0 : ∀ p : In C, p.w.cell? ⟨b, off + k * 2, none⟩ = some (.int .i64 qi) := fun p => HPV.out k _ HQ.out _ (bthen hb6 ((hCd _).1 p.h))
            have r0 : ∀ p : In C, p.w.cell? ⟨b, off + (k - 1) * 2, none⟩ = some (.int .i64 pi) := fun p => HPV.out (k - 1) _ HP.out _ (bthen hb6 ((hCd _).1 p.h))
            have HCd := hid hCd
            have HB6 := hid hb6
            clear hCd hb6
            go_wp2_with fail
            refine wp_region_in C (by kernel_rfl) (by kernel_rfl) hC ?_
            intro hne
            clear hC
            repeat (first | go_big_quiet_step (fail) | quiet_step (fail))
            refine wpQuiet_nil ?_
            intro wq hq
            have hbq := (HCd.out _).1 hq
            clear g0 r0 hne hq HCd
            have HB := hid (bthen HB6.out hbq)
            clear hbq
            go_wp2_with fail
            go_ret2
            exact ⟨.bad HBAD.out, HB.out⟩
        · have b0 : decide ((0 : Int) < (k : Int)) = false := decide_eq_false (by omega)
          have b0' : decide (0 < k) = false := decide_eq_false hk0
          rw [isC_items hG.out HQ.out ((fun p h0 _ => absurd h0 hk0))] at h6
          have HI6 := hid h6
          clear h6
          have HGOOD := hid (show GoodI il k from fun q hq => by
            rw [HQ.out] at hq; injection hq with hq; subst hq
            exact ⟨HOKI.out, (fun p h0 _ => absurd h0 hk0)⟩)
          obtain ⟨C, hCd⟩ : ∃ C : World → Prop, ∀ w', C w' ↔ Below w6.heap.size w6 w' := ⟨_, fun _ => Iff.rfl⟩
          have hC : C w6.drew := (hCd _).2 ((Below.refl _ _).drew)
          have g0 : ∀ p : In C, p.w.cell? ⟨b, off + k * 2, none⟩ = some (.int .i64 qi) := fun p => HPV.out k _ HQ.out _ (bthen hb6 ((hCd _).1 p.h))
          have HCd := hid hCd
          have HB6 := hid hb6
          clear hCd hb6
          go_wp2_with fail
          refine wp_region_in C (by kernel_rfl) (by kernel_rfl) hC ?_
          intro hne
          clear hC
          repeat (first | go_big_quiet_step (fail) | quiet_step (fail))
          refine wpQuiet_nil ?_
          intro wq hq
          have hbq := (HCd.out _).1 hq
          clear g0  hne hq HCd
          have hI8 := HI6.out.next hbq
          have hb8 := bthen HB6.out hbq
          clear hbq HI6
          go_wp2_with fail
          go_roundw
          case rel => exact ⟨k + 1, _, _, by omega, by go_num, hid (good_next hG.out HGOOD.out), hI8, hb8⟩
          case measure => simp [nOf]; omega
      · have K := hid (rset_no (w := wr.drew) qi qp hok (.pointer (some ⟨R, 0, none⟩)))
        have HBAD := hid (show ¬ GoodR il ol from fun hh => hok (hh.1 k _ HQ.out).1)
        clear hok
        go_wp2_with fail
        refine wp_tail 11 (by kernel_rfl) (by kernel_rfl) ?_
        simp only [List.take_succ_cons, List.take_zero, List.drop_succ_cons, List.drop_zero]
        repeat still_step
        refine wpStill_nil ?_
        go_wp2_with fail
        refine K.out.mono ?_
        rintro e w6 ⟨rfl, hw6⟩
        have hb6 : Below w.heap.size w w6 := by rw [← hw6]; exact hB0.out
        clear K q0 q1 hw6
        obtain ⟨C, hCd⟩ : ∃ C : World → Prop, ∀ w', C w' ↔ Below w6.heap.size w6 w' := ⟨_, fun _ => Iff.rfl⟩
        have hC : C w6.drew := (hCd _).2 ((Below.refl _ _).drew)
        have g0 : ∀ p : In C, p.w.cell? ⟨b, off + k * 2, none⟩ = some (.int .i64 qi) := fun p => HPV.out k _ HQ.out _ (bthen hb6 ((hCd _).1 p.h))
        have HCd := hid hCd
        have HB6 := hid hb6
        clear hCd hb6
        go_wp2_with fail
        refine wp_region_in C (by kernel_rfl) (by kernel_rfl) hC ?_
        intro hne
        clear hC
        repeat (first | go_big_quiet_step (fail) | quiet_step (fail))
        refine wpQuiet_nil ?_
        intro wq hq
        have hbq := (HCd.out _).1 hq
        clear g0  hne hq HCd
        have HB := hid (bthen HB6.out hbq)
        clear hbq
        go_wp2_with fail
        go_ret2
        exact ⟨.bad HBAD.out, HB.out⟩
    · have hk' : k = il.length := by omega
      subst hk'
      rw [List.take_length] at h
      have HRISE := hid (show il.Pairwise (fun a b => a.1 < b.1) from by have := goodI_rise hG.out; rwa [List.take_length] at this)
      have hfew : il.length ≤ 64 := by have := few_good hG.out; rwa [List.take_length] at this
      clear hk hlt
      go_wp2_with fail
      go_loopw [9] (fun i wr => ∃ (k : Nat) (A2' : Option Addr) (c2' : Nat) (rs : List Od), k ≤ ol.length ∧ i = .int .i64 k ∧ Hid ((∀ j, j < k → GoodO il ol j) ∧ rs.map bare = (ol.take k).map bareA) ∧ IsRef base wr R A1' c1' il A2' c2' rs ∧ Below w.heap.size w wr) (fun i _ => ol.length - nOf i)
      case atStart => exact ⟨0, none, 0, [], Nat.zero_le _, rfl, hid ⟨fun j hj => by omega, rfl⟩, h, hb⟩
      case round =>
        clear h hb
        obtain ⟨k, A2', c2', rs, hk, rfl, hO, h, hb⟩ := hrel
        by_cases hlt : k < ol.length
        · obtain ⟨o, ho⟩ : ∃ o, ol[k]? = some o := ⟨ol[k], List.getElem?_eq_getElem hlt⟩
          have HX := hid (HOK.out o (List.mem_of_getElem? ho))
          obtain ⟨b, off, hAA, hbs, hcc⟩ := (hR2.below hb).at_ 6 enA_len (by omega) ho
          have HO := hid ho
          obtain ⟨oi, oc, of, oA, ocp, ols, on, ot⟩ := o
          have q0 : wr.cell? ⟨b, off + k * 6, none⟩ = some (.int .i64 oi) := hcc 0 _ rfl
          have q1 : wr.cell? ⟨b, off + k * 6 + 1, none⟩ = some (.int .i64 oc) := hcc 1 _ rfl
          have q2 : wr.cell? ⟨b, off + k * 6 + 2, none⟩ = some (.string of) := hcc 2 _ rfl
          have q3 : wr.cell? ⟨b, off + k * 6 + 3, none⟩ = some (.slice oA ols.length ocp) := hcc 3 _ rfl
          have q4 : wr.cell? ⟨b, off + k * 6 + 4, none⟩ = some (.int .i64 on) := hcc 4 _ rfl
          have q5 : wr.cell? ⟨b, off + k * 6 + 5, none⟩ = some (.int .i64 ot) := hcc 5 _ rfl
          have hwb : Below wr.heap.size wr (wr.alloc (.cells #[.int .i64 oi, .int .i64 oc, .string of, .slice oA ols.length ocp, .int .i64 on, .int .i64 ot] 67)) := (Below.refl _ _).alloc (Nat.le_refl _) _
          have hG0 : Blk (wr.alloc (.cells #[.int .i64 oi, .int .i64 oc, .string of, .slice oA ols.length ocp, .int .i64 on, .int .i64 ot] 67)) wr.heap.size 67 #[.int .i64 oi, .int .i64 oc, .string of, .slice oA ols.length ocp, .int .i64 on, .int .i64 ot] := Blk.new _ _ _
          obtain ⟨wz, hwz⟩ : ∃ wz, wz = wr.alloc (.cells #[.int .i64 oi, .int .i64 oc, .string of, .slice oA ols.length ocp, .int .i64 on, .int .i64 ot] 67) := ⟨_, rfl⟩
          obtain ⟨G, hGG⟩ : ∃ G, G = wr.heap.size := ⟨_, rfl⟩
          have HW := hid hwz
          have HGG := hid hGG
          rw [← hwz] at hwb hG0
          rw [← hGG] at hG0
          have hz := h.next hwb
          have hbz := bthen hb hwb
          have HH := hid (fun (w' : World) (hb' : Below wz.heap.size wz w') => And.intro (hz.next hb') (And.intro (hG0.next hb') (bthen hbz hb')))
          have HPV := hid (fun (p : OrdA) (hp : ol[k - 1]? = some p) (w' : World) (hb' : Below w.heap.size w w') => (show w'.cell? ⟨b, off + (k - 1) * 6, none⟩ = some (.int .i64 p.i) from by
            obtain ⟨b', off', e, _, hc⟩ := (hR2.below hb').at_ 6 enA_len (by omega) hp
            rw [hAA] at e
            simp only [Option.some.injEq, Addr.mk.injEq, and_true] at e
            obtain ⟨rfl, rfl⟩ := e
            exact hc 0 _ rfl))
          have HLOW := hid (fun (g : Nat) (e : A2'.map (·.block) = some g) => (show g < G from by have := (own_blk h.own2 g e).2; omega))
          have hrl : rs.length = (ol.take k).length := by have := congrArg List.length hO.out.2; simpa using this
          have hrs : rs.length ≤ 256 := by rw [hrl]; exact fewO_good hO.out.1
          clear hrl
          have hREL := hid (rel_ref HRISE.out hO.out.2 (goodO_rise hO.out.1))
          obtain ⟨C, hCd⟩ : ∃ C : World → Prop, ∀ w', C w' ↔ Below wz.heap.size wz w' := ⟨_, fun _ => Iff.rfl⟩
          have hC : C wz.drew := (hCd _).2 ((Below.refl _ _).drew)
          have g0 : ∀ p : In C, p.w.cell? ⟨G, 0, none⟩ = some (.int .i64 oi) := fun p => (HH.out _ ((hCd _).1 p.h)).2.1.cell 0
          have g4 : ∀ p : In C, p.w.cell? ⟨G, 4, none⟩ = some (.int .i64 on) := fun p => (HH.out _ ((hCd _).1 p.h)).2.1.cell 4
          have g5 : ∀ p : In C, p.w.cell? ⟨G, 5, none⟩ = some (.int .i64 ot) := fun p => (HH.out _ ((hCd _).1 p.h)).2.1.cell 5
          have HCd := hid hCd
          clear hcc ho hwb hwz hGG h hb hG0 hbs hz hbz hCd
          subst hAA
          by_cases hk0 : 0 < k
          · obtain ⟨p, hp⟩ : ∃ p, ol[k - 1]? = some p := ⟨ol[k - 1], List.getElem?_eq_getElem (by omega)⟩
            have HP := hid hp
            obtain ⟨pi, pc, pf, pA, pcp, pls, pn, pt⟩ := p
            have r0 : ∀ p : In C, p.w.cell? ⟨b, off + (k - 1) * 6, none⟩ = some (.int .i64 pi) := fun p => HPV.out _ hp _ (HH.out _ ((HCd.out _).1 p.h)).2.2
            have b0 : decide ((0 : Int) < (k : Int)) = true := decide_eq_true (by omega)
            have hkw : IntKind.i64.wrap ((k : Int) - 1) = ((k - 1 : Nat) : Int) := by rw [IntWalk.i64_in _ ⟨by omega, by omega⟩]; omega
            have hkl : k - 1 < ol.length := by omega
            clear hp
            by_cases hri : pi < oi
            · have t5 : decide (oi ≤ pi) = false := decide_eq_false (by omega)
              have HRI := hid (show ∀ p : OrdA, 0 < k → ol[k - 1]? = some p → p.i < oi from fun p _ hp => by rw [HP.out] at hp; injection hp with hp; subst hp; exact hri)
              clear hri
              by_cases hm : moneyOk on ∧ moneyOk ot
              · have HMN := hid hm
                obtain ⟨⟨m1, m2⟩, m3, m4⟩ := hm
                have d0 : decide (on < 0) = false := decide_eq_false (by omega)
                have d1 : decide (281474976710656 < on) = false := decide_eq_false (by omega)
                have d2 : decide (ot < 0) = false := decide_eq_false (by omega)
                have d3 : decide (281474976710656 < ot) = false := decide_eq_false (by omega)
                clear m1 m2 m3 m4
                go_wp2_with fail
                rw [← HW.out, ← HGG.out]
                refine wp_region_in C (by kernel_rfl) (by kernel_rfl) hC ?_
                intro hne
                clear hC
                repeat (first | go_big_quiet_step (fail) | quiet_step (fail))
                refine wpQuiet_nil ?_
                intro wq hq
                have hbq := (HCd.out _).1 hq
                clear g0 g4 g5 hne hq HCd q0 q1 q2 q3 q4 q5 r0 hkw
                obtain ⟨hI, hB, hbq2⟩ := HH.out _ hbq
                have e0 : wq.cell? ⟨G, 0, none⟩ = some (.int .i64 oi) := hB.cell 0
                have e1 : wq.cell? ⟨G, 1, none⟩ = some (.int .i64 oc) := hB.cell 1
                have e2 : wq.cell? ⟨G, 2, none⟩ = some (.string of) := hB.cell 2
                have e3 : wq.cell? ⟨G, 3, none⟩ = some (.slice oA ols.length ocp) := hB.cell 3
                have K := hid (radd_any hI hREL.out oi oc of oA ocp ols HX.out.flow (HX.out.rd.below hbq2) (by omega) (by omega) (by have := hI.blk.lt; have := HBS.out.1; omega))
                unfold AddD at K
                have HIQ := hid (And.intro hI (And.intro hB hbq2))
                clear hI hB hbq2 hbq HH HPV
                go_wp2_with fail
                refine K.out.mono ?_
                rintro e w6 (⟨hz, rfl, hb6⟩ | ⟨hz, oo, A6, c6, rfl, h6, ho6, hT6⟩)
                · have HBAD := hid (show ¬ GoodR il ol from fun hh => hz (by
                    obtain ⟨_, h2, h3, _⟩ := hh.2 k _ HO.out
                    refine errL_ok h2 h3 ?_
                    rw [none_of_below (fun y hy => ?_)]
                    · rfl
                    · unfold asMap at hy
                      rw [List.map_map] at hy
                      obtain ⟨o', ho', rfl⟩ := List.mem_map.1 hy
                      exact refBelow hO.out.2 (belowO_take hO.out.1 HO.out (HRI.out)) o' ho'))
                  have HB := hid (bthen HIQ.out.2.2 hb6)
                  have hzb : (errL il (asMap rs) oi oc of ols != 0) = true := by simpa using hz
                  generalize errL il (asMap rs) oi oc of ols = z at hzb
                  clear hz hb6 K e0 e1 e2 e3
                  go_wp2_with fail
                  go_ret2
                  exact ⟨.bad HBAD.out, HB.out⟩
                · have hbel := refBelow hO.out.2 (belowO_take hO.out.1 HO.out (HRI.out))
                  obtain ⟨a1, a2, a3, a4, _, _, a7⟩ := ho6
                  rw [insK_last (key := Od.i) (fun y hy => by rw [a1]; exact hbel y hy)] at h6
                  have hb6 : Below w.heap.size w w6 := HIQ.out.2.2.trans (hT6.below HIQ.out.2.2.size (rt_low HIQ.out.1.own2 HIQ.out.2.2 HBS.out.2 HIQ.out.1.lt))
                  have hB6 := hT6.blk HIQ.out.2.1 (fun e => by
                    rcases e with e | e | e
                    · exact HIQ.out.2.1.ne_ HIQ.out.1.blk (by decide) e
                    · exact absurd (HLOW.out G e) (Nat.lt_irrefl _)
                    · have := HIQ.out.2.1.lt; omega)
                  have HGOOD := hid (show GoodO il ol k from fun q hq => by
                    rw [HO.out] at hq; injection hq with hq; subst hq
                    exact ⟨HRI.out, (errL_zero hz).1, (errL_zero hz).2.1, HMN.out.1, HMN.out.2⟩)
                  have hpl : plc (isD oi) (rs ++ [oo]) = (rs.length : Int) := plc_some (y := oo) (by rw [List.getElem?_append_right (Nat.le_refl _), Nat.sub_self]; rfl) (by simp [isD, a1]) (fun j z hj hz => by
                    rw [List.getElem?_append_left hj] at hz
                    have := hbel z (List.mem_of_getElem? hz)
                    simp only at this
                    simp only [isD, decide_eq_false_iff_not]
                    omega)
                  have F := rfindO_any h6 oi (by rw [List.length_append]; simp; omega)
                  rw [hpl] at F
                  replace F := hid F
                  have hnn : (rs ++ [oo])[rs.length]? = some oo := by rw [List.getElem?_append_right (Nat.le_refl _), Nat.sub_self]; rfl
                  obtain ⟨g, rfl, hbg, hel⟩ := h6.elem2 hnn
                  obtain ⟨poi, poc, pof, pob, pocp, pols, pon, pot⟩ := oo
                  have e6 : w6.cell? ⟨G, 0, none⟩ = some (.int .i64 oi) := hB6.cell 0
                  have H6 := hid h6
                  have HB6 := hid (And.intro hB6 hb6)
                  have HNN := hid hnn
                  have HA7 := hid (show w.heap.size ≤ pob from Nat.le_trans HIQ.out.2.2.size a7)
                  have HA := hid (show poi = oi ∧ poc = oc ∧ pof = of ∧ pols = ols from ⟨a1, a2, a3, a4⟩)
                  clear K e0 e1 e2 e3 hz hbel h6 hT6 hb6 hB6 hpl hel hnn HIQ a1 a2 a3 a4 a7 hbg
                  go_wp2_with fail
                  refine F.out.mono ?_
                  rintro e w7 ⟨rfl, rfl⟩
                  clear F e6
                  have hln : (rs ++ [(⟨poi, poc, pof, pob, pocp, pols, pon, pot⟩ : Od)]).length = rs.length + 1 := by rw [List.length_append]; rfl
                  obtain ⟨n1, hn1⟩ : ∃ n1, n1 = rs.length + 1 := ⟨_, rfl⟩
                  have hkn : rs.length < n1 := by omega
                  have hn2 : n1 ≤ 140737488355328 := by omega
                  have h6 := H6.out
                  obtain ⟨hB6, hb6⟩ := HB6.out
                  have c1 : w6.cell? ⟨R, 1, none⟩ = some (.slice (some ⟨g, 0, none⟩) n1 c6) := by rw [hn1, ← hln]; exact h6.cell1
                  have lR : R < w6.heap.size := h6.blk.lt
                  have lG : G < w6.heap.size := hB6.lt
                  have lg : g < w6.heap.size := (h6.own2.lt g rfl).2
                  have e4 : w6.cell? ⟨G, 4, none⟩ = some (.int .i64 on) := hB6.cell 4
                  have f4 := own_free h6.own2 (rs.length * 6 + 4)
                  have x4 : w6.cell? ⟨g, rs.length * 6 + 4, none⟩ = some (.int .i64 pon) := own_cells enO6_len h6.own2 HNN.out (j := 4) rfl
                  have hne : G ≠ g := fun e => by
                    subst e
                    obtain ⟨o', h1, h2⟩ := sep_local hB6 h6.own2 (by rw [List.length_append]; simp)
                    have h3 : (⟨poi, poc, pof, pob, pocp, pols, pon, pot⟩ : Od) = o' := by
                      have h4 : (⟨poi, poc, pof, pob, pocp, pols, pon, pot⟩ : Od) ∈ [o'] := by rw [← h1]; simp
                      simpa using h4
                    have h5 := HGOOD.out _ HO.out
                    have h7 := h5.2.1.1.2.2.2.2.2.1
                    rcases HX.out.rd with h0 | ⟨b', off', hA, hlt', _⟩
                    · have := length_flatMap_const enL 2 enL_len ols
                      rw [h0] at this
                      simp at this
                      simp only at h7
                      omega
                    · simp only at hA
                      rw [h2, ← h3] at hA
                      injection hA with hA
                      injection hA with hA _
                      simp only at hA
                      have := HA7.out
                      omega
                  have HT1 := hid (IsRef.fld h6 (j := 4) (v := .int .i64 on) (x' := ⟨poi, poc, pof, pob, pocp, pols, on, pot⟩) HNN.out (by omega) rfl rfl rfl)
                  have HN1 := hid hn1
                  have HLN := hid hln
                  clear h6 hB6 hb6 hn1 hln
                  go_wp2_with fail
                  refine wp_tail 9 (by kernel_rfl) (by kernel_rfl) ?_
                  simp only [List.take_succ_cons, List.take_zero, List.drop_succ_cons, List.drop_zero]
                  repeat still_step
                  refine wpStill_nil ?_
                  go_wp2_with fail
                  obtain ⟨w8, hw8⟩ : ∃ w8, w8 = (w6.setCell ⟨g, rs.length * 6 + 4, none⟩ (.int .i64 on)).drew := ⟨_, rfl⟩
                  have HI8 := hid (show IsRef base w8 R A1' c1' il (some ⟨g, 0, none⟩) c6 ((rs ++ [(⟨poi, poc, pof, pob, pocp, pols, pon, pot⟩ : Od)]).set rs.length ⟨poi, poc, pof, pob, pocp, pols, on, pot⟩) from by rw [hw8]; exact HT1.out.1.next (below_drewN (Below.refl _ _) 1))
                  have hT8 : Touch (· = g) w6 w8 := by rw [hw8]; exact HT1.out.2.drew
                  rw [← hw8]
                  clear hw8 HT1 c1 lR lG lg e4 f4 x4
                  have h8 := HI8.out
                  have hB8 := hT8.blk HB6.out.1 hne
                  have hb8 := HB6.out.2.trans (hT8.below HB6.out.2.size (fun k hk => by rw [hk]; have := (H6.out.own2.lt g rfl).1; have := HBS.out; omega))
                  have hln8 : ((rs ++ [(⟨poi, poc, pof, pob, pocp, pols, pon, pot⟩ : Od)]).set rs.length ⟨poi, poc, pof, pob, pocp, pols, on, pot⟩).length = rs.length + 1 := by rw [List.length_set]; exact HLN.out
                  have hnn8 : ((rs ++ [(⟨poi, poc, pof, pob, pocp, pols, pon, pot⟩ : Od)]).set rs.length ⟨poi, poc, pof, pob, pocp, pols, on, pot⟩)[rs.length]? = some ⟨poi, poc, pof, pob, pocp, pols, on, pot⟩ := by rw [List.getElem?_set_self (by rw [HLN.out]; omega)]
                  have c1 : w8.cell? ⟨R, 1, none⟩ = some (.slice (some ⟨g, 0, none⟩) n1 c6) := by rw [HN1.out, ← hln8]; exact h8.cell1
                  have lR : R < w8.heap.size := h8.blk.lt
                  have lG : G < w8.heap.size := hB8.lt
                  have lg : g < w8.heap.size := (h8.own2.lt g rfl).2
                  have e5 : w8.cell? ⟨G, 5, none⟩ = some (.int .i64 ot) := hB8.cell 5
                  have f5 := own_free h8.own2 (rs.length * 6 + 5)
                  have x5 : w8.cell? ⟨g, rs.length * 6 + 5, none⟩ = some (.int .i64 pot) := own_cells enO6_len h8.own2 hnn8 (j := 5) rfl
                  have HT2 := hid (IsRef.fld h8 (j := 5) (v := .int .i64 ot) (x' := ⟨poi, poc, pof, pob, pocp, pols, on, ot⟩) hnn8 (by omega) rfl rfl rfl)
                  have HB8 := hid hb8
                  have HGB := hid (show w.heap.size ≤ g from by have := (h8.own2.lt g rfl).1; have := HBS.out; omega)
                  clear h8 hB8 hb8 hT8 hln8 hnn8
                  go_wp2_with fail
                  refine wp_tail 9 (by kernel_rfl) (by kernel_rfl) ?_
                  simp only [List.take_succ_cons, List.take_zero, List.drop_succ_cons, List.drop_zero]
                  repeat still_step
                  refine wpStill_nil ?_
                  go_wp2_with fail
                  obtain ⟨w9, hw9⟩ : ∃ w9, w9 = (w8.setCell ⟨g, rs.length * 6 + 5, none⟩ (.int .i64 ot)).drew := ⟨_, rfl⟩
                  have h9 : IsRef base w9 R A1' c1' il (some ⟨g, 0, none⟩) c6 (rs ++ [(⟨poi, poc, pof, pob, pocp, pols, on, ot⟩ : Od)]) := by
                    rw [hw9]
                    have := HT2.out.1.next (below_drewN (Below.refl _ _) 1)
                    rw [List.set_set, List.set_append_right _ _ (Nat.le_refl _), Nat.sub_self, List.set_cons_zero] at this
                    exact this
                  have hb9 : Below w.heap.size w w9 := by rw [hw9]; exact (HB8.out.trans (HT2.out.2.below HB8.out.size (fun k hk => by rw [hk]; exact HGB.out))).drew
                  rw [← hw9]
                  have HZ := hid (And.intro h9 hb9)
                  clear hw9 h9 hb9 HT2 c1 lR lG lg e5 f5 x5
                  go_wp2_with fail
                  go_roundw
                  case rel => exact ⟨k + 1, _, _, _, by omega, by go_num, hid ⟨good_next hO.out.1 HGOOD.out, by
                    obtain ⟨a1, a2, a3, a4⟩ := HA.out
                    subst a1 a2 a3 a4
                    rw [List.map_append, hO.out.2, takeA_snoc HO.out, List.map_append]
                    rfl⟩, HZ.out.1, HZ.out.2⟩
                  case measure => simp [nOf]; omega
              · have HBAD := hid (show ¬ GoodR il ol from fun hh => hm (hh.2 k _ HO.out).2.2.2)
                unfold moneyOk at hm
                rcases (show on < 0 ∨ (0 ≤ on ∧ 281474976710656 < on) ∨ ((0 ≤ on ∧ on ≤ 281474976710656) ∧ ot < 0) ∨ ((0 ≤ on ∧ on ≤ 281474976710656) ∧ 0 ≤ ot ∧ 281474976710656 < ot) from by omega) with h1 | h1 | h1 | h1
                · have d0 : decide (on < 0) = true := decide_eq_true (by omega)
                  clear hm h1
                  go_wp2_with fail
                  rw [← HW.out, ← HGG.out]
                  refine wp_region_in C (by kernel_rfl) (by kernel_rfl) hC ?_
                  intro hne
                  clear hC
                  repeat (first | go_big_quiet_step (fail) | quiet_step (fail))
                  refine wpQuiet_nil ?_
                  intro wq hq
                  have hbq := (HCd.out _).1 hq
                  clear g0 g4 g5 hne hq HCd q0 q1 q2 q3 q4 q5 r0 hkw
                  have HB := hid (HH.out _ hbq).2.2
                  clear hbq
                  go_wp2_with fail
                  go_ret2
                  exact ⟨.bad HBAD.out, HB.out⟩
                · have d0 : decide (on < 0) = false := decide_eq_false (by omega)
                  have d1 : decide (281474976710656 < on) = true := decide_eq_true (by omega)
                  clear hm h1
                  go_wp2_with fail
                  rw [← HW.out, ← HGG.out]
                  refine wp_region_in C (by kernel_rfl) (by kernel_rfl) hC ?_
                  intro hne
                  clear hC
                  repeat (first | go_big_quiet_step (fail) | quiet_step (fail))
                  refine wpQuiet_nil ?_
                  intro wq hq
                  have hbq := (HCd.out _).1 hq
                  clear g0 g4 g5 hne hq HCd q0 q1 q2 q3 q4 q5 r0 hkw
                  have HB := hid (HH.out _ hbq).2.2
                  clear hbq
                  go_wp2_with fail
                  go_ret2
                  exact ⟨.bad HBAD.out, HB.out⟩
                · have d0 : decide (on < 0) = false := decide_eq_false (by omega)
                  have d1 : decide (281474976710656 < on) = false := decide_eq_false (by omega)
                  have d2 : decide (ot < 0) = true := decide_eq_true (by omega)
                  clear hm h1
                  go_wp2_with fail
                  rw [← HW.out, ← HGG.out]
                  refine wp_region_in C (by kernel_rfl) (by kernel_rfl) hC ?_
                  intro hne
                  clear hC
                  repeat (first | go_big_quiet_step (fail) | quiet_step (fail))
                  refine wpQuiet_nil ?_
                  intro wq hq
                  have hbq := (HCd.out _).1 hq
                  clear g0 g4 g5 hne hq HCd q0 q1 q2 q3 q4 q5 r0 hkw
                  have HB := hid (HH.out _ hbq).2.2
                  clear hbq
                  go_wp2_with fail
                  go_ret2
                  exact ⟨.bad HBAD.out, HB.out⟩
                · have d0 : decide (on < 0) = false := decide_eq_false (by omega)
                  have d1 : decide (281474976710656 < on) = false := decide_eq_false (by omega)
                  have d2 : decide (ot < 0) = false := decide_eq_false (by omega)
                  have d3 : decide (281474976710656 < ot) = true := decide_eq_true (by omega)
                  clear hm h1
                  go_wp2_with fail
                  rw [← HW.out, ← HGG.out]
                  refine wp_region_in C (by kernel_rfl) (by kernel_rfl) hC ?_
                  intro hne
                  clear hC
                  repeat (first | go_big_quiet_step (fail) | quiet_step (fail))
                  refine wpQuiet_nil ?_
                  intro wq hq
                  have hbq := (HCd.out _).1 hq
                  clear g0 g4 g5 hne hq HCd q0 q1 q2 q3 q4 q5 r0 hkw
                  have HB := hid (HH.out _ hbq).2.2
                  clear hbq
                  go_wp2_with fail
                  go_ret2
                  exact ⟨.bad HBAD.out, HB.out⟩
            · have t5 : decide (oi ≤ pi) = true := decide_eq_true (by omega)
              have HBAD := hid (show ¬ GoodR il ol from fun hh => hri ((hh.2 k _ HO.out).1 _ hk0 HP.out))
              clear hri
              go_wp2_with fail
              rw [← HW.out, ← HGG.out]
              refine wp_region_in C (by kernel_rfl) (by kernel_rfl) hC ?_
              intro hne
              clear hC
              repeat (first | go_big_quiet_step (fail) | quiet_step (fail))
              refine wpQuiet_nil ?_
              intro wq hq
              have hbq := (HCd.out _).1 hq
              clear g0 g4 g5 hne hq HCd q0 q1 q2 q3 q4 q5 r0 hkw
              have HB := hid (HH.out _ hbq).2.2
              clear hbq
              go_wp2_with fail
              go_ret2
              exact ⟨.bad HBAD.out, HB.out⟩
          · have b0 : decide ((0 : Int) < (k : Int)) = false := decide_eq_false (by omega)
            have b0' : decide (0 < k) = false := decide_eq_false hk0
            by_cases hm : moneyOk on ∧ moneyOk ot
            · have HMN := hid hm
              obtain ⟨⟨m1, m2⟩, m3, m4⟩ := hm
              have d0 : decide (on < 0) = false := decide_eq_false (by omega)
              have d1 : decide (281474976710656 < on) = false := decide_eq_false (by omega)
              have d2 : decide (ot < 0) = false := decide_eq_false (by omega)
              have d3 : decide (281474976710656 < ot) = false := decide_eq_false (by omega)
              clear m1 m2 m3 m4
              go_wp2_with fail
              rw [← HW.out, ← HGG.out]
              refine wp_region_in C (by kernel_rfl) (by kernel_rfl) hC ?_
              intro hne
              clear hC
              repeat (first | go_big_quiet_step (fail) | quiet_step (fail))
              refine wpQuiet_nil ?_
              intro wq hq
              have hbq := (HCd.out _).1 hq
              clear g0 g4 g5 hne hq HCd q0 q1 q2 q3 q4 q5
              obtain ⟨hI, hB, hbq2⟩ := HH.out _ hbq
              have e0 : wq.cell? ⟨G, 0, none⟩ = some (.int .i64 oi) := hB.cell 0
              have e1 : wq.cell? ⟨G, 1, none⟩ = some (.int .i64 oc) := hB.cell 1
              have e2 : wq.cell? ⟨G, 2, none⟩ = some (.string of) := hB.cell 2
              have e3 : wq.cell? ⟨G, 3, none⟩ = some (.slice oA ols.length ocp) := hB.cell 3
              have K := hid (radd_any hI hREL.out oi oc of oA ocp ols HX.out.flow (HX.out.rd.below hbq2) (by omega) (by omega) (by have := hI.blk.lt; have := HBS.out.1; omega))
              unfold AddD at K
              have HIQ := hid (And.intro hI (And.intro hB hbq2))
              clear hI hB hbq2 hbq HH HPV
              go_wp2_with fail
              refine K.out.mono ?_
              rintro e w6 (⟨hz, rfl, hb6⟩ | ⟨hz, oo, A6, c6, rfl, h6, ho6, hT6⟩)
              · have HBAD := hid (show ¬ GoodR il ol from fun hh => hz (by
                  obtain ⟨_, h2, h3, _⟩ := hh.2 k _ HO.out
                  refine errL_ok h2 h3 ?_
                  rw [none_of_below (fun y hy => ?_)]
                  · rfl
                  · unfold asMap at hy
                    rw [List.map_map] at hy
                    obtain ⟨o', ho', rfl⟩ := List.mem_map.1 hy
                    exact refBelow hO.out.2 (belowO_take hO.out.1 HO.out ((fun p h0 _ => absurd h0 hk0))) o' ho'))
                have HB := hid (bthen HIQ.out.2.2 hb6)
                have hzb : (errL il (asMap rs) oi oc of ols != 0) = true := by simpa using hz
                generalize errL il (asMap rs) oi oc of ols = z at hzb
                clear hz hb6 K e0 e1 e2 e3
                go_wp2_with fail
                go_ret2
                exact ⟨.bad HBAD.out, HB.out⟩
              · have hbel := refBelow hO.out.2 (belowO_take hO.out.1 HO.out ((fun p h0 _ => absurd h0 hk0)))
                obtain ⟨a1, a2, a3, a4, _, _, a7⟩ := ho6
                rw [insK_last (key := Od.i) (fun y hy => by rw [a1]; exact hbel y hy)] at h6
                have hb6 : Below w.heap.size w w6 := HIQ.out.2.2.trans (hT6.below HIQ.out.2.2.size (rt_low HIQ.out.1.own2 HIQ.out.2.2 HBS.out.2 HIQ.out.1.lt))
                have hB6 := hT6.blk HIQ.out.2.1 (fun e => by
                  rcases e with e | e | e
                  · exact HIQ.out.2.1.ne_ HIQ.out.1.blk (by decide) e
                  · exact absurd (HLOW.out G e) (Nat.lt_irrefl _)
                  · have := HIQ.out.2.1.lt; omega)
                have HGOOD := hid (show GoodO il ol k from fun q hq => by
                  rw [HO.out] at hq; injection hq with hq; subst hq
                  exact ⟨(fun p h0 _ => absurd h0 hk0), (errL_zero hz).1, (errL_zero hz).2.1, HMN.out.1, HMN.out.2⟩)
                have hpl : plc (isD oi) (rs ++ [oo]) = (rs.length : Int) := plc_some (y := oo) (by rw [List.getElem?_append_right (Nat.le_refl _), Nat.sub_self]; rfl) (by simp [isD, a1]) (fun j z hj hz => by
                  rw [List.getElem?_append_left hj] at hz
                  have := hbel z (List.mem_of_getElem? hz)
                  simp only at this
                  simp only [isD, decide_eq_false_iff_not]
                  omega)
                have F := rfindO_any h6 oi (by rw [List.length_append]; simp; omega)
                rw [hpl] at F
                replace F := hid F
                have hnn : (rs ++ [oo])[rs.length]? = some oo := by rw [List.getElem?_append_right (Nat.le_refl _), Nat.sub_self]; rfl
                obtain ⟨g, rfl, hbg, hel⟩ := h6.elem2 hnn
                obtain ⟨poi, poc, pof, pob, pocp, pols, pon, pot⟩ := oo
                have e6 : w6.cell? ⟨G, 0, none⟩ = some (.int .i64 oi) := hB6.cell 0
                have H6 := hid h6
                have HB6 := hid (And.intro hB6 hb6)
                have HNN := hid hnn
                have HA7 := hid (show w.heap.size ≤ pob from Nat.le_trans HIQ.out.2.2.size a7)
                have HA := hid (show poi = oi ∧ poc = oc ∧ pof = of ∧ pols = ols from ⟨a1, a2, a3, a4⟩)
                clear K e0 e1 e2 e3 hz hbel h6 hT6 hb6 hB6 hpl hel hnn HIQ a1 a2 a3 a4 a7 hbg
                go_wp2_with fail
                refine F.out.mono ?_
                rintro e w7 ⟨rfl, rfl⟩
                clear F e6
                have hln : (rs ++ [(⟨poi, poc, pof, pob, pocp, pols, pon, pot⟩ : Od)]).length = rs.length + 1 := by rw [List.length_append]; rfl
                obtain ⟨n1, hn1⟩ : ∃ n1, n1 = rs.length + 1 := ⟨_, rfl⟩
                have hkn : rs.length < n1 := by omega
                have hn2 : n1 ≤ 140737488355328 := by omega
                have h6 := H6.out
                obtain ⟨hB6, hb6⟩ := HB6.out
                have c1 : w6.cell? ⟨R, 1, none⟩ = some (.slice (some ⟨g, 0, none⟩) n1 c6) := by rw [hn1, ← hln]; exact h6.cell1
                have lR : R < w6.heap.size := h6.blk.lt
                have lG : G < w6.heap.size := hB6.lt
                have lg : g < w6.heap.size := (h6.own2.lt g rfl).2
                have e4 : w6.cell? ⟨G, 4, none⟩ = some (.int .i64 on) := hB6.cell 4
                have f4 := own_free h6.own2 (rs.length * 6 + 4)
                have x4 : w6.cell? ⟨g, rs.length * 6 + 4, none⟩ = some (.int .i64 pon) := own_cells enO6_len h6.own2 HNN.out (j := 4) rfl
                have hne : G ≠ g := fun e => by
                  subst e
                  obtain ⟨o', h1, h2⟩ := sep_local hB6 h6.own2 (by rw [List.length_append]; simp)
                  have h3 : (⟨poi, poc, pof, pob, pocp, pols, pon, pot⟩ : Od) = o' := by
                    have h4 : (⟨poi, poc, pof, pob, pocp, pols, pon, pot⟩ : Od) ∈ [o'] := by rw [← h1]; simp
                    simpa using h4
                  have h5 := HGOOD.out _ HO.out
                  have h7 := h5.2.1.1.2.2.2.2.2.1
                  rcases HX.out.rd with h0 | ⟨b', off', hA, hlt', _⟩
                  · have := length_flatMap_const enL 2 enL_len ols
                    rw [h0] at this
                    simp at this
                    simp only at h7
                    omega
                  · simp only at hA
                    rw [h2, ← h3] at hA
                    injection hA with hA
                    injection hA with hA _
                    simp only at hA
                    have := HA7.out
                    omega
                have HT1 := hid (IsRef.fld h6 (j := 4) (v := .int .i64 on) (x' := ⟨poi, poc, pof, pob, pocp, pols, on, pot⟩) HNN.out (by omega) rfl rfl rfl)
                have HN1 := hid hn1
                have HLN := hid hln
                clear h6 hB6 hb6 hn1 hln
                go_wp2_with fail
                refine wp_tail 9 (by kernel_rfl) (by kernel_rfl) ?_
                simp only [List.take_succ_cons, List.take_zero, List.drop_succ_cons, List.drop_zero]
                repeat still_step
                refine wpStill_nil ?_
                go_wp2_with fail
                obtain ⟨w8, hw8⟩ : ∃ w8, w8 = (w6.setCell ⟨g, rs.length * 6 + 4, none⟩ (.int .i64 on)).drew := ⟨_, rfl⟩
                have HI8 := hid (show IsRef base w8 R A1' c1' il (some ⟨g, 0, none⟩) c6 ((rs ++ [(⟨poi, poc, pof, pob, pocp, pols, pon, pot⟩ : Od)]).set rs.length ⟨poi, poc, pof, pob, pocp, pols, on, pot⟩) from by rw [hw8]; exact HT1.out.1.next (below_drewN (Below.refl _ _) 1))
                have hT8 : Touch (· = g) w6 w8 := by rw [hw8]; exact HT1.out.2.drew
                rw [← hw8]
                clear hw8 HT1 c1 lR lG lg e4 f4 x4
                have h8 := HI8.out
                have hB8 := hT8.blk HB6.out.1 hne
                have hb8 := HB6.out.2.trans (hT8.below HB6.out.2.size (fun k hk => by rw [hk]; have := (H6.out.own2.lt g rfl).1; have := HBS.out; omega))
                have hln8 : ((rs ++ [(⟨poi, poc, pof, pob, pocp, pols, pon, pot⟩ : Od)]).set rs.length ⟨poi, poc, pof, pob, pocp, pols, on, pot⟩).length = rs.length + 1 := by rw [List.length_set]; exact HLN.out
                have hnn8 : ((rs ++ [(⟨poi, poc, pof, pob, pocp, pols, pon, pot⟩ : Od)]).set rs.length ⟨poi, poc, pof, pob, pocp, pols, on, pot⟩)[rs.length]? = some ⟨poi, poc, pof, pob, pocp, pols, on, pot⟩ := by rw [List.getElem?_set_self (by rw [HLN.out]; omega)]
                have c1 : w8.cell? ⟨R, 1, none⟩ = some (.slice (some ⟨g, 0, none⟩) n1 c6) := by rw [HN1.out, ← hln8]; exact h8.cell1
                have lR : R < w8.heap.size := h8.blk.lt
                have lG : G < w8.heap.size := hB8.lt
                have lg : g < w8.heap.size := (h8.own2.lt g rfl).2
                have e5 : w8.cell? ⟨G, 5, none⟩ = some (.int .i64 ot) := hB8.cell 5
                have f5 := own_free h8.own2 (rs.length * 6 + 5)
                have x5 : w8.cell? ⟨g, rs.length * 6 + 5, none⟩ = some (.int .i64 pot) := own_cells enO6_len h8.own2 hnn8 (j := 5) rfl
                have HT2 := hid (IsRef.fld h8 (j := 5) (v := .int .i64 ot) (x' := ⟨poi, poc, pof, pob, pocp, pols, on, ot⟩) hnn8 (by omega) rfl rfl rfl)
                have HB8 := hid hb8
                have HGB := hid (show w.heap.size ≤ g from by have := (h8.own2.lt g rfl).1; have := HBS.out; omega)
                clear h8 hB8 hb8 hT8 hln8 hnn8
                go_wp2_with fail
                refine wp_tail 9 (by kernel_rfl) (by kernel_rfl) ?_
                simp only [List.take_succ_cons, List.take_zero, List.drop_succ_cons, List.drop_zero]
                repeat still_step
                refine wpStill_nil ?_
                go_wp2_with fail
                obtain ⟨w9, hw9⟩ : ∃ w9, w9 = (w8.setCell ⟨g, rs.length * 6 + 5, none⟩ (.int .i64 ot)).drew := ⟨_, rfl⟩
                have h9 : IsRef base w9 R A1' c1' il (some ⟨g, 0, none⟩) c6 (rs ++ [(⟨poi, poc, pof, pob, pocp, pols, on, ot⟩ : Od)]) := by
                  rw [hw9]
                  have := HT2.out.1.next (below_drewN (Below.refl _ _) 1)
                  rw [List.set_set, List.set_append_right _ _ (Nat.le_refl _), Nat.sub_self, List.set_cons_zero] at this
                  exact this
                have hb9 : Below w.heap.size w w9 := by rw [hw9]; exact (HB8.out.trans (HT2.out.2.below HB8.out.size (fun k hk => by rw [hk]; exact HGB.out))).drew
                rw [← hw9]
                have HZ := hid (And.intro h9 hb9)
                clear hw9 h9 hb9 HT2 c1 lR lG lg e5 f5 x5
                go_wp2_with fail
                go_roundw
                case rel => exact ⟨k + 1, _, _, _, by omega, by go_num, hid ⟨good_next hO.out.1 HGOOD.out, by
                  obtain ⟨a1, a2, a3, a4⟩ := HA.out
                  subst a1 a2 a3 a4
                  rw [List.map_append, hO.out.2, takeA_snoc HO.out, List.map_append]
                  rfl⟩, HZ.out.1, HZ.out.2⟩
                case measure => simp [nOf]; omega
            · have HBAD := hid (show ¬ GoodR il ol from fun hh => hm (hh.2 k _ HO.out).2.2.2)
              unfold moneyOk at hm
              rcases (show on < 0 ∨ (0 ≤ on ∧ 281474976710656 < on) ∨ ((0 ≤ on ∧ on ≤ 281474976710656) ∧ ot < 0) ∨ ((0 ≤ on ∧ on ≤ 281474976710656) ∧ 0 ≤ ot ∧ 281474976710656 < ot) from by omega) with h1 | h1 | h1 | h1
              · have d0 : decide (on < 0) = true := decide_eq_true (by omega)
                clear hm h1
                go_wp2_with fail
                rw [← HW.out, ← HGG.out]
                refine wp_region_in C (by kernel_rfl) (by kernel_rfl) hC ?_
                intro hne
                clear hC
                repeat (first | go_big_quiet_step (fail) | quiet_step (fail))
                refine wpQuiet_nil ?_
                intro wq hq
                have hbq := (HCd.out _).1 hq
                clear g0 g4 g5 hne hq HCd q0 q1 q2 q3 q4 q5
                have HB := hid (HH.out _ hbq).2.2
                clear hbq
                go_wp2_with fail
                go_ret2
                exact ⟨.bad HBAD.out, HB.out⟩
              · have d0 : decide (on < 0) = false := decide_eq_false (by omega)
                have d1 : decide (281474976710656 < on) = true := decide_eq_true (by omega)
                clear hm h1
                go_wp2_with fail
                rw [← HW.out, ← HGG.out]
                refine wp_region_in C (by kernel_rfl) (by kernel_rfl) hC ?_
                intro hne
                clear hC
                repeat (first | go_big_quiet_step (fail) | quiet_step (fail))
                refine wpQuiet_nil ?_
                intro wq hq
                have hbq := (HCd.out _).1 hq
                clear g0 g4 g5 hne hq HCd q0 q1 q2 q3 q4 q5
                have HB := hid (HH.out _ hbq).2.2
                clear hbq
                go_wp2_with fail
                go_ret2
                exact ⟨.bad HBAD.out, HB.out⟩
              · have d0 : decide (on < 0) = false := decide_eq_false (by omega)
                have d1 : decide (281474976710656 < on) = false := decide_eq_false (by omega)
                have d2 : decide (ot < 0) = true := decide_eq_true (by omega)
                clear hm h1
                go_wp2_with fail
                rw [← HW.out, ← HGG.out]
                refine wp_region_in C (by kernel_rfl) (by kernel_rfl) hC ?_
                intro hne
                clear hC
                repeat (first | go_big_quiet_step (fail) | quiet_step (fail))
                refine wpQuiet_nil ?_
                intro wq hq
                have hbq := (HCd.out _).1 hq
                clear g0 g4 g5 hne hq HCd q0 q1 q2 q3 q4 q5
                have HB := hid (HH.out _ hbq).2.2
                clear hbq
                go_wp2_with fail
                go_ret2
                exact ⟨.bad HBAD.out, HB.out⟩
              · have d0 : decide (on < 0) = false := decide_eq_false (by omega)
                have d1 : decide (281474976710656 < on) = false := decide_eq_false (by omega)
                have d2 : decide (ot < 0) = false := decide_eq_false (by omega)
                have d3 : decide (281474976710656 < ot) = true := decide_eq_true (by omega)
                clear hm h1
                go_wp2_with fail
                rw [← HW.out, ← HGG.out]
                refine wp_region_in C (by kernel_rfl) (by kernel_rfl) hC ?_
                intro hne
                clear hC
                repeat (first | go_big_quiet_step (fail) | quiet_step (fail))
                refine wpQuiet_nil ?_
                intro wq hq
                have hbq := (HCd.out _).1 hq
                clear g0 g4 g5 hne hq HCd q0 q1 q2 q3 q4 q5
                have HB := hid (HH.out _ hbq).2.2
                clear hbq
                go_wp2_with fail
                go_ret2
                exact ⟨.bad HBAD.out, HB.out⟩
        · have hk' : k = ol.length := by omega
          subst hk'
          have HALL := hid (show RestR il ol w (.returned (.tuple #[.pointer (some ⟨R, 0, none⟩), .int .i64 0])) wr ∧ Below w.heap.size w wr from ⟨⟨fun _ => ⟨R, base, A1', c1', A2', c2', rs, rfl, h, by rw [hO.out.2, List.take_length], HBS.out.2, by have := h.blk.lt; have := HBS.out.1; omega⟩, fun hh => absurd (goodR_all hG.out hO.out.1) hh⟩, hb⟩)
          clear hk hlt h hb
          go_wp2_with fail
          go_ret2
          exact HALL.out

end Go.Proofs.Ytdgoifnhlpjnpaa
