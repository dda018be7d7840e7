/-
  The credit book: Restore, told; the program's Restore.
-/
import Derived.Test.YtpofhadeepgmbaaState14
import Derived.Deep.RegionHeld3
namespace Go.Proofs.Ytpofhadeepgmbaa
open Go.RowKit Go.WideShapes Go.ChangeShapes Go.ChangeAt Go.Deep
set_option linter.unusedVariables false

section
variable {α κ : Type} {key : α → κ} {lt : κ → κ → Bool}
def insF (key : α → κ) (lt : κ → κ → Bool) (l : List α) : List α := l.foldl (insK key lt) []
theorem insF_snoc (l : List α) (x : α) : insF key lt (l ++ [x]) = insK key lt (insF key lt l) x := by unfold insF; rw [List.foldl_append]; rfl
theorem insF_take {l : List α} {k : Nat} {x : α} (hk : l[k]? = some x) : insF key lt (l.take (k + 1)) = insK key lt (insF key lt (l.take k)) x := by rw [List.take_add_one, hk]; exact insF_snoc _ _
theorem foldl_ins_perm (l : List α) : ∀ r : List α, (l.foldl (insK key lt) r).Perm (r ++ l) := by
  induction l with
  | nil => intro r; simp
  | cons x l ih =>
    intro r
    refine (ih _).trans ?_
    have h1 := (insK_perm (key := key) (lt := lt) r x).append_right l
    refine h1.trans ?_
    exact (List.perm_middle (a := x) (l₁ := r) (l₂ := l)).symm
theorem insF_perm (l : List α) : (insF key lt l).Perm l := foldl_ins_perm l []
end

def psF (pl : List Pa) : List Pa := insF Pa.i ltI pl
def hrF (hl : List Hd) : List Hd := insF Hd.o ltI hl
def GoodP (pl : List Pa) (k : Nat) : Prop := ∀ p, pl[k]? = some p → custOk p.i p.l ∧ p.i ∉ (pl.take k).map Pa.i
def GoodD (pl : List Pa) (hl : List Hd) (k : Nat) : Prop := ∀ d, hl[k]? = some d → d.c ∈ pl.map Pa.i ∧ d.o ∉ (hl.take k).map Hd.o ∧ 1 ≤ d.o ∧ 0 ≤ d.a ∧ d.a ≤ 1125899906842624 ∧ sumC (hl.take k) d.c + d.a ≤ 1125899906842624
def Good (pl : List Pa) (hl : List Hd) : Prop := (∀ k, GoodP pl k) ∧ (∀ k, GoodD pl hl k)

/-- Where the parties stand behind k of them. -/
theorem psF_mem {ac : List (Int × Acc)} {hs : List (Int × Hd)} {pl : List Pa} {hr : List Hd} (h : RelB ac hs (psF pl) hr) (id : Int) : (id ∈ pl.map Pa.i ↔ ∃ a, mget ac id = some a) := by
  have hp := (insF_perm (key := Pa.i) (lt := ltI) pl).map Pa.i
  rw [← hp.mem_iff]
  constructor
  · intro hin
    cases hg : mget ac id with
    | some a => exact ⟨a, rfl⟩
    | none => exact absurd hin (h.pa.none.2 hg)
  · rintro ⟨a, ha⟩
    refine Classical.byContradiction fun hn => ?_
    rw [h.pa.none.1 hn] at ha
    cases ha
theorem hrF_mem {ac : List (Int × Acc)} {hs : List (Int × Hd)} {ps : List Pa} {hl : List Hd} (h : RelB ac hs ps (hrF hl)) (o : Int) : (o ∈ hl.map Hd.o ↔ (mget hs o).isSome = true) := by
  have hp := (insF_perm (key := Hd.o) (lt := ltI) hl).map Hd.o
  rw [← hp.mem_iff]
  constructor
  · intro hin
    cases hg : mget hs o with
    | some a => rfl
    | none => exact absurd hin (h.hd.none.2 hg)
  · intro ha
    refine Classical.byContradiction fun hn => ?_
    rw [h.hd.none.1 hn] at ha
    cases ha
theorem hrF_sum {ac : List (Int × Acc)} {hs : List (Int × Hd)} {ps : List Pa} {hl : List Hd} (h : RelB ac hs ps (hrF hl)) {c : Int} {a : Acc} (ha : mget ac c = some a) : sumC hl c = a.e := by
  rw [← sumC_perm (insF_perm (key := Hd.o) (lt := ltI) hl) c]
  show sumC (hrF hl) c = a.e
  rw [h.sum]; exact (h.exp c a ha).1.symm
theorem psC_new {ac : List (Int × Acc)} {hs : List (Int × Hd)} {ps : List Pa} {hr : List Hd} (h : RelB ac hs ps hr) {id l : Int} (hn : mget ac id = none) : psC ps id l = insK Pa.i ltI ps ⟨id, l⟩ := by
  rcases h.find id with ⟨k, a, ha, _⟩ | ⟨_, he⟩
  · rw [hn] at ha; cases ha
  · unfold psC; rw [he, if_neg (by omega)]

def RestPost (pl : List Pa) (hl : List Hd) (w : World) (e : Ending) (w' : World) : Prop :=
  (Good pl hl → ∃ X BA BH ac hs, e = .returned (.tuple #[.pointer (some ⟨X, 0, none⟩), .int .i64 0]) ∧ IsBook w.heap.size w' X BA BH ac hs ∧ RelB ac hs (psF pl) (hrF hl) ∧ hs.length = hl.length) ∧ (¬ Good pl hl → e = .returned (.tuple #[.pointer none, .int .i64 2]))

set_option maxRecDepth 100000 in
set_option maxHeartbeats 16000000 in
theorem restore_any (pl : List Pa) (A1 : Option Addr) (cp1 : Nat) (hl : List Hd) (A2 : Option Addr) (cp2 : Nat) (w : World) (hR1 : Rd w A1 (pl.flatMap enP)) (hR2 : Rd w A2 (hl.flatMap enH3)) (hb1 : pl.length ≤ 140737488351232) (hb2 : hl.length * 24 ≤ 140737488351232) :
    Calls Try.prog 19 #[.slice A1 pl.length cp1, .slice A2 hl.length cp2] w fun e w' => RestPost pl hl w e w' ∧ Below w.heap.size w w' := by
  go_enter Try.func19, Try.ntmps19
  go_wp2_with fail
  refine (new_any _).mono ?_
  rintro e w1 ⟨X, BA, BH, rfl, h, hb, _, _, _⟩
  go_wp2_with fail
  go_loopw [17] (fun i wr => ∃ (k : Nat) (ac : List (Int × Acc)), k ≤ pl.length ∧ i = .int .i64 k ∧ Hid ((∀ j, j < k → GoodP pl j) ∧ RelB ac [] (psF (pl.take k)) []) ∧ IsBook w.heap.size wr X BA BH ac [] ∧ Below w.heap.size w wr) (fun i _ => pl.length - nOf i)
  case atStart => exact ⟨0, [], Nat.zero_le _, rfl, hid ⟨fun j hj => by omega, RelB.nil⟩, h, hb⟩
  case round =>
    clear h hb
    obtain ⟨k, ac, hk, rfl, hG, h, hb⟩ := hrel
    by_cases hlt : k < pl.length
    · obtain ⟨p, hp⟩ : ∃ p, pl[k]? = some p := ⟨pl[k], List.getElem?_eq_getElem hlt⟩
      obtain ⟨b, off, hAA, hbs, hcc⟩ := (hR1.below hb).at_ 2 enP_len (by omega) hp
      have hHP := hid hp
      obtain ⟨pi, pl'⟩ := p
      have q0 : wr.cell? ⟨b, off + k * 2, none⟩ = some (.int .i64 pi) := hcc 0 _ rfl
      have q1 : wr.cell? ⟨b, off + k * 2 + 1, none⟩ = some (.int .i64 pl') := hcc 1 _ rfl
      have hwb : Below wr.heap.size wr (wr.alloc (.cells #[.int .i64 pi, .int .i64 pl'] 57)) := (Below.refl _ _).alloc (Nat.le_refl _) _
      have hG0 : Blk (wr.alloc (.cells #[.int .i64 pi, .int .i64 pl'] 57)) wr.heap.size 57 #[.int .i64 pi, .int .i64 pl'] := Blk.new _ _ _
      obtain ⟨wz, hwz⟩ : ∃ wz, wz = wr.alloc (.cells #[.int .i64 pi, .int .i64 pl'] 57) := ⟨_, rfl⟩
      obtain ⟨G, hGG⟩ : ∃ G, G = wr.heap.size := ⟨_, rfl⟩
      have HW := hid hwz
      have HGG := hid hGG
      have hz := h.next hwb
      have hbz := bthen hb hwb
      rw [← hwz, ← hGG] at hG0
      rw [← hwz] at hz hbz
      clear hcc hp hwb hwz hGG h hb
      have cA : wz.cell? ⟨X, 0, none⟩ = some (.map (some BA)) := hz.cellA
      have g0 : wz.cell? ⟨G, 0, none⟩ = some (.int .i64 pi) := hG0.cell 0
      have g1 : wz.cell? ⟨G, 1, none⟩ = some (.int .i64 pl') := hG0.cell 1
      have lX : X < wz.heap.size := hz.blk.lt
      have lG : G < wz.heap.size := hG0.lt
      have l1 := hz.drew.lookA pi
      subst hAA
      cases hm : mget ac pi with
      | some a =>
        rw [show ptrOf ac pi = some ⟨a.g, 0, none⟩ from by unfold ptrOf; rw [hm]; rfl] at l1
        have HBAD := hid (show ¬ Good pl hl from fun hh => (hh.1 k _ hHP.out).2 ((psF_mem hG.out.2 pi).2 ⟨a, hm⟩))
        have HB := hid hbz
        clear hm hz hbz hG0
        go_wp2_with fail
        rw [← HW.out, ← HGG.out]
        refine wp_tail 14 (by kernel_rfl) (by kernel_rfl) ?_
        simp only [List.take_succ_cons, List.take_zero, List.drop_succ_cons, List.drop_zero]
        repeat still_step
        refine wpStill_nil ?_
        go_wp2_with fail
        go_ret2
        exact ⟨⟨fun hh => absurd hh HBAD.out, fun _ => rfl⟩, HB.out.drew⟩
      | none =>
        rw [show ptrOf ac pi = none from by unfold ptrOf; rw [hm]; rfl] at l1
        by_cases hok : custOk pi pl'
        · have K := hid (fun (w' : World) (h : IsBook w.heap.size w' X BA BH ac []) (hn : w.heap.size ≤ w'.heap.size) => customer_yes h hn pi pl' hok)
          have HH := hid (And.intro hz.drew hbz.drew)
          have HNEW := hid (fun g => (psC_new hG.out.2 hm) ▸ hG.out.2.cust (fun p hp => by cases hp) hok g)
          have HGOOD := hid (show GoodP pl k from fun p hp => by
            rw [hHP.out] at hp; injection hp with hp; subst hp
            exact ⟨hok, fun hin => by obtain ⟨a, ha⟩ := (psF_mem hG.out.2 pi).1 hin; rw [hm] at ha; cases ha⟩)
          clear hm hz hbz hG0 hok
          go_wp2_with fail
          rw [← HW.out, ← HGG.out]
          refine wp_tail 14 (by kernel_rfl) (by kernel_rfl) ?_
          simp only [List.take_succ_cons, List.take_zero, List.drop_succ_cons, List.drop_zero]
          repeat still_step
          refine wpStill_nil ?_
          go_wp2_with fail
          refine (K.out _ HH.out.1 HH.out.2.size).mono ?_
          rintro e w6 ⟨g6, rfl, _, h6, hT6⟩
          have hb6 := HH.out.2.trans (hT6.below HH.out.2.size (fun k hk => HH.out.1.own_low hk))
          clear K HH hT6 cA g0 g1 lX lG l1
          go_wp2_with fail
          go_roundw
          case rel => exact ⟨k + 1, _, by omega, by go_num, hid ⟨fun j hj => (Nat.lt_succ_iff_lt_or_eq.1 hj).elim (fun h => hG.out.1 j h) (fun e => by subst e; exact HGOOD.out), by
            have := HNEW.out g6
            unfold psF at this ⊢
            rw [insF_take hHP.out]
            exact this⟩, h6, hb6⟩
          case measure => simp [nOf]; omega
        · have K := hid (fun (w' : World) (h : IsBook w.heap.size w' X BA BH ac []) => customer_no h pi pl' hok)
          have HH := hid (And.intro hz.drew hbz.drew)
          have HBAD := hid (show ¬ Good pl hl from fun hh => hok (hh.1 k _ hHP.out).1)
          clear hm hz hbz hG0 hok
          go_wp2_with fail
          rw [← HW.out, ← HGG.out]
          refine wp_tail 14 (by kernel_rfl) (by kernel_rfl) ?_
          simp only [List.take_succ_cons, List.take_zero, List.drop_succ_cons, List.drop_zero]
          repeat still_step
          refine wpStill_nil ?_
          go_wp2_with fail
          refine (K.out _ HH.out.1).mono ?_
          rintro e w6 ⟨rfl, rfl⟩
          go_wp2_with fail
          go_ret2
          exact ⟨⟨fun hh => absurd hh HBAD.out, fun _ => rfl⟩, HH.out.2⟩
    · have hk' : k = pl.length := by omega
      subst hk'
      have hG2 : Hid ((∀ j, GoodP pl j) ∧ RelB ac [] (psF pl) []) := by
        refine hid ⟨fun j => ?_, ?_⟩
        · by_cases hj : j < pl.length
          · exact hG.out.1 j hj
          · intro p hp
            rw [List.getElem?_eq_none (by omega)] at hp
            cases hp
        · have := hG.out.2
          rw [List.take_length] at this
          exact this
      clear hG hk hlt
      go_wp2_with fail
      go_loopw [41] (fun i wr => ∃ (k : Nat) (ac : List (Int × Acc)) (hs : List (Int × Hd)), k ≤ hl.length ∧ i = .int .i64 k ∧ hs.length = k ∧ Hid ((∀ j, j < k → GoodD pl hl j) ∧ RelB ac hs (psF pl) (hrF (hl.take k))) ∧ IsBook w.heap.size wr X BA BH ac hs ∧ Below w.heap.size w wr) (fun i _ => hl.length - nOf i)
      case atStart => exact ⟨0, ac, [], Nat.zero_le _, rfl, rfl, hid ⟨fun j hj => by omega, hG2.out.2⟩, h, hb⟩
      case round =>
        clear h hb
        obtain ⟨k, ac, hs, hk, rfl, hlen, hG, h, hb⟩ := hrel
        have HLEN := hid hlen
        clear hlen
        by_cases hlt : k < hl.length
        · obtain ⟨d, hd⟩ : ∃ d, hl[k]? = some d := ⟨hl[k], List.getElem?_eq_getElem hlt⟩
          obtain ⟨b, off, hAA, hbs, hcc⟩ := (hR2.below hb).at_ 3 enH3_len (by omega) hd
          have hHD := hid hd
          obtain ⟨do', dc, da⟩ := d
          have q0 : wr.cell? ⟨b, off + k * 3, none⟩ = some (.int .i64 do') := hcc 0 _ rfl
          have q1 : wr.cell? ⟨b, off + k * 3 + 1, none⟩ = some (.int .i64 dc) := hcc 1 _ rfl
          have q2 : wr.cell? ⟨b, off + k * 3 + 2, none⟩ = some (.int .i64 da) := hcc 2 _ rfl
          have hwb : Below wr.heap.size wr (wr.alloc (.cells #[.int .i64 do', .int .i64 dc, .int .i64 da] 40)) := (Below.refl _ _).alloc (Nat.le_refl _) _
          have hG0 : Blk (wr.alloc (.cells #[.int .i64 do', .int .i64 dc, .int .i64 da] 40)) wr.heap.size 40 #[.int .i64 do', .int .i64 dc, .int .i64 da] := Blk.new _ _ _
          obtain ⟨wz, hwz⟩ : ∃ wz, wz = wr.alloc (.cells #[.int .i64 do', .int .i64 dc, .int .i64 da] 40) := ⟨_, rfl⟩
          obtain ⟨G, hGG⟩ : ∃ G, G = wr.heap.size := ⟨_, rfl⟩
          have HW := hid hwz
          have HGG := hid hGG
          have hz := h.next hwb
          have hbz := bthen hb hwb
          rw [← hwz, ← hGG] at hG0
          rw [← hwz] at hz hbz
          clear hcc hd hwb hwz hGG h hb
          have cA : wz.cell? ⟨X, 0, none⟩ = some (.map (some BA)) := hz.cellA
          have cH : wz.cell? ⟨X, 1, none⟩ = some (.map (some BH)) := hz.cellH
          have g0 : wz.cell? ⟨G, 0, none⟩ = some (.int .i64 do') := hG0.cell 0
          have g1 : wz.cell? ⟨G, 1, none⟩ = some (.int .i64 dc) := hG0.cell 1
          have g2 : wz.cell? ⟨G, 2, none⟩ = some (.int .i64 da) := hG0.cell 2
          have lX : X < wz.heap.size := hz.blk.lt
          have lG : G < wz.heap.size := hG0.lt
          have l1 := hz.drew.lookA dc
          subst hAA
          go_wp2_with fail
          rw [← HW.out, ← HGG.out]
          refine wp_tail 7 (by kernel_rfl) (by kernel_rfl) ?_
          simp only [List.take_succ_cons, List.take_zero, List.drop_succ_cons, List.drop_zero]
          repeat still_step
          refine wpStill_nil ?_
          go_wp2_with fail
          -- ROUND2
          obtain ⟨wv, hwv⟩ : ∃ wv, wv = wz.drew := ⟨_, rfl⟩
          have hz1 : IsBook w.heap.size wv X BA BH ac hs := by rw [hwv]; exact hz.drew
          have hG1 : Blk wv G 40 #[.int .i64 do', .int .i64 dc, .int .i64 da] := by rw [hwv]; exact hG0.next (below_drewN (Below.refl _ _) 1)
          have hbz1 : Below w.heap.size w wv := by rw [hwv]; exact hbz.drew
          rw [← hwv]
          clear hwv hz hG0 hbz cA cH g0 g1 g2 lX lG l1 q0 q1 q2 hbs HW HGG
          have cH : wv.cell? ⟨X, 1, none⟩ = some (.map (some BH)) := hz1.cellH
          have g0 : wv.cell? ⟨G, 0, none⟩ = some (.int .i64 do') := hG1.cell 0
          have lX : X < wv.heap.size := hz1.blk.lt
          have lG : G < wv.heap.size := hG1.lt
          have l2 := hz1.drew.lookH do'
          have l3 := IsBook.lookH (w := (wv.alloc (.cells #[.int .i64 0, .int .i64 0, .int .i64 0] 40)).drew) ((hz1.alloc (.cells #[.int .i64 0, .int .i64 0, .int .i64 0] 40)).drew) do'
          generalize hs0 : (mget hs do').getD ⟨0, 0, 0⟩ = d0 at l2 l3
          obtain ⟨y0, y1, y2⟩ := d0
          simp only [enH] at l2 l3
          clear hs0
          have hb3 : Below wv.heap.size wv ((wv.alloc (.cells #[.int .i64 y0, .int .i64 y1, .int .i64 y2] 40)).drew) := ((Below.refl _ _).alloc (Nat.le_refl _) _).drew
          have HH := hid (And.intro (hz1.next hb3) (And.intro (hG1.next hb3) (bthen hbz1 hb3)))
          clear hz1 hG1 hbz1 hb3
          go_upto_region 13 with fail
          go_cut [12, 13] (fun v u wx => u = .bool (mget hs do').isSome ∧ wx = (wv.alloc (.cells #[.int .i64 y0, .int .i64 y1, .int .i64 y2] 40)).drew)
          case first =>
            go_region
            all_goals (go_wp2_with fail)
            all_goals (go_meet; exact ⟨rfl, rfl⟩)
          case rest =>
            obtain ⟨rfl, hwx⟩ := hcut
            rw [hwx]
            clear hwx l2 l3 cH g0 lX lG
            obtain ⟨w3, hw3⟩ : ∃ w3, w3 = (wv.alloc (.cells #[.int .i64 y0, .int .i64 y1, .int .i64 y2] 40)).drew := ⟨_, rfl⟩
            obtain ⟨hz3, hG3, hbz3⟩ := HH.out
            rw [← hw3] at hz3 hG3 hbz3 ⊢
            clear hw3 HH
            go_wp2_with fail
            obtain ⟨C, hCd⟩ : ∃ C : World → Prop, ∀ w', C w' ↔ Below w3.heap.size w3 w' := ⟨_, fun _ => Iff.rfl⟩
            have hC : C w3.drew := (hCd _).2 ((Below.refl _ _).drew)
            have g0 : ∀ p : In C, p.w.cell? ⟨G, 0, none⟩ = some (.int .i64 do') := fun p => (hG3.next ((hCd _).1 p.h)).cell 0
            have g1 : ∀ p : In C, p.w.cell? ⟨G, 1, none⟩ = some (.int .i64 dc) := fun p => (hG3.next ((hCd _).1 p.h)).cell 1
            have g2 : ∀ p : In C, p.w.cell? ⟨G, 2, none⟩ = some (.int .i64 da) := fun p => (hG3.next ((hCd _).1 p.h)).cell 2
            have HK3 := hid (And.intro hz3 (And.intro hG3 hbz3))
            have HCd := hid hCd
            have HGD : Hid (GoodD pl hl k → (∃ a, mget ac dc = some a) ∧ mget hs do' = none ∧ 1 ≤ do' ∧ 0 ≤ da ∧ da ≤ 1125899906842624 ∧ ∀ a, mget ac dc = some a → a.e + da ≤ 1125899906842624) := hid (fun hh => by
              obtain ⟨b1, b2, b3, b4, b5, b6⟩ := hh _ hHD.out
              refine ⟨(psF_mem hG.out.2 dc).1 b1, ?_, b3, b4, b5, fun a ha => ?_⟩
              · cases hg : mget hs do' with
                | none => rfl
                | some v => exact absurd ((hrF_mem hG.out.2 do').2 (by rw [hg]; rfl)) b2
              · rw [← hrF_sum hG.out.2 ha]; exact b6)
            clear hCd hz3 hG3 hbz3
            cases hm : mget ac dc with
            | none =>
              rw [show ptrOf ac dc = none from by unfold ptrOf; rw [hm]; rfl]
              have HBAD := hid (show ¬ Good pl hl from fun hh => by obtain ⟨⟨a, ha⟩, _⟩ := HGD.out (hh.2 k); rw [hm] at ha; cases ha)
              clear hm
              refine wp_region_in C (by kernel_rfl) (by kernel_rfl) hC ?_
              intro hne
              clear hC
              repeat (first | go_big_quiet_step (fail) | quiet_step (fail))
              refine wpQuiet_nil ?_
              intro wq hq
              have hbq := (HCd.out _).1 hq
              clear g0 g1 g2 hne hq HCd 
              have HB := hid (bthen HK3.out.2.2 hbq)
              go_wp2_with fail
              go_ret2
              exact ⟨⟨fun hh => absurd hh HBAD.out, fun _ => rfl⟩, HB.out⟩
            | some a =>
              rw [show ptrOf ac dc = some ⟨a.g, 0, none⟩ from by unfold ptrOf; rw [hm]; rfl]
              have pe : ∀ p : In C, p.w.cell? ⟨a.g, 1, none⟩ = some (.int .i64 a.e) := fun p => ((HK3.out.1.next ((HCd.out _).1 p.h)).at_ hm).cell 1
              have hbe := hG.out.2.bd hm
              have HM := hid hm
              cases hn : mget hs do' with
              | some v =>
                have HBAD := hid (show ¬ Good pl hl from fun hh => by have := (HGD.out (hh.2 k)).2.1; rw [hn] at this; cases this)
                simp only [Option.isSome_some]
                clear hm hn pe hbe
                refine wp_region_in C (by kernel_rfl) (by kernel_rfl) hC ?_
                intro hne
                clear hC
                repeat (first | go_big_quiet_step (fail) | quiet_step (fail))
                refine wpQuiet_nil ?_
                intro wq hq
                have hbq := (HCd.out _).1 hq
                clear g0 g1 g2 hne hq HCd 
                have HB := hid (bthen HK3.out.2.2 hbq)
                go_wp2_with fail
                go_ret2
                exact ⟨⟨fun hh => absurd hh HBAD.out, fun _ => rfl⟩, HB.out⟩
              | none =>
                simp only [Option.isSome_none]
                have HN := hid hn
                obtain ⟨ag, al, ae⟩ := a
                simp only at pe hbe
                by_cases ho : 1 ≤ do'
                · have b1 : decide (do' < 1) = false := decide_eq_false (by omega)
                  by_cases hd1 : 0 ≤ da ∧ da ≤ 1125899906842624
                  · have hbe1 := hbe.1
                    have hbe2 := hbe.2
                    have hd2 := hd1.1
                    have hd3 := hd1.2
                    have hs1 : IntKind.i64.wrap (ae + da) = ae + da := IntWalk.i64_in _ ⟨by omega, by omega⟩
                    have E1 : Hid (∀ p : In C, Calls Try.prog 21 #[.int .i64 (da)] p.w fun e w' => e = .returned (.bool true) ∧ C w') := hid (fun p => (money_yes da p.w hd1.1 hd1.2).mono fun e w' ⟨h1, h2⟩ => ⟨h1, h2 ▸ p.h⟩)
                    by_cases hd4 : ae + da ≤ 1125899906842624
                    · have E2 : Hid (∀ p : In C, Calls Try.prog 21 #[.int .i64 (ae + da)] p.w fun e w' => e = .returned (.bool true) ∧ C w') := hid (fun p => (money_yes (ae + da) p.w (by omega) hd4).mono fun e w' ⟨h1, h2⟩ => ⟨h1, h2 ▸ p.h⟩)
                      have HGOOD := hid (show GoodD pl hl k from fun d hd => by
                        rw [hHD.out] at hd; injection hd with hd; subst hd
                        refine ⟨(psF_mem hG.out.2 dc).2 ⟨_, HM.out⟩, fun hin => ?_, ho, hd2, hd3, ?_⟩
                        · have := (hrF_mem hG.out.2 do').1 hin
                          rw [HN.out] at this; cases this
                        · rw [hrF_sum hG.out.2 HM.out]; exact hd4)
                      have HREL := hid (hG.out.2.put HM.out HN.out hd2 hd3 hd4)
                      have HLN := hid (show (mset hs do' (⟨do', dc, da⟩ : Hd)).length = k + 1 from by rw [mset_new HN.out, List.length_append, HLEN.out]; rfl)
                      have HP := hid (fun (w' : World) (h : IsBook w.heap.size w' X BA BH ac hs) => put_any h do' dc da ⟨ag, al, ae⟩ HM.out)
                      clear hm hn hbe ho hd1 hd4
                      refine wp_region_in C (by kernel_rfl) (by kernel_rfl) hC ?_
                      intro hne
                      clear hC
                      repeat (first | go_big_quiet_step (first | (go_at_call 21; with_reducible exact Calls.in_of (E1.out _)) | (go_at_call 21; with_reducible exact Calls.in_of (E2.out _))) | quiet_step (first | (go_at_call 21; with_reducible exact Calls.in_of (E1.out _)) | (go_at_call 21; with_reducible exact Calls.in_of (E2.out _))))
                      refine wpQuiet_nil ?_
                      intro wq hq
                      have hbq := (HCd.out _).1 hq
                      clear g0 g1 g2 hne hq HCd E1 E2
                      clear hs1 b1 pe hbe1 hbe2 hd2 hd3
                      have hzq := HK3.out.1.next hbq
                      have hbz := bthen HK3.out.2.2 hbq
                      have g0 : wq.cell? ⟨G, 0, none⟩ = some (.int .i64 do') := (HK3.out.2.1.next hbq).cell 0
                      have g1 : wq.cell? ⟨G, 1, none⟩ = some (.int .i64 dc) := (HK3.out.2.1.next hbq).cell 1
                      have g2 : wq.cell? ⟨G, 2, none⟩ = some (.int .i64 da) := (HK3.out.2.1.next hbq).cell 2
                      clear hbq HK3 HGD
                      go_wp2_with fail
                      refine (HP.out _ hzq).mono ?_
                      rintro e w6 ⟨rfl, h6, hT6⟩
                      have hb6 := hbz.trans (hT6.below hbz.size (fun k hk => hzq.own_low hk))
                      clear HP hT6 hzq hbz g0 g1 g2
                      go_wp2_with fail
                      go_roundw
                      case rel => exact ⟨k + 1, _, _, by omega, by go_num, HLN.out, hid ⟨fun j hj => (Nat.lt_succ_iff_lt_or_eq.1 hj).elim (fun h => hG.out.1 j h) (fun e => by subst e; exact HGOOD.out), by
                        have := HREL.out
                        unfold hrF at this ⊢
                        rw [insF_take hHD.out]
                        exact this⟩, h6, hb6⟩
                      case measure => simp [nOf]; omega
                    · have E2 : Hid (∀ p : In C, Calls Try.prog 21 #[.int .i64 (ae + da)] p.w fun e w' => e = .returned (.bool false) ∧ C w') := hid (fun p => (money_no (ae + da) p.w (by omega)).mono fun e w' ⟨h1, h2⟩ => ⟨h1, h2 ▸ p.h⟩)
                      have HBAD := hid (show ¬ Good pl hl from fun hh => hd4 ((HGD.out (hh.2 k)).2.2.2.2.2 _ HM.out))
                      clear hm hn hbe ho hd1 hd4
                      refine wp_region_in C (by kernel_rfl) (by kernel_rfl) hC ?_
                      intro hne
                      clear hC
                      repeat (first | go_big_quiet_step (first | (go_at_call 21; with_reducible exact Calls.in_of (E1.out _)) | (go_at_call 21; with_reducible exact Calls.in_of (E2.out _))) | quiet_step (first | (go_at_call 21; with_reducible exact Calls.in_of (E1.out _)) | (go_at_call 21; with_reducible exact Calls.in_of (E2.out _))))
                      refine wpQuiet_nil ?_
                      intro wq hq
                      have hbq := (HCd.out _).1 hq
                      clear g0 g1 g2 hne hq HCd E1 E2
                      have HB := hid (bthen HK3.out.2.2 hbq)
                      go_wp2_with fail
                      go_ret2
                      exact ⟨⟨fun hh => absurd hh HBAD.out, fun _ => rfl⟩, HB.out⟩
                  · have E1 : Hid (∀ p : In C, Calls Try.prog 21 #[.int .i64 (da)] p.w fun e w' => e = .returned (.bool false) ∧ C w') := hid (fun p => (money_no da p.w (by omega)).mono fun e w' ⟨h1, h2⟩ => ⟨h1, h2 ▸ p.h⟩)
                    have HBAD := hid (show ¬ Good pl hl from fun hh => hd1 ⟨(HGD.out (hh.2 k)).2.2.2.1, (HGD.out (hh.2 k)).2.2.2.2.1⟩)
                    clear hm hn hbe ho hd1
                    refine wp_region_in C (by kernel_rfl) (by kernel_rfl) hC ?_
                    intro hne
                    clear hC
                    repeat (first | go_big_quiet_step (first | (go_at_call 21; with_reducible exact Calls.in_of (E1.out _))) | quiet_step (first | (go_at_call 21; with_reducible exact Calls.in_of (E1.out _))))
                    refine wpQuiet_nil ?_
                    intro wq hq
                    have hbq := (HCd.out _).1 hq
                    clear g0 g1 g2 hne hq HCd E1
                    have HB := hid (bthen HK3.out.2.2 hbq)
                    go_wp2_with fail
                    go_ret2
                    exact ⟨⟨fun hh => absurd hh HBAD.out, fun _ => rfl⟩, HB.out⟩
                · have b1 : decide (do' < 1) = true := decide_eq_true (by omega)
                  have HBAD := hid (show ¬ Good pl hl from fun hh => ho (HGD.out (hh.2 k)).2.2.1)
                  clear hm hn hbe ho
                  refine wp_region_in C (by kernel_rfl) (by kernel_rfl) hC ?_
                  intro hne
                  clear hC
                  repeat (first | go_big_quiet_step (fail) | quiet_step (fail))
                  refine wpQuiet_nil ?_
                  intro wq hq
                  have hbq := (HCd.out _).1 hq
                  clear g0 g1 g2 hne hq HCd 
                  have HB := hid (bthen HK3.out.2.2 hbq)
                  go_wp2_with fail
                  go_ret2
                  exact ⟨⟨fun hh => absurd hh HBAD.out, fun _ => rfl⟩, HB.out⟩
        · have hk' : k = hl.length := by omega
          subst hk'
          have hG3 : Hid (Good pl hl ∧ RelB ac hs (psF pl) (hrF hl)) := by
            refine hid ⟨⟨hG2.out.1, fun j => ?_⟩, ?_⟩
            · by_cases hj : j < hl.length
              · exact hG.out.1 j hj
              · intro p hp
                rw [List.getElem?_eq_none (by omega)] at hp
                cases hp
            · have := hG.out.2
              rw [List.take_length] at this
              exact this
          have HH := hid (And.intro h hb)
          clear hG hk hlt h hb
          go_wp2_with fail
          go_ret2
          exact ⟨⟨fun _ => ⟨X, BA, BH, ac, hs, rfl, HH.out.1, hG3.out.2, HLEN.out⟩, fun hn => absurd hG3.out.1 hn⟩, HH.out.2⟩

end Go.Proofs.Ytpofhadeepgmbaa
