/-
  The document's Restore of timers, and the walk of TimersRestore.
-/
import Derived.Test.YthlpcbpilfakmaaTPlay
namespace Go.Proofs.Ythlpcbpilfakmaa
open Go.RowKit Go.WideShapes Go.ChangeShapes Go.ChangeAt Go.Deep
set_option linter.unusedVariables false

def RRest09 (l : List Tm) (w : World) (e : Ending) (w' : World) : Prop :=
  ((l.map keyT).Nodup → ∃ (r : List Tm) (A : Option Addr) (cap : Nat), e = .returned (.tuple #[.slice A r.length cap, .int .i64 0]) ∧ TRel (setAll l) r ∧ Rd w' A (r.flatMap en3) ∧ r.length ≤ l.length) ∧ (¬ (l.map keyT).Nodup → e = .returned (.tuple #[.slice none 0 0, .int .i64 30]))

set_option maxRecDepth 100000 in
set_option maxHeartbeats 16000000 in
theorem trrestore_any (l : List Tm) (A : Option Addr) (cp : Nat) (w : World) (hR : Rd w A (l.flatMap en3)) (hl : l.length * 24 + 24 ≤ 140737488355328) :
    Calls Try.prog 18 #[.slice A l.length cp] w fun e w' => RRest09 l w e w' ∧ Below w.heap.size w w' := by
  go_enter Try.func18, Try.ntmps18
  go_wp2_with fail
  go_loopw [4, 5] (fun v i wr => ∃ (k cap : Nat) (A1 : Option Addr) (r : List Tm), k ≤ l.length ∧ i = .int .i64 k ∧ v = .slice A1 r.length cap ∧ r.length ≤ k ∧ Hid (TRel (setAll (l.take k)) r ∧ ((l.take k).map keyT).Nodup) ∧ Rd wr A1 (r.flatMap en3) ∧ Below w.heap.size w wr) (fun _ i _ => l.length - (intOf i).toNat)
  case atStart => exact ⟨0, 0, none, [], Nat.zero_le _, rfl, rfl, Nat.le_refl _, hid ⟨TRel.nil, by simp⟩, .inl rfl, Below.refl _ _⟩
  case round =>
    obtain ⟨k, cap, A1, r, hk, rfl, rfl, hrk, hT, hF, hb⟩ := hrel
    by_cases hlt : k < l.length
    · obtain ⟨x, hx⟩ : ∃ x, l[k]? = some x := ⟨l[k], List.getElem?_eq_getElem hlt⟩
      have hR1 := hR.below hb
      obtain ⟨b, off, rfl, hbs, hcc⟩ := hR1.at_ 3 en3_len (by omega) hx
      have HS : Hid (l.take (k + 1) = l.take k ++ [x]) := hid (by rw [List.take_add_one, hx]; rfl)
      have hfd := hid (hT.out.1.find (x.o, x.s))
      obtain ⟨at0, hat0⟩ : ∃ at0, at0 = findT r (x.o, x.s) := ⟨_, rfl⟩
      have hcell : CellsAt wr b (off + k * 3) (en3 x) := ⟨hbs, hcc⟩
      obtain ⟨xd, xo, xs⟩ := x
      simp only at hat0 hfd
      obtain ⟨C, hCd⟩ : ∃ C : World → Prop, ∀ w', C w' ↔ (CellsAt w' b (off + k * 3) (en3 ⟨xd, xo, xs⟩) ∧ Rd w' A1 (r.flatMap en3) ∧ Below w.heap.size w w') := ⟨_, fun _ => Iff.rfl⟩
      have hK : ∀ w1 w2, C w1 → Below w1.heap.size w1 w2 → C w2 := fun w1 w2 h hb => by
        obtain ⟨a1, a2, a3⟩ := (hCd _).1 h
        exact (hCd _).2 ⟨a1.next hb, a2.below hb, bthen a3 hb⟩
      have hC : C wr.drew := hK _ _ ((hCd _).2 ⟨hcell, hF, hb⟩) (below_drewN (Below.refl _ _) 1)
      have g1 : ∀ p : In C, p.w.cell? ⟨b, off + k * 3 + 1, none⟩ = some (.int .i64 xo) := fun p => ((hCd _).1 p.h).1.2 1 _ rfl
      have g2 : ∀ p : In C, p.w.cell? ⟨b, off + k * 3 + 2, none⟩ = some (.int .i64 xs) := fun p => ((hCd _).1 p.h).1.2 2 _ rfl
      have O : Hid (∀ p : In C, Calls Try.prog 21 #[.slice A1 r.length cap, .int .i64 xo, .int .i64 xs] p.w fun e w' => e = .returned (.int .i64 at0) ∧ C w') := hid (fun p => by
        have := tfind_any r A1 cap xo xs p.w ((hCd _).1 p.h).2.1 (by omega)
        rw [← hat0] at this
        exact this.mono fun _ _ ⟨e1, e2⟩ => ⟨e1, by rw [← e2]; exact p.h⟩)
      rw [← hat0] at hfd
      have HCd := hid hCd
      clear hCd hK hcc hx hR1 hcell hF hb hat0
      go_wp2_with fail
      refine wp_region_in C (by kernel_rfl) (by kernel_rfl) hC ?_
      intro hne
      clear hC
      repeat (first | go_big_quiet_step ((go_at_call 21; exact Calls.in_of (O.out _))) | quiet_step ((go_at_call 21; exact Calls.in_of (O.out _))))
      refine wpQuiet_nil ?_
      intro wq hq
      obtain ⟨hcell, hF, hb⟩ := (HCd.out _).1 hq
      clear g1 g2 O hne hq HCd
      rcases hfd.out with ⟨kk, y, h1, h2, h3⟩ | ⟨h1, h3⟩
      · have hbad : Hid (¬ (l.map keyT).Nodup) := hid (fun hn => by
          have hn2 : ((l.take (k + 1)).map keyT).Nodup := (List.Sublist.map keyT (List.take_sublist _ _)).nodup hn
          rw [HS.out, List.map_append] at hn2
          have hin : (xo, xs) ∈ (setAll (l.take k)).map (·.1) := mget_isSome.1 (by rw [h3]; rfl)
          rw [setAll_map hT.out.2, List.map_map] at hin
          have hin2 : (xo, xs) ∈ (l.take k).map keyT := hin
          exact (List.nodup_append.1 hn2).2.2 _ hin2 _ (by simp [keyT]) rfl)
        subst h1
        clear h2 h3 hfd hcell hF
        go_wp2_with fail
        go_ret2
        exact ⟨⟨fun hn => absurd hn hbad.out, fun _ => rfl⟩, hb⟩
      · have hT2 : Hid (TRel (setAll (l.take (k + 1))) (insK id ltT (dropT r (xo, xs)) ⟨xd, xo, xs⟩) ∧ ((l.take (k + 1)).map keyT).Nodup) := hid (by
          refine ⟨by rw [HS.out, setAll_snoc]; exact hT.out.1.set_ xo xs xd, ?_⟩
          rw [HS.out, List.map_append]
          refine List.nodup_append.2 ⟨hT.out.2, by simp, fun p hp q hq e => ?_⟩
          simp only [List.map_cons, List.map_nil, List.mem_singleton] at hq
          subst hq
          subst e
          have hin : keyT ⟨xd, xo, xs⟩ ∈ (setAll (l.take k)).map (·.1) := by
            rw [setAll_map hT.out.2, List.map_map]
            exact hp
          obtain ⟨v, hv⟩ := mget_key hin
          simp only [keyT] at hv
          rw [h3] at hv
          cases hv)
        have hl2 : (insK id ltT (dropT r (xo, xs)) (⟨xd, xo, xs⟩ : Tm)).length ≤ k + 1 := by rw [insK_length]; have := dropT_le r (xo, xs); omega
        have S1 := hid (tset_ref r A1 cap xo xs xd wq.drew (hF.below (below_drewN (Below.refl _ _) 1)) (by omega) hT.out.1.sorted)
        have p0 : wq.cell? ⟨b, off + k * 3, none⟩ = some (.int .i64 xd) := hcell.2 0 _ rfl
        have p1 : wq.cell? ⟨b, off + k * 3 + 1, none⟩ = some (.int .i64 xo) := hcell.2 1 _ rfl
        have p2 : wq.cell? ⟨b, off + k * 3 + 2, none⟩ = some (.int .i64 xs) := hcell.2 2 _ rfl
        have hbD := hb.drew
        subst h1
        generalize insK id ltT (dropT r (xo, xs)) (⟨xd, xo, xs⟩ : Tm) = r2 at *
        clear h3 hfd hcell hF hb
        go_wp2_with fail
        refine wp_tail 16 (by kernel_rfl) (by kernel_rfl) ?_
        simp only [List.take_succ_cons, List.take_zero, List.drop_succ_cons, List.drop_zero]
        repeat still_step
        refine wpStill_nil ?_
        go_wp2_with fail
        refine S1.out.mono ?_
        rintro e w6 ⟨A6, c6, rfl, hO6, hb6⟩
        have hR6 := own_rd hO6
        have hb7 := bthen hbD hb6
        clear S1 hO6 hb6 hbD p0 p1 p2
        go_wp2_with fail
        go_roundw
        case rel => exact ⟨k + 1, c6, A6, r2, by omega, by go_num, rfl, hl2, hT2, hR6, hb7⟩
        case measure => simp [intOf]; omega
    · have hk' : k = l.length := by omega
      subst hk'
      have hT2 := hT.out
      rw [List.take_length] at hT2
      have HT2 := hid hT2
      clear hlt hk hT2 hT
      go_wp2_with fail
      go_ret2
      exact ⟨⟨fun _ => ⟨r, A1, cap, rfl, HT2.out.1, hF, hrk⟩, fun hn => absurd HT2.out.2 hn⟩, hb⟩

theorem tlist_nil (w : World) : Calls Try.prog 13 #[.pointer none] w fun e w' => e = .returned (.slice none 0 0) ∧ w = w' := by
  go_enter Try.func13, Try.ntmps13
  go_wp2_with fail
  go_ret
  exact ⟨rfl, rfl⟩
set_option maxHeartbeats 1000000 in
theorem tready_nil (w : World) : Calls Try.prog 14 #[.pointer none, .int .i64 9, .int .i64 9] w fun e w' => e = .returned (.slice none 0 0) ∧ Below w.heap.size w w' := by
  have BS := hid (bsearch_any [] none 0 9 w (.inl rfl) (by simp) List.Pairwise.nil)
  go_enter Try.func14, Try.ntmps14
  go_wp2_with fail
  refine (tlist_nil _).mono ?_
  rintro e w1 ⟨rfl, rfl⟩
  go_wp2_with fail
  refine BS.out.mono ?_
  rintro e w2 ⟨rfl, hb2⟩
  have hz : dueN [] 9 = 0 := rfl
  rw [hz]
  clear BS hz
  go_wp2_with fail
  go_ret
  exact ⟨rfl, hb2⟩

set_option maxRecDepth 100000 in
set_option maxHeartbeats 8000000 in
theorem timersRestore_walk (hS : SortsT) (es : List Tm) (AE : Option Addr) (ce : Nat) (l : List Quad) (A : Option Addr) (cp : Nat) (w : World) (hE : Rd w AE (es.flatMap en3)) (hR : Rd w A (l.flatMap en4)) (he : es.length ≤ 1048576) (hl : l.length ≤ 1048576) :
    Calls Try.prog 7 #[.slice AE es.length ce, .slice A l.length cp] w (Law w) := by
  obtain ⟨i0, hi, hz0, hz1, hz2⟩ := info_parts info_tm
  cases AE with
  | none =>
    have hes : es = [] := by
      rcases hE with h | ⟨b, off, h, _⟩
      · cases es with
        | nil => rfl
        | cons x xs => simp [en3] at h
      · cases h
    subst hes
    go_enter Try.func7, Try.ntmps7
    go_wp2_with fail
    refine (set_nil _ _ _ _).mono ?_
    rintro e w0 ⟨rfl, rfl⟩
    go_wp2_with fail
    refine (due_nil _ _ _).mono ?_
    rintro e w0 ⟨rfl, rfl⟩
    go_wp2_with fail
    refine (wakes_any hS _).mono ?_
    rintro e w1 ⟨rfl, hb⟩
    go_wp2_with fail
    refine (cancel_nil _ _ _).mono ?_
    rintro e w0 ⟨rfl, rfl⟩
    go_wp2_with fail
    refine (tready_nil _).mono ?_
    rintro e w9 ⟨rfl, hb9⟩
    replace hb := bthen hb hb9
    clear hb9
    go_wp2_with fail
    refine (tlist_nil _).mono ?_
    rintro e w0 ⟨rfl, rfl⟩
    have hE2 : Rd w9 none (([] : List Tm).flatMap en3) := .inl rfl
    have hb2 := hb
    go_wp2_with fail
    refine (trestore_any [] none 0 w9 hE2 (by first | omega | (simp <;> omega))).mono ?_
    rintro e w3 ⟨hP, hb3⟩
    have hb4 := bthen hb2 hb3
    have hE4 := hE.below hb4
    have hsz2 : w.heap.size ≤ w9.heap.size := hb2.size
    clear hE2 hb2
    have RF := hid (fun w hb => tref_any [] none ce w (hE4.below hb) (by first | omega | (simp <;> omega)))
    by_cases hg : (([] : List Tm).map keyT).Nodup
    · obtain ⟨X, B, rfl, hwB, hwX, htim⟩ := hP.1 hg
      have HG := hid hg
      have hwB0 : w.heap.size ≤ B := by omega
      clear hP hg hb3
      go_wp2_with fail
      refine (RF.out _ (Below.refl _ _)).mono ?_
      rintro e w5 ⟨A5, c5, rfl, hO5, hb5⟩
      have hR6 := own_rd hO5
      replace htim := htim.next hb5
      replace hb4 := bthen hb4 hb5
      clear RF hb5 hO5
      have RR := hid (trrestore_any [] A5 c5 w5 hR6 (by first | omega | (simp <;> omega)))
      go_wp2_with fail
      refine RR.out.mono ?_
      rintro e w6 ⟨hP6, hb6⟩
      obtain ⟨r, A7, c7, rfl, hT, hRr, hrl⟩ := hP6.1 HG.out
      have hrl2 : r.length ≤ 1048576 := by first | omega | (simp at hrl; omega)
      have hml : (setAll []).length * 24 ≤ 140737488351232 := by rw [← hT.len]; omega
      replace htim := htim.next hb6
      replace hb4 := bthen hb4 hb6
      clear RR hP6 hb6 hR6 hE4 hE hrl
      have LL := hid (tlist_any hS w6 htim hml)
      have HT := hid hT
      clear hT
      go_wp2_with fail
      refine LL.out.mono ?_
      rintro e w7 ⟨A8, c8, L8, rfl, hT8, hO8, hb8⟩
      have hL8 := hT8.unique HT.out
      subst hL8
      replace htim := htim.next hb8
      replace hb4 := bthen hb4 hb8
      have hRr2 := hRr.below hb8
      have SM := hid (tsame_any L8 A8 A7 c8 c7 w7 (own_rd hO8) hRr2 (by omega))
      clear LL hT8 hO8 hb8 hRr
      go_wp2_with fail
      refine SM.out.mono ?_
      rintro e w8 ⟨rfl, hb9⟩
      replace htim := htim.next hb9
      replace hb4 := bthen hb4 hb9
      have hRr3 := hRr2.below hb9
      clear SM hb9 hRr2
      have hPl := hid (tplay_any hS w l A cp hR (cap0 := c7) w8 htim hRr3 HT.out hb4 hwB0 (by omega))
      clear htim hRr3 hb4 hwB0 hb hR hwB hwX hsz2 hml
      go_wp2_with fail
      refine hPl.out.mono ?_
      rintro e w10 ⟨rfl, hb10⟩
      clear hPl
      go_wp2_with fail
      go_ret
      exact ⟨rfl, hb10⟩
    · obtain rfl := hP.2 hg
      have HG := hid hg
      clear hP hg hb3
      go_wp2_with fail
      refine (RF.out _ (Below.refl _ _)).mono ?_
      rintro e w5 ⟨A5, c5, rfl, hO5, hb5⟩
      have hR6 := own_rd hO5
      replace hb4 := bthen hb4 hb5
      clear RF hb5 hO5
      have RR := hid (trrestore_any [] A5 c5 w5 hR6 (by first | omega | (simp <;> omega)))
      go_wp2_with fail
      refine RR.out.mono ?_
      rintro e w6 ⟨hP6, hb6⟩
      obtain rfl := hP6.2 HG.out
      replace hb4 := bthen hb4 hb6
      clear RR hP6 hb6 hR6 hE4 hE
      go_wp2_with fail
      go_ret
      exact ⟨rfl, hb4⟩
  | some a =>
    go_enter Try.func7, Try.ntmps7
    go_wp2_with fail
    refine (set_nil _ _ _ _).mono ?_
    rintro e w0 ⟨rfl, rfl⟩
    go_wp2_with fail
    refine (due_nil _ _ _).mono ?_
    rintro e w0 ⟨rfl, rfl⟩
    go_wp2_with fail
    refine (wakes_any hS _).mono ?_
    rintro e w1 ⟨rfl, hb⟩
    go_wp2_with fail
    refine (cancel_nil _ _ _).mono ?_
    rintro e w0 ⟨rfl, rfl⟩
    go_wp2_with fail
    refine (tready_nil _).mono ?_
    rintro e w9 ⟨rfl, hb9⟩
    replace hb := bthen hb hb9
    clear hb9
    go_wp2_with fail
    refine (tlist_nil _).mono ?_
    rintro e w0 ⟨rfl, rfl⟩
    have hE1 := hE.below hb
    have hnews : ∀ j u, (es.flatMap en3)[j]? = some u → w9.cell? (a.add j) = some u := by
      intro j u hu
      rcases hE1 with h | ⟨b, off, h, hlt, hc⟩
      · rw [h] at hu; simp at hu
      · injection h with h
        subst h
        rw [add_plain]
        exact hc j u hu
    have hone : ∀ u ∈ es.flatMap en3, u.oneCell' = true := by
      intro u hu
      obtain ⟨x, _, hx⟩ := List.mem_flatMap.1 hu
      exact en3_one x u hx
    have hnl := length_flatMap_const en3 3 en3_len es
    have HH := hid (And.intro hnews (And.intro hone hnl))
    clear hnews hone hnl hE1
    go_wp2_with (first
      | (at_builtin; refine wpList_append_own _ rfl _ _ 28 rfl w9.heap.size 30 i0 _ 3 24 Try.underlying28 hi hz0 hz1 hz2 rfl (by decide) _ 0 [] (by rfl) (World.ownsRow_nil _ _ _ _) a es.length ce (es.flatMap en3) (by rfl) HH.out.2.2 HH.out.1 HH.out.2.1 (by unfold maxLen; omega) (by omega) (Nat.le_refl _) ?_; intro v' w2 hO2 hg2 _; obtain ⟨A2, c2, rfl, hE2⟩ : ∃ A2 c2, v' = .slice A2 es.length c2 ∧ Rd w2 A2 (es.flatMap en3) := (by rw [Nat.zero_add, List.nil_append] at hO2; exact own_slice hO2); have hb2 : Below w.heap.size w w2 := (bthen hb (by exact (Below.refl _ _).grown hg2 (Nat.le_refl _) (fun k hk => by simp [Value.ownBlock] at hk))); clear hO2 hg2 HH))
    refine (trestore_any es A2 c2 w2 hE2 (by first | omega | (simp <;> omega))).mono ?_
    rintro e w3 ⟨hP, hb3⟩
    have hb4 := bthen hb2 hb3
    have hE4 := hE.below hb4
    have hsz2 : w.heap.size ≤ w2.heap.size := hb2.size
    clear hE2 hb2
    have RF := hid (fun w hb => tref_any es (some a) ce w (hE4.below hb) (by first | omega | (simp <;> omega)))
    by_cases hg : ((es : List Tm).map keyT).Nodup
    · obtain ⟨X, B, rfl, hwB, hwX, htim⟩ := hP.1 hg
      have HG := hid hg
      have hwB0 : w.heap.size ≤ B := by omega
      clear hP hg hb3
      go_wp2_with fail
      refine (RF.out _ (Below.refl _ _)).mono ?_
      rintro e w5 ⟨A5, c5, rfl, hO5, hb5⟩
      have hR6 := own_rd hO5
      replace htim := htim.next hb5
      replace hb4 := bthen hb4 hb5
      clear RF hb5 hO5
      have RR := hid (trrestore_any es A5 c5 w5 hR6 (by first | omega | (simp <;> omega)))
      go_wp2_with fail
      refine RR.out.mono ?_
      rintro e w6 ⟨hP6, hb6⟩
      obtain ⟨r, A7, c7, rfl, hT, hRr, hrl⟩ := hP6.1 HG.out
      have hrl2 : r.length ≤ 1048576 := by first | omega | (simp at hrl; omega)
      have hml : (setAll es).length * 24 ≤ 140737488351232 := by rw [← hT.len]; omega
      replace htim := htim.next hb6
      replace hb4 := bthen hb4 hb6
      clear RR hP6 hb6 hR6 hE4 hE hrl
      have LL := hid (tlist_any hS w6 htim hml)
      have HT := hid hT
      clear hT
      go_wp2_with fail
      refine LL.out.mono ?_
      rintro e w7 ⟨A8, c8, L8, rfl, hT8, hO8, hb8⟩
      have hL8 := hT8.unique HT.out
      subst hL8
      replace htim := htim.next hb8
      replace hb4 := bthen hb4 hb8
      have hRr2 := hRr.below hb8
      have SM := hid (tsame_any L8 A8 A7 c8 c7 w7 (own_rd hO8) hRr2 (by omega))
      clear LL hT8 hO8 hb8 hRr
      go_wp2_with fail
      refine SM.out.mono ?_
      rintro e w8 ⟨rfl, hb9⟩
      replace htim := htim.next hb9
      replace hb4 := bthen hb4 hb9
      have hRr3 := hRr2.below hb9
      clear SM hb9 hRr2
      have hPl := hid (tplay_any hS w l A cp hR (cap0 := c7) w8 htim hRr3 HT.out hb4 hwB0 (by omega))
      clear htim hRr3 hb4 hwB0 hb hR hwB hwX hsz2 hml
      go_wp2_with fail
      refine hPl.out.mono ?_
      rintro e w10 ⟨rfl, hb10⟩
      clear hPl
      go_wp2_with fail
      go_ret
      exact ⟨rfl, hb10⟩
    · obtain rfl := hP.2 hg
      have HG := hid hg
      clear hP hg hb3
      go_wp2_with fail
      refine (RF.out _ (Below.refl _ _)).mono ?_
      rintro e w5 ⟨A5, c5, rfl, hO5, hb5⟩
      have hR6 := own_rd hO5
      replace hb4 := bthen hb4 hb5
      clear RF hb5 hO5
      have RR := hid (trrestore_any es A5 c5 w5 hR6 (by first | omega | (simp <;> omega)))
      go_wp2_with fail
      refine RR.out.mono ?_
      rintro e w6 ⟨hP6, hb6⟩
      obtain rfl := hP6.2 HG.out
      replace hb4 := bthen hb4 hb6
      clear RR hP6 hb6 hR6 hE4 hE
      go_wp2_with fail
      go_ret
      exact ⟨rfl, hb4⟩

end Go.Proofs.Ythlpcbpilfakmaa
