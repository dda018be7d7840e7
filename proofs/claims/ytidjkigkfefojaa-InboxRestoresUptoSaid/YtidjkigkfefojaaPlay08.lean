/-
  The walk of play and of InboxPlays.
-/
import Derived.Test.YtidjkigkfefojaaAlike08
import Derived.Deep.RegionHeld3
namespace Go.Proofs.Ytidjkigkfefojaa
open Go.RowKit Go.WideShapes Go.ChangeShapes Go.ChangeAt Go.Deep
set_option linter.unusedVariables false

/-- An inbox, the document's, a request's block. -/
structure Pl (w0 : World) (base X B R G cap : Nat) (A : Option Addr) (x : Req) (m : List ((Int × Int) × Ent)) (r : List Ent) (w : World) : Prop where
  box : IsBox w X B m
  ref : IsRef base w R A cap r
  blk : Blk w G 37 (enR x).toArray
  bel : Below w0.heap.size w0 w
  bw : base ≤ w.heap.size
  xb : X < base ∧ B < base ∧ X ≠ R ∧ B ≠ R

section
variable {w0 w w' : World} {base X B R G cap : Nat} {A : Option Addr} {x : Req} {m : List ((Int × Int) × Ent)} {r : List Ent}
theorem Pl.next (h : Pl w0 base X B R G cap A x m r w) (hb : Below w.heap.size w w') : Pl w0 base X B R G cap A x m r w' :=
  ⟨h.box.next hb, h.ref.next hb, h.blk.next hb, bthen h.bel hb, Nat.le_trans h.bw hb.size, h.xb⟩
theorem own_notBlk {base : Nat} {e t : TypeId} {size n : Nat} {v : Value} {xs : List Value} {g : Nat} {cs : Array Value} (h : w.ownsRow base e size v n xs) (hb : Blk w g t cs) (hne : e ≠ t) : v.ownBlock ≠ some g := by
  intro he
  rcases h.2 with ⟨rfl, _⟩ | ⟨g', cap, cur, rfl, _, hh, _⟩
  · simp [Value.ownBlock] at he
  · have : g' = g := by simpa [Value.ownBlock] using he
    subst this
    unfold Blk at hb
    rw [hh] at hb
    injection hb with hb
    injection hb with _ hb _
    exact hne hb
theorem Pl.keptX {m' : List ((Int × Int) × Ent)} (h : Pl w0 base X B R G cap A x m r w) (hx : IsBox w' X B m') (hg : w.grownBy w' (some B)) (hB : w0.heap.size ≤ B) : Pl w0 base X B R G cap A x m' r w' :=
  ⟨hx, ⟨(Touch.of_grown hg).blk h.ref.blk (fun e => h.xb.2.2.2 e.symm), h.ref.own.kept hg (.inr (fun e => by have := (h.ref.own.lt B e).1; have := h.xb.2.1; omega)), h.ref.lt⟩,
    (Touch.of_grown hg).blk h.blk (fun e => h.box.2.notBlk h.blk e.symm), h.bel.trans (grown_below hg h.bel.size hB), Nat.le_trans h.bw hg.size, h.xb⟩
theorem Pl.keptR {A' : Option Addr} {cap' : Nat} {r' : List Ent} (h : Pl w0 base X B R G cap A x m r w) (hr : IsRef base w' R A' cap' r') (ht : Touch (RT w.heap.size R A) w w') (hR : w0.heap.size ≤ R) (hb0 : w0.heap.size ≤ base) : Pl w0 base X B R G cap' A' x m r' w' := by
  have hA : ∀ k, A.map (·.block) = some k → base ≤ k := fun k hk => by
    refine (h.ref.own.lt k ?_).1
    cases A with
    | none => simp at hk
    | some a => simpa [Value.ownBlock] using hk
  have no : ∀ k, k < base → k ≠ R → ¬ RT w.heap.size R A k := fun k hk hne e => by
    rcases e with e | e | e
    · exact hne e
    · have := hA k e; omega
    · have := h.bw; omega
  have hx := no X h.xb.1 h.xb.2.2.1
  have hB := no B h.xb.2.1 h.xb.2.2.2
  have hG : ¬ RT w.heap.size R A G := fun e => by
    rcases e with e | e | e
    · subst e; exact (h.blk.ne_ h.ref.blk (by decide)) rfl
    · refine own_notBlk h.ref.own h.blk (by decide) ?_
      cases A with
      | none => simp at e
      | some a => simpa [Value.ownBlock] using e
    · have := h.blk.lt; omega
  refine ⟨⟨ht.blk h.box.1 hx, ht.isMap h.box.2 hB⟩, hr, ht.blk h.blk hG, h.bel.trans (ht.below h.bel.size (fun k hk => ?_)), Nat.le_trans h.bw ht.size, h.xb⟩
  rcases hk with e | e | e
  · omega
  · have := hA k e; omega
  · have := h.bel.size; omega
theorem Pl.cells (h : Pl w0 base X B R G cap A x m r w) : w.cell? ⟨G, 0, none⟩ = some (.int .i64 x.o) ∧ w.cell? ⟨G, 1, none⟩ = some (.int .i64 x.s) ∧ w.cell? ⟨G, 2, none⟩ = some (.int .i64 x.t) ∧ w.cell? ⟨G, 3, none⟩ = some (.int .i64 x.c) ∧ w.cell? ⟨G, 4, none⟩ = some (.bool x.u) ∧ w.cell? ⟨G, 5, none⟩ = some (.bool x.k) :=
  ⟨by rw [h.blk.cell]; rfl, by rw [h.blk.cell]; rfl, by rw [h.blk.cell]; rfl, by rw [h.blk.cell]; rfl, by rw [h.blk.cell]; rfl, by rw [h.blk.cell]; rfl⟩
end

theorem keepL_length (r : List Ent) (o s t : Int) (u : Bool) (c : Int) : (keepL r o s t u c).length ≤ r.length + 1 := by
  have := posK_le (key := keyE) (lt := ltP) r (o, s)
  unfold keepL
  split
  · split
    · simp
    · simp; omega
  · omega

set_option maxRecDepth 100000 in
set_option maxHeartbeats 16000000 in
theorem play_any (hS : SortsAt Try.prog 24 (.func (.func 25) #[] #[]) enE5 5 ltE)
    (w0 : World) (l : List Req) (A0 : Option Addr) (cp : Nat) (hR0 : Rd w0 A0 (l.flatMap enR)) {base X B R cap : Nat} {A : Option Addr} {m : List ((Int × Int) × Ent)} {r : List Ent} (w : World)
    (hbox : IsBox w X B m) (href : IsRef base w R A cap r) (hM : RelM m r) (hb : Below w0.heap.size w0 w) (hbw : base ≤ w.heap.size) (hxb : X < base ∧ B < base ∧ X ≠ R ∧ B ≠ R) (h0B : w0.heap.size ≤ B) (h0R : w0.heap.size ≤ R) (h0b : w0.heap.size ≤ base) (hlen : (r.length + l.length) * 40 ≤ 140737488351232) :
    Calls Try.prog 15 #[.pointer (some ⟨X, 0, none⟩), .pointer (some ⟨R, 0, none⟩), .slice A0 l.length cp] w fun e w' => e = .returned (.bool true) ∧ Below w0.heap.size w0 w' := by
  have HI := hid (And.intro hbox (And.intro href (And.intro hM hb)))
  clear hbox href hM hb
  have hn0 := r.length
  obtain ⟨n0, hn0⟩ : ∃ n0, n0 = r.length := ⟨_, rfl⟩
  rw [← hn0] at hlen
  have HN := hid hn0
  clear hn0
  go_enter Try.func15, Try.ntmps15
  go_wp2_with fail
  go_loopw [15] (fun i wr => ∃ (k cap : Nat) (A : Option Addr) (m : List ((Int × Int) × Ent)) (r : List Ent), k ≤ l.length ∧ i = .int .i64 k ∧ r.length ≤ n0 + k ∧ Hid (RelM m r) ∧ IsBox wr X B m ∧ IsRef base wr R A cap r ∧ Below w0.heap.size w0 wr ∧ base ≤ wr.heap.size) (fun i _ => l.length - (intOf i).toNat)
  case atStart => exact ⟨0, cap, A, m, r, Nat.zero_le _, rfl, by rw [HN.out]; exact Nat.le_refl _, hid HI.out.2.2.1, HI.out.1, HI.out.2.1, HI.out.2.2.2, hbw⟩
  case round =>
    clear HI HN hbw
    obtain ⟨k, cap, A, m, r, hk, rfl, hrl, hM, hX, hF, hb, hbw⟩ := hrel
    by_cases hlt : k < l.length
    · obtain ⟨x, hx⟩ : ∃ x, l[k]? = some x := ⟨l[k], List.getElem?_eq_getElem hlt⟩
      have hR1 := hR0.below hb
      obtain ⟨b, off, e0, hbs, hcc⟩ := hR1.at_ 6 enR_len (by omega) hx
      obtain ⟨xo, xs, xt, xc, xu, xk⟩ := x
      have q0 : wr.cell? ⟨b, off + k * 6, none⟩ = some (.int .i64 xo) := hcc 0 _ rfl
      have q1 : wr.cell? ⟨b, off + k * 6 + 1, none⟩ = some (.int .i64 xs) := hcc 1 _ rfl
      have q2 : wr.cell? ⟨b, off + k * 6 + 2, none⟩ = some (.int .i64 xt) := hcc 2 _ rfl
      have q3 : wr.cell? ⟨b, off + k * 6 + 3, none⟩ = some (.int .i64 xc) := hcc 3 _ rfl
      have q4 : wr.cell? ⟨b, off + k * 6 + 4, none⟩ = some (.bool xu) := hcc 4 _ rfl
      have q5 : wr.cell? ⟨b, off + k * 6 + 5, none⟩ = some (.bool xk) := hcc 5 _ rfl
      clear hcc hx hR1
      have hl1 : r.length * 40 + 40 ≤ 140737488355328 := by omega
      have hl2 : r.length * 40 ≤ 140737488351232 := by omega
      have hW : Pl w0 base X B R wr.heap.size cap A ⟨xo, xs, xt, xc, xu, xk⟩ m r (wr.alloc (.cells #[.int .i64 xo, .int .i64 xs, .int .i64 xt, .int .i64 xc, .bool xu, .bool xk] 37)) :=
        ⟨hX.alloc _, hF.next ((Below.refl _ _).alloc (Nat.le_refl _) _), Blk.new _ _ _, hb.alloc hb.size _, by simp; omega, hxb⟩
      clear hX hF hb
      subst e0
      have A1 := fun w h => ask_any X B m xo xs xt xu w h
      have A2 := fun w h => rask_any (base := base) (R := R) (cap := cap) (A := A) (r := r) xo xs xt xu w h (by omega)
      rw [hM.out.ent] at A2
      have K1 := fun w h => keep_any X B m xo xs xt xc xu w h
      have K2 := fun w h => rkeep_any (base := base) (R := R) (cap := cap) (A := A) (r := r) xo xs xt xu xc w h hl1
      unfold KeepPost at K2
      rw [keepR_same hM.out] at K2
      have hM2 := hid (hM.out.keep xo xs xt xu xc)
      have hrl2 := keepL_length r xo xs xt xu xc
      generalize (askF (entAt m (xo, xs)) xt xu).1 = v at A1 A2
      generalize (askF (entAt m (xo, xs)) xt xu).2 = c at A1 A2
      generalize keepR m xo xs xt xu = kr at K1 K2
      generalize keepM m xo xs xt xu xc = m2 at K1 hM2
      generalize keepL r xo xs xt xu xc = r2 at K2 hM2 hrl2
      replace A1 := hid A1
      replace A2 := hid A2
      replace K1 := hid K1
      replace K2 := hid K2
      obtain ⟨G, hGG⟩ : ∃ G, G = wr.heap.size := ⟨_, rfl⟩
      rw [← hGG] at hW
      have HG := hid hGG
      clear hGG
      go_wp2_with fail
      refine (A1.out _ hW.box).mono ?_
      rintro e w5 ⟨rfl, hb5⟩
      replace hW := hW.next hb5
      clear hb5 A1 q0 q1 q2 q3 q4 q5 hbs
      obtain ⟨d0, d1, d2, d3, d4, d5⟩ := hW.cells
      rw [← HG.out]
      go_wp2_with fail
      refine (A2.out _ hW.ref).mono ?_
      rintro e w6 ⟨rfl, hb5⟩
      replace hW := hW.next hb5
      clear hb5 A2 d0 d1 d2 d3 d4 d5
      have s1 : (v != v) = false := by simp
      have s2 : (c != c) = false := by simp
      have s3 : (kr != kr) = false := by simp
      cases xk with
      | true =>
        go_wp2_with fail
        replace hW := hW.next (below_drewN (Below.refl _ _) 1)
        replace hW : Pl w0 base X B R G cap A ⟨xo, xs, xt, xc, xu, true⟩ m r w6.drew := hW
        go_region_held3 (fun w' => w'.cell? ⟨G, 0, none⟩ = some (.int .i64 xo) ∧ w'.cell? ⟨G, 1, none⟩ = some (.int .i64 xs) ∧ w'.cell? ⟨G, 2, none⟩ = some (.int .i64 xt) ∧ w'.cell? ⟨G, 3, none⟩ = some (.int .i64 xc) ∧ w'.cell? ⟨G, 4, none⟩ = some (.bool xu) ∧ w'.cell? ⟨G, 5, none⟩ = some (.bool true))
          (exact Pl.cells (by assumption))
          (first
            | (go_at_call 12; refine (K1.out _ hW.box).mono ?_; rintro e w7 ⟨rfl, h5, hg⟩; have hW7 := hW.keptX h5 hg h0B; clear h5 hg hW)
            | (go_at_call 22; refine (K2.out _ hW7.ref hW7.bw).mono ?_; rintro e w8 ⟨A8, cap8, rfl, h5, ht⟩; have hW8 := hW7.keptR h5 ht h0R h0b; clear h5 ht hW7))
        all_goals
          have hWW := hW8
          clear hW8 K1 K2
          go_wp2_with fail
          obtain ⟨C, hCd⟩ : ∃ C : World → Prop, C = (Pl w0 base X B R G cap8 A8 ⟨xo, xs, xt, xc, xu, true⟩ m2 r2) := ⟨_, rfl⟩
          have hCi : ∀ w', C w' → Pl w0 base X B R G cap8 A8 ⟨xo, xs, xt, xc, xu, true⟩ m2 r2 w' := fun w' h => by rw [hCd] at h; exact h
          have hCo : ∀ w', Pl w0 base X B R G cap8 A8 ⟨xo, xs, xt, xc, xu, true⟩ m2 r2 w' → C w' := fun w' h => by rw [hCd]; exact h
          clear hCd
          have hC := hCo _ (hWW.next (below_drewN (Below.refl _ _) 1))
          have D1 := fun w h => done_any X B m2 xo xs w h
          have D2 := fun w h => rdone_any (base := base) (R := R) (cap := cap8) (A := A8) (r := r2) xo xs w h (by omega)
          rw [hM2.out.ent] at D2
          generalize doneF (entAt m2 (xo, xs)) = dn at D1 D2
          have hdn : (dn != dn) = false := by simp
          have E0 : Hid (∀ p : In C, Calls Try.prog 20 #[.pointer (some ⟨X, 0, none⟩), .pointer (some ⟨R, 0, none⟩)] p.w fun e w' => e = .returned (.bool true) ∧ C w') := hid (fun p => (alike_any hS p.w (hCi _ p.h).box (hCi _ p.h).ref hM2.out (by omega)).mono fun _ _ ⟨e1, e2⟩ => ⟨e1, hCo _ ((hCi _ p.h).next e2)⟩)
          have E1 : Hid (∀ p : In C, Calls Try.prog 13 #[.pointer (some ⟨X, 0, none⟩), .int .i64 xo, .int .i64 xs] p.w fun e w' => e = .returned (.bool dn) ∧ C w') := hid (fun p => (D1 _ (hCi _ p.h).box).mono fun _ _ ⟨e1, e2⟩ => ⟨e1, hCo _ ((hCi _ p.h).next e2)⟩)
          have E2 : Hid (∀ p : In C, Calls Try.prog 23 #[.pointer (some ⟨R, 0, none⟩), .int .i64 xo, .int .i64 xs] p.w fun e w' => e = .returned (.bool dn) ∧ C w') := hid (fun p => (D2 _ (hCi _ p.h).ref).mono fun _ _ ⟨e1, e2⟩ => ⟨e1, hCo _ ((hCi _ p.h).next e2)⟩)
          have g0 : ∀ p : In C, p.w.cell? ⟨G, 0, none⟩ = some (.int .i64 xo) := fun p => (hCi _ p.h).cells.1
          have g1 : ∀ p : In C, p.w.cell? ⟨G, 1, none⟩ = some (.int .i64 xs) := fun p => (hCi _ p.h).cells.2.1
          clear D1 D2 hCo hWW
          refine wp_region_in C (by kernel_rfl) (by kernel_rfl) hC ?_
          intro hne
          clear hC
          repeat (first | go_big_quiet_step (first | (go_at_call 20; exact Calls.in_of (E0.out _)) | (go_at_call 13; exact Calls.in_of (E1.out _)) | (go_at_call 23; exact Calls.in_of (E2.out _))) | quiet_step (first | (go_at_call 20; exact Calls.in_of (E0.out _)) | (go_at_call 13; exact Calls.in_of (E1.out _)) | (go_at_call 23; exact Calls.in_of (E2.out _))))
          refine wpQuiet_nil ?_
          intro wq hq
          have hWq := hCi _ hq
          clear g0 g1 E0 E1 E2 hne hq hCi
          go_wp2_with fail
          go_roundw
          case rel => exact ⟨k + 1, _, _, _, _, by omega, by go_num, by omega, hM2, hWq.box, hWq.ref, hWq.bel, hWq.bw⟩
          case measure => simp [intOf]; omega
      | false =>
        obtain ⟨d0, d1, d2, d3, d4, d5⟩ := hW.cells
        go_wp2_with fail
        go_quiet (fail)
        have hWW := hW.next (below_drewN (Below.refl _ _) nq)
        clear hW K1 K2 d0 d1 d2 d3 d4 d5
        go_wp2_with fail
        obtain ⟨C, hCd⟩ : ∃ C : World → Prop, C = (Pl w0 base X B R G cap A ⟨xo, xs, xt, xc, xu, false⟩ m r) := ⟨_, rfl⟩
        have hCi : ∀ w', C w' → Pl w0 base X B R G cap A ⟨xo, xs, xt, xc, xu, false⟩ m r w' := fun w' h => by rw [hCd] at h; exact h
        have hCo : ∀ w', Pl w0 base X B R G cap A ⟨xo, xs, xt, xc, xu, false⟩ m r w' → C w' := fun w' h => by rw [hCd]; exact h
        clear hCd
        have hC := hCo _ (hWW.next (below_drewN (Below.refl _ _) 1))
        have D1 := fun w h => done_any X B m xo xs w h
        have D2 := fun w h => rdone_any (base := base) (R := R) (cap := cap) (A := A) (r := r) xo xs w h (by omega)
        rw [hM.out.ent] at D2
        generalize doneF (entAt m (xo, xs)) = dn at D1 D2
        have hdn : (dn != dn) = false := by simp
        have E0 : Hid (∀ p : In C, Calls Try.prog 20 #[.pointer (some ⟨X, 0, none⟩), .pointer (some ⟨R, 0, none⟩)] p.w fun e w' => e = .returned (.bool true) ∧ C w') := hid (fun p => (alike_any hS p.w (hCi _ p.h).box (hCi _ p.h).ref hM.out (by omega)).mono fun _ _ ⟨e1, e2⟩ => ⟨e1, hCo _ ((hCi _ p.h).next e2)⟩)
        have E1 : Hid (∀ p : In C, Calls Try.prog 13 #[.pointer (some ⟨X, 0, none⟩), .int .i64 xo, .int .i64 xs] p.w fun e w' => e = .returned (.bool dn) ∧ C w') := hid (fun p => (D1 _ (hCi _ p.h).box).mono fun _ _ ⟨e1, e2⟩ => ⟨e1, hCo _ ((hCi _ p.h).next e2)⟩)
        have E2 : Hid (∀ p : In C, Calls Try.prog 23 #[.pointer (some ⟨R, 0, none⟩), .int .i64 xo, .int .i64 xs] p.w fun e w' => e = .returned (.bool dn) ∧ C w') := hid (fun p => (D2 _ (hCi _ p.h).ref).mono fun _ _ ⟨e1, e2⟩ => ⟨e1, hCo _ ((hCi _ p.h).next e2)⟩)
        have g0 : ∀ p : In C, p.w.cell? ⟨G, 0, none⟩ = some (.int .i64 xo) := fun p => (hCi _ p.h).cells.1
        have g1 : ∀ p : In C, p.w.cell? ⟨G, 1, none⟩ = some (.int .i64 xs) := fun p => (hCi _ p.h).cells.2.1
        clear D1 D2 hCo hWW
        refine wp_region_in C (by kernel_rfl) (by kernel_rfl) hC ?_
        intro hne
        clear hC
        repeat (first | go_big_quiet_step (first | (go_at_call 20; exact Calls.in_of (E0.out _)) | (go_at_call 13; exact Calls.in_of (E1.out _)) | (go_at_call 23; exact Calls.in_of (E2.out _))) | quiet_step (first | (go_at_call 20; exact Calls.in_of (E0.out _)) | (go_at_call 13; exact Calls.in_of (E1.out _)) | (go_at_call 23; exact Calls.in_of (E2.out _))))
        refine wpQuiet_nil ?_
        intro wq hq
        have hWq := hCi _ hq
        clear g0 g1 E0 E1 E2 hne hq hCi
        go_wp2_with fail
        go_roundw
        case rel => exact ⟨k + 1, _, _, _, _, by omega, by go_num, by omega, hM, hWq.box, hWq.ref, hWq.bel, hWq.bw⟩
        case measure => simp [intOf]; omega
    · clear hk
      go_wp2_with fail
      go_ret
      exact ⟨rfl, hb⟩

end Go.Proofs.Ytidjkigkfefojaa
